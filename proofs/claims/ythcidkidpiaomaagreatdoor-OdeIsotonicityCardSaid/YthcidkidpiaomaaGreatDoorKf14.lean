/- OeD FxM FxS OeQ OcB -/
import Derived.Lib.Hide
import Derived.Lib.BitFns
import Derived.Deep.LoopGhost
import Derived.WalkMore
import Derived.Outline
import Derived.Test.YthcidkidpiaomaaGreatDoorKf13
import Derived.Test.YthcidkidpiaomaaGreatDoorKf01
import Derived.Test.YthcidkidpiaomaaGreatDoorKf02
import Derived.Test.YthcidkidpiaomaaGreatDoorKf11
import Derived.Test.YthcidkidpiaomaaGreatDoorKf08
section
set_option linter.unusedVariables false
set_option linter.unusedSimpArgs false
namespace Go.Proofs.YthcidkidpiaomaaGreatDoor.Od
open Go.RowKit Rg
structure Fs (w : World) (v : Value) (fs : List (List Nd)) : Prop where
  out : (fs = [] ∧ ∃ ao c, v = .slice ao 0 c) ∨ ∃ (b o c : Nat) (us : List Value), v = .slice (some ⟨b, o, none⟩) fs.length c ∧ us.length = fs.length ∧ (∀ (j : Nat) (u : Value), us[j]? = some u → w.cell? ⟨b, o + j, none⟩ = some u) ∧
    ∀ (j : Nat) (u : Value) (e : List Nd), us[j]? = some u → fs[j]? = some e → RdN w u e
  few : fs.length ≤ 90000
theorem Fs.below {w w' : World} {v : Value} {fs : List (List Nd)} (h : Fs w v fs) (hb : Below w.heap.size w w') : Fs w' v fs := by
  refine ⟨?_, h.few⟩
  rcases h.out with h0 | ⟨b, o, c, us, hv, hl, hc, hr⟩
  · exact Or.inl h0
  · exact Or.inr ⟨b, o, c, us, hv, hl, fun j u hu => by rw [hb.cell (World.block_lt_of_cell? w _ (hc j u hu))]; exact hc j u hu, fun j u e hu he => (hr j u e hu he).below hb⟩
theorem Fs.slice {w : World} {v : Value} {fs : List (List Nd)} (h : Fs w v fs) : ∃ ao c, v = .slice ao fs.length c := by
  rcases h.out with ⟨rfl, ao, c, hv⟩ | ⟨b, o, c, us, hv, -⟩
  · exact ⟨ao, c, hv⟩
  · exact ⟨_, c, hv⟩
theorem okNames_cons (x : List UInt8) (r seen : List (List UInt8)) : okNames (x :: r) seen = (okName x && !seen.contains x && okNames r (seen ++ [x])) := rfl
theorem strL_drop (xs : List ByteArray) (i : Nat) (h : i < xs.length) : (strL xs).drop i = xs[i].data.toList :: (strL xs).drop (i + 1) := by
  unfold strL
  rw [← List.map_drop, ← List.map_drop, List.drop_eq_getElem_cons h]; rfl
theorem strL_take (xs : List ByteArray) (i : Nat) (h : i < xs.length) : (strL xs).take (i + 1) = (strL xs).take i ++ [xs[i].data.toList] := by
  unfold strL
  rw [List.take_add_one, List.getElem?_map, List.getElem?_eq_getElem h]; rfl
theorem Strs.take {w : World} {b off c : Nat} {xs : List ByteArray} (hc : ∀ j, j < xs.length → w.cell? ⟨b, off + j, none⟩ = some (.string xs[j]!)) (i : Nat) (hi : i ≤ xs.length) (hcap : i ≤ c) (hf : xs.length ≤ 90000) : Strs w (.slice (some ⟨b, off, none⟩) i c) (xs.take i) := by
  have hl : (xs.take i).length = i := by rw [List.length_take]; omega
  refine ⟨Or.inr ⟨b, off, c, by rw [hl], by rw [hl]; exact hcap, fun j hj => ?_⟩, by omega⟩
  rw [hl] at hj
  rw [hc j (by omega)]
  congr 2
  rw [getElem!_pos xs j (by omega), getElem!_pos (xs.take i) j (by omega), List.getElem_take]
set_option maxRecDepth 100000 in
set_option maxHeartbeats 8000000 in
theorem Valid_any (vn vf : Value) (xs : List ByteArray) (fs : List (List Nd)) (w : World) (hn : Strs w vn xs) (hf : Fs w vf fs) :
    Calls Tryz.prog 16 #[.agg #[vn, vf]] w fun e w' => e = .returned (.bool (okSys (strL xs) fs)) ∧ Below w.heap.size w w' := by
  have HV : Aside (okSys (strL xs) fs = (decide (1 ≤ (strL xs).length) && decide ((strL xs).length ≤ 6) && decide (fs.length = (strL xs).length) && okNames (strL xs) [] && fs.all (okEx (strL xs).length))) := ⟨rfl⟩
  have hsl : (strL xs).length = xs.length := by unfold strL; rw [List.length_map]
  rw [hsl] at HV
  obtain ⟨ao, c, hvn⟩ := hn.slice
  obtain ⟨ao', c', hvf⟩ := hf.slice
  obtain ⟨N, hN⟩ : ∃ N, xs.length = N := ⟨_, rfl⟩
  obtain ⟨M, hM⟩ : ∃ M, fs.length = M := ⟨_, rfl⟩
  have HN := Aside.mk hn
  have HFS := Aside.mk hf
  have HNL := Aside.mk hN
  have HML := Aside.mk hM
  have HSL := Aside.mk hsl
  rw [hN] at HV hvn
  rw [hM] at HV hvf
  clear hn hf hN hM hsl
  have hal : Below w.heap.size w (w.alloc (.cells #[vn, vf] 25)) := (Below.refl _ _).alloc (Nat.le_refl _) _
  have HR := Aside.mk (heap_alloc_last w (.cells #[vn, vf] 25))
  have HB := Aside.mk hal
  clear hal
  by_cases h1 : N < 1
  · have h1' : (N : Int) < 1 := by omega
    have d1 : decide ((N : Int) < 1) = true := by simpa using h1'
    have HV : Aside (okSys (strL xs) fs = false) := ⟨by rw [HV.out, show decide (1 ≤ N) = false by simpa using h1]; rfl⟩
    subst hvn hvf
    go_enter Tryz.func16, Tryz.ntmps16
    go_wp2_with fail
    go_ret
    rw [HV.out]
    exact ⟨rfl, HB.out⟩
  · have h1' : ¬ ((N : Int) < 1) := by omega
    have d1 : decide ((N : Int) < 1) = false := by simpa using h1'
    by_cases h6 : N ≤ 6
    · have h6' : ¬ ((6 : Int) < (N : Int)) := by omega
      have d6 : decide ((6 : Int) < (N : Int)) = false := by simpa using h6'
      by_cases hMN : M = N
      · have hne : ((M : Int) != (N : Int)) = false := by rw [hMN]; simp
        have HV9 : Aside (okSys (strL xs) fs = (okNames (strL xs) [] && fs.all (okEx (N : Nat)))) := ⟨by
          rw [HV.out, decide_eq_true (show 1 ≤ N by omega), decide_eq_true h6, decide_eq_true hMN]; rfl⟩
        clear HV
        rcases HN.out.out with ⟨hx0, -⟩ | ⟨bn, on, cn, hvn2, hcpn, hcn⟩
        · exfalso; have := HNL.out; rw [hx0] at this; simp at this; omega
        · rcases HFS.out.out with ⟨hf0, -⟩ | ⟨bf, of, cf, us, hvf2, hul, hcf, hrf⟩
          · exfalso; have := HML.out; rw [hf0] at this; simp at this; omega
          · rw [HNL.out] at hvn2
            rw [HML.out] at hvf2
            have HCN := Aside.mk hcn
            have HCF := Aside.mk hcf
            have HRF := Aside.mk hrf
            have HUL := Aside.mk hul
            have HCP := Aside.mk hcpn
            clear hvn hvf hcn hcf hrf hul hcpn
            subst hvn2 hvf2 hMN
            go_enter Tryz.func16, Tryz.ntmps16
            go_wp2_with fail
            obtain ⟨gs, hgs⟩ : ∃ gs, w.heap.size = gs := ⟨_, rfl⟩
            rw [hgs] at HR
            simp only [hgs]
            have HGS := Aside.mk hgs
            generalize w.alloc (.cells #[.slice (some ⟨bn, on, none⟩) M cn, .slice (some ⟨bf, of, none⟩) M cf] 25) = W at HR HB ⊢
            clear hgs
            go_loopg [25] M (fun m v25 wr => ∃ (i : Nat), v25 = .int .i64 (i : Nat) ∧ Aside (i ≤ M ∧ M - i ≤ m) ∧ Aside (okSys (strL xs) fs = (okNames ((strL xs).drop i) ((strL xs).take i) && (fs.drop i).all (okEx (M : Nat)))) ∧ Aside (Below w.heap.size w wr) ∧ Aside (wr.heap[gs]? = some (.cells #[.slice (some ⟨bn, on, none⟩) M cn, .slice (some ⟨bf, of, none⟩) M cf] 25 (0, 0))))
            case atStart => exact ⟨0, rfl, ⟨by omega⟩, HV9, HB, HR⟩
            case round =>
              clear HR HB HV9
              obtain ⟨i, rfl, HI, HV, HB, HR⟩ := hrel
              by_cases hi : i < M
              · have hi' : (i : Int) < (M : Int) := by omega
                have hix : i < xs.length := by rw [HNL.out]; exact hi
                obtain ⟨x, hx⟩ : ∃ x, xs[i]! = x := ⟨_, rfl⟩
                have hxe : xs[i] = x := by rw [← hx, getElem!_pos xs i hix]
                have cn0 : wr.cell? ⟨bn, on + i, none⟩ = some (.string x) := by
                  have := HCN.out i hix
                  rw [hx] at this
                  rw [HB.out.cell (p := ⟨bn, on + i, none⟩) (World.block_lt_of_cell? w _ this)]; exact this
                obtain ⟨u, hu⟩ : ∃ u, us[i]? = some u := ⟨_, List.getElem?_eq_getElem (by rw [HUL.out, HML.out]; exact hi)⟩
                obtain ⟨e, he⟩ : ∃ e, fs[i]? = some e := ⟨_, List.getElem?_eq_getElem (by rw [HML.out]; exact hi)⟩
                have cf0 : wr.cell? ⟨bf, of + i, none⟩ = some u := by
                  have := HCF.out i u hu
                  rw [HB.out.cell (p := ⟨bf, of + i, none⟩) (World.block_lt_of_cell? w _ this)]; exact this
                have HRE := Aside.mk ((HRF.out i u e hu he).below HB.out)
                have hdn : (strL xs).drop i = x.data.toList :: (strL xs).drop (i + 1) := by rw [strL_drop xs i hix, hxe]
                have htn : (strL xs).take (i + 1) = (strL xs).take i ++ [x.data.toList] := by rw [strL_take xs i hix, hxe]
                have hdf : fs.drop i = e :: fs.drop (i + 1) := by
                  obtain ⟨hl, rfl⟩ := List.getElem?_eq_some_iff.1 he
                  exact List.drop_eq_getElem_cons hl
                have HV2 : Aside (okSys (strL xs) fs = (okName x.data.toList && !((strL xs).take i).contains x.data.toList && okNames ((strL xs).drop (i + 1)) ((strL xs).take (i + 1)) && (okEx (M : Nat) e && (fs.drop (i + 1)).all (okEx (M : Nat))))) := ⟨by
                  rw [HV.out, hdn, okNames_cons, hdf, List.all_cons, htn]⟩
                have HTK : Aside (strL (xs.take i) = (strL xs).take i) := ⟨by unfold strL; rw [List.map_take]⟩
                have c0 : wr.cell? ⟨gs, 0, none⟩ = some (.slice (some ⟨bn, on, none⟩) M cn) := by rw [cell_of_row _ _ 0 _ _ _ HR.out]; rfl
                have c1 : wr.cell? ⟨gs, 1, none⟩ = some (.slice (some ⟨bf, of, none⟩) M cf) := by rw [cell_of_row _ _ 1 _ _ _ HR.out]; rfl
                obtain ⟨aoe, ce, hue⟩ := HRE.out.slice
                obtain ⟨le, hle⟩ : ∃ l, e.length = l := ⟨_, rfl⟩
                rw [hle] at hue
                subst hue
                clear hx hxe hu he hdn htn hdf hle HV
                go_wp2_with fail
                refine (validName_any x wr).mono ?_
                rintro e1 w1 ⟨rfl, hb1⟩
                have HB1 := Aside.mk (HB.out.trans (hb1.mono HB.out.size))
                have HR1 := Aside.mk ((hb1.block _ (lt_of HR.out)).trans HR.out)
                have HRE1 := Aside.mk (HRE.out.below hb1)
                have cf1 : w1.cell? ⟨bf, of + i, none⟩ = some (.slice aoe le ce) := by rw [hb1.cell (p := ⟨bf, of + i, none⟩) (World.block_lt_of_cell? wr _ cf0)]; exact cf0
                obtain ⟨q1, hq1⟩ : ∃ q, okName x.data.toList = q := ⟨_, rfl⟩
                rw [hq1] at HV2 ⊢
                clear hq1 hb1 cn0 cf0 c0 c1 HRE
                have c0 : w1.cell? ⟨gs, 0, none⟩ = some (.slice (some ⟨bn, on, none⟩) M cn) := by rw [cell_of_row _ _ 0 _ _ _ HR1.out]; rfl
                have c1 : w1.cell? ⟨gs, 1, none⟩ = some (.slice (some ⟨bf, of, none⟩) M cf) := by rw [cell_of_row _ _ 1 _ _ _ HR1.out]; rfl
                cases q1 with
                | false =>
                  have HA : Aside (okSys (strL xs) fs = false) := ⟨by rw [HV2.out]; rfl⟩
                  go_wp2_with fail
                  go_ret
                  rw [HA.out]
                  exact ⟨rfl, HB1.out⟩
                | true =>
                  have hic : i ≤ cn := by have := HCP.out; have := HNL.out; omega
                  have hic' : (i : Int) ≤ (cn : Int) := by omega
                  have HST := Aside.mk (Strs.take (fun j hj => by
                    have := HCN.out j hj
                    rw [HB1.out.cell (p := ⟨bn, on + j, none⟩) (World.block_lt_of_cell? w _ this)]; exact this : ∀ j, j < xs.length → w1.cell? ⟨bn, on + j, none⟩ = some (.string xs[j]!)) i (by have := HNL.out; omega) hic (HN.out.few))
                  go_wp2_with fail
                  refine (contains_any w1 _ (xs.take i) HST.out x).mono ?_
                  rintro e1 w2 ⟨rfl, rfl⟩
                  rw [HTK.out]
                  obtain ⟨q2, hq2⟩ : ∃ q, ((strL xs).take i).contains x.data.toList = q := ⟨_, rfl⟩
                  rw [hq2] at HV2 ⊢
                  clear hq2
                  cases q2 with
                  | true =>
                    have HA : Aside (okSys (strL xs) fs = false) := ⟨by rw [HV2.out]; rfl⟩
                    go_wp2_with fail
                    go_ret
                    rw [HA.out]
                    exact ⟨rfl, HB1.out⟩
                  | false =>
                    go_wp2_with fail
                    refine (validExpr_any _ e (M : Nat) w2 HRE1.out).mono ?_
                    rintro e1 w3 ⟨rfl, hb3⟩
                    have HB3 := Aside.mk (HB1.out.trans (hb3.mono HB1.out.size))
                    have HR3 := Aside.mk ((hb3.block _ (lt_of HR1.out)).trans HR1.out)
                    obtain ⟨q3, hq3⟩ : ∃ q, okEx (M : Nat) e = q := ⟨_, rfl⟩
                    rw [hq3] at HV2 ⊢
                    clear hq3 hb3
                    cases q3 with
                    | false =>
                      have HA : Aside (okSys (strL xs) fs = false) := ⟨by rw [HV2.out]; simp⟩
                      go_wp2_with fail
                      go_ret
                      rw [HA.out]
                      exact ⟨rfl, HB3.out⟩
                    | true =>
                      have HA : Aside (okSys (strL xs) fs = (okNames ((strL xs).drop (i + 1)) ((strL xs).take (i + 1)) && (fs.drop (i + 1)).all (okEx (M : Nat)))) := ⟨by rw [HV2.out]; simp⟩
                      go_wp2_with fail
                      obtain ⟨go, hgo⟩ : ∃ go, gk = go + 1 := ⟨gk - 1, by have := HI.out; omega⟩
                      go_roundg go
                      case measure => omega
                      case rel => exact ⟨i + 1, rfl, ⟨by have := HI.out; omega⟩, HA, HB3, HR3⟩
              · have hi' : ¬ ((i : Int) < (M : Int)) := by omega
                have HA : Aside (okSys (strL xs) fs = true) := ⟨by
                  rw [HV.out, List.drop_of_length_le (by rw [HSL.out, HNL.out]; omega), List.drop_of_length_le (by rw [HML.out]; omega)]; rfl⟩
                go_wp2_with fail
                go_ret
                rw [HA.out]
                exact ⟨rfl, HB.out⟩
      · have hne : ((M : Int) != (N : Int)) = true := by simp; omega
        have HV : Aside (okSys (strL xs) fs = false) := ⟨by rw [HV.out]; simp [hMN]⟩
        subst hvn hvf
        go_enter Tryz.func16, Tryz.ntmps16
        go_wp2_with fail
        go_ret
        rw [HV.out]
        exact ⟨rfl, HB.out⟩
    · have h6' : (6 : Int) < (N : Int) := by omega
      have d6 : decide ((6 : Int) < (N : Int)) = true := by simpa using h6'
      have HV : Aside (okSys (strL xs) fs = false) := ⟨by rw [HV.out]; simp [h6]⟩
      subst hvn hvf
      go_enter Tryz.func16, Tryz.ntmps16
      go_wp2_with fail
      go_ret
      rw [HV.out]
      exact ⟨rfl, HB.out⟩
end Go.Proofs.YthcidkidpiaomaaGreatDoor.Od
end
section
set_option linter.unusedVariables false
namespace Go.Proofs.YthcidkidpiaomaaGreatDoor.Fx
def isqN : Nat → Nat
  | 0 => 0
  | n + 1 => if (isqN n + 1) * (isqN n + 1) ≤ n + 1 then isqN n + 1 else isqN n
theorem isqN_spec (n : Nat) : isqN n * isqN n ≤ n ∧ n < (isqN n + 1) * (isqN n + 1) := by
  induction n with
  | zero => simp [isqN]
  | succ n ih =>
    obtain ⟨h1, h2⟩ := ih
    unfold isqN
    split
    · rename_i h
      refine ⟨h, ?_⟩
      have e : (isqN n + 1 + 1) * (isqN n + 1 + 1) = (isqN n + 1) * (isqN n + 1) + 2 * (isqN n + 1) + 1 := by
        generalize isqN n + 1 = k
        rw [Nat.add_mul, Nat.mul_add]; omega
      omega
    · exact ⟨by omega, by omega⟩
def isq (n : Int) : Int := (isqN n.toNat : Nat)
theorem isq_nonneg (n : Int) : 0 ≤ isq n := by unfold isq; omega
theorem isq_spec {n : Int} (h : 0 ≤ n) : isq n * isq n ≤ n ∧ n < (isq n + 1) * (isq n + 1) := by
  obtain ⟨m, rfl⟩ := Int.eq_ofNat_of_zero_le h
  have := isqN_spec m
  unfold isq
  rw [Int.toNat_natCast]
  exact ⟨by exact_mod_cast this.1, by exact_mod_cast this.2⟩
theorem sq_lt {a b : Int} (ha : 0 ≤ a) (h : a < b) : a * a < b * b := by
  have h1 : a * a ≤ a * b := Int.mul_le_mul_of_nonneg_left (by omega) ha
  have h2 : a * b < b * b := Int.mul_lt_mul_of_pos_right h (by omega)
  omega
theorem sq_le {a b : Int} (ha : 0 ≤ a) (h : a ≤ b) : a * a ≤ b * b := by
  rcases Int.lt_or_eq_of_le h with h | h
  · exact Int.le_of_lt (sq_lt ha h)
  · subst h; exact Int.le_refl _
theorem lt_of_sq {a b : Int} (hb : 0 ≤ b) (h : a * a < b * b) : a < b := by
  rcases Int.lt_or_le a b with g | g
  · exact g
  · have := sq_le hb g; omega
theorem isq_unique {n s : Int} (hs : 0 ≤ s) (h1 : s * s ≤ n) (h2 : n < (s + 1) * (s + 1)) : isq n = s := by
  have hn : 0 ≤ n := Int.le_trans (Int.mul_nonneg hs hs) h1
  obtain ⟨a, b⟩ := isq_spec hn
  have c := isq_nonneg n
  have d1 : isq n < s + 1 := lt_of_sq (by omega) (by omega)
  have d2 : s < isq n + 1 := lt_of_sq (by omega) (by omega)
  omega
theorem isq_le_of_lt_sq {n b : Int} (hn : 0 ≤ n) (hb : 0 ≤ b) (h : n < (b + 1) * (b + 1)) : isq n ≤ b := by
  have := (isq_spec hn).1
  have := lt_of_sq (a := isq n) (b := b + 1) (by omega) (by omega)
  omega
theorem newton_above {n x : Int} (hn : 0 ≤ n) (hx : 0 < x) : isq n ≤ (x + n / x) / 2 := by
  have hs := isq_nonneg n
  obtain ⟨h1, _⟩ := isq_spec hn
  have hdm := Int.mul_ediv_add_emod n x
  have hm := Int.emod_lt_of_pos n hx
  have hm0 := Int.emod_nonneg n (show x ≠ 0 by omega)
  have hq : 0 ≤ n / x := Int.ediv_nonneg hn (by omega)
  generalize isq n = s at *
  generalize n / x = q at *
  generalize n % x = r at *
  -- 2 s ≤ x + q, else s*s > n
  rcases Int.lt_or_le (x + q) (2 * s) with h | h
  · exfalso
    -- x + q + 1 ≤ 2 s ; n < x (q + 1) ; 4 x (q+1) ≤ (x + q + 1)^2 ≤ 4 s^2
    have e1 : n < x * (q + 1) := by rw [Int.mul_add]; omega
    have e2 : 4 * (x * (q + 1)) ≤ (x + (q + 1)) * (x + (q + 1)) := by
      generalize q + 1 = p
      have : 0 ≤ (x - p) * (x - p) := by
        rcases Int.le_total 0 (x - p) with g | g
        · exact Int.mul_nonneg g g
        · exact Int.mul_nonneg_of_nonpos_of_nonpos g g
      rw [Int.sub_mul, Int.mul_sub, Int.mul_sub] at this
      rw [Int.add_mul, Int.mul_add, Int.mul_add]
      have := Int.mul_comm p x
      omega
    have e3 : (x + (q + 1)) * (x + (q + 1)) ≤ (2 * s) * (2 * s) := sq_le (by omega) (by omega)
    have e4 : (2 * s) * (2 * s) = 4 * (s * s) := by rw [Int.mul_assoc, Int.mul_left_comm s 2 s]; omega
    omega
  · omega
theorem newton_stop {n x : Int} (hn : 0 ≤ n) (hx : 0 < x) (ha : isq n ≤ x) (h : x ≤ (x + n / x) / 2) : isq n = x := by
  obtain ⟨h1, h2⟩ := isq_spec hn
  have hdm := Int.mul_ediv_add_emod n x
  have hm0 := Int.emod_nonneg n (show x ≠ 0 by omega)
  have hq : x ≤ n / x := by omega
  have : x * x ≤ x * (n / x) := Int.mul_le_mul_of_nonneg_left hq (by omega)
  have h3 : x < isq n + 1 := lt_of_sq (by have := isq_nonneg n; omega) (by omega)
  omega
def rup (n : Int) : Int := if isq n * isq n < n then isq n + 1 else isq n
end Go.Proofs.YthcidkidpiaomaaGreatDoor.Fx
end
section
set_option linter.unusedVariables false
namespace Go.Proofs.YthcidkidpiaomaaGreatDoor.Fx
open Go.RowKit Go.Proofs.YthcidkidpiaomaaGreatDoorW.PrintWords
theorem Sqrt_zero (w : World) :
    Calls Tryz.prog 121 #[.int .i64 0] w fun e w' => e = .returned (.tuple #[.int .i64 0, .int .i64 0, .int .i64 0]) ∧ Drawn0 w w' := by
  go_enter Tryz.func121, Tryz.ntmps121
  go_wp2
  go_step3
  go_wp2
  rw [Exit.noGoto_ret]
  go_ret3
  exact ⟨rfl, Drawn0.refl _⟩
theorem bitLen_lt {x : Nat} (h : x < 140737488355328) : x < 2 ^ Lib.bitLen x := by
  have key : ∀ f y : Nat, y < 2 ^ f → y < 2 ^ Lib.bitLenAux f y := by
    intro f
    induction f with
    | zero => intro y hy; simp [Lib.bitLenAux]; simpa using hy
    | succ f ih =>
      intro y hy
      unfold Lib.bitLenAux
      split
      · subst_vars; simp
      · have h1 := ih (y / 2) (by rw [Nat.pow_succ] at hy; omega)
        rw [Nat.add_comm 1, Nat.pow_succ]; omega
  exact key 64 x (by omega)
theorem bitLen_le {x : Nat} (h : x < 140737488355328) : Lib.bitLen x ≤ 47 := by
  have key : ∀ f y k : Nat, y < 2 ^ k → Lib.bitLenAux f y ≤ k := by
    intro f
    induction f with
    | zero => intro y k _; simp [Lib.bitLenAux]
    | succ f ih =>
      intro y k hy
      unfold Lib.bitLenAux
      split
      · omega
      · match k, hy with
        | 0, hy => simp at hy; omega
        | k + 1, hy =>
          have h1 := ih (y / 2) k (by rw [Nat.pow_succ] at hy; omega)
          omega
  exact key 64 x 47 (by omega)
theorem Len64_any (x : Int) (w : World) (h0 : 65536 ≤ x) (h1 : x < 140737488355328) :
    Calls Tryz.prog 151 #[.int .u64 x] w fun e w' => ∃ L : Int, e = .returned (.int .i64 L) ∧ w = w' ∧ 0 ≤ L ∧ L ≤ 47 ∧ x < 2 ^ L.toNat := by
  refine (Tryz.bits_Len64 x w (by omega) (by omega)).mono ?_
  rintro e w' ⟨rfl, rfl⟩
  have hx : x.toNat < 140737488355328 := by omega
  refine ⟨_, rfl, rfl, by omega, by have := bitLen_le hx; omega, ?_⟩
  have := bitLen_lt hx
  rw [Int.toNat_natCast]
  have e : x = (x.toNat : Int) := by omega
  rw [e]
  exact_mod_cast this
theorem start_above {n L : Int} (hn : 0 ≤ n) (h0 : 0 ≤ L) (h1 : L ≤ 47) (h : n < 2 ^ L.toNat) :
    ∃ x0 : Int, wrap64 (2 ^ ((L + 1) / 2).toNat) = x0 ∧ 0 < x0 ∧ x0 ≤ 16777216 ∧ isq n ≤ x0 := by
  obtain ⟨l, rfl⟩ := Int.eq_ofNat_of_zero_le h0
  have e1 : (((l : Int) + 1) / 2).toNat = (l + 1) / 2 := by omega
  rw [e1, Int.toNat_natCast] at *
  have hp : (2 : Int) ^ ((l + 1) / 2) ≤ 16777216 := by
    have : (2 : Nat) ^ ((l + 1) / 2) ≤ 2 ^ 24 := Nat.pow_le_pow_right (by omega) (by omega)
    rw [show (16777216 : Int) = ((2 ^ 24 : Nat) : Int) from by decide]
    exact_mod_cast this
  have hp0 : (0 : Int) < 2 ^ ((l + 1) / 2) := by
    have : (0 : Nat) < 2 ^ ((l + 1) / 2) := Nat.pow_pos (by omega)
    exact_mod_cast this
  refine ⟨2 ^ ((l + 1) / 2), by unfold wrap64; omega, hp0, hp, ?_⟩
  refine isq_le_of_lt_sq hn (by omega) ?_
  have : (2 : Nat) ^ l ≤ 2 ^ ((l + 1) / 2) * 2 ^ ((l + 1) / 2) := by
    rw [← Nat.pow_add]; exact Nat.pow_le_pow_right (by omega) (by omega)
  have h3 : (2 : Int) ^ l ≤ 2 ^ ((l + 1) / 2) * 2 ^ ((l + 1) / 2) := by exact_mod_cast this
  have h4 := sq_le (a := (2 : Int) ^ ((l + 1) / 2)) (b := 2 ^ ((l + 1) / 2) + 1) (by omega) (by omega)
  omega
theorem Sqrt_pos (a : Int) (w : World) (h : 0 < a) (h2 : a < 2147483648) :
    Calls Tryz.prog 121 #[.int .i64 a] w fun e w' => e = .returned (.tuple #[.int .i64 (isq (a * 65536)), .int .i64 (rup (a * 65536)), .int .i64 0]) ∧ Drawn0 w w' := by
  have hz : (a * 65536 == 0) = false := by simp; omega
  go_enter Tryz.func121, Tryz.ntmps121
  go_wp2
  go_step3
  go_wp2_with (first | (go_at_call 151; refine (Len64_any (a * 65536) _ (by omega) (by omega)).mono ?_; rintro e w' ⟨L, rfl, rfl, hL1, hL2, hL⟩))
  obtain ⟨x0, hx0, hx1, hx2, hx3⟩ := start_above (n := a * 65536) (by omega) hL1 hL2 hL
  rw [hx0]
  clear hL hx0
  go_step3
  go_wp2
  go_loopg [6] 16777217 (fun g x wr => ∃ v : Int, x = .int .i64 v ∧ v < g ∧ 0 < v ∧ v ≤ 16777216 ∧ isq (a * 65536) ≤ v ∧ w = wr)
  case atStart => exact ⟨x0, rfl, by omega, hx1, hx2, hx3, rfl⟩
  case round =>
    obtain ⟨v, rfl, hv1, hv2, hv3, hv4, rfl⟩ := hrel
    have hq0 : 0 ≤ a * 65536 / v := Int.ediv_nonneg (by omega) (by omega)
    have hq1 : a * 65536 / v ≤ a * 65536 := Int.ediv_le_self _ (by omega)
    have habove := newton_above (n := a * 65536) (x := v) (by omega) hv2
    have hsn := isq_nonneg (a * 65536)
    have hs1 : 1 ≤ isq (a * 65536) := by
      have hsp := (isq_spec (n := a * 65536) (by omega)).2
      rcases Int.lt_or_le (isq (a * 65536)) 1 with g | g
      · have e0 : isq (a * 65536) = 0 := by omega
        rw [e0] at hsp; omega
      · exact g
    by_cases hge : v ≤ (v + a * 65536 / v) / 2
    · have hs := newton_stop (n := a * 65536) (by omega) hv2 hv4 hge
      have hvv0 : 0 ≤ v * v := Int.mul_nonneg (by omega) (by omega)
      have hvv1 : v * v ≤ 281474976710656 := by have := sq_le (a := v) (b := 16777216) (by omega) hv3; omega
      by_cases hlt : v * v < a * 65536
      · have hr : rup (a * 65536) = v + 1 := by unfold rup; rw [hs, if_pos hlt]
        have HR := Lib.hid hr
        have HS := Lib.hid hs
        clear hs hr
        go_wp2
        try rw [Exit.noGoto_ret]
        go_ret3
        rw [HS.out, HR.out]
        exact ⟨rfl, Drawn0.refl _⟩
      · have hr : rup (a * 65536) = v := by unfold rup; rw [hs, if_neg hlt]
        have HR := Lib.hid hr
        have HS := Lib.hid hs
        clear hs hr
        go_wp2
        try rw [Exit.noGoto_ret]
        go_ret3
        rw [HS.out, HR.out]
        exact ⟨rfl, Drawn0.refl _⟩
    · go_wp2
      go_roundg ((v + a * 65536 / v) / 2).toNat.succ
      case measure => omega
      case rel => exact ⟨_, rfl, by omega, by omega, by omega, habove, rfl⟩
theorem isq_zero : isq 0 = 0 := isq_unique (by omega) (by omega) (by omega)
theorem Sqrt_any (a : Int) (w : World) (h : 0 ≤ a) (h2 : a < 2147483648) :
    Calls Tryz.prog 121 #[.int .i64 a] w fun e w' => e = .returned (.tuple #[.int .i64 (isq (a * 65536)), .int .i64 (rup (a * 65536)), .int .i64 0]) ∧ Drawn0 w w' := by
  rcases Int.lt_or_eq_of_le h with h | h
  · exact Sqrt_pos a w h h2
  · subst h
    rw [show (0 : Int) * 65536 = 0 from rfl, show rup 0 = 0 from by unfold rup; rw [isq_zero]; rfl, isq_zero]
    exact Sqrt_zero w
end Go.Proofs.YthcidkidpiaomaaGreatDoor.Fx
end
section
set_option linter.unusedVariables false
namespace Go.Proofs.YthcidkidpiaomaaGreatDoor.Od
open Fx (dn up dlo dhi isq rup)
abbrev Iv : Type := Int × Int
def ent : Iv := (-maxV, maxV)
def isE (a : Iv) : Bool := a.1 == -maxV && a.2 == maxV
def okI (a : Iv) : Prop := okIv a.1 a.2 = true
def newI (lo hi : Int) : Iv := if -maxV < lo ∧ lo < maxV ∧ -maxV < hi ∧ hi < maxV then (lo, hi) else ent
def addI (a b : Iv) : Iv := if isE a || isE b then ent else newI (a.1 + b.1) (a.2 + b.2)
def negI (a : Iv) : Iv := (-a.2, -a.1)
def subI (a b : Iv) : Iv := addI a (negI b)
def mn4 (x y z w : Int) : Int := min (min x y) (min z w)
def mx4 (x y z w : Int) : Int := max (max x y) (max z w)
def mulI (a b : Iv) : Iv := if isE a || isE b then ent else
  newI (dn (mn4 (a.1 * b.1) (a.1 * b.2) (a.2 * b.1) (a.2 * b.2)) 65536) (up (mx4 (a.1 * b.1) (a.1 * b.2) (a.2 * b.1) (a.2 * b.2)) 65536)
def sqLo (a : Iv) : Int := if a.1 ≤ 0 ∧ 0 ≤ a.2 then 0 else min (a.1 * a.1) (a.2 * a.2)
def sqHi (a : Iv) : Int := max (a.1 * a.1) (a.2 * a.2)
def sqrI (a : Iv) : Iv := if isE a then ent else newI (dn (sqLo a) 65536) (up (sqHi a) 65536)
def divI (a b : Iv) : Iv := if isE a || isE b || (decide (b.1 ≤ 0) && decide (0 ≤ b.2)) then ent else
  newI (mn4 (dlo (a.1 * 65536) b.1) (dlo (a.1 * 65536) b.2) (dlo (a.2 * 65536) b.1) (dlo (a.2 * 65536) b.2))
    (mx4 (dhi (a.1 * 65536) b.1) (dhi (a.1 * 65536) b.2) (dhi (a.2 * 65536) b.1) (dhi (a.2 * 65536) b.2))
def sqrtI (a : Iv) : Iv := if a.1 < 0 then ent else newI (isq (a.1 * 65536)) (rup (a.2 * 65536))
def unI (op : Int) (a : Iv) : Iv := if op = 4 then negI a else if op = 5 then sqrI a else sqrtI a
def binI (op : Int) (a b : Iv) : Iv := if op = 7 then addI a b else if op = 8 then subI a b else if op = 9 then mulI a b else divI a b
def ev (x : List Iv) (t : Iv) : Tr → Iv
  | .num lo hi => (lo, hi)
  | .var n => x.getD n ent
  | .time => t
  | .un op a => unI op (ev x t a)
  | .bin op a b => binI op (ev x t a) (ev x t b)
theorem okI_iff (a : Iv) : okI a ↔ a = ent ∨ (-maxV < a.1 ∧ a.1 ≤ a.2 ∧ a.2 < maxV) := by
  obtain ⟨l, h⟩ := a
  unfold okI okIv ent maxV
  simp only [Bool.or_eq_true, Bool.and_eq_true, beq_iff_eq, decide_eq_true_eq, Prod.mk.injEq]
  omega
theorem okI_ent : okI ent := (okI_iff _).2 (Or.inl rfl)
theorem isE_iff (a : Iv) : isE a = true ↔ a = ent := by
  obtain ⟨l, h⟩ := a
  simp [isE, ent]
theorem okI.bd {a : Iv} (h : okI a) : -maxV ≤ a.1 ∧ a.1 ≤ a.2 ∧ a.2 ≤ maxV := by
  rcases (okI_iff a).1 h with rfl | h
  · simp [ent, maxV]
  · omega
theorem okI.fin {a : Iv} (h : okI a) (he : isE a = false) : -maxV < a.1 ∧ a.1 ≤ a.2 ∧ a.2 < maxV := by
  rcases (okI_iff a).1 h with rfl | h
  · simp [isE, ent] at he
  · exact h
theorem newI_ok {lo hi : Int} (h : lo ≤ hi) : okI (newI lo hi) := by
  unfold newI
  split
  · exact (okI_iff _).2 (Or.inr (by simp only; omega))
  · exact okI_ent
theorem negI_ok {a : Iv} (h : okI a) : okI (negI a) := by
  rcases (okI_iff a).1 h with rfl | h
  · exact (okI_iff _).2 (Or.inl rfl)
  · exact (okI_iff _).2 (Or.inr (by unfold negI; simp only; omega))
theorem addI_ok {a b : Iv} (ha : okI a) (hb : okI b) : okI (addI a b) := by
  unfold addI
  split
  · exact okI_ent
  · have := ha.bd; have := hb.bd
    exact newI_ok (by omega)
theorem dn_up {x u : Int} : dn x u ≤ up x u := by unfold dn up; split <;> omega
theorem dn_mono' {X Y u : Int} (hu : 0 < u) (h : X ≤ Y) : dn X u ≤ dn Y u := Int.ediv_le_ediv hu h
theorem up_neg' {X u : Int} (hu : 0 < u) : up X u = -(dn (-X) u) := by
  unfold dn
  by_cases hz : X % u = 0
  · rw [Fx.up_exact hz, (Fx.neg_ediv_exact hz).1]; omega
  · have h2 : 2 ≤ u := by
      rcases Int.lt_or_le u 2 with h | h
      · obtain rfl : u = 1 := by omega
        exact absurd (Int.emod_one X) hz
      · exact h
    have hp : 1 ≤ X % u := by have := Int.emod_nonneg X (show u ≠ 0 by omega); omega
    rw [Fx.up_next hp, (Fx.neg_ediv_next h2 hp).1]; omega
theorem up_mono' {X Y u : Int} (hu : 0 < u) (h : X ≤ Y) : up X u ≤ up Y u := by
  rw [up_neg' hu, up_neg' hu]
  have := dn_mono' (X := -Y) (Y := -X) hu (by omega)
  omega
theorem mn4_mx4 (x y z w : Int) : mn4 x y z w ≤ mx4 x y z w := by unfold mn4 mx4; omega
theorem mulI_ok {a b : Iv} : okI (mulI a b) := by
  unfold mulI
  split
  · exact okI_ent
  · exact newI_ok (Int.le_trans (dn_mono' (by decide) (mn4_mx4 _ _ _ _)) dn_up)
theorem sq_nonneg (x : Int) : 0 ≤ x * x := by
  rcases Int.le_total 0 x with h | h
  · exact Int.mul_nonneg h h
  · have := Int.mul_nonneg (a := -x) (b := -x) (by omega) (by omega)
    rwa [Int.neg_mul_neg] at this
theorem sqLo_hi (a : Iv) : sqLo a ≤ sqHi a := by
  have := sq_nonneg a.1; have := sq_nonneg a.2
  unfold sqLo sqHi
  split <;> omega
theorem sqrI_ok {a : Iv} : okI (sqrI a) := by
  unfold sqrI
  split
  · exact okI_ent
  · exact newI_ok (Int.le_trans (dn_mono' (by decide) (sqLo_hi a)) dn_up)
theorem dlo_dhi (x y : Int) : dlo x y ≤ dhi x y := by unfold dlo dhi; split <;> exact dn_up
theorem divI_ok {a b : Iv} : okI (divI a b) := by
  unfold divI
  split
  · exact okI_ent
  · refine newI_ok ?_
    have := dlo_dhi (a.1 * 65536) b.1
    unfold mn4 mx4
    omega
theorem isq_mono' {m n : Int} (h0 : 0 ≤ m) (h : m ≤ n) : isq m ≤ isq n := by
  have a := (Fx.isq_spec h0).1
  have b := (Fx.isq_spec (n := n) (by omega)).2
  have := Fx.lt_of_sq (a := isq m) (b := isq n + 1) (by have := Fx.isq_nonneg n; omega) (by omega)
  omega
theorem isq_rup (n : Int) : isq n ≤ rup n := by unfold rup; split <;> omega
theorem sqrtI_ok {a : Iv} (h : okI a) : okI (sqrtI a) := by
  unfold sqrtI
  split
  · exact okI_ent
  · have := h.bd
    exact newI_ok (Int.le_trans (isq_mono' (by omega) (by omega)) (isq_rup _))
theorem unI_ok {op : Int} {a : Iv} (h : okI a) : okI (unI op a) := by
  unfold unI
  split
  · exact negI_ok h
  · split
    · exact sqrI_ok
    · exact sqrtI_ok h
theorem binI_ok {op : Int} {a b : Iv} (ha : okI a) (hb : okI b) : okI (binI op a b) := by
  unfold binI
  split
  · exact addI_ok ha hb
  · split
    · exact addI_ok ha (negI_ok hb)
    · split
      · exact mulI_ok
      · exact divI_ok
theorem ev_ok {vars : List (List UInt8)} {x : List Iv} {t : Iv} (hx : ∀ a ∈ x, okI a) (ht : okI t) : ∀ e, okT vars e → okI (ev x t e)
  | .num lo hi, h => h
  | .var n, h => by
    unfold ev
    rw [List.getD_eq_getElem?_getD]
    cases hn : x[n]? with
    | none => exact okI_ent
    | some a => exact hx a (List.mem_of_getElem? hn)
  | .time, h => ht
  | .un op a, h => unI_ok (ev_ok hx ht a h.2)
  | .bin op a b, h => binI_ok (ev_ok hx ht a h.2.1) (ev_ok hx ht b h.2.2)
def SubI (a b : Iv) : Prop := b.1 ≤ a.1 ∧ a.2 ≤ b.2
theorem SubI.ent {a : Iv} (h : okI a) : SubI a ent := ⟨h.bd.1, h.bd.2.2⟩
theorem SubI.refl (a : Iv) : SubI a a := ⟨Int.le_refl _, Int.le_refl _⟩
theorem SubI.isE {a b : Iv} (h : SubI a b) (hb : okI b) (ha : isE a = true) : isE b = true := by
  obtain rfl := (isE_iff a).1 ha
  have h1 := hb.bd
  obtain ⟨h2, h3⟩ := h
  obtain ⟨x, y⟩ := b
  simp only [Od.ent, maxV] at *
  unfold Od.isE maxV
  simp only [Bool.and_eq_true, beq_iff_eq]
  omega
def OneSign (b1 b2 : Int) : Prop := 0 < b1 ∨ b2 < 0
end Go.Proofs.YthcidkidpiaomaaGreatDoor.Od
end
section
set_option linter.unusedVariables false
set_option linter.unusedSimpArgs false
namespace Go.Proofs.YthcidkidpiaomaaGreatDoor.Od
open Go.RowKit Rg
def ivV (a : Iv) : Value := .agg #[.int .i64 a.1, .int .i64 a.2]
structure Two (w0 : World) (g : Nat) (al ah bl bh : Int) (W : World) : Prop where
  ra : W.heap[g]? = some (.cells #[.int .i64 al, .int .i64 ah] 29 (0, 0))
  rb : W.heap[g + 1]? = some (.cells #[.int .i64 bl, .int .i64 bh] 29 (0, 0))
  rc : W.heap[g + 1 + 1]? = some (.cells #[.int .i64 0, .int .i64 0] 29 (0, 0))
  fr : Below g w0 W
theorem Two.below {w0 W W' : World} {g : Nat} {al ah bl bh : Int} (h : Two w0 g al ah bl bh W) (hb : Below W.heap.size W W') : Two w0 g al ah bl bh W' := by
  have h1 := heap_lt h.ra; have h2 := heap_lt h.rb; have h3 := heap_lt h.rc
  exact ⟨by rw [hb.block _ h1]; exact h.ra, by rw [hb.block _ h2]; exact h.rb, by rw [hb.block _ h3]; exact h.rc, h.fr.trans (hb.mono (by omega))⟩
theorem Two.new (w : World) (al ah bl bh : Int) : Two w w.heap.size al ah bl bh (((w.alloc (.cells #[.int .i64 al, .int .i64 ah] 29)).alloc (.cells #[.int .i64 bl, .int .i64 bh] 29)).alloc (.cells #[.int .i64 0, .int .i64 0] 29)) := by
  have e1 : (w.alloc (.cells #[.int .i64 al, .int .i64 ah] 29)).heap.size = w.heap.size + 1 := World.size_alloc ..
  have e2 : ((w.alloc (.cells #[.int .i64 al, .int .i64 ah] 29)).alloc (.cells #[.int .i64 bl, .int .i64 bh] 29)).heap.size = w.heap.size + 1 + 1 := by rw [World.size_alloc, e1]
  have r1 := heap_alloc_last w (.cells #[.int .i64 al, .int .i64 ah] 29)
  have r2 := heap_alloc_last (w.alloc (.cells #[.int .i64 al, .int .i64 ah] 29)) (.cells #[.int .i64 bl, .int .i64 bh] 29)
  have r3 := heap_alloc_last ((w.alloc (.cells #[.int .i64 al, .int .i64 ah] 29)).alloc (.cells #[.int .i64 bl, .int .i64 bh] 29)) (.cells #[.int .i64 0, .int .i64 0] 29)
  have b2 : Below (w.heap.size + 1) (w.alloc (.cells #[.int .i64 al, .int .i64 ah] 29)) ((w.alloc (.cells #[.int .i64 al, .int .i64 ah] 29)).alloc (.cells #[.int .i64 bl, .int .i64 bh] 29)) := (Below.refl _ _).alloc (by omega) _
  have b3 : Below (w.heap.size + 1 + 1) ((w.alloc (.cells #[.int .i64 al, .int .i64 ah] 29)).alloc (.cells #[.int .i64 bl, .int .i64 bh] 29)) (((w.alloc (.cells #[.int .i64 al, .int .i64 ah] 29)).alloc (.cells #[.int .i64 bl, .int .i64 bh] 29)).alloc (.cells #[.int .i64 0, .int .i64 0] 29)) := (Below.refl _ _).alloc (by omega) _
  rw [e1] at r2
  rw [e2] at r3
  refine ⟨?_, ?_, r3, (((Below.refl _ _).alloc (Nat.le_refl _) _).alloc (by omega) _).alloc (by omega) _⟩
  · rw [b3.block _ (by omega), b2.block _ (by omega)]; exact r1
  · rw [b3.block _ (by omega)]; exact r2
theorem Two.cells {w0 W : World} {g : Nat} {al ah bl bh : Int} (h : Two w0 g al ah bl bh W) : W.cell? ⟨g, 0, none⟩ = some (.int .i64 al) ∧ W.cell? ⟨g, 1, none⟩ = some (.int .i64 ah) ∧ W.cell? ⟨g + 1, 0, none⟩ = some (.int .i64 bl) ∧ W.cell? ⟨g + 1, 1, none⟩ = some (.int .i64 bh) :=
  ⟨by rw [cell_of_row _ _ 0 _ _ _ h.ra]; rfl, by rw [cell_of_row _ _ 1 _ _ _ h.ra]; rfl, by rw [cell_of_row _ _ 0 _ _ _ h.rb]; rfl, by rw [cell_of_row _ _ 1 _ _ _ h.rb]; rfl⟩
theorem info_iv : (Tryz.prog.info? 29).map (·.size) = some 2 := by kernel_rfl
theorem wpList_store_iv {ops : Array Oper} {rest : List Oper} {o : Oper} {a : Act} {w : World} {Q : Exit → Act → World → Prop} (hgd : o.guard = none) (x y : Operand) (ho : o.op = .store 29 x y)
    (g : Nat) (l h : Int) (hx : a.eval x = .pointer (some ⟨g, 0, none⟩)) (hy : a.eval y = .agg #[.int .i64 l, .int .i64 h]) (u v : Value) (hg : w.heap[g]? = some (.cells #[u, v] 29 (0, 0)))
    (hK : ∀ w', w'.heap[g]? = some (.cells #[.int .i64 l, .int .i64 h] 29 (0, 0)) → Below g w w' → (∀ k, k ≠ g → w'.heap[k]? = w.heap[k]?) → w'.heap.size = w.heap.size → wpList Tryz.prog ops Q rest (a.put o.dst undef) w') : wpList Tryz.prog ops Q (o :: rest) a w := by
  have hs : (w.setRow g #[.int .i64 l, .int .i64 h]).heap.size = w.heap.size := by unfold World.setRow; simp
  exact wpList_store_row hgd 29 x y ho g #[.int .i64 l, .int .i64 h] hx hy 29 _ hg info_iv rfl (by simp [Value.oneCell'])
    (hK _ (setRow_heap w g _ _ _ _ hg) ⟨rfl, rfl, rfl, by rw [hs]; exact Nat.le_refl _, fun k hk => setRow_other _ _ _ _ (by omega)⟩ (fun k hk => setRow_other _ _ _ _ hk) hs)
theorem ret_iv {f : Func} {P : Ending → World → Prop} {tm : Array Value} {w : World} {g i : Nat} {l h : Int} (hf : f.results = #[.cell i 29]) (hi : tm.getD i undef = .pointer (some ⟨g, 0, none⟩)) (hr : w.heap[g]? = some (.cells #[.int .i64 l, .int .i64 h] 29 (0, 0)))
    (hP : P (.returned (.agg #[.int .i64 l, .int .i64 h])) w) : bodyPost Tryz.prog f P .ret ⟨tm, []⟩ w :=
  bodyPost_ret (results_cell_row hf _ _ g 29 #[.int .i64 l, .int .i64 h] (0, 0) _ hi hr Tryz.underlying29 rfl info_iv) rfl hP
set_option maxRecDepth 100000 in
set_option maxHeartbeats 8000000 in
theorem neg_any (al ah : Int) (w : World) (h1 : -2147483648 ≤ al) (h2 : al ≤ 2147483648) (h3 : -2147483648 ≤ ah) (h4 : ah ≤ 2147483648) :
    Calls Tryz.prog 72 #[.agg #[.int .i64 al, .int .i64 ah]] w fun e w' => e = .returned (.agg #[.int .i64 (-ah), .int .i64 (-al)]) ∧ Below w.heap.size w w' := by
  go_enter Tryz.func72, Tryz.ntmps72
  go_wp2_with fail
  refine bodyPost_ret (results_cell_row rfl _ _ (w.heap.size + 1) 29 #[.int .i64 (-ah), .int .i64 (-al)] (0, 0) _ rfl ?_ Tryz.underlying29 rfl (by kernel_rfl)) rfl ⟨rfl, ?_⟩
  · have := heap_alloc_last (w.alloc (.cells #[.int .i64 al, .int .i64 ah] 29)) (.cells #[.int .i64 (-ah), .int .i64 (-al)] 29)
    rw [World.size_alloc] at this; exact this
  · exact ((Below.refl _ _).alloc (Nat.le_refl _) _).alloc (by rw [World.size_alloc]; omega) _
set_option maxRecDepth 100000 in
set_option maxHeartbeats 8000000 in
theorem new_any (lo hi : Int) (w : World) (h1 : -9223372036854775808 ≤ lo) (h2 : lo ≤ 9223372036854775807) (h3 : -9223372036854775808 ≤ hi) (h4 : hi ≤ 9223372036854775807) :
    Calls Tryz.prog 120 #[.int .i64 lo, .int .i64 hi] w fun e w' => e = .returned (ivV (newI lo hi)) ∧ Below w.heap.size w w' := by
  by_cases hin : -maxV < lo ∧ lo < maxV ∧ -maxV < hi ∧ hi < maxV
  · have HN : Aside (newI lo hi = (lo, hi)) := ⟨by unfold newI; rw [if_pos hin]⟩
    unfold maxV at hin
    have d1 : ¬ lo ≤ -2147483648 := by omega
    have d2 : ¬ 2147483648 ≤ hi := by omega
    have d3 : ¬ 2147483648 ≤ lo := by omega
    have d4 : ¬ hi ≤ -2147483648 := by omega
    go_enter Tryz.func120, Tryz.ntmps120
    go_wp2_with fail
    rw [HN.out]
    refine bodyPost_ret (results_cell_row rfl _ _ w.heap.size 29 #[.int .i64 lo, .int .i64 hi] (0, 0) _ rfl (heap_alloc_last w _) Tryz.underlying29 rfl (by kernel_rfl)) rfl ⟨rfl, ?_⟩
    exact (Below.refl _ _).alloc (Nat.le_refl _) _
  · have HN : Aside (newI lo hi = ent) := ⟨by unfold newI; rw [if_neg hin]⟩
    have d0 : (decide (lo ≤ -2147483648) || decide (2147483648 ≤ hi) || decide (2147483648 ≤ lo) || decide (hi ≤ -2147483648)) = true := by
      unfold maxV at hin
      simp only [Bool.or_eq_true, decide_eq_true_eq]
      omega
    clear hin
    have hal := heap_alloc_last w (.cells #[.int .i64 0, .int .i64 0] 29)
    have hbl : Below w.heap.size w (w.alloc (.cells #[.int .i64 0, .int .i64 0] 29)) := (Below.refl _ _).alloc (Nat.le_refl _) _
    have HAL := Aside.mk hal
    have HBL := Aside.mk hbl
    clear hal hbl
    go_enter Tryz.func120, Tryz.ntmps120
    go_wp2_with fail
    all_goals
      refine (entire_any _).mono ?_
      rintro e w1 ⟨rfl, hb1⟩
      have hr : w1.heap[w.heap.size]? = some (.cells #[.int .i64 0, .int .i64 0] 29 (0, 0)) := (hb1.block _ (heap_lt HAL.out)).trans HAL.out
      have HB1 := Aside.mk (HBL.out.trans (hb1.mono HBL.out.size))
      obtain ⟨g, hg⟩ : ∃ g, w.heap.size = g := ⟨_, rfl⟩
      rw [hg] at hr HB1
      have HR := Aside.mk hr
      clear hr
      simp only [hg]
      go_wp2_with (first | (refine wpList_store_iv rfl (.tmp 4) (.tmp 19) rfl g _ _ rfl rfl _ _ HR.out ?_; intro w2 hr2 hb2 hk2 hs2))
    all_goals
      rw [HN.out]
      exact ret_iv rfl rfl hr2 ⟨rfl, hg ▸ HB1.out.trans hb2⟩
theorem Two.put {w0 W W' : World} {g : Nat} {al ah bl bh : Int} (h : Two w0 g al ah bl bh W) (hb : Below (g + 1 + 1) W W') : Below g w0 W' := h.fr.trans (hb.mono (by omega))
set_option maxRecDepth 100000 in
set_option maxHeartbeats 8000000 in
theorem add_any (a b : Iv) (ha : okI a) (hb : okI b) (w : World) : Calls Tryz.prog 113 #[ivV a, ivV b] w fun e w' => e = .returned (ivV (addI a b)) ∧ Below w.heap.size w w' := by
  obtain ⟨al, ah⟩ := a
  obtain ⟨bl, bh⟩ := b
  have HA : Aside (addI (al, ah) (bl, bh) = if isEnt al ah || isEnt bl bh then ent else newI (al + bl) (ah + bh)) := ⟨rfl⟩
  have b1 := ha.bd
  have b2 := hb.bd
  simp only [maxV] at b1 b2
  have HM := Aside.mk (Two.new w al ah bl bh)
  unfold ivV
  simp only
  go_enter Tryz.func113, Tryz.ntmps113
  go_wp2_with fail
  obtain ⟨g, hg⟩ : ∃ g, w.heap.size = g := ⟨_, rfl⟩
  rw [hg] at HM
  simp only [hg]
  generalize (((w.alloc (.cells #[.int .i64 al, .int .i64 ah] 29)).alloc (.cells #[.int .i64 bl, .int .i64 bh] 29)).alloc (.cells #[.int .i64 0, .int .i64 0] 29)) = W at HM ⊢
  refine (isEntire_any al ah W).mono ?_
  rintro e w1 ⟨rfl, hb1⟩
  replace HM := Aside.mk (HM.out.below hb1)
  obtain ⟨c0, c1, d0, d1⟩ := HM.out.cells
  obtain ⟨e1, he1⟩ : ∃ b, isEnt al ah = b := ⟨_, rfl⟩
  rw [he1] at HA ⊢
  clear he1 hb1
  cases e1 with
  | true =>
    go_wp2_with fail
    refine (entire_any w1).mono ?_
    rintro e w2 ⟨rfl, hb2⟩
    replace HM := Aside.mk (HM.out.below hb2)
    clear hb2 c0 c1 d0 d1
    go_wp2_with (first | (refine wpList_store_iv rfl (.tmp 4) (.tmp 11) rfl (g + 1 + 1) _ _ rfl rfl _ _ HM.out.rc ?_; intro w3 hr3 hb3 hk3 hs3))
    rw [HA.out]
    exact ret_iv rfl rfl hr3 ⟨rfl, hg ▸ HM.out.put hb3⟩
  | false =>
    go_wp2_with fail
    refine (isEntire_any bl bh w1).mono ?_
    rintro e w2 ⟨rfl, hb2⟩
    replace HM := Aside.mk (HM.out.below hb2)
    clear hb2 c0 c1 d0 d1
    obtain ⟨c0, c1, d0, d1⟩ := HM.out.cells
    obtain ⟨e2, he2⟩ : ∃ b, isEnt bl bh = b := ⟨_, rfl⟩
    rw [he2] at HA ⊢
    clear he2
    cases e2 with
    | true =>
      go_wp2_with fail
      refine (entire_any w2).mono ?_
      rintro e w3 ⟨rfl, hb3⟩
      replace HM := Aside.mk (HM.out.below hb3)
      clear hb3 c0 c1 d0 d1
      go_wp2_with (first | (refine wpList_store_iv rfl (.tmp 4) (.tmp 11) rfl (g + 1 + 1) _ _ rfl rfl _ _ HM.out.rc ?_; intro w4 hr4 hb4 hk4 hs4))
      rw [HA.out]
      exact ret_iv rfl rfl hr4 ⟨rfl, hg ▸ HM.out.put hb4⟩
    | false =>
      go_wp2_with fail
      refine (new_any (al + bl) (ah + bh) w2 (by omega) (by omega) (by omega) (by omega)).mono ?_
      rintro e w3 ⟨rfl, hb3⟩
      replace HM := Aside.mk (HM.out.below hb3)
      clear hb3 c0 c1 d0 d1
      unfold ivV
      go_wp2_with (first | (refine wpList_store_iv rfl (.tmp 4) (.tmp 22) rfl (g + 1 + 1) _ _ rfl rfl _ _ HM.out.rc ?_; intro w4 hr4 hb4 hk4 hs4))
      rw [HA.out]
      exact ret_iv rfl rfl hr4 ⟨rfl, hg ▸ HM.out.put hb4⟩
theorem enters_neg : ∀ args w, (callFunc 72 args).run Tryz.prog w = .ok (.enter 72 args) w := fun args w => by kernel_rfl
theorem enters_side : ∀ args w, (callFunc 146 args).run Tryz.prog w = .ok (.enter 146 args) w := fun args w => by kernel_rfl
theorem enters_mag : ∀ args w, (callFunc 118 args).run Tryz.prog w = .ok (.enter 118 args) w := fun args w => by kernel_rfl
theorem enters_pick : ∀ args w, (callFunc 148 args).run Tryz.prog w = .ok (.enter 148 args) w := fun args w => by kernel_rfl
def sideI (l h : Int) : Int := if h ≤ 0 then 0 else if 0 ≤ l then 2 else 1
set_option maxRecDepth 100000 in
set_option maxHeartbeats 8000000 in
theorem side_any (l h : Int) (w : World) : Calls Tryz.prog 146 #[.agg #[.int .i64 l, .int .i64 h]] w fun e w' => e = .returned (.int .i64 (sideI l h)) ∧ Below w.heap.size w w' := by
  have hal : Below w.heap.size w (w.alloc (.cells #[.int .i64 l, .int .i64 h] 29)) := (Below.refl _ _).alloc (Nat.le_refl _) _
  have HB := Aside.mk hal
  clear hal
  by_cases h1 : h ≤ 0
  · have HS : Aside (sideI l h = 0) := ⟨if_pos h1⟩
    go_enter Tryz.func146, Tryz.ntmps146
    go_wp2_with fail
    go_ret
    rw [HS.out]; exact ⟨rfl, HB.out⟩
  · by_cases h2 : 0 ≤ l
    · have HS : Aside (sideI l h = 2) := ⟨by unfold sideI; rw [if_neg h1, if_pos h2]⟩
      go_enter Tryz.func146, Tryz.ntmps146
      go_wp2_with fail
      go_ret
      rw [HS.out]; exact ⟨rfl, HB.out⟩
    · have HS : Aside (sideI l h = 1) := ⟨by unfold sideI; rw [if_neg h1, if_neg h2]⟩
      go_enter Tryz.func146, Tryz.ntmps146
      go_wp2_with fail
      go_ret
      rw [HS.out]; exact ⟨rfl, HB.out⟩
set_option maxRecDepth 100000 in
set_option maxHeartbeats 8000000 in
theorem mag_any (l h : Int) (w : World) (h1 : -2147483648 ≤ l) (h2 : l ≤ 2147483648) : Calls Tryz.prog 118 #[.agg #[.int .i64 l, .int .i64 h]] w fun e w' => e = .returned (.int .i64 (max h (-l))) ∧ Below w.heap.size w w' := by
  have hal : Below w.heap.size w (w.alloc (.cells #[.int .i64 l, .int .i64 h] 29)) := (Below.refl _ _).alloc (Nat.le_refl _) _
  have HB := Aside.mk hal
  clear hal
  go_enter Tryz.func118, Tryz.ntmps118
  go_wp2_with fail
  go_ret
  exact ⟨rfl, HB.out⟩
set_option maxRecDepth 100000 in
set_option maxHeartbeats 8000000 in
theorem pick_any (b : Bool) (x y : Int) (w : World) : Calls Tryz.prog 148 #[.bool b, .int .i64 x, .int .i64 y] w fun e w' => e = .returned (.int .i64 (if b then x else y)) ∧ Below w.heap.size w w' := by
  cases b with
  | true =>
    go_enter Tryz.func148, Tryz.ntmps148
    go_wp2_with fail
    go_ret
    exact ⟨rfl, Below.refl _ _⟩
  | false =>
    go_enter Tryz.func148, Tryz.ntmps148
    go_wp2_with fail
    go_ret
    exact ⟨rfl, Below.refl _ _⟩
set_option maxRecDepth 100000 in
set_option maxHeartbeats 8000000 in
theorem contains0_any (l h : Int) (w : World) (hv : okI (l, h)) (he : isEnt l h = false) : Calls Tryz.prog 147 #[.agg #[.int .i64 l, .int .i64 h], .int .i64 0] w fun e w' => e = .returned (.bool (decide (l ≤ 0) && decide (0 ≤ h))) ∧ Below w.heap.size w w' := by
  have hal : Below w.heap.size w (w.alloc (.cells #[.int .i64 l, .int .i64 h] 29)) := (Below.refl _ _).alloc (Nat.le_refl _) _
  have HB := Aside.mk hal
  have hr := heap_alloc_last w (.cells #[.int .i64 l, .int .i64 h] 29)
  have HR := Aside.mk hr
  have HE := Aside.mk he
  clear hal hr hv he
  go_enter Tryz.func147, Tryz.ntmps147
  go_wp2_with fail
  obtain ⟨g, hg⟩ : ∃ g, w.heap.size = g := ⟨_, rfl⟩
  rw [hg] at HR HB
  simp only [hg]
  generalize w.alloc (.cells #[.int .i64 l, .int .i64 h] 29) = W at HB HR ⊢
  refine (isEntire_any l h W).mono ?_
  rintro e w1 ⟨rfl, hb1⟩
  rw [HE.out]
  have hr1 : w1.heap[g]? = some (.cells #[.int .i64 l, .int .i64 h] 29 (0, 0)) := (hb1.block _ (heap_lt HR.out)).trans HR.out
  have c0 : w1.cell? ⟨g, 0, none⟩ = some (.int .i64 l) := by rw [cell_of_row _ _ 0 _ _ _ hr1]; rfl
  have c1 : w1.cell? ⟨g, 1, none⟩ = some (.int .i64 h) := by rw [cell_of_row _ _ 1 _ _ _ hr1]; rfl
  have HB1 := Aside.mk (HB.out.trans (hb1.mono (Nat.le_of_lt (heap_lt HR.out))))
  clear hb1 hr1 HR
  by_cases h1 : l ≤ 0
  · by_cases h2 : 0 ≤ h
    · have HX : Aside ((decide (l ≤ 0) && decide (0 ≤ h)) = true) := ⟨by rw [decide_eq_true h1, decide_eq_true h2]; rfl⟩
      go_wp2_with fail
      go_ret
      rw [HX.out]; exact ⟨by first | rfl | simp [h1, h2] | trace_state, hg ▸ HB1.out⟩
    · have HX : Aside ((decide (l ≤ 0) && decide (0 ≤ h)) = false) := ⟨by rw [decide_eq_false h2, Bool.and_false]⟩
      go_wp2_with fail
      go_ret
      rw [HX.out]; exact ⟨by first | rfl | simp [h1, h2] | trace_state, hg ▸ HB1.out⟩
  · have HX : Aside ((decide (l ≤ 0) && decide (0 ≤ h)) = false) := ⟨by rw [decide_eq_false h1]; rfl⟩
    go_wp2_with fail
    go_ret
    rw [HX.out]; exact ⟨by first | rfl | simp [h1] | trace_state, hg ▸ HB1.out⟩
end Go.Proofs.YthcidkidpiaomaaGreatDoor.Od
end
