/- OeD OeE OeF -/
import Derived.Test.YthcidkidpiaomaaGreatDoorKb22
import Derived.Test.YthcidkidpiaomaaGreatDoorKb18
import Derived.Test.YthcidkidpiaomaaGreatDoorKb08
section
set_option linter.unusedVariables false
set_option linter.unusedSimpArgs false
namespace Go.Proofs.YthcidkidpiaomaaGreatDoor.Od
open Go.RowKit Rg
structure Fs (w : World) (v : Value) (fs : List (List Nd)) : Prop where
  out : (fs = [] ∧ ∃ ao c, v = .slice ao 0 c) ∨ ∃ (b o c : Nat) (us : List Value), v = .slice (some ⟨b, o, none⟩) fs.length c ∧ us.length = fs.length ∧ (∀ (j : Nat) (u : Value), us[j]? = some u → w.cell? ⟨b, o + j, none⟩ = some u) ∧
    ∀ (j : Nat) (u : Value) (e : List Nd), us[j]? = some u → fs[j]? = some e → RdN w u e
  few : fs.length ≤ 90000
theorem Fs.below {w w' : World} {v : Value} {fs : List (List Nd)} (h : Fs w v fs) (hb : Below w.heap.size w w') : Fs w' v fs := by
  refine ⟨?_, h.few⟩
  rcases h.out with h0 | ⟨b, o, c, us, hv, hl, hc, hr⟩
  · exact Or.inl h0
  · exact Or.inr ⟨b, o, c, us, hv, hl, fun j u hu => by rw [hb.cell (World.block_lt_of_cell? w _ (hc j u hu))]; exact hc j u hu, fun j u e hu he => (hr j u e hu he).below hb⟩
theorem Fs.slice {w : World} {v : Value} {fs : List (List Nd)} (h : Fs w v fs) : ∃ ao c, v = .slice ao fs.length c := by
  rcases h.out with ⟨rfl, ao, c, hv⟩ | ⟨b, o, c, us, hv, -⟩
  · exact ⟨ao, c, hv⟩
  · exact ⟨_, c, hv⟩
theorem okNames_cons (x : List UInt8) (r seen : List (List UInt8)) : okNames (x :: r) seen = (okName x && !seen.contains x && okNames r (seen ++ [x])) := rfl
theorem strL_drop (xs : List ByteArray) (i : Nat) (h : i < xs.length) : (strL xs).drop i = xs[i].data.toList :: (strL xs).drop (i + 1) := by
  unfold strL
  rw [← List.map_drop, ← List.map_drop, List.drop_eq_getElem_cons h]; rfl
theorem strL_take (xs : List ByteArray) (i : Nat) (h : i < xs.length) : (strL xs).take (i + 1) = (strL xs).take i ++ [xs[i].data.toList] := by
  unfold strL
  rw [List.take_add_one, List.getElem?_map, List.getElem?_eq_getElem h]; rfl
theorem Strs.take {w : World} {b off c : Nat} {xs : List ByteArray} (hc : ∀ j, j < xs.length → w.cell? ⟨b, off + j, none⟩ = some (.string xs[j]!)) (i : Nat) (hi : i ≤ xs.length) (hcap : i ≤ c) (hf : xs.length ≤ 90000) : Strs w (.slice (some ⟨b, off, none⟩) i c) (xs.take i) := by
  have hl : (xs.take i).length = i := by rw [List.length_take]; omega
  refine ⟨Or.inr ⟨b, off, c, by rw [hl], by rw [hl]; exact hcap, fun j hj => ?_⟩, by omega⟩
  rw [hl] at hj
  rw [hc j (by omega)]
  congr 2
  rw [getElem!_pos xs j (by omega), getElem!_pos (xs.take i) j (by omega), List.getElem_take]
set_option maxRecDepth 100000 in
set_option maxHeartbeats 8000000 in
theorem Valid_any (vn vf : Value) (xs : List ByteArray) (fs : List (List Nd)) (w : World) (hn : Strs w vn xs) (hf : Fs w vf fs) :
    Calls Tryz.prog 16 #[.agg #[vn, vf]] w fun e w' => e = .returned (.bool (okSys (strL xs) fs)) ∧ Below w.heap.size w w' := by
  have HV : Aside (okSys (strL xs) fs = (decide (1 ≤ (strL xs).length) && decide ((strL xs).length ≤ 6) && decide (fs.length = (strL xs).length) && okNames (strL xs) [] && fs.all (okEx (strL xs).length))) := ⟨rfl⟩
  have hsl : (strL xs).length = xs.length := by unfold strL; rw [List.length_map]
  rw [hsl] at HV
  obtain ⟨ao, c, hvn⟩ := hn.slice
  obtain ⟨ao', c', hvf⟩ := hf.slice
  obtain ⟨N, hN⟩ : ∃ N, xs.length = N := ⟨_, rfl⟩
  obtain ⟨M, hM⟩ : ∃ M, fs.length = M := ⟨_, rfl⟩
  have HN := Aside.mk hn
  have HFS := Aside.mk hf
  have HNL := Aside.mk hN
  have HML := Aside.mk hM
  have HSL := Aside.mk hsl
  rw [hN] at HV hvn
  rw [hM] at HV hvf
  clear hn hf hN hM hsl
  have hal : Below w.heap.size w (w.alloc (.cells #[vn, vf] 25)) := (Below.refl _ _).alloc (Nat.le_refl _) _
  have HR := Aside.mk (heap_alloc_last w (.cells #[vn, vf] 25))
  have HB := Aside.mk hal
  clear hal
  by_cases h1 : N < 1
  · have h1' : (N : Int) < 1 := by omega
    have d1 : decide ((N : Int) < 1) = true := by simpa using h1'
    have HV : Aside (okSys (strL xs) fs = false) := ⟨by rw [HV.out, show decide (1 ≤ N) = false by simpa using h1]; rfl⟩
    subst hvn hvf
    go_enter Tryz.func16, Tryz.ntmps16
    go_wp2_with fail
    go_ret
    rw [HV.out]
    exact ⟨rfl, HB.out⟩
  · have h1' : ¬ ((N : Int) < 1) := by omega
    have d1 : decide ((N : Int) < 1) = false := by simpa using h1'
    by_cases h6 : N ≤ 6
    · have h6' : ¬ ((6 : Int) < (N : Int)) := by omega
      have d6 : decide ((6 : Int) < (N : Int)) = false := by simpa using h6'
      by_cases hMN : M = N
      · have hne : ((M : Int) != (N : Int)) = false := by rw [hMN]; simp
        have HV9 : Aside (okSys (strL xs) fs = (okNames (strL xs) [] && fs.all (okEx (N : Nat)))) := ⟨by
          rw [HV.out, decide_eq_true (show 1 ≤ N by omega), decide_eq_true h6, decide_eq_true hMN]; rfl⟩
        clear HV
        rcases HN.out.out with ⟨hx0, -⟩ | ⟨bn, on, cn, hvn2, hcpn, hcn⟩
        · exfalso; have := HNL.out; rw [hx0] at this; simp at this; omega
        · rcases HFS.out.out with ⟨hf0, -⟩ | ⟨bf, of, cf, us, hvf2, hul, hcf, hrf⟩
          · exfalso; have := HML.out; rw [hf0] at this; simp at this; omega
          · rw [HNL.out] at hvn2
            rw [HML.out] at hvf2
            have HCN := Aside.mk hcn
            have HCF := Aside.mk hcf
            have HRF := Aside.mk hrf
            have HUL := Aside.mk hul
            have HCP := Aside.mk hcpn
            clear hvn hvf hcn hcf hrf hul hcpn
            subst hvn2 hvf2 hMN
            go_enter Tryz.func16, Tryz.ntmps16
            go_wp2_with fail
            obtain ⟨gs, hgs⟩ : ∃ gs, w.heap.size = gs := ⟨_, rfl⟩
            rw [hgs] at HR
            simp only [hgs]
            have HGS := Aside.mk hgs
            generalize w.alloc (.cells #[.slice (some ⟨bn, on, none⟩) M cn, .slice (some ⟨bf, of, none⟩) M cf] 25) = W at HR HB ⊢
            clear hgs
            go_loopg [25] M (fun m v25 wr => ∃ (i : Nat), v25 = .int .i64 (i : Nat) ∧ Aside (i ≤ M ∧ M - i ≤ m) ∧ Aside (okSys (strL xs) fs = (okNames ((strL xs).drop i) ((strL xs).take i) && (fs.drop i).all (okEx (M : Nat)))) ∧ Aside (Below w.heap.size w wr) ∧ Aside (wr.heap[gs]? = some (.cells #[.slice (some ⟨bn, on, none⟩) M cn, .slice (some ⟨bf, of, none⟩) M cf] 25 (0, 0))))
            case atStart => exact ⟨0, rfl, ⟨by omega⟩, HV9, HB, HR⟩
            case round =>
              clear HR HB HV9
              obtain ⟨i, rfl, HI, HV, HB, HR⟩ := hrel
              by_cases hi : i < M
              · have hi' : (i : Int) < (M : Int) := by omega
                have hix : i < xs.length := by rw [HNL.out]; exact hi
                obtain ⟨x, hx⟩ : ∃ x, xs[i]! = x := ⟨_, rfl⟩
                have hxe : xs[i] = x := by rw [← hx, getElem!_pos xs i hix]
                have cn0 : wr.cell? ⟨bn, on + i, none⟩ = some (.string x) := by
                  have := HCN.out i hix
                  rw [hx] at this
                  rw [HB.out.cell (p := ⟨bn, on + i, none⟩) (World.block_lt_of_cell? w _ this)]; exact this
                obtain ⟨u, hu⟩ : ∃ u, us[i]? = some u := ⟨_, List.getElem?_eq_getElem (by rw [HUL.out, HML.out]; exact hi)⟩
                obtain ⟨e, he⟩ : ∃ e, fs[i]? = some e := ⟨_, List.getElem?_eq_getElem (by rw [HML.out]; exact hi)⟩
                have cf0 : wr.cell? ⟨bf, of + i, none⟩ = some u := by
                  have := HCF.out i u hu
                  rw [HB.out.cell (p := ⟨bf, of + i, none⟩) (World.block_lt_of_cell? w _ this)]; exact this
                have HRE := Aside.mk ((HRF.out i u e hu he).below HB.out)
                have hdn : (strL xs).drop i = x.data.toList :: (strL xs).drop (i + 1) := by rw [strL_drop xs i hix, hxe]
                have htn : (strL xs).take (i + 1) = (strL xs).take i ++ [x.data.toList] := by rw [strL_take xs i hix, hxe]
                have hdf : fs.drop i = e :: fs.drop (i + 1) := by
                  obtain ⟨hl, rfl⟩ := List.getElem?_eq_some_iff.1 he
                  exact List.drop_eq_getElem_cons hl
                have HV2 : Aside (okSys (strL xs) fs = (okName x.data.toList && !((strL xs).take i).contains x.data.toList && okNames ((strL xs).drop (i + 1)) ((strL xs).take (i + 1)) && (okEx (M : Nat) e && (fs.drop (i + 1)).all (okEx (M : Nat))))) := ⟨by
                  rw [HV.out, hdn, okNames_cons, hdf, List.all_cons, htn]⟩
                have HTK : Aside (strL (xs.take i) = (strL xs).take i) := ⟨by unfold strL; rw [List.map_take]⟩
                have c0 : wr.cell? ⟨gs, 0, none⟩ = some (.slice (some ⟨bn, on, none⟩) M cn) := by rw [cell_of_row _ _ 0 _ _ _ HR.out]; rfl
                have c1 : wr.cell? ⟨gs, 1, none⟩ = some (.slice (some ⟨bf, of, none⟩) M cf) := by rw [cell_of_row _ _ 1 _ _ _ HR.out]; rfl
                obtain ⟨aoe, ce, hue⟩ := HRE.out.slice
                obtain ⟨le, hle⟩ : ∃ l, e.length = l := ⟨_, rfl⟩
                rw [hle] at hue
                subst hue
                clear hx hxe hu he hdn htn hdf hle HV
                go_wp2_with fail
                refine (validName_any x wr).mono ?_
                rintro e1 w1 ⟨rfl, hb1⟩
                have HB1 := Aside.mk (HB.out.trans (hb1.mono HB.out.size))
                have HR1 := Aside.mk ((hb1.block _ (lt_of HR.out)).trans HR.out)
                have HRE1 := Aside.mk (HRE.out.below hb1)
                have cf1 : w1.cell? ⟨bf, of + i, none⟩ = some (.slice aoe le ce) := by rw [hb1.cell (p := ⟨bf, of + i, none⟩) (World.block_lt_of_cell? wr _ cf0)]; exact cf0
                obtain ⟨q1, hq1⟩ : ∃ q, okName x.data.toList = q := ⟨_, rfl⟩
                rw [hq1] at HV2 ⊢
                clear hq1 hb1 cn0 cf0 c0 c1 HRE
                have c0 : w1.cell? ⟨gs, 0, none⟩ = some (.slice (some ⟨bn, on, none⟩) M cn) := by rw [cell_of_row _ _ 0 _ _ _ HR1.out]; rfl
                have c1 : w1.cell? ⟨gs, 1, none⟩ = some (.slice (some ⟨bf, of, none⟩) M cf) := by rw [cell_of_row _ _ 1 _ _ _ HR1.out]; rfl
                cases q1 with
                | false =>
                  have HA : Aside (okSys (strL xs) fs = false) := ⟨by rw [HV2.out]; rfl⟩
                  go_wp2_with fail
                  go_ret
                  rw [HA.out]
                  exact ⟨rfl, HB1.out⟩
                | true =>
                  have hic : i ≤ cn := by have := HCP.out; have := HNL.out; omega
                  have hic' : (i : Int) ≤ (cn : Int) := by omega
                  have HST := Aside.mk (Strs.take (fun j hj => by
                    have := HCN.out j hj
                    rw [HB1.out.cell (p := ⟨bn, on + j, none⟩) (World.block_lt_of_cell? w _ this)]; exact this : ∀ j, j < xs.length → w1.cell? ⟨bn, on + j, none⟩ = some (.string xs[j]!)) i (by have := HNL.out; omega) hic (HN.out.few))
                  go_wp2_with fail
                  refine (contains_any w1 _ (xs.take i) HST.out x).mono ?_
                  rintro e1 w2 ⟨rfl, rfl⟩
                  rw [HTK.out]
                  obtain ⟨q2, hq2⟩ : ∃ q, ((strL xs).take i).contains x.data.toList = q := ⟨_, rfl⟩
                  rw [hq2] at HV2 ⊢
                  clear hq2
                  cases q2 with
                  | true =>
                    have HA : Aside (okSys (strL xs) fs = false) := ⟨by rw [HV2.out]; rfl⟩
                    go_wp2_with fail
                    go_ret
                    rw [HA.out]
                    exact ⟨rfl, HB1.out⟩
                  | false =>
                    go_wp2_with fail
                    refine (validExpr_any _ e (M : Nat) w2 HRE1.out).mono ?_
                    rintro e1 w3 ⟨rfl, hb3⟩
                    have HB3 := Aside.mk (HB1.out.trans (hb3.mono HB1.out.size))
                    have HR3 := Aside.mk ((hb3.block _ (lt_of HR1.out)).trans HR1.out)
                    obtain ⟨q3, hq3⟩ : ∃ q, okEx (M : Nat) e = q := ⟨_, rfl⟩
                    rw [hq3] at HV2 ⊢
                    clear hq3 hb3
                    cases q3 with
                    | false =>
                      have HA : Aside (okSys (strL xs) fs = false) := ⟨by rw [HV2.out]; simp⟩
                      go_wp2_with fail
                      go_ret
                      rw [HA.out]
                      exact ⟨rfl, HB3.out⟩
                    | true =>
                      have HA : Aside (okSys (strL xs) fs = (okNames ((strL xs).drop (i + 1)) ((strL xs).take (i + 1)) && (fs.drop (i + 1)).all (okEx (M : Nat)))) := ⟨by rw [HV2.out]; simp⟩
                      go_wp2_with fail
                      obtain ⟨go, hgo⟩ : ∃ go, gk = go + 1 := ⟨gk - 1, by have := HI.out; omega⟩
                      go_roundg go
                      case measure => omega
                      case rel => exact ⟨i + 1, rfl, ⟨by have := HI.out; omega⟩, HA, HB3, HR3⟩
              · have hi' : ¬ ((i : Int) < (M : Int)) := by omega
                have HA : Aside (okSys (strL xs) fs = true) := ⟨by
                  rw [HV.out, List.drop_of_length_le (by rw [HSL.out, HNL.out]; omega), List.drop_of_length_le (by rw [HML.out]; omega)]; rfl⟩
                go_wp2_with fail
                go_ret
                rw [HA.out]
                exact ⟨rfl, HB.out⟩
      · have hne : ((M : Int) != (N : Int)) = true := by simp; omega
        have HV : Aside (okSys (strL xs) fs = false) := ⟨by rw [HV.out]; simp [hMN]⟩
        subst hvn hvf
        go_enter Tryz.func16, Tryz.ntmps16
        go_wp2_with fail
        go_ret
        rw [HV.out]
        exact ⟨rfl, HB.out⟩
    · have h6' : (6 : Int) < (N : Int) := by omega
      have d6 : decide ((6 : Int) < (N : Int)) = true := by simpa using h6'
      have HV : Aside (okSys (strL xs) fs = false) := ⟨by rw [HV.out]; simp [h6]⟩
      subst hvn hvf
      go_enter Tryz.func16, Tryz.ntmps16
      go_wp2_with fail
      go_ret
      rw [HV.out]
      exact ⟨rfl, HB.out⟩
end Go.Proofs.YthcidkidpiaomaaGreatDoor.Od
end
section
set_option linter.unusedVariables false
namespace Go.Proofs.YthcidkidpiaomaaGreatDoor.Od
theorem bind_inv {α β : Type} {m : Pr α} {f : α → Pr β} {s s' : PS} {b : β} (h : (m.bind f) s = .ok b s') : ∃ a s1, m s = .ok a s1 ∧ f a s1 = .ok b s' := by
  unfold Pr.bind at h
  cases hm : m s with
  | ok a s1 => rw [hm] at h; exact ⟨a, s1, rfl, h⟩
  | err c o => rw [hm] at h; cases h
theorem bind_einv {α β : Type} {m : Pr α} {f : α → Pr β} {s : PS} {c : Int} {o : Nat} (h : (m.bind f) s = .err c o) : m s = .err c o ∨ ∃ a s1, m s = .ok a s1 ∧ f a s1 = .err c o := by
  unfold Pr.bind at h
  cases hm : m s with
  | ok a s1 => rw [hm] at h; exact Or.inr ⟨a, s1, rfl, h⟩
  | err c' o' => rw [hm] at h; simp only at h; injection h with e1 e2; left; rw [e1, e2]
def Nam (L : List UInt8) (t : Tok) : Prop := t.kind = 1 ∧ t.lo < t.hi ∧ t.hi ≤ L.length
section
variable {L : List UInt8} {N0 : Nat}
theorem Nice.lineStart : Nice L N0 (Od.lineStart L) (fun t _ => Nam L t) := by
  intro s h1 h2 h3
  have hk := peekT_ok true L s.pos h1
  have hle := hk.le
  have hlen := hk.len
  unfold Od.lineStart
  simp only
  split
  · exact Nice.at (Nice.fail (P := fun t _ => Nam L t)) h1 h2 h3 (by omega)
  · rename_i hc
    have hk1 : (peekT true L s.pos).kind = 1 := by
      cases Classical.em ((peekT true L s.pos).kind = 1) with
      | inl h => exact h
      | inr h => exact absurd (Or.inl h) hc
    have h3' := hk.some (Or.inl hk1)
    exact Nice.at ((Nice.expect _).bind fun _ _ _ _ => (Nice.expect _).bind fun _ _ _ _ => Nice.ret (P := fun t _ => Nam L t) _ fun _ _ => ⟨hk1, h3', hlen⟩) h1 h2 h3 hlen
theorem Nice.skipNl : ∀ k b N0, Nice L N0 (Od.skipNl L k b) All
  | 0, b, N0 => Nice.ret b fun _ _ => trivial
  | k + 1, b, N0 => (Nice.accept _).bind fun a N1 _ _ => by
    cases a with
    | true => exact Nice.skipNl k true N1
    | false => exact Nice.ret b fun _ _ => trivial
theorem skipNl_ge : ∀ k b (σ : PS) a σ', σ.pos ≤ L.length → Od.skipNl L k b σ = .ok a σ' → σ.pos ≤ σ'.pos
  | 0, b, σ, a, σ', hs, h => by cases h; exact Nat.le_refl _
  | k + 1, b, σ, a, σ', hs, h => by
    obtain ⟨c, s1, h1, h2⟩ := bind_inv h
    have := Goes.accept (nl := true) [10] σ c s1 hs h1
    cases c with
    | true => have := skipNl_ge k true s1 a σ' this.2 h2; omega
    | false => cases h2; omega
structure LinesOk (L : List UInt8) (ns : List Tok) (es : List Tr) (σ : PS) : Prop where
  len : ns.length = es.length
  vars : ∀ t ∈ es, Vrs t σ.names.length
  names : ∀ t ∈ ns, Nam L t
  nodes : (es.map fun t => (flat t).length).sum + ns.length ≤ σ.pos
  pos : σ.pos ≤ L.length
  low : ∀ r ∈ σ.names, r.1 < L.length
theorem lineStart_ge {σ : PS} {t : Tok} {σ' : PS} (hs : σ.pos ≤ L.length) (h : Od.lineStart L σ = .ok t σ') : σ.pos + 1 ≤ σ'.pos := by
  have hg := peekT_ge true L σ.pos
  have hok := peekT_ok true L σ.pos hs
  unfold Od.lineStart at h
  simp only at h
  split at h
  · cases h
  · rename_i hc
    have hk : (peekT true L σ.pos).kind = 1 := by
      cases Classical.em ((peekT true L σ.pos).kind = 1) with
      | inl h => exact h
      | inr h => exact absurd (Or.inl h) hc
    have h3 := hok.some (Or.inl hk)
    have := ((Goes.expect (nl := true) (L := L) [39]).bind fun _ => (Goes.expect (nl := true) (L := L) [61]).bind fun _ => Goes.ret (L := L) (peekT true L σ.pos)) _ _ _ hok.len h
    have := this.1
    simp only at this
    omega
theorem lines_ok : ∀ (k : Nat) (ns : List Tok) (es : List Tr) (σ : PS), LinesOk L ns es σ → (∀ r σ', Od.lines L k ns es σ = .ok r σ' → LinesOk L r.1 r.2 σ' ∧ 1 ≤ r.1.length) ∧ (∀ c o, Od.lines L k ns es σ = .err c o → ErrAt L c o)
  | 0, ns, es, σ, h => ⟨fun r σ' hr => (by cases hr), fun c o hr =>
      ((Nice.fail (nl := true) (L := L) (N0 := 0) (P := All) : Nice L 0 (Od.fail true L : Pr (List Tok × List Tr)) All) σ h.pos h.low (Nat.zero_le _)).2 c o hr⟩
  | k + 1, ns, es, σ, h => by
    have nl := (Nice.lineStart (L := L) (N0 := 0)) σ h.pos h.low (Nat.zero_le _)
    have step : ∀ t σ1, Od.lineStart L σ = .ok t σ1 → ∀ e σ2, Od.sum true L (L.length + 1) σ1 = .ok e σ2 → ∀ b σ3, Od.skipNl L (L.length + 1) false σ2 = .ok b σ3 →
        LinesOk L (ns ++ [t]) (es ++ [e]) { σ3 with pos := (peekT true L σ3.pos).lo } := by
      intro t σ1 h1 e σ2 h2 b σ3 h3
      obtain ⟨p1, n1, l1, q1⟩ := nl.1 t σ1 h1
      obtain ⟨p2, n2, l2, q2⟩ := ((Nice.sum (nl := true) (L := L) (L.length + 1) 0) σ1 p1 l1 (Nat.zero_le _)).1 e σ2 h2
      obtain ⟨p3, n3, l3, -⟩ := ((Nice.skipNl (L := L) (L.length + 1) false 0) σ2 p2 l2 (Nat.zero_le _)).1 b σ3 h3
      have g1 := lineStart_ge h.pos h1
      have g2 := Gr.sum (nl := true) (L := L) (L.length + 1) σ1 e σ2 p1 h2
      have g3 := skipNl_ge _ _ σ2 b σ3 p2 h3
      have g4 := peekT_ge true L σ3.pos
      have hok := peekT_ok true L σ3.pos p3
      have := hok.le
      have := hok.len
      have hn := h.nodes
      refine ⟨by simp [h.len], fun x hx => ?_, fun x hx => ?_, ?_, by show (peekT true L σ3.pos).lo ≤ L.length; omega, l3⟩
      · rcases List.mem_append.1 hx with hx | hx
        · exact (h.vars x hx).mono (by show σ.names.length ≤ σ3.names.length; omega)
        · obtain rfl := List.mem_singleton.1 hx
          exact q2.mono n3
      · rcases List.mem_append.1 hx with hx | hx
        · exact h.names x hx
        · obtain rfl := List.mem_singleton.1 hx
          exact q1
      · show ((es ++ [e]).map fun t => (flat t).length).sum + (ns ++ [t]).length ≤ (peekT true L σ3.pos).lo
        simp only [List.map_append, List.sum_append, List.map_cons, List.map_nil, List.sum_cons, List.sum_nil, List.length_append, List.length_singleton]
        omega
    refine ⟨fun r σ' hr => ?_, fun c o hr => ?_⟩
    · unfold Od.lines at hr
      obtain ⟨t, σ1, h1, hr⟩ := bind_inv hr
      obtain ⟨e, σ2, h2, hr⟩ := bind_inv hr
      obtain ⟨b, σ3, h3, hr⟩ := bind_inv hr
      have st := step t σ1 h1 e σ2 h2 b σ3 h3
      simp only at hr
      split at hr
      · injection hr with e1 e2
        subst e1; subst e2
        exact ⟨st, by simp⟩
      · split at hr
        · exact (lines_ok k _ _ _ st).1 r σ' hr
        · cases hr
    · unfold Od.lines at hr
      rcases bind_einv hr with hr | ⟨t, σ1, h1, hr⟩
      · exact nl.2 c o hr
      · obtain ⟨p1, n1, l1, q1⟩ := nl.1 t σ1 h1
        rcases bind_einv hr with hr | ⟨e, σ2, h2, hr⟩
        · exact ((Nice.sum (nl := true) (L := L) (L.length + 1) 0) σ1 p1 l1 (Nat.zero_le _)).2 c o hr
        · obtain ⟨p2, n2, l2, q2⟩ := ((Nice.sum (nl := true) (L := L) (L.length + 1) 0) σ1 p1 l1 (Nat.zero_le _)).1 e σ2 h2
          rcases bind_einv hr with hr | ⟨b, σ3, h3, hr⟩
          · exact ((Nice.skipNl (L := L) (L.length + 1) false 0) σ2 p2 l2 (Nat.zero_le _)).2 c o hr
          · have st := step t σ1 h1 e σ2 h2 b σ3 h3
            simp only at hr
            split at hr
            · cases hr
            · split at hr
              · exact (lines_ok k _ _ _ st).2 c o hr
              · exact ((Nice.fail (nl := true) (L := L) (N0 := 0) (P := All) : Nice L 0 (Od.fail true L : Pr (List Tok × List Tr)) All) _ st.pos st.low (Nat.zero_le _)).2 c o hr
theorem allLines_ok : (∀ r σ', Od.allLines L ⟨0, [], false⟩ = .ok r σ' → LinesOk L r.1 r.2 σ' ∧ 1 ≤ r.1.length) ∧ (∀ c o, Od.allLines L ⟨0, [], false⟩ = .err c o → ErrAt L c o) := by
  have ns := (Nice.skipNl (L := L) (L.length + 1) false 0) ⟨0, [], false⟩ (Nat.zero_le _) (by simp) (Nat.zero_le _)
  have start : ∀ b σ1, Od.skipNl L (L.length + 1) false ⟨0, [], false⟩ = .ok b σ1 → LinesOk L [] [] σ1 := fun b σ1 h1 => by
    obtain ⟨p1, n1, l1, -⟩ := ns.1 b σ1 h1
    exact ⟨rfl, fun t ht => (by cases ht), fun t ht => (by cases ht), by simp, p1, l1⟩
  refine ⟨fun r σ' h => ?_, fun c o h => ?_⟩
  · obtain ⟨b, σ1, h1, h2⟩ := bind_inv h
    exact (lines_ok _ [] [] σ1 (start b σ1 h1)).1 r σ' h2
  · rcases bind_einv h with h | ⟨b, σ1, h1, h2⟩
    · exact ns.2 c o h
    · exact (lines_ok _ [] [] σ1 (start b σ1 h1)).2 c o h2
end
end Go.Proofs.YthcidkidpiaomaaGreatDoor.Od
end
section
set_option linter.unusedVariables false
set_option linter.unusedSimpArgs false
namespace Go.Proofs.YthcidkidpiaomaaGreatDoor.Od
open Go.RowKit Rg
theorem info_str : (Tryz.prog.info? 9).map (fun i => (i.zero, i.size, i.bytes)) = some (some (.string ⟨#[]⟩), 1, 16) := by kernel_rfl
theorem wpList_append_str (w : World) {ops : Array Oper} {rest : List Oper} {o : Oper} {a : Act} {Q : Exit → Act → World → Prop} (hg : o.guard = none) (p x : Operand) (hop : o.op = Op.call { callee := Callee.builtin Builtin.append, args := #[p, x], argTypes := #[22, 22] })
    (base : Nat) (v : Value) (xs : List ByteArray) (n : Nat) (hn : xs.length = n) (hs : a.eval p = v) (h : w.ownsRow base 9 1 v n (xs.map Value.string)) (y : ByteArray) (gk : Nat) (hx : a.eval x = .slice (some ⟨gk, 0, none⟩) 1 1)
    (hr : w.heap[gk]? = some (.cells #[.string y] 9 (0, 0))) (hbd : n ≤ 9000) (hbase : base ≤ w.heap.size)
    (hK : ∀ ao cap w', w'.ownsRow base 9 1 (.slice ao (n + 1) cap) (n + 1) ((xs ++ [y]).map Value.string) → Below base w w' → wpList Tryz.prog ops Q rest (a.put o.dst (.slice ao (n + 1) cap)) w') :
    wpList Tryz.prog ops Q (o :: rest) a w := by
  subst hn
  obtain ⟨i0, hi, hz0, hz1, hz2⟩ := info_parts' info_str
  have hcell : ∀ (j : Nat) (u : Value), [Value.string y][j]? = some u → w.cell? ((⟨gk, 0, none⟩ : Addr).add j) = some u := by
    intro j u hu
    cases j with
    | zero =>
      obtain rfl := Option.some.inj hu
      have := cell_of_row w gk 0 _ _ _ hr
      simpa [Addr.add] using this
    | succ j => cases hu
  have hone : ∀ u ∈ [Value.string y], u.oneCell' = true := by
    intro u hu
    obtain rfl := List.mem_singleton.1 hu
    rfl
  refine wpList_append_own_at w hg p x _ hop base 9 i0 _ 1 16 Tryz.underlying22 hi hz0 hz1 hz2 rfl (by omega) v xs.length _ hs h ⟨gk, 0, none⟩ 1 1 [Value.string y] hx rfl hcell hone (by simp only [maxLen]; omega) (by omega) hbase ?_
  intro v' w' hown' hgr _ hat
  have hv : ∃ ao cap, v' = .slice ao (xs.length + 1) cap := by
    obtain ⟨-, h2⟩ := hown'
    rcases h2 with ⟨rfl, hn⟩ | ⟨g', cap, cur, rfl, -⟩
    · omega
    · exact ⟨_, _, rfl⟩
  obtain ⟨ao, cap, rfl⟩ := hv
  exact hK ao cap w' (by simpa using hown') ((Below.refl base w).grown hgr hbase (fun k hk => (World.ownsRow.lt h k hk).1))
theorem strs_row {w : World} {base : Nat} {v : Value} {xs : List ByteArray} (h : w.ownsRow base 9 1 v xs.length (xs.map Value.string)) (hf : xs.length ≤ 9000) : Strs w v xs := by
  have h' := h
  obtain ⟨h1, h2⟩ := h
  rcases h2 with ⟨rfl, hn⟩ | ⟨g, cap, cur, rfl, hg, hh, hcap, hm, hs, ht⟩
  · exact ⟨Or.inl ⟨List.length_eq_zero_iff.1 hn, none, 0, by rfl⟩, by omega⟩
  · refine ⟨Or.inr ⟨g, 0, cap, rfl, hcap, fun j hj => ?_⟩, by omega⟩
    rw [Nat.zero_add, World.ownsRow.cellAt h' j (by omega), List.getElem?_map, getElem!_pos xs j hj, List.getElem?_eq_getElem hj]; rfl
structure SumsN (base : Nat) (w : World) (v : Value) (us : List Value) (es : List (List Nd)) : Prop where
  row : w.ownsRow base 26 1 v us.length us
  len : us.length = es.length
  own : ∀ (i : Nat) (u : Value) (e : List Nd), us[i]? = some u → es[i]? = some e → OwnN base w u e
  apart : ∀ (i j : Nat) (u v : Value) (k l : Nat), i < j → us[i]? = some u → us[j]? = some v → u.ownBlock = some k → v.ownBlock = some l → k < l
theorem Sums.nodes {base : Nat} {w : World} {v : Value} {us : List Value} {ts : List Tr} (h : Sums base w v us ts) : SumsN base w v us (ts.map flat) :=
  ⟨h.row, by simp [h.len], fun i u e hu he => by
    rw [List.getElem?_map] at he
    cases ht : ts[i]? with
    | none => rw [ht] at he; cases he
    | some t =>
      rw [ht] at he
      obtain rfl := Option.some.inj he
      exact h.own i u t hu ht, h.apart⟩
theorem SumsN.below {base : Nat} {w w' : World} {v : Value} {us : List Value} {es : List (List Nd)} (h : SumsN base w v us es) (hb : Below w.heap.size w w') : SumsN base w' v us es :=
  ⟨owns_below h.row hb, h.len, fun i u e hu he => owns_below (h.own i u e hu he) hb, h.apart⟩
theorem SumsN.set {base : Nat} {w w' : World} {v u : Value} {us : List Value} {es : List (List Nd)} {i gv : Nat} {e' : List Nd} (h : SumsN base w v us es) (hu : us[i]? = some u) (hg : u.ownBlock = some gv) (hf : FrN (fun k => k ≠ gv) w w') (ho : OwnN base w' u e') : SumsN base w' v us (es.set i e') := by
  refine ⟨owns_fr h.row hf (by decide), by simp [h.len], fun j y e hy he => ?_, h.apart⟩
  by_cases hij : i = j
  · subst hij
    rw [hu] at hy
    obtain rfl := Option.some.inj hy
    have hl : i < es.length := by have := (List.getElem?_eq_some_iff.1 hu).1; have := h.len; omega
    rw [List.getElem?_set_self hl] at he
    obtain rfl := Option.some.inj he
    exact ho
  · rw [List.getElem?_set_ne hij] at he
    refine owns_in (h.own j y e hy he) hf fun k hk hkg => ?_
    subst hkg
    rcases Nat.lt_or_gt_of_ne hij with hlt | hlt
    · exact absurd (h.apart i j u y _ _ hlt hu hy hg hk) (Nat.lt_irrefl _)
    · exact absurd (h.apart j i y u _ _ hlt hy hu hk hg) (Nat.lt_irrefl _)
theorem SumsN.fs {base : Nat} {w : World} {v : Value} {us : List Value} {es : List (List Nd)} (h : SumsN base w v us es) (hf : es.length ≤ 9000) (hl : ∀ e ∈ es, e.length ≤ 9000) : Fs w v es := by
  have hr := h.row
  obtain ⟨h1, h2⟩ := hr
  rcases h2 with ⟨rfl, hn⟩ | ⟨g, cap, cur, rfl, hg, hh, hcap, hm, hs, ht⟩
  · exact ⟨Or.inl ⟨List.length_eq_zero_iff.1 (by rw [← h.len]; exact hn), none, 0, rfl⟩, by omega⟩
  · refine ⟨Or.inr ⟨g, 0, cap, us, by rw [h.len], h.len, fun j u hu => ?_, fun j u e hu he => (h.own j u e hu he).rdN (hl e (List.mem_of_getElem? he))⟩, by omega⟩
    have hj := (List.getElem?_eq_some_iff.1 hu).1
    rw [Nat.zero_add, World.ownsRow.cellAt h.row j (by omega)]; exact hu
theorem tok_cells {w : World} {gs N cs : Nat} {s : ByteArray} {ns : List Tok} (h : w.ownsRow 0 108 3 (.slice (some ⟨gs, 0, none⟩) N cs) N (toks s (prs ns))) (hN : ns.length = N) {i : Nat} {t : Tok} (ht : ns[i]? = some t) :
    w.cell? ⟨gs, i * 3, none⟩ = some (.int .i64 1) ∧ w.cell? ⟨gs, i * 3 + 1, none⟩ = some (.string (s.extract t.lo t.hi)) ∧ w.cell? ⟨gs, i * 3 + 2, none⟩ = some (.int .i64 (t.lo : Nat)) := by
  have hi := (List.getElem?_eq_some_iff.1 ht).1
  have hp : (prs ns)[i]? = some (t.lo, t.hi) := by unfold prs; rw [List.getElem?_map, ht]; rfl
  have c0 := h.cellAt (i * 3 + 0) (by omega)
  have c1 := h.cellAt (i * 3 + 1) (by omega)
  have c2 := h.cellAt (i * 3 + 2) (by omega)
  rw [toks_get s _ _ _ 0 hp (by decide)] at c0
  rw [toks_get s _ _ _ 1 hp (by decide)] at c1
  rw [toks_get s _ _ _ 2 hp (by decide)] at c2
  exact ⟨c0, c1, c2⟩
theorem resAll_cons (L : List UInt8) (pn : List (Nat × Nat)) (vars : List (List UInt8)) (t : Tok) (ts : List Tok) (e : Tr) (es : List Tr) (seen : List (List UInt8)) : Od.resAll L pn vars (t :: ts) (e :: es) seen =
    if seen.contains (sub L t.lo t.hi) then .err t.lo 72
    else match Od.resolve L pn vars (flat e) with
      | (_, some o) => .err o 72
      | (e', none) => match Od.resAll L pn vars ts es (seen ++ [sub L t.lo t.hi]) with
        | .ok r => .ok (e' :: r)
        | .err o c => .err o c := rfl
theorem le_sum_of_mem : ∀ (l : List Nat) (x : Nat), x ∈ l → x ≤ l.sum
  | [], x, h => by cases h
  | y :: l, x, h => by
    rw [List.sum_cons]
    rcases List.mem_cons.1 h with rfl | h
    · omega
    · have := le_sum_of_mem l x h; omega
def more (d : List (List Nd)) : Ans (List (List Nd)) → Ans (List (List Nd))
  | .ok r => .ok (d ++ r)
  | .err o c => .err o c
theorem three_set {w : World} {g : Nat} {a b c d : Value} (h0 : w.heap[g]? = some (.cells #[a, b] 25 (0, 0))) (h1 : w.heap[g + 1]? = some (.cells #[c] 3 (0, 0))) (h2 : w.heap[g + 1 + 1]? = some (.cells #[d] 47 (0, 0))) (p q x y : Value) :
    ((((w.setCell ⟨g, 0, none⟩ p).setCell ⟨g, 1, none⟩ q).setCell ⟨g + 1, 0, none⟩ x).setCell ⟨g + 1 + 1, 0, none⟩ y).heap[g]? = some (.cells #[p, q] 25 (0, 0)) ∧
    ((((w.setCell ⟨g, 0, none⟩ p).setCell ⟨g, 1, none⟩ q).setCell ⟨g + 1, 0, none⟩ x).setCell ⟨g + 1 + 1, 0, none⟩ y).heap[g + 1]? = some (.cells #[x] 3 (0, 0)) ∧
    ((((w.setCell ⟨g, 0, none⟩ p).setCell ⟨g, 1, none⟩ q).setCell ⟨g + 1, 0, none⟩ x).setCell ⟨g + 1 + 1, 0, none⟩ y).heap[g + 1 + 1]? = some (.cells #[y] 47 (0, 0)) ∧
    Below g w ((((w.setCell ⟨g, 0, none⟩ p).setCell ⟨g, 1, none⟩ q).setCell ⟨g + 1, 0, none⟩ x).setCell ⟨g + 1 + 1, 0, none⟩ y) ∧
    (∀ k, k ≠ g → k ≠ g + 1 → k ≠ g + 1 + 1 → ((((w.setCell ⟨g, 0, none⟩ p).setCell ⟨g, 1, none⟩ q).setCell ⟨g + 1, 0, none⟩ x).setCell ⟨g + 1 + 1, 0, none⟩ y).heap[k]? = w.heap[k]?) := by
  have s1 := row_cell (i := 0) h0 p
  have s2 := row_cell (i := 1) s1 q
  have n1 : ((w.setCell ⟨g, 0, none⟩ p).setCell ⟨g, 1, none⟩ q).heap[g + 1]? = some (.cells #[c] 3 (0, 0)) := by
    rw [Below.heap_setCell _ _ _ _ (by show g + 1 ≠ g; omega), Below.heap_setCell _ _ _ _ (by show g + 1 ≠ g; omega)]; exact h1
  have n2 : ((w.setCell ⟨g, 0, none⟩ p).setCell ⟨g, 1, none⟩ q).heap[g + 1 + 1]? = some (.cells #[d] 47 (0, 0)) := by
    rw [Below.heap_setCell _ _ _ _ (by show g + 1 + 1 ≠ g; omega), Below.heap_setCell _ _ _ _ (by show g + 1 + 1 ≠ g; omega)]; exact h2
  have t1 := row_cell (i := 0) n1 x
  have t2 : (((w.setCell ⟨g, 0, none⟩ p).setCell ⟨g, 1, none⟩ q).setCell ⟨g + 1, 0, none⟩ x).heap[g + 1 + 1]? = some (.cells #[d] 47 (0, 0)) := by
    rw [Below.heap_setCell _ _ _ _ (by show g + 1 + 1 ≠ g + 1; omega)]; exact n2
  refine ⟨?_, ?_, row_cell (i := 0) t2 y, ?_, fun k k0 k1 k2 => ?_⟩
  · rw [Below.heap_setCell _ _ _ _ (by show g ≠ g + 1 + 1; omega), Below.heap_setCell _ _ _ _ (by show g ≠ g + 1; omega)]; exact s2
  · rw [Below.heap_setCell _ _ _ _ (by show g + 1 ≠ g + 1 + 1; omega)]; exact t1
  · exact ((((Below.refl _ _).setCell (p := ⟨g, 0, none⟩) (Nat.le_refl _) _).setCell (p := ⟨g, 1, none⟩) (Nat.le_refl _) _).setCell (p := ⟨g + 1, 0, none⟩) (by show g ≤ g + 1; omega) _).setCell (p := ⟨g + 1 + 1, 0, none⟩) (by show g ≤ g + 1 + 1; omega) _
  · rw [Below.heap_setCell _ _ _ _ k2, Below.heap_setCell _ _ _ _ k1, Below.heap_setCell _ _ _ _ k0, Below.heap_setCell _ _ _ _ k0]
theorem owns_keep {T : TypeId} {base sz n : Nat} {w w' : World} {v : Value} {xs : List Value} (h : w.ownsRow base T sz v n xs) (hk : ∀ k, base ≤ k → w'.heap[k]? = w.heap[k]?) : w'.ownsRow base T sz v n xs := by
  obtain ⟨g1, g2⟩ := h
  refine ⟨g1, ?_⟩
  rcases g2 with g2 | ⟨g', cap, cur, hv, hg, hh, r⟩
  · exact Or.inl g2
  · exact Or.inr ⟨g', cap, cur, hv, hg, by rw [hk g' hg]; exact hh, r⟩
theorem SumsN.keep {base : Nat} {w w' : World} {v : Value} {us : List Value} {es : List (List Nd)} (h : SumsN base w v us es) (hk : ∀ k, base ≤ k → w'.heap[k]? = w.heap[k]?) : SumsN base w' v us es :=
  ⟨owns_keep h.row hk, h.len, fun i u e hu he => owns_keep (h.own i u e hu he) hk, h.apart⟩
def SysPost (w : World) (s : ByteArray) (e : Ending) (w' : World) : Prop :=
  Below w.heap.size w w' ∧ match Od.parseSys s.data.toList with
    | .ok (names, fs) => ∃ vn vf xs, e = .returned (.tuple #[.agg #[vn, vf], .int .i64 0, .int .i64 0]) ∧ strL xs = names ∧ Strs w' vn xs ∧ Fs w' vf fs
    | .err o c => e = .returned (.tuple #[.agg #[.slice none 0 0, .slice none 0 0], .int .i64 (o : Nat), .int .i64 c])
end Go.Proofs.YthcidkidpiaomaaGreatDoor.Od
end
