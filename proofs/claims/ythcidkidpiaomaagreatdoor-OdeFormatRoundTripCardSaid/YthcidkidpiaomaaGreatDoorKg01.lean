/- OdT OdU OhE3 RegX OiD OiC OiG -/
import Derived.Test.YthcidkidpiaomaaGreatDoorKf11
import Derived.Test.YthcidkidpiaomaaGreatDoorKf10
import Derived.Test.YthcidkidpiaomaaGreatDoorKf21
import Derived.Test.YthcidkidpiaomaaGreatDoorKf05
import Derived.Test.YthcidkidpiaomaaGreatDoorKf06
import Derived.Test.YthcidkidpiaomaaGreatDoorKf25
import Derived.Test.YthcidkidpiaomaaGreatDoorKf18
import Derived.Test.YthcidkidpiaomaaGreatDoorKf20
section
set_option linter.unusedVariables false
namespace Go.Proofs.YthcidkidpiaomaaGreatDoor.Od
section
variable {nl : Bool} {L : List UInt8} {vars : List (List UInt8)} {p q : Nat} {R : List UInt8}
theorem stop_nil : Stop [] := by intro d hd; cases hd
end
end Go.Proofs.YthcidkidpiaomaaGreatDoor.Od
end
section
set_option linter.unusedVariables false
namespace Go.Proofs.YthcidkidpiaomaaGreatDoor.Od
theorem parseExpr_reads {L : List UInt8} {vars : List (List UInt8)} {p : Nat} {t : Tr} (h8 : L.length ≤ 8000) (hd : vars.Nodup) (hp : skp isWs L 0 = p) (hr : Reads L vars (Od.sum false L (L.length + 1)) p L.length t) (hok : okT vars t) (hl : (flat t).length ≤ 200) :
    parseExpr L vars = .ok (flat t) := by
  obtain ⟨nm, h1, h2⟩ := hr ⟨0, [], false⟩ hp
  unfold parseExpr
  rw [if_neg (by omega), h1]
  simp only [List.nil_append, List.length_nil]
  have hk : peekT false L L.length = ⟨0, L.length, L.length⟩ := by
    unfold peekT
    rw [skp_end isWs L _ (Nat.le_refl _)]
    exact tok_end ⟨by simp, Nat.le_refl _⟩
  rw [hk]
  simp only [ne_eq, not_true, if_false]
  rw [resolve_rn (idxOf_nodup hd) t 0 [] hok (by simpa using h2)]
  simp only
  rw [okEx_flat hok hl]
  rfl
theorem parseExpr_fmt {vars : List (List UInt8)} (hv : ∀ x ∈ vars, okName x = true) (hd : vars.Nodup) {t : Tr} (hok : okT vars t) (hl : (flat t).length ≤ 200) : parseExpr (fmtT vars t) vars = .ok (flat t) := by
  have hlen := fmtT_len hv t hok
  obtain ⟨c, r, ec, hcw, hc45⟩ := fmt_first hv t hok
  have a0 : At (fmtT vars t) 0 (fmtT vars t ++ []) := by rw [List.append_nil]; exact At.zero
  have hdl := dep_le hv t hok
  have hp : skp isWs (fmtT vars t) 0 = 0 := ws_at (R := r) (by rw [List.append_nil, ec] at a0; rw [ec]; exact a0) hcw
  have hat := atom_reads (nl := false) hv t hok (fmtT vars t).length 0 [] (by omega) a0 stop_nil
  rw [Nat.zero_add] at hat
  have hend : At (fmtT vars t) (fmtT vars t).length [] := by have := a0.next; rw [Nat.zero_add] at this; exact this
  have hwe : skp isWs (fmtT vars t) (fmtT vars t).length = (fmtT vars t).length := skp_end isWs _ _ (Nat.le_refl _)
  have hf : ∀ k, Reads (fmtT vars t) vars (Od.factor false (fmtT vars t) (Od.sum false (fmtT vars t) (fmtT vars t).length) (k + 1)) 0 (fmtT vars t).length t := fun k => Reads.factor (NotCh.at (R := r) (by rw [List.append_nil, ec] at a0; rw [ec]; exact a0) hc45) hat
  refine parseExpr_reads (p := 0) (by omega) hd hp ?_ hok hl
  have h1 : Reads (fmtT vars t) vars (Od.product false (fmtT vars t) (Od.sum false (fmtT vars t) (fmtT vars t).length) ((fmtT vars t).length + 1)) 0 (fmtT vars t).length t := Reads.chain (hf _) (by rw [hwe]; exact ReadsC.stop (NotCh.fin hend) (NotCh.fin hend))
  exact Reads.chain h1 (by rw [hwe]; exact ReadsC.stop (NotCh.fin hend) (NotCh.fin hend))
end Go.Proofs.YthcidkidpiaomaaGreatDoor.Od
end
section
set_option linter.unusedVariables false
set_option linter.unusedSimpArgs false
namespace Go.Proofs.YthcidkidpiaomaaGreatDoor.Od
open Go.RowKit Rg
theorem strs_n6 {w : World} {g : Nat} (h : w.heap[g]? = some (.cells #[.string ⟨#[120]⟩, .string ⟨#[121]⟩, .string ⟨#[118, 120]⟩, .string ⟨#[118, 121]⟩, .string ⟨#[97, 49]⟩, .string ⟨#[122, 122]⟩] 9 (0, 0))) (n : Nat) (hn : n ≤ 6) : Strs w (.slice (some ⟨g, 0, none⟩) n 6) (n6.take n) := by
  have := Strs.take (w := w) (b := g) (off := 0) (c := 6) (xs := n6) (fun j hj => by
    have hj : j < 6 := hj
    rw [cell_of_row _ _ (0 + j) _ _ _ h]
    rcases (show j = 0 ∨ j = 1 ∨ j = 2 ∨ j = 3 ∨ j = 4 ∨ j = 5 by omega) with rfl | rfl | rfl | rfl | rfl | rfl <;> rfl) n hn hn (by decide)
  exact this
set_option maxRecDepth 100000 in
set_option maxHeartbeats 8000000 in
theorem rVars_any (n : Nat) (hn : n ≤ 6) (w : World) : Calls Tryz.prog 30 #[.int .i64 (n : Nat)] w fun e w' => ∃ v, e = .returned v ∧ Strs w' v (n6.take n) ∧ Below w.heap.size w w' := by
  have HN := Aside.mk hn
  have h0 : (0 : Int) ≤ (n : Int) := by omega
  have h6 : (n : Int) ≤ 6 := by omega
  clear hn
  go_enter Tryz.func30, Tryz.ntmps30
  go_wp2_with fail
  go_ret
  exact ⟨_, rfl, strs_n6 (heap_alloc_last w _) n HN.out, (Below.refl _ _).alloc (Nat.le_refl _) _⟩
end Go.Proofs.YthcidkidpiaomaaGreatDoor.Od
end
section
set_option linter.unusedVariables false
namespace Go.Proofs.YthcidkidpiaomaaGreatDoor.Rg
open Go.RowKit
structure XD (D : List (Nat × Tmp)) (listed : Array Bool) (a : Act) (w : World) : Prop where
  hp : ∀ x ∈ D, listed.getD x.1 false = true → ∃ g, a.tmps.getD x.2 undef = .pointer (some ⟨g, 0, none⟩) ∧ g < w.heap.size
  ne : ∀ x ∈ D, ∀ y ∈ D, x ≠ y → listed.getD x.1 false = true → listed.getD y.1 false = true → a.tmps.getD x.2 undef ≠ a.tmps.getD y.2 undef
section
variable {P : Program} {T : Tab} {Q : Exit → Act → World → Prop} {a0 : Act} {w0 : World} {D : List (Nat × Tmp)}
theorem XD.start {listed : Array Bool} {a : Act} {w : World} (h : ∀ i, listed.getD i false = false) : XD D listed a w :=
  ⟨fun x _ e => (by rw [h x.1] at e; cases e), fun x _ y _ _ e => (by rw [h x.1] at e; cases e)⟩
theorem XD.keep {listed : Array Bool} {a : Act} {w w' : World} {i : Nat} {d : Option Tmp} {v : Value} (h : XD D listed a w) (h1 : ∀ x ∈ D, ¬ i = x.1) (h3 : ∀ x ∈ D, d ≠ some x.2) (hs : w.heap.size ≤ w'.heap.size) :
    XD D (listed.setIfInBounds i true) (a.put d v) w' := by
  have e1 : ∀ x ∈ D, (a.put d v).tmps.getD x.2 undef = a.tmps.getD x.2 undef := fun x hx => put_other a d v x.2 (h3 x hx)
  refine ⟨fun x hx e => ?_, fun x hx y hy hn e e' => ?_⟩
  · rw [listed_off (fun z => h1 x hx z.symm)] at e
    obtain ⟨g, hg, hl⟩ := h.hp x hx e
    exact ⟨g, by rw [e1 x hx]; exact hg, by omega⟩
  · rw [listed_off (fun z => h1 x hx z.symm)] at e
    rw [listed_off (fun z => h1 y hy z.symm)] at e'
    rw [e1 x hx, e1 y hy]; exact h.ne x hx y hy hn e e'
theorem XD.add {listed : Array Bool} {a : Act} {w w' : World} (h : XD D listed a w) {z : Nat × Tmp} (hz : z ∈ D) (hs : w'.heap.size = w.heap.size + 1) (hd : z.2 < a.tmps.size) (hD : ∀ x ∈ D, x ≠ z → x.1 ≠ z.1 ∧ x.2 ≠ z.2) :
    XD D (listed.setIfInBounds z.1 true) (a.put (some z.2) (.pointer (some ⟨w.heap.size, 0, none⟩))) w' := by
  have e0 := put_same a z.2 (.pointer (some ⟨w.heap.size, 0, none⟩)) hd
  have e1 : ∀ x ∈ D, x ≠ z → (a.put (some z.2) (.pointer (some ⟨w.heap.size, 0, none⟩))).tmps.getD x.2 undef = a.tmps.getD x.2 undef := fun x hx hn => put_other a _ _ x.2 (fun e => (hD x hx hn).2 (Option.some.inj e).symm)
  have key : ∀ x ∈ D, x ≠ z → (listed.setIfInBounds z.1 true).getD x.1 false = true → ∃ g, (a.put (some z.2) (.pointer (some ⟨w.heap.size, 0, none⟩))).tmps.getD x.2 undef = .pointer (some ⟨g, 0, none⟩) ∧ g < w.heap.size := fun x hx hn e => by
    rw [listed_off (hD x hx hn).1] at e
    obtain ⟨g, hg, hl⟩ := h.hp x hx e
    exact ⟨g, by rw [e1 x hx hn]; exact hg, hl⟩
  have off : ∀ g, g < w.heap.size → (.pointer (some ⟨g, 0, none⟩) : Value) ≠ .pointer (some ⟨w.heap.size, 0, none⟩) := fun g hg e => by
    injection e with e
    injection e with e
    injection e with e
    omega
  refine ⟨fun x hx e => ?_, fun x hx y hy hn e e' => ?_⟩
  · by_cases hxz : x = z
    · subst hxz; exact ⟨_, e0, by omega⟩
    · obtain ⟨g, hg, hl⟩ := key x hx hxz e
      exact ⟨g, hg, by omega⟩
  · by_cases hxz : x = z
    · subst hxz
      obtain ⟨g, hg, hl⟩ := key y hy (fun e => hn e.symm) e'
      rw [e0, hg]; exact fun e => off g hl e.symm
    · by_cases hyz : y = z
      · subst hyz
        obtain ⟨g, hg, hl⟩ := key x hx hn e
        rw [e0, hg]; exact off g hl
      · rw [e1 x hx hxz, e1 y hy hyz]
        rw [listed_off (hD x hx hxz).1] at e
        rw [listed_off (hD y hy hyz).1] at e'
        exact h.ne x hx y hy hn e e'
end
end Go.Proofs.YthcidkidpiaomaaGreatDoor.Rg
end
section
set_option linter.unusedVariables false
set_option linter.unusedSimpArgs false
namespace Go.Proofs.YthcidkidpiaomaaGreatDoor.Od
open Go.RowKit Rg
theorem row_slice {w : World} {base n sz : Nat} {T : TypeId} {v : Value} {us : List Value} (h : w.ownsRow base T sz v n us) : ∃ a l c, v = .slice a l c := by
  obtain ⟨-, h3⟩ := h
  rcases h3 with ⟨h3, -⟩ | ⟨g', cap', cur', h3, -⟩
  · exact ⟨_, _, _, h3⟩
  · exact ⟨_, _, _, h3⟩
theorem append_mk (a b : List UInt8) : (⟨a.toArray⟩ : ByteArray) ++ ⟨b.toArray⟩ = ⟨(a ++ b).toArray⟩ := by
  apply ByteArray.ext; simp
theorem size_mk2 (l : List UInt8) : ByteArray.size ⟨l.toArray⟩ = l.length := by simp [ByteArray.size]
theorem dig_row {u : Nat} (h : u < 10) : (#[.int .u8 (48 + (u : Int))] : Array Value) = (Lib.byteCells (Lib.decDigits u)).toArray := by
  rw [Lib.decDigits_one h]
  have : (UInt8.ofNat (48 + u)).toNat = 48 + u := by rw [UInt8.toNat_ofNat']; omega
  simp [Lib.byteCells, this]
  omega
set_option maxRecDepth 100000 in
set_option maxHeartbeats 8000000 in
theorem rFormatInt_any : ∀ (u : Nat), u ≤ 10000000000 → ∀ w, Calls Tryz.prog 160 #[.int .i64 (u : Nat)] w fun e w' => e = .returned (.string ⟨(Lib.decDigits u).toArray⟩) ∧ Below w.heap.size w w' := by
  intro u
  induction u using Nat.strongRecOn with
  | _ u ih =>
  intro hu w
  have HIH := Aside.mk ih
  have HU : Aside ((u : Int) ≤ 10000000000) := ⟨by omega⟩
  have hu9 : (u : Int) ≤ 10000000000 := by omega
  clear ih hu
  by_cases h : u < 10
  · have h' : (u : Int) < 10 := by omega
    have hcv : (convert 70 9 (.slice (some ⟨w.heap.size, 0, none⟩) 1 1)).run Tryz.prog (w.alloc (.cells #[.int .u8 (48 + (u : Int))] 5)) = .ok (.string ⟨(Lib.decDigits u).toArray⟩) (w.alloc (.cells #[.int .u8 (48 + (u : Int))] 5)) :=
      conv_row (L := Lib.decDigits u) (m := (0, 0)) (by rw [heap_alloc_last, dig_row h]) 1 1 (by rw [Lib.decDigits_one h]; rfl)
    clear h
    go_enter Tryz.func160, Tryz.ntmps160
    go_wp2_with fail
    go_ret
    exact ⟨rfl, (Below.refl _ _).alloc (Nat.le_refl _) _⟩
  · have h' : ¬ (u : Int) < 10 := by omega
    have HE : Aside ((u : Int) / 10 = ((u / 10 : Nat) : Int) ∧ (u : Int) % 10 = ((u % 10 : Nat) : Int)) := ⟨by omega, by omega⟩
    have HL : Aside ((Lib.decDigits (u / 10)).length ≤ u / 10 + 1 ∧ (Lib.decDigits (u % 10)).length ≤ u % 10 + 1) := ⟨Fx.decDigits_len _, Fx.decDigits_len _⟩
    have HS : Aside (Lib.decDigits u = Lib.decDigits (u / 10) ++ Lib.decDigits (u % 10)) := ⟨by
      rw [Lib.decDigits_one (Nat.mod_lt u (by omega)), Lib.decDigits, dif_neg h]⟩
    have HLT : Aside (u / 10 < u ∧ u % 10 < u) := ⟨by omega⟩
    clear h
    go_enter Tryz.func160, Tryz.ntmps160
    go_wp2_with fail
    rw [HE.out.1]
    refine (HIH.out (u / 10) HLT.out.1 (by have := HU.out; omega) w).mono ?_
    rintro e w1 ⟨rfl, hb1⟩
    have HB := Aside.mk hb1
    obtain ⟨S, hS⟩ : ∃ S : ByteArray, ⟨(Lib.decDigits (u / 10)).toArray⟩ = S := ⟨_, rfl⟩
    have hS1 : (S.size : Int) ≤ 1000000001 := by rw [← hS, size_mk2]; have := HL.out; have := HU.out; omega
    have HSS := Aside.mk hS
    rw [hS]
    clear hb1 hS
    go_wp2_with fail
    rw [HE.out.2]
    refine (HIH.out (u % 10) HLT.out.2 (by have := HU.out; omega) w1).mono ?_
    rintro e w2 ⟨rfl, hb2⟩
    replace HB := Aside.mk (HB.out.trans (hb2.mono HB.out.size))
    obtain ⟨T, hT⟩ : ∃ T : ByteArray, ⟨(Lib.decDigits (u % 10)).toArray⟩ = T := ⟨_, rfl⟩
    have hT1 : (T.size : Int) ≤ 10 := by rw [← hT, size_mk2]; have := HL.out; omega
    have HTT := Aside.mk hT
    rw [hT]
    clear hb2 hT
    go_wp2_with fail
    go_ret
    exact ⟨by rw [HS.out, ← HSS.out, ← HTT.out, append_mk]; rfl, HB.out⟩
theorem frac_step {f : Int} (h0 : 0 ≤ f) (h1 : f < 65536) (hf : 0 < f) (g : Nat) : Fx.fracL (g + 1) f = Lib.decDigits (f * 10 / 65536).toNat ++ Fx.fracL g (f * 10 % 65536) := by
  rw [Lib.decDigits_one (by omega)]
  simp only [Fx.fracL]
  rw [if_neg (by omega)]; rfl
set_option maxRecDepth 100000 in
set_option maxHeartbeats 8000000 in
theorem rFormatPos_any (x : Int) (h0 : 0 ≤ x) (h1 : x < 2147483649) (w : World) : Calls Tryz.prog 140 #[.int .i64 x] w fun e w' => e = .returned (.string ⟨(Fx.fmtP x).toArray⟩) ∧ Below w.heap.size w w' := by
  obtain ⟨X, rfl⟩ : ∃ X : Nat, x = X := ⟨x.toNat, by omega⟩
  have h' : ¬ (X : Int) < 0 := by omega
  have HX : Aside ((X : Int) < 2147483649) := ⟨h1⟩
  have HE : Aside ((X : Int) / 65536 = ((X / 65536 : Nat) : Int)) := ⟨by omega⟩
  have HL : Aside ((Lib.decDigits (X / 65536)).length ≤ X / 65536 + 1) := ⟨Fx.decDigits_len _⟩
  clear h0
  go_enter Tryz.func140, Tryz.ntmps140
  go_wp2_with fail
  rw [HE.out]
  refine (rFormatInt_any (X / 65536) (by have := HX.out; omega) w).mono ?_
  rintro e w1 ⟨rfl, hb1⟩
  have HB := Aside.mk hb1
  obtain ⟨S, hS⟩ : ∃ S : ByteArray, ⟨(Lib.decDigits (X / 65536)).toArray⟩ = S := ⟨_, rfl⟩
  have hS1 : (S.size : Int) ≤ 40000 := by rw [← hS, size_mk2]; have := HL.out; have := HX.out; omega
  have HSS := Aside.mk hS
  rw [hS]
  obtain ⟨R, hR⟩ : ∃ R : Nat, X % 65536 = R := ⟨_, rfl⟩
  have hR2 : (X : Int) % 65536 = (R : Int) := by omega
  have HR : Aside (R < 65536) := ⟨by omega⟩
  have HP : Aside (Fx.fmtP (X : Int) = Lib.decDigits (X / 65536) ++ (if R = 0 then [] else 46 :: Fx.fracL 16 (R : Int))) := ⟨by
    unfold Fx.fmtP
    rw [hR2, show ((X : Int) / 65536).toNat = X / 65536 by omega]
    by_cases h : R = 0
    · rw [if_pos h, if_pos (by omega)]
    · rw [if_neg h, if_neg (by omega)]⟩
  have hSL : Aside (S.data.toList = Lib.decDigits (X / 65536)) := ⟨by rw [← hS]⟩
  clear hb1 hS h1 hR HE HL
  by_cases h : R = 0
  case' pos =>
    have hz : ¬ (0 : Int) < (R : Int) := by omega
    have HI0 : Aside (S.data.toList ++ Fx.fracL 16 (R : Int) = Fx.fmtP (X : Int)) := ⟨by rw [HP.out, if_pos h, hSL.out, h]; simp [Fx.fracL]⟩
    clear h
    go_wp2_with fail
    obtain ⟨S0, hS0⟩ : ∃ S0, S = S0 := ⟨_, rfl⟩
  case' neg =>
    have hz : (0 : Int) < (R : Int) := by omega
    have HI0 : Aside ((S ++ ⟨#[46]⟩).data.toList ++ Fx.fracL 16 (R : Int) = Fx.fmtP (X : Int)) := ⟨by rw [HP.out, if_neg h, ByteArray.data_append]; simp [hSL.out]⟩
    clear h
    go_wp2_with fail
    obtain ⟨S0, hS0⟩ : ∃ S0, S ++ ⟨#[46]⟩ = S0 := ⟨_, rfl⟩
  all_goals
  have hs0 : Aside (S0.size ≤ 40001) := ⟨by
    rw [← hS0]
    first | omega | (rw [ByteArray.size_append]; show S.size + 1 ≤ _; omega)⟩
  rw [hS0] at HI0
  simp only [hS0]
  clear hS0 hz hS1 hSL
  try generalize decide (0 < R) = bz
  have HR1 := Aside.mk (show 0 ≤ (R : Int) ∧ (R : Int) < 65536 by have := HR.out; omega)
  go_loopg [3, 4] 16 (fun m v3 v4 wr => ∃ (T : ByteArray) (f : Int) (g : Nat), v3 = .string T ∧ v4 = .int .i64 f ∧ Aside (g ≤ m ∧ T.size + g ≤ 40017) ∧ Aside (0 ≤ f ∧ f < 65536) ∧ Aside ((65536 : Int) ∣ f * 2 ^ g) ∧ Aside (T.data.toList ++ Fx.fracL g f = Fx.fmtP (X : Int)) ∧ Aside (Below w.heap.size w wr))
  case atStart => exact ⟨S0, R, 16, rfl, by rw [hR2], ⟨Nat.le_refl _, by have := hs0.out; omega⟩, HR1, ⟨Fx.dvd_start _⟩, HI0, HB⟩
  case round =>
    clear HI0 HB hR2 HP HR
    obtain ⟨T, f, g, rfl, rfl, HG, HF, HD, HI0, HB⟩ := hrel
    by_cases hf : 0 < f
    · obtain ⟨g, rfl⟩ : ∃ k, g = k + 1 := by
        cases g with
        | zero =>
          have h1 := HD.out
          rw [Int.pow_zero, Int.mul_one] at h1
          have := Int.emod_eq_zero_of_dvd h1
          have := HF.out
          omega
        | succ k => exact ⟨k, rfl⟩
      have hF6 : f < 65536 := HF.out.2
      obtain ⟨Q, hQ⟩ : ∃ Q : Nat, f * 10 / 65536 = (Q : Int) := ⟨(f * 10 / 65536).toNat, by omega⟩
      have HQ : Aside (f * 10 / 65536 = (Q : Int) ∧ Q < 10) := ⟨hQ, by omega⟩
      have HI1 : Aside ((T ++ ⟨(Lib.decDigits Q).toArray⟩).data.toList ++ Fx.fracL g (f * 10 % 65536) = Fx.fmtP (X : Int)) := ⟨by
        rw [← HI0.out, frac_step HF.out.1 HF.out.2 hf g, show (f * 10 / 65536).toNat = Q by omega, ByteArray.data_append]; simp⟩
      have HD1 := Aside.mk (Fx.dvd_round HD.out)
      have HLD : Aside ((Lib.decDigits Q).length = 1) := ⟨by rw [Lib.decDigits_one HQ.out.2]; rfl⟩
      have hT1 : (T.size : Int) ≤ 40017 := by have := HG.out; omega
      clear hQ
      go_wp2_with fail
      rw [HQ.out.1]
      refine (rFormatInt_any Q (by have := HQ.out; omega) wr).mono ?_
      rintro e w2 ⟨rfl, hb2⟩
      replace HB := Aside.mk (HB.out.trans (hb2.mono HB.out.size))
      obtain ⟨U, hU⟩ : ∃ U : ByteArray, ⟨(Lib.decDigits Q).toArray⟩ = U := ⟨_, rfl⟩
      have hU1 : (U.size : Int) ≤ 1 := by rw [← hU, size_mk2, HLD.out]; omega
      have HSZ : Aside ((T ++ U).size + g ≤ 40017) := ⟨by rw [ByteArray.size_append]; have := HG.out; omega⟩
      rw [hU] at HI1 ⊢
      clear hb2 hU
      go_wp2_with fail
      obtain ⟨go, hgo⟩ : ∃ go, gk = go + 1 := ⟨gk - 1, by have := HG.out; omega⟩
      go_roundg go
      case measure => omega
      case rel => exact ⟨T ++ U, f * 10 % 65536, g, rfl, rfl, ⟨by have := HG.out; omega, HSZ.out⟩, ⟨by omega⟩, HD1, HI1, HB⟩
    · have HT : Aside (T = ⟨(Fx.fmtP (X : Int)).toArray⟩) := ⟨by
        have h0 : f = 0 := by have := HF.out; omega
        subst h0
        have h1 := HI0.out
        have h2 : Fx.fracL g 0 = [] := by cases g <;> simp [Fx.fracL]
        rw [h2, List.append_nil] at h1
        exact mk_str h1⟩
      clear HI0
      go_wp2_with fail
      go_ret
      exact ⟨by rw [HT.out]; rfl, HB.out⟩
set_option maxRecDepth 100000 in
set_option maxHeartbeats 8000000 in
theorem rFormat1_any (x : Int) (h0 : -2147483649 < x) (h1 : x < 2147483649) (w : World) : Calls Tryz.prog 140 #[.int .i64 x] w fun e w' => e = .returned (.string ⟨(Fx.fmtL x).toArray⟩) ∧ Below w.heap.size w w' := by
  by_cases h : x < 0
  · have HP : Aside (⟨#[45]⟩ ++ ⟨(Fx.fmtP (-x)).toArray⟩ = (⟨(Fx.fmtL x).toArray⟩ : ByteArray)) := ⟨by unfold Fx.fmtL; rw [if_pos h, show (⟨#[45]⟩ : ByteArray) = ⟨([45] : List UInt8).toArray⟩ from rfl, append_mk]; rfl⟩
    have HN := Aside.mk (rFormatPos_any (-x) (by omega) (by omega) w)
    have HL : Aside ((Fx.fmtP (-x)).length ≤ 40000) := ⟨by
      have hl := Fx.decDigits_len ((-x) / 65536).toNat
      have hf : ∀ (g : Nat) (f : Int), (Fx.fracL g f).length ≤ g := by
        intro g
        induction g with
        | zero => intro f; simp [Fx.fracL]
        | succ g ih =>
          intro f
          simp only [Fx.fracL]
          split
          · simp
          · simp only [List.length_cons]; have := ih (f * 10 % 65536); omega
      have := hf 16 ((-x) % 65536)
      unfold Fx.fmtP
      rw [List.length_append]
      split
      · simp only [List.length_nil]; omega
      · simp only [List.length_cons]; omega⟩
    go_enter Tryz.func140, Tryz.ntmps140
    go_wp2_with fail
    refine HN.out.mono ?_
    rintro e w1 ⟨rfl, hb⟩
    have HB := Aside.mk hb
    obtain ⟨U, hU⟩ : ∃ U : ByteArray, ⟨(Fx.fmtP (-x)).toArray⟩ = U := ⟨_, rfl⟩
    have hU1 : (U.size : Int) ≤ 40000 := by rw [← hU, size_mk2]; have := HL.out; omega
    rw [hU] at HP ⊢
    clear hb hU HN HL
    go_wp2_with fail
    go_ret
    exact ⟨by rw [← HP.out]; rfl, HB.out⟩
  · have := rFormatPos_any x (by omega) h1 w
    unfold Fx.fmtL
    rw [if_neg h]
    exact this
end Go.Proofs.YthcidkidpiaomaaGreatDoor.Od
end
section
set_option linter.unusedVariables false
set_option linter.unusedSimpArgs false
namespace Go.Proofs.YthcidkidpiaomaaGreatDoor.Od
open Go.RowKit Rg Go.ChangeShapes Go.WideShapes Go.ChangeAt
theorem own_lt {w : World} {base n sz : Nat} {T : TypeId} {v : Value} {us : List Value} (h : w.ownsRow base T sz v n us) : v.ownBlock ≠ some w.heap.size := by
  obtain ⟨-, h2⟩ := h
  rcases h2 with ⟨rfl, -⟩ | ⟨g', cap, cur, rfl, -, hh, -⟩
  · intro e; cases e
  · intro e
    have := heap_lt hh
    have e' : g' = w.heap.size := Option.some.inj e
    omega
theorem RawI.at {G : Nat} {w : World} {ao : Option Addr} {L c : Nat} {e : List Iv} (h : RawI G w (.slice ao L c) e) {i : Nat} (hi : i < L) : ∃ b o x, ao = some ⟨b, o, none⟩ ∧ b < G ∧ w.cell? ⟨b, o + i * 2, none⟩ = some (.int .i64 x.1) ∧ w.cell? ⟨b, o + i * 2 + 1, none⟩ = some (.int .i64 (x : Iv).2) := by
  obtain ⟨ao', c', hv, -, -, hc, -⟩ := h
  injection hv with h1 h2 h3
  subst h1
  obtain ⟨x, hx⟩ : ∃ x, e[i]? = some x := ⟨_, List.getElem?_eq_getElem (by omega)⟩
  obtain ⟨b, o, h4, h5, h6, h7⟩ := hc i x hx
  exact ⟨b, o, x, h4, h5, h6, by rw [Nat.add_assoc]; exact h7⟩
structure Ints (w : World) (v : Value) (ps : List Int) : Prop where
  out : ∃ ao c, v = .slice ao ps.length c ∧ ∀ j p, ps[j]? = some p → ∃ b o, ao = some ⟨b, o, none⟩ ∧ w.cell? ⟨b, o + j, none⟩ = some (.int .i64 p)
  few : ps.length ≤ 9000
theorem Ints.below {w w' : World} {v : Value} {ps : List Int} (h : Ints w v ps) (hb : Below w.heap.size w w') : Ints w' v ps := by
  obtain ⟨⟨ao, c, hv, hc⟩, hf⟩ := h
  refine ⟨⟨ao, c, hv, fun j p hp => ?_⟩, hf⟩
  obtain ⟨b, o, h1, h2⟩ := hc j p hp
  exact ⟨b, o, h1, by rw [hb.cell (World.block_lt_of_cell? w _ h2)]; exact h2⟩
def RawU (G : Nat) (w : World) (v : Value) (l : List Int) : Prop :=
  ∃ ao c, v = .slice ao l.length c ∧ ∀ i x, l[i]? = some x → 0 ≤ x ∧ x ≤ 65535 ∧ ∃ b o, ao = some ⟨b, o, none⟩ ∧ b < G ∧ w.cell? ⟨b, o + i, none⟩ = some (.int .u16 x)
theorem RawU.below {G : Nat} {w w' : World} {v : Value} {l : List Int} (h : RawU G w v l) (hb : Below w.heap.size w w') : RawU G w' v l := by
  obtain ⟨ao, c, hv, hc⟩ := h
  refine ⟨ao, c, hv, fun i x hx => ?_⟩
  obtain ⟨h1, h2, b, o, h3, h4, h5⟩ := hc i x hx
  exact ⟨h1, h2, b, o, h3, h4, by rw [hb.cell (World.block_lt_of_cell? w _ h5)]; exact h5⟩
section
variable {H : Type} {enc : TypeId × Value → H} {W : World} {n : Nat}
end
end Go.Proofs.YthcidkidpiaomaaGreatDoor.Od
end
section
set_option linter.unusedVariables false
set_option linter.unusedSimpArgs false
namespace Go.Proofs.YthcidkidpiaomaaGreatDoor.Od
open Go.RowKit Rg
structure KP where
  P : Value → World → Prop
  keep : ∀ u w w', P u w → Below w.heap.size w w' → P u w'
inductive Sy
  | val (v : Value)
  | pr (p : KP)
def Sy.ok : Sy → Value → World → Prop
  | .val v, u, _ => u = v
  | .pr p, u, w => p.P u w
def taby (l : List Sy) : Tab := ⟨fun i v w => ((l[i]?).getD (.val .nilFunc)).ok v w, true, fun i v w w' h hb hs => by
  revert h
  generalize (l[i]?).getD (.val .nilFunc) = s
  intro h
  cases s with
  | val u => exact h
  | pr p => exact p.keep _ _ _ h (hs rfl)⟩
def Sy.told : Sy → Option Value
  | .val v => some v
  | _ => none
theorem tells_y (L : List Sy) : Rg.Tells (taby L) (L.map Sy.told) := tells_of Sy.ok Sy.told (.val .nilFunc) (fun s v h u w => by cases s <;> simp_all [Sy.told, Sy.ok]) L _ (fun _ _ _ => rfl)
def kNew (z : Array Value) (T : TypeId) (N : Nat) : KP := ⟨fun u w => ∃ g, N ≤ g ∧ u = .pointer (some ⟨g, 0, none⟩) ∧ w.heap[g]? = some (.cells z T (0, 0)), fun u w w' ⟨g, h1, h2, h3⟩ hb => ⟨g, h1, h2, (hb.block g (heap_lt h3)).trans h3⟩⟩
def kTree (n : Nat) : KP := ⟨fun u w => ∃ t, okN n t ∧ (flat t).length ≤ 31 ∧ Ex w u t, fun u w w' ⟨t, h1, h2, h3⟩ hb => ⟨t, h1, h2, h3.below hb⟩⟩
structure Sys3 (n : Nat) (w : World) (vn vs : Value) (ts : List Tr) : Prop where
  nm : Strs w vn (n6.take n)
  fs : Fs w vs (ts.map flat)
  len : ts.length = n
  ok : ∀ t ∈ ts, okN n t
  l31 : ∀ t ∈ ts, (flat t).length ≤ 31
theorem Sys3.below {n : Nat} {w w' : World} {vn vs : Value} {ts : List Tr} (h : Sys3 n w vn vs ts) (hb : Below w.heap.size w w') : Sys3 n w' vn vs ts := ⟨h.nm.below hb, h.fs.below hb, h.len, h.ok, h.l31⟩
def kSys (n : Nat) : KP := ⟨fun u w => ∃ vn vs ts, u = .agg #[vn, vs] ∧ Sys3 n w vn vs ts, fun u w w' ⟨vn, vs, ts, h1, h2⟩ hb => ⟨vn, vs, ts, h1, h2.below hb⟩⟩
theorem enters_msys : ∀ args w, (callFunc 18 args).run Tryz.prog w = .ok (.enter 18 args) w := fun args w => by kernel_rfl
theorem rMadeSys_k (af : Option Addr) (lf cf : Nat) (fs : List (List Nd)) (most n : Nat) (hn : 1 ≤ n ∧ n ≤ 6) (w : World) (G : Nat) (hG : G ≤ w.heap.size) (h : RawF G w (.slice af lf cf) fs) :
    Calls Tryz.prog 18 #[.slice af lf cf, .int .i64 (most : Nat), .int .i64 (n : Nat)] w fun e w' => ∃ v, e = .returned v ∧ Below w.heap.size w w' ∧ (kSys n).P v w' := by
  refine (rMadeSys_any _ fs most n hn w G hG h).mono ?_
  rintro e w' ⟨vn, vs, ts, rfl, h1, h2, h3, h4, h5, hb⟩
  exact ⟨_, rfl, hb, vn, vs, ts, rfl, h1, h2, h3, h4, h5⟩
theorem rMade_k (ae : Option Addr) (le ce : Nat) (e : List Nd) (most n : Nat) (hn : 1 ≤ n ∧ n ≤ 6) (w : World) (G : Nat) (hG : G ≤ w.heap.size) (h : RawN G w (.slice ae le ce) e) :
    Calls Tryz.prog 19 #[.slice ae le ce, .int .i64 (most : Nat), .int .i64 (n : Nat)] w fun e w' => ∃ v, e = .returned v ∧ Below w.heap.size w w' ∧ (kTree n).P v w' := by
  refine (rMade_any _ e most n hn w G hG h).mono ?_
  rintro e w' ⟨t, v', rfl, h1, h2, h3, hb⟩
  exact ⟨_, rfl, hb, t, h1, h2, Ex.of h3 (by omega)⟩
theorem n6_ok : ∀ x ∈ strL n6, okName x = true := by decide
theorem n6_take_ok (n : Nat) : ∀ x ∈ strL (n6.take n), okName x = true := fun x hx => n6_ok x (by
  obtain ⟨y, hy, rfl⟩ := List.mem_map.1 hx
  exact List.mem_map.2 ⟨y, List.mem_of_mem_take hy, rfl⟩)
theorem n6_nodup : (strL n6).Nodup := by decide
theorem n6_take_nodup (n : Nat) : (strL (n6.take n)).Nodup := by
  have e : strL (n6.take n) = (strL n6).take n := by unfold strL; rw [List.map_take]
  rw [e]; exact n6_nodup.sublist (List.take_sublist _ _)
theorem n6_take_len {n : Nat} (hn : n ≤ 6) : (n6.take n).length = n ∧ (strL (n6.take n)).length = n := by
  have : n6.length = 6 := rfl
  constructor
  · rw [List.length_take]; omega
  · unfold strL; rw [List.length_map, List.length_take]; omega
theorem cell_keepz {w w' : World} {g : Nat} {p : Addr} {v : Value} (hr : w.heap[g]? = some (.cells #[.slice none 0 0, .slice none 0 0] 25 (0, 0))) (hk : ∀ k, k ≠ g → w'.heap[k]? = w.heap[k]?) (hc : w.cell? p = some v) (hv : v ≠ .slice none 0 0) : w'.cell? p = some v := by
  by_cases hp : p.block = g
  · exfalso
    obtain ⟨b, o, s⟩ := p
    simp only at hp
    subst hp
    cases s with
    | some s => unfold World.cell? at hc; rw [hr] at hc; simp at hc
    | none =>
      rw [cell_of_row _ _ _ _ _ _ hr] at hc
      rcases o with _ | _ | o
      · exact hv (Option.some.inj hc).symm
      · exact hv (Option.some.inj hc).symm
      · simp at hc
  · rw [World.cell?_of_block (w := w) (hk _ hp)]; exact hc
section
variable {w w' : World} {g : Nat}
theorem Strs.keepz {v : Value} {xs : List ByteArray} (h : Strs w v xs) (hr : w.heap[g]? = some (.cells #[.slice none 0 0, .slice none 0 0] 25 (0, 0))) (hk : ∀ k, k ≠ g → w'.heap[k]? = w.heap[k]?) : Strs w' v xs := by
  refine ⟨?_, h.few⟩
  rcases h.out with h0 | ⟨b, off, c, hv, hcp, hc⟩
  · exact Or.inl h0
  · exact Or.inr ⟨b, off, c, hv, hcp, fun j hj => cell_keepz hr hk (hc j hj) (fun e => by cases e)⟩
theorem nd_int {e : List Nd} {j : Nat} {u : Value} (h : (nds e)[j]? = some u) : u ≠ .slice none 0 0 := by
  obtain ⟨x, -, hx⟩ := nds_inv e j u h
  intro e
  subst e
  unfold nd4 at hx
  have hj : j % 4 < 4 := Nat.mod_lt _ (by decide)
  rcases (show j % 4 = 0 ∨ j % 4 = 1 ∨ j % 4 = 2 ∨ j % 4 = 3 by omega) with q | q | q | q <;> rw [q] at hx <;> cases hx
theorem RdN.keepz {v : Value} {e : List Nd} (h : RdN w v e) (hr : w.heap[g]? = some (.cells #[.slice none 0 0, .slice none 0 0] 25 (0, 0))) (hk : ∀ k, k ≠ g → w'.heap[k]? = w.heap[k]?) : RdN w' v e := by
  refine ⟨?_, h.few⟩
  rcases h.out with h0 | ⟨b, o, c, hv, hcp, hc⟩
  · exact Or.inl h0
  · exact Or.inr ⟨b, o, c, hv, hcp, fun j u hu => cell_keepz hr hk (hc j u hu) (nd_int hu)⟩
theorem Rd.keepz {v : Value} {e : List Nd} (h : Rd w v e) (hr : w.heap[g]? = some (.cells #[.slice none 0 0, .slice none 0 0] 25 (0, 0))) (hk : ∀ k, k ≠ g → w'.heap[k]? = w.heap[k]?) : Rd w' v e := by
  obtain ⟨ao, cap, h1, h2, h3, h4, h5⟩ := h.out
  exact ⟨ao, cap, h1, h2, h3, h4, fun b hb j u hu => cell_keepz hr hk (h5 b hb j u hu) (nd_int hu)⟩
theorem Ex.keepz {v : Value} {t : Tr} (h : Ex w v t) (hr : w.heap[g]? = some (.cells #[.slice none 0 0, .slice none 0 0] 25 (0, 0))) (hk : ∀ k, k ≠ g → w'.heap[k]? = w.heap[k]?) : Ex w' v t := ⟨h.rd.keepz hr hk, h.rdn.keepz hr hk⟩
theorem Fs.keepz {v : Value} {ts : List Tr} (h : Fs w v (ts.map flat)) (hr : w.heap[g]? = some (.cells #[.slice none 0 0, .slice none 0 0] 25 (0, 0))) (hk : ∀ k, k ≠ g → w'.heap[k]? = w.heap[k]?) : Fs w' v (ts.map flat) := by
  refine ⟨?_, h.few⟩
  rcases h.out with h0 | ⟨b, o, c, us, hv, hl, hc, hd⟩
  · exact Or.inl h0
  · refine Or.inr ⟨b, o, c, us, hv, hl, fun j u hu => cell_keepz hr hk (hc j u hu) (fun e => ?_), fun j u e hu he => (hd j u e hu he).keepz hr hk⟩
    have hj : j < (ts.map flat).length := by rw [← hl]; exact (List.getElem?_eq_some_iff.1 hu).1
    have he : (ts.map flat)[j]? = some (ts.map flat)[j] := List.getElem?_eq_getElem hj
    have hrd := hd j u _ hu he
    rw [List.getElem?_map, Option.map_eq_some_iff] at he
    obtain ⟨t, -, ht⟩ := he
    rcases hrd.out with ⟨h0, -⟩ | ⟨b', o', c', hv', -⟩
    · rw [← ht] at h0; exact flat_ne t h0
    · rw [e] at hv'; cases hv'
theorem Sys3.keepz {n : Nat} {vn vs : Value} {ts : List Tr} (h : Sys3 n w vn vs ts) (hr : w.heap[g]? = some (.cells #[.slice none 0 0, .slice none 0 0] 25 (0, 0))) (hk : ∀ k, k ≠ g → w'.heap[k]? = w.heap[k]?) : Sys3 n w' vn vs ts := ⟨h.nm.keepz hr hk, h.fs.keepz hr hk, h.len, h.ok, h.l31⟩
end
end Go.Proofs.YthcidkidpiaomaaGreatDoor.Od
end
