/- OhL OhM OiA RegX OiD OiC OiG OiB -/
import Derived.Test.YthcidkidpiaomaaGreatDoorKf23
import Derived.Test.YthcidkidpiaomaaGreatDoorKf25
import Derived.Test.YthcidkidpiaomaaGreatDoorKf05
import Derived.Test.YthcidkidpiaomaaGreatDoorKf06
import Derived.Test.YthcidkidpiaomaaGreatDoorKf10
import Derived.Test.YthcidkidpiaomaaGreatDoorKf18
import Derived.Test.YthcidkidpiaomaaGreatDoorKf20
section
set_option linter.unusedVariables false
namespace Go.Proofs.YthcidkidpiaomaaGreatDoor.Od
def shT (n : Nat) : Tr → Tr
  | .var v => .var ((v + 1) % n)
  | .un op a => .un op (shT n a)
  | .bin op a b => .bin op (shT n a) (shT n b)
  | t => t
def shN (n : Nat) (x : Nd) : Nd := if x.op = 2 then { x with n := (x.n + 1) % (n : Int) } else x
theorem flat_sh {vars : List (List UInt8)} (n : Nat) : ∀ t, okT vars t → flat (shT n t) = (flat t).map (shN n)
  | .num lo hi, _ => rfl
  | .var v, _ => by simp [shT, flat, shN]
  | .time, _ => rfl
  | .un op a, ⟨hop, h⟩ => by
    have : shN n ⟨op, 0, 0, 0⟩ = ⟨op, 0, 0, 0⟩ := by unfold shN; rw [if_neg (by show op ≠ 2; omega)]
    simp only [shT, flat, List.map_cons, this, flat_sh n a h]
  | .bin op a b, ⟨hop, h, hb⟩ => by
    have : shN n ⟨op, 0, 0, 0⟩ = ⟨op, 0, 0, 0⟩ := by unfold shN; rw [if_neg (by show op ≠ 2; omega)]
    simp only [shT, flat, List.map_cons, List.map_append, this, flat_sh n a h, flat_sh n b hb]
theorem okT_sh {vars vars' : List (List UInt8)} {n : Nat} (hn : vars'.length = n) (h0 : 0 < n) : ∀ t, okT vars t → okT vars' (shT n t)
  | .num lo hi, h => h
  | .var v, _ => by show (v + 1) % n < vars'.length; rw [hn]; exact Nat.mod_lt _ h0
  | .time, _ => trivial
  | .un op a, ⟨hop, h⟩ => ⟨hop, okT_sh hn h0 a h⟩
  | .bin op a b, ⟨hop, h, hb⟩ => ⟨hop, okT_sh hn h0 a h, okT_sh hn h0 b hb⟩
theorem fmt_sh {vars vars' : List (List UInt8)} {n : Nat} (hn : vars.length = n) (h : ∀ v, v < n → vars'.getD ((v + 1) % n) [] = vars.getD v []) : ∀ t, okT vars t → fmtT vars' (shT n t) = fmtT vars t
  | .num lo hi, _ => rfl
  | .var v, hv => by
    have hv : v < vars.length := hv
    exact h v (by omega)
  | .time, _ => rfl
  | .un op a, ⟨hop, ha⟩ => by simp only [shT, fmtT, fmt_sh hn h a ha]
  | .bin op a b, ⟨hop, ha, hb⟩ => by simp only [shT, fmtT, fmt_sh hn h a ha, fmt_sh hn h b hb]
def kk (n i : Nat) : Nat := (i + n - 1) % n
theorem kk_lt {n i : Nat} (h : 0 < n) : kk n i < n := Nat.mod_lt _ h
theorem kk_back {n v : Nat} (h : v < n) : kk n ((v + 1) % n) = v := by
  unfold kk
  rcases Nat.lt_or_ge (v + 1) n with h1 | h1
  · rw [Nat.mod_eq_of_lt h1, show v + 1 + n - 1 = v + n by omega, Nat.add_mod_right, Nat.mod_eq_of_lt h]
  · have e : v + 1 = n := by omega
    rw [e, Nat.mod_self, Nat.zero_add, Nat.mod_eq_of_lt (by omega)]; omega
theorem kk_inj {n i j : Nat} (hi : i < n) (hj : j < n) (h : kk n i = kk n j) : i = j := by
  unfold kk at h
  rcases Nat.eq_zero_or_pos i with rfl | hi0 <;> rcases Nat.eq_zero_or_pos j with rfl | hj0
  · rfl
  · rw [Nat.zero_add, Nat.mod_eq_of_lt (by omega), show j + n - 1 = (j - 1) + n by omega, Nat.add_mod_right, Nat.mod_eq_of_lt (by omega)] at h; omega
  · rw [Nat.zero_add, show i + n - 1 = (i - 1) + n by omega, Nat.add_mod_right, Nat.mod_eq_of_lt (by omega), Nat.mod_eq_of_lt (by omega)] at h; omega
  · rw [show i + n - 1 = (i - 1) + n by omega, show j + n - 1 = (j - 1) + n by omega, Nat.add_mod_right, Nat.add_mod_right, Nat.mod_eq_of_lt (by omega), Nat.mod_eq_of_lt (by omega)] at h; omega
def rotN (names : List (List UInt8)) (i : Nat) : List (List UInt8) := (List.range i).map fun j => names.getD (kk names.length j) []
def rotT (ts : List Tr) (i : Nat) : List Tr := (List.range i).map fun j => shT ts.length (ts.getD (kk ts.length j) .time)
def rotL (names : List (List UInt8)) (ts : List Tr) : Nat → List UInt8
  | 0 => [10, 10]
  | i + 1 => rotL names ts i ++ ([32] ++ names.getD (kk names.length i) [] ++ [32, 39, 61] ++ fmtT names (ts.getD (kk ts.length i) .time) ++ [9, 10, 10])
def lnR (names : List (List UInt8)) (ts : List Tr) (j : Nat) : Ln := ⟨names.getD (kk names.length j) [], shT ts.length (ts.getD (kk ts.length j) .time), [32], [32], [], [], [9], 1⟩
theorem getD_mem {α : Type} {l : List α} {i : Nat} {d : α} (h : i < l.length) : l.getD i d ∈ l := by
  rw [List.getD_eq_getElem?_getD, List.getElem?_eq_getElem h]; exact List.getElem_mem h
theorem rot_get {names : List (List UInt8)} {v : Nat} (hv : v < names.length) : (rotN names names.length).getD ((v + 1) % names.length) [] = names.getD v [] := by
  have h0 : 0 < names.length := by omega
  have hm : (v + 1) % names.length < names.length := Nat.mod_lt _ h0
  unfold rotN
  rw [List.getD_eq_getElem?_getD, List.getElem?_map, List.getElem?_range hm]
  simp only [Option.map_some, Option.getD_some]
  rw [kk_back hv]
theorem rot_text {names : List (List UInt8)} {ts : List Tr} (hl : names.length = ts.length) (ht : ∀ t ∈ ts, okT names t) : ∀ i, i ≤ names.length → rotL names ts i = [10, 10] ++ ((List.range i).map (lnR names ts)).flatMap (Ln.text (rotN names names.length))
  | 0, _ => rfl
  | i + 1, hi => by
    have h0 : 0 < names.length := by omega
    have hk : kk ts.length i < ts.length := kk_lt (by omega)
    have hf := fmt_sh (vars' := rotN names names.length) (n := names.length) rfl (fun v hv => rot_get hv) (ts.getD (kk ts.length i) .time) (ht _ (getD_mem hk))
    rw [rotL, rot_text hl ht i (by omega), List.range_succ, List.map_append, List.flatMap_append]
    simp only [List.map_cons, List.map_nil, List.flatMap_cons, List.flatMap_nil, List.append_nil, List.append_assoc]
    congr 2
    unfold Ln.text Ln.body lnR
    simp only
    rw [show shT ts.length = shT names.length by rw [hl], hf]
    simp [List.replicate]
theorem rot_nodup {names : List (List UInt8)} (hnd : names.Nodup) : (rotN names names.length).Nodup := by
  unfold rotN
  refine List.pairwise_map.2 ?_
  refine List.Pairwise.imp_of_mem ?_ (List.nodup_range (n := names.length))
  intro i j hi hj hne e
  have hi := List.mem_range.1 hi
  have hj := List.mem_range.1 hj
  have h0 : 0 < names.length := by omega
  have h1 := kk_lt (n := names.length) (i := i) h0
  have h2 := kk_lt (n := names.length) (i := j) h0
  rw [List.getD_eq_getElem?_getD, List.getD_eq_getElem?_getD, List.getElem?_eq_getElem h1, List.getElem?_eq_getElem h2] at e
  simp only [Option.getD_some] at e
  exact hne (kk_inj hi hj ((List.getElem_inj hnd).1 e))
theorem rot_parse {names : List (List UInt8)} {ts : List Tr} (hv : ∀ x ∈ names, okName x = true) (hnd : names.Nodup) (h1 : 1 ≤ names.length) (h6 : names.length ≤ 6) (hl : names.length = ts.length) (ht : ∀ t ∈ ts, okT names t) (h200 : ∀ t ∈ ts, (flat t).length ≤ 200)
    (h8 : (rotL names ts names.length).length ≤ 8000) : parseSys (rotL names ts names.length) = .ok (rotN names names.length, (rotT ts ts.length).map flat) := by
  have hx : ((List.range names.length).map (lnR names ts)).map Ln.x = rotN names names.length := by unfold rotN; rw [List.map_map]; rfl
  have htt : ((List.range names.length).map (lnR names ts)).map (fun m => flat m.t) = (rotT ts ts.length).map flat := by unfold rotT; rw [List.map_map, List.map_map, hl]; rfl
  have hlen : (rotN names names.length).length = names.length := by unfold rotN; simp
  have hok : ∀ m ∈ (List.range names.length).map (lnR names ts), m.ok (rotN names names.length) ∧ (flat m.t).length ≤ 200 := by
    intro m hm
    obtain ⟨j, hj, rfl⟩ := List.mem_map.1 hm
    have hk : kk names.length j < names.length := kk_lt (by omega)
    have hk' : kk ts.length j < ts.length := kk_lt (by omega)
    have hot := ht _ (getD_mem (d := .time) hk')
    refine ⟨⟨hv _ (getD_mem hk), okT_sh (by rw [hlen, hl]) (by omega) _ hot, ?_⟩, ?_⟩
    · intro c hc
      simp only [lnR, List.append_nil, List.mem_append, List.mem_cons, List.not_mem_nil, or_false] at hc
      rcases hc with (rfl | rfl) | rfl <;> decide
    · show (flat (shT ts.length _)).length ≤ 200
      rw [flat_sh _ _ hot, List.length_map]
      exact h200 _ (getD_mem hk')
  have htx := rot_text hl ht names.length (Nat.le_refl _)
  cases hls : (List.range names.length).map (lnR names ts) with
  | nil =>
    have := congrArg List.length hls
    rw [List.length_map, List.length_range, List.length_nil] at this
    omega
  | cons l ls =>
    rw [hls] at hx htt hok htx
    have := parseSys_reads (names := rotN names names.length) l ls (rotL names ts names.length) 2 (by rw [htx, List.flatMap_cons]; unfold Ln.text bodyL; simp [List.replicate]; rfl) (fun e => by cases e) hx (fun m hm => (hok m hm).1) (rot_nodup hnd) (by rw [hlen]; exact h6) h8 (fun m hm => (hok m hm).2)
    rw [this, htt]
end Go.Proofs.YthcidkidpiaomaaGreatDoor.Od
end
section
set_option linter.unusedVariables false
set_option linter.unusedSimpArgs false
namespace Go.Proofs.YthcidkidpiaomaaGreatDoor.Od
open Go.RowKit Rg
theorem own_zero {w : World} {B k : Nat} (hh : w.heap[k]? = some (.cells #[] 79 (0, 0))) (hB : B ≤ k) : OwnN B w (.slice (some ⟨k, 0, none⟩) 0 0) [] :=
  ⟨rfl, Or.inr ⟨k, 0, _, rfl, hB, hh, Nat.le_refl _, by simp [maxLen], rfl, by simp [nds]⟩⟩
theorem set_below {w : World} {B g i : Nat} {u : Value} (h : B ≤ g) (hs : B ≤ w.heap.size) : Below B w (w.setCell ⟨g, i, none⟩ u) := (Kept.set (g := g) (i := i) (w := w) u).below h hs
set_option maxRecDepth 100000 in
set_option maxHeartbeats 16000000 in
theorem rShift_any (v : Value) (e : List Nd) (n : Nat) (hn : 1 ≤ n ∧ n ≤ 6) (w : World) (h : Rd w v e) (hne : e ≠ []) (hl : e.length ≤ 9000) (hr : ∀ x ∈ e, x.op = 2 → 0 ≤ x.n ∧ x.n < n) :
    Calls Tryz.prog 49 #[v, .int .i64 (n : Nat)] w fun e' w' => ∃ v', e' = .returned v' ∧ OwnN w.heap.size w' v' (e.map (shN n)) ∧ Below w.heap.size w w' := by
  have hal : Below w.heap.size w (w.alloc (.cells #[] 79)) := (Below.refl _ _).alloc (Nat.le_refl _) _
  have HAL := Aside.mk hal
  have HR := Aside.mk (h.below hal)
  have HNE := Aside.mk hne
  have HLE : Aside (([] : List Nd).length + e.length ≤ 100000) := ⟨by simp only [List.length_nil]; omega⟩
  have HL9 := Aside.mk hl
  have HRG := Aside.mk hr
  have HN := Aside.mk hn
  have HOW := Aside.mk (own_zero (w := w.alloc (.cells #[] 79)) (B := w.heap.size) (heap_alloc_last _ _) (Nat.le_refl _))
  obtain ⟨ao, cap, rfl, -⟩ := h.out
  clear h hne hl hal hr hn
  go_enter Tryz.func49, Tryz.ntmps49
  go_wp2_with (first | (at_builtin; refine wpList_append_nodes _ rfl (.tmp 7) (.tmp 8) rfl w.heap.size _ [] rfl HOW.out _ e rfl HR.out HNE.out HLE.out HAL.out.size ?_; intro v3 w3 ho3 hb3; have HO3 := Aside.mk ho3; have HB3 := Aside.mk (HAL.out.trans hb3); clear ho3 hb3))
  obtain ⟨L, hL⟩ : ∃ L, e.length = L := ⟨_, rfl⟩
  have HLL := Aside.mk hL
  obtain ⟨gv, cp, rfl, hgv⟩ : ∃ gv cp, v3 = .slice (some ⟨gv, 0, none⟩) L cp ∧ w.heap.size ≤ gv := by
    have h1 := HO3.out
    rw [List.nil_append] at h1
    obtain ⟨-, h2⟩ := h1
    rw [hL] at h2
    rcases h2 with ⟨-, h0⟩ | ⟨g', cap', cur, h3, hg, -⟩
    · exact absurd (List.length_eq_zero_iff.1 (hL.trans h0)) HNE.out
    · exact ⟨g', cap', h3, hg⟩
  have HGV := Aside.mk hgv
  rw [List.nil_append] at HO3
  clear hL hgv
  go_wp2_with fail
  go_loopg [6] L (fun m v6 wr => ∃ (i : Nat), v6 = .int .i64 (i : Nat) ∧ Aside (i ≤ L ∧ L - i ≤ m) ∧ Aside (OwnN w.heap.size wr (.slice (some ⟨gv, 0, none⟩) L cp) ((e.take i).map (shN n) ++ e.drop i)) ∧ Aside (Below w.heap.size w wr))
  case atStart => exact ⟨0, rfl, ⟨by omega⟩, HO3, HB3⟩
  case round =>
    clear HO3 HB3
    obtain ⟨i, rfl, HI, HO, HB⟩ := hrel
    by_cases hi : i < L
    · have hi' : (i : Int) < (L : Int) := by omega
      have hi64 : (i : Int) < 9223372036854775807 := by have := HL9.out; have := HLL.out; omega
      obtain ⟨x, hx⟩ : ∃ x, e[i]? = some x := ⟨_, List.getElem?_eq_getElem (by rw [HLL.out]; exact hi)⟩
      have hpl : ((e.take i).map (shN n)).length = i := by rw [List.length_map, List.length_take, HLL.out]; omega
      have hdr : e.drop i = x :: e.drop (i + 1) := by
        obtain ⟨hl, rfl⟩ := List.getElem?_eq_some_iff.1 hx
        exact List.drop_eq_getElem_cons hl
      have hcur : ((e.take i).map (shN n) ++ e.drop i)[i]? = some x := by rw [List.getElem?_append_right (by omega), hpl, Nat.sub_self, hdr]; rfl
      have hlen2 : ((e.take i).map (shN n) ++ e.drop i).length = L := by rw [List.length_append, hpl, List.length_drop, HLL.out]; omega
      have ho : wr.ownsRow w.heap.size 79 4 (.slice (some ⟨gv, 0, none⟩) L cp) L (nds ((e.take i).map (shN n) ++ e.drop i)) := by have := HO.out; unfold OwnN at this; rw [hlen2] at this; exact this
      have hnl : (nds ((e.take i).map (shN n) ++ e.drop i)).length = L * 4 := by rw [nds_len, hlen2]
      have cell : ∀ r, r < 4 → wr.cell? ⟨gv, i * 4 + r, none⟩ = (nd4 x)[r]? := fun r hr => by rw [ho.cellAt (i * 4 + r) (by omega), nds_get _ _ _ _ hcur hr]
      have c0 := cell 0 (by decide)
      have c1 := cell 1 (by decide)
      simp only [nd4, List.getElem?_cons_zero, List.getElem?_cons_succ, Nat.add_zero] at c0 c1
      have hfz := ho.frozenAt (i * 4 + 1)
      have HXX := Aside.mk hx
      have HD := Aside.mk hdr
      have HC := Aside.mk hcur
      have HPL := Aside.mk hpl
      have HL2 := Aside.mk hlen2
      have HOW2 := Aside.mk ho
      have HTK : Aside ((e.take (i + 1)).map (shN n) = (e.take i).map (shN n) ++ [shN n x]) := ⟨by rw [List.take_add_one, hx]; simp⟩
      have hxr := HRG.out x (List.mem_of_getElem? hx)
      obtain ⟨op, xn, lo, hi2⟩ := x
      simp only at c0 c1 hxr
      clear hx hdr hcur hpl hnl hlen2 cell ho hi
      by_cases hop : op = 2
      · subst hop
        have hx2 := hxr rfl
        obtain ⟨q, hq⟩ : ∃ q, wrap64 (xn + 1) = q := ⟨_, rfl⟩
        have hq0 : q = xn + 1 := by rw [← hq]; exact wrap64_in (by omega) (by have := HN.out; omega)
        obtain ⟨m, hm⟩ : ∃ m, q.tmod (n : Int) = m := ⟨_, rfl⟩
        have HM : Aside (m = (xn + 1) % (n : Int)) := ⟨by rw [← hm, hq0, Int.tmod_eq_emod_of_nonneg (by omega)]⟩
        have hnz : (n : Int) ≠ 0 := by have := HN.out; omega
        clear hq0 hx2 hxr
        have hsh : shN n ⟨2, xn, lo, hi2⟩ = ⟨2, m, lo, hi2⟩ := by unfold shN; rw [if_pos rfl, HM.out]
        have hset : ((e.take i).map (shN n) ++ e.drop i).set i ⟨2, m, lo, hi2⟩ = (e.take (i + 1)).map (shN n) ++ e.drop (i + 1) := by
          rw [HD.out, HTK.out, hsh, List.set_append, if_neg (by have := HPL.out; omega), HPL.out, Nat.sub_self, List.append_assoc]; rfl
        have hst := (World.ownsRow.stored HOW2.out (i * 4 + 1) (.int .i64 m)).1
        rw [nds_set _ _ _ _ HC.out, hset] at hst
        have HO3 : Aside (OwnN w.heap.size (wr.setCell ⟨gv, i * 4 + 1, none⟩ (.int .i64 m)) (.slice (some ⟨gv, 0, none⟩) L cp) ((e.take (i + 1)).map (shN n) ++ e.drop (i + 1))) := ⟨by
          unfold OwnN
          rw [← hset, List.length_set, HL2.out]
          rw [hset]
          exact hst⟩
        have HB3 := Aside.mk (HB.out.trans (set_below (i := i * 4 + 1) (u := .int .i64 m) HGV.out HB.out.size))
        clear hst hset hsh
        go_wp2_with fail
        obtain ⟨go, hgo⟩ : ∃ go, gk = go + 1 := ⟨gk - 1, by have := HI.out; omega⟩
        go_roundg go
        case measure => omega
        case rel => exact ⟨i + 1, rfl, ⟨by have := HI.out; omega⟩, HO3, HB3⟩
      · have hop' : (op == 2) = false := by simpa using hop
        have HO3 : Aside (OwnN w.heap.size wr (.slice (some ⟨gv, 0, none⟩) L cp) ((e.take (i + 1)).map (shN n) ++ e.drop (i + 1))) := ⟨by
          have hsh : shN n ⟨op, xn, lo, hi2⟩ = ⟨op, xn, lo, hi2⟩ := by unfold shN; rw [if_neg hop]
          have e2 : (e.take (i + 1)).map (shN n) ++ e.drop (i + 1) = (e.take i).map (shN n) ++ e.drop i := by rw [HTK.out, hsh, HD.out, List.append_assoc]; rfl
          rw [e2]; exact HO.out⟩
        clear hxr hfz c1
        go_wp2_with fail
        obtain ⟨go, hgo⟩ : ∃ go, gk = go + 1 := ⟨gk - 1, by have := HI.out; omega⟩
        go_roundg go
        case measure => omega
        case rel => exact ⟨i + 1, rfl, ⟨by have := HI.out; omega⟩, HO3, HB⟩
    · have hi' : ¬ ((i : Int) < (L : Int)) := by omega
      have him : i = L := by have := HI.out; omega
      subst him
      go_wp2_with fail
      go_ret
      have e2 : (e.take i).map (shN n) ++ e.drop i = e.map (shN n) := by rw [List.take_of_length_le (by rw [HLL.out]; exact Nat.le_refl _), List.drop_of_length_le (by rw [HLL.out]; exact Nat.le_refl _), List.append_nil]
      have ho := HO.out
      rw [e2] at ho
      exact ⟨_, rfl, ho, HB.out⟩
end Go.Proofs.YthcidkidpiaomaaGreatDoor.Od
end
section
set_option linter.unusedVariables false
set_option linter.unusedSimpArgs false
namespace Go.Proofs.YthcidkidpiaomaaGreatDoor.Od
open Go.RowKit Rg
def rotB (xs : List ByteArray) (i : Nat) : List ByteArray := (List.range i).map fun j => xs.getD (kk xs.length j) ⟨#[]⟩
theorem strL_rotB (xs : List ByteArray) (i : Nat) : strL (rotB xs i) = rotN (strL xs) i := by
  unfold strL rotB rotN
  rw [List.map_map, List.length_map]
  apply List.map_congr_left
  intro j _
  simp only [Function.comp, List.getD_eq_getElem?_getD, List.getElem?_map]
  cases xs[kk xs.length j]? <;> rfl
theorem rotB_succ (xs : List ByteArray) (i : Nat) : rotB xs (i + 1) = rotB xs i ++ [xs.getD (kk xs.length i) ⟨#[]⟩] := by unfold rotB; rw [List.range_succ, List.map_append]; rfl
theorem rotB_len (xs : List ByteArray) (i : Nat) : (rotB xs i).length = i := by unfold rotB; simp
theorem rotT_succ (ts : List Tr) (i : Nat) : rotT ts (i + 1) = rotT ts i ++ [shT ts.length (ts.getD (kk ts.length i) .time)] := by unfold rotT; rw [List.range_succ, List.map_append]; rfl
theorem rotT_len (ts : List Tr) (i : Nat) : (rotT ts i).length = i := by unfold rotT; simp
structure LO (w0 : World) (gS gW base : Nat) (A C v u : Value) (xs : List ByteArray) (us : List Value) (tl : List Tr) (W : World) : Prop where
  fr : Below w0.heap.size w0 W
  size : base ≤ W.heap.size
  sys : W.heap[gS]? = some (.cells #[A, C] 25 (0, 0))
  want : W.heap[gW]? = some (.cells #[v, u] 25 (0, 0))
  lt : gS < base ∧ gW < base ∧ gS ≠ gW ∧ w0.heap.size ≤ gS ∧ w0.heap.size ≤ gW
  on : W.ownsRow base 9 1 v xs.length (xs.map Value.string)
  os : W.ownsRow base 26 1 u tl.length us
  len : us.length = tl.length
  el : ∀ (j : Nat) (u : Value) (t : Tr), us[j]? = some u → tl[j]? = some t → OwnN base W u (flat t)
section
variable {w0 W w3 : World} {gS gW base : Nat} {A C v u v' u' : Value} {xs : List ByteArray} {us : List Value} {tl : List Tr}
theorem LO.below (h : LO w0 gS gW base A C v u xs us tl W) (hb : Below W.heap.size W w3) : LO w0 gS gW base A C v u xs us tl w3 :=
  ⟨h.fr.trans (hb.mono h.fr.size), Nat.le_trans h.size hb.size, (hb.block _ (lt_of h.sys)).trans h.sys, (hb.block _ (lt_of h.want)).trans h.want, h.lt, owns_below h.on hb, owns_below h.os hb, h.len, fun j u t hu ht => owns_below (h.el j u t hu ht) hb⟩
theorem LO.put0 (h : LO w0 gS gW base A C v u xs us tl W) (hk : Below base W w3) (f : Nat) (z : Value) :
    Below w0.heap.size w0 (w3.setCell ⟨gW, f, none⟩ z) ∧ base ≤ (w3.setCell ⟨gW, f, none⟩ z).heap.size ∧ w3.heap[gW]? = some (.cells #[v, u] 25 (0, 0)) ∧ (w3.setCell ⟨gW, f, none⟩ z).heap[gS]? = some (.cells #[A, C] 25 (0, 0)) := by
  obtain ⟨l1, l2, l3, l4, l5⟩ := h.lt
  have hs : (w3.setCell ⟨gW, f, none⟩ z).heap.size = w3.heap.size := by simp [World.setCell]
  have hsz := Nat.le_trans h.size hk.size
  have r1 := (hk.block gW l2).trans h.want
  have r2 := (hk.block gS l1).trans h.sys
  have hb2 : Below w0.heap.size w3 (w3.setCell ⟨gW, f, none⟩ z) := (Kept.set (g := gW) (i := f) (w := w3) z).below l5 (Nat.le_trans (by omega) hsz)
  have hb1 : Below w0.heap.size W w3 := hk.mono (by omega)
  exact ⟨(h.fr.trans hb1).trans hb2, by rw [hs]; exact hsz, r1, by rw [Below.heap_setCell _ _ _ _ l3]; exact r2⟩
theorem LO.addName (h : LO w0 gS gW base A C v u xs us tl W) {x : ByteArray} (ho : w3.ownsRow base 9 1 v' (xs.length + 1) (xs.map Value.string ++ [.string x])) (hk : KeepR v base W w3) :
    LO w0 gS gW base A C v' u (xs ++ [x]) us tl (w3.setCell ⟨gW, 0, none⟩ v') := by
  obtain ⟨a1, a2, a3, a4⟩ := h.put0 hk.1 0 v'
  exact ⟨a1, a2, a4, row_cell (i := 0) a3 v', h.lt, by rw [List.length_append, List.map_append]; exact owns_set ho a3 (by decide), owns_set (own_keep h.os h.on (by decide) hk) a3 (by decide), h.len,
    fun j u t hu ht => owns_set (own_keep (h.el j u t hu ht) h.on (by decide) hk) a3 (by decide)⟩
theorem LO.addSum (h : LO w0 gS gW base A C v u xs us tl W) {z : Value} {t' : Tr} (hou : OwnN base W z (flat t')) (ho : w3.ownsRow base 26 1 u' (tl.length + 1) (us ++ [z])) (hk : KeepR u base W w3) :
    LO w0 gS gW base A C v u' xs (us ++ [z]) (tl ++ [t']) (w3.setCell ⟨gW, 1, none⟩ u') := by
  obtain ⟨a1, a2, a3, a4⟩ := h.put0 hk.1 1 u'
  refine ⟨a1, a2, a4, row_cell (i := 1) a3 u', h.lt, owns_set (own_keep h.on h.os (by decide) hk) a3 (by decide), by rw [List.length_append]; exact owns_set ho a3 (by decide), by simp [h.len], fun j y t hu ht => ?_⟩
  by_cases hj : j < tl.length
  · rw [List.getElem?_append_left (by rw [h.len]; exact hj)] at hu
    rw [List.getElem?_append_left hj] at ht
    exact owns_set (own_keep (h.el j y t hu ht) h.os (by decide) hk) a3 (by decide)
  · have hj2 := (List.getElem?_eq_some_iff.1 ht).1
    rw [List.length_append, List.length_singleton] at hj2
    obtain rfl : j = tl.length := by omega
    rw [List.getElem?_append_right (by rw [h.len]; omega), h.len, Nat.sub_self] at hu
    rw [List.getElem?_append_right (by omega), Nat.sub_self] at ht
    obtain rfl := Option.some.inj hu
    obtain rfl := Option.some.inj ht
    exact owns_set (own_keep hou h.os (by decide) hk) a3 (by decide)
end
theorem rotL_len {names : List (List UInt8)} {ts : List Tr} (hv : ∀ x ∈ names, okName x = true) (hl : names.length = ts.length) (ht : ∀ t ∈ ts, okT names t) (h31 : ∀ t ∈ ts, (flat t).length ≤ 31) : ∀ i, i ≤ ts.length → (rotL names ts i).length ≤ 2 + 920 * i
  | 0, _ => by simp [rotL]
  | i + 1, hi => by
    have ih := rotL_len hv hl ht h31 i (by omega)
    have hk : kk ts.length i < ts.length := kk_lt (by omega)
    have hk' : kk names.length i < names.length := kk_lt (by omega)
    have h1 := fmtT_len hv _ (ht _ (getD_mem (d := .time) hk))
    have h2 := h31 _ (getD_mem (d := .time) hk)
    have h3 : (names.getD (kk names.length i) []).length ≤ 12 := by
      have := hv _ (getD_mem (d := []) hk')
      unfold okName at this
      simp only [Bool.and_eq_true, decide_eq_true_eq] at this
      exact this.1.1.1.2
    rw [rotL]
    simp only [List.length_append, List.length_cons, List.length_nil]
    omega
inductive Sr
  | val (v : Value)
  | row (x : ByteArray) (N : Nat)
  | own (e : List Nd) (N : Nat)
  | orow (e : List Nd) (N : Nat)
def Sr.ok : Sr → Value → World → Prop
  | .val v, u, _ => u = v
  | .row x N, u, w => ∃ g, N ≤ g ∧ u = .slice (some ⟨g, 0, none⟩) 1 1 ∧ w.heap[g]? = some (.cells #[.string x] 9 (0, 0))
  | .own e N, u, w => OwnN N w u e
  | .orow e N, u, w => ∃ g z, N ≤ g ∧ u = .slice (some ⟨g, 0, none⟩) 1 1 ∧ w.heap[g]? = some (.cells #[z] 26 (0, 0)) ∧ OwnN N w z e
def tabr (l : List Sr) : Tab := ⟨fun i v w => ((l[i]?).getD (.val .nilFunc)).ok v w, true, fun i v w w' h hb hs => by
  revert h
  generalize (l[i]?).getD (.val .nilFunc) = s
  intro h
  cases s with
  | val u => exact h
  | row x N =>
    obtain ⟨g, h1, h2, h3⟩ := h
    exact ⟨g, h1, h2, by rw [(hs rfl).block _ (heap_lt h3)]; exact h3⟩
  | own e N => exact owns_below h (hs rfl)
  | orow e N =>
    obtain ⟨g, z, h1, h2, h3, h4⟩ := h
    exact ⟨g, z, h1, h2, by rw [(hs rfl).block _ (heap_lt h3)]; exact h3, owns_below h4 (hs rfl)⟩⟩
def Sr.told : Sr → Option Value
  | .val v => some v
  | _ => none
theorem tells_r (L : List Sr) : Rg.Tells (tabr L) (L.map Sr.told) := tells_of Sr.ok Sr.told (.val .nilFunc) (fun s v h u w => by cases s <;> simp_all [Sr.told, Sr.ok]) L _ (fun _ _ _ => rfl)
theorem enters_sh : ∀ args w, (callFunc 49 args).run Tryz.prog w = .ok (.enter 49 args) w := fun args w => by kernel_rfl
theorem flat_var {vars : List (List UInt8)} : ∀ t, okT vars t → ∀ x ∈ flat t, x.op = 2 → 0 ≤ x.n ∧ x.n < vars.length
  | .num lo hi, _, x, hx, h => by obtain rfl := List.mem_singleton.1 hx; exact absurd h (by decide : ¬ (1 : Int) = 2)
  | .var n, hv, x, hx, _ => by
    obtain rfl := List.mem_singleton.1 hx
    have hv : n < vars.length := hv
    exact ⟨by show (0 : Int) ≤ (n : Int); omega, by show (n : Int) < _; omega⟩
  | .time, _, x, hx, h => by obtain rfl := List.mem_singleton.1 hx; exact absurd h (by decide : ¬ (3 : Int) = 2)
  | .un op a, ⟨hop, ha⟩, x, hx, h => by
    rcases List.mem_cons.1 hx with rfl | hx
    · have : op = 2 := h
      omega
    · exact flat_var a ha x hx h
  | .bin op a b, ⟨hop, ha, hb⟩, x, hx, h => by
    rcases List.mem_cons.1 hx with rfl | hx
    · have : op = 2 := h
      omega
    · rcases List.mem_append.1 hx with hx | hx
      · exact flat_var a ha x hx h
      · exact flat_var b hb x hx h
end Go.Proofs.YthcidkidpiaomaaGreatDoor.Od
end
section
set_option linter.unusedVariables false
namespace Go.Proofs.YthcidkidpiaomaaGreatDoor.Rg
open Go.RowKit
structure XD (D : List (Nat × Tmp)) (listed : Array Bool) (a : Act) (w : World) : Prop where
  hp : ∀ x ∈ D, listed.getD x.1 false = true → ∃ g, a.tmps.getD x.2 undef = .pointer (some ⟨g, 0, none⟩) ∧ g < w.heap.size
  ne : ∀ x ∈ D, ∀ y ∈ D, x ≠ y → listed.getD x.1 false = true → listed.getD y.1 false = true → a.tmps.getD x.2 undef ≠ a.tmps.getD y.2 undef
section
variable {P : Program} {T : Tab} {Q : Exit → Act → World → Prop} {a0 : Act} {w0 : World} {D : List (Nat × Tmp)}
theorem XD.start {listed : Array Bool} {a : Act} {w : World} (h : ∀ i, listed.getD i false = false) : XD D listed a w :=
  ⟨fun x _ e => (by rw [h x.1] at e; cases e), fun x _ y _ _ e => (by rw [h x.1] at e; cases e)⟩
theorem XD.keep {listed : Array Bool} {a : Act} {w w' : World} {i : Nat} {d : Option Tmp} {v : Value} (h : XD D listed a w) (h1 : ∀ x ∈ D, ¬ i = x.1) (h3 : ∀ x ∈ D, d ≠ some x.2) (hs : w.heap.size ≤ w'.heap.size) :
    XD D (listed.setIfInBounds i true) (a.put d v) w' := by
  have e1 : ∀ x ∈ D, (a.put d v).tmps.getD x.2 undef = a.tmps.getD x.2 undef := fun x hx => put_other a d v x.2 (h3 x hx)
  refine ⟨fun x hx e => ?_, fun x hx y hy hn e e' => ?_⟩
  · rw [listed_off (fun z => h1 x hx z.symm)] at e
    obtain ⟨g, hg, hl⟩ := h.hp x hx e
    exact ⟨g, by rw [e1 x hx]; exact hg, by omega⟩
  · rw [listed_off (fun z => h1 x hx z.symm)] at e
    rw [listed_off (fun z => h1 y hy z.symm)] at e'
    rw [e1 x hx, e1 y hy]; exact h.ne x hx y hy hn e e'
theorem XD.add {listed : Array Bool} {a : Act} {w w' : World} (h : XD D listed a w) {z : Nat × Tmp} (hz : z ∈ D) (hs : w'.heap.size = w.heap.size + 1) (hd : z.2 < a.tmps.size) (hD : ∀ x ∈ D, x ≠ z → x.1 ≠ z.1 ∧ x.2 ≠ z.2) :
    XD D (listed.setIfInBounds z.1 true) (a.put (some z.2) (.pointer (some ⟨w.heap.size, 0, none⟩))) w' := by
  have e0 := put_same a z.2 (.pointer (some ⟨w.heap.size, 0, none⟩)) hd
  have e1 : ∀ x ∈ D, x ≠ z → (a.put (some z.2) (.pointer (some ⟨w.heap.size, 0, none⟩))).tmps.getD x.2 undef = a.tmps.getD x.2 undef := fun x hx hn => put_other a _ _ x.2 (fun e => (hD x hx hn).2 (Option.some.inj e).symm)
  have key : ∀ x ∈ D, x ≠ z → (listed.setIfInBounds z.1 true).getD x.1 false = true → ∃ g, (a.put (some z.2) (.pointer (some ⟨w.heap.size, 0, none⟩))).tmps.getD x.2 undef = .pointer (some ⟨g, 0, none⟩) ∧ g < w.heap.size := fun x hx hn e => by
    rw [listed_off (hD x hx hn).1] at e
    obtain ⟨g, hg, hl⟩ := h.hp x hx e
    exact ⟨g, by rw [e1 x hx hn]; exact hg, hl⟩
  have off : ∀ g, g < w.heap.size → (.pointer (some ⟨g, 0, none⟩) : Value) ≠ .pointer (some ⟨w.heap.size, 0, none⟩) := fun g hg e => by
    injection e with e
    injection e with e
    injection e with e
    omega
  refine ⟨fun x hx e => ?_, fun x hx y hy hn e e' => ?_⟩
  · by_cases hxz : x = z
    · subst hxz; exact ⟨_, e0, by omega⟩
    · obtain ⟨g, hg, hl⟩ := key x hx hxz e
      exact ⟨g, hg, by omega⟩
  · by_cases hxz : x = z
    · subst hxz
      obtain ⟨g, hg, hl⟩ := key y hy (fun e => hn e.symm) e'
      rw [e0, hg]; exact fun e => off g hl e.symm
    · by_cases hyz : y = z
      · subst hyz
        obtain ⟨g, hg, hl⟩ := key x hx hn e
        rw [e0, hg]; exact off g hl
      · rw [e1 x hx hxz, e1 y hy hyz]
        rw [listed_off (hD x hx hxz).1] at e
        rw [listed_off (hD y hy hyz).1] at e'
        exact h.ne x hx y hy hn e e'
end
end Go.Proofs.YthcidkidpiaomaaGreatDoor.Rg
end
section
set_option linter.unusedVariables false
set_option linter.unusedSimpArgs false
namespace Go.Proofs.YthcidkidpiaomaaGreatDoor.Od
open Go.RowKit Rg
theorem row_slice {w : World} {base n sz : Nat} {T : TypeId} {v : Value} {us : List Value} (h : w.ownsRow base T sz v n us) : ∃ a l c, v = .slice a l c := by
  obtain ⟨-, h3⟩ := h
  rcases h3 with ⟨h3, -⟩ | ⟨g', cap', cur', h3, -⟩
  · exact ⟨_, _, _, h3⟩
  · exact ⟨_, _, _, h3⟩
end Go.Proofs.YthcidkidpiaomaaGreatDoor.Od
end
section
set_option linter.unusedVariables false
set_option linter.unusedSimpArgs false
namespace Go.Proofs.YthcidkidpiaomaaGreatDoor.Od
open Go.RowKit Rg Go.ChangeShapes Go.WideShapes Go.ChangeAt
theorem own_lt {w : World} {base n sz : Nat} {T : TypeId} {v : Value} {us : List Value} (h : w.ownsRow base T sz v n us) : v.ownBlock ≠ some w.heap.size := by
  obtain ⟨-, h2⟩ := h
  rcases h2 with ⟨rfl, -⟩ | ⟨g', cap, cur, rfl, -, hh, -⟩
  · intro e; cases e
  · intro e
    have := heap_lt hh
    have e' : g' = w.heap.size := Option.some.inj e
    omega
theorem RawI.at {G : Nat} {w : World} {ao : Option Addr} {L c : Nat} {e : List Iv} (h : RawI G w (.slice ao L c) e) {i : Nat} (hi : i < L) : ∃ b o x, ao = some ⟨b, o, none⟩ ∧ b < G ∧ w.cell? ⟨b, o + i * 2, none⟩ = some (.int .i64 x.1) ∧ w.cell? ⟨b, o + i * 2 + 1, none⟩ = some (.int .i64 (x : Iv).2) := by
  obtain ⟨ao', c', hv, -, -, hc, -⟩ := h
  injection hv with h1 h2 h3
  subst h1
  obtain ⟨x, hx⟩ : ∃ x, e[i]? = some x := ⟨_, List.getElem?_eq_getElem (by omega)⟩
  obtain ⟨b, o, h4, h5, h6, h7⟩ := hc i x hx
  exact ⟨b, o, x, h4, h5, h6, by rw [Nat.add_assoc]; exact h7⟩
structure Ints (w : World) (v : Value) (ps : List Int) : Prop where
  out : ∃ ao c, v = .slice ao ps.length c ∧ ∀ j p, ps[j]? = some p → ∃ b o, ao = some ⟨b, o, none⟩ ∧ w.cell? ⟨b, o + j, none⟩ = some (.int .i64 p)
  few : ps.length ≤ 9000
theorem Ints.below {w w' : World} {v : Value} {ps : List Int} (h : Ints w v ps) (hb : Below w.heap.size w w') : Ints w' v ps := by
  obtain ⟨⟨ao, c, hv, hc⟩, hf⟩ := h
  refine ⟨⟨ao, c, hv, fun j p hp => ?_⟩, hf⟩
  obtain ⟨b, o, h1, h2⟩ := hc j p hp
  exact ⟨b, o, h1, by rw [hb.cell (World.block_lt_of_cell? w _ h2)]; exact h2⟩
def RawU (G : Nat) (w : World) (v : Value) (l : List Int) : Prop :=
  ∃ ao c, v = .slice ao l.length c ∧ ∀ i x, l[i]? = some x → 0 ≤ x ∧ x ≤ 65535 ∧ ∃ b o, ao = some ⟨b, o, none⟩ ∧ b < G ∧ w.cell? ⟨b, o + i, none⟩ = some (.int .u16 x)
theorem RawU.below {G : Nat} {w w' : World} {v : Value} {l : List Int} (h : RawU G w v l) (hb : Below w.heap.size w w') : RawU G w' v l := by
  obtain ⟨ao, c, hv, hc⟩ := h
  refine ⟨ao, c, hv, fun i x hx => ?_⟩
  obtain ⟨h1, h2, b, o, h3, h4, h5⟩ := hc i x hx
  exact ⟨h1, h2, b, o, h3, h4, by rw [hb.cell (World.block_lt_of_cell? w _ h5)]; exact h5⟩
section
variable {H : Type} {enc : TypeId × Value → H} {W : World} {n : Nat}
end
end Go.Proofs.YthcidkidpiaomaaGreatDoor.Od
end
section
set_option linter.unusedVariables false
set_option linter.unusedSimpArgs false
namespace Go.Proofs.YthcidkidpiaomaaGreatDoor.Od
open Go.RowKit Rg
structure KP where
  P : Value → World → Prop
  keep : ∀ u w w', P u w → Below w.heap.size w w' → P u w'
inductive Sy
  | val (v : Value)
  | pr (p : KP)
def Sy.ok : Sy → Value → World → Prop
  | .val v, u, _ => u = v
  | .pr p, u, w => p.P u w
def Sy.told : Sy → Option Value
  | .val v => some v
  | _ => none
structure Sys3 (n : Nat) (w : World) (vn vs : Value) (ts : List Tr) : Prop where
  nm : Strs w vn (n6.take n)
  fs : Fs w vs (ts.map flat)
  len : ts.length = n
  ok : ∀ t ∈ ts, okN n t
  l31 : ∀ t ∈ ts, (flat t).length ≤ 31
theorem Sys3.below {n : Nat} {w w' : World} {vn vs : Value} {ts : List Tr} (h : Sys3 n w vn vs ts) (hb : Below w.heap.size w w') : Sys3 n w' vn vs ts := ⟨h.nm.below hb, h.fs.below hb, h.len, h.ok, h.l31⟩
theorem n6_ok : ∀ x ∈ strL n6, okName x = true := by decide
theorem n6_take_ok (n : Nat) : ∀ x ∈ strL (n6.take n), okName x = true := fun x hx => n6_ok x (by
  obtain ⟨y, hy, rfl⟩ := List.mem_map.1 hx
  exact List.mem_map.2 ⟨y, List.mem_of_mem_take hy, rfl⟩)
theorem n6_nodup : (strL n6).Nodup := by decide
theorem n6_take_nodup (n : Nat) : (strL (n6.take n)).Nodup := by
  have e : strL (n6.take n) = (strL n6).take n := by unfold strL; rw [List.map_take]
  rw [e]; exact n6_nodup.sublist (List.take_sublist _ _)
theorem n6_take_len {n : Nat} (hn : n ≤ 6) : (n6.take n).length = n ∧ (strL (n6.take n)).length = n := by
  have : n6.length = 6 := rfl
  constructor
  · rw [List.length_take]; omega
  · unfold strL; rw [List.length_map, List.length_take]; omega
section
variable {w w' : World} {g : Nat}
end
end Go.Proofs.YthcidkidpiaomaaGreatDoor.Od
end
section
set_option linter.unusedVariables false
set_option linter.unusedSimpArgs false
namespace Go.Proofs.YthcidkidpiaomaaGreatDoor.Od
open Go.RowKit Rg
set_option maxRecDepth 100000 in
set_option maxHeartbeats 32000000 in
theorem OdeLineOrder_walk (vf ve vx : Value) (a b k : Int) (fs : List (List Nd)) (e0 : List Nd) (xs0 : List Iv) (w : World) (hf : RawF w.heap.size w vf fs) (hne : RawN w.heap.size w ve e0) (hxs : RawI w.heap.size w vx xs0) (wa : (Lit.int .i64 a).wf = true) (wb : (Lit.int .i64 b).wf = true) (wk : 0 ≤ k ∧ k ≤ 255) (hL : Lb w) :
    Calls Tryz.prog 10 #[.agg #[vf, ve, vx, .int .i64 a, .int .i64 b, .int .u8 k]] w fun e w' => e = .returned (.bool true) ∧ Below w.heap.size w w' := by
  obtain ⟨K, rfl⟩ : ∃ K : Nat, k = K := ⟨k.toNat, by omega⟩
  have HKS : Aside (K ≤ 255) := ⟨by omega⟩
  obtain ⟨n, hn⟩ : ∃ n, 1 + K % 4 = n := ⟨_, rfl⟩
  have HN : Aside (1 ≤ n ∧ n ≤ 4) := ⟨by omega⟩
  have HNE := Aside.mk hn
  have HL := Aside.mk hL
  have HF := Aside.mk hf
  have HRN := Aside.mk hne
  have HRI := Aside.mk hxs
  obtain ⟨af, cf, rfl, -⟩ := hf
  obtain ⟨ae, ce, rfl, -⟩ := hne
  obtain ⟨ax, cx, rfl, -⟩ := hxs
  obtain ⟨lf, hlf⟩ : ∃ l, fs.length = l := ⟨_, rfl⟩
  obtain ⟨le, hle⟩ : ∃ l, e0.length = l := ⟨_, rfl⟩
  obtain ⟨lx, hlx⟩ : ∃ l, xs0.length = l := ⟨_, rfl⟩
  rw [hlf] at HF ⊢
  rw [hle] at HRN ⊢
  rw [hlx] at HRI ⊢
  have hal : Below w.heap.size w (w.alloc (.cells #[.slice af lf cf, .slice ae le ce, .slice ax lx cx, .int .i64 a, .int .i64 b, .int .u8 (K : Nat)] 31)) := (Below.refl _ _).alloc (Nat.le_refl _) _
  have hrow : (w.alloc (.cells #[.slice af lf cf, .slice ae le ce, .slice ax lx cx, .int .i64 a, .int .i64 b, .int .u8 (K : Nat)] 31)).heap[w.heap.size]? = some (.cells #[.slice af lf cf, .slice ae le ce, .slice ax lx cx, .int .i64 a, .int .i64 b, .int .u8 (K : Nat)] 31 (0, 0)) := heap_alloc_last _ _
  have HAL := Aside.mk hal
  have HROW := Aside.mk hrow
  clear wa wb wk hn hL hal hrow hlf hle hlx
  go_enter Tryz.func10, Tryz.ntmps10
  go_wp2_with fail
  generalize w.alloc _ = W at HAL HROW ⊢
  obtain ⟨g2, hg2⟩ : ∃ g, w.heap.size = g := ⟨_, rfl⟩
  have HG2 := Aside.mk hg2
  simp only [hg2]
  rw [hg2] at HROW
  clear hg2
  refine (sanity_any W (HL.out.below HAL.out)).mono ?_
  rintro e w1 ⟨rfl, hb⟩
  have HB := Aside.mk (HAL.out.trans (hb.mono HAL.out.size))
  have hr1 := (hb.block _ (lt_of HROW.out)).trans HROW.out
  replace HROW := Aside.mk hr1
  have d0 : w1.cell? ⟨g2, 0, none⟩ = some (.slice af lf cf) := by rw [cell_of_row _ _ 0 _ _ _ hr1]; rfl
  have d1 : w1.cell? ⟨g2, 1, none⟩ = some (.slice ae le ce) := by rw [cell_of_row _ _ 1 _ _ _ hr1]; rfl
  have d2 : w1.cell? ⟨g2, 2, none⟩ = some (.slice ax lx cx) := by rw [cell_of_row _ _ 2 _ _ _ hr1]; rfl
  have d3 : w1.cell? ⟨g2, 3, none⟩ = some (.int .i64 a) := by rw [cell_of_row _ _ 3 _ _ _ hr1]; rfl
  have d4 : w1.cell? ⟨g2, 4, none⟩ = some (.int .i64 b) := by rw [cell_of_row _ _ 4 _ _ _ hr1]; rfl
  have d5 : w1.cell? ⟨g2, 5, none⟩ = some (.int .u8 (K : Nat)) := by rw [cell_of_row _ _ 5 _ _ _ hr1]; rfl
  clear hb HAL hr1
  go_wp2_with fail
  refine (rDim_any _ _ _ _ _ K HKS.out w1).mono ?_
  rintro e w2 ⟨rfl, hb⟩
  rw [HNE.out]
  replace HB := Aside.mk (HB.out.trans (hb.mono HB.out.size))
  replace HROW := Aside.mk ((hb.block _ (lt_of HROW.out)).trans HROW.out)
  have HL0 := HL
  replace HL := Aside.mk (HL.out.below HB.out)
  have HFW := Aside.mk (HF.out.below HB.out)
  have HNW := Aside.mk (HRN.out.below HB.out)
  have HIW := Aside.mk (HRI.out.below HB.out)
  have HGS := Aside.mk HB.out.size
  have hW0 := HG2.out
  rw [hW0] at HFW HNW HIW HGS
  clear hb d0 d1 d2 d3 d4 d5 hW0 HF HRN HRI
  have d0 : w2.cell? ⟨g2, 0, none⟩ = some (.slice af lf cf) := by rw [cell_of_row _ _ 0 _ _ _ HROW.out]; rfl
  go_wp2_with fail
  refine (rMadeSys_anyR _ fs 20 n (by have := HN.out; omega) w2 g2 HGS.out HFW.out).mono ?_
  rintro e w3 ⟨vn, vs, ts, rfl, hsn, hfs, hfr, htl, hok, h31, hb⟩
  have HT := Aside.mk (And.intro htl (And.intro hok h31))
  replace HB := Aside.mk (HB.out.trans (hb.mono HB.out.size))
  have HFR := Aside.mk hfr
  have HSN := Aside.mk hsn
  obtain ⟨va1, va2, va3, rfl⟩ : ∃ a l c, vn = .slice a l c := by obtain ⟨a, c, h⟩ := hsn.slice; exact ⟨_, _, _, h⟩
  obtain ⟨vb1, vb2, vb3, rfl⟩ : ∃ a l c, vs = .slice a l c := by obtain ⟨a, c, h⟩ := hfs.slice; exact ⟨_, _, _, h⟩
  have hsn0 := hsn.at
  obtain ⟨aN, cN0, hvN, hatN⟩ := hsn0
  injection hvN with hv1 hv2 hv3
  have hn6l : (n6.take n).length = n := (n6_take_len (by have := HN.out; omega)).1
  have hv2' : n = va2 := by rw [hv2, hn6l]
  have hfl : (ts.map flat).length = n := by rw [List.length_map]; exact htl
  have hvb : n = vb2 := by
    obtain ⟨t0, ht0⟩ : ∃ t, ts[0]? = some t := ⟨_, List.getElem?_eq_getElem (by have := HN.out; omega)⟩
    obtain ⟨b0, o0, c0', u0, hv0, -⟩ := hfr.out 0 (flat t0) (by rw [List.getElem?_map, ht0]; rfl)
    injection hv0 with _ hq _
    rw [hq, hfl]
  clear hv1 hv2 hv3 hatN hb hsn hfs hfr d0
  subst hv2'
  subst hvb
  have HNL := Aside.mk (n6_take_len (n := n) (by have := HN.out; omega))
  have HOKS : Aside (∀ t ∈ ts, okT (strL (n6.take n)) t) := ⟨fun t ht => hok t ht _ HNL.out.2⟩
  clear htl hok h31 hn6l hfl
  go_wp2_with fail
  obtain ⟨gS, hgS⟩ : ∃ g, w3.heap.size = g := ⟨_, rfl⟩
  obtain ⟨W0, hW0⟩ : ∃ W, (w3.alloc (.cells #[.slice va1 n va3, .slice vb1 n vb3] 25)).alloc (.cells #[.slice none 0 0, .slice none 0 0] 25) = W := ⟨_, rfl⟩
  have HLO0 : Aside (LO w3 gS (gS + 1) W0.heap.size (.slice va1 n va3) (.slice vb1 n vb3) (.slice none 0 0) (.slice none 0 0) [] [] [] W0) := ⟨by
    have s1 : (w3.alloc (.cells #[.slice va1 n va3, .slice vb1 n vb3] 25)).heap.size = gS + 1 := by rw [World.size_alloc, hgS]
    have hb : Below w3.heap.size w3 W0 := by rw [← hW0]; exact ((Below.refl _ _).alloc (Nat.le_refl _) _).alloc (by simp) _
    have s2 : W0.heap.size = gS + 1 + 1 := by rw [← hW0, World.size_alloc, s1]
    refine ⟨hb, Nat.le_refl _, ?_, ?_, ⟨by omega, by omega, by omega, by omega, by omega⟩, ⟨rfl, Or.inl ⟨rfl, rfl⟩⟩, ⟨rfl, Or.inl ⟨rfl, rfl⟩⟩, rfl, fun j u t hu _ => by simp at hu⟩
    · have h1 := heap_alloc_last w3 (.cells #[.slice va1 n va3, .slice vb1 n vb3] 25)
      rw [hgS] at h1
      rw [← hW0, Below.heap_alloc _ _ _ (by rw [s1]; omega)]; exact h1
    · have := heap_alloc_last (w3.alloc (.cells #[.slice va1 n va3, .slice vb1 n vb3] 25)) (.cells #[.slice none 0 0, .slice none 0 0] 25)
      rw [s1, hW0] at this; exact this⟩
  simp only [hW0, hgS]
  obtain ⟨gW, hgW⟩ : ∃ g, gS + 1 = g := ⟨_, rfl⟩
  obtain ⟨base, hbase⟩ : ∃ b, W0.heap.size = b := ⟨_, rfl⟩
  simp only [hgW] at HLO0 ⊢
  rw [hbase] at HLO0
  clear hgW hgS hbase hW0
  go_loopg [6, 8, 9] n (fun m v6 v8 v9 wr => ∃ (i : Nat) (S : ByteArray) (v u : Value) (us : List Value), v6 = .string S ∧ v8 = .int .i64 (i : Nat) ∧ Aside (i ≤ n ∧ n - i ≤ m) ∧ Aside (S.data.toList = rotL (strL (n6.take n)) ts i) ∧ Aside (LO w3 gS gW base (.slice va1 n va3) (.slice vb1 n vb3) v u (rotB (n6.take n) i) us (rotT ts i) wr))
  case atStart => exact ⟨0, ⟨#[10, 10]⟩, _, _, [], rfl, rfl, ⟨by omega⟩, ⟨rfl⟩, HLO0⟩
  case round =>
    clear HLO0
    obtain ⟨i, S, v, u, us, rfl, rfl, HI, HS, HLO⟩ := hrel
    obtain ⟨p1, p2, p3, rfl⟩ := row_slice HLO.out.on
    obtain ⟨q1, q2, q3, rfl⟩ := row_slice HLO.out.os
    have hSs : S.size ≤ 4000 := by
      have h1 := rotL_len (n6_take_ok n) (by rw [HNL.out.2, HT.out.1]) HOKS.out HT.out.2.2 i (by rw [HT.out.1]; exact HI.out.1)
      rw [← HS.out] at h1
      have h2 : S.data.toList.length = S.size := rfl
      have := HI.out; have := HN.out
      omega
    by_cases hi : i < n
    · have hi' : (i : Int) < (n : Int) := by omega
      have hi6 : (i : Int) < 9223372036854775807 := by have := HN.out; omega
      have hn4 : (n : Int) ≤ 4 := by have := HN.out; omega
      have hi0 : (0 : Int) ≤ (i : Int) := by omega
      have hn1 : (1 : Int) ≤ (n : Int) := by have := HN.out; omega
      obtain ⟨k, hk0⟩ : ∃ k, kk n i = k := ⟨_, rfl⟩
      have hkl : k < n := by rw [← hk0]; exact kk_lt (by omega)
      have HK : Aside (((i : Int) + (n : Int) - 1) % (n : Int) = (k : Int)) := ⟨by
        have e : (i : Int) + (n : Int) - 1 = ((i + n - 1 : Nat) : Int) := by omega
        rw [← hk0, e]
        unfold kk
        first | exact (Int.natCast_emod _ _).symm | exact (Int.natCast_mod _ _).symm | exact (Int.ofNat_emod _ _).symm⟩
      have HK0 := Aside.mk hk0
      have hkn : (k : Int) < (n : Int) := by omega
      obtain ⟨x, hx⟩ : ∃ x, (n6.take n)[k]? = some x := ⟨_, List.getElem?_eq_getElem (by rw [HNL.out.1]; exact hkl)⟩
      obtain ⟨t, ht⟩ : ∃ t, ts[k]? = some t := ⟨_, List.getElem?_eq_getElem (by rw [HT.out.1]; exact hkl)⟩
      obtain ⟨aN, cN0, hvN, hatN⟩ := (HSN.out.below HLO.out.fr).at
      injection hvN with r1 r2 r3
      subst r1
      obtain ⟨bN, oN, rfl, cN⟩ := hatN k x hx
      obtain ⟨bF, oF, cF0, u', hvF, cF3, hrd3, hrdn3⟩ := HFR.out.out k (flat t) (by rw [List.getElem?_map, ht]; rfl)
      injection hvF with s1 s2 s3
      subst s1
      obtain ⟨au, lu, ru, rfl⟩ : ∃ au lu ru, u' = .slice au lu ru := by obtain ⟨a, c, h⟩ := hrdn3.slice; exact ⟨a, _, c, h⟩
      have HFK : Aside (∀ W', Below w3.heap.size w3 W' → W'.cell? ⟨bF, oF + k, none⟩ = some (.slice au lu ru) ∧ Rd W' (.slice au lu ru) (flat t) ∧ RdN W' (.slice au lu ru) (flat t)) := ⟨fun W' hb => ⟨by rw [hb.cell (World.block_lt_of_cell? w3 _ cF3)]; exact cF3, hrd3.below hb, hrdn3.below hb⟩⟩
      have cF := (HFK.out wr HLO.out.fr).1
      have HRN := Aside.mk (HFK.out wr HLO.out.fr).2.2
      clear cF3
      have htm := List.mem_of_getElem? ht
      have HOT := Aside.mk (HOKS.out t htm)
      have HNM : Aside (∀ y ∈ strL (n6.take n), okName y = true) := ⟨n6_take_ok n⟩
      have HTL : Aside ((flat t).length ≤ 31) := ⟨HT.out.2.2 t htm⟩
      obtain ⟨F, hF⟩ : ∃ F : ByteArray, F.data.toList = fmtT (strL (n6.take n)) t := ⟨⟨(fmtT (strL (n6.take n)) t).toArray⟩, by simp⟩
      have HFF := Aside.mk hF
      have hFs : F.size ≤ 900 := by
        have h1 := fmtT_len HNM.out t HOT.out
        rw [← hF] at h1
        have h2 : F.data.toList.length = F.size := rfl
        have := HTL.out
        omega
      have hxs : x.size ≤ 12 := by
        have := HNM.out x.data.toList (List.mem_map.2 ⟨x, List.mem_of_getElem? hx, rfl⟩)
        unfold okName at this
        simp only [Bool.and_eq_true, decide_eq_true_eq] at this
        exact this.1.1.1.2
      have HXG : Aside ((n6.take n).getD (kk (n6.take n).length i) ⟨#[]⟩ = x ∧ ts.getD (kk ts.length i) .time = t) := ⟨by rw [HNL.out.1, hk0, List.getD_eq_getElem?_getD, hx]; rfl, by rw [HT.out.1, hk0, List.getD_eq_getElem?_getD, ht]; rfl⟩
      have HSX : Aside ((strL (n6.take n)).getD (kk (strL (n6.take n)).length i) [] = x.data.toList) := ⟨by rw [HNL.out.2, hk0, List.getD_eq_getElem?_getD]; unfold strL; rw [List.getElem?_map, hx]; rfl⟩
      have HFN : Aside (flat t ≠ []) := ⟨flat_ne t⟩
      have HFL : Aside ((flat t).length ≤ 9000) := ⟨by have := HTL.out; omega⟩
      have HFR2 : Aside (∀ y ∈ flat t, y.op = 2 → 0 ≤ y.n ∧ y.n < n) := ⟨fun y hy h2 => by have := flat_var t HOT.out y hy h2; rw [HNL.out.2] at this; exact this⟩
      obtain ⟨t', ht'⟩ : ∃ t', shT n t = t' := ⟨_, rfl⟩
      have HSH : Aside (flat t' = (flat t).map (shN n)) := ⟨by rw [← ht']; exact flat_sh n t HOT.out⟩
      have HT' := Aside.mk ht'
      have HN6 : Aside (1 ≤ n ∧ n ≤ 6) := ⟨by have := HN.out; omega⟩
      have c0 : wr.cell? ⟨gS, 0, none⟩ = some (.slice (some ⟨bN, oN, none⟩) n va3) := by rw [cell_of_row _ _ 0 _ _ _ HLO.out.sys]; rfl
      have c1 : wr.cell? ⟨gS, 1, none⟩ = some (.slice (some ⟨bF, oF, none⟩) n vb3) := by rw [cell_of_row _ _ 1 _ _ _ HLO.out.sys]; rfl
      have hlS : gS < wr.heap.size := lt_of HLO.out.sys
      have hlN : bN < wr.heap.size := World.block_lt_of_cell? wr _ cN
      have hlF : bF < wr.heap.size := World.block_lt_of_cell? wr _ cF
      have HTB : Aside (Fx.Tabs wr) := ⟨(HL0.out.below (HB.out.trans (HLO.out.fr.mono HB.out.size))).tabs⟩
      have HSVR := Aside.mk (HSN.out.below HLO.out.fr)
      clear hk0 hkl hx ht hatN hrd3 hrdn3 htm hF ht' hi r2 r3 s2 s3
      go_wp2_with fail
      simp only [HK.out]
      refine region_v [32, 33, 34, 35, 36, 37, 38, 39, 40, 41, 42, 43, 44, 45, 46, 47, 48, 49, 50] 19 [.string S, .string (S ++ (⟨#[32]⟩ : ByteArray)), .pointer (some ⟨gS, 0, none⟩), .slice (some ⟨bN, oN, none⟩) n va3, .int .i64 (k : Nat), .pointer (some ⟨bN, oN + k, none⟩), .string x, .string ((S ++ (⟨#[32]⟩ : ByteArray)) ++ x), .string (((S ++ (⟨#[32]⟩ : ByteArray)) ++ x) ++ (⟨#[32, 39, 61]⟩ : ByteArray)), .pointer (some ⟨gS, 1, none⟩), .slice (some ⟨bF, oF, none⟩) n vb3, .int .i64 (k : Nat), .pointer (some ⟨bF, oF + k, none⟩), .slice au lu ru, .pointer (some ⟨gS, 0, none⟩), .slice (some ⟨bN, oN, none⟩) n va3, .string F, .string ((((S ++ (⟨#[32]⟩ : ByteArray)) ++ x) ++ (⟨#[32, 39, 61]⟩ : ByteArray)) ++ F), .string (((((S ++ (⟨#[32]⟩ : ByteArray)) ++ x) ++ (⟨#[32, 39, 61]⟩ : ByteArray)) ++ F) ++ (⟨#[9, 10, 10]⟩ : ByteArray))] rfl rfl ?_ ?_
      · refine AllV.val rfl (fun w hb => by simp [execOp, Act.eval, kp hb c0, hkn, kp hb cN, kp hb c1, kp hb cF, go_sem]) ?_
        refine AllV.val rfl (fun w hb => by simp [execOp, Act.eval, go_sem]; omega) ?_
        iterate 5 (refine AllV.val rfl (fun w hb => by simp [execOp, Act.eval, kp hb c0, hkn, kp hb cN, kp hb c1, kp hb cF, go_sem]) ?_)
        refine AllV.val rfl (fun w hb => by simp [execOp, Act.eval, go_sem]; omega) ?_
        refine AllV.val rfl (fun w hb => by simp [execOp, Act.eval, go_sem]; omega) ?_
        iterate 7 (refine AllV.val rfl (fun w hb => by simp [execOp, Act.eval, kp hb c0, hkn, kp hb cN, kp hb c1, kp hb cF, go_sem]) ?_)
        refine AllV.call (fun w => run_call (args := #[.slice au lu ru, .slice (some ⟨bN, oN, none⟩) n va3]) enters_fe (by simp [Act.eval])) (fun w hb => (FE_any HNM.out t HOT.out _ _ w (HRN.out.below hb) (HSVR.out.below hb) (HTB.out.below hb) F HFF.out).mono (by rintro e w' ⟨rfl, hb2⟩; exact ⟨_, rfl, hb2, rfl⟩)) ?_
        refine AllV.val rfl (fun w hb => by simp [execOp, Act.eval, go_sem]; omega) ?_
        refine AllV.val rfl (fun w hb => by simp [execOp, Act.eval, go_sem]; omega) ?_
        exact AllV.nil
      intro W8 hb
      simp only [List.drop_succ_cons, List.drop_zero]
      have HH8 := Aside.mk hb
      clear hb
      replace HLO := Aside.mk (HLO.out.below HH8.out)
      have HRN8 := Aside.mk (HRN.out.below HH8.out)
      replace cN := (HH8.out.cell hlN).trans cN
      replace cF := (HH8.out.cell hlF).trans cF
      clear c0 c1 hlS hlN hlF hSs hFs hxs
      have c0 : W8.cell? ⟨gS, 0, none⟩ = some (.slice (some ⟨bN, oN, none⟩) n va3) := by rw [cell_of_row _ _ 0 _ _ _ HLO.out.sys]; rfl
      have c1 : W8.cell? ⟨gS, 1, none⟩ = some (.slice (some ⟨bF, oF, none⟩) n vb3) := by rw [cell_of_row _ _ 1 _ _ _ HLO.out.sys]; rfl
      have k0 : W8.cell? ⟨gW, 0, none⟩ = some (.slice p1 p2 p3) := by rw [cell_of_row _ _ 0 _ _ _ HLO.out.want]; rfl
      have hlS : gS < W8.heap.size := lt_of HLO.out.sys
      have hlW : gW < W8.heap.size := lt_of HLO.out.want
      have hlN : bN < W8.heap.size := World.block_lt_of_cell? W8 _ cN
      have hlF : bF < W8.heap.size := World.block_lt_of_cell? W8 _ cF
      go_wp2_with fail
      refine region_u (T := tab2 [Sq.val (.pointer (some ⟨gW, 0, none⟩)), Sq.val (.slice p1 p2 p3), Sq.val (.pointer (some ⟨gS, 0, none⟩)), Sq.val (.slice (some ⟨bN, oN, none⟩) n va3), Sq.val (.int .i64 (k : Nat)), Sq.val (.pointer (some ⟨bN, oN + k, none⟩)), Sq.val (.string x), Sq.row W8.heap.size #[.string x] 9 1 1]) [51, 52, 53, 54, 55, 56, 57, 58] 8 (tells_q _) rfl rfl ?_ ?_
      · iterate 7 (refine AllV.val rfl (fun w hb => by simp [execOp, Act.eval, kp hb k0, kp hb c0, hkn, kp hb cN, go_sem]) ?_)
        refine AllV.make (fun w hb => ⟨_, _, by simp [execOp, Act.eval, go_sem], ((Below.refl _ _).alloc (Nat.le_refl _) _), ⟨_, hb.size, rfl, heap_alloc_last _ _⟩⟩) ?_
        exact AllV.nil
      intro uq W9 hb hus fu hfu
      rw [mrg_of (by kernel_rfl)] at hfu
      simp only [mrg, List.map_cons, List.map_nil, Sq.told, Option.getD_some, Option.getD_none, Nat.reduceAdd, Nat.reduceEqDiff, ↓reduceIte] at hfu
      obtain ⟨g58, G58, e58, R58⟩ := hus 7 (by decide)
      simp only [e58] at hfu
      subst hfu
      clear hus e58
      simp only [List.drop_succ_cons, List.drop_zero]
      have HH9 := Aside.mk hb
      clear hb
      replace HLO := Aside.mk (HLO.out.below HH9.out)
      replace cF := (HH9.out.cell hlF).trans cF
      have HRK := Aside.mk R58
      have hon := HLO.out.on
      rw [rotB_len] at hon
      have HON := Aside.mk hon
      have HML : Aside (((rotB (n6.take n) i).map Value.string).length = i) := ⟨by rw [List.length_map, rotB_len]⟩
      clear c0 c1 k0 hlS hlW hlN hlF cN R58 G58 hon
      refine wpList_app_str _ rfl (.tmp 52) (.tmp 58) rfl base _ _ i HML.out rfl HON.out (.string x) rfl g58 rfl HRK.out (by have := HI.out; have := HN.out; omega) HLO.out.size ?_
      intro ao3 cap3 w9 ho3 hk3
      have hr3 := (hk3.1.block gW HLO.out.lt.2.1).trans HLO.out.want
      have c3 : w9.cell? ⟨gW, 0, none⟩ = some (.slice p1 p2 p3) := by rw [cell_of_row _ _ 0 _ _ _ hr3]; rfl
      have z3 : w9.frozen? ⟨gW, 0, none⟩ = false := frozen_of_row _ _ 0 _ _ hr3
      have HLO3 := Aside.mk (HLO.out.addName (x := x) (by rw [rotB_len]; exact ho3) hk3)
      clear ho3 hk3 hr3 HLO cF
      go_wp2_with fail
      generalize w9.setCell ⟨gW, 0, none⟩ (.slice ao3 (i + 1) cap3) = W10 at HLO3 ⊢
      have HLO := HLO3
      have HRD := Aside.mk (HFK.out W10 HLO.out.fr).2.1
      have cF := (HFK.out W10 HLO.out.fr).1
      have HSZ10 := Aside.mk HLO.out.size
      have c0 : W10.cell? ⟨gS, 0, none⟩ = some (.slice (some ⟨bN, oN, none⟩) n va3) := by rw [cell_of_row _ _ 0 _ _ _ HLO.out.sys]; rfl
      have c1 : W10.cell? ⟨gS, 1, none⟩ = some (.slice (some ⟨bF, oF, none⟩) n vb3) := by rw [cell_of_row _ _ 1 _ _ _ HLO.out.sys]; rfl
      have k1 : W10.cell? ⟨gW, 1, none⟩ = some (.slice q1 q2 q3) := by rw [cell_of_row _ _ 1 _ _ _ HLO.out.want]; rfl
      have hlS : gS < W10.heap.size := lt_of HLO.out.sys
      have hlW : gW < W10.heap.size := lt_of HLO.out.want
      have hlF : bF < W10.heap.size := World.block_lt_of_cell? W10 _ cF
      clear c3 z3 HLO3
      refine region_u (T := tabr [Sr.val (.pointer (some ⟨gW, 1, none⟩)), Sr.val (.slice q1 q2 q3), Sr.val (.pointer (some ⟨gS, 1, none⟩)), Sr.val (.slice (some ⟨bF, oF, none⟩) n vb3), Sr.val (.int .i64 (k : Nat)), Sr.val (.pointer (some ⟨bF, oF + k, none⟩)), Sr.val (.slice au lu ru), Sr.val (.int .i64 (n : Nat)), Sr.own (flat t') W10.heap.size, Sr.orow (flat t') W10.heap.size]) [61, 62, 63, 64, 65, 66, 67, 68, 69, 70] 10 (tells_r _) rfl rfl ?_ ?_ (hF := by rewrite [mrg_of (by kernel_rfl)]; simp only [mrg, List.map_cons, List.map_nil, Sr.told, Option.getD_some, Option.getD_none, Nat.reduceAdd, Nat.reduceEqDiff, ↓reduceIte] <;> exact rfl)
      · iterate 8 (refine AllV.val rfl (fun w hb => by simp [execOp, Act.eval, kp hb k1, kp hb c1, hkn, kp hb cF, go_sem]) ?_)
        refine AllV.call (fun w => run_call (args := #[.slice au lu ru, .int .i64 (n : Nat)]) enters_sh (by simp [Act.eval])) (fun w hb => (rShift_any _ (flat t) n HN6.out w (HRD.out.below hb) HFN.out HFL.out HFR2.out).mono (by rintro e' w' ⟨v', rfl, ho, hb2⟩; exact ⟨_, rfl, hb2, by rw [HSH.out]; exact ho.mono hb.size⟩)) ?_
        refine AllV.cons ?_ ?_
        · intro a w hz hb ho hg
          have e69 := (got_of hg (j := 8) rfl rfl rfl : Rg.Tab.S _ _ (a.tmps.getD 69 undef) w)
          have ho : OwnN _ w (a.tmps.getD 69 undef) _ := e69; obtain ⟨av, cv, hv, -⟩ := ho.rd.out; have f69 : a.tmps[69]?.getD undef = .slice av (flat t').length cv := (by rw [← Array.getD_eq_getD_getElem?]; exact hv); exact Or.inl ⟨wanted_none rfl, wp_value (w' := w.alloc (.cells #[.slice av (flat t').length cv] 26)) hb.size (by simp [execOp, Act.eval, f69, go_sem]) ((Below.refl _ _).alloc (Nat.le_refl _) _) ⟨_, _, hb.size, rfl, heap_alloc_last _ _, (by rw [hv] at ho; exact owns_below ho ((Below.refl _ _).alloc (Nat.le_refl _) _))⟩⟩
        exact AllV.nil
      intro uq W11 hb hus fu hfu
      rw [mrg_of (by kernel_rfl)] at hfu
      simp only [mrg, List.map_cons, List.map_nil, Sr.told, Option.getD_some, Option.getD_none, Nat.reduceAdd, Nat.reduceEqDiff, ↓reduceIte] at hfu
      have E69 := hus 8 (by decide)
      generalize uq 8 = u69 at E69 hfu
      have E70 := hus 9 (by decide)
      generalize uq 9 = u70 at E70 hfu
      subst hfu
      clear hus
      simp only [List.drop_succ_cons, List.drop_zero]
      have HH10 := Aside.mk hb
      clear hb
      obtain ⟨g70, z70, G70, rfl, R70, o70⟩ := E70
      obtain ⟨az, cz, rfl, -⟩ := o70.rd.out
      replace HLO := Aside.mk (HLO.out.below HH10.out)
      have HOZ : Aside (OwnN base W11 (.slice az (flat t').length cz) (flat t')) := ⟨o70.mono HSZ10.out⟩
      have HRK2 := Aside.mk R70
      have hos := HLO.out.os
      rw [rotT_len] at hos
      have HOS := Aside.mk hos
      have HUL : Aside (us.length = i) := ⟨by rw [HLO.out.len, rotT_len]⟩
      clear c0 c1 k1 hlS hlW hlF cF R70 G70 hos o70 E69
      refine wpList_app_sl _ rfl (.tmp 62) (.tmp 70) rfl base _ us i HUL.out rfl HOS.out _ rfl g70 rfl HRK2.out (by have := HI.out; have := HN.out; omega) HLO.out.size ?_
      intro ao7 cap7 w12 ho7 hk7
      have hr7 := (hk7.1.block gW HLO.out.lt.2.1).trans HLO.out.want
      have c7 : w12.cell? ⟨gW, 1, none⟩ = some (.slice q1 q2 q3) := by rw [cell_of_row _ _ 1 _ _ _ hr7]; rfl
      have z7 : w12.frozen? ⟨gW, 1, none⟩ = false := frozen_of_row _ _ 1 _ _ hr7
      have HLO7 := Aside.mk (HLO.out.addSum (t' := t') HOZ.out (by rw [rotT_len]; exact ho7) hk7)
      clear ho7 hk7 hr7 HLO HOZ HRK2
      go_wp2_with fail
      have HS1 : Aside ((S ++ (⟨#[32]⟩ : ByteArray) ++ x ++ (⟨#[32, 39, 61]⟩ : ByteArray) ++ F ++ (⟨#[9, 10, 10]⟩ : ByteArray)).data.toList = rotL (strL (n6.take n)) ts (i + 1)) := ⟨by
        rw [rotL, HSX.out, HXG.out.2, ← HS.out, ← HFF.out]
        simp [ByteArray.data_append]⟩
      obtain ⟨go, hgo⟩ : ∃ go, gk = go + 1 := ⟨gk - 1, by have := HI.out; omega⟩
      go_roundg go
      case measure => omega
      case rel => exact ⟨i + 1, _, _, _, _, rfl, rfl, ⟨by have := HI.out; omega⟩, HS1, ⟨by rw [rotB_succ, rotT_succ, HXG.out.1, HXG.out.2, HT.out.1, HT'.out]; exact HLO7.out⟩⟩
    · have hi' : ¬ ((i : Int) < (n : Int)) := by omega
      have him : i = n := by have := HI.out; omega
      subst him
      have HPS : Aside (parseSys S.data.toList = .ok (rotN (strL (n6.take i)) i, (rotT ts i).map flat)) := ⟨by
        have h1 := HNL.out.2
        have h2 := HT.out.1
        have := HN.out
        have hr := rot_parse (names := strL (n6.take i)) (ts := ts) (n6_take_ok i) (n6_take_nodup i) (by omega) (by omega) (by rw [h1, h2]) HOKS.out (fun t ht => Nat.le_trans (HT.out.2.2 t ht) (by decide)) (by
          have := rotL_len (n6_take_ok i) (by rw [h1, h2]) HOKS.out HT.out.2.2 i (by omega)
          rw [h1]; omega)
        rw [h1, h2] at hr
        rw [HS.out]; exact hr⟩
      have HSZ8 : Aside (S.size ≤ 4000) := ⟨hSs⟩
      replace HB := Aside.mk (HB.out.trans (HLO.out.fr.mono HB.out.size))
      replace HL := Aside.mk (HL0.out.below HB.out)
      clear hi hSs
      go_wp2_with fail
      refine (Parse_good S (by have := HSZ8.out; omega) _ _ HPS.out wr HL.out).mono ?_
      rintro e w4 ⟨vn5, vf5, xs5, rfl, hxs5, hsn5, hfs5, hb5⟩
      have hx5 : xs5 = rotB (n6.take i) i := by rw [strL_is xs5 _ hxs5, ← strL_is (rotB (n6.take i) i) _ (strL_rotB _ _)]
      subst hx5
      obtain ⟨y1, y2, y3, rfl⟩ : ∃ a l c, vn5 = .slice a l c := by obtain ⟨a, c, h⟩ := hsn5.slice; exact ⟨_, _, _, h⟩
      obtain ⟨z1, z2, z3, rfl⟩ : ∃ a l c, vf5 = .slice a l c := by obtain ⟨a, c, h⟩ := hfs5.slice; exact ⟨_, _, _, h⟩
      have hal : Below w4.heap.size w4 (w4.alloc (.cells #[.slice y1 y2 y3, .slice z1 z2 z3] 25)) := (Below.refl _ _).alloc (Nat.le_refl _) _
      have hbb := hb5.trans (hal.mono hb5.size)
      have HR9 := Aside.mk (heap_alloc_last w4 (.cells #[.slice y1 y2 y3, .slice z1 z2 z3] 25))
      have HSN5 := Aside.mk (hsn5.below hal)
      have HFS5 := Aside.mk (hfs5.below hal)
      replace HLO := Aside.mk (HLO.out.below hbb)
      replace HB := Aside.mk (HB.out.trans (hbb.mono HB.out.size))
      clear hxs5 hsn5 hfs5 hb5 hal hbb
      obtain ⟨g9, hg9⟩ : ∃ g, w4.heap.size = g := ⟨_, rfl⟩
      rw [hg9] at HR9
      have k0 : (w4.alloc (.cells #[.slice y1 y2 y3, .slice z1 z2 z3] 25)).cell? ⟨gW, 0, none⟩ = some (.slice p1 p2 p3) := by rw [cell_of_row _ _ 0 _ _ _ HLO.out.want]; rfl
      have k1 : (w4.alloc (.cells #[.slice y1 y2 y3, .slice z1 z2 z3] 25)).cell? ⟨gW, 1, none⟩ = some (.slice q1 q2 q3) := by rw [cell_of_row _ _ 1 _ _ _ HLO.out.want]; rfl
      clear hg9
      go_wp2_with fail
      have HWN : Aside (Strs (w4.alloc (.cells #[.slice y1 y2 y3, .slice z1 z2 z3] 25)) (.slice p1 p2 p3) (rotB (n6.take i) i)) := ⟨strs_own2 HLO.out.on rfl (by rw [rotB_len]; have := HN.out; omega) (by rw [rotB_len]; have := HN.out; omega)⟩
      have HWF : Aside (Fs (w4.alloc (.cells #[.slice y1 y2 y3, .slice z1 z2 z3] 25)) (.slice q1 q2 q3) ((rotT ts i).map flat)) := ⟨fs_own HLO.out.os (by rw [rotT_len]; have := HN.out; omega) (by rw [rotT_len]; have := HN.out; omega) ⟨HLO.out.len, rfl⟩ (fun j u t hu ht => OwnN.rdN (HLO.out.el j u t hu ht) (by
        have hm0 : t ∈ rotT ts i := List.mem_of_getElem? ht
        unfold rotT at hm0
        obtain ⟨q, hq, rfl⟩ := List.mem_map.1 hm0
        have hkk : kk ts.length q < ts.length := kk_lt (by have := HT.out.1; have := HN.out; omega)
        have hm : ts.getD (kk ts.length q) .time ∈ ts := getD_mem hkk
        rw [flat_sh _ _ (HOKS.out _ hm), List.length_map]
        have := HT.out.2.2 _ hm
        omega))⟩
      refine (rSameSys_any _ _ _ _ (rotB (n6.take i) i) ((rotT ts i).map flat) _ HSN5.out HFS5.out HWN.out HWF.out).mono ?_
      rintro e w7 ⟨rfl, hb7⟩
      replace HB := Aside.mk (HB.out.trans (hb7.mono HB.out.size))
      clear hb7 k0 k1
      go_wp2_with fail
      go_ret
      exact ⟨rfl, HB.out⟩
end Go.Proofs.YthcidkidpiaomaaGreatDoor.Od
end
