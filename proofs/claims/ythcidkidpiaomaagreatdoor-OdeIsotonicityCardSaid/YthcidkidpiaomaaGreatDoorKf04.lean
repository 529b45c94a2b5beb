/- OdQ OdA Reg RegT -/
import Derived.Test.YthcidkidpiaomaaGreatDoorChecked
import Derived.Deep.LoopGhost
import Derived.Deep.DeepCutAuto
import Derived.ProofKit
import Derived.RegionTactic
import Derived.Below
import Derived.Test.YthcidkidpiaomaaGreatDoorKf03
import Derived.Test.YthcidkidpiaomaaGreatDoorKf02
section
set_option linter.unusedVariables false
namespace Go.Proofs.YthcidkidpiaomaaGreatDoor.Od
theorem skp_ge (f : UInt8 → Bool) (L : List UInt8) (p : Nat) : p ≤ skp f L p := by unfold skp; omega
theorem skp_le (f : UInt8 → Bool) (L : List UInt8) (p : Nat) (h : p ≤ L.length) : skp f L p ≤ L.length := by
  unfold skp
  have h1 : ((L.drop p).takeWhile f).length ≤ (L.drop p).length := List.Sublist.length_le (List.takeWhile_sublist f)
  rw [List.length_drop] at h1
  omega
theorem skp_step (f : UInt8 → Bool) (L : List UInt8) (p : Nat) (h : p < L.length) (hf : f L[p] = true) : skp f L p = skp f L (p + 1) := by
  unfold skp
  rw [List.drop_eq_getElem_cons h, List.takeWhile_cons, if_pos hf, List.length_cons]
  omega
theorem skp_stop (f : UInt8 → Bool) (L : List UInt8) (p : Nat) (h : p < L.length) (hf : f L[p] = false) : skp f L p = p := by
  unfold skp
  rw [List.drop_eq_getElem_cons h, List.takeWhile_cons, if_neg (by rw [hf]; simp)]
  rfl
theorem skp_end (f : UInt8 → Bool) (L : List UInt8) (p : Nat) (h : L.length ≤ p) : skp f L p = p := by
  unfold skp
  rw [List.drop_eq_nil_of_le h]; rfl
theorem skp_first (f : UInt8 → Bool) (L : List UInt8) (p : Nat) (h : p < L.length) (hf : f L[p] = true) : p + 1 ≤ skp f L p := by
  rw [skp_step f L p h hf]; exact skp_ge f L _
theorem numEnd_bd (L : List UInt8) (q : Nat) (h : q < L.length) (hd : isDg L[q] = true) : q + 1 ≤ numEnd L q ∧ numEnd L q ≤ L.length := by
  have h1 := skp_first isDg L q h hd
  have h2 := skp_le isDg L q (by omega)
  unfold numEnd
  simp only
  split
  · rename_i hc
    have hlt : skp isDg L q + 1 ≤ L.length := by
      have := hc.2
      cases hh : L[skp isDg L q + 1]? with
      | none => rw [hh] at this; simp at this
      | some c => have := (List.getElem?_eq_some_iff.1 hh).1; omega
    exact ⟨by have := skp_ge isDg L (skp isDg L q + 1); omega, skp_le _ _ _ hlt⟩
  · exact ⟨h1, h2⟩
structure TokOk (L : List UInt8) (t : Tok) : Prop where
  le : t.lo ≤ t.hi
  len : t.hi ≤ L.length
  some : t.kind = 1 ∨ t.kind = 2 ∨ t.kind = 3 → t.lo < t.hi
  none : t.kind = 0 ∨ t.kind = 4 → t.hi = t.lo
  kinds : t.kind = 0 ∨ t.kind = 1 ∨ t.kind = 2 ∨ t.kind = 3 ∨ t.kind = 4
  fin : t.kind = 0 ↔ t.lo = L.length
theorem tokAt_ok (nl : Bool) (L : List UInt8) (q : Nat) (h : q ≤ L.length) : TokOk L (tokAt nl L q) := by
  unfold tokAt
  cases hq : L[q]? with
  | none =>
    have : L.length ≤ q := List.getElem?_eq_none_iff.1 hq
    exact ⟨Nat.le_refl _, h, by simp, fun _ => rfl, by simp, by simp; omega⟩
  | some c =>
    obtain ⟨hlt, hc⟩ := List.getElem?_eq_some_iff.1 hq
    simp only
    by_cases h1 : isLt c = true
    · rw [if_pos h1]
      have hl : isLD L[q] = true := by rw [hc]; simp [isLD, h1]
      have := skp_first isLD L q hlt hl
      exact ⟨by show q ≤ skp isLD L q; omega, skp_le _ _ _ h, fun _ => by show q < skp isLD L q; omega, by simp, by simp, by simp; omega⟩
    · rw [if_neg h1]
      by_cases h2 : isDg c = true
      · rw [if_pos h2]
        have := numEnd_bd L q hlt (by rw [hc]; exact h2)
        exact ⟨by show q ≤ numEnd L q; omega, this.2, fun _ => by show q < numEnd L q; omega, by simp, by simp, by simp; omega⟩
      · rw [if_neg h2]
        split
        · exact ⟨by show q ≤ q + 1; omega, by show q + 1 ≤ L.length; omega, fun _ => by show q < q + 1; omega, by simp, by simp, by simp; omega⟩
        · exact ⟨Nat.le_refl _, h, by simp, fun _ => rfl, by simp, by simp; omega⟩
theorem peekT_ok (nl : Bool) (L : List UInt8) (p : Nat) (h : p ≤ L.length) : TokOk L (peekT nl L p) := tokAt_ok nl L _ (skp_le _ _ _ h)
theorem tokAt_lo (nl : Bool) (L : List UInt8) (q : Nat) : (tokAt nl L q).lo = q := by
  unfold tokAt
  split
  · rfl
  · repeat (first | rfl | split)
theorem peekT_lo (nl : Bool) (L : List UInt8) (p : Nat) : (peekT nl L p).lo = skp isWs L p := tokAt_lo nl L _
theorem peekT_ge (nl : Bool) (L : List UInt8) (p : Nat) : p ≤ (peekT nl L p).lo := by rw [peekT_lo]; exact skp_ge _ _ _
theorem skp_idem (f : UInt8 → Bool) (L : List UInt8) (p : Nat) : skp f L (skp f L p) = skp f L p := by
  by_cases h : skp f L p < L.length
  · refine skp_stop f L _ h ?_
    cases hf : f L[skp f L p] with
    | false => rfl
    | true =>
      exfalso
      have h0 : (L.drop p).takeWhile f ++ (L.drop p).dropWhile f = L.drop p := List.takeWhile_append_dropWhile
      have h1 : ((L.drop p).dropWhile f) = L.drop (skp f L p) := by
        have := congrArg (List.drop ((L.drop p).takeWhile f).length) h0
        rw [List.drop_left, List.drop_drop] at this
        exact this
      have h2 : (L.drop p).dropWhile f = L[skp f L p] :: L.drop (skp f L p + 1) := by rw [h1]; exact List.drop_eq_getElem_cons h
      have h3 := List.head?_dropWhile_not f (L.drop p)
      rw [h2] at h3
      simp only [List.head?_cons] at h3
      rw [hf] at h3
      cases h3
  · exact skp_end f L _ (by omega)
theorem peekT_at (nl : Bool) (L : List UInt8) (p : Nat) : peekT nl L (peekT nl L p).lo = peekT nl L p := by
  rw [peekT_lo]; unfold peekT; rw [skp_idem]
theorem isTok_at (nl : Bool) (L : List UInt8) (t : List UInt8) (p : Nat) : isTok nl L t (peekT nl L p).lo = isTok nl L t p := by unfold isTok; rw [peekT_at]
theorem sub_len (L : List UInt8) (a b : Nat) (h : b ≤ L.length) : (sub L a b).length = b - a := by unfold sub; rw [List.length_take, List.length_drop]; omega
theorem isTok_hi {nl : Bool} {L : List UInt8} {t : List UInt8} {p : Nat} (h : p ≤ L.length) (ht : isTok nl L t p = true) : (peekT nl L p).lo + t.length = (peekT nl L p).hi ∧ (peekT nl L p).lo < (peekT nl L p).hi := by
  have ho := peekT_ok nl L p h
  unfold isTok at ht
  simp only [Bool.and_eq_true, Bool.or_eq_true, beq_iff_eq] at ht
  obtain ⟨hk, ht⟩ := ht
  have hs := ho.some (by omega)
  rw [Tok.txt, if_neg (by omega)] at ht
  have := sub_len L (peekT nl L p).lo (peekT nl L p).hi ho.len
  rw [ht] at this
  omega
section
variable {nl : Bool} {L : List UInt8}
def Goes (L : List UInt8) (d : Nat) {α : Type} (m : Pr α) : Prop := ∀ s a s', s.pos ≤ L.length → m s = .ok a s' → s.pos + d ≤ s'.pos ∧ s'.pos ≤ L.length
theorem Goes.mono {α : Type} {d d' : Nat} {m : Pr α} (h : Goes L d m) (hd : d' ≤ d) : Goes L d' m := fun s a s' hs hm => by have := h s a s' hs hm; omega
theorem Goes.ret {α : Type} (a : α) : Goes L 0 (Pr.ret a) := fun s b s' hs hm => by cases hm; exact ⟨Nat.le_refl _, hs⟩
theorem Goes.bind {α β : Type} {d d' : Nat} {m : Pr α} {f : α → Pr β} (h : Goes L d m) (k : ∀ a, Goes L d' (f a)) : Goes L (d + d') (m.bind f) := fun s b s' hs hm => by
  unfold Pr.bind at hm
  cases hc : m s with
  | err c o => rw [hc] at hm; cases hm
  | ok a s1 =>
    rw [hc] at hm
    have h1 := h s a s1 hs hc
    have h2 := k a s1 b s' h1.2 hm
    omega
theorem Goes.map {α β : Type} {d : Nat} {m : Pr α} (f : α → β) (h : Goes L d m) : Goes L d (m.map f) := h.bind fun a => Goes.ret (f a)
theorem Goes.fail {α : Type} (d : Nat) : Goes L d (fail nl L : Pr α) := fun s a s' _ hm => by cases hm
theorem Goes.accept (t : List UInt8) : Goes L 0 (Od.accept nl L t) := fun s b s' hs hm => by
  unfold Od.accept at hm
  have hg := peekT_ge nl L s.pos
  have ho := peekT_ok nl L s.pos hs
  by_cases ht : isTok nl L t s.pos = true
  · rw [if_pos ht] at hm
    cases hm
    have := isTok_hi hs ht
    exact ⟨by show s.pos + 0 ≤ (peekT nl L s.pos).lo + t.length; omega, by show (peekT nl L s.pos).lo + t.length ≤ L.length; have := ho.len; omega⟩
  · rw [if_neg ht] at hm
    cases hm
    exact ⟨by show s.pos + 0 ≤ (peekT nl L s.pos).lo; omega, by show (peekT nl L s.pos).lo ≤ L.length; have := ho.le; have := ho.len; omega⟩
theorem accept_true {t : List UInt8} {s s' : PS} (hs : s.pos ≤ L.length) (h : accept nl L t s = .ok true s') : s.pos + 1 ≤ s'.pos ∧ s'.pos ≤ L.length := by
  unfold Od.accept at h
  have hg := peekT_ge nl L s.pos
  have ho := peekT_ok nl L s.pos hs
  by_cases ht : isTok nl L t s.pos = true
  · rw [if_pos ht] at h
    cases h
    have := isTok_hi hs ht
    exact ⟨by show s.pos + 1 ≤ (peekT nl L s.pos).lo + t.length; omega, by show (peekT nl L s.pos).lo + t.length ≤ L.length; have := ho.len; omega⟩
  · rw [if_neg ht] at h
    cases h
theorem Goes.expect (t : List UInt8) : Goes L 1 (Od.expect nl L t) := fun s b s' hs hm => by
  unfold Od.expect Pr.bind at hm
  cases hc : Od.accept nl L t s with
  | err c o => rw [hc] at hm; cases hm
  | ok a s1 =>
    rw [hc] at hm
    cases a with
    | true =>
      simp only [if_true] at hm
      cases hm
      exact accept_true hs hc
    | false => simp only [Bool.false_eq_true, if_false] at hm; cases hm
theorem Goes.number : Goes L 1 (Od.number nl L) := fun s b s' hs hm => by
  unfold Od.number at hm
  simp only at hm
  have hg := peekT_ge nl L s.pos
  have ho := peekT_ok nl L s.pos hs
  split at hm
  · rename_i hk
    cases hm
    have := ho.some (Or.inr (Or.inl hk))
    exact ⟨by show s.pos + 1 ≤ (peekT nl L s.pos).hi; omega, ho.len⟩
  · cases hm
theorem Goes.signed : Goes L 1 (Od.signed nl L) := by
  have : Goes L (0 + 1) (Od.signed nl L) := (Goes.accept [45]).bind fun b => by
    cases b with
    | true => exact Goes.number.map _
    | false => exact Goes.number
  exact this.mono (by omega)
theorem Goes.paren {d : Nat} {sum : Pr Tr} (h : Goes L d sum) : Goes L 1 (Od.paren nl L sum) :=
  ((Goes.expect [40]).bind fun _ => h.bind fun e => (Goes.expect [41]).bind fun _ => Goes.ret e).mono (by omega)
theorem Goes.bounds : Goes L 1 (Od.bounds nl L) :=
  (Goes.signed.bind fun a => (Goes.expect [44]).bind fun _ => Goes.signed.bind fun b => (Goes.expect [93]).bind fun _ => Goes.ret (Tr.num a.1 b.2)).mono (by omega)
theorem Goes.atom {d : Nat} {sum : Pr Tr} (h : Goes L d sum) : Goes L 1 (Od.atom nl L sum) := fun s b s' hs hm => by
  have hg := peekT_ge nl L s.pos
  have ho := peekT_ok nl L s.pos hs
  have hlo : (peekT nl L s.pos).lo ≤ L.length := by have := ho.le; have := ho.len; omega
  unfold Od.atom at hm
  simp only at hm
  split at hm
  · have := (Goes.number.map _) _ _ _ hlo hm
    exact ⟨by have := this.1; simp only at this; omega, this.2⟩
  split at hm
  · rename_i ht
    have h1 := isTok_hi hs ht
    simp only [List.length_cons, List.length_nil] at h1
    have := Goes.bounds _ _ _ (by show (peekT nl L s.pos).lo + 1 ≤ L.length; have := ho.len; omega) hm
    exact ⟨by have := this.1; simp only at this; omega, this.2⟩
  split at hm
  · rename_i ht
    have h1 := isTok_hi hs ht
    cases hm
    simp only [wAll, List.length_cons, List.length_nil] at h1
    exact ⟨by show s.pos + 1 ≤ (peekT nl L s.pos).lo + 3; omega, by show (peekT nl L s.pos).lo + 3 ≤ L.length; have := ho.len; omega⟩
  split at hm
  · rename_i ht
    have h1 := isTok_hi hs ht
    cases hm
    simp only [wT, List.length_cons, List.length_nil] at h1
    exact ⟨by show s.pos + 1 ≤ (peekT nl L s.pos).lo + 1; omega, by show (peekT nl L s.pos).lo + 1 ≤ L.length; have := ho.len; omega⟩
  split at hm
  · rename_i ht
    have h1 := isTok_hi hs ht
    simp only [wSqr, List.length_cons, List.length_nil] at h1
    have := ((Goes.paren h).map _) _ _ _ (by show (peekT nl L s.pos).lo + 3 ≤ L.length; have := ho.len; omega) hm
    exact ⟨by have := this.1; simp only at this; omega, this.2⟩
  split at hm
  · rename_i ht
    have h1 := isTok_hi hs ht
    simp only [wSqrt, List.length_cons, List.length_nil] at h1
    have := ((Goes.paren h).map _) _ _ _ (by show (peekT nl L s.pos).lo + 4 ≤ L.length; have := ho.len; omega) hm
    exact ⟨by have := this.1; simp only at this; omega, this.2⟩
  split at hm
  · rename_i hk
    cases hm
    have := ho.some (Or.inl hk)
    exact ⟨by show s.pos + 1 ≤ (peekT nl L s.pos).hi; omega, ho.len⟩
  split at hm
  · have := (Goes.paren h) _ _ _ hlo hm
    exact ⟨by have := this.1; simp only at this; omega, this.2⟩
  · cases hm
theorem Goes.factor {d : Nat} {sum : Pr Tr} (h : Goes L d sum) : ∀ k, Goes L 1 (Od.factor nl L sum k)
  | 0 => Goes.fail _
  | k + 1 => by
    have : Goes L (0 + 1) (Od.factor nl L sum (k + 1)) := (Goes.accept [45]).bind fun b => by
      cases b with
      | true => exact (Goes.factor h k).map _
      | false => exact Goes.atom h
    exact this.mono (by omega)
theorem Goes.chain {d : Nat} {op : Pr Tr} (h : Goes L d op) (c e : List UInt8) (f g : Int) : ∀ k t, Goes L 0 (Od.chain nl L op c e f g k t)
  | 0, t => Goes.fail _
  | k + 1, t => by
    have : Goes L (0 + 0) (Od.chain nl L op c e f g (k + 1) t) := (Goes.accept c).bind fun b => by
      cases b with
      | true => exact (h.bind fun r => Goes.chain h c e f g k _).mono (by omega)
      | false =>
        refine ((Goes.accept e).bind fun b => ?_ : Goes L (0 + 0) _)
        cases b with
        | true => exact (h.bind fun r => Goes.chain h c e f g k _).mono (by omega)
        | false => exact Goes.ret t
    exact this
theorem Goes.product {d : Nat} {sum : Pr Tr} (h : Goes L d sum) (k : Nat) : Goes L 1 (Od.product nl L sum k) :=
  ((Goes.factor h k).bind fun e => Goes.chain (Goes.factor h k) [42] [47] 9 10 k e).mono (by omega)
theorem Goes.sum : ∀ n, Goes L 1 (Od.sum nl L n)
  | 0 => Goes.fail _
  | n + 1 => ((Goes.product (Goes.sum n) (L.length + 1)).bind fun e => Goes.chain (Goes.product (Goes.sum n) (L.length + 1)) [43] [45] 7 8 (L.length + 1) e).mono (by omega)
end
end Go.Proofs.YthcidkidpiaomaaGreatDoor.Od
end
section
set_option linter.unusedVariables false
set_option linter.unusedSimpArgs false
namespace Go.Proofs.YthcidkidpiaomaaGreatDoor.Od
open Go.RowKit
theorem isLt_nat (c : UInt8) : isLt c = (decide ((97 : Int) ≤ c.toNat) && decide ((c.toNat : Int) ≤ 122)) := by
  unfold isLt; rw [Bool.eq_iff_iff]; simp [UInt8.le_iff_toNat_le]; omega
theorem isDg_nat (c : UInt8) : isDg c = (decide ((48 : Int) ≤ c.toNat) && decide ((c.toNat : Int) ≤ 57)) := by
  unfold isDg; rw [Bool.eq_iff_iff]; simp [UInt8.le_iff_toNat_le]; omega
set_option maxRecDepth 100000 in
theorem isLetter_any (c : UInt8) (w : World) : Calls Tryz.prog 105 #[.int .u8 c.toNat] w fun e w' => e = .returned (.bool (isLt c)) ∧ w = w' := by
  rw [isLt_nat]
  obtain ⟨X, hX⟩ : ∃ X : Nat, c.toNat = X := ⟨_, rfl⟩
  rw [hX]
  by_cases h : (97 : Int) ≤ X
  · go_enter Tryz.func105, Tryz.ntmps105
    go_wp2_with fail
    go_ret
    exact ⟨by first | rfl | (rw [decide_eq_true h]; rfl), rfl⟩
  · have d := decide_eq_false h
    clear h
    go_enter Tryz.func105, Tryz.ntmps105
    go_wp2_with fail
    go_ret
    exact ⟨by first | rfl | (rw [d]; rfl), rfl⟩
set_option maxRecDepth 100000 in
theorem isDigit_any (c : UInt8) (w : World) : Calls Tryz.prog 136 #[.int .u8 c.toNat] w fun e w' => e = .returned (.bool (isDg c)) ∧ w = w' := by
  rw [isDg_nat]
  obtain ⟨X, hX⟩ : ∃ X : Nat, c.toNat = X := ⟨_, rfl⟩
  rw [hX]
  by_cases h : (48 : Int) ≤ X
  · go_enter Tryz.func136, Tryz.ntmps136
    go_wp2_with fail
    go_ret
    exact ⟨by first | rfl | (rw [decide_eq_true h]; rfl), rfl⟩
  · have d := decide_eq_false h
    clear h
    go_enter Tryz.func136, Tryz.ntmps136
    go_wp2_with fail
    go_ret
    exact ⟨by first | rfl | (rw [d]; rfl), rfl⟩
set_option maxRecDepth 100000 in
theorem isLetterOrDigit_any (c : UInt8) (w : World) : Calls Tryz.prog 135 #[.int .u8 c.toNat] w fun e w' => e = .returned (.bool (isLD c)) ∧ w = w' := by
  have h1 := isLetter_any c w
  have h2 := isDigit_any c w
  unfold isLD
  obtain ⟨X, hX⟩ : ∃ X : Nat, c.toNat = X := ⟨_, rfl⟩
  rw [hX] at h1 h2 ⊢
  cases hl : isLt c with
  | true =>
    rw [hl] at h1
    go_enter Tryz.func135, Tryz.ntmps135
    go_wp2_with fail
    refine h1.mono ?_
    rintro e w1 ⟨rfl, rfl⟩
    go_wp2_with fail
    go_ret
    exact ⟨rfl, rfl⟩
  | false =>
    rw [hl] at h1
    go_enter Tryz.func135, Tryz.ntmps135
    go_wp2_with fail
    refine h1.mono ?_
    rintro e w1 ⟨rfl, rfl⟩
    go_wp2_with fail
    refine h2.mono ?_
    rintro e w1 ⟨rfl, rfl⟩
    go_wp2_with fail
    go_ret
    exact ⟨rfl, rfl⟩
def Tells (f : Nat) (k : UInt8 → Bool) : Prop := ∀ (c : UInt8) (w : World), Calls Tryz.prog f #[.int .u8 c.toNat] w fun e w' => e = .returned (.bool (k c)) ∧ w = w'
theorem byte_at (s : ByteArray) (i : Nat) (h : i < s.size) : ((s[i].toNat : Nat) : Int) = ((s.data.toList[i]'(by simpa using h)).toNat : Int) := rfl
set_option maxRecDepth 100000 in
set_option maxHeartbeats 1000000 in
theorem skip_any (f : Nat) (k : UInt8 → Bool) (hf : Tells f k) (hcf : ∀ args w, (callFunc f args).run Tryz.prog w = .ok (.enter f args) w) (s : ByteArray) (p gb g : Nat) (w : World) (hp : p ≤ s.size) (hs : Aside (s.size ≤ 8000))
    (hb : w.cell? ⟨gb, 0, none⟩ = some (.pointer (some ⟨g, 0, none⟩))) (h0 : w.cell? ⟨g, 0, none⟩ = some (.string s)) :
    Calls Tryz.prog 134 #[.int .i64 (p : Nat), .func (.func f) #[] #[], .pointer (some ⟨gb, 0, none⟩)] w fun e w' => e = .returned (.int .i64 (skp k s.data.toList p : Nat)) ∧ w = w' := by
  have HF := Aside.mk hf
  have HP := Aside.mk hp
  clear hp hf
  have hsz : s.data.toList.length = s.size := rfl
  have HSZ := Aside.mk hsz
  clear hsz
  go_enter Tryz.func134, Tryz.ntmps134
  go_wp2_with fail
  go_loopg [0] s.size (fun m v0 wr => ∃ q : Nat, v0 = .int .i64 (q : Nat) ∧ Aside (q ≤ s.size) ∧ Aside (q + m = s.size + p ∨ s.size - q ≤ m) ∧ Aside (skp k s.data.toList q = skp k s.data.toList p) ∧ wr = w)
  case atStart => exact ⟨p, rfl, HP, ⟨Or.inr (by omega)⟩, ⟨rfl⟩, rfl⟩
  case round =>
    obtain ⟨q, rfl, HQ, HM, HS, rfl⟩ := hrel
    by_cases hq : q < s.size
    · have hqi : (q : Int) < 9223372036854775807 := by have := hs.out; omega
      have hw1 : wrap64 ((q : Int) + 1) = ((q + 1 : Nat) : Int) := by simp only [wrap64]; omega
      have HK := Aside.mk (HF.out (s[q]) wr)
      cases hk : k s[q] with
      | true =>
        have HST : Aside (skp k s.data.toList (q + 1) = skp k s.data.toList p) := ⟨by rw [← HS.out, skp_step k _ q (by rw [HSZ.out]; exact hq) hk]⟩
        rw [hk] at HK
        clear hk
        go_wp2_with fail
        refine HK.out.mono ?_
        rintro e w1 ⟨rfl, rfl⟩
        go_wp2_with fail
        obtain ⟨go, hgo⟩ : ∃ go, gk = go + 1 := ⟨gk - 1, by have := HM.out; omega⟩
        go_roundg go
        case measure => omega
        case rel => exact ⟨q + 1, by go_num, ⟨by omega⟩, ⟨by have := HM.out; omega⟩, HST, rfl⟩
      | false =>
        have HST : Aside (skp k s.data.toList p = q) := ⟨by rw [← HS.out, skp_stop k _ q (by rw [HSZ.out]; exact hq) hk]⟩
        rw [hk] at HK
        clear hk
        go_wp2_with fail
        refine HK.out.mono ?_
        rintro e w1 ⟨rfl, rfl⟩
        go_wp2_with fail
        go_ret
        exact ⟨by rw [HST.out]; rfl, rfl⟩
    · have HST : Aside (skp k s.data.toList p = q) := ⟨by rw [← HS.out, skp_end k _ q (by rw [HSZ.out]; omega)]⟩
      go_wp2_with fail
      go_ret
      exact ⟨by rw [HST.out]; rfl, rfl⟩
theorem tells_digit : Tells 136 isDg := isDigit_any
theorem tells_ld : Tells 135 isLD := isLetterOrDigit_any
theorem enters_digit : ∀ args w, (callFunc 136 args).run Tryz.prog w = .ok (.enter 136 args) w := fun args w => by kernel_rfl
theorem enters_ld : ∀ args w, (callFunc 135 args).run Tryz.prog w = .ok (.enter 135 args) w := fun args w => by kernel_rfl
theorem ws_all : ∀ X : Nat, X < 256 → decide (0 ≤ Lib.indexByte [32, 9, 13] (UInt8.ofNat X)) = isWs (UInt8.ofNat X) := by decide +kernel
theorem ch_all : ∀ X : Nat, X < 256 → decide (0 ≤ Lib.indexByte [43, 45, 42, 47, 40, 41, 91, 93, 44, 61, 39] (UInt8.ofNat X)) = isCh (UInt8.ofNat X) := by decide +kernel
theorem ix_ch (c : UInt8) (w : World) : Calls Tryz.prog 133 #[.string ⟨#[43, 45, 42, 47, 40, 41, 91, 93, 44, 61, 39]⟩, .int .u8 c.toNat] w fun e w' => ∃ r : Int, e = .returned (.int .i64 r) ∧ decide (0 ≤ r) = isCh c ∧ w = w' := by
  refine (Tryz.strings_IndexByte _ _ w).mono ?_
  rintro e w' ⟨rfl, rfl⟩
  refine ⟨_, rfl, ?_, rfl⟩
  have := ch_all c.toNat c.toNat_lt
  rw [UInt8.ofNat_toNat] at this
  have e : ((c.toNat : Nat) : Int).toNat.toUInt8 = c := by simp
  rw [e]; exact this
end Go.Proofs.YthcidkidpiaomaaGreatDoor.Od
end
section
set_option linter.unusedVariables false
namespace Go.Proofs.YthcidkidpiaomaaGreatDoor.Rg
open Go.RowKit
theorem gd {a : Array Value} {i : Nat} {d v : Value} (h : a.getD i d = v) : a[i]?.getD d = v := by rw [Array.getD_eq_getD_getElem?] at h; exact h
structure Stp (n : Nat) (w w' : World) : Prop where
  low : Below n w w'
  cells : ∀ a v, w.cell? a = some v → w'.cell? a = some v
theorem Stp.refl (n : Nat) (w : World) : Stp n w w := ⟨Below.refl _ _, fun _ _ h => h⟩
theorem Stp.of {n : Nat} {w w' : World} (hn : n ≤ w.heap.size) (h : Below w.heap.size w w') : Stp n w w' := ⟨h.mono hn, fun a v hv => by rw [h.cell (World.block_lt_of_cell? w _ hv)]; exact hv⟩
structure Tab where
  S : Nat → Value → World → Prop
  strict : Bool
  mono : ∀ i v w w', S i v w → (∀ a v, w.cell? a = some v → w'.cell? a = some v) → (strict = true → Below w.heap.size w w') → S i v w'
def Got (T : Tab) (ops : Array Oper) (j : Nat) (a : Act) (w : World) : Prop := ∀ o d, ops[j]? = some o → o.dst = some d → T.S j (a.tmps.getD d undef) w
def Old (ops : Array Oper) (a0 a : Act) : Prop := ∀ t, (ops.all fun o => o.dst != some t) = true → a.tmps.getD t undef = a0.tmps.getD t undef
structure Good (T : Tab) (ops us : Array Oper) (a0 : Act) (w0 : World) (listed : Array Bool) (a : Act) (w : World) : Prop where
  defs : a.defers = a0.defers
  size : a.tmps.size = a0.tmps.size
  len : listed.size = ops.size
  below : Below w0.heap.size w0 w
  old : Old us a0 a
  got : ∀ i, listed.getD i false = true → Got T ops i a w
def StepOk (P : Program) (T : Tab) (ops us : Array Oper) (Q : Exit → Act → World → Prop) (a0 : Act) (w0 : World) (i : Nat) (o : Oper) : Prop :=
  ∀ (a : Act) (w : World), a.tmps.size = a0.tmps.size → Below w0.heap.size w0 w → Old us a0 a → (∀ e ∈ o.after.toList, Region.binds .any e = true → Got T ops e.on a w) →
    (Region.wanted o (yielded ops a.tmps) = true ∧ o.wp P a w (fun a' w' => ∃ v, a' = a.put o.dst v ∧ Stp w0.heap.size w w' ∧ (T.strict = true → Below w.heap.size w w') ∧ T.S i v w') Q) ∨ (Region.wanted o (yielded ops a.tmps) = false ∧ T.S i undef w)
section
variable {P : Program} {T : Tab} {ops us : Array Oper} {Q : Exit → Act → World → Prop} {a0 : Act} {w0 : World}
theorem put_defers (a : Act) (d : Option Tmp) (v : Value) : (a.put d v).defers = a.defers := by cases d <;> rfl
theorem put_size (a : Act) (d : Option Tmp) (v : Value) : (a.put d v).tmps.size = a.tmps.size := by cases d <;> simp [Act.put]
theorem put_other (a : Act) (d : Option Tmp) (v : Value) (t : Tmp) (h : d ≠ some t) : (a.put d v).tmps.getD t undef = a.tmps.getD t undef := by
  cases d with
  | none => rfl
  | some d =>
    have hne : d ≠ t := fun e => h (by rw [e])
    simp [Act.put, Array.getD_eq_getD_getElem?, hne]
theorem put_same (a : Act) (d : Tmp) (v : Value) (h : d < a.tmps.size) : (a.put (some d) v).tmps.getD d undef = v := by
  simp [Act.put, Array.getD_eq_getD_getElem?, h]
theorem Good.next {listed : Array Bool} {a : Act} {w w' : World} {i : Nat} {o : Oper} {v : Value} (h : Good T ops us a0 w0 listed a w) (hi : ops[i]? = some o) (hu : o ∈ us)
    (hdst : ∀ (i j : Nat) (o o' : Oper) (d : Tmp), ops[i]? = some o → ops[j]? = some o' → o.dst = some d → o'.dst = some d → i = j) (hsz : ∀ (i : Nat) (o : Oper) (d : Tmp), ops[i]? = some o → o.dst = some d → d < a0.tmps.size)
    (hb : Stp w0.heap.size w w') (hbs : T.strict = true → Below w.heap.size w w') (hv : T.S i v w') : Good T ops us a0 w0 (listed.setIfInBounds i true) (a.put o.dst v) w' := by
  have hbw : Below w0.heap.size w0 w' := h.below.trans hb.low
  refine ⟨by rw [put_defers]; exact h.defs, by rw [put_size]; exact h.size, by simpa using h.len, hbw, fun t ht => ?_, fun j hj => ?_⟩
  · rw [put_other, h.old t ht]
    intro e
    have := Array.all_eq_true_iff_forall_mem.1 ht o hu
    simp [e] at this
  · intro o' d ho' hd
    by_cases hij : j = i
    · subst hij
      rw [hi] at ho'; cases ho'
      rw [hd, put_same _ _ _ (by rw [h.size]; exact hsz j o d hi hd)]
      exact hv
    · rw [put_other _ _ _ _ (fun e => hij (hdst j i o' o d ho' hi hd e))]
      have hj' : listed.getD j false = true := by
        rw [Array.getD_eq_getD_getElem?, Array.getElem?_setIfInBounds, if_neg (fun e => hij e.symm)] at hj
        rw [Array.getD_eq_getD_getElem?]; exact hj
      exact T.mono _ _ _ _ (h.got j hj' o' d ho' hd) hb.cells hbs
theorem mem_ready {listed : Array Bool} {i : Nat} (h : i ∈ Region.ready .any ops listed) : ∃ o, ops[i]? = some o ∧ listed.getD i true = false ∧ ∀ e ∈ o.after.toList, Region.binds .any e = true → listed.getD e.on false = true := by
  simp only [Region.ready, List.mem_filter, Bool.and_eq_true, Bool.not_eq_true'] at h
  obtain ⟨_, h1, h2⟩ := h
  cases ho : ops[i]? with
  | none => rw [ho] at h2; simp at h2
  | some o =>
    rw [ho] at h2
    simp only [Option.map_some, Option.getD_some] at h2
    refine ⟨o, rfl, h1, fun e he hb => ?_⟩
    have := Array.all_eq_true_iff_forall_mem.1 h2 e (by simpa using he)
    rw [hb] at this
    simpa using this
def AllOk (P : Program) (T : Tab) (ops us : Array Oper) (Q : Exit → Act → World → Prop) (a0 : Act) (w0 : World) : Nat → List Oper → Prop
  | _, [] => True
  | k, o :: r => StepOk P T ops us Q a0 w0 k o ∧ AllOk P T ops us Q a0 w0 (k + 1) r
theorem AllOk.nil {k : Nat} : AllOk P T ops us Q a0 w0 k [] := trivial
theorem AllOk.cons {k : Nat} {o : Oper} {r : List Oper} (h : StepOk P T ops us Q a0 w0 k o) (t : AllOk P T ops us Q a0 w0 (k + 1) r) : AllOk P T ops us Q a0 w0 k (o :: r) := ⟨h, t⟩
theorem AllOk.at {l : List Oper} : ∀ {k : Nat}, AllOk P T ops us Q a0 w0 k l → ∀ i o, l[i]? = some o → StepOk P T ops us Q a0 w0 (k + i) o := by
  induction l with
  | nil => intro k _ i o h; simp at h
  | cons x r ih =>
    intro k h i o ho
    cases i with
    | zero => simp at ho; subst ho; exact h.1
    | succ i =>
      simp at ho
      have := ih h.2 i o ho
      rwa [show k + 1 + i = k + (i + 1) by omega] at this
def noDup : List Nat → Bool
  | [] => true
  | x :: r => !(r.any (Nat.beq x)) && noDup r
theorem nodup_of : ∀ {l : List Nat}, noDup l = true → l.Nodup := by
  intro l
  induction l with
  | nil => intro _; exact List.nodup_nil
  | cons x r ih =>
    intro h
    simp only [noDup, Bool.and_eq_true, Bool.not_eq_true'] at h
    refine List.nodup_cons.2 ⟨fun hm => ?_, ih h.2⟩
    have := List.any_eq_false.1 h.1 x hm
    simp at this
def slotsOk (ops : List Oper) (n : Nat) : Bool := ((ops.filterMap (·.dst)).all fun d => Nat.blt d n) && noDup (ops.filterMap (·.dst))
theorem slots_lt {l : List Oper} {n : Nat} (h : slotsOk l n = true) : ∀ (i : Nat) (o : Oper) (d : Tmp), l[i]? = some o → o.dst = some d → d < n := by
  intro i o d hi hd
  simp only [slotsOk, Bool.and_eq_true] at h
  have := List.all_eq_true.1 h.1 d (List.mem_filterMap.2 ⟨o, List.mem_of_getElem? hi, hd⟩)
  simpa [Nat.blt_eq] using this
theorem slots_ne {l : List Oper} {n : Nat} (h : slotsOk l n = true) : ∀ (i j : Nat) (o o' : Oper) (d : Tmp), l[i]? = some o → l[j]? = some o' → o.dst = some d → o'.dst = some d → i = j := by
  simp only [slotsOk, Bool.and_eq_true] at h
  have hn := nodup_of h.2
  clear h
  induction l with
  | nil => intro i j o o' d hi; simp at hi
  | cons x r ih =>
    intro i j o o' d hi hj hd hd'
    have hr : (r.filterMap (·.dst)).Nodup := by
      cases hx : x.dst with
      | none => simpa [List.filterMap_cons, hx] using hn
      | some y => rw [List.filterMap_cons, hx] at hn; exact (List.nodup_cons.1 hn).2
    cases i with
    | zero =>
      cases j with
      | zero => rfl
      | succ j =>
        simp at hi hj
        subst hi
        rw [List.filterMap_cons, hd] at hn
        exact absurd (List.mem_filterMap.2 ⟨o', List.mem_of_getElem? hj, hd'⟩) (List.nodup_cons.1 hn).1
    | succ i =>
      cases j with
      | zero =>
        simp at hi hj
        subst hj
        rw [List.filterMap_cons, hd'] at hn
        exact absurd (List.mem_filterMap.2 ⟨o, List.mem_of_getElem? hi, hd⟩) (List.nodup_cons.1 hn).1
      | succ j =>
        simp at hi hj
        rw [ih hr i j o o' d hi hj hd hd']
def edgesOk : Nat → List Oper → Bool
  | _, [] => true
  | k, o :: r => (o.after.toList.all fun e => !Region.binds .any e || decide (e.on < k)) && edgesOk (k + 1) r
theorem edges_lt {l : List Oper} : ∀ {k : Nat}, edgesOk k l = true → ∀ (i : Nat) (o : Oper), l[i]? = some o → ∀ e ∈ o.after.toList, Region.binds .any e = true → e.on < k + i := by
  induction l with
  | nil => intro k _ i o h; simp at h
  | cons x r ih =>
    intro k h i o ho e he hb
    simp only [edgesOk, Bool.and_eq_true] at h
    cases i with
    | zero =>
      simp at ho; subst ho
      have := List.all_eq_true.1 h.1 e he
      rw [hb] at this
      simpa using this
    | succ i =>
      simp at ho
      have := ih h.2 i o ho e he hb
      omega
theorem all_listed {l : List Oper} (h : edgesOk 0 l = true) {listed : Array Bool} (hsz : listed.size = l.toArray.size) (hr : Region.ready .any l.toArray listed = []) : ∀ i, i < l.toArray.size → listed.getD i false = true := by
  intro i
  induction i using Nat.strongRecOn with
  | ind i ih =>
    intro hi
    cases hl : listed.getD i false with
    | true => rfl
    | false =>
      exfalso
      have hlt : i < listed.size := by omega
      have hl' : listed.getD i true = false := by
        rw [Array.getD_eq_getD_getElem?, Array.getElem?_eq_getElem hlt] at hl ⊢
        simpa using hl
      have hi' : i < l.length := by simpa using hi
      have : i ∈ Region.ready .any l.toArray listed := by
        simp only [Region.ready, List.mem_filter, List.mem_range, Bool.and_eq_true, Bool.not_eq_true']
        refine ⟨hi, hl', ?_⟩
        have ho : l.toArray[i]? = some l[i] := by simp [hi']
        rw [ho]
        simp only [Option.map_some, Option.getD_some]
        rw [← Array.all_toList, List.all_eq_true]
        intro e he
        cases hb : Region.binds .any e with
        | false => rfl
        | true =>
          have := edges_lt h i l[i] (by simp [hi']) e he hb
          rw [ih e.on (by omega) (by omega)]
          rfl
      rw [hr] at this
      cases this
theorem got_of {T : Tab} {ops : Array Oper} {a : Act} {w : World} {o : Oper} {j : Nat} {oj : Oper} {d : Tmp}
    (hgot : ∀ e ∈ o.after.toList, Region.binds .any e = true → Got T ops e.on a w) (hj : ops[j]? = some oj) (hd : oj.dst = some d) (he : (o.after.toList.any fun e => e.on == j && Region.binds .any e) = true) : T.S j (a.tmps.getD d undef) w := by
  obtain ⟨e, hm, hh⟩ := List.any_eq_true.1 he
  simp only [Bool.and_eq_true, beq_iff_eq] at hh
  have := hgot e hm hh.2
  rw [hh.1] at this
  exact this oj d hj hd
theorem wanted_none {o : Oper} {f : Nat → Option Bool} (h : o.guard = none) : Region.wanted o f = true := by simp [Region.wanted, h]
theorem yielded_of {ops : Array Oper} {a : Act} {j : Nat} {oj : Oper} {d : Tmp} {b : Bool} (hj : ops[j]? = some oj) (hd : oj.dst = some d) (hv : a.tmps.getD d undef = .bool b) : yielded ops a.tmps j = some b := by
  have : a.tmps[d]? = some (.bool b) := by
    rw [Array.getD_eq_getD_getElem?] at hv
    cases h : a.tmps[d]? with
    | none => rw [h] at hv; cases hv
    | some x => rw [h] at hv; simp at hv; rw [hv]
  simp [yielded, hj, hd, this]
theorem wanted_of {ops : Array Oper} {a : Act} {o : Oper} {j : Nat} {oj : Oper} {d : Tmp} {b c : Bool} (hg : o.guard = some (j, b)) (hj : ops[j]? = some oj) (hd : oj.dst = some d) (hv : a.tmps.getD d undef = .bool c) : Region.wanted o (yielded ops a.tmps) = (c == b) := by
  simp only [Region.wanted, hg, yielded_of hj hd hv]
  rfl
theorem wp_value {P : Program} {T : Tab} {Q : Exit → Act → World → Prop} {n i : Nat} {o : Oper} {a : Act} {w w' : World} {v : Value} (hn : n ≤ w.heap.size) (hr : (execOp a.eval o).run P w = .ok (.value v) w') (hb : Below w.heap.size w w') (hv : T.S i v w') :
    o.wp P a w (fun a' w' => ∃ v, a' = a.put o.dst v ∧ Stp n w w' ∧ (T.strict = true → Below w.heap.size w w') ∧ T.S i v w') Q := by
  unfold Oper.wp
  rw [hr, Oper.upon_value]
  exact ⟨v, rfl, .of hn hb, fun _ => hb, hv⟩
theorem wv {P : Program} {T : Tab} {Q : Exit → Act → World → Prop} {ops : Array Oper} {i : Nat} {o : Oper} {a : Act} {w0 w : World} {v : Value} (hb : Below w0.heap.size w0 w) (hg : o.guard = none) (hr : (execOp a.eval o).run P w = .ok (.value v) w) (hv : T.S i v w) :
    (Region.wanted o (yielded ops a.tmps) = true ∧ o.wp P a w (fun a' w' => ∃ v, a' = a.put o.dst v ∧ Stp w0.heap.size w w' ∧ (T.strict = true → Below w.heap.size w w') ∧ T.S i v w') Q) ∨ (Region.wanted o (yielded ops a.tmps) = false ∧ T.S i undef w) :=
  Or.inl ⟨wanted_none hg, wp_value hb.size hr (Below.refl _ _) hv⟩
theorem wp_calls {P : Program} {T : Tab} {Q : Exit → Act → World → Prop} {n i : Nat} {o : Oper} {a : Act} {w : World} {f : Nat} {args : Array Value} (hn : n ≤ w.heap.size) (hr : (execOp a.eval o).run P w = .ok (.enter f args) w)
    (hc : Calls P f args w fun e w' => ∃ v, e = .returned v ∧ Below w.heap.size w w' ∧ T.S i v w') :
    o.wp P a w (fun a' w' => ∃ v, a' = a.put o.dst v ∧ Stp n w w' ∧ (T.strict = true → Below w.heap.size w w') ∧ T.S i v w') Q := by
  unfold Oper.wp
  rw [hr, Oper.upon_enter]
  refine hc.mono ?_
  rintro e w' ⟨v, rfl, hb, hv⟩
  exact ⟨v, rfl, .of hn hb, fun _ => hb, hv⟩
end
end Go.Proofs.YthcidkidpiaomaaGreatDoor.Rg
end
section
set_option linter.unusedVariables false
namespace Go.Proofs.YthcidkidpiaomaaGreatDoor.Rg
open Go.RowKit
def Closed (ops : Array Oper) (listed : Array Bool) : Prop := ∀ j o, ops[j]? = some o → listed.getD j false = true → ∀ e ∈ o.after.toList, Region.binds .any e = true → listed.getD e.on false = true
section
variable {P : Program} {T : Tab} {Q : Exit → Act → World → Prop} {a0 : Act} {w0 : World}
theorem count_next {listed : Array Bool} {i : Nat} {fuel : Nat} (hc : listed.toList.count false ≤ fuel + 1) (hl : listed.getD i true = false) : ((listed.setIfInBounds i true).toList.count false) ≤ fuel := by
  rw [Array.getD_eq_getD_getElem?] at hl
  cases hq : listed[i]? with
  | none => rw [hq] at hl; simp at hl
  | some b =>
    rw [hq] at hl; simp at hl; subst hl
    obtain ⟨hlt, hget⟩ := Array.getElem?_eq_some_iff.1 hq
    rw [Array.toList_setIfInBounds, List.count_set (by simpa using hlt)]
    have hgl : listed.toList[i] = false := by simpa using hget
    rw [hgl, if_pos (by rfl), if_neg (by decide)]
    have hpos : 0 < listed.toList.count false := List.count_pos_iff.2 (by rw [← hgl]; exact List.getElem_mem _)
    omega
theorem listed_next {listed : Array Bool} {i j : Nat} (h : (listed.setIfInBounds i true).getD j false = true) : j = i ∨ listed.getD j false = true := by
  by_cases hij : j = i
  · exact Or.inl hij
  · right
    rw [Array.getD_eq_getD_getElem?, Array.getElem?_setIfInBounds, if_neg (fun e => hij e.symm)] at h
    rw [Array.getD_eq_getD_getElem?]; exact h
theorem listed_keep {listed : Array Bool} {i j : Nat} (h : listed.getD j false = true) : (listed.setIfInBounds i true).getD j false = true := by
  rw [Array.getD_eq_getD_getElem?] at h ⊢
  rw [Array.getElem?_setIfInBounds]
  split
  · split
    · rfl
    · rename_i h1 h2
      subst h1
      rw [Array.getElem?_eq_none (by omega)] at h; simp at h
  · exact h
def AllBut (P : Program) (T : Tab) (ops us : Array Oper) (Q : Exit → Act → World → Prop) (a0 : Act) (w0 : World) : Nat → List Oper → Prop
  | _, [] => True
  | _, [_] => True
  | k, o :: r => StepOk P T ops us Q a0 w0 k o ∧ AllBut P T ops us Q a0 w0 (k + 1) r
theorem AllBut.cons {ops us : Array Oper} {k : Nat} {o o' : Oper} {r : List Oper} (h : StepOk P T ops us Q a0 w0 k o) (t : AllBut P T ops us Q a0 w0 (k + 1) (o' :: r)) : AllBut P T ops us Q a0 w0 k (o :: o' :: r) := ⟨h, t⟩
theorem AllBut.at {ops us : Array Oper} {l : List Oper} : ∀ {k : Nat}, AllBut P T ops us Q a0 w0 k l → ∀ i o, i < l.length - 1 → l[i]? = some o → StepOk P T ops us Q a0 w0 (k + i) o := by
  induction l with
  | nil => intro k _ i o h; simp at h
  | cons x r ih =>
    intro k h i o hi ho
    cases r with
    | nil => simp at hi
    | cons y r =>
      cases i with
      | zero => simp at ho; subst ho; exact h.1
      | succ i =>
        simp only [List.getElem?_cons_succ] at ho
        have := ih h.2 i o (by simp at hi ⊢; omega) ho
        rwa [show k + 1 + i = k + (i + 1) by omega] at this
def succUpTo (l : List Oper) (m : Nat) : Bool := (List.range m).all fun i => (List.range (m + 1)).any fun j => decide (i < j) && ((l[j]?).map fun o => o.after.toList.any fun e => Region.binds .any e && e.on == i).getD false
def chainOk (l : List Oper) (m : Nat) : Bool := (List.range l.length).all fun j => !decide (m < j) || ((l[j]?).map fun o => o.after.toList.any fun e => Region.binds .any e && e.on + 1 == j).getD false
theorem upto_all {l : List Oper} {m : Nat} (hs : succUpTo l m = true) {listed : Array Bool} (hc : Closed l.toArray listed) {o : Oper} (hl : l[m]? = some o)
    (hd : ∀ e ∈ o.after.toList, Region.binds .any e = true → listed.getD e.on false = true) : ∀ d i, m - i ≤ d → i < m → listed.getD i false = true := by
  intro d
  induction d with
  | zero => intro i h1 h2; omega
  | succ d ih =>
    intro i h1 h2
    have h := List.all_eq_true.1 hs i (List.mem_range.2 h2)
    obtain ⟨j, hj, hh⟩ := List.any_eq_true.1 h
    have hj' := List.mem_range.1 hj
    simp only [Bool.and_eq_true, decide_eq_true_eq] at hh
    obtain ⟨hij, ho⟩ := hh
    cases hq : l[j]? with
    | none => rw [hq] at ho; simp at ho
    | some oj =>
      rw [hq] at ho
      simp only [Option.map_some, Option.getD_some] at ho
      obtain ⟨e, he, hb⟩ := List.any_eq_true.1 ho
      simp only [Bool.and_eq_true, beq_iff_eq] at hb
      rw [← hb.2]
      by_cases hjl : j = m
      · subst hjl
        rw [hl] at hq; cases hq
        exact hd e he hb.1
      · exact hc j oj (by simpa using hq) (ih j (by omega) (by omega)) e he hb.1
theorem chain_prev {l : List Oper} {m j : Nat} (hc : chainOk l m = true) (hj : m < j) {o : Oper} (ho : l[j]? = some o) {listed : Array Bool}
    (hd : ∀ e ∈ o.after.toList, Region.binds .any e = true → listed.getD e.on false = true) : listed.getD (j - 1) false = true := by
  have hl := (List.getElem?_eq_some_iff.1 ho).1
  have h := List.all_eq_true.1 hc j (List.mem_range.2 hl)
  rw [ho] at h
  simp only [hj, decide_true, Bool.not_true, Bool.false_or, Option.map_some, Option.getD_some] at h
  obtain ⟨e, he, hb⟩ := List.any_eq_true.1 h
  simp only [Bool.and_eq_true, beq_iff_eq] at hb
  have := hd e he hb.1
  rwa [show e.on = j - 1 by omega] at this
theorem getD_flip {listed : Array Bool} {i : Nat} (h : i < listed.size) : listed.getD i true = listed.getD i false := by
  rw [Array.getD_eq_getD_getElem?, Array.getD_eq_getD_getElem?, Array.getElem?_eq_getElem h]; rfl
theorem listed_at {listed : Array Bool} {i : Nat} (h : i < listed.size) : (listed.setIfInBounds i true).getD i false = true := by
  rw [Array.getD_eq_getD_getElem?, Array.getElem?_setIfInBounds, if_pos rfl, if_pos h]; rfl
theorem listed_off {listed : Array Bool} {i j : Nat} (h : j ≠ i) : (listed.setIfInBounds i true).getD j false = listed.getD j false := by
  rw [Array.getD_eq_getD_getElem?, Array.getElem?_setIfInBounds, if_neg (fun e => h e.symm), ← Array.getD_eq_getD_getElem?]
theorem any_of_chain {l : List Oper} {m : Nat} (hes : edgesOk 0 l = true) (hch : chainOk l m = true) :
    ∀ (tl : List Oper) (n : Nat) (fuel : Nat) (listed : Array Bool) (a : Act) (w : World), m < n → l.drop n = tl → listed.size = l.length → (listed.toList.count false) ≤ fuel → (∀ i, i < n → listed.getD i false = true) → (∀ i, n ≤ i → listed.getD i false = false) →
      wpList P l.toArray Q tl a w → wpAny P .any l.toArray Q fuel listed a w := by
  intro tl
  induction tl with
  | nil =>
    intro n fuel listed a w hmn hdr hsz hc h1 h2 hw
    have hn : l.length ≤ n := List.drop_eq_nil_iff.1 hdr
    have hr : Region.ready .any l.toArray listed = [] := by
      rw [List.eq_nil_iff_forall_not_mem]
      intro j hj
      obtain ⟨o', ho', hlj, _⟩ := mem_ready hj
      have hjl : j < l.length := by
        have : l[j]? = some o' := by simpa using ho'
        exact (List.getElem?_eq_some_iff.1 this).1
      rw [getD_flip (by omega), h1 j (by omega)] at hlj; cases hlj
    cases fuel with
    | zero => exact ⟨hr, hw⟩
    | succ f => exact ⟨fun _ => hw, fun j hj => by rw [hr] at hj; cases hj⟩
  | cons o tl ih =>
    intro n fuel listed a w hmn hdr hsz hc h1 h2 hw
    have hn : n < l.length := by
      rcases Nat.lt_or_ge n l.length with h | h
      · exact h
      · rw [List.drop_eq_nil_of_le h] at hdr; cases hdr
    have hon : l[n]? = some o := by
      have := congrArg (·[0]?) hdr
      simpa using this
    have hdr' : l.drop (n + 1) = tl := by
      have := congrArg (List.drop 1) hdr
      simpa [List.drop_drop] using this
    have hNo : Region.ready .any l.toArray listed ≠ [] := by
      intro hr
      have := all_listed hes (by simpa using hsz) hr n (by simpa using hn)
      rw [h2 n (Nat.le_refl _)] at this; cases this
    cases fuel with
    | zero =>
      exfalso
      have hlt : n < listed.size := by omega
      have h0 : listed.toList.count false = 0 := by omega
      rw [List.count_eq_zero] at h0
      have := h2 n (Nat.le_refl _)
      rw [Array.getD_eq_getD_getElem?, Array.getElem?_eq_getElem hlt] at this
      simp at this
      exact h0 (by rw [← this]; exact Array.mem_toList_iff.2 (Array.getElem_mem hlt))
    | succ f =>
      refine ⟨fun hr => absurd hr hNo, fun i hi => ?_⟩
      obtain ⟨oi, hoi, hli, he⟩ := mem_ready hi
      have hoi' : l[i]? = some oi := by simpa using hoi
      have hil : i < l.length := (List.getElem?_eq_some_iff.1 hoi').1
      have hin : i = n := by
        rcases Nat.lt_trichotomy i n with h | h | h
        · rw [getD_flip (by omega), h1 i h] at hli; cases hli
        · exact h
        · have := chain_prev hch (by omega) hoi' he
          rw [h2 (i - 1) (by omega)] at this; cases this
      subst hin
      rw [hon] at hoi'; cases hoi'
      have hcount := count_next hc hli
      have hnext : ∀ a' w', wpList P l.toArray Q tl a' w' → wpAny P .any l.toArray Q f (listed.setIfInBounds i true) a' w' := fun a' w' hh =>
        ih (i + 1) f _ a' w' (by omega) hdr' (by simpa using hsz) hcount
          (fun j hj => by
            by_cases hji : j = i
            · subst hji; exact listed_at (by omega)
            · rw [listed_off hji]; exact h1 j (by omega))
          (fun j hj => by rw [listed_off (by omega)]; exact h2 j (by omega)) hh
      unfold wpOp
      simp only [hoi]
      unfold wpList at hw
      by_cases hwt : Region.wanted o (yielded l.toArray a.tmps) = true
      · rw [if_pos hwt] at hw ⊢
        rcases hw with hw | hw
        · exact Or.inl (Oper.wp_mono (fun a' w' => hnext a' w') hw)
        · exact Or.inr hw
      · rw [if_neg hwt] at hw ⊢
        exact hnext _ _ hw
theorem any_of_list {l : List Oper} {m : Nat} (hm : m < l.length) (hs : succUpTo l m = true) (hes : edgesOk 0 l = true) (hch : chainOk l m = true)
    (hdst : ∀ (i j : Nat) (o o' : Oper) (d : Tmp), l.toArray[i]? = some o → l.toArray[j]? = some o' → o.dst = some d → o'.dst = some d → i = j) (hsz : ∀ (i : Nat) (o : Oper) (d : Tmp), l.toArray[i]? = some o → o.dst = some d → d < a0.tmps.size)
    (hstep : ∀ (i : Nat) (o : Oper), i < m → l[i]? = some o → StepOk P T l.toArray (l.take m).toArray Q a0 w0 i o)
    (hend : ∀ listed a w, Good T l.toArray (l.take m).toArray a0 w0 listed a w → (∀ i, i < m → listed.getD i false = true) → wpList P l.toArray Q (l.drop m) a w) :
    ∀ (fuel : Nat) (listed : Array Bool) (a : Act) (w : World), (listed.toList.count false) ≤ fuel → Good T l.toArray (l.take m).toArray a0 w0 listed a w → Closed l.toArray listed → (∀ i, m ≤ i → listed.getD i false = false) → wpAny P .any l.toArray Q fuel listed a w := by
  obtain ⟨om, hom⟩ : ∃ om, l[m]? = some om := ⟨l[m], List.getElem?_eq_getElem hm⟩
  intro fuel
  induction fuel with
  | zero =>
    intro listed a w hc hg hcl hl
    exfalso
    have hlt : m < listed.size := by rw [hg.len]; simpa using hm
    have := hl m (Nat.le_refl _)
    rw [Array.getD_eq_getD_getElem?, Array.getElem?_eq_getElem hlt] at this
    simp at this
    have h0 : listed.toList.count false = 0 := by omega
    rw [List.count_eq_zero] at h0
    exact h0 (by rw [← this]; exact Array.mem_toList_iff.2 (Array.getElem_mem hlt))
  | succ fuel ih =>
    intro listed a w hc hg hcl hl
    have hlsz : listed.size = l.length := by rw [hg.len]; simp
    refine ⟨fun hr => ?_, fun i hi => ?_⟩
    · exfalso
      have := all_listed hes hg.len hr m (by simpa using hm)
      rw [hl m (Nat.le_refl _)] at this; cases this
    obtain ⟨o, ho, hli, he⟩ := mem_ready hi
    have ho' : l[i]? = some o := by simpa using ho
    have hil : i < l.length := (List.getElem?_eq_some_iff.1 ho').1
    have hcount := count_next hc hli
    by_cases hq : i < m
    · unfold wpOp
      simp only [ho]
      have hst := hstep i o hq ho' a w hg.size hg.below hg.old (fun e hem hb => hg.got e.on (he e hem hb))
      have hcl' : Closed l.toArray (listed.setIfInBounds i true) := by
        intro j oj hoj hj e hem hb
        rcases listed_next hj with rfl | hj
        · rw [ho] at hoj; cases hoj
          exact listed_keep (he e hem hb)
        · exact listed_keep (hcl j oj hoj hj e hem hb)
      have hl' : ∀ j, m ≤ j → (listed.setIfInBounds i true).getD j false = false := fun j hj => by rw [listed_off (by omega)]; exact hl j hj
      rcases hst with ⟨hw, hst⟩ | ⟨hw, hst⟩
      · rw [if_pos hw]
        refine Or.inl (Oper.wp_mono ?_ hst)
        rintro a' w' ⟨v, rfl, hb, hbs, hv⟩
        exact ih _ _ _ hcount (hg.next ho (by simp only [List.mem_toArray]; exact List.mem_take_iff_getElem.2 ⟨i, by omega, by rw [List.getElem?_eq_getElem hil] at ho'; exact Option.some.inj ho'⟩) hdst hsz hb hbs hv) hcl' hl'
      · rw [if_neg (by rw [hw]; simp)]
        exact ih _ _ _ hcount (hg.next ho (by simp only [List.mem_toArray]; exact List.mem_take_iff_getElem.2 ⟨i, by omega, by rw [List.getElem?_eq_getElem hil] at ho'; exact Option.some.inj ho'⟩) hdst hsz (Stp.refl _ _) (fun _ => Below.refl _ _) hst) hcl' hl'
    · have him : i = m := by
        rcases Nat.lt_or_ge m i with h | h
        · have := chain_prev hch h ho' he
          rw [hl (i - 1) (by omega)] at this; cases this
        · omega
      subst him
      rw [hom] at ho'; cases ho'
      have hall : ∀ j, j < i → listed.getD j false = true := fun j hj => upto_all hs hcl hom he _ j (Nat.le_refl _) hj
      have hw := hend listed a w hg hall
      have hdr : l.drop i = om :: l.drop (i + 1) := by
        rw [List.drop_eq_getElem_cons hil]
        rw [List.getElem?_eq_getElem hil] at hom
        rw [Option.some.inj hom]
      rw [hdr] at hw
      have hnext : ∀ a' w', wpList P l.toArray Q (l.drop (i + 1)) a' w' → wpAny P .any l.toArray Q fuel (listed.setIfInBounds i true) a' w' := fun a' w' hh =>
        any_of_chain hes hch _ (i + 1) fuel _ a' w' (by omega) rfl (by simpa using hlsz) hcount
          (fun j hj => by
            by_cases hji : j = i
            · subst hji; exact listed_at (by omega)
            · rw [listed_off hji]; exact hall j (by omega))
          (fun j hj => by rw [listed_off (by omega)]; exact hl j (by omega)) hh
      unfold wpOp
      simp only [ho]
      unfold wpList at hw
      by_cases hwt : Region.wanted om (yielded l.toArray a.tmps) = true
      · rw [if_pos hwt] at hw ⊢
        rcases hw with hw | hw
        · exact Or.inl (Oper.wp_mono (fun a' w' => hnext a' w') hw)
        · exact Or.inr hw
      · rw [if_neg hwt] at hw ⊢
        exact hnext _ _ hw
def AllIn (P : Program) (T : Tab) (ops us : Array Oper) (Q : Exit → Act → World → Prop) (a0 : Act) (w0 : World) : Nat → Nat → List Oper → Prop
  | _, 0, _ => True
  | _, _ + 1, [] => True
  | k, n + 1, o :: r => StepOk P T ops us Q a0 w0 k o ∧ AllIn P T ops us Q a0 w0 (k + 1) n r
theorem AllIn.nil {ops us : Array Oper} {k : Nat} {l : List Oper} : AllIn P T ops us Q a0 w0 k 0 l := by cases l <;> trivial
theorem AllIn.cons {ops us : Array Oper} {k n : Nat} {o : Oper} {r : List Oper} (h : StepOk P T ops us Q a0 w0 k o) (t : AllIn P T ops us Q a0 w0 (k + 1) n r) : AllIn P T ops us Q a0 w0 k (n + 1) (o :: r) := ⟨h, t⟩
theorem AllIn.at {ops us : Array Oper} {l : List Oper} : ∀ {k n : Nat}, AllIn P T ops us Q a0 w0 k n l → ∀ i o, i < n → l[i]? = some o → StepOk P T ops us Q a0 w0 (k + i) o := by
  induction l with
  | nil => intro k n _ i o _ h; simp at h
  | cons x r ih =>
    intro k n h i o hi ho
    cases n with
    | zero => omega
    | succ n =>
      cases i with
      | zero => simp at ho; subst ho; exact h.1
      | succ i =>
        simp only [List.getElem?_cons_succ] at ho
        have := ih h.2 i o (by omega) ho
        rwa [show k + 1 + i = k + (i + 1) by omega] at this
theorem region_list {id : Nat} {ops : Array Oper} (m : Nat) (l : List Oper) (hm : P.follows .mixedOrders = true) (hs : slotsOk l a0.tmps.size = true) (hes : edgesOk 0 l = true) (hsu : succUpTo l m = true) (hch : chainOk l m = true) (hml : Nat.blt m l.length = true) (hops : ops = l.toArray) (h : AllIn P T ops (l.take m).toArray Q a0 w0 0 m l)
    (hend : ∀ a w, a.defers = a0.defers → a.tmps.size = a0.tmps.size → Below w0.heap.size w0 w → Old (l.take m).toArray a0 a → (∀ i, i < m → Got T ops i a w) → wpList P ops Q (l.drop m) a w) : (Code.region id ops true).wp P Q a0 w0 := by
  subst hops
  refine wp_region_any hm ?_
  have hb : Below w0.heap.size w0 { w0 with drawn := w0.drawn + 1 } := ⟨rfl, rfl, rfl, Nat.le_refl _, fun _ _ => rfl⟩
  have hml' : m < l.length := by simpa [Nat.blt_eq] using hml
  refine any_of_list (a0 := a0) (w0 := w0) hml' hsu hes hch (fun i j o o' d hi hj => slots_ne hs i j o o' d (by simpa using hi) (by simpa using hj)) (fun i o d hi => slots_lt hs i o d (by simpa using hi))
    (fun i o hi ho => by have := h.at i o hi ho; rwa [Nat.zero_add] at this) (fun listed a w hg hall => hend a w hg.defs hg.size hg.below hg.old (fun i hi => hg.got i (hall i hi))) _ _ _ _ ?_ ⟨rfl, rfl, by simp, hb, fun _ _ => rfl, fun i hi => ?_⟩ (fun j o _ hj => ?_) (fun j hj => ?_)
  · simp
  · rw [Array.getD_eq_getD_getElem?, Array.getElem?_replicate] at hi
    split at hi <;> simp at hi
  · rw [Array.getD_eq_getD_getElem?, Array.getElem?_replicate] at hj
    split at hj <;> simp at hj
  · rw [Array.getD_eq_getD_getElem?, Array.getElem?_replicate]
    split <;> rfl
theorem fold_get (a : Array Value) : ∀ (ds : List Nat) (t : Array Value) (i : Nat), i < t.size → i < a.size → (ds.foldl (fun t d => t.setIfInBounds d (a.getD d undef)) t)[i]? = if i ∈ ds then a[i]? else t[i]? := by
  intro ds
  induction ds with
  | nil => intro t i h1 h2; simp
  | cons d ds ih =>
    intro t i h1 h2
    rw [List.foldl_cons, ih _ i (by simpa using h1) h2]
    by_cases hi : i ∈ ds
    · simp [hi]
    · by_cases hd : i = d
      · subst hd
        simp only [hi, if_false, List.mem_cons, true_or, if_true]
        rw [Array.getElem?_setIfInBounds, if_pos rfl, if_pos h1, Array.getD_eq_getD_getElem?, Array.getElem?_eq_getElem h2]
        rfl
      · have : ¬ i ∈ d :: ds := by simp [hi, hd]
        rw [if_neg hi, if_neg this, Array.getElem?_setIfInBounds, if_neg (fun e => hd e.symm)]
theorem fold_size (a : Array Value) : ∀ (ds : List Nat) (t : Array Value), (ds.foldl (fun t d => t.setIfInBounds d (a.getD d undef)) t).size = t.size := by
  intro ds
  induction ds with
  | nil => intro t; rfl
  | cons d ds ih => intro t; rw [List.foldl_cons, ih]; simp
theorem Old.frame {ops : Array Oper} {a : Act} (h : Old ops a0 a) (hs : a.tmps.size = a0.tmps.size) : a.tmps = (ops.toList.filterMap (·.dst)).foldl (fun t d => t.setIfInBounds d (a.tmps.getD d undef)) a0.tmps := by
  apply Array.ext_getElem?
  intro i
  by_cases hi : i < a0.tmps.size
  · rw [fold_get _ _ _ i hi (by omega)]
    by_cases hm : i ∈ ops.toList.filterMap (·.dst)
    · rw [if_pos hm]
    · rw [if_neg hm]
      have := h i (by
        rw [← Array.all_toList, List.all_eq_true]
        intro o ho
        simp only [bne_iff_ne, ne_eq]
        intro hd
        exact hm (List.mem_filterMap.2 ⟨o, ho, hd⟩))
      rw [Array.getD_eq_getD_getElem?, Array.getD_eq_getD_getElem?, Array.getElem?_eq_getElem hi, Array.getElem?_eq_getElem (by omega)] at this
      rw [Array.getElem?_eq_getElem hi, Array.getElem?_eq_getElem (by omega)]
      exact congrArg some this
  · rw [Array.getElem?_eq_none (by omega), Array.getElem?_eq_none (by rw [fold_size]; omega)]
end
inductive Sq
  | val (v : Value)
  | new (n : Nat) (z : Array Value) (T : TypeId)
  | row (n : Nat) (z : Array Value) (T : TypeId) (k c : Nat)
  | any
def Sq.ok : Sq → Value → World → Prop
  | .val v, u, _ => u = v
  | .new n z T, u, w => ∃ g, n ≤ g ∧ u = .pointer (some ⟨g, 0, none⟩) ∧ w.heap[g]? = some (.cells z T (0, 0))
  | .row n z T k c, u, w => ∃ g, n ≤ g ∧ u = .slice (some ⟨g, 0, none⟩) k c ∧ w.heap[g]? = some (.cells z T (0, 0))
  | .any, _, _ => True
theorem lt_heap {w : World} {k : Nat} {o : Obj} (h : w.heap[k]? = some o) : k < w.heap.size := by
  rcases Nat.lt_or_ge k w.heap.size with h' | h'
  · exact h'
  · rw [Array.getElem?_eq_none h'] at h; cases h
def tab2 (l : List Sq) : Tab := ⟨fun i v w => ((l[i]?).getD .any).ok v w, true, fun i v w w' h hb hs => by
  revert h
  generalize (l[i]?).getD .any = s
  intro h
  cases s with
  | val u => exact h
  | new n z T =>
    obtain ⟨g, hn, hv, hh⟩ := h
    exact ⟨g, hn, hv, by rw [(hs rfl).block _ (lt_heap hh)]; exact hh⟩
  | row n z T k c =>
    obtain ⟨g, hn, hv, hh⟩ := h
    exact ⟨g, hn, hv, by rw [(hs rfl).block _ (lt_heap hh)]; exact hh⟩
  | any => trivial⟩
theorem gq {l : List Sq} {ops : Array Oper} {a : Act} {w : World} {o : Oper} {j : Nat} {oj : Oper} {d : Tmp} {v : Value} (hgot : ∀ e ∈ o.after.toList, Region.binds .any e = true → Got (tab2 l) ops e.on a w) (hj : ops[j]? = some oj) (hd : oj.dst = some d) (he : (o.after.toList.any fun e => e.on == j && Region.binds .any e) = true) (hv : l[j]? = some (.val v)) : a.tmps.getD d undef = v := by
  have h : ((l[j]?).getD .any).ok (a.tmps.getD d undef) w := got_of hgot hj hd he
  rw [hv] at h; exact h
theorem gv {l : List Sq} {ops : Array Oper} {a : Act} {w : World} {o : Oper} {j : Nat} {d : Tmp} {v : Value} (hg : Got (tab2 l) ops j a w) (ho : ops[j]? = some o) (hd : o.dst = some d) (hv : l[j]? = some (.val v)) : a.tmps.getD d undef = v := by
  have h : ((l[j]?).getD .any).ok (a.tmps.getD d undef) w := hg o d ho hd
  rw [hv] at h; exact h
end Go.Proofs.YthcidkidpiaomaaGreatDoor.Rg
end
