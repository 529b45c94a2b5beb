/- OdT OdU OdO -/
import Derived.Deep.QuietTactic
import Derived.BigQuiet
import Derived.Laws.OwnMore
import Derived.Test.YthcidkidpiaomaaGreatDoorKf10
import Derived.Test.YthcidkidpiaomaaGreatDoorKf09
section
set_option linter.unusedVariables false
namespace Go.Proofs.YthcidkidpiaomaaGreatDoor.Od
def okT (vars : List (List UInt8)) : Tr → Prop
  | .num lo hi => okIv lo hi = true
  | .var n => n < vars.length
  | .time => True
  | .un op a => (4 ≤ op ∧ op ≤ 6) ∧ okT vars a
  | .bin op a b => (7 ≤ op ∧ op ≤ 10) ∧ okT vars a ∧ okT vars b
def dep : Tr → Nat
  | .un _ a => dep a + 1
  | .bin _ a b => max (dep a) (dep b) + 1
  | _ => 0
section
variable {nl : Bool} {L : List UInt8} {vars : List (List UInt8)} {p q : Nat} {R : List UInt8}
theorem skp_more (f : UInt8 → Bool) {L : List UInt8} {p : Nat} {c : UInt8} (h : L[p]? = some c) (hf : f c = true) : skp f L p = skp f L (p + 1) := by
  obtain ⟨hl, hc⟩ := List.getElem?_eq_some_iff.1 h
  exact skp_step f L p hl (by rw [hc]; exact hf)
theorem ws_at {c : UInt8} (h : At L p (c :: R)) (hc : isWs c = false) : skp isWs L p = p := skp_none isWs h (fun d hd => by obtain rfl := Option.some.inj hd; exact hc)
theorem ws_text {w : List UInt8} {c : UInt8} (h : At L p (w ++ c :: R)) (hw : ∀ d ∈ w, isWs d = true) (hc : isWs c = false) : skp isWs L p = p + w.length := skp_text isWs h hw (fun d hd => by obtain rfl := Option.some.inj hd; exact hc)
theorem fmtL_num {a : Int} (h0 : 0 ≤ a) (h1 : a < 2147483648) : ∃ D F, Fx.fmtL a = D ++ (if F = [] then [] else 46 :: F) ∧ (∀ c ∈ D, isDg c = true) ∧ D ≠ [] ∧ (∀ c ∈ F, isDg c = true) := by
  have hf := Fx.fmtL_txt a
  have hn : decide (a < 0) = false := by simpa using h0
  rw [hn] at hf
  have hd := Fx.decDigits_facts (a.natAbs / 65536)
  refine ⟨Fx.fmtD a, Fx.fmtF a, hf, fun c hc => dig_dg (hd.1 c hc), hd.2.1, fun c hc => dig_dg (Fx.fracL_dig 16 _ (by omega) (by omega) c hc)⟩
theorem fmtL_first {a : Int} (h0 : 0 ≤ a) (h1 : a < 2147483648) : ∃ c r, Fx.fmtL a = c :: r ∧ isDg c = true := by
  obtain ⟨D, F, h, hD, hne, -⟩ := fmtL_num h0 h1
  obtain ⟨d, D', rfl⟩ := List.exists_cons_of_ne_nil hne
  exact ⟨d, D' ++ (if F = [] then [] else 46 :: F), by rw [h]; rfl, hD d (List.mem_cons_self ..)⟩
theorem tok_fmt {a : Int} (h0 : 0 ≤ a) (h1 : a < 2147483648) (h : At L p (Fx.fmtL a ++ R)) (hR : Stop R) : tokAt nl L p = ⟨2, p, p + (Fx.fmtL a).length⟩ := by
  obtain ⟨D, F, e, hD, hne, hF⟩ := fmtL_num h0 h1
  rw [e] at h ⊢
  exact tok_num h hD hne hF hR
theorem number_fmt {a : Int} (h0 : 0 ≤ a) (h1 : a < 2147483648) (h : At L p (Fx.fmtL a ++ R)) (hR : Stop R) (σ : PS) (hp : skp isWs L σ.pos = p) : Od.number nl L σ = .ok (a, a) ⟨p + (Fx.fmtL a).length, σ.names, σ.bad⟩ := by
  unfold Od.number peekT
  simp only
  rw [hp, tok_fmt h0 h1 h hR]
  simp only [if_true]
  rw [sub_at h, Fx.parse_fmt a (by omega) h1]
  simp
theorem signed_fmt {a : Int} (h0 : -2147483648 < a) (h1 : a < 2147483648) (h : At L p (Fx.fmtL a ++ R)) (hR : Stop R) (σ : PS) (hp : skp isWs L σ.pos = p) : Od.signed nl L σ = .ok (a, a) ⟨p + (Fx.fmtL a).length, σ.names, σ.bad⟩ := by
  by_cases hn : a < 0
  · have e : Fx.fmtL a = 45 :: Fx.fmtL (-a) := by
      conv => lhs; unfold Fx.fmtL
      rw [if_pos hn]
      unfold Fx.fmtL
      rw [if_neg (by omega)]
    rw [e] at h ⊢
    have hk : IsCh nl L p 45 := IsCh.of h (by decide)
    have h2 : At L (p + 1) (Fx.fmtL (-a) ++ R) := At.next1 h
    obtain ⟨c, r, ec, hc⟩ := fmtL_first (a := -a) (by omega) (by omega)
    have hw : skp isWs L (p + 1) = p + 1 := ws_at (R := r ++ R) (by rw [ec] at h2; exact h2) (dg_kind hc).2.1
    unfold Od.signed
    rw [bind_ok (hk σ hp), if_pos rfl, map_ok (number_fmt (by omega) (by omega) h2 hR { σ with pos := p + 1 } hw)]
    simp only [Int.neg_neg, List.length_cons]
    rw [show p + 1 + (Fx.fmtL (-a)).length = p + ((Fx.fmtL (-a)).length + 1) by omega]
  · obtain ⟨c, r, ec, hc⟩ := fmtL_first (a := a) (by omega) (by omega)
    have hk : NotCh nl L p 45 := NotCh.at (R := r ++ R) (by rw [ec] at h; exact h) (by rintro rfl; revert hc; decide)
    have hpp : skp isWs L p = p := by rw [← hp]; exact skp_idem isWs L _
    unfold Od.signed
    rw [bind_ok (hk σ hp), if_neg (by decide)]
    exact number_fmt (by omega) h1 h hR { σ with pos := p } hpp
theorem isTok_tok {t : Tok} {x : List UInt8} (ht : tokAt nl L p = t) {s : Nat} (hp : skp isWs L s = p) : isTok nl L x s = true ↔ (t.kind = 3 ∨ t.kind = 1) ∧ sub L p t.hi = x := by
  have hlo : t.lo = p := by rw [← ht]; exact tokAt_lo nl L p
  have hpk : peekT nl L s = t := by unfold peekT; rw [hp, ht]
  unfold isTok
  rw [hpk]
  simp only [Bool.and_eq_true, Bool.or_eq_true, beq_iff_eq]
  constructor
  · rintro ⟨hk, hx⟩
    rw [Tok.txt, if_neg (by omega), hlo] at hx
    exact ⟨hk, hx⟩
  · rintro ⟨hk, hx⟩
    refine ⟨hk, ?_⟩
    rw [Tok.txt, if_neg (by omega), hlo]
    exact hx
theorem word_tok {c : UInt8} {x : List UInt8} (h : At L p (c :: x ++ R)) (h0 : isLt c = true) (hx : ∀ d ∈ x, isLD d = true) (hR : Stop R) {s : Nat} (hp : skp isWs L s = p) :
    peekT nl L s = ⟨1, p, p + (c :: x).length⟩ ∧ ∀ y, isTok nl L y s = decide (c :: x = y) := by
  have ht := tok_word (nl := nl) h h0 hx (fun d hd => (hR d hd).1)
  refine ⟨by unfold peekT; rw [hp, ht], fun y => ?_⟩
  have := isTok_tok (x := y) ht hp
  simp only at this
  rw [sub_at h] at this
  by_cases e : c :: x = y
  · rw [decide_eq_true e]; exact this.2 ⟨by simp, e⟩
  · rw [decide_eq_false e, Bool.eq_false_iff]; intro h'; exact e (this.1 h').2
theorem ch_tok {c : UInt8} (h : At L p (c :: R)) (h0 : isCh c = true) {s : Nat} (hp : skp isWs L s = p) :
    peekT nl L s = ⟨3, p, p + 1⟩ ∧ ∀ y, isTok nl L y s = decide ([c] = y) := by
  have ht := tok_ch (nl := nl) h h0
  refine ⟨by unfold peekT; rw [hp, ht], fun y => ?_⟩
  have := isTok_tok (x := y) ht hp
  simp only at this
  rw [show sub L p (p + 1) = [c] from sub_at (x := [c]) h] at this
  by_cases e : [c] = y
  · rw [decide_eq_true e]; exact this.2 ⟨by simp, e⟩
  · rw [decide_eq_false e, Bool.eq_false_iff]; intro h'; exact e (this.1 h').2
theorem stop_ch {c : UInt8} (h : isCh c = true ∨ c = 32 ∨ c = 10 ∨ c = 9 ∨ c = 13) : Stop (c :: R) := by
  intro d hd
  obtain rfl := Option.some.inj hd
  rcases h with h | rfl | rfl | rfl | rfl
  · have := ch_kind h
    refine ⟨by simp [isLD, this.1, this.2.1], ?_⟩
    rintro rfl
    revert h; decide
  all_goals decide
theorem atom_word {sum : Pr Tr} {c : UInt8} {x : List UInt8} (h : At L p (c :: x ++ R)) (h0 : isLt c = true) (hx : ∀ d ∈ x, isLD d = true) (hR : Stop R) (σ : PS) (hp : skp isWs L σ.pos = p) :
    Od.atom nl L sum σ = if c :: x = wAll then .ok (Tr.num (-maxV) maxV) { σ with pos := p + 3 } else if c :: x = wT then .ok Tr.time { σ with pos := p + 1 } else if c :: x = wSqr then (Od.paren nl L sum).map (Tr.un 5) { σ with pos := p + 3 } else if c :: x = wSqrt then (Od.paren nl L sum).map (Tr.un 6) { σ with pos := p + 4 } else .ok (Tr.var σ.names.length) ⟨p + (c :: x).length, σ.names ++ [(p, p + (c :: x).length)], σ.bad⟩ := by
  obtain ⟨h1, h2⟩ := word_tok (nl := nl) h h0 hx hR hp
  unfold Od.atom
  rw [h1]
  simp only [h2, decide_eq_true_eq]
  rw [if_neg (by decide), if_neg (by rintro h3; injection h3 with h3; subst h3; revert h0; decide)]
  simp only [if_true]
theorem atom_ch {sum : Pr Tr} {c : UInt8} (h : At L p (c :: R)) (h0 : c = 40 ∨ c = 91) (σ : PS) (hp : skp isWs L σ.pos = p) :
    Od.atom nl L sum σ = if c = 91 then Od.bounds nl L { σ with pos := p + 1 } else Od.paren nl L sum { σ with pos := p } := by
  obtain ⟨h1, h2⟩ := ch_tok (nl := nl) h (by rcases h0 with rfl | rfl <;> decide) hp
  unfold Od.atom
  rw [h1]
  simp only [h2, decide_eq_true_eq]
  rcases h0 with rfl | rfl
  · rw [if_neg (by decide), if_neg (by decide), if_neg (by decide), if_neg (by decide), if_neg (by decide), if_neg (by decide), if_neg (by decide), if_pos (by decide), if_neg (by decide)]
  · rw [if_neg (by decide), if_pos (by decide), if_pos (by decide)]
theorem okIv_cases {lo hi : Int} (h : okIv lo hi = true) : (lo = -maxV ∧ hi = maxV) ∨ (-2147483648 < lo ∧ lo < 2147483648 ∧ -2147483648 < hi ∧ hi < 2147483648 ∧ lo ≤ hi ∧ ¬ (lo = -maxV ∧ hi = maxV)) := by
  unfold okIv maxV at *
  simp only [Bool.or_eq_true, Bool.and_eq_true, beq_iff_eq, decide_eq_true_eq] at h
  omega
theorem num_reads {sum : Pr Tr} {lo hi : Int} (hiv : okIv lo hi = true) (h : At L p (fmtIv lo hi ++ R)) (hR : Stop R) : Reads L vars (Od.atom nl L sum) p (p + (fmtIv lo hi).length) (.num lo hi) := by
  intro σ hp
  refine ⟨[], ?_, rfl⟩
  rw [List.append_nil]
  rcases okIv_cases hiv with ⟨rfl, rfl⟩ | ⟨h0, h1, h2, h3, h4, h5⟩
  · have e : fmtIv (-maxV) maxV = wAll := by unfold fmtIv; rw [if_pos ⟨rfl, rfl⟩]
    rw [e] at h ⊢
    rw [atom_word (c := 97) (x := [108, 108]) (R := R) h (by decide) (by decide) hR σ hp, if_pos (show ([97, 108, 108] : List UInt8) = wAll from rfl)]
    rfl
  · by_cases hc : lo = hi ∧ 0 ≤ lo
    · obtain ⟨rfl, h6⟩ := hc
      have e : fmtIv lo lo = Fx.fmtL lo := by unfold fmtIv; rw [if_neg h5, if_pos ⟨rfl, h6⟩]
      rw [e] at h ⊢
      have ht := tok_fmt (nl := nl) h6 h1 h hR
      have hpp : skp isWs L p = p := by rw [← hp]; exact skp_idem isWs L _
      have hpk : peekT nl L σ.pos = ⟨2, p, p + (Fx.fmtL lo).length⟩ := by unfold peekT; rw [hp, ht]
      unfold Od.atom
      rw [hpk]
      simp only [if_true]
      rw [map_ok (number_fmt h6 h1 h hR { σ with pos := p } hpp)]
      rfl
    · have e : fmtIv lo hi = 91 :: (Fx.fmtL lo ++ (44 :: 32 :: (Fx.fmtL hi ++ [93]))) := by unfold fmtIv; rw [if_neg h5, if_neg hc]; simp
      rw [e] at h ⊢
      rw [atom_ch (R := Fx.fmtL lo ++ (44 :: 32 :: (Fx.fmtL hi ++ [93])) ++ R) h (Or.inr rfl) σ hp, if_pos rfl]
      have a1 : At L (p + 1) (Fx.fmtL lo ++ (44 :: 32 :: (Fx.fmtL hi ++ (93 :: R)))) := by
        have := At.next1 (R := Fx.fmtL lo ++ (44 :: 32 :: (Fx.fmtL hi ++ [93])) ++ R) h
        simpa using this
      have a2 := a1.next
      have a3 := At.next1 a2
      have a4 := At.next1 a3
      have a5 := a4.next
      have nows : ∀ (a : Int) (z : Nat) (T : List UInt8), -2147483648 < a → a < 2147483648 → At L z (Fx.fmtL a ++ T) → skp isWs L z = z := by
        intro a z T b0 b1 hz
        by_cases hn : a < 0
        · have e : Fx.fmtL a = 45 :: Fx.fmtP (-a) := by unfold Fx.fmtL; rw [if_pos hn]
          rw [e] at hz
          exact ws_at (R := Fx.fmtP (-a) ++ T) hz (by decide)
        · obtain ⟨c, r, ec, hc⟩ := fmtL_first (a := a) (by omega) b1
          rw [ec] at hz
          exact ws_at (R := r ++ T) hz (dg_kind hc).2.1
      have hw1 := nows lo _ _ h0 h1 a1
      have hw4 := nows hi _ _ h2 h3 a4
      have hw2 := ws_at a2 (by decide)
      have hw3 : skp isWs L (p + 1 + (Fx.fmtL lo).length + 1) = p + 1 + (Fx.fmtL lo).length + 1 + 1 := by
        rw [skp_more isWs (At.get a3) (by decide)]; exact hw4
      have hw5 := ws_at a5 (by decide)
      unfold Od.bounds
      rw [bind_ok (signed_fmt h0 h1 a1 (stop_ch (Or.inl (by decide))) { σ with pos := p + 1 } hw1), bind_ok (expect_ch (IsCh.of a2 (by decide)) _ hw2), bind_ok (signed_fmt h2 h3 a4 (stop_ch (Or.inl (by decide))) _ hw3), bind_ok (expect_ch (IsCh.of a5 (by decide)) _ hw5)]
      simp only [Pr.ret, rn, List.length_cons, List.length_append, List.length_nil]
      congr 2
      omega
theorem name_reads {sum : Pr Tr} {n : Nat} {x : List UInt8} (hx : vars.getD n [] = x) (hok : okName x = true) (h : At L p (x ++ R)) (hR : Stop R) : Reads L vars (Od.atom nl L sum) p (p + x.length) (.var n) := by
  intro σ hp
  unfold okName at hok
  simp only [Bool.and_eq_true, decide_eq_true_eq, Bool.not_eq_true', List.all_eq_true] at hok
  obtain ⟨⟨⟨⟨h1, -⟩, h2⟩, h3⟩, h4⟩ := hok
  cases x with
  | nil => simp at h1
  | cons c r =>
    refine ⟨[(p, p + (c :: r).length)], ?_, ?_⟩
    · unfold keyword at h3
      simp only [Bool.or_eq_false_iff, beq_eq_false_iff_ne] at h3
      obtain ⟨⟨⟨k1, k2⟩, k3⟩, k4⟩ := h3
      rw [atom_word h (by simpa using h2) (fun d hd => h4 d (List.mem_cons_of_mem _ hd)) hR σ hp, if_neg k4, if_neg k1, if_neg k2, if_neg k3]
      rfl
    · simp only [List.map_cons, List.map_nil, wrd, vs, hx]
      rw [sub_at h]
theorem time_reads {sum : Pr Tr} (h : At L p (116 :: R)) (hR : Stop R) : Reads L vars (Od.atom nl L sum) p (p + 1) .time := by
  intro σ hp
  refine ⟨[], ?_, rfl⟩
  rw [List.append_nil, atom_word (x := []) h (by decide) (by simp) hR σ hp, if_neg (by decide), if_pos (by decide)]
  rfl
theorem paren_reads {sum : Pr Tr} {t : Tr} (h : At L p (40 :: R)) (hs : Reads L vars (Od.paren nl L sum) p q t) : Reads L vars (Od.atom nl L sum) p q t := by
  intro σ hp
  have hpp : skp isWs L p = p := by rw [← hp]; exact skp_idem isWs L _
  obtain ⟨nm, h1, h2⟩ := hs { σ with pos := p } hpp
  refine ⟨nm, ?_, h2⟩
  rw [atom_ch h (Or.inl rfl) σ hp, if_neg (by decide)]
  exact h1
theorem call_reads {sum : Pr Tr} {t : Tr} {op : Int} {c : UInt8} {x : List UInt8} (hop : (op = 5 ∧ c :: x = wSqr) ∨ (op = 6 ∧ c :: x = wSqrt)) (h : At L p (c :: x ++ 40 :: R)) (hs : Reads L vars (Od.paren nl L sum) (p + (c :: x).length) q t) : Reads L vars (Od.atom nl L sum) p q (.un op t) := by
  intro σ hp
  have hw := ws_at h.next (by decide)
  obtain ⟨nm, h1, h2⟩ := hs { σ with pos := p + (c :: x).length } hw
  refine ⟨nm, ?_, h2⟩
  have h0 : isLt c = true ∧ ∀ d ∈ x, isLD d = true := by
    rcases hop with ⟨-, e⟩ | ⟨-, e⟩ <;> (injection e with e1 e2; subst e1; subst e2; decide)
  rw [atom_word h h0.1 h0.2 (stop_ch (Or.inl (by decide))) σ hp]
  rcases hop with ⟨rfl, e⟩ | ⟨rfl, e⟩
  · rw [e] at h1 ⊢
    rw [if_neg (by decide), if_neg (by decide), if_pos rfl]
    simp only [show wSqr.length = 3 from rfl] at h1
    rw [map_ok h1]
    rfl
  · rw [e] at h1 ⊢
    rw [if_neg (by decide), if_neg (by decide), if_neg (by decide), if_pos rfl]
    simp only [show wSqrt.length = 4 from rfl] at h1
    rw [map_ok h1]
    rfl
theorem fmt_first (hv : ∀ x ∈ vars, okName x = true) : ∀ t, okT vars t → ∃ c r, fmtT vars t = c :: r ∧ isWs c = false ∧ c ≠ 45
  | .num lo hi, h => by
    rcases okIv_cases h with ⟨rfl, rfl⟩ | ⟨h0, h1, h2, h3, h4, h5⟩
    · exact ⟨97, [108, 108], by unfold fmtT fmtIv; rw [if_pos ⟨rfl, rfl⟩]; rfl, by decide, by decide⟩
    · by_cases hc : lo = hi ∧ 0 ≤ lo
      · obtain ⟨c, r, ec, hd⟩ := fmtL_first (a := lo) hc.2 h1
        refine ⟨c, r, by unfold fmtT fmtIv; rw [if_neg h5, if_pos hc, ec], (dg_kind hd).2.1, ?_⟩
        rintro rfl; revert hd; decide
      · exact ⟨91, Fx.fmtL lo ++ (44 :: 32 :: (Fx.fmtL hi ++ [93])), by unfold fmtT fmtIv; rw [if_neg h5, if_neg hc]; simp, by decide, by decide⟩
  | .var n, h => by
    have hn : n < vars.length := h
    have hk := hv _ (List.getElem_mem hn)
    have e : fmtT vars (.var n) = vars[n] := by unfold fmtT; simp [hn]
    rw [e]
    unfold okName at hk
    simp only [Bool.and_eq_true, decide_eq_true_eq] at hk
    obtain ⟨⟨⟨⟨h1, -⟩, h2⟩, -⟩, -⟩ := hk
    cases hx : vars[n] with
    | nil => rw [hx] at h1; simp at h1
    | cons c r =>
      rw [hx] at h2
      have h2 : isLt c = true := by simpa using h2
      refine ⟨c, r, rfl, (lt_kind h2).2.1, ?_⟩
      rintro rfl; revert h2; decide
  | .time, h => ⟨116, [], rfl, by decide, by decide⟩
  | .un op a, h => by
    unfold fmtT
    by_cases h4 : op = 4
    · rw [if_pos h4]; exact ⟨40, _, rfl, by decide, by decide⟩
    · rw [if_neg h4]
      by_cases h5 : op = 5
      · rw [if_pos h5]; exact ⟨115, _, rfl, by decide, by decide⟩
      · rw [if_neg h5]; exact ⟨115, _, rfl, by decide, by decide⟩
  | .bin op a b, h => ⟨40, _, rfl, by decide, by decide⟩
theorem sum_one {n : Nat} {t : Tr} {c : UInt8} (hL : 1 ≤ L.length) (hf : Reads L vars (Od.factor nl L (Od.sum nl L n) (L.length + 1)) p q t) (hq : skp isWs L q = q) (ha : At L q (c :: R)) (hc : c ≠ 42 ∧ c ≠ 47 ∧ c ≠ 43 ∧ c ≠ 45) : Reads L vars (Od.sum nl L (n + 1)) p q t := by
  have h1 : Reads L vars (Od.product nl L (Od.sum nl L n) (L.length + 1)) p q t := Reads.chain hf (by rw [hq]; exact ReadsC.stop (NotCh.at ha hc.1) (NotCh.at ha hc.2.1))
  exact Reads.chain h1 (by rw [hq]; exact ReadsC.stop (NotCh.at ha hc.2.2.1) (NotCh.at ha hc.2.2.2))
theorem atom_reads (hv : ∀ x ∈ vars, okName x = true) : ∀ (t : Tr), okT vars t → ∀ (n p : Nat) (R : List UInt8), dep t ≤ n → At L p (fmtT vars t ++ R) → Stop R → Reads L vars (Od.atom nl L (Od.sum nl L n)) p (p + (fmtT vars t).length) t
  | .num lo hi, h, n, p, R, _, ha, hR => num_reads h ha hR
  | .var k, h, n, p, R, _, ha, hR => by
    have hn : k < vars.length := h
    exact name_reads rfl (by show okName (vars.getD k []) = true; rw [List.getD_eq_getElem?_getD, List.getElem?_eq_getElem hn]; exact hv _ (List.getElem_mem hn)) ha hR
  | .time, h, n, p, R, _, ha, hR => time_reads ha hR
  | .un op a, ⟨hop, h⟩, 0, p, R, hn, ha, hR => by simp [dep] at hn
  | .bin op a b, ⟨hop, h⟩, 0, p, R, hn, ha, hR => by simp [dep] at hn
  | .un op a, ⟨hop, h⟩, n + 1, p, R, hn, ha, hR => by
    have hn' : dep a ≤ n := by simp only [dep] at hn; omega
    obtain ⟨c, r, ec, hcw, hc45⟩ := fmt_first hv a h
    have hL : 1 ≤ L.length := by
      have := ha.len
      obtain ⟨c', r', ec', -, -⟩ := fmt_first hv (.un op a) ⟨hop, h⟩
      rw [ec'] at this; simp at this; omega
    -- the sum within, between its parentheses
    have inner : ∀ z, At L z (40 :: (fmtT vars a ++ 41 :: R)) → Reads L vars (Od.paren nl L (Od.sum nl L (n + 1))) z (z + 1 + (fmtT vars a).length + 1) a := by
      intro z hz
      have a1 := At.next1 hz
      have a2 := a1.next
      have hw1 : skp isWs L (z + 1) = z + 1 := ws_at (R := r ++ 41 :: R) (by rw [ec] at a1; exact a1) hcw
      have hw2 := ws_at a2 (by decide)
      have hat := atom_reads hv a h n (z + 1) (41 :: R) hn' a1 (stop_ch (Or.inl (by decide)))
      have hfa : Reads L vars (Od.factor nl L (Od.sum nl L n) (L.length + 1)) (z + 1) (z + 1 + (fmtT vars a).length) a := Reads.factor (NotCh.at (R := r ++ 41 :: R) (by rw [ec] at a1; exact a1) hc45) hat
      have hsu := sum_one hL hfa hw2 a2 (by decide)
      have := Reads.paren (nl := nl) (q := z + 1 + (fmtT vars a).length) (IsCh.of hz (by decide)) (by rw [hw1]; exact hsu) (by rw [hw2]; exact IsCh.of a2 (by decide))
      rw [hw2] at this
      exact this
    have hsplit : op = 4 ∨ op = 5 ∨ op = 6 := by omega
    rcases hsplit with rfl | rfl | rfl
    · have e : fmtT vars (.un 4 a) = 40 :: 45 :: (fmtT vars a ++ [41]) := by rw [fmtT]; rfl
      rw [e] at ha ⊢
      have a0 : At L p (40 :: 45 :: (fmtT vars a ++ 41 :: R)) := by simpa using ha
      have a1 := At.next1 a0
      have a2 := At.next1 a1
      have a3 := a2.next
      have hw1 : skp isWs L (p + 1) = p + 1 := ws_at a1 (by decide)
      have hw2 : skp isWs L (p + 1 + 1) = p + 1 + 1 := ws_at (R := r ++ 41 :: R) (by rw [ec] at a2; exact a2) hcw
      have hw3 := ws_at a3 (by decide)
      have hat := atom_reads hv a h n (p + 1 + 1) (41 :: R) hn' a2 (stop_ch (Or.inl (by decide)))
      obtain ⟨l, hl⟩ : ∃ l, L.length = l + 1 := ⟨L.length - 1, by omega⟩
      have hfa : Reads L vars (Od.factor nl L (Od.sum nl L n) (l + 1)) (p + 1 + 1) (p + 1 + 1 + (fmtT vars a).length) a := Reads.factor (NotCh.at (R := r ++ 41 :: R) (by rw [ec] at a2; exact a2) hc45) hat
      have hne : Reads L vars (Od.factor nl L (Od.sum nl L n) (L.length + 1)) (p + 1) (p + 1 + 1 + (fmtT vars a).length) (.un 4 a) := by
        rw [hl]
        exact Reads.neg (IsCh.of a1 (by decide)) (by rw [hw2]; exact hfa)
      have hsu := sum_one hL hne hw3 a3 (by decide)
      have := Reads.paren (nl := nl) (q := p + 1 + 1 + (fmtT vars a).length) (IsCh.of a0 (by decide)) (by rw [hw1]; exact hsu) (by rw [hw3]; exact IsCh.of a3 (by decide))
      rw [hw3] at this
      have := paren_reads a0 this
      simp only [List.length_cons, List.length_append, List.length_nil]
      rw [show p + ((fmtT vars a).length + (0 + 1) + 1 + 1) = p + 1 + 1 + (fmtT vars a).length + 1 by omega]
      exact this
    · have e : fmtT vars (.un 5 a) = wSqr ++ (40 :: (fmtT vars a ++ [41])) := by rw [fmtT]; simp
      rw [e] at ha ⊢
      have a0 : At L p (115 :: [113, 114] ++ 40 :: (fmtT vars a ++ 41 :: R)) := by simpa [wSqr] using ha
      have := call_reads (Or.inl ⟨rfl, rfl⟩) a0 (inner _ a0.next)
      simp only [List.length_cons, List.length_append, List.length_nil, wSqr] at this ⊢
      rw [show p + (0 + 1 + 1 + 1 + ((fmtT vars a).length + (0 + 1) + 1)) = p + (0 + 1 + 1 + 1) + 1 + (fmtT vars a).length + 1 by omega]
      exact this
    · have e : fmtT vars (.un 6 a) = wSqrt ++ (40 :: (fmtT vars a ++ [41])) := by rw [fmtT]; simp
      rw [e] at ha ⊢
      have a0 : At L p (115 :: [113, 114, 116] ++ 40 :: (fmtT vars a ++ 41 :: R)) := by simpa [wSqrt] using ha
      have := call_reads (Or.inr ⟨rfl, rfl⟩) a0 (inner _ a0.next)
      simp only [List.length_cons, List.length_append, List.length_nil, wSqrt] at this ⊢
      rw [show p + (0 + 1 + 1 + 1 + 1 + ((fmtT vars a).length + (0 + 1) + 1)) = p + (0 + 1 + 1 + 1 + 1) + 1 + (fmtT vars a).length + 1 by omega]
      exact this
  | .bin op a b, ⟨hop, h, hb⟩, n + 1, p, R, hn, ha, hR => by
    have hna : dep a ≤ n := by simp only [dep] at hn; omega
    have hnb : dep b ≤ n := by simp only [dep] at hn; omega
    obtain ⟨c, r, ec, hcw, hc45⟩ := fmt_first hv a h
    obtain ⟨d, s, ed, hdw, hd45⟩ := fmt_first hv b hb
    have e : fmtT vars (.bin op a b) = 40 :: (fmtT vars a ++ (32 :: opCh op :: 32 :: (fmtT vars b ++ [41]))) := by rw [fmtT]; simp
    rw [e] at ha ⊢
    have a0 : At L p (40 :: (fmtT vars a ++ (32 :: opCh op :: 32 :: (fmtT vars b ++ 41 :: R)))) := by simpa using ha
    have hL : 2 ≤ L.length := by
      have := a0.len
      simp at this; omega
    have a1 := At.next1 a0
    have a2 := a1.next
    have a3 := At.next1 a2
    have a4 := At.next1 a3
    have a5 := At.next1 a4
    have a6 := a5.next
    obtain ⟨q1, hq1⟩ : ∃ q1, p + 1 + (fmtT vars a).length = q1 := ⟨_, rfl⟩
    rw [hq1] at a2 a3 a4 a5 a6
    obtain ⟨q2, hq2⟩ : ∃ q2, q1 + 1 + 1 + 1 + (fmtT vars b).length = q2 := ⟨_, rfl⟩
    rw [hq2] at a6
    have hop4 : isCh (opCh op) = true ∧ isWs (opCh op) = false := by
      have : op = 7 ∨ op = 8 ∨ op = 9 ∨ op = 10 := by omega
      rcases this with rfl | rfl | rfl | rfl <;> decide
    have hw1 : skp isWs L (p + 1) = p + 1 := ws_at (R := r ++ (32 :: opCh op :: 32 :: (fmtT vars b ++ 41 :: R))) (by rw [ec] at a1; exact a1) hcw
    have hw2 : skp isWs L q1 = q1 + 1 := by rw [skp_more isWs (At.get a2) (by decide)]; exact ws_at a3 hop4.2
    have hw3 : skp isWs L (q1 + 1 + 1) = q1 + 1 + 1 + 1 := by rw [skp_more isWs (At.get a4) (by decide)]; exact ws_at (R := s ++ 41 :: R) (by rw [ed] at a5; exact a5) hdw
    have hw4 := ws_at a6 (by decide)
    have hw2' : skp isWs L (q1 + 1) = q1 + 1 := ws_at a3 hop4.2
    have fa : ∀ k, Reads L vars (Od.factor nl L (Od.sum nl L n) (k + 1)) (p + 1) q1 a := fun k => by
      have := atom_reads hv a h n (p + 1) _ hna a1 (stop_ch (Or.inr (Or.inl rfl)))
      rw [hq1] at this
      exact Reads.factor (NotCh.at (R := r ++ (32 :: opCh op :: 32 :: (fmtT vars b ++ 41 :: R))) (by rw [ec] at a1; exact a1) hc45) this
    have fb : ∀ k, Reads L vars (Od.factor nl L (Od.sum nl L n) (k + 1)) (q1 + 1 + 1 + 1) q2 b := fun k => by
      have := atom_reads hv b hb n (q1 + 1 + 1 + 1) _ hnb a5 (stop_ch (Or.inl (by decide)))
      rw [hq2] at this
      exact Reads.factor (NotCh.at (R := s ++ 41 :: R) (by rw [ed] at a5; exact a5) hd45) this
    obtain ⟨l, hl⟩ : ∃ l, L.length + 1 = l + 1 + 1 := ⟨L.length - 1, by omega⟩
    have hsu : Reads L vars (Od.sum nl L (n + 1)) (p + 1) q2 (.bin op a b) := by
      unfold Od.sum
      have hop' : op = 7 ∨ op = 8 ∨ op = 9 ∨ op = 10 := by omega
      have n42 : NotCh nl L q2 42 := NotCh.at a6 (by decide)
      have n47 : NotCh nl L q2 47 := NotCh.at a6 (by decide)
      have n43 : NotCh nl L q2 43 := NotCh.at a6 (by decide)
      have n45 : NotCh nl L q2 45 := NotCh.at a6 (by decide)
      have pa : opCh op ≠ 42 → opCh op ≠ 47 → Reads L vars (Od.product nl L (Od.sum nl L n) (L.length + 1)) (p + 1) (q1 + 1) a := fun g1 g2 => Reads.chain (fa _) (by rw [hw2]; exact ReadsC.stop (NotCh.at a3 g1) (NotCh.at a3 g2))
      have pb : Reads L vars (Od.product nl L (Od.sum nl L n) (L.length + 1)) (q1 + 1 + 1 + 1) q2 b := Reads.chain (fb _) (by rw [hw4]; exact ReadsC.stop n42 n47)
      rcases hop' with rfl | rfl | rfl | rfl
      · refine Reads.chain (pa (by decide) (by decide)) ?_
        rw [hw2', hl]
        exact ReadsC.first (IsCh.of a3 (by decide)) (by rw [hw3, ← hl]; exact pb) (by rw [hw4]; exact ReadsC.stop n43 n45)
      · refine Reads.chain (pa (by decide) (by decide)) ?_
        rw [hw2', hl]
        exact ReadsC.second (NotCh.at a3 (by decide)) (IsCh.of a3 (by decide)) (by rw [hw3, ← hl]; exact pb) (by rw [hw4]; exact ReadsC.stop n43 n45)
      · have : Reads L vars (Od.product nl L (Od.sum nl L n) (L.length + 1)) (p + 1) q2 (.bin 9 a b) := by
          refine Reads.chain (fa _) ?_
          rw [hw2, hl]
          exact ReadsC.first (IsCh.of a3 (by decide)) (by rw [hw3]; exact fb _) (by rw [hw4]; exact ReadsC.stop n42 n47)
        exact Reads.chain this (by rw [hw4]; exact ReadsC.stop n43 n45)
      · have : Reads L vars (Od.product nl L (Od.sum nl L n) (L.length + 1)) (p + 1) q2 (.bin 10 a b) := by
          refine Reads.chain (fa _) ?_
          rw [hw2, hl]
          exact ReadsC.second (NotCh.at a3 (by decide)) (IsCh.of a3 (by decide)) (by rw [hw3]; exact fb _) (by rw [hw4]; exact ReadsC.stop n42 n47)
        exact Reads.chain this (by rw [hw4]; exact ReadsC.stop n43 n45)
    have := Reads.paren (nl := nl) (q := q2) (IsCh.of a0 (by decide)) (by rw [hw1]; exact hsu) (by rw [hw4]; exact IsCh.of a6 (by decide))
    rw [hw4] at this
    have := paren_reads a0 this
    simp only [List.length_cons, List.length_append, List.length_nil]
    rw [show p + ((fmtT vars a).length + ((fmtT vars b).length + (0 + 1) + 1 + 1 + 1) + 1) = q2 + 1 by omega]
    exact this
end
end Go.Proofs.YthcidkidpiaomaaGreatDoor.Od
end
section
set_option linter.unusedVariables false
namespace Go.Proofs.YthcidkidpiaomaaGreatDoor.Od
theorem okNd_flat {vars : List (List UInt8)} : ∀ t, okT vars t → (flat t).all (okNd vars.length) = true
  | .num lo hi, h => by
    have h : okIv lo hi = true := h
    simp only [flat, List.all_cons, List.all_nil, Bool.and_true]; unfold okNd; simp only [if_true]; rw [h]; rfl
  | .var n, h => by
    have h : n < vars.length := h
    simp only [flat, List.all_cons, List.all_nil, Bool.and_true]; unfold okNd; simp; omega
  | .time, h => by simp only [flat, List.all_cons, List.all_nil, Bool.and_true]; unfold okNd; simp; decide
  | .un op a, ⟨hop, h⟩ => by
    simp only [flat, List.all_cons, okNd_flat a h, Bool.and_true]
    unfold okNd
    simp only
    rw [if_neg (by omega), if_neg (by omega)]
    have : arity op = 1 := by unfold arity; rw [if_neg (by omega), if_pos hop]
    rw [this]; decide
  | .bin op a b, ⟨hop, h, hb⟩ => by
    simp only [flat, List.all_cons, List.all_append, okNd_flat a h, okNd_flat b hb, Bool.and_true]
    unfold okNd
    simp only
    rw [if_neg (by omega), if_neg (by omega)]
    have : arity op = 2 := by unfold arity; rw [if_neg (by omega), if_neg (by omega), if_pos hop]
    rw [this]; decide
theorem exLen_flat {vars : List (List UInt8)} : ∀ t, okT vars t → ∀ (m : Int) (r : List Nd), 1 ≤ m → exLen m (flat t ++ r) = if m = 1 then (flat t).length else (flat t).length + exLen (m - 1) r
  | .num lo hi, h, m, r, hm => by
    simp only [flat, List.singleton_append, exLen, List.length_singleton, show arity 1 = 0 from rfl]
    by_cases e : m = 1
    · rw [if_pos e, if_pos (by omega)]
    · rw [if_neg e, if_neg (by omega), show m + 0 - 1 = m - 1 by omega]; omega
  | .var n, h, m, r, hm => by
    simp only [flat, List.singleton_append, exLen, List.length_singleton, show arity 2 = 0 from rfl]
    by_cases e : m = 1
    · rw [if_pos e, if_pos (by omega)]
    · rw [if_neg e, if_neg (by omega), show m + 0 - 1 = m - 1 by omega]; omega
  | .time, h, m, r, hm => by
    simp only [flat, List.singleton_append, exLen, List.length_singleton, show arity 3 = 0 from rfl]
    by_cases e : m = 1
    · rw [if_pos e, if_pos (by omega)]
    · rw [if_neg e, if_neg (by omega), show m + 0 - 1 = m - 1 by omega]; omega
  | .un op a, ⟨hop, h⟩, m, r, hm => by
    have ha : arity op = 1 := by unfold arity; rw [if_neg (by omega), if_pos hop]
    have ih := exLen_flat a h m r hm
    simp only [flat, List.cons_append, exLen, List.length_cons, ha]
    rw [if_neg (by omega), show m + 1 - 1 = m by omega, ih]
    split <;> omega
  | .bin op a b, ⟨hop, h, hb⟩, m, r, hm => by
    have ha : arity op = 2 := by unfold arity; rw [if_neg (by omega), if_neg (by omega), if_pos hop]
    have ia := exLen_flat a h (m + 1) (flat b ++ r) (by omega)
    have ib := exLen_flat b hb m r hm
    rw [if_neg (by omega), show m + 1 - 1 = m by omega, ib] at ia
    simp only [flat, List.cons_append, List.append_assoc, exLen, List.length_cons, List.length_append, ha]
    rw [if_neg (by omega), show m + 2 - 1 = m + 1 by omega, ia]
    split <;> omega
theorem flat_pos (t : Tr) : 1 ≤ (flat t).length := by cases t <;> simp [flat]
theorem okEx_flat {vars : List (List UInt8)} {t : Tr} (h : okT vars t) (hl : (flat t).length ≤ 200) : okEx vars.length (flat t) = true := by
  have h1 := exLen_flat t h 1 [] (by omega)
  rw [List.append_nil, if_pos rfl] at h1
  have := flat_pos t
  unfold okEx
  simp only [Bool.and_eq_true, decide_eq_true_eq, beq_iff_eq]
  exact ⟨⟨⟨by omega, hl⟩, okNd_flat t h⟩, h1⟩
theorem resolve_cons (L : List UInt8) (N : List (Nat × Nat)) (vars : List (List UInt8)) (x : Nd) (r : List Nd) : resolve L N vars (x :: r) = if x.op = 2 then
      match idxOf vars (sub L (N.getD x.n.toNat (0, 0)).1 (N.getD x.n.toNat (0, 0)).2) with
      | none => (x :: r, some (N.getD x.n.toNat (0, 0)).1)
      | some k => ({ x with n := k } :: (resolve L N vars r).1, (resolve L N vars r).2)
    else (x :: (resolve L N vars r).1, (resolve L N vars r).2) := rfl
theorem resolve_app {L : List UInt8} {N : List (Nat × Nat)} {vars : List (List UInt8)} (b : List Nd) : ∀ (a a' : List Nd), resolve L N vars a = (a', none) → resolve L N vars (a ++ b) = (a' ++ (resolve L N vars b).1, (resolve L N vars b).2)
  | [], a', h => by
    have h : (([], none) : List Nd × Option Nat) = (a', none) := h
    injection h with h1 h2
    subst h1
    rfl
  | x :: r, a', h => by
    rw [List.cons_append, resolve_cons]
    rw [resolve_cons] at h
    by_cases hx : x.op = 2
    · rw [if_pos hx] at h ⊢
      cases hi : idxOf vars (sub L (N.getD x.n.toNat (0, 0)).1 (N.getD x.n.toNat (0, 0)).2) with
      | none => rw [hi] at h; cases h
      | some k =>
        rw [hi] at h
        simp only at h ⊢
        injection h with h1 h2
        rw [resolve_app b r (resolve L N vars r).1 (by rw [← h2])]
        subst h1
        rfl
    · rw [if_neg hx] at h ⊢
      injection h with h1 h2
      rw [resolve_app b r (resolve L N vars r).1 (by rw [← h2])]
      subst h1
      rfl
theorem drop_add_map {L : List UInt8} {N : List (Nat × Nat)} {k : Nat} {A M : List (List UInt8)} (h : (N.drop k).map (wrd L) = A ++ M) : (N.drop (k + A.length)).map (wrd L) = M := by
  rw [← List.drop_drop, List.map_drop, h, List.drop_left]
theorem resolve_rn {L : List UInt8} {N : List (Nat × Nat)} {vars : List (List UInt8)} (hd : ∀ n, n < vars.length → idxOf vars (vars.getD n []) = some n) :
    ∀ (t : Tr) (k : Nat) (M : List (List UInt8)), okT vars t → (N.drop k).map (wrd L) = (vs t).map (fun n => vars.getD n []) ++ M → resolve L N vars (flat (rn t k)) = (flat t, none)
  | .num lo hi, k, M, h, hN => by simp [rn, flat, resolve]
  | .time, k, M, h, hN => by simp [rn, flat, resolve]
  | .var n, k, M, h, hN => by
    have h : n < vars.length := h
    simp only [vs, List.map_cons, List.map_nil, List.singleton_append] at hN
    cases hk : N.drop k with
    | nil => rw [hk] at hN; cases hN
    | cons r N' =>
      rw [hk, List.map_cons] at hN
      injection hN with h1 h2
      have hg : N.getD k (0, 0) = r := by
        have : (N.drop k)[0]? = some r := by rw [hk]; rfl
        rw [List.getElem?_drop] at this
        rw [List.getD_eq_getElem?_getD, show k = k + 0 from rfl, this]; rfl
      unfold wrd at h1
      simp only [rn, flat]
      rw [resolve_cons, if_pos rfl]
      simp only
      rw [show ((k : Int)).toNat = k from rfl, hg, h1, hd n h]
      simp [resolve]
  | .un op a, k, M, ⟨hop, h⟩, hN => by
    have ih := resolve_rn hd a k M h hN
    simp only [rn, flat]
    rw [resolve_cons, if_neg (by show op ≠ 2; omega), ih]
  | .bin op a b, k, M, ⟨hop, h, hb⟩, hN => by
    simp only [vs, List.map_append, List.append_assoc] at hN
    have ia := resolve_rn hd a k _ h hN
    have h2 := drop_add_map hN
    rw [List.length_map] at h2
    have ib := resolve_rn hd b (k + (vs a).length) M hb h2
    simp only [rn, flat]
    rw [resolve_cons, if_neg (by show op ≠ 2; omega), resolve_app _ _ _ ia, ib]
theorem idxOf_nodup {vars : List (List UInt8)} (h : vars.Nodup) (n : Nat) (hn : n < vars.length) : idxOf vars (vars.getD n []) = some n := by
  have e : vars.getD n [] = vars[n] := by rw [List.getD_eq_getElem?_getD, List.getElem?_eq_getElem hn]; rfl
  unfold idxOf
  rw [e, List.findIdx?_eq_some_iff_getElem]
  refine ⟨hn, by simp, fun j hj => ?_⟩
  simp only [beq_iff_eq]
  intro e2
  exact (List.pairwise_iff_getElem.1 h j n (by omega) hn hj) e2
theorem fracL_len : ∀ (g : Nat) (f : Int), (Fx.fracL g f).length ≤ g
  | 0, f => by unfold Fx.fracL; simp
  | g + 1, f => by
    unfold Fx.fracL
    split
    · simp
    · have := fracL_len g
      simp only [List.length_cons]
      have := this (f * 10 % 65536)
      omega
theorem fmtL_len {a : Int} (h0 : -2147483648 < a) (h1 : a < 2147483648) : (Fx.fmtL a).length ≤ 23 := by
  rw [Fx.fmtL_txt]
  unfold Fx.txt Fx.fmtD Fx.fmtF
  have h2 := Fx.decDigits_lenk 4 (a.natAbs / 65536) (by omega)
  have h3 := fracL_len 16 ((a.natAbs : Int) % 65536)
  simp only [List.length_append]
  have : (if decide (a < 0) = true then [45] else [] : List UInt8).length ≤ 1 := by split <;> simp
  have : (if Fx.fracL 16 ((a.natAbs : Int) % 65536) = [] then [] else 46 :: Fx.fracL 16 ((a.natAbs : Int) % 65536) : List UInt8).length ≤ 17 := by split <;> simp; omega
  omega
theorem fmtIv_len {lo hi : Int} (h : okIv lo hi = true) : (fmtIv lo hi).length ≤ 50 := by
  rcases okIv_cases h with ⟨rfl, rfl⟩ | ⟨h0, h1, h2, h3, h4, h5⟩
  · unfold fmtIv; rw [if_pos ⟨rfl, rfl⟩]; decide
  · have := fmtL_len h0 h1
    have := fmtL_len h2 h3
    unfold fmtIv
    rw [if_neg h5]
    split
    · omega
    · simp; omega
theorem fmtT_len {vars : List (List UInt8)} (hv : ∀ x ∈ vars, okName x = true) : ∀ t, okT vars t → (fmtT vars t).length ≤ 28 * (flat t).length + 22
  | .num lo hi, h => by have := fmtIv_len h; simp only [fmtT, flat, List.length_singleton]; omega
  | .var n, h => by
    have h : n < vars.length := h
    have := hv _ (List.getElem_mem h)
    unfold okName at this
    simp only [Bool.and_eq_true, decide_eq_true_eq] at this
    simp only [fmtT, flat, List.length_singleton, List.getD_eq_getElem?_getD, List.getElem?_eq_getElem h, Option.getD_some]
    omega
  | .time, h => by simp [fmtT, flat, wT]
  | .un op a, ⟨hop, h⟩ => by
    have ih := fmtT_len hv a h
    have : (if op = 4 then [40, 45] else if op = 5 then wSqr ++ [40] else wSqrt ++ [40] : List UInt8).length ≤ 5 := by
      split
      · simp
      · split <;> simp [wSqr, wSqrt]
    simp only [fmtT, flat, List.length_cons, List.length_append, List.length_nil]
    omega
  | .bin op a b, ⟨hop, h, hb⟩ => by
    have := fmtT_len hv a h
    have := fmtT_len hv b hb
    simp only [fmtT, flat, List.length_cons, List.length_append, List.length_nil]
    omega
theorem dep_le {vars : List (List UInt8)} (hv : ∀ x ∈ vars, okName x = true) : ∀ t, okT vars t → dep t + 1 ≤ (fmtT vars t).length
  | .num lo hi, h => by
    obtain ⟨c, r, e, -⟩ := fmt_first hv (.num lo hi) h
    rw [e]; simp [dep]
  | .var n, h => by
    obtain ⟨c, r, e, -⟩ := fmt_first hv (.var n) h
    rw [e]; simp [dep]
  | .time, h => by simp [dep, fmtT, wT]
  | .un op a, ⟨hop, h⟩ => by
    have := dep_le hv a h
    simp only [dep, fmtT, List.length_append, List.length_cons, List.length_nil]
    omega
  | .bin op a b, ⟨hop, h, hb⟩ => by
    have := dep_le hv a h
    have := dep_le hv b hb
    simp only [dep, fmtT, List.length_append, List.length_cons, List.length_nil]
    omega
end Go.Proofs.YthcidkidpiaomaaGreatDoor.Od
end
section
set_option linter.unusedVariables false
set_option linter.unusedSimpArgs false
namespace Go.Proofs.YthcidkidpiaomaaGreatDoor.Od
open Go.RowKit Rg
structure Strs (w : World) (v : Value) (xs : List ByteArray) : Prop where
  out : (xs = [] ∧ ∃ ao c, v = .slice ao 0 c) ∨ ∃ b off c, v = .slice (some ⟨b, off, none⟩) xs.length c ∧ xs.length ≤ c ∧ ∀ j, j < xs.length → w.cell? ⟨b, off + j, none⟩ = some (.string xs[j]!)
  few : xs.length ≤ 90000
def strL (xs : List ByteArray) : List (List UInt8) := xs.map fun x => x.data.toList
theorem Strs.below {w w' : World} {v : Value} {xs : List ByteArray} (h : Strs w v xs) (hb : Below w.heap.size w w') : Strs w' v xs := by
  refine ⟨?_, h.few⟩
  rcases h.out with h0 | ⟨b, off, c, hv, hcp, hc⟩
  · exact Or.inl h0
  · exact Or.inr ⟨b, off, c, hv, hcp, fun j hj => by rw [hb.cell (World.block_lt_of_cell? w _ (hc j hj))]; exact hc j hj⟩
theorem Strs.drewN {w : World} {v : Value} {xs : List ByteArray} (h : Strs w v xs) (n : Nat) : Strs (w.drewN n) v xs := h.below ⟨rfl, rfl, rfl, Nat.le_refl _, fun _ _ => rfl⟩
theorem Strs.set {w : World} {v : Value} {xs : List ByteArray} {p : Addr} {k : IntKind} {x : Int} (h : Strs w v xs) (hp : w.cell? p = some (.int k x)) (u : Value) : Strs (w.setCell p u) v xs := by
  refine ⟨?_, h.few⟩
  rcases h.out with h0 | ⟨b, off, c, hv, hcp, hc⟩
  · exact Or.inl h0
  · refine Or.inr ⟨b, off, c, hv, hcp, fun j hj => ?_⟩
    rw [World.cell?_setCell_other (h := fun e => by have := hc j hj; rw [← e, hp] at this; cases this)]
    exact hc j hj
theorem Strs.slice {w : World} {v : Value} {xs : List ByteArray} (h : Strs w v xs) : ∃ ao c, v = .slice ao xs.length c := by
  rcases h.out with ⟨rfl, ao, c, hv⟩ | ⟨b, off, c, hv, -⟩
  · exact ⟨ao, c, hv⟩
  · exact ⟨_, c, hv⟩
theorem idxBy_from (x : ByteArray) : ∀ (zs : List ByteArray) (i : Nat), Lib.idxByFrom (fun x y => x.toList == y.toList) x zs i = match idxOf (strL zs) x.data.toList with | none => -1 | some k => ((i + k : Nat) : Int)
  | [], i => rfl
  | z :: zs, i => by
    have ih := idxBy_from x zs (i + 1)
    unfold Lib.idxByFrom
    unfold idxOf strL at *
    rw [List.map_cons, List.findIdx?_cons]
    by_cases hx : x.toList = z.toList
    · have h2 : z.data.toList = x.data.toList := by rw [ByteArray.toList_eq, ByteArray.toList_eq] at hx; exact hx.symm
      simp [hx, h2]
    · have h2 : ¬ z.data.toList = x.data.toList := fun e => hx (by rw [ByteArray.toList_eq, ByteArray.toList_eq]; exact e.symm)
      simp only [beq_iff_eq, hx, h2, if_false, Bool.false_eq_true]
      rw [ih]
      cases List.findIdx? (fun y => y == x.data.toList) (List.map (fun x => x.data.toList) zs) with
      | none => rfl
      | some k => simp only [Option.map_some]; congr 1; omega
def idxV : Option Nat → Int
  | none => -1
  | some k => (k : Nat)
theorem index_any (w : World) (v : Value) (xs : List ByteArray) (h : Strs w v xs) (x : ByteArray) :
    Calls Tryz.prog 108 #[v, .string x] w fun e w' => e = .returned (.int .i64 (idxV (idxOf (strL xs) x.data.toList))) ∧ w' = w := by
  have hfew := h.few
  rcases h.out with ⟨rfl, ao, c, rfl⟩ | ⟨b, off, c, rfl, -, hc⟩
  · exact Tryz.slices_Index_empty (α := ByteArray) ao c (.string x) w
  · refine (Tryz.slices_Index Value.string _ (EqlAt.string _ _) b off xs.length c xs x w (Nat.le_refl _) (by omega) hc).mono ?_
    rintro e w' ⟨rfl, rfl⟩
    refine ⟨?_, rfl⟩
    rw [List.take_length, Lib.idxBy, idxBy_from]
    cases idxOf (strL xs) x.data.toList with
    | none => rfl
    | some k => simp [idxV]
theorem any_contains (x : ByteArray) : ∀ zs : List ByteArray, (zs.any fun y => x.toList == y.toList) = (strL zs).contains x.data.toList
  | [] => rfl
  | z :: zs => by
    rw [List.any_cons, any_contains x zs]
    unfold strL
    rw [List.map_cons, List.contains_cons, ByteArray.toList_eq, ByteArray.toList_eq]
theorem contains_any (w : World) (v : Value) (xs : List ByteArray) (h : Strs w v xs) (x : ByteArray) :
    Calls Tryz.prog 62 #[v, .string x] w fun e w' => e = .returned (.bool ((strL xs).contains x.data.toList)) ∧ w' = w := by
  have hfew := h.few
  rcases h.out with ⟨rfl, ao, c, rfl⟩ | ⟨b, off, c, rfl, -, hc⟩
  · exact Tryz.slices_Contains_empty (α := ByteArray) ao c (.string x) w
  · refine (Tryz.slices_Contains Value.string _ (EqlAt.string _ _) b off xs.length c xs x w (Nat.le_refl _) (by omega) hc).mono ?_
    rintro e w' ⟨rfl, rfl⟩
    refine ⟨?_, rfl⟩
    rw [List.take_length]
    rw [any_contains]
abbrev FrN := Fr 79 79
theorem Par.frN {w w' : World} {g : Nat} {B K : Nat → Prop} {s : ByteArray} {nl : Bool} {σ : PS} (h : Par w g B s nl σ) (hf : FrN K w w') : Par w' g B s nl σ := by
  obtain ⟨v, hh, ho⟩ := h.here
  refine ⟨⟨v, hf.cell hh (by decide), ?_, ho.2⟩, h.le, h.base, h.len, h.few, fun k hk => Nat.lt_of_lt_of_le (h.bnd k hk) hf.size⟩
  obtain ⟨h1, h2⟩ := ho.1
  refine ⟨h1, ?_⟩
  rcases h2 with h2 | ⟨g', cap, cur, hv, hg, hh, r⟩
  · exact Or.inl h2
  · exact Or.inr ⟨g', cap, cur, hv, hg, hf.cell hh (by decide), r⟩
theorem nds_get : ∀ (e : List Nd) (i : Nat) (x : Nd) (r : Nat), e[i]? = some x → r < 4 → (nds e)[i * 4 + r]? = (nd4 x)[r]?
  | [], i, x, r, h, _ => by cases h
  | y :: e, 0, x, r, h, hr => by
    obtain rfl := Option.some.inj h
    have e1 : nds (y :: e) = nd4 y ++ nds e := rfl
    rw [e1, Nat.zero_mul, Nat.zero_add, List.getElem?_append_left (by simpa [nd4] using hr)]
  | y :: e, i + 1, x, r, h, hr => by
    have e1 : nds (y :: e) = nd4 y ++ nds e := rfl
    have hl : (nd4 y).length = 4 := rfl
    rw [e1, List.getElem?_append_right (by rw [hl]; omega), hl, show (i + 1) * 4 + r - 4 = i * 4 + r by omega]
    exact nds_get e i x r h hr
theorem nds_set : ∀ (e : List Nd) (i : Nat) (x : Nd) (k : Int), e[i]? = some x → (nds e).set (i * 4 + 1) (.int .i64 k) = nds (e.set i { x with n := k })
  | [], i, x, k, h => by cases h
  | y :: e, 0, x, k, h => by
    obtain rfl := Option.some.inj h
    rfl
  | y :: e, i + 1, x, k, h => by
    have e1 : nds (y :: e) = nd4 y ++ nds e := rfl
    have hl : (nd4 y).length = 4 := rfl
    rw [e1, List.set_append, hl, if_neg (by omega), show (i + 1) * 4 + 1 - 4 = i * 4 + 1 by omega, nds_set e i x k h]
    rfl
theorem toks_get (s : ByteArray) : ∀ (e : List (Nat × Nat)) (i : Nat) (x : Nat × Nat) (r : Nat), e[i]? = some x → r < 3 → (toks s e)[i * 3 + r]? = (tokS s x)[r]?
  | [], i, x, r, h, _ => by cases h
  | y :: e, 0, x, r, h, hr => by
    obtain rfl := Option.some.inj h
    have e1 : toks s (y :: e) = tokS s y ++ toks s e := rfl
    rw [e1, Nat.zero_mul, Nat.zero_add, List.getElem?_append_left (by simpa [tokS] using hr)]
  | y :: e, i + 1, x, r, h, hr => by
    have e1 : toks s (y :: e) = tokS s y ++ toks s e := rfl
    have hl : (tokS s y).length = 3 := rfl
    rw [e1, List.getElem?_append_right (by rw [hl]; omega), hl, show (i + 1) * 3 + r - 3 = i * 3 + r by omega]
    exact toks_get s e i x r h hr
theorem resolve_len {L : List UInt8} {N : List (Nat × Nat)} {vars : List (List UInt8)} : ∀ e : List Nd, (resolve L N vars e).1.length = e.length
  | [] => rfl
  | x :: r => by
    have ih := resolve_len (L := L) (N := N) (vars := vars) r
    rw [resolve_cons]
    split
    · split
      · rfl
      · simp [ih]
    · simp [ih]
set_option maxRecDepth 100000 in
set_option maxHeartbeats 8000000 in
theorem resolve_any (w : World) (g : Nat) (B K : Nat → Prop) (s : ByteArray) (nl : Bool) (σ : PS) (h : Par w g B s nl σ) (gv cap : Nat) (e : List Nd) (base n : Nat) (hn : e.length = n) (hn9 : n ≤ 9000) (ho : OwnN base w (.slice (some ⟨gv, 0, none⟩) n cap) e) (hK : ¬ K gv)
    (vv : Value) (xs : List ByteArray) (hs : Strs w vv xs) (hvar : ∀ x ∈ e, x.op = 2 → 0 ≤ x.n ∧ x.n.toNat < σ.names.length) :
    Calls Tryz.prog 86 #[.pointer (some ⟨g, 0, none⟩), .slice (some ⟨gv, 0, none⟩) n cap, vv] w fun e' w' =>
      e' = .returned (.int .i64 (idxV (Od.resolve s.data.toList σ.names (strL xs) e).2)) ∧ OwnN base w' (.slice (some ⟨gv, 0, none⟩) n cap) (Od.resolve s.data.toList σ.names (strL xs) e).1 ∧ FrN K w w' ∧ Strs w' vv xs ∧ Par w' g B s nl σ := by
  have HP := Aside.mk h
  have HN := Aside.mk hn
  have HO := Aside.mk ho
  have HK := Aside.mk hK
  have HS := Aside.mk hs
  have HV := Aside.mk hvar
  clear h hn ho hK hs hvar
  go_enter Tryz.func86, Tryz.ntmps86
  go_wp2_with fail
  go_loopg [12] n (fun m v12 wr => ∃ (i : Nat) (pre : List Nd), v12 = .int .i64 (i : Nat) ∧ Aside (i ≤ n ∧ n - i ≤ m) ∧ Aside (Od.resolve s.data.toList σ.names (strL xs) (e.take i) = (pre, none)) ∧ Aside (OwnN base wr (.slice (some ⟨gv, 0, none⟩) n cap) (pre ++ e.drop i)) ∧ Aside (FrN K w wr) ∧ Aside (Strs wr vv xs) ∧ Aside (Par wr g B s nl σ))
  case atStart => exact ⟨0, [], rfl, ⟨by omega⟩, ⟨rfl⟩, HO, ⟨Fr.refl w⟩, HS, HP⟩
  case round =>
    clear HO HS HP
    obtain ⟨i, pre, rfl, HI, HR, HO, HF, HS, HP⟩ := hrel
    by_cases hi : i < n
    · have hi' : (i : Int) < (n : Int) := by omega
      have hpl : pre.length = i := by
        have := resolve_len (L := s.data.toList) (N := σ.names) (vars := strL xs) (e.take i)
        rw [HR.out] at this
        simp only at this
        rw [this, List.length_take]
        have := HN.out; omega
      obtain ⟨x, hx⟩ : ∃ x, e[i]? = some x := ⟨_, List.getElem?_eq_getElem (by rw [HN.out]; exact hi)⟩
      have hdr : e.drop i = x :: e.drop (i + 1) := by
        obtain ⟨hl, rfl⟩ := List.getElem?_eq_some_iff.1 hx
        exact List.drop_eq_getElem_cons hl
      have hcur : (pre ++ e.drop i)[i]? = some x := by rw [List.getElem?_append_right (by omega), hpl, Nat.sub_self, hdr]; rfl
      have HX := Aside.mk hx
      have HD := Aside.mk hdr
      have HC := Aside.mk hcur
      have HPL := Aside.mk hpl
      have hnl : (nds (pre ++ e.drop i)).length = n * 4 := by rw [nds_len, List.length_append, hpl, List.length_drop, HN.out]; omega
      have hlen2 : (pre ++ e.drop i).length = n := by rw [List.length_append, hpl, List.length_drop, HN.out]; omega
      have cell : ∀ r, r < 4 → wr.cell? ⟨gv, i * 4 + r, none⟩ = (nd4 x)[r]? := fun r hr => by
        have ho : wr.ownsRow base 79 4 (.slice (some ⟨gv, 0, none⟩) n cap) n (nds (pre ++ e.drop i)) := by have := HO.out; unfold OwnN at this; rw [hlen2] at this; exact this
        rw [ho.cellAt (i * 4 + r) (by omega), nds_get _ _ _ _ hcur hr]
      have c0 := cell 0 (by decide)
      have c1 := cell 1 (by decide)
      have c2 := cell 2 (by decide)
      have c3 := cell 3 (by decide)
      simp only [nd4, List.getElem?_cons_zero, List.getElem?_cons_succ, Nat.add_zero] at c0 c1 c2 c3
      obtain ⟨op, xn, lo, hi2⟩ := x
      simp only at c0 c1 c2 c3
      clear hx hdr hcur hpl hnl hlen2 cell
      have hal : Below wr.heap.size wr (wr.alloc (Obj.cells #[.int .i64 op, .int .i64 xn, .int .i64 lo, .int .i64 hi2] 79)) := (Below.refl _ _).alloc (Nat.le_refl _) _
      have hrow := heap_alloc_last wr (Obj.cells #[.int .i64 op, .int .i64 xn, .int .i64 lo, .int .i64 hi2] 79)
      have ho1 : OwnN base (wr.alloc (Obj.cells #[.int .i64 op, .int .i64 xn, .int .i64 lo, .int .i64 hi2] 79)) (.slice (some ⟨gv, 0, none⟩) n cap) (pre ++ e.drop i) := owns_below HO.out hal
      have HB := Aside.mk hal
      have HO1 := Aside.mk ho1
      have HF1 : Aside (FrN K w (wr.alloc (Obj.cells #[.int .i64 op, .int .i64 xn, .int .i64 lo, .int .i64 hi2] 79))) := ⟨HF.out.trans (Fr.of hal)⟩
      have HS1 := Aside.mk (HS.out.below hal)
      have HP1 := Aside.mk (HP.out.below hal)
      have HR1 : Aside (wr.heap.size < (wr.alloc (Obj.cells #[.int .i64 op, .int .i64 xn, .int .i64 lo, .int .i64 hi2] 79)).heap.size) := ⟨lt_of hrow⟩
      have n1 : (wr.alloc (Obj.cells #[.int .i64 op, .int .i64 xn, .int .i64 lo, .int .i64 hi2] 79)).cell? ⟨wr.heap.size, 1, none⟩ = some (.int .i64 xn) := by rw [cell_of_row _ _ 1 _ _ _ hrow]; rfl
      have HTK : Aside (e.take (i + 1) = e.take i ++ [⟨op, xn, lo, hi2⟩]) := ⟨by rw [List.take_add_one, HX.out]; rfl⟩
      clear hal hrow ho1
      by_cases hop : op = 2
      · subst hop
        obtain ⟨hx0, hxl⟩ := HV.out _ (List.mem_of_getElem? HX.out) rfl
        simp only at hx0 hxl
        obtain ⟨m, hm⟩ : ∃ m : Nat, xn = m := ⟨xn.toNat, by omega⟩
        subst hm
        rw [Int.toNat_natCast] at hxl
        obtain ⟨r, hr⟩ : ∃ r, σ.names[m]? = some r := ⟨_, List.getElem?_eq_getElem hxl⟩
        have hgetD : σ.names.getD m (0, 0) = r := by rw [List.getD_eq_getElem?_getD, hr]; rfl
        have HRES : Aside (Od.resolve s.data.toList σ.names (strL xs) [⟨2, m, lo, hi2⟩] = match idxOf (strL xs) (sub s.data.toList r.1 r.2) with
            | none => ([⟨2, m, lo, hi2⟩], some r.1)
            | some k => ([⟨2, k, lo, hi2⟩], none)) := ⟨by
          rw [resolve_cons, if_pos rfl]
          simp only
          rw [Int.toNat_natCast, hgetD]
          cases idxOf (strL xs) (sub s.data.toList r.1 r.2) <;> rfl⟩
        have HRES2 : Aside (idxOf (strL xs) (sub s.data.toList r.1 r.2) = none → (Od.resolve s.data.toList σ.names (strL xs) e) = (pre ++ e.drop i, some r.1)) := ⟨fun hn => by
          conv => lhs; rw [← List.take_append_drop i e]
          rw [resolve_app _ _ _ HR.out, HD.out, resolve_cons, if_pos rfl]
          simp only
          rw [Int.toNat_natCast, hgetD, hn]⟩
        have hcw : (wr.alloc (Obj.cells #[.int .i64 2, .int .i64 (m : Nat), .int .i64 lo, .int .i64 hi2] 79)).cell? ⟨gv, i * 4 + 1, none⟩ = some (.int .i64 (m : Nat)) := by rw [HB.out.cell (p := ⟨gv, i * 4 + 1, none⟩) (World.block_lt_of_cell? wr _ c1)]; exact c1
        go_wp2_with fail
        generalize wr.alloc (Obj.cells #[.int .i64 2, .int .i64 (m : Nat), .int .i64 lo, .int .i64 hi2] 79) = W at HO1 HF1 HS1 HP1 HR1 n1 hcw ⊢
        obtain ⟨gz, hgz⟩ : ∃ gz, wr.heap.size = gz := ⟨_, rfl⟩
        have hgl := HR1.out
        rw [hgz] at n1 hgl
        simp only [hgz]
        obtain ⟨V, hhere, hown, hout⟩ := HP1.out.here
        have hVf : ∃ gn capn, V = .slice (some ⟨gn, 0, none⟩) σ.names.length capn := by
          rcases hown.2 with ⟨-, h0⟩ | ⟨gn, capn, cur, rfl, -⟩
          · omega
          · exact ⟨gn, capn, rfl⟩
        obtain ⟨gn, capn, rfl⟩ := hVf
        have v3 : W.cell? ⟨g, 3, none⟩ = some (.slice (some ⟨gn, 0, none⟩) σ.names.length capn) := by rw [cell_of_row _ _ 3 _ _ _ hhere]; rfl
        have hlg : g < W.heap.size := lt_of hhere
        have tk1 : W.cell? ⟨gn, m * 3 + 1, none⟩ = some (.string (s.extract r.1 r.2)) := by
          rw [hown.cellAt (m * 3 + 1) (by omega), toks_get s _ _ r 1 hr (by decide)]; rfl
        have tk2 : W.cell? ⟨gn, m * 3 + 2, none⟩ = some (.int .i64 (r.1 : Nat)) := by
          rw [hown.cellAt (m * 3 + 2) (by omega), toks_get s _ _ r 2 hr (by decide)]; rfl
        have hgnl : gn < W.heap.size := World.block_lt_of_cell? W _ tk1
        have hml : (m : Int) < (σ.names.length : Int) := by omega
        have HMN := Aside.mk hxl
        obtain ⟨NL, hNL⟩ : ∃ NL, σ.names.length = NL := ⟨_, rfl⟩
        rw [hNL] at v3 hml
        obtain ⟨X, hX⟩ : ∃ X, s.extract r.1 r.2 = X := ⟨_, rfl⟩
        have HXL : Aside (X.data.toList = sub s.data.toList r.1 r.2) := ⟨by rw [← hX, sub_extract]⟩
        rw [hX] at tk1
        clear hx0 hxl hr hgetD hgz hhere hown hout hNL hX c0 c2 c3
        go_quiet (first | (go_at_call 108; refine Calls.quiet_of_same (index_any _ vv xs (HS1.out.drewN _) X)))
        have hlen2 : (pre ++ e.drop i).length = n := by rw [List.length_append, HPL.out, List.length_drop, HN.out]; omega
        have hown : W.ownsRow base 79 4 (.slice (some ⟨gv, 0, none⟩) n cap) n (nds (pre ++ e.drop i)) := by have := HO1.out; unfold OwnN at this; rw [hlen2] at this; exact this
        have hfzw := hown.frozenAt (i * 4 + 1)
        have hglv : gv < W.heap.size := World.block_lt_of_cell? W _ hcw
        have HOW := Aside.mk hown
        have HL2 := Aside.mk hlen2
        clear hlen2 hown
        cases hix : idxOf (strL xs) X.data.toList with
        | none =>
          have HE := Aside.mk (HRES2.out (by rw [← HXL.out]; exact hix))
          have e1 : idxV none = -1 := rfl
          rw [e1]
          clear hix e1
          go_wp2_with fail
          go_quiet (fail)
          go_wp2_with fail
          go_ret
          rw [HE.out]
          exact ⟨rfl, HO1.out, HF1.out.trans (Fr.of ⟨rfl, rfl, rfl, Nat.le_refl _, fun _ _ => rfl⟩), HS1.out.below ⟨rfl, rfl, rfl, Nat.le_refl _, fun _ _ => rfl⟩, HP1.out.below ⟨rfl, rfl, rfl, Nat.le_refl _, fun _ _ => rfl⟩⟩
        | some k =>
          have HRK := Aside.mk (HRES.out)
          have e1 : idxV (some k) = (k : Int) := rfl
          have HIX := Aside.mk hix
          rw [e1]
          clear hix e1
          have hk0 : ¬ ((k : Int) < 0) := by omega
          go_wp2_with fail
          have hb0 : Below W.heap.size W (W.drewN nq) := ⟨rfl, rfl, rfl, Nat.le_refl _, fun _ _ => rfl⟩
          have HRX : Aside (Od.resolve s.data.toList σ.names (strL xs) (e.take (i + 1)) = (pre ++ [⟨2, k, lo, hi2⟩], none)) := ⟨by
            rw [HTK.out, resolve_app _ _ _ HR.out, HRES.out, ← HXL.out, HIX.out]⟩
          have hset : (pre ++ e.drop i).set i ⟨2, k, lo, hi2⟩ = pre ++ [⟨2, k, lo, hi2⟩] ++ e.drop (i + 1) := by
            rw [HD.out, List.set_append, if_neg (by have := HPL.out; omega), HPL.out, Nat.sub_self, List.append_assoc]; rfl
          have hst : ((W.drewN nq).setCell ⟨gv, i * 4 + 1, none⟩ (.int .i64 (k : Int))).ownsRow base 79 4 (.slice (some ⟨gv, 0, none⟩) n cap) n ((nds (pre ++ e.drop i)).set (i * 4 + 1) (.int .i64 (k : Int))) := (World.ownsRow.stored (show (W.drewN nq).ownsRow base 79 4 (.slice (some ⟨gv, 0, none⟩) n cap) n (nds (pre ++ e.drop i)) from HOW.out) (i * 4 + 1) (.int .i64 (k : Int))).1
          rw [nds_set _ _ _ _ HC.out, hset] at hst
          have HO3 : Aside (OwnN base ((W.drewN nq).setCell ⟨gv, i * 4 + 1, none⟩ (.int .i64 (k : Int))) (.slice (some ⟨gv, 0, none⟩) n cap) (pre ++ [⟨2, k, lo, hi2⟩] ++ e.drop (i + 1))) := ⟨by
            unfold OwnN
            rw [show (pre ++ [(⟨2, k, lo, hi2⟩ : Nd)] ++ e.drop (i + 1)).length = n by rw [← hset, List.length_set]; exact HL2.out]
            exact hst⟩
          have hgr : ∃ cur, (W.drewN nq).heap[gv]? = some (.cells cur 79 (0, 0)) := by
            rcases HOW.out.2 with ⟨h', _⟩ | ⟨g', cap', cur, h', _, hg, _⟩
            · simp at h'
            · simp only [Value.slice.injEq, Option.some.injEq, Addr.mk.injEq, and_true, true_and] at h'
              obtain ⟨rfl, rfl⟩ := h'
              exact ⟨cur, hg⟩
          obtain ⟨cur, hgr⟩ := hgr
          have hfs : FrN K (W.drewN nq) ((W.drewN nq).setCell ⟨gv, i * 4 + 1, none⟩ (.int .i64 (k : Int))) := Fr.set hgr HK.out _
          have HF3 := Aside.mk ((HF1.out.trans (Fr.of hb0)).trans hfs)
          have HS3 := Aside.mk ((HS1.out.below hb0).set (p := ⟨gv, i * 4 + 1, none⟩) (k := .i64) (x := m) hcw (.int .i64 (k : Int)))
          have HP3 := Aside.mk ((HP1.out.below hb0).frN hfs)
          clear hset hst hgr hfs hb0
          obtain ⟨go, hgo⟩ : ∃ go, gk = go + 1 := ⟨gk - 1, by have := HI.out; omega⟩
          go_roundg go
          case measure => omega
          case rel => exact ⟨i + 1, pre ++ [⟨2, k, lo, hi2⟩], rfl, ⟨by have := HI.out; omega⟩, HRX, HO3, HF3, HS3, HP3⟩
      · have HOP := Aside.mk hop
        have HRX : Aside (Od.resolve s.data.toList σ.names (strL xs) (e.take (i + 1)) = (pre ++ [⟨op, xn, lo, hi2⟩], none)) := ⟨by
          rw [HTK.out, resolve_app _ _ _ HR.out, resolve_cons, if_neg hop]; rfl⟩
        have HOX : Aside (pre ++ [⟨op, xn, lo, hi2⟩] ++ e.drop (i + 1) = pre ++ e.drop i) := ⟨by rw [HD.out]; simp⟩
        go_wp2_with fail
        obtain ⟨go, hgo⟩ : ∃ go, gk = go + 1 := ⟨gk - 1, by have := HI.out; omega⟩
        go_roundg go
        case measure => omega
        case rel => exact ⟨i + 1, pre ++ [⟨op, xn, lo, hi2⟩], rfl, ⟨by have := HI.out; omega⟩, HRX, ⟨by rw [HOX.out]; exact HO1.out⟩, HF1, HS1, HP1⟩
    · have hi' : ¬ ((i : Int) < (n : Int)) := by omega
      have HIN : Aside (i = n) := ⟨by have := HI.out; omega⟩
      have HE : Aside (Od.resolve s.data.toList σ.names (strL xs) e = (pre, none)) := ⟨by have := HR.out; rw [HIN.out, List.take_of_length_le (by rw [HN.out]; omega)] at this; exact this⟩
      have HOE : Aside (pre ++ e.drop i = pre) := ⟨by rw [List.drop_of_length_le (by rw [HN.out, HIN.out]; omega), List.append_nil]⟩
      go_wp2_with fail
      go_ret
      rw [HE.out]
      exact ⟨rfl, by rw [← HOE.out]; exact HO.out, HF.out, HS.out, HP.out⟩
end Go.Proofs.YthcidkidpiaomaaGreatDoor.Od
end
