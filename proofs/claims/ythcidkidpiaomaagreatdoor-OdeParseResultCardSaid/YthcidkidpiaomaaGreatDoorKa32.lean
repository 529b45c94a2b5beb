/- OeP OeR -/
import Derived.Test.YthcidkidpiaomaaGreatDoorKa09
import Derived.Test.YthcidkidpiaomaaGreatDoorKa23
section
set_option linter.unusedVariables false
namespace Go.Proofs.YthcidkidpiaomaaGreatDoor.Od
structure Ln where
  x : List UInt8
  t : Tr
  w1 : List UInt8
  w2 : List UInt8
  w3 : List UInt8
  w4 : List UInt8
  w5 : List UInt8
  k : Nat
def Ln.body (vars : List (List UInt8)) (l : Ln) : List UInt8 := l.x ++ (l.w2 ++ 39 :: (l.w3 ++ 61 :: (l.w4 ++ (fmtT vars l.t ++ (l.w5 ++ List.replicate (l.k + 1) 10)))))
def Ln.text (vars : List (List UInt8)) (l : Ln) : List UInt8 := l.w1 ++ l.body vars
structure Ln.ok (vars : List (List UInt8)) (l : Ln) : Prop where
  name : okName l.x = true
  tree : okT vars l.t
  ws : ∀ c, c ∈ l.w1 ++ l.w2 ++ l.w3 ++ l.w4 ++ l.w5 → isWs c = true
def rnL : List Tr → Nat → List Tr
  | [], _ => []
  | t :: r, k => rn t k :: rnL r (k + (vs t).length)
section
variable {L : List UInt8} {vars : List (List UInt8)} {p q : Nat} {R : List UInt8}
theorem okName_split {x : List UInt8} (h : okName x = true) : ∃ c r, x = c :: r ∧ isLt c = true ∧ (∀ d ∈ r, isLD d = true) ∧ keyword x = false := by
  unfold okName at h
  simp only [Bool.and_eq_true, decide_eq_true_eq, Bool.not_eq_true', List.all_eq_true] at h
  obtain ⟨⟨⟨⟨h1, -⟩, h2⟩, h3⟩, h4⟩ := h
  cases x with
  | nil => simp at h1
  | cons c r => exact ⟨c, r, rfl, by simpa using h2, fun d hd => h4 d (List.mem_cons_of_mem _ hd), h3⟩
theorem ws_stop {w : List UInt8} {c : UInt8} {T : List UInt8} (hw : ∀ d ∈ w, isWs d = true) (hc : isCh c = true ∨ c = 10) : Stop (w ++ c :: T) := by
  cases w with
  | nil => exact stop_ch (by rcases hc with h | h; · exact Or.inl h
                             · exact Or.inr (Or.inr (Or.inl h)))
  | cons d r =>
    have := hw d (List.mem_cons_self ..)
    unfold isWs at this
    simp only [Bool.or_eq_true, beq_iff_eq] at this
    rcases this with (rfl | rfl) | rfl
    · exact stop_ch (Or.inr (Or.inl rfl))
    · exact stop_ch (Or.inr (Or.inr (Or.inr (Or.inl rfl))))
    · exact stop_ch (Or.inr (Or.inr (Or.inr (Or.inr rfl))))
theorem skipNl_reads : ∀ (n fuel : Nat) (b : Bool) (p : Nat) (w T : List UInt8) (σ : PS), n < fuel → At L p (List.replicate n 10 ++ (w ++ T)) → (∀ c ∈ w, isWs c = true) → (∀ c, T.head? = some c → isWs c = false ∧ c ≠ 10) → (n = 0 → w = []) → skp isWs L σ.pos = p →
    Od.skipNl L fuel b σ = .ok (b || decide (0 < n)) { σ with pos := p + n + w.length }
  | 0, fuel + 1, b, p, w, T, σ, hf, ha, hw, hT, h0, hp => by
    obtain rfl := h0 rfl
    have hn : NotCh true L p 10 := by
      cases T with
      | nil => exact NotCh.fin ha
      | cons c T => exact NotCh.at ha (hT c rfl).2
    conv => lhs; unfold Od.skipNl
    rw [bind_ok (hn σ hp), if_neg (by decide)]
    simp [Pr.ret]
  | n + 1, fuel + 1, b, p, w, T, σ, hf, ha, hw, hT, h0, hp => by
    have hk : IsCh true L p 10 := IsCh.ofNl ha
    have ha2 : At L (p + 1) (List.replicate n 10 ++ (w ++ T)) := At.next1 ha
    conv => lhs; unfold Od.skipNl
    rw [bind_ok (hk σ hp), if_pos rfl]
    cases n with
    | zero =>
      have ha3 : At L (p + 1) (w ++ T) := ha2
      have hs : skp isWs L (p + 1) = p + 1 + w.length := skp_text isWs ha3 hw (fun c hc => (hT c hc).1)
      have := skipNl_reads 0 fuel true (p + 1 + w.length) [] T { σ with pos := p + 1 } (by omega) ha3.next (by simp) hT (fun _ => rfl) hs
      rw [this]
      simp
    | succ n =>
      have hs : skp isWs L (p + 1) = p + 1 := ws_at (c := 10) (R := List.replicate n 10 ++ (w ++ T)) (by simpa [List.replicate_succ] using ha2) (by decide)
      have := skipNl_reads (n + 1) fuel true (p + 1) w T { σ with pos := p + 1 } (by omega) ha2 hw hT (fun h => by cases h) hs
      rw [this]
      simp
      omega
theorem word_peek {c : UInt8} {x : List UInt8} (h : At L p (c :: x ++ R)) (h0 : isLt c = true) (hx : ∀ d ∈ x, isLD d = true) (hR : Stop R) {s : Nat} (hp : skp isWs L s = p) : peekT true L s = ⟨1, p, p + (c :: x).length⟩ := (word_tok (nl := true) h h0 hx hR hp).1
theorem lineStart_reads {x w2 w3 T : List UInt8} (hx : okName x = true) (h2 : ∀ c ∈ w2, isWs c = true) (h3 : ∀ c ∈ w3, isWs c = true) (h : At L p (x ++ (w2 ++ 39 :: (w3 ++ 61 :: T)))) (σ : PS) (hp : skp isWs L σ.pos = p) :
    Od.lineStart L σ = .ok ⟨1, p, p + x.length⟩ { σ with pos := p + x.length + w2.length + 1 + w3.length + 1 } ∧ sub L p (p + x.length) = x := by
  obtain ⟨c, r, rfl, hc, hr, hkw⟩ := okName_split hx
  have a1 := h.next
  have a2 : At L (p + (c :: r).length + w2.length) (39 :: (w3 ++ 61 :: T)) := a1.next
  have a3 := At.next1 a2
  have a4 : At L (p + (c :: r).length + w2.length + 1 + w3.length) (61 :: T) := a3.next
  have hsub : sub L p (p + (c :: r).length) = c :: r := sub_at h
  have hpk := word_peek h hc hr (ws_stop h2 (Or.inl (by decide))) hp
  have s1 : skp isWs L (p + (c :: r).length) = p + (c :: r).length + w2.length := ws_text a1 h2 (by decide)
  have s2 : skp isWs L (p + (c :: r).length + w2.length + 1) = p + (c :: r).length + w2.length + 1 + w3.length := ws_text a3 h3 (by decide)
  refine ⟨?_, hsub⟩
  unfold Od.lineStart
  rw [hpk]
  simp only
  rw [if_neg (by rw [hsub, hkw]; simp), bind_ok (expect_ch (IsCh.of a2 (by decide)) _ s1), bind_ok (expect_ch (IsCh.of a4 (by decide)) _ s2)]
  rfl
theorem sum_reads (hv : ∀ x ∈ vars, okName x = true) {t : Tr} (ht : okT vars t) {w5 T : List UInt8} (h5 : ∀ c ∈ w5, isWs c = true) (h : At L p (fmtT vars t ++ (w5 ++ 10 :: T))) : Reads L vars (Od.sum true L (L.length + 1)) p (p + (fmtT vars t).length + w5.length) t := by
  obtain ⟨c, r, ec, hcw, hc45⟩ := fmt_first hv t ht
  have a1 := h.next
  have a2 : At L (p + (fmtT vars t).length + w5.length) (10 :: T) := a1.next
  have hdl := dep_le hv t ht
  have hlen := h.len
  simp only [List.length_append, List.length_cons] at hlen
  have hw : skp isWs L (p + (fmtT vars t).length) = p + (fmtT vars t).length + w5.length := ws_text a1 h5 (by decide)
  have hww : skp isWs L (p + (fmtT vars t).length + w5.length) = p + (fmtT vars t).length + w5.length := ws_at a2 (by decide)
  have hat := atom_reads (nl := true) hv t ht L.length p _ (by omega) h (ws_stop h5 (Or.inr rfl))
  have hf : ∀ k, Reads L vars (Od.factor true L (Od.sum true L L.length) (k + 1)) p (p + (fmtT vars t).length) t := fun k => Reads.factor (NotCh.at (R := r ++ (w5 ++ 10 :: T)) (by rw [ec] at h; exact h) hc45) hat
  have h1 : Reads L vars (Od.product true L (Od.sum true L L.length) (L.length + 1)) p (p + (fmtT vars t).length + w5.length) t := Reads.chain (hf _) (by rw [hw]; exact ReadsC.stop (NotCh.at a2 (by decide)) (NotCh.at a2 (by decide)))
  exact Reads.chain h1 (by rw [hww]; exact ReadsC.stop (NotCh.at a2 (by decide)) (NotCh.at a2 (by decide)))
def bodyL (vars : List (List UInt8)) (l : Ln) (ls : List Ln) : List UInt8 := l.body vars ++ ls.flatMap (Ln.text vars)
theorem body_head {l : Ln} (h : l.ok vars) : ∃ c r, l.body vars = c :: r ∧ isWs c = false ∧ c ≠ 10 := by
  obtain ⟨c, r, e, hc, -, -⟩ := okName_split h.name
  refine ⟨c, r ++ (l.w2 ++ 39 :: (l.w3 ++ 61 :: (l.w4 ++ (fmtT vars l.t ++ (l.w5 ++ List.replicate (l.k + 1) 10))))), by unfold Ln.body; rw [e]; rfl, (lt_kind hc).2.1, ?_⟩
  rintro rfl; revert hc; decide
theorem line_step (hv : ∀ x ∈ vars, okName x = true) {l : Ln} (hl : l.ok vars) {S : List UInt8} (ha : At L p (l.body vars ++ S)) (σ : PS) (hp : skp isWs L σ.pos = p) :
    ∃ σ1 q3 nm, Od.lineStart L σ = .ok ⟨1, p, p + l.x.length⟩ σ1 ∧ sub L p (p + l.x.length) = l.x ∧ Od.sum true L (L.length + 1) σ1 = .ok (rn l.t σ.names.length) ⟨q3, σ.names ++ nm, σ.bad⟩ ∧
      nm.map (wrd L) = (vs l.t).map (fun n => vars.getD n []) ∧ At L q3 (List.replicate (l.k + 1) 10 ++ S) ∧ p + 1 ≤ q3 := by
  have hw := hl.ws
  have h2 : ∀ c ∈ l.w2, isWs c = true := fun c hc => hw c (by simp [hc])
  have h3 : ∀ c ∈ l.w3, isWs c = true := fun c hc => hw c (by simp [hc])
  have h4 : ∀ c ∈ l.w4, isWs c = true := fun c hc => hw c (by simp [hc])
  have h5 : ∀ c ∈ l.w5, isWs c = true := fun c hc => hw c (by simp [hc])
  have ha' : At L p (l.x ++ (l.w2 ++ 39 :: (l.w3 ++ 61 :: (l.w4 ++ (fmtT vars l.t ++ (l.w5 ++ 10 :: (List.replicate l.k 10 ++ S))))))) := by
    have := ha
    unfold Ln.body at this
    simpa [List.replicate_succ] using this
  obtain ⟨e1, e2⟩ := lineStart_reads hl.name h2 h3 ha' σ hp
  have at1 : At L (p + l.x.length + l.w2.length + 1 + l.w3.length + 1) (l.w4 ++ (fmtT vars l.t ++ (l.w5 ++ 10 :: (List.replicate l.k 10 ++ S)))) := by
    have b1 := At.next ha'
    have b2 := At.next b1
    have b3 := At.next1 b2
    have b4 := At.next b3
    exact At.next1 b4
  have at2 := at1.next
  obtain ⟨c, r, ec, hcw, -⟩ := fmt_first hv l.t hl.tree
  have hs : skp isWs L (p + l.x.length + l.w2.length + 1 + l.w3.length + 1) = p + l.x.length + l.w2.length + 1 + l.w3.length + 1 + l.w4.length := by
    rw [ec] at at1
    exact ws_text at1 h4 hcw
  obtain ⟨nm, g1, g2⟩ := sum_reads hv hl.tree h5 at2 { σ with pos := p + l.x.length + l.w2.length + 1 + l.w3.length + 1 } hs
  have at3 := at2.next
  have at4 := at3.next
  refine ⟨_, _, nm, e1, e2, g1, g2, by simpa [List.replicate_succ] using at4, by omega⟩
theorem rnL_cons (t : Tr) (r : List Tr) (k : Nat) : rnL (t :: r) k = rn t k :: rnL r (k + (vs t).length) := rfl
theorem lines_reads (hv : ∀ x ∈ vars, okName x = true) : ∀ (ls : List Ln) (l : Ln), l.ok vars → (∀ m ∈ ls, m.ok vars) → ∀ (fuel p : Nat) (ns : List Tok) (es : List Tr) (σ : PS), L.length < fuel + p → At L p (bodyL vars l ls) → skp isWs L σ.pos = p →
    ∃ tks nm, Od.lines L fuel ns es σ = .ok (ns ++ tks, es ++ rnL ((l :: ls).map Ln.t) σ.names.length) ⟨L.length, σ.names ++ nm, σ.bad⟩ ∧ tks.map (fun t => sub L t.lo t.hi) = (l :: ls).map Ln.x ∧ nm.map (wrd L) = ((l :: ls).flatMap fun l => vs l.t).map (fun n => vars.getD n []) := by
  intro ls
  induction ls with
  | nil =>
    intro l hl _ fuel p ns es σ hf ha hp
    obtain ⟨fuel, rfl⟩ : ∃ f, fuel = f + 1 := ⟨fuel - 1, by have := ha.2; omega⟩
    have ha : At L p (l.body vars ++ []) := ha
    obtain ⟨σ1, q3, nm, e1, e2, e3, e4, e5, e6⟩ := line_step hv hl ha σ hp
    have e5 : At L q3 (List.replicate (l.k + 1) 10 ++ ([] ++ [])) := e5
    have hs : skp isWs L q3 = q3 := ws_at (c := 10) (R := List.replicate l.k 10 ++ ([] ++ [])) (by simpa [List.replicate_succ] using e5) (by decide)
    have hlen := e5.len
    simp only [List.append_nil, List.length_replicate] at hlen
    have e7 := skipNl_reads (l.k + 1) (L.length + 1) false q3 [] [] ⟨q3, σ.names ++ nm, σ.bad⟩ (by omega) e5 (by simp) (by simp) (fun h => by cases h) hs
    have hq : q3 + (l.k + 1) + ([] : List UInt8).length = L.length := by simp; omega
    rw [hq] at e7
    have hpk : peekT true L L.length = ⟨0, L.length, L.length⟩ := by
      unfold peekT
      rw [skp_end isWs L _ (Nat.le_refl _)]
      exact tok_end ⟨by simp, Nat.le_refl _⟩
    refine ⟨[⟨1, p, p + l.x.length⟩], nm, ?_, by simp [e2], by simpa using e4⟩
    conv => lhs; unfold Od.lines
    rw [bind_ok e1, bind_ok e3]
    refine (bind_ok e7).trans ?_
    refine (if_pos (by rw [hpk])).trans ?_
    rw [hpk]
    rfl
  | cons m ls ih =>
    intro l hl hls fuel p ns es σ hf ha hp
    obtain ⟨fuel, rfl⟩ : ∃ f, fuel = f + 1 := ⟨fuel - 1, by have := ha.2; omega⟩
    have ha : At L p (l.body vars ++ (m.w1 ++ bodyL vars m ls)) := by
      have := ha
      unfold bodyL at this ⊢
      rw [List.flatMap_cons, show Ln.text vars m = m.w1 ++ m.body vars from rfl, List.append_assoc] at this
      exact this
    obtain ⟨σ1, q3, nm, e1, e2, e3, e4, e5, e6⟩ := line_step hv hl ha σ hp
    have hs : skp isWs L q3 = q3 := ws_at (c := 10) (R := List.replicate l.k 10 ++ (m.w1 ++ bodyL vars m ls)) (by simpa [List.replicate_succ] using e5) (by decide)
    have hm := hls m (List.mem_cons_self ..)
    obtain ⟨c, r, eb, hcw, hc10⟩ := body_head hm
    have hhd : ∀ c', (bodyL vars m ls).head? = some c' → isWs c' = false ∧ c' ≠ 10 := by
      intro c' hc'
      unfold bodyL at hc'
      rw [eb] at hc'
      obtain rfl := Option.some.inj hc'
      exact ⟨hcw, hc10⟩
    have hlen := e5.len
    simp only [List.length_append, List.length_replicate] at hlen
    have e7 := skipNl_reads (l.k + 1) (L.length + 1) false q3 m.w1 (bodyL vars m ls) ⟨q3, σ.names ++ nm, σ.bad⟩ (by omega) e5 (fun c hc => hm.ws c (by simp [hc])) hhd (fun h => by cases h) hs
    have at4 : At L (q3 + (l.k + 1) + m.w1.length) (bodyL vars m ls) := by
      have b1 := e5.next
      rw [List.length_replicate] at b1
      exact b1.next
    obtain ⟨q4, hq4⟩ : ∃ q4, q3 + (l.k + 1) + m.w1.length = q4 := ⟨_, rfl⟩
    rw [hq4] at e7 at4
    have hs4 : skp isWs L q4 = q4 := by
      unfold bodyL at at4
      rw [eb] at at4
      exact ws_at (R := r ++ ls.flatMap (Ln.text vars)) at4 hcw
    have hpl : (peekT true L q4).lo = q4 := by rw [peekT_lo, hs4]
    have hpk : (peekT true L q4).kind ≠ 0 := by
      intro h0
      have hfin := (peekT_ok true L q4 at4.2).fin.1 h0
      rw [hpl] at hfin
      have hl4 := at4.len
      unfold bodyL at hl4
      rw [eb] at hl4
      simp at hl4
      omega
    obtain ⟨tks, nm2, i1, i2, i3⟩ := ih m hm (fun x hx => hls x (List.mem_cons_of_mem _ hx)) fuel q4 (ns ++ [⟨1, p, p + l.x.length⟩]) (es ++ [rn l.t σ.names.length]) ⟨q4, σ.names ++ nm, σ.bad⟩ (by omega) at4 hs4
    refine ⟨⟨1, p, p + l.x.length⟩ :: tks, nm ++ nm2, ?_, by rw [List.map_cons, List.map_cons, i2, e2], by rw [List.map_append, e4, i3, ← List.map_append]; rfl⟩
    conv => lhs; unfold Od.lines
    rw [bind_ok e1, bind_ok e3]
    refine (bind_ok e7).trans ?_
    refine (if_neg hpk).trans ?_
    refine (if_pos (by simp)).trans ?_
    rw [hpl, i1]
    simp only [List.append_assoc, List.singleton_append, List.map_cons, rnL_cons, List.length_append, nm_len e4]
end
theorem resAll_rn {L : List UInt8} {N : List (Nat × Nat)} {vars : List (List UInt8)} (hd : ∀ n, n < vars.length → idxOf vars (vars.getD n []) = some n) : ∀ (tks : List Tok) (ts : List Tr) (xs : List (List UInt8)) (k : Nat) (M seen : List (List UInt8)),
    tks.map (fun t => sub L t.lo t.hi) = xs → ts.length = xs.length → (∀ t ∈ ts, okT vars t) → (seen ++ xs).Nodup → (N.drop k).map (wrd L) = (ts.flatMap vs).map (fun n => vars.getD n []) ++ M →
    resAll L N vars tks (rnL ts k) seen = .ok (ts.map flat)
  | [], [], xs, k, M, seen, _, _, _, _, _ => rfl
  | [], t :: ts, xs, k, M, seen, h1, h2, _, _, _ => by subst h1; simp at h2
  | tk :: tks, [], xs, k, M, seen, h1, h2, _, _, _ => by subst h1; simp at h2
  | tk :: tks, t :: ts, xs, k, M, seen, h1, h2, h3, h4, h5 => by
    subst h1
    rw [rnL_cons]
    unfold resAll
    simp only
    have hns : seen.contains (sub L tk.lo tk.hi) = false := by
      rw [List.contains_eq_mem, decide_eq_false_iff_not]
      intro hm
      have := (List.nodup_append.1 h4).2.2 _ hm _ (List.mem_map.2 ⟨tk, List.mem_cons_self .., rfl⟩)
      exact this rfl
    rw [if_neg (by rw [hns]; simp)]
    rw [List.flatMap_cons, List.map_append, List.append_assoc] at h5
    rw [resolve_rn hd t k _ (h3 t (List.mem_cons_self ..)) h5]
    simp only
    have h6 := drop_add_map h5
    rw [List.length_map] at h6
    rw [resAll_rn hd tks ts _ (k + (vs t).length) M (seen ++ [sub L tk.lo tk.hi]) rfl (by simp at h2 ⊢; omega) (fun x hx => h3 x (List.mem_cons_of_mem _ hx)) (by simpa using h4) h6]
    rfl
theorem okNames_of : ∀ (xs seen : List (List UInt8)), (∀ x ∈ xs, okName x = true) → (seen ++ xs).Nodup → okNames xs seen = true
  | [], seen, _, _ => rfl
  | x :: r, seen, h, hn => by
    unfold okNames
    have hns : seen.contains x = false := by
      rw [List.contains_eq_mem, decide_eq_false_iff_not]
      intro hm
      exact (List.nodup_append.1 hn).2.2 _ hm _ (List.mem_cons_self ..) rfl
    rw [h x (List.mem_cons_self ..), hns, okNames_of r (seen ++ [x]) (fun y hy => h y (List.mem_cons_of_mem _ hy)) (by simpa using hn)]
    rfl
theorem okNames_all : ∀ (xs seen : List (List UInt8)), seen.Nodup → okNames xs seen = true → (∀ x ∈ xs, okName x = true) ∧ (seen ++ xs).Nodup
  | [], seen, hs, _ => ⟨fun x hx => (by cases hx), by simpa using hs⟩
  | x :: r, seen, hs, h => by
    unfold okNames at h
    simp only [Bool.and_eq_true, Bool.not_eq_true'] at h
    obtain ⟨⟨h1, h2⟩, h3⟩ := h
    have hn : (seen ++ [x]).Nodup := by
      rw [List.nodup_append]
      refine ⟨hs, by simp, fun a ha b hb => ?_⟩
      obtain rfl := List.mem_singleton.1 hb
      rintro rfl
      rw [List.contains_eq_mem, decide_eq_false_iff_not] at h2
      exact h2 ha
    obtain ⟨i1, i2⟩ := okNames_all r (seen ++ [x]) hn h3
    refine ⟨fun y hy => ?_, by simpa using i2⟩
    rcases List.mem_cons.1 hy with rfl | hy
    · exact h1
    · exact i1 y hy
theorem parseSys_reads {names : List (List UInt8)} (l : Ln) (ls : List Ln) (L : List UInt8) (n0 : Nat) (hL : L = List.replicate n0 10 ++ (l.w1 ++ bodyL names l ls)) (h0 : n0 = 0 → l.w1 = []) (hn : (l :: ls).map Ln.x = names) (hok : ∀ m ∈ l :: ls, m.ok names) (hnd : names.Nodup) (h6 : names.length ≤ 6) (h8 : L.length ≤ 8000) (h200 : ∀ m ∈ l :: ls, (flat m.t).length ≤ 200) :
    parseSys L = .ok (names, (l :: ls).map fun m => flat m.t) := by
  have hv : ∀ x ∈ names, okName x = true := fun x hx => by
    rw [← hn] at hx
    obtain ⟨m, hm, rfl⟩ := List.mem_map.1 hx
    exact (hok m hm).name
  have hl := hok l (List.mem_cons_self ..)
  have ha : At L 0 (List.replicate n0 10 ++ (l.w1 ++ bodyL names l ls)) := by rw [← hL]; exact At.zero
  obtain ⟨c, r, eb, hcw, hc10⟩ := body_head hl
  have hhd : ∀ c', (bodyL names l ls).head? = some c' → isWs c' = false ∧ c' ≠ 10 := by
    intro c' hc'
    unfold bodyL at hc'
    rw [eb] at hc'
    obtain rfl := Option.some.inj hc'
    exact ⟨hcw, hc10⟩
  have hlen : n0 < L.length + 1 := by rw [hL]; simp; omega
  have hs0 : skp isWs L 0 = 0 := by
    cases n0 with
    | zero =>
      have hw := h0 rfl
      rw [hw] at ha
      unfold bodyL at ha
      rw [eb] at ha
      exact ws_at (c := c) (R := r ++ ls.flatMap (Ln.text names)) (by simpa using ha) hcw
    | succ n => exact ws_at (c := 10) (R := List.replicate n 10 ++ (l.w1 ++ bodyL names l ls)) (by simpa [List.replicate_succ] using ha) (by decide)
  have e1 := skipNl_reads n0 (L.length + 1) false 0 l.w1 (bodyL names l ls) ⟨0, [], false⟩ hlen ha (fun c hc => hl.ws c (by simp [hc])) hhd h0 hs0
  have at1 : At L (0 + n0 + l.w1.length) (bodyL names l ls) := by
    have b1 := ha.next
    rw [List.length_replicate] at b1
    exact b1.next
  have hs1 : skp isWs L (0 + n0 + l.w1.length) = 0 + n0 + l.w1.length := by
    have b := at1
    unfold bodyL at b
    rw [eb] at b
    exact ws_at (R := r ++ ls.flatMap (Ln.text names)) b hcw
  obtain ⟨tks, nm, i1, i2, i3⟩ := lines_reads hv ls l hl (fun m hm => hok m (List.mem_cons_of_mem _ hm)) (L.length + 1) _ [] [] ⟨0 + n0 + l.w1.length, [], false⟩ (by omega) at1 hs1
  have hall : allLines L ⟨0, [], false⟩ = .ok (tks, rnL ((l :: ls).map Ln.t) 0) ⟨L.length, nm, false⟩ := by
    unfold allLines
    rw [bind_ok e1]
    have := i1
    simp only [List.nil_append, List.length_nil] at this
    exact this
  unfold parseSys
  rw [if_neg (by omega), hall]
  simp only
  rw [i2, hn]
  have hts : ((l :: ls).map Ln.t).length = names.length := by rw [← hn]; simp
  have hokt : ∀ t ∈ (l :: ls).map Ln.t, okT names t := fun t ht => by
    obtain ⟨m, hm, rfl⟩ := List.mem_map.1 ht
    exact (hok m hm).tree
  have hfm : ((l :: ls).map Ln.t).flatMap vs = (l :: ls).flatMap fun l => vs l.t := by rw [List.flatMap_map]
  rw [resAll_rn (idxOf_nodup hnd) tks ((l :: ls).map Ln.t) names 0 [] [] (i2.trans hn) hts hokt (by simpa using hnd) (by rw [hfm]; simpa using i3)]
  simp only
  have hsys : okSys names (((l :: ls).map Ln.t).map flat) = true := by
    unfold okSys
    have h1 : 1 ≤ names.length := by rw [← hts]; simp
    rw [decide_eq_true h1, decide_eq_true h6, decide_eq_true (by simpa using hts), okNames_of names [] hv (by simpa using hnd)]
    simp only [Bool.true_and, List.all_eq_true]
    intro e he
    obtain ⟨t, ht, rfl⟩ := List.mem_map.1 he
    obtain ⟨m, hm, rfl⟩ := List.mem_map.1 ht
    exact okEx_flat (hok m hm).tree (h200 m hm)
  rw [hsys]
  simp
end Go.Proofs.YthcidkidpiaomaaGreatDoor.Od
end
section
set_option linter.unusedVariables false
namespace Go.Proofs.YthcidkidpiaomaaGreatDoor.Od
theorem resolve_size (L : List UInt8) (N : List (Nat × Nat)) (vars : List (List UInt8)) : ∀ e, (resolve L N vars e).1.length = e.length
  | [] => rfl
  | x :: r => by
    have ih := resolve_size L N vars r
    rw [resolve_cons]
    split
    · split
      · simp
      · simp [ih]
    · simp [ih]
theorem resolve_bad (L : List UInt8) (N : List (Nat × Nat)) (vars : List (List UInt8)) : ∀ e o, (resolve L N vars e).2 = some o → ∃ x ∈ e, x.op = 2 ∧ o = (N.getD x.n.toNat (0, 0)).1
  | [], o, h => by cases h
  | x :: r, o, h => by
    have ih := resolve_bad L N vars r o
    rw [resolve_cons] at h
    split at h
    · rename_i hx
      split at h
      · refine ⟨x, List.mem_cons_self .., hx, ?_⟩
        exact (Option.some.inj h).symm
      · obtain ⟨y, hy, h1⟩ := ih h
        exact ⟨y, List.mem_cons_of_mem _ hy, h1⟩
    · obtain ⟨y, hy, h1⟩ := ih h
      exact ⟨y, List.mem_cons_of_mem _ hy, h1⟩
theorem resAll_nil (L : List UInt8) (pn : List (Nat × Nat)) (vars : List (List UInt8)) (es : List Tr) (seen : List (List UInt8)) : Od.resAll L pn vars [] es seen = .ok [] := by
  unfold Od.resAll; rfl
theorem resAll_nil' (L : List UInt8) (pn : List (Nat × Nat)) (vars : List (List UInt8)) (t : Tok) (ts : List Tok) (seen : List (List UInt8)) : Od.resAll L pn vars (t :: ts) [] seen = .ok [] := by
  unfold Od.resAll; rfl
theorem resAll_cons' (L : List UInt8) (pn : List (Nat × Nat)) (vars : List (List UInt8)) (t : Tok) (ts : List Tok) (e : Tr) (es : List Tr) (seen : List (List UInt8)) : Od.resAll L pn vars (t :: ts) (e :: es) seen =
    if seen.contains (sub L t.lo t.hi) then .err t.lo 72
    else match resolve L pn vars (flat e) with
      | (_, some o) => .err o 72
      | (e', none) => match Od.resAll L pn vars ts es (seen ++ [sub L t.lo t.hi]) with
        | .ok r => .ok (e' :: r)
        | .err o c => .err o c := by
  conv => lhs; unfold Od.resAll
  rfl
theorem resAll_bad {L : List UInt8} {pn : List (Nat × Nat)} {vars : List (List UInt8)} (hlow : ∀ r ∈ pn, r.1 < L.length) : ∀ (ts : List Tok) (es : List Tr) (seen : List (List UInt8)) (o : Nat) (c : Int),
    (∀ t ∈ ts, Nam L t) → (∀ t ∈ es, Vrs t pn.length) → Od.resAll L pn vars ts es seen = .err o c → c = 72 ∧ o < L.length
  | [], es, seen, o, c, _, _, h => by rw [resAll_nil] at h; cases h
  | t :: ts, [], seen, o, c, _, _, h => by rw [resAll_nil'] at h; cases h
  | t :: ts, e :: es, seen, o, c, ht, he, h => by
    rw [resAll_cons'] at h
    have hn := ht t (List.mem_cons_self ..)
    have ih := resAll_bad (vars := vars) hlow ts es (seen ++ [sub L t.lo t.hi])
    split at h
    · injection h with h1 h2
      exact ⟨h2.symm, by have := hn.2.1; have := hn.2.2; omega⟩
    · cases hr : resolve L pn vars (flat e) with
      | mk e' oo =>
        rw [hr] at h
        cases oo with
        | some o' =>
          simp only at h
          injection h with h1 h2
          obtain ⟨x, hx, hx2, ho⟩ := resolve_bad L pn vars (flat e) o' (by rw [hr])
          have hv := he e (List.mem_cons_self ..) x hx hx2
          refine ⟨h2.symm, ?_⟩
          rw [← h1, ho, List.getD_eq_getElem?_getD, List.getElem?_eq_getElem hv.2]
          exact hlow _ (List.getElem_mem _)
        | none =>
          simp only at h
          cases hq : Od.resAll L pn vars ts es (seen ++ [sub L t.lo t.hi]) with
          | ok r => rw [hq] at h; cases h
          | err o2 c2 =>
            rw [hq] at h
            simp only at h
            injection h with h1 h2
            have := ih o2 c2 (fun u hu => ht u (List.mem_cons_of_mem _ hu)) (fun u hu => he u (List.mem_cons_of_mem _ hu)) hq
            omega
theorem resAll_nodes {L : List UInt8} {pn : List (Nat × Nat)} {vars : List (List UInt8)} : ∀ (ts : List Tok) (es : List Tr) (seen : List (List UInt8)) (fs : List (List Nd)), Od.resAll L pn vars ts es seen = .ok fs → (fs.map List.length).sum ≤ (es.map fun t => (flat t).length).sum
  | [], es, seen, fs, h => by rw [resAll_nil] at h; cases h; simp
  | t :: ts, [], seen, fs, h => by rw [resAll_nil'] at h; cases h; simp
  | t :: ts, e :: es, seen, fs, h => by
    rw [resAll_cons'] at h
    split at h
    · cases h
    · cases hr : resolve L pn vars (flat e) with
      | mk e' oo =>
        rw [hr] at h
        cases oo with
        | some o' => cases h
        | none =>
          simp only at h
          cases hq : Od.resAll L pn vars ts es (seen ++ [sub L t.lo t.hi]) with
          | err o c => rw [hq] at h; cases h
          | ok r =>
            rw [hq] at h
            simp only at h
            injection h with h1
            have ih := resAll_nodes ts es _ r hq
            have hl := resolve_size L pn vars (flat e)
            rw [hr] at hl
            rw [← h1]
            simp only [List.map_cons, List.sum_cons]
            simp only at hl
            omega
theorem parseSys_bad {L : List UInt8} (h8 : L.length ≤ 8000) {o : Nat} {c : Int} (h : parseSys L = .err o c) : ErrAt L c o ∨ (c = 72 ∧ o < L.length) ∨ (c = 2 ∧ o = 0) := by
  unfold parseSys at h
  rw [if_neg (by omega)] at h
  have hall := allLines_ok (L := L)
  cases ha : allLines L ⟨0, [], false⟩ with
  | err c' o' =>
    rw [ha] at h
    simp only at h
    injection h with h1 h2
    rw [← h1, ← h2]
    exact Or.inl (hall.2 c' o' ha)
  | ok r s =>
    rw [ha] at h
    simp only at h
    have hl := (hall.1 r s ha).1
    cases hr : Od.resAll L s.names (r.1.map fun t => sub L t.lo t.hi) r.1 r.2 [] with
    | err o2 c2 =>
      rw [hr] at h
      simp only at h
      injection h with h1 h2
      have := resAll_bad hl.low r.1 r.2 [] o2 c2 hl.names hl.vars hr
      rw [← h1, ← h2]
      exact Or.inr (Or.inl this)
    | ok fs =>
      rw [hr] at h
      simp only at h
      split at h
      · cases h
      · injection h with h1 h2
        exact Or.inr (Or.inr ⟨h2.symm, h1.symm⟩)
theorem parseSys_good {L : List UInt8} {names : List (List UInt8)} {fs : List (List Nd)} (h : parseSys L = .ok (names, fs)) : okSys names fs = true ∧ (fs.map List.length).sum ≤ L.length := by
  unfold parseSys at h
  split at h
  · cases h
  · have hall := allLines_ok (L := L)
    cases ha : allLines L ⟨0, [], false⟩ with
    | err c' o' => rw [ha] at h; cases h
    | ok r s =>
      rw [ha] at h
      simp only at h
      have hl := (hall.1 r s ha).1
      cases hr : Od.resAll L s.names (r.1.map fun t => sub L t.lo t.hi) r.1 r.2 [] with
      | err o2 c2 => rw [hr] at h; cases h
      | ok fs' =>
        rw [hr] at h
        simp only at h
        split at h
        · rename_i hb
          injection h with h1
          injection h1 with h2 h3
          subst h2; subst h3
          rw [Bool.and_eq_true] at hb
          refine ⟨hb.2, ?_⟩
          have := resAll_nodes r.1 r.2 [] fs' hr
          have := hl.nodes
          have := hl.pos
          omega
        · cases h
def lnOf (x : List UInt8) (t : Tr) : Ln := ⟨x, t, [], [], [32], [32], [], 0⟩
def lnsOf : List (List UInt8) → List Tr → List Ln
  | x :: xs, t :: ts => lnOf x t :: lnsOf xs ts
  | _, _ => []
theorem fmtS_cons (x : List UInt8) (xs : List (List UInt8)) (vars : List (List UInt8)) (t : Tr) (ts : List Tr) : fmtS (x :: xs) vars (t :: ts) = x ++ [39, 32, 61, 32] ++ fmtT vars t ++ [10] ++ fmtS xs vars ts := rfl
theorem fmtS_lns (vars : List (List UInt8)) : ∀ (xs : List (List UInt8)) (ts : List Tr), fmtS xs vars ts = (lnsOf xs ts).flatMap (Ln.text vars)
  | [], [] => rfl
  | [], t :: ts => rfl
  | x :: xs, [] => rfl
  | x :: xs, t :: ts => by
    rw [fmtS_cons, fmtS_lns vars xs ts]
    simp [lnsOf, lnOf, Ln.text, Ln.body]
theorem lns_x : ∀ (xs : List (List UInt8)) (ts : List Tr), xs.length = ts.length → (lnsOf xs ts).map Ln.x = xs ∧ (lnsOf xs ts).map Ln.t = ts
  | [], [], _ => ⟨rfl, rfl⟩
  | [], t :: ts, h => by cases h
  | x :: xs, [], h => by cases h
  | x :: xs, t :: ts, h => by
    have ih := lns_x xs ts (by simpa using h)
    simp [lnsOf, lnOf, ih.1, ih.2]
theorem lns_ok {vars : List (List UInt8)} : ∀ (xs : List (List UInt8)) (ts : List Tr), (∀ x ∈ xs, okName x = true) → (∀ t ∈ ts, okT vars t) → ∀ l ∈ lnsOf xs ts, l.ok vars
  | [], ts, _, _, l, hl => by cases ts <;> cases hl
  | x :: xs, [], _, _, l, hl => by cases hl
  | x :: xs, t :: ts, hx, ht, l, hl => by
    rcases List.mem_cons.1 hl with rfl | hl
    · exact ⟨hx x (List.mem_cons_self ..), ht t (List.mem_cons_self ..), by
        intro c hc
        simp only [lnOf, List.nil_append, List.append_nil, List.mem_append, List.mem_singleton, or_self] at hc
        subst hc; decide⟩
    · exact lns_ok xs ts (fun y hy => hx y (List.mem_cons_of_mem _ hy)) (fun y hy => ht y (List.mem_cons_of_mem _ hy)) l hl
theorem fmtS_len {vars : List (List UInt8)} (hv : ∀ x ∈ vars, okName x = true) : ∀ (xs : List (List UInt8)) (ts : List Tr), (∀ x ∈ xs, okName x = true) → (∀ t ∈ ts, okT vars t) → (fmtS xs vars ts).length ≤ 28 * (ts.map fun t => (flat t).length).sum + 39 * ts.length
  | xs, [], _, _ => by simp [fmtS]
  | [], t :: ts, _, _ => by simp [fmtS]
  | x :: xs, t :: ts, hx, ht => by
    have ih := fmtS_len hv xs ts (fun y hy => hx y (List.mem_cons_of_mem _ hy)) (fun y hy => ht y (List.mem_cons_of_mem _ hy))
    have h1 := fmtT_len hv t (ht t (List.mem_cons_self ..))
    have h2 : x.length ≤ 12 := by
      have := hx x (List.mem_cons_self ..)
      unfold okName at this
      simp only [Bool.and_eq_true, decide_eq_true_eq] at this
      omega
    rw [fmtS_cons]
    simp only [List.length_append, List.map_cons, List.sum_cons, List.length_cons, List.length_nil]
    omega
theorem parseSys_fmt {names : List (List UInt8)} {ts : List Tr} (hv : ∀ x ∈ names, okName x = true) (hnd : names.Nodup) (h1 : 1 ≤ names.length) (h6 : names.length ≤ 6) (hl : names.length = ts.length) (ht : ∀ t ∈ ts, okT names t) (h200 : ∀ t ∈ ts, (flat t).length ≤ 200)
    (h8 : (fmtS names names ts).length ≤ 8000) : parseSys (fmtS names names ts) = .ok (names, ts.map flat) := by
  obtain ⟨hx, htt⟩ := lns_x names ts hl
  have hok := lns_ok names ts hv ht
  have hfm := fmtS_lns names names ts
  cases hls : lnsOf names ts with
  | nil =>
    rw [hls] at hx
    rw [← hx] at h1
    simp at h1
  | cons l ls =>
    rw [hls] at hx htt hok hfm
    have hw1 : l.w1 = [] := by
      cases names with
      | nil => cases hls
      | cons y ys =>
        cases ts with
        | nil => cases hls
        | cons u us =>
          unfold lnsOf at hls
          injection hls with e1 e2
          rw [← e1]; rfl
    have := parseSys_reads (names := names) l ls (fmtS names names ts) 0 (by rw [hfm, hw1, List.flatMap_cons, Ln.text, hw1]; rfl) (fun _ => hw1) hx hok hnd h6 h8 (fun m hm => h200 m.t (by rw [← htt]; exact List.mem_map_of_mem hm))
    rw [this, ← htt, List.map_map]
    rfl
theorem okSys_trees {names : List (List UInt8)} {fs : List (List Nd)} (h : okSys names fs = true) : ∃ ts : List Tr, ts.map flat = fs ∧ (∀ t ∈ ts, okT names t) ∧ (∀ t ∈ ts, (flat t).length ≤ 200) ∧ names.length = ts.length ∧ 1 ≤ names.length ∧ names.length ≤ 6 ∧ (∀ x ∈ names, okName x = true) ∧ names.Nodup := by
  unfold okSys at h
  simp only [Bool.and_eq_true, decide_eq_true_eq, List.all_eq_true] at h
  obtain ⟨⟨⟨⟨h1, h2⟩, h3⟩, h4⟩, h5⟩ := h
  have hn := okNames_all names [] (by simp) h4
  have key : ∀ fs : List (List Nd), (∀ e ∈ fs, okEx names.length e = true) → ∃ ts : List Tr, ts.map flat = fs ∧ (∀ t ∈ ts, okT names t) ∧ (∀ t ∈ ts, (flat t).length ≤ 200) := by
    intro fs
    induction fs with
    | nil => exact fun _ => ⟨[], rfl, by simp, by simp⟩
    | cons e r ih =>
      intro hall
      obtain ⟨ts, i1, i2, i3⟩ := ih fun x hx => hall x (List.mem_cons_of_mem _ hx)
      have he := hall e (List.mem_cons_self ..)
      obtain ⟨t, t1, t2⟩ := okEx_tree he
      refine ⟨t :: ts, by simp [t1, i1], fun y hy => ?_, fun y hy => ?_⟩
      · rcases List.mem_cons.1 hy with rfl | hy
        · exact t2
        · exact i2 y hy
      · rcases List.mem_cons.1 hy with rfl | hy
        · rw [t1]
          unfold okEx at he
          simp only [Bool.and_eq_true, decide_eq_true_eq] at he
          exact he.1.1.2
        · exact i3 y hy
  obtain ⟨ts, i1, i2, i3⟩ := key fs h5
  exact ⟨ts, i1, i2, i3, by rw [← h3, ← i1]; simp, h1, h2, hn.1, by simpa using hn.2⟩
theorem parseSys_again {L : List UInt8} {names : List (List UInt8)} {fs : List (List Nd)} (hL : L.length ≤ 250) (h : parseSys L = .ok (names, fs)) : ∃ ts, ts.map flat = fs ∧ (∀ t ∈ ts, okT names t) ∧ names.length = ts.length ∧ (∀ x ∈ names, okName x = true) ∧ (∀ t ∈ ts, (flat t).length ≤ 200) ∧
    (fmtS names names ts).length ≤ 8000 ∧ parseSys (fmtS names names ts) = .ok (names, fs) := by
  obtain ⟨g1, g2⟩ := parseSys_good h
  obtain ⟨ts, e1, e2, e3, e4, e5, e6, e7, e8⟩ := okSys_trees g1
  have hlen := fmtS_len e7 names ts e7 e2
  have hsum : (ts.map fun t => (flat t).length).sum = (fs.map List.length).sum := by rw [← e1, List.map_map]; rfl
  have h8 : (fmtS names names ts).length ≤ 8000 := by rw [hsum] at hlen; omega
  exact ⟨ts, e1, e2, e4, e7, e3, h8, by rw [parseSys_fmt e7 e8 e5 e6 e4 e2 e3 h8, e1]⟩
end Go.Proofs.YthcidkidpiaomaaGreatDoor.Od
end
