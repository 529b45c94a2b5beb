/- OeP OeR OeM OgA -/
import Derived.Test.YthcidkidpiaomaaGreatDoorKf11
import Derived.Test.YthcidkidpiaomaaGreatDoorKf16
import Derived.Test.YthcidkidpiaomaaGreatDoorKf22
import Derived.Test.YthcidkidpiaomaaGreatDoorKf20
section
set_option linter.unusedVariables false
namespace Go.Proofs.YthcidkidpiaomaaGreatDoor.Od
structure Ln where
  x : List UInt8
  t : Tr
  w1 : List UInt8
  w2 : List UInt8
  w3 : List UInt8
  w4 : List UInt8
  w5 : List UInt8
  k : Nat
def Ln.body (vars : List (List UInt8)) (l : Ln) : List UInt8 := l.x ++ (l.w2 ++ 39 :: (l.w3 ++ 61 :: (l.w4 ++ (fmtT vars l.t ++ (l.w5 ++ List.replicate (l.k + 1) 10)))))
def Ln.text (vars : List (List UInt8)) (l : Ln) : List UInt8 := l.w1 ++ l.body vars
structure Ln.ok (vars : List (List UInt8)) (l : Ln) : Prop where
  name : okName l.x = true
  tree : okT vars l.t
  ws : ∀ c, c ∈ l.w1 ++ l.w2 ++ l.w3 ++ l.w4 ++ l.w5 → isWs c = true
def rnL : List Tr → Nat → List Tr
  | [], _ => []
  | t :: r, k => rn t k :: rnL r (k + (vs t).length)
section
variable {L : List UInt8} {vars : List (List UInt8)} {p q : Nat} {R : List UInt8}
theorem okName_split {x : List UInt8} (h : okName x = true) : ∃ c r, x = c :: r ∧ isLt c = true ∧ (∀ d ∈ r, isLD d = true) ∧ keyword x = false := by
  unfold okName at h
  simp only [Bool.and_eq_true, decide_eq_true_eq, Bool.not_eq_true', List.all_eq_true] at h
  obtain ⟨⟨⟨⟨h1, -⟩, h2⟩, h3⟩, h4⟩ := h
  cases x with
  | nil => simp at h1
  | cons c r => exact ⟨c, r, rfl, by simpa using h2, fun d hd => h4 d (List.mem_cons_of_mem _ hd), h3⟩
theorem ws_stop {w : List UInt8} {c : UInt8} {T : List UInt8} (hw : ∀ d ∈ w, isWs d = true) (hc : isCh c = true ∨ c = 10) : Stop (w ++ c :: T) := by
  cases w with
  | nil => exact stop_ch (by rcases hc with h | h; · exact Or.inl h
                             · exact Or.inr (Or.inr (Or.inl h)))
  | cons d r =>
    have := hw d (List.mem_cons_self ..)
    unfold isWs at this
    simp only [Bool.or_eq_true, beq_iff_eq] at this
    rcases this with (rfl | rfl) | rfl
    · exact stop_ch (Or.inr (Or.inl rfl))
    · exact stop_ch (Or.inr (Or.inr (Or.inr (Or.inl rfl))))
    · exact stop_ch (Or.inr (Or.inr (Or.inr (Or.inr rfl))))
theorem skipNl_reads : ∀ (n fuel : Nat) (b : Bool) (p : Nat) (w T : List UInt8) (σ : PS), n < fuel → At L p (List.replicate n 10 ++ (w ++ T)) → (∀ c ∈ w, isWs c = true) → (∀ c, T.head? = some c → isWs c = false ∧ c ≠ 10) → (n = 0 → w = []) → skp isWs L σ.pos = p →
    Od.skipNl L fuel b σ = .ok (b || decide (0 < n)) { σ with pos := p + n + w.length }
  | 0, fuel + 1, b, p, w, T, σ, hf, ha, hw, hT, h0, hp => by
    obtain rfl := h0 rfl
    have hn : NotCh true L p 10 := by
      cases T with
      | nil => exact NotCh.fin ha
      | cons c T => exact NotCh.at ha (hT c rfl).2
    conv => lhs; unfold Od.skipNl
    rw [bind_ok (hn σ hp), if_neg (by decide)]
    simp [Pr.ret]
  | n + 1, fuel + 1, b, p, w, T, σ, hf, ha, hw, hT, h0, hp => by
    have hk : IsCh true L p 10 := IsCh.ofNl ha
    have ha2 : At L (p + 1) (List.replicate n 10 ++ (w ++ T)) := At.next1 ha
    conv => lhs; unfold Od.skipNl
    rw [bind_ok (hk σ hp), if_pos rfl]
    cases n with
    | zero =>
      have ha3 : At L (p + 1) (w ++ T) := ha2
      have hs : skp isWs L (p + 1) = p + 1 + w.length := skp_text isWs ha3 hw (fun c hc => (hT c hc).1)
      have := skipNl_reads 0 fuel true (p + 1 + w.length) [] T { σ with pos := p + 1 } (by omega) ha3.next (by simp) hT (fun _ => rfl) hs
      rw [this]
      simp
    | succ n =>
      have hs : skp isWs L (p + 1) = p + 1 := ws_at (c := 10) (R := List.replicate n 10 ++ (w ++ T)) (by simpa [List.replicate_succ] using ha2) (by decide)
      have := skipNl_reads (n + 1) fuel true (p + 1) w T { σ with pos := p + 1 } (by omega) ha2 hw hT (fun h => by cases h) hs
      rw [this]
      simp
      omega
theorem word_peek {c : UInt8} {x : List UInt8} (h : At L p (c :: x ++ R)) (h0 : isLt c = true) (hx : ∀ d ∈ x, isLD d = true) (hR : Stop R) {s : Nat} (hp : skp isWs L s = p) : peekT true L s = ⟨1, p, p + (c :: x).length⟩ := (word_tok (nl := true) h h0 hx hR hp).1
theorem lineStart_reads {x w2 w3 T : List UInt8} (hx : okName x = true) (h2 : ∀ c ∈ w2, isWs c = true) (h3 : ∀ c ∈ w3, isWs c = true) (h : At L p (x ++ (w2 ++ 39 :: (w3 ++ 61 :: T)))) (σ : PS) (hp : skp isWs L σ.pos = p) :
    Od.lineStart L σ = .ok ⟨1, p, p + x.length⟩ { σ with pos := p + x.length + w2.length + 1 + w3.length + 1 } ∧ sub L p (p + x.length) = x := by
  obtain ⟨c, r, rfl, hc, hr, hkw⟩ := okName_split hx
  have a1 := h.next
  have a2 : At L (p + (c :: r).length + w2.length) (39 :: (w3 ++ 61 :: T)) := a1.next
  have a3 := At.next1 a2
  have a4 : At L (p + (c :: r).length + w2.length + 1 + w3.length) (61 :: T) := a3.next
  have hsub : sub L p (p + (c :: r).length) = c :: r := sub_at h
  have hpk := word_peek h hc hr (ws_stop h2 (Or.inl (by decide))) hp
  have s1 : skp isWs L (p + (c :: r).length) = p + (c :: r).length + w2.length := ws_text a1 h2 (by decide)
  have s2 : skp isWs L (p + (c :: r).length + w2.length + 1) = p + (c :: r).length + w2.length + 1 + w3.length := ws_text a3 h3 (by decide)
  refine ⟨?_, hsub⟩
  unfold Od.lineStart
  rw [hpk]
  simp only
  rw [if_neg (by rw [hsub, hkw]; simp), bind_ok (expect_ch (IsCh.of a2 (by decide)) _ s1), bind_ok (expect_ch (IsCh.of a4 (by decide)) _ s2)]
  rfl
theorem sum_reads (hv : ∀ x ∈ vars, okName x = true) {t : Tr} (ht : okT vars t) {w5 T : List UInt8} (h5 : ∀ c ∈ w5, isWs c = true) (h : At L p (fmtT vars t ++ (w5 ++ 10 :: T))) : Reads L vars (Od.sum true L (L.length + 1)) p (p + (fmtT vars t).length + w5.length) t := by
  obtain ⟨c, r, ec, hcw, hc45⟩ := fmt_first hv t ht
  have a1 := h.next
  have a2 : At L (p + (fmtT vars t).length + w5.length) (10 :: T) := a1.next
  have hdl := dep_le hv t ht
  have hlen := h.len
  simp only [List.length_append, List.length_cons] at hlen
  have hw : skp isWs L (p + (fmtT vars t).length) = p + (fmtT vars t).length + w5.length := ws_text a1 h5 (by decide)
  have hww : skp isWs L (p + (fmtT vars t).length + w5.length) = p + (fmtT vars t).length + w5.length := ws_at a2 (by decide)
  have hat := atom_reads (nl := true) hv t ht L.length p _ (by omega) h (ws_stop h5 (Or.inr rfl))
  have hf : ∀ k, Reads L vars (Od.factor true L (Od.sum true L L.length) (k + 1)) p (p + (fmtT vars t).length) t := fun k => Reads.factor (NotCh.at (R := r ++ (w5 ++ 10 :: T)) (by rw [ec] at h; exact h) hc45) hat
  have h1 : Reads L vars (Od.product true L (Od.sum true L L.length) (L.length + 1)) p (p + (fmtT vars t).length + w5.length) t := Reads.chain (hf _) (by rw [hw]; exact ReadsC.stop (NotCh.at a2 (by decide)) (NotCh.at a2 (by decide)))
  exact Reads.chain h1 (by rw [hww]; exact ReadsC.stop (NotCh.at a2 (by decide)) (NotCh.at a2 (by decide)))
def bodyL (vars : List (List UInt8)) (l : Ln) (ls : List Ln) : List UInt8 := l.body vars ++ ls.flatMap (Ln.text vars)
theorem body_head {l : Ln} (h : l.ok vars) : ∃ c r, l.body vars = c :: r ∧ isWs c = false ∧ c ≠ 10 := by
  obtain ⟨c, r, e, hc, -, -⟩ := okName_split h.name
  refine ⟨c, r ++ (l.w2 ++ 39 :: (l.w3 ++ 61 :: (l.w4 ++ (fmtT vars l.t ++ (l.w5 ++ List.replicate (l.k + 1) 10))))), by unfold Ln.body; rw [e]; rfl, (lt_kind hc).2.1, ?_⟩
  rintro rfl; revert hc; decide
theorem line_step (hv : ∀ x ∈ vars, okName x = true) {l : Ln} (hl : l.ok vars) {S : List UInt8} (ha : At L p (l.body vars ++ S)) (σ : PS) (hp : skp isWs L σ.pos = p) :
    ∃ σ1 q3 nm, Od.lineStart L σ = .ok ⟨1, p, p + l.x.length⟩ σ1 ∧ sub L p (p + l.x.length) = l.x ∧ Od.sum true L (L.length + 1) σ1 = .ok (rn l.t σ.names.length) ⟨q3, σ.names ++ nm, σ.bad⟩ ∧
      nm.map (wrd L) = (vs l.t).map (fun n => vars.getD n []) ∧ At L q3 (List.replicate (l.k + 1) 10 ++ S) ∧ p + 1 ≤ q3 := by
  have hw := hl.ws
  have h2 : ∀ c ∈ l.w2, isWs c = true := fun c hc => hw c (by simp [hc])
  have h3 : ∀ c ∈ l.w3, isWs c = true := fun c hc => hw c (by simp [hc])
  have h4 : ∀ c ∈ l.w4, isWs c = true := fun c hc => hw c (by simp [hc])
  have h5 : ∀ c ∈ l.w5, isWs c = true := fun c hc => hw c (by simp [hc])
  have ha' : At L p (l.x ++ (l.w2 ++ 39 :: (l.w3 ++ 61 :: (l.w4 ++ (fmtT vars l.t ++ (l.w5 ++ 10 :: (List.replicate l.k 10 ++ S))))))) := by
    have := ha
    unfold Ln.body at this
    simpa [List.replicate_succ] using this
  obtain ⟨e1, e2⟩ := lineStart_reads hl.name h2 h3 ha' σ hp
  have at1 : At L (p + l.x.length + l.w2.length + 1 + l.w3.length + 1) (l.w4 ++ (fmtT vars l.t ++ (l.w5 ++ 10 :: (List.replicate l.k 10 ++ S)))) := by
    have b1 := At.next ha'
    have b2 := At.next b1
    have b3 := At.next1 b2
    have b4 := At.next b3
    exact At.next1 b4
  have at2 := at1.next
  obtain ⟨c, r, ec, hcw, -⟩ := fmt_first hv l.t hl.tree
  have hs : skp isWs L (p + l.x.length + l.w2.length + 1 + l.w3.length + 1) = p + l.x.length + l.w2.length + 1 + l.w3.length + 1 + l.w4.length := by
    rw [ec] at at1
    exact ws_text at1 h4 hcw
  obtain ⟨nm, g1, g2⟩ := sum_reads hv hl.tree h5 at2 { σ with pos := p + l.x.length + l.w2.length + 1 + l.w3.length + 1 } hs
  have at3 := at2.next
  have at4 := at3.next
  refine ⟨_, _, nm, e1, e2, g1, g2, by simpa [List.replicate_succ] using at4, by omega⟩
theorem rnL_cons (t : Tr) (r : List Tr) (k : Nat) : rnL (t :: r) k = rn t k :: rnL r (k + (vs t).length) := rfl
theorem lines_reads (hv : ∀ x ∈ vars, okName x = true) : ∀ (ls : List Ln) (l : Ln), l.ok vars → (∀ m ∈ ls, m.ok vars) → ∀ (fuel p : Nat) (ns : List Tok) (es : List Tr) (σ : PS), L.length < fuel + p → At L p (bodyL vars l ls) → skp isWs L σ.pos = p →
    ∃ tks nm, Od.lines L fuel ns es σ = .ok (ns ++ tks, es ++ rnL ((l :: ls).map Ln.t) σ.names.length) ⟨L.length, σ.names ++ nm, σ.bad⟩ ∧ tks.map (fun t => sub L t.lo t.hi) = (l :: ls).map Ln.x ∧ nm.map (wrd L) = ((l :: ls).flatMap fun l => vs l.t).map (fun n => vars.getD n []) := by
  intro ls
  induction ls with
  | nil =>
    intro l hl _ fuel p ns es σ hf ha hp
    obtain ⟨fuel, rfl⟩ : ∃ f, fuel = f + 1 := ⟨fuel - 1, by have := ha.2; omega⟩
    have ha : At L p (l.body vars ++ []) := ha
    obtain ⟨σ1, q3, nm, e1, e2, e3, e4, e5, e6⟩ := line_step hv hl ha σ hp
    have e5 : At L q3 (List.replicate (l.k + 1) 10 ++ ([] ++ [])) := e5
    have hs : skp isWs L q3 = q3 := ws_at (c := 10) (R := List.replicate l.k 10 ++ ([] ++ [])) (by simpa [List.replicate_succ] using e5) (by decide)
    have hlen := e5.len
    simp only [List.append_nil, List.length_replicate] at hlen
    have e7 := skipNl_reads (l.k + 1) (L.length + 1) false q3 [] [] ⟨q3, σ.names ++ nm, σ.bad⟩ (by omega) e5 (by simp) (by simp) (fun h => by cases h) hs
    have hq : q3 + (l.k + 1) + ([] : List UInt8).length = L.length := by simp; omega
    rw [hq] at e7
    have hpk : peekT true L L.length = ⟨0, L.length, L.length⟩ := by
      unfold peekT
      rw [skp_end isWs L _ (Nat.le_refl _)]
      exact tok_end ⟨by simp, Nat.le_refl _⟩
    refine ⟨[⟨1, p, p + l.x.length⟩], nm, ?_, by simp [e2], by simpa using e4⟩
    conv => lhs; unfold Od.lines
    rw [bind_ok e1, bind_ok e3]
    refine (bind_ok e7).trans ?_
    refine (if_pos (by rw [hpk])).trans ?_
    rw [hpk]
    rfl
  | cons m ls ih =>
    intro l hl hls fuel p ns es σ hf ha hp
    obtain ⟨fuel, rfl⟩ : ∃ f, fuel = f + 1 := ⟨fuel - 1, by have := ha.2; omega⟩
    have ha : At L p (l.body vars ++ (m.w1 ++ bodyL vars m ls)) := by
      have := ha
      unfold bodyL at this ⊢
      rw [List.flatMap_cons, show Ln.text vars m = m.w1 ++ m.body vars from rfl, List.append_assoc] at this
      exact this
    obtain ⟨σ1, q3, nm, e1, e2, e3, e4, e5, e6⟩ := line_step hv hl ha σ hp
    have hs : skp isWs L q3 = q3 := ws_at (c := 10) (R := List.replicate l.k 10 ++ (m.w1 ++ bodyL vars m ls)) (by simpa [List.replicate_succ] using e5) (by decide)
    have hm := hls m (List.mem_cons_self ..)
    obtain ⟨c, r, eb, hcw, hc10⟩ := body_head hm
    have hhd : ∀ c', (bodyL vars m ls).head? = some c' → isWs c' = false ∧ c' ≠ 10 := by
      intro c' hc'
      unfold bodyL at hc'
      rw [eb] at hc'
      obtain rfl := Option.some.inj hc'
      exact ⟨hcw, hc10⟩
    have hlen := e5.len
    simp only [List.length_append, List.length_replicate] at hlen
    have e7 := skipNl_reads (l.k + 1) (L.length + 1) false q3 m.w1 (bodyL vars m ls) ⟨q3, σ.names ++ nm, σ.bad⟩ (by omega) e5 (fun c hc => hm.ws c (by simp [hc])) hhd (fun h => by cases h) hs
    have at4 : At L (q3 + (l.k + 1) + m.w1.length) (bodyL vars m ls) := by
      have b1 := e5.next
      rw [List.length_replicate] at b1
      exact b1.next
    obtain ⟨q4, hq4⟩ : ∃ q4, q3 + (l.k + 1) + m.w1.length = q4 := ⟨_, rfl⟩
    rw [hq4] at e7 at4
    have hs4 : skp isWs L q4 = q4 := by
      unfold bodyL at at4
      rw [eb] at at4
      exact ws_at (R := r ++ ls.flatMap (Ln.text vars)) at4 hcw
    have hpl : (peekT true L q4).lo = q4 := by rw [peekT_lo, hs4]
    have hpk : (peekT true L q4).kind ≠ 0 := by
      intro h0
      have hfin := (peekT_ok true L q4 at4.2).fin.1 h0
      rw [hpl] at hfin
      have hl4 := at4.len
      unfold bodyL at hl4
      rw [eb] at hl4
      simp at hl4
      omega
    obtain ⟨tks, nm2, i1, i2, i3⟩ := ih m hm (fun x hx => hls x (List.mem_cons_of_mem _ hx)) fuel q4 (ns ++ [⟨1, p, p + l.x.length⟩]) (es ++ [rn l.t σ.names.length]) ⟨q4, σ.names ++ nm, σ.bad⟩ (by omega) at4 hs4
    refine ⟨⟨1, p, p + l.x.length⟩ :: tks, nm ++ nm2, ?_, by rw [List.map_cons, List.map_cons, i2, e2], by rw [List.map_append, e4, i3, ← List.map_append]; rfl⟩
    conv => lhs; unfold Od.lines
    rw [bind_ok e1, bind_ok e3]
    refine (bind_ok e7).trans ?_
    refine (if_neg hpk).trans ?_
    refine (if_pos (by simp)).trans ?_
    rw [hpl, i1]
    simp only [List.append_assoc, List.singleton_append, List.map_cons, rnL_cons, List.length_append, nm_len e4]
end
theorem resAll_rn {L : List UInt8} {N : List (Nat × Nat)} {vars : List (List UInt8)} (hd : ∀ n, n < vars.length → idxOf vars (vars.getD n []) = some n) : ∀ (tks : List Tok) (ts : List Tr) (xs : List (List UInt8)) (k : Nat) (M seen : List (List UInt8)),
    tks.map (fun t => sub L t.lo t.hi) = xs → ts.length = xs.length → (∀ t ∈ ts, okT vars t) → (seen ++ xs).Nodup → (N.drop k).map (wrd L) = (ts.flatMap vs).map (fun n => vars.getD n []) ++ M →
    resAll L N vars tks (rnL ts k) seen = .ok (ts.map flat)
  | [], [], xs, k, M, seen, _, _, _, _, _ => rfl
  | [], t :: ts, xs, k, M, seen, h1, h2, _, _, _ => by subst h1; simp at h2
  | tk :: tks, [], xs, k, M, seen, h1, h2, _, _, _ => by subst h1; simp at h2
  | tk :: tks, t :: ts, xs, k, M, seen, h1, h2, h3, h4, h5 => by
    subst h1
    rw [rnL_cons]
    unfold resAll
    simp only
    have hns : seen.contains (sub L tk.lo tk.hi) = false := by
      rw [List.contains_eq_mem, decide_eq_false_iff_not]
      intro hm
      have := (List.nodup_append.1 h4).2.2 _ hm _ (List.mem_map.2 ⟨tk, List.mem_cons_self .., rfl⟩)
      exact this rfl
    rw [if_neg (by rw [hns]; simp)]
    rw [List.flatMap_cons, List.map_append, List.append_assoc] at h5
    rw [resolve_rn hd t k _ (h3 t (List.mem_cons_self ..)) h5]
    simp only
    have h6 := drop_add_map h5
    rw [List.length_map] at h6
    rw [resAll_rn hd tks ts _ (k + (vs t).length) M (seen ++ [sub L tk.lo tk.hi]) rfl (by simp at h2 ⊢; omega) (fun x hx => h3 x (List.mem_cons_of_mem _ hx)) (by simpa using h4) h6]
    rfl
theorem okNames_of : ∀ (xs seen : List (List UInt8)), (∀ x ∈ xs, okName x = true) → (seen ++ xs).Nodup → okNames xs seen = true
  | [], seen, _, _ => rfl
  | x :: r, seen, h, hn => by
    unfold okNames
    have hns : seen.contains x = false := by
      rw [List.contains_eq_mem, decide_eq_false_iff_not]
      intro hm
      exact (List.nodup_append.1 hn).2.2 _ hm _ (List.mem_cons_self ..) rfl
    rw [h x (List.mem_cons_self ..), hns, okNames_of r (seen ++ [x]) (fun y hy => h y (List.mem_cons_of_mem _ hy)) (by simpa using hn)]
    rfl
theorem parseSys_reads {names : List (List UInt8)} (l : Ln) (ls : List Ln) (L : List UInt8) (n0 : Nat) (hL : L = List.replicate n0 10 ++ (l.w1 ++ bodyL names l ls)) (h0 : n0 = 0 → l.w1 = []) (hn : (l :: ls).map Ln.x = names) (hok : ∀ m ∈ l :: ls, m.ok names) (hnd : names.Nodup) (h6 : names.length ≤ 6) (h8 : L.length ≤ 8000) (h200 : ∀ m ∈ l :: ls, (flat m.t).length ≤ 200) :
    parseSys L = .ok (names, (l :: ls).map fun m => flat m.t) := by
  have hv : ∀ x ∈ names, okName x = true := fun x hx => by
    rw [← hn] at hx
    obtain ⟨m, hm, rfl⟩ := List.mem_map.1 hx
    exact (hok m hm).name
  have hl := hok l (List.mem_cons_self ..)
  have ha : At L 0 (List.replicate n0 10 ++ (l.w1 ++ bodyL names l ls)) := by rw [← hL]; exact At.zero
  obtain ⟨c, r, eb, hcw, hc10⟩ := body_head hl
  have hhd : ∀ c', (bodyL names l ls).head? = some c' → isWs c' = false ∧ c' ≠ 10 := by
    intro c' hc'
    unfold bodyL at hc'
    rw [eb] at hc'
    obtain rfl := Option.some.inj hc'
    exact ⟨hcw, hc10⟩
  have hlen : n0 < L.length + 1 := by rw [hL]; simp; omega
  have hs0 : skp isWs L 0 = 0 := by
    cases n0 with
    | zero =>
      have hw := h0 rfl
      rw [hw] at ha
      unfold bodyL at ha
      rw [eb] at ha
      exact ws_at (c := c) (R := r ++ ls.flatMap (Ln.text names)) (by simpa using ha) hcw
    | succ n => exact ws_at (c := 10) (R := List.replicate n 10 ++ (l.w1 ++ bodyL names l ls)) (by simpa [List.replicate_succ] using ha) (by decide)
  have e1 := skipNl_reads n0 (L.length + 1) false 0 l.w1 (bodyL names l ls) ⟨0, [], false⟩ hlen ha (fun c hc => hl.ws c (by simp [hc])) hhd h0 hs0
  have at1 : At L (0 + n0 + l.w1.length) (bodyL names l ls) := by
    have b1 := ha.next
    rw [List.length_replicate] at b1
    exact b1.next
  have hs1 : skp isWs L (0 + n0 + l.w1.length) = 0 + n0 + l.w1.length := by
    have b := at1
    unfold bodyL at b
    rw [eb] at b
    exact ws_at (R := r ++ ls.flatMap (Ln.text names)) b hcw
  obtain ⟨tks, nm, i1, i2, i3⟩ := lines_reads hv ls l hl (fun m hm => hok m (List.mem_cons_of_mem _ hm)) (L.length + 1) _ [] [] ⟨0 + n0 + l.w1.length, [], false⟩ (by omega) at1 hs1
  have hall : allLines L ⟨0, [], false⟩ = .ok (tks, rnL ((l :: ls).map Ln.t) 0) ⟨L.length, nm, false⟩ := by
    unfold allLines
    rw [bind_ok e1]
    have := i1
    simp only [List.nil_append, List.length_nil] at this
    exact this
  unfold parseSys
  rw [if_neg (by omega), hall]
  simp only
  rw [i2, hn]
  have hts : ((l :: ls).map Ln.t).length = names.length := by rw [← hn]; simp
  have hokt : ∀ t ∈ (l :: ls).map Ln.t, okT names t := fun t ht => by
    obtain ⟨m, hm, rfl⟩ := List.mem_map.1 ht
    exact (hok m hm).tree
  have hfm : ((l :: ls).map Ln.t).flatMap vs = (l :: ls).flatMap fun l => vs l.t := by rw [List.flatMap_map]
  rw [resAll_rn (idxOf_nodup hnd) tks ((l :: ls).map Ln.t) names 0 [] [] (i2.trans hn) hts hokt (by simpa using hnd) (by rw [hfm]; simpa using i3)]
  simp only
  have hsys : okSys names (((l :: ls).map Ln.t).map flat) = true := by
    unfold okSys
    have h1 : 1 ≤ names.length := by rw [← hts]; simp
    rw [decide_eq_true h1, decide_eq_true h6, decide_eq_true (by simpa using hts), okNames_of names [] hv (by simpa using hnd)]
    simp only [Bool.true_and, List.all_eq_true]
    intro e he
    obtain ⟨t, ht, rfl⟩ := List.mem_map.1 he
    obtain ⟨m, hm, rfl⟩ := List.mem_map.1 ht
    exact okEx_flat (hok m hm).tree (h200 m hm)
  rw [hsys]
  simp
end Go.Proofs.YthcidkidpiaomaaGreatDoor.Od
end
section
set_option linter.unusedVariables false
namespace Go.Proofs.YthcidkidpiaomaaGreatDoor.Od
def lnOf (x : List UInt8) (t : Tr) : Ln := ⟨x, t, [], [], [32], [32], [], 0⟩
def lnsOf : List (List UInt8) → List Tr → List Ln
  | x :: xs, t :: ts => lnOf x t :: lnsOf xs ts
  | _, _ => []
theorem fmtS_cons (x : List UInt8) (xs : List (List UInt8)) (vars : List (List UInt8)) (t : Tr) (ts : List Tr) : fmtS (x :: xs) vars (t :: ts) = x ++ [39, 32, 61, 32] ++ fmtT vars t ++ [10] ++ fmtS xs vars ts := rfl
theorem fmtS_lns (vars : List (List UInt8)) : ∀ (xs : List (List UInt8)) (ts : List Tr), fmtS xs vars ts = (lnsOf xs ts).flatMap (Ln.text vars)
  | [], [] => rfl
  | [], t :: ts => rfl
  | x :: xs, [] => rfl
  | x :: xs, t :: ts => by
    rw [fmtS_cons, fmtS_lns vars xs ts]
    simp [lnsOf, lnOf, Ln.text, Ln.body]
theorem lns_x : ∀ (xs : List (List UInt8)) (ts : List Tr), xs.length = ts.length → (lnsOf xs ts).map Ln.x = xs ∧ (lnsOf xs ts).map Ln.t = ts
  | [], [], _ => ⟨rfl, rfl⟩
  | [], t :: ts, h => by cases h
  | x :: xs, [], h => by cases h
  | x :: xs, t :: ts, h => by
    have ih := lns_x xs ts (by simpa using h)
    simp [lnsOf, lnOf, ih.1, ih.2]
theorem lns_ok {vars : List (List UInt8)} : ∀ (xs : List (List UInt8)) (ts : List Tr), (∀ x ∈ xs, okName x = true) → (∀ t ∈ ts, okT vars t) → ∀ l ∈ lnsOf xs ts, l.ok vars
  | [], ts, _, _, l, hl => by cases ts <;> cases hl
  | x :: xs, [], _, _, l, hl => by cases hl
  | x :: xs, t :: ts, hx, ht, l, hl => by
    rcases List.mem_cons.1 hl with rfl | hl
    · exact ⟨hx x (List.mem_cons_self ..), ht t (List.mem_cons_self ..), by
        intro c hc
        simp only [lnOf, List.nil_append, List.append_nil, List.mem_append, List.mem_singleton, or_self] at hc
        subst hc; decide⟩
    · exact lns_ok xs ts (fun y hy => hx y (List.mem_cons_of_mem _ hy)) (fun y hy => ht y (List.mem_cons_of_mem _ hy)) l hl
theorem fmtS_len {vars : List (List UInt8)} (hv : ∀ x ∈ vars, okName x = true) : ∀ (xs : List (List UInt8)) (ts : List Tr), (∀ x ∈ xs, okName x = true) → (∀ t ∈ ts, okT vars t) → (fmtS xs vars ts).length ≤ 28 * (ts.map fun t => (flat t).length).sum + 39 * ts.length
  | xs, [], _, _ => by simp [fmtS]
  | [], t :: ts, _, _ => by simp [fmtS]
  | x :: xs, t :: ts, hx, ht => by
    have ih := fmtS_len hv xs ts (fun y hy => hx y (List.mem_cons_of_mem _ hy)) (fun y hy => ht y (List.mem_cons_of_mem _ hy))
    have h1 := fmtT_len hv t (ht t (List.mem_cons_self ..))
    have h2 : x.length ≤ 12 := by
      have := hx x (List.mem_cons_self ..)
      unfold okName at this
      simp only [Bool.and_eq_true, decide_eq_true_eq] at this
      omega
    rw [fmtS_cons]
    simp only [List.length_append, List.map_cons, List.sum_cons, List.length_cons, List.length_nil]
    omega
theorem parseSys_fmt {names : List (List UInt8)} {ts : List Tr} (hv : ∀ x ∈ names, okName x = true) (hnd : names.Nodup) (h1 : 1 ≤ names.length) (h6 : names.length ≤ 6) (hl : names.length = ts.length) (ht : ∀ t ∈ ts, okT names t) (h200 : ∀ t ∈ ts, (flat t).length ≤ 200)
    (h8 : (fmtS names names ts).length ≤ 8000) : parseSys (fmtS names names ts) = .ok (names, ts.map flat) := by
  obtain ⟨hx, htt⟩ := lns_x names ts hl
  have hok := lns_ok names ts hv ht
  have hfm := fmtS_lns names names ts
  cases hls : lnsOf names ts with
  | nil =>
    rw [hls] at hx
    rw [← hx] at h1
    simp at h1
  | cons l ls =>
    rw [hls] at hx htt hok hfm
    have hw1 : l.w1 = [] := by
      cases names with
      | nil => cases hls
      | cons y ys =>
        cases ts with
        | nil => cases hls
        | cons u us =>
          unfold lnsOf at hls
          injection hls with e1 e2
          rw [← e1]; rfl
    have := parseSys_reads (names := names) l ls (fmtS names names ts) 0 (by rw [hfm, hw1, List.flatMap_cons, Ln.text, hw1]; rfl) (fun _ => hw1) hx hok hnd h6 h8 (fun m hm => h200 m.t (by rw [← htt]; exact List.mem_map_of_mem hm))
    rw [this, ← htt, List.map_map]
    rfl
end Go.Proofs.YthcidkidpiaomaaGreatDoor.Od
end
section
set_option linter.unusedVariables false
set_option linter.unusedSimpArgs false
namespace Go.Proofs.YthcidkidpiaomaaGreatDoor.Od
open Go.RowKit Rg
theorem enters_fe : ∀ args w, (callFunc 37 args).run Tryz.prog w = .ok (.enter 37 args) w := fun args w => by kernel_rfl
theorem FE_any {vars : List ByteArray} (hnm : ∀ x ∈ strL vars, okName x = true) (t : Tr) (hok : okT (strL vars) t) (v vn : Value) (w : World) (h : RdN w v (flat t)) (hv : Strs w vn vars) (ht : Fx.Tabs w) (S : ByteArray) (hS : S.data.toList = fmtT (strL vars) t) :
    Calls Tryz.prog 37 #[v, vn] w fun e' w' => e' = .returned (.string S) ∧ Below w.heap.size w w' := by
  refine (FormatExpr_any hnm t hok v vn w h hv ht).mono ?_
  rintro e' w' ⟨⟨s, rfl, hs⟩, hb⟩
  refine ⟨?_, hb⟩
  rw [mk_str hs, mk_str hS]
theorem fmtS_take_succ (vars : List (List UInt8)) : ∀ (xs : List (List UInt8)) (ts : List Tr) (i : Nat) (x : List UInt8) (t : Tr), xs[i]? = some x → ts[i]? = some t → fmtS (xs.take (i + 1)) vars (ts.take (i + 1)) = fmtS (xs.take i) vars (ts.take i) ++ (x ++ [39, 32, 61, 32] ++ fmtT vars t ++ [10])
  | [], ts, i, x, t, hx, _ => by simp at hx
  | y :: xs, [], i, x, t, _, ht => by simp at ht
  | y :: xs, u :: ts, 0, x, t, hx, ht => by
    obtain rfl := Option.some.inj hx
    obtain rfl := Option.some.inj ht
    simp [fmtS]
  | y :: xs, u :: ts, i + 1, x, t, hx, ht => by
    have ih := fmtS_take_succ vars xs ts i x t (by simpa using hx) (by simpa using ht)
    rw [List.take_succ_cons, List.take_succ_cons, List.take_succ_cons, List.take_succ_cons]
    unfold fmtS
    simp only
    rw [ih]
    simp
set_option maxRecDepth 100000 in
set_option maxHeartbeats 8000000 in
theorem Format_any {names : List ByteArray} (ts : List Tr) (hnm : ∀ x ∈ strL names, okName x = true) (hl : names.length = ts.length) (hok : ∀ t ∈ ts, okT (strL names) t) (h6 : names.length ≤ 6) (vn vf : Value) (w : World) (hn : Strs w vn names) (hf : Fs w vf (ts.map flat)) (ht : Fx.Tabs w) :
    Calls Tryz.prog 36 #[.agg #[vn, vf]] w fun e w' => (∃ s, e = .returned (.string s) ∧ s.data.toList = fmtS (strL names) (strL names) ts) ∧ Below w.heap.size w w' := by
  obtain ⟨av, cv, hvn, hna⟩ := hn.at
  obtain ⟨af, cf, hvf, hfa⟩ := hf.at
  rw [List.length_map, ← hl] at hvf
  have HNM := Aside.mk hnm
  have HOK := Aside.mk hok
  have HLN := Aside.mk hl
  have HSN := Aside.mk hn
  have HFL : Aside (∀ t ∈ ts, (flat t).length ≤ 9000) := ⟨fun t htm => by
    obtain ⟨i, hi⟩ := List.mem_iff_getElem?.1 htm
    obtain ⟨b, o, u, -, -, hr⟩ := hfa i (flat t) (by rw [List.getElem?_map, hi]; rfl)
    exact hr.few⟩
  have HNA := Aside.mk hna
  have HFA := Aside.mk hfa
  have HT := Aside.mk ht
  obtain ⟨M, hM⟩ : ∃ M, names.length = M := ⟨_, rfl⟩
  have HM := Aside.mk hM
  rw [hM] at hvn hvf h6 hl
  subst hvn hvf
  have H6 := Aside.mk h6
  clear hnm hok hn hna hfa ht hM hl hf
  have hal : Below w.heap.size w (w.alloc (.cells #[.slice av M cv, .slice af M cf] 25)) := (Below.refl _ _).alloc (Nat.le_refl _) _
  have HR := Aside.mk (heap_alloc_last w (.cells #[.slice av M cv, .slice af M cf] 25))
  have HB := Aside.mk hal
  clear hal
  go_enter Tryz.func36, Tryz.ntmps36
  go_wp2_with fail
  obtain ⟨g, hg⟩ : ∃ g, w.heap.size = g := ⟨_, rfl⟩
  have HG := Aside.mk hg
  obtain ⟨W, hW⟩ : ∃ W, w.alloc (.cells #[.slice av M cv, .slice af M cf] 25) = W := ⟨_, rfl⟩
  have hWs : W.heap.size = g + 1 := by rw [← hW, World.size_alloc, hg]
  rw [hW] at HR HB
  rw [hg] at HR HB
  simp only [hW, hg]
  have hB0 := Fx.IsBuilder_new (T := 125) (e := 5) W
  have hb0 : Below (g + 1) W (W.alloc (.cells #[.pointer none, .slice none 0 0] 125)) := (Below.refl _ _).alloc (by rw [hWs]; exact Nat.le_refl _) _
  rw [hWs] at hB0
  clear hW hg
  have HB0 := Aside.mk hB0
  have HBB := Aside.mk hb0
  have HWS := Aside.mk hWs
  have hs0 : (W.alloc (.cells #[.pointer none, .slice none 0 0] 125)).heap.size = g + 1 + 1 := by rw [World.size_alloc, hWs]
  have c0 : W.cell? ⟨g, 0, none⟩ = some (.slice av M cv) := by rw [cell_of_row _ _ 0 _ _ _ HR.out]; rfl
  have c1 : W.cell? ⟨g, 1, none⟩ = some (.slice af M cf) := by rw [cell_of_row _ _ 1 _ _ _ HR.out]; rfl
  have C01 := Aside.mk (And.intro c0 c1)
  have q0 : (W.alloc (.cells #[.pointer none, .slice none 0 0] 125)).cell? ⟨g, 0, none⟩ = some (.slice av M cv) := (hb0.cell (p := ⟨g, 0, none⟩) (by show g < g + 1; omega)).trans c0
  clear hB0 hb0 hWs c0 c1
  obtain ⟨V, hV⟩ : ∃ V, W.alloc (.cells #[.pointer none, .slice none 0 0] 125) = V := ⟨_, rfl⟩
  rw [hV] at HB0 HBB hs0 q0
  simp only [hV]
  clear hV
  have HS0 := Aside.mk hs0
  clear hs0
  go_wp2_with fail
  try simp only [HWS.out]
  go_loopg [9] M (fun m v9 wr => ∃ i : Nat, v9 = .int .i64 (i : Nat) ∧ Aside (i ≤ M ∧ M - i ≤ m) ∧ Aside (Lib.IsBuilder 125 5 (g + 1) (g + 1) (Lib.byteCells (fmtS ((strL names).take i) (strL names) (ts.take i))) wr) ∧ Aside (Below (g + 1) W wr) ∧ Aside (g + 1 + 1 ≤ wr.heap.size))
  case atStart => exact ⟨0, rfl, ⟨by simp⟩, ⟨by simpa [fmtS, Lib.byteCells] using HB0.out⟩, HBB, ⟨by rw [HS0.out]; exact Nat.le_refl _⟩⟩
  case round =>
    obtain ⟨i, rfl, HI, HBI, HBW, HSZ⟩ := hrel
    have hwr : Below w.heap.size w wr := HG.out ▸ (HB.out.trans (HBW.out.mono (by omega)))
    have HWR := Aside.mk hwr
    have HT2 := Aside.mk (HT.out.below hwr)
    by_cases hi : i < M
    · have hi' : (i : Int) < (M : Int) := by omega
      obtain ⟨x, hx⟩ : ∃ x, names[i]? = some x := ⟨_, List.getElem?_eq_getElem (by rw [HM.out]; exact hi)⟩
      obtain ⟨t, ht⟩ : ∃ t, ts[i]? = some t := ⟨_, List.getElem?_eq_getElem (by rw [← HLN.out, HM.out]; exact hi)⟩
      obtain ⟨bv, ov, rfl, hcx⟩ := HNA.out i x hx
      obtain ⟨bf, of', u, rfl, hcu, hru⟩ := HFA.out i (flat t) (by rw [List.getElem?_map, ht]; rfl)
      have cx : wr.cell? ⟨bv, ov + i, none⟩ = some (.string x) := by rw [hwr.cell (p := ⟨bv, ov + i, none⟩) (World.block_lt_of_cell? w _ hcx)]; exact hcx
      have cu : wr.cell? ⟨bf, of' + i, none⟩ = some u := by rw [hwr.cell (p := ⟨bf, of' + i, none⟩) (World.block_lt_of_cell? w _ hcu)]; exact hcu
      obtain ⟨au, lu, ru, rfl⟩ : ∃ au lu ru, u = .slice au lu ru := by obtain ⟨a, c, h⟩ := hru.slice; exact ⟨a, _, c, h⟩
      have HRU := Aside.mk (hru.below hwr)
      have HSV := Aside.mk (HSN.out.below hwr)
      have okt := HOK.out t (List.mem_of_getElem? ht)
      have HOT := Aside.mk okt
      obtain ⟨S, hS⟩ : ∃ S : ByteArray, S.data.toList = fmtT (strL names) t := ⟨⟨(fmtT (strL names) t).toArray⟩, by simp⟩
      have HS := Aside.mk hS
      have hSs : S.size ≤ 252022 := by
        have h1 := fmtT_len HNM.out t okt
        have h2 := HFL.out t (List.mem_of_getElem? ht)
        have : S.size = (fmtT (strL names) t).length := by rw [← hS]; rfl
        omega
      have hxs : x.size ≤ 12 := by
        have := HNM.out x.data.toList (List.mem_map.2 ⟨x, List.mem_of_getElem? hx, rfl⟩)
        unfold okName at this
        simp only [Bool.and_eq_true, decide_eq_true_eq] at this
        exact this.1.1.1.2
      have hn1 : (x ++ (⟨#[39, 32, 61, 32]⟩ : ByteArray) ++ S ++ (⟨#[10]⟩ : ByteArray)).size = x.size + S.size + 5 := by simp only [ByteArray.size_append]; show x.size + 4 + S.size + 1 = _; omega
      have HN1 := Aside.mk hn1
      have HX := Aside.mk (And.intro hx ht)
      have hlw : bv < wr.heap.size := World.block_lt_of_cell? wr _ cx
      have hlf : bf < wr.heap.size := World.block_lt_of_cell? wr _ cu
      have hlg : g < wr.heap.size := by have := HSZ.out; omega
      have k0 : wr.cell? ⟨g, 0, none⟩ = some (.slice (some ⟨bv, ov, none⟩) M cv) := (HBW.out.cell (p := ⟨g, 0, none⟩) (by show g < g + 1; omega)).trans C01.out.1
      have k1 : wr.cell? ⟨g, 1, none⟩ = some (.slice (some ⟨bf, of', none⟩) M cf) := (HBW.out.cell (p := ⟨g, 1, none⟩) (by show g < g + 1; omega)).trans C01.out.2
      have hbl : Below wr.heap.size wr wr := Below.refl _ _
      clear hx ht hcx hcu hru okt hS hwr hi q0 hn1
      go_wp2_with fail
      refine region_v [14, 15, 16, 17, 18, 19, 20, 21, 22, 23, 24, 25] 12 [.string x, .string (x ++ (⟨#[39, 32, 61, 32]⟩ : ByteArray)), .pointer (some ⟨g, 1, none⟩), .slice (some ⟨bf, of', none⟩) M cf, .int .i64 (i : Nat), .pointer (some ⟨bf, of' + i, none⟩), .slice au lu ru, .pointer (some ⟨g, 0, none⟩), .slice (some ⟨bv, ov, none⟩) M cv, .string S, .string ((x ++ (⟨#[39, 32, 61, 32]⟩ : ByteArray)) ++ S), .string (((x ++ (⟨#[39, 32, 61, 32]⟩ : ByteArray)) ++ S) ++ (⟨#[10]⟩ : ByteArray))] rfl rfl ?_ ?_
      · refine AllV.val rfl (fun w hb => by simp [execOp, Act.eval, kp hb k1, kp hb cu, kp hb k0, go_sem]) ?_
        refine AllV.val rfl (fun w hb => by simp [execOp, Act.eval, go_sem]; omega) ?_
        iterate 3 (refine AllV.val rfl (fun w hb => by simp [execOp, Act.eval, kp hb k1, kp hb cu, kp hb k0, go_sem]) ?_)
        refine AllV.val rfl (fun w hb => by simp [execOp, Act.eval, hi', go_sem]) ?_
        iterate 3 (refine AllV.val rfl (fun w hb => by simp [execOp, Act.eval, kp hb k1, kp hb cu, kp hb k0, go_sem]) ?_)
        refine AllV.cons ?_ ?_
        · intro a w hz hb ho hg
          have e20 : a.tmps.getD 20 undef = .slice au lu ru := got_of hg (j := 6) rfl rfl rfl
          have e22 : a.tmps.getD 22 undef = .slice (some ⟨bv, ov, none⟩) M cv := got_of hg (j := 8) rfl rfl rfl
          have f20 := Rg.gd e20
          have f22 := Rg.gd e22
          exact Or.inl ⟨wanted_none rfl, wp_calls hb.size (run_call (args := #[.slice au lu ru, .slice (some ⟨bv, ov, none⟩) M cv]) enters_fe (by simp [Act.eval, f20, f22])) ((FE_any HNM.out t HOT.out _ _ w (HRU.out.below hb) (HSV.out.below hb) (HT2.out.below hb) S HS.out).mono (by rintro e w' ⟨rfl, hb2⟩; exact ⟨_, rfl, hb2, rfl⟩))⟩
        refine AllV.val rfl (fun w hb => by simp [execOp, Act.eval, go_sem]; omega) ?_
        refine AllV.val rfl (fun w hb => by simp [execOp, Act.eval, go_sem]; omega) ?_
        exact AllV.nil
      intro w2 hb
      simp only [List.drop_succ_cons, List.drop_zero]
      have HH2 := Aside.mk hb
      clear hb
      have hbd : Below wr.heap.size wr w2 := HH2.out
      have hB2 := Fx.IsBuilder_below HBI.out hbd
      have hsz2 := hbd.size
      have hlen : (fmtS ((strL names).take i) (strL names) (ts.take i)).length ≤ 2000000 := by
        have h1 := fmtS_len HNM.out ((strL names).take i) (ts.take i) (fun y hy => HNM.out y (List.mem_of_mem_take hy)) (fun y hy => HOK.out y (List.mem_of_mem_take hy))
        have h2 : ((ts.take i).map fun t => (flat t).length).sum ≤ 6 * 9000 := by
          have hle : (ts.take i).length ≤ 6 := by rw [List.length_take]; have := H6.out; have := HLN.out; have := HM.out; omega
          have hall : ∀ t ∈ ts.take i, (flat t).length ≤ 9000 := fun t ht => HFL.out t (List.mem_of_mem_take ht)
          generalize ts.take i = l at hle hall
          have : (l.map fun t => (flat t).length).sum ≤ l.length * 9000 := by
            clear hle
            induction l with
            | nil => simp
            | cons a r ih =>
              have h1 := hall a (List.mem_cons_self ..)
              have h2 := ih fun y hy => hall y (List.mem_cons_of_mem _ hy)
              simp only [List.map_cons, List.sum_cons, List.length_cons]
              omega
          omega
        have h3 : (ts.take i).length ≤ 6 := by rw [List.length_take]; have := H6.out; have := HLN.out; have := HM.out; omega
        omega
      have hsz : (Lib.byteCells (fmtS ((strL names).take i) (strL names) (ts.take i))).length + (x ++ (⟨#[39, 32, 61, 32]⟩ : ByteArray) ++ S ++ (⟨#[10]⟩ : ByteArray)).size ≤ 140737488355328 := by rw [Lib.byteCells_length, HN1.out]; omega
      have HBL := Aside.mk (And.intro hB2 (And.intro hsz (show g + 1 ≤ w2.heap.size by have := HSZ.out; omega)))
      have HBD := Aside.mk (HBW.out.trans (hbd.mono (by have := HSZ.out; omega)))
      have HS2 := Aside.mk (show g + 1 + 1 ≤ w2.heap.size by have := HSZ.out; omega)
      clear hB2 hsz hbd hsz2 hlen
      go_wp2_with (first | (go_at_call 97; refine (Bld.WriteString _ _ _ _ _ HBL.out.1 HBL.out.2.1 HBL.out.2.2).mono ?_; rintro e w3 ⟨rfl, hB3, hb3⟩))
      have HB3 : Aside (Lib.IsBuilder 125 5 (g + 1) (g + 1) (Lib.byteCells (fmtS ((strL names).take (i + 1)) (strL names) (ts.take (i + 1)))) w3) := ⟨by
        rw [fmtS_take_succ (strL names) (strL names) ts i x.data.toList t (by unfold strL; rw [List.getElem?_map, HX.out.1]; rfl) HX.out.2, ← HS.out, Fx.byteCells_append]
        have : Lib.strCells (x ++ (⟨#[39, 32, 61, 32]⟩ : ByteArray) ++ S ++ (⟨#[10]⟩ : ByteArray)) = Lib.byteCells (x.data.toList ++ [39, 32, 61, 32] ++ S.data.toList ++ [10]) := by
          simp [Lib.strCells, Lib.byteCells, ByteArray.data_append]
        rw [← this]
        exact hB3⟩
      have HBD3 := Aside.mk (HBD.out.trans hb3)
      have HS3 := Aside.mk (Nat.le_trans HS2.out hb3.size)
      obtain ⟨go, hgo⟩ : ∃ go, gk = go + 1 := ⟨gk - 1, by have := HI.out; omega⟩
      clear hB3 hb3
      go_roundg go
      case measure => omega
      case rel => exact ⟨i + 1, rfl, ⟨by have := HI.out; omega⟩, HB3, HBD3, HS3⟩
    · have hi' : ¬ ((i : Int) < (M : Int)) := by omega
      have him : i = M := by have := HI.out; omega
      subst him
      have hgs : g + 1 ≤ wr.heap.size := by have := HSZ.out; omega
      have HFIN := Aside.mk (Tryz.Builder_String_any _ _ _ _ HBI.out hgs)
      go_wp2_with (first | (go_at_call 98; refine HFIN.out.mono ?_; rintro e w3 ⟨rfl, hb3⟩))
      go_ret
      have e1 : (strL names).take i = strL names := List.take_of_length_le (by unfold strL; rw [List.length_map, HM.out]; exact Nat.le_refl _)
      have e2 : ts.take i = ts := List.take_of_length_le (by rw [← HLN.out, HM.out]; exact Nat.le_refl _)
      exact ⟨⟨_, rfl, by rw [e1, e2]⟩, HWR.out.trans (by exact hb3.mono (by have := HG.out; omega))⟩
end Go.Proofs.YthcidkidpiaomaaGreatDoor.Od
end
section
set_option linter.unusedVariables false
set_option linter.unusedSimpArgs false
namespace Go.Proofs.YthcidkidpiaomaaGreatDoor.Od
open Go.RowKit Rg
structure Lb (w : World) : Prop where
  tabs : Fx.Tabs w
  ends : Ends w
theorem Lb.below {w w' : World} (h : Lb w) (hb : Below w.heap.size w w') : Lb w' := ⟨h.tabs.below hb, h.ends.below hb⟩
theorem Parse_bad (s : ByteArray) (hs : s.size ≤ 100000) (o : Nat) (c : Int) (h : parseSys s.data.toList = .err o c) (w : World) (hL : Lb w) :
    Calls Tryz.prog 31 #[.string s] w fun e w' => e = .returned (.tuple #[.agg #[.slice none 0 0, .slice none 0 0], .int .i64 (o : Nat), .int .i64 c]) ∧ Below w.heap.size w w' := by
  refine (Parse_any s hs w hL.tabs).mono ?_
  rintro e w' ⟨hb, hp⟩
  rw [h] at hp
  exact ⟨hp, hb⟩
theorem Parse_good (s : ByteArray) (hs : s.size ≤ 100000) (names : List (List UInt8)) (fs : List (List Nd)) (h : parseSys s.data.toList = .ok (names, fs)) (w : World) (hL : Lb w) :
    Calls Tryz.prog 31 #[.string s] w fun e w' => ∃ vn vf xs, e = .returned (.tuple #[.agg #[vn, vf], .int .i64 0, .int .i64 0]) ∧ strL xs = names ∧ Strs w' vn xs ∧ Fs w' vf fs ∧ Below w.heap.size w w' := by
  refine (Parse_any s hs w hL.tabs).mono ?_
  rintro e w' ⟨hb, hp⟩
  rw [h] at hp
  obtain ⟨vn, vf, xs, h1, h2, h3, h4⟩ := hp
  exact ⟨vn, vf, xs, h1, h2, h3, h4, hb⟩
theorem ParseExpr_good (s : ByteArray) (hs : s.size ≤ 100000) (vv : Value) (xs : List ByteArray) (r : List Nd) (h : parseExpr s.data.toList (strL xs) = .ok r) (w : World) (hv : Strs w vv xs) (hL : Lb w) :
    Calls Tryz.prog 33 #[.string s, vv] w fun e w' => ∃ v, e = .returned (.tuple #[v, .int .i64 0, .int .i64 0]) ∧ OwnN w.heap.size w' v r ∧ Below w.heap.size w w' := by
  refine (ParseExpr_any s hs vv xs w hv hL.tabs).mono ?_
  rintro e w' ⟨hb, hp⟩
  rw [h] at hp
  obtain ⟨v, h1, h2⟩ := hp
  exact ⟨v, h1, h2, hb⟩
theorem ParseExpr_bad (s : ByteArray) (hs : s.size ≤ 100000) (vv : Value) (xs : List ByteArray) (o : Nat) (c : Int) (h : parseExpr s.data.toList (strL xs) = .err o c) (w : World) (hv : Strs w vv xs) (hL : Lb w) :
    Calls Tryz.prog 33 #[.string s, vv] w fun e w' => e = .returned (.tuple #[.slice none 0 0, .int .i64 (o : Nat), .int .i64 c]) ∧ Below w.heap.size w w' := by
  refine (ParseExpr_any s hs vv xs w hv hL.tabs).mono ?_
  rintro e w' ⟨hb, hp⟩
  rw [h] at hp
  exact ⟨hp, hb⟩
set_option maxRecDepth 100000 in
set_option maxHeartbeats 8000000 in
theorem parseFails_any (s : ByteArray) (hs : s.size ≤ 100000) (o : Nat) (c : Int) (h : parseSys s.data.toList = .err o c) (w : World) (hL : Lb w) :
    Calls Tryz.prog 54 #[.string s, .int .i64 (o : Nat), .int .i64 c] w fun e w' => e = .returned (.bool true) ∧ Below w.heap.size w w' := by
  have HP := Aside.mk (Parse_bad s hs o c h w hL)
  clear hs h hL
  go_enter Tryz.func54, Tryz.ntmps54
  go_wp2_with fail
  refine HP.out.mono ?_
  rintro e w1 ⟨rfl, hb1⟩
  have HB := Aside.mk hb1
  clear hb1
  go_wp2_with fail
  go_ret
  exact ⟨rfl, HB.out.trans ((Below.refl _ _).alloc HB.out.size _)⟩
set_option maxRecDepth 100000 in
set_option maxHeartbeats 8000000 in
theorem reformats_any (s want : ByteArray) (hs : s.size ≤ 100000) (t : Tr) (h : parseExpr s.data.toList [[120], [118]] = .ok (flat t)) (hok : okT [[120], [118]] t) (hw : want.data.toList = fmtT [[120], [118]] t) (hl : (flat t).length ≤ 200) (w : World) (hL : Lb w) :
    Calls Tryz.prog 55 #[.string s, .string want] w fun e w' => e = .returned (.bool true) ∧ Below w.heap.size w w' := by
  have hal : Below w.heap.size w (w.alloc (.cells #[.string ⟨#[120]⟩, .string ⟨#[118]⟩] 9)) := (Below.refl _ _).alloc (Nat.le_refl _) _
  have hr := heap_alloc_last w (.cells #[.string ⟨#[120]⟩, .string ⟨#[118]⟩] 9)
  have hst : Strs (w.alloc (.cells #[.string ⟨#[120]⟩, .string ⟨#[118]⟩] 9)) (.slice (some ⟨w.heap.size, 0, none⟩) 2 2) [⟨#[120]⟩, ⟨#[118]⟩] := ⟨Or.inr ⟨_, 0, 2, rfl, Nat.le_refl _, fun j hj => by
    rw [cell_of_row _ _ (0 + j) _ _ _ hr]
    simp only [List.length_cons, List.length_nil] at hj
    rcases (show j = 0 ∨ j = 1 by omega) with rfl | rfl <;> rfl⟩, by simp⟩
  have HSV := Aside.mk hst
  have HAL := Aside.mk hal
  have HLB := Aside.mk hL
  have HP := Aside.mk (ParseExpr_good s hs _ [⟨#[120]⟩, ⟨#[118]⟩] (flat t) h _ hst (hL.below hal))
  have HOK := Aside.mk hok
  have HW := Aside.mk hw
  have HL := Aside.mk hl
  have HEX : Aside (okEx 2 (flat t) = true) := ⟨okEx_flat hok hl⟩
  clear hs h hL hst hr hal hok hw hl
  go_enter Tryz.func55, Tryz.ntmps55
  go_wp2_with fail
  generalize w.alloc (.cells #[.string ⟨#[120]⟩, .string ⟨#[118]⟩] 9) = W at HSV HAL HP ⊢
  refine HP.out.mono ?_
  rintro e w1 ⟨v, rfl, ho1, hb1⟩
  have HB1 := Aside.mk (HAL.out.trans (hb1.mono HAL.out.size))
  have HS1 := Aside.mk (HSV.out.below hb1)
  have HR1 := Aside.mk (ho1.rdN (by have := HL.out; omega))
  obtain ⟨av, cv, rfl⟩ := HR1.out.slice
  clear hb1 ho1 HP HSV
  go_wp2_with fail
  refine (rValidExpr_any _ _ 2 w1 HR1.out).mono ?_
  rintro e w2 ⟨rfl, hb2⟩
  rw [HEX.out]
  have HB2 := Aside.mk (HB1.out.trans (hb2.mono HB1.out.size))
  have HS2 := Aside.mk (HS1.out.below hb2)
  have HR2 := Aside.mk (HR1.out.below hb2)
  clear hb2
  go_wp2_with fail
  refine (FE_any (vars := [⟨#[120]⟩, ⟨#[118]⟩]) (by decide) t HOK.out _ _ w2 HR2.out HS2.out (HLB.out.tabs.below HB2.out) want HW.out).mono ?_
  rintro e w3 ⟨rfl, hb3⟩
  have HB3 := Aside.mk (HB2.out.trans (hb3.mono HB2.out.size))
  clear hb3
  go_wp2_with fail
  go_ret
  exact ⟨rfl, HB3.out⟩
end Go.Proofs.YthcidkidpiaomaaGreatDoor.Od
end
