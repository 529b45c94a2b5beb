/- OeE OeF -/
import Derived.Test.YthcidkidpiaomaaGreatDoorKf10
import Derived.Test.YthcidkidpiaomaaGreatDoorKf07
import Derived.Test.YthcidkidpiaomaaGreatDoorKf14
section
set_option linter.unusedVariables false
namespace Go.Proofs.YthcidkidpiaomaaGreatDoor.Od
theorem bind_inv {α β : Type} {m : Pr α} {f : α → Pr β} {s s' : PS} {b : β} (h : (m.bind f) s = .ok b s') : ∃ a s1, m s = .ok a s1 ∧ f a s1 = .ok b s' := by
  unfold Pr.bind at h
  cases hm : m s with
  | ok a s1 => rw [hm] at h; exact ⟨a, s1, rfl, h⟩
  | err c o => rw [hm] at h; cases h
theorem bind_einv {α β : Type} {m : Pr α} {f : α → Pr β} {s : PS} {c : Int} {o : Nat} (h : (m.bind f) s = .err c o) : m s = .err c o ∨ ∃ a s1, m s = .ok a s1 ∧ f a s1 = .err c o := by
  unfold Pr.bind at h
  cases hm : m s with
  | ok a s1 => rw [hm] at h; exact Or.inr ⟨a, s1, rfl, h⟩
  | err c' o' => rw [hm] at h; simp only at h; injection h with e1 e2; left; rw [e1, e2]
def Nam (L : List UInt8) (t : Tok) : Prop := t.kind = 1 ∧ t.lo < t.hi ∧ t.hi ≤ L.length
section
variable {L : List UInt8} {N0 : Nat}
theorem Nice.lineStart : Nice L N0 (Od.lineStart L) (fun t _ => Nam L t) := by
  intro s h1 h2 h3
  have hk := peekT_ok true L s.pos h1
  have hle := hk.le
  have hlen := hk.len
  unfold Od.lineStart
  simp only
  split
  · exact Nice.at (Nice.fail (P := fun t _ => Nam L t)) h1 h2 h3 (by omega)
  · rename_i hc
    have hk1 : (peekT true L s.pos).kind = 1 := by
      cases Classical.em ((peekT true L s.pos).kind = 1) with
      | inl h => exact h
      | inr h => exact absurd (Or.inl h) hc
    have h3' := hk.some (Or.inl hk1)
    exact Nice.at ((Nice.expect _).bind fun _ _ _ _ => (Nice.expect _).bind fun _ _ _ _ => Nice.ret (P := fun t _ => Nam L t) _ fun _ _ => ⟨hk1, h3', hlen⟩) h1 h2 h3 hlen
theorem Nice.skipNl : ∀ k b N0, Nice L N0 (Od.skipNl L k b) All
  | 0, b, N0 => Nice.ret b fun _ _ => trivial
  | k + 1, b, N0 => (Nice.accept _).bind fun a N1 _ _ => by
    cases a with
    | true => exact Nice.skipNl k true N1
    | false => exact Nice.ret b fun _ _ => trivial
theorem skipNl_ge : ∀ k b (σ : PS) a σ', σ.pos ≤ L.length → Od.skipNl L k b σ = .ok a σ' → σ.pos ≤ σ'.pos
  | 0, b, σ, a, σ', hs, h => by cases h; exact Nat.le_refl _
  | k + 1, b, σ, a, σ', hs, h => by
    obtain ⟨c, s1, h1, h2⟩ := bind_inv h
    have := Goes.accept (nl := true) [10] σ c s1 hs h1
    cases c with
    | true => have := skipNl_ge k true s1 a σ' this.2 h2; omega
    | false => cases h2; omega
structure LinesOk (L : List UInt8) (ns : List Tok) (es : List Tr) (σ : PS) : Prop where
  len : ns.length = es.length
  vars : ∀ t ∈ es, Vrs t σ.names.length
  names : ∀ t ∈ ns, Nam L t
  nodes : (es.map fun t => (flat t).length).sum + ns.length ≤ σ.pos
  pos : σ.pos ≤ L.length
  low : ∀ r ∈ σ.names, r.1 < L.length
theorem lineStart_ge {σ : PS} {t : Tok} {σ' : PS} (hs : σ.pos ≤ L.length) (h : Od.lineStart L σ = .ok t σ') : σ.pos + 1 ≤ σ'.pos := by
  have hg := peekT_ge true L σ.pos
  have hok := peekT_ok true L σ.pos hs
  unfold Od.lineStart at h
  simp only at h
  split at h
  · cases h
  · rename_i hc
    have hk : (peekT true L σ.pos).kind = 1 := by
      cases Classical.em ((peekT true L σ.pos).kind = 1) with
      | inl h => exact h
      | inr h => exact absurd (Or.inl h) hc
    have h3 := hok.some (Or.inl hk)
    have := ((Goes.expect (nl := true) (L := L) [39]).bind fun _ => (Goes.expect (nl := true) (L := L) [61]).bind fun _ => Goes.ret (L := L) (peekT true L σ.pos)) _ _ _ hok.len h
    have := this.1
    simp only at this
    omega
theorem lines_ok : ∀ (k : Nat) (ns : List Tok) (es : List Tr) (σ : PS), LinesOk L ns es σ → (∀ r σ', Od.lines L k ns es σ = .ok r σ' → LinesOk L r.1 r.2 σ' ∧ 1 ≤ r.1.length) ∧ (∀ c o, Od.lines L k ns es σ = .err c o → ErrAt L c o)
  | 0, ns, es, σ, h => ⟨fun r σ' hr => (by cases hr), fun c o hr =>
      ((Nice.fail (nl := true) (L := L) (N0 := 0) (P := All) : Nice L 0 (Od.fail true L : Pr (List Tok × List Tr)) All) σ h.pos h.low (Nat.zero_le _)).2 c o hr⟩
  | k + 1, ns, es, σ, h => by
    have nl := (Nice.lineStart (L := L) (N0 := 0)) σ h.pos h.low (Nat.zero_le _)
    have step : ∀ t σ1, Od.lineStart L σ = .ok t σ1 → ∀ e σ2, Od.sum true L (L.length + 1) σ1 = .ok e σ2 → ∀ b σ3, Od.skipNl L (L.length + 1) false σ2 = .ok b σ3 →
        LinesOk L (ns ++ [t]) (es ++ [e]) { σ3 with pos := (peekT true L σ3.pos).lo } := by
      intro t σ1 h1 e σ2 h2 b σ3 h3
      obtain ⟨p1, n1, l1, q1⟩ := nl.1 t σ1 h1
      obtain ⟨p2, n2, l2, q2⟩ := ((Nice.sum (nl := true) (L := L) (L.length + 1) 0) σ1 p1 l1 (Nat.zero_le _)).1 e σ2 h2
      obtain ⟨p3, n3, l3, -⟩ := ((Nice.skipNl (L := L) (L.length + 1) false 0) σ2 p2 l2 (Nat.zero_le _)).1 b σ3 h3
      have g1 := lineStart_ge h.pos h1
      have g2 := Gr.sum (nl := true) (L := L) (L.length + 1) σ1 e σ2 p1 h2
      have g3 := skipNl_ge _ _ σ2 b σ3 p2 h3
      have g4 := peekT_ge true L σ3.pos
      have hok := peekT_ok true L σ3.pos p3
      have := hok.le
      have := hok.len
      have hn := h.nodes
      refine ⟨by simp [h.len], fun x hx => ?_, fun x hx => ?_, ?_, by show (peekT true L σ3.pos).lo ≤ L.length; omega, l3⟩
      · rcases List.mem_append.1 hx with hx | hx
        · exact (h.vars x hx).mono (by show σ.names.length ≤ σ3.names.length; omega)
        · obtain rfl := List.mem_singleton.1 hx
          exact q2.mono n3
      · rcases List.mem_append.1 hx with hx | hx
        · exact h.names x hx
        · obtain rfl := List.mem_singleton.1 hx
          exact q1
      · show ((es ++ [e]).map fun t => (flat t).length).sum + (ns ++ [t]).length ≤ (peekT true L σ3.pos).lo
        simp only [List.map_append, List.sum_append, List.map_cons, List.map_nil, List.sum_cons, List.sum_nil, List.length_append, List.length_singleton]
        omega
    refine ⟨fun r σ' hr => ?_, fun c o hr => ?_⟩
    · unfold Od.lines at hr
      obtain ⟨t, σ1, h1, hr⟩ := bind_inv hr
      obtain ⟨e, σ2, h2, hr⟩ := bind_inv hr
      obtain ⟨b, σ3, h3, hr⟩ := bind_inv hr
      have st := step t σ1 h1 e σ2 h2 b σ3 h3
      simp only at hr
      split at hr
      · injection hr with e1 e2
        subst e1; subst e2
        exact ⟨st, by simp⟩
      · split at hr
        · exact (lines_ok k _ _ _ st).1 r σ' hr
        · cases hr
    · unfold Od.lines at hr
      rcases bind_einv hr with hr | ⟨t, σ1, h1, hr⟩
      · exact nl.2 c o hr
      · obtain ⟨p1, n1, l1, q1⟩ := nl.1 t σ1 h1
        rcases bind_einv hr with hr | ⟨e, σ2, h2, hr⟩
        · exact ((Nice.sum (nl := true) (L := L) (L.length + 1) 0) σ1 p1 l1 (Nat.zero_le _)).2 c o hr
        · obtain ⟨p2, n2, l2, q2⟩ := ((Nice.sum (nl := true) (L := L) (L.length + 1) 0) σ1 p1 l1 (Nat.zero_le _)).1 e σ2 h2
          rcases bind_einv hr with hr | ⟨b, σ3, h3, hr⟩
          · exact ((Nice.skipNl (L := L) (L.length + 1) false 0) σ2 p2 l2 (Nat.zero_le _)).2 c o hr
          · have st := step t σ1 h1 e σ2 h2 b σ3 h3
            simp only at hr
            split at hr
            · cases hr
            · split at hr
              · exact (lines_ok k _ _ _ st).2 c o hr
              · exact ((Nice.fail (nl := true) (L := L) (N0 := 0) (P := All) : Nice L 0 (Od.fail true L : Pr (List Tok × List Tr)) All) _ st.pos st.low (Nat.zero_le _)).2 c o hr
theorem allLines_ok : (∀ r σ', Od.allLines L ⟨0, [], false⟩ = .ok r σ' → LinesOk L r.1 r.2 σ' ∧ 1 ≤ r.1.length) ∧ (∀ c o, Od.allLines L ⟨0, [], false⟩ = .err c o → ErrAt L c o) := by
  have ns := (Nice.skipNl (L := L) (L.length + 1) false 0) ⟨0, [], false⟩ (Nat.zero_le _) (by simp) (Nat.zero_le _)
  have start : ∀ b σ1, Od.skipNl L (L.length + 1) false ⟨0, [], false⟩ = .ok b σ1 → LinesOk L [] [] σ1 := fun b σ1 h1 => by
    obtain ⟨p1, n1, l1, -⟩ := ns.1 b σ1 h1
    exact ⟨rfl, fun t ht => (by cases ht), fun t ht => (by cases ht), by simp, p1, l1⟩
  refine ⟨fun r σ' h => ?_, fun c o h => ?_⟩
  · obtain ⟨b, σ1, h1, h2⟩ := bind_inv h
    exact (lines_ok _ [] [] σ1 (start b σ1 h1)).1 r σ' h2
  · rcases bind_einv h with h | ⟨b, σ1, h1, h2⟩
    · exact ns.2 c o h
    · exact (lines_ok _ [] [] σ1 (start b σ1 h1)).2 c o h2
end
end Go.Proofs.YthcidkidpiaomaaGreatDoor.Od
end
section
set_option linter.unusedVariables false
set_option linter.unusedSimpArgs false
namespace Go.Proofs.YthcidkidpiaomaaGreatDoor.Od
open Go.RowKit Rg
theorem info_str : (Tryz.prog.info? 9).map (fun i => (i.zero, i.size, i.bytes)) = some (some (.string ⟨#[]⟩), 1, 16) := by kernel_rfl
theorem wpList_append_str (w : World) {ops : Array Oper} {rest : List Oper} {o : Oper} {a : Act} {Q : Exit → Act → World → Prop} (hg : o.guard = none) (p x : Operand) (hop : o.op = Op.call { callee := Callee.builtin Builtin.append, args := #[p, x], argTypes := #[22, 22] })
    (base : Nat) (v : Value) (xs : List ByteArray) (n : Nat) (hn : xs.length = n) (hs : a.eval p = v) (h : w.ownsRow base 9 1 v n (xs.map Value.string)) (y : ByteArray) (gk : Nat) (hx : a.eval x = .slice (some ⟨gk, 0, none⟩) 1 1)
    (hr : w.heap[gk]? = some (.cells #[.string y] 9 (0, 0))) (hbd : n ≤ 9000) (hbase : base ≤ w.heap.size)
    (hK : ∀ ao cap w', w'.ownsRow base 9 1 (.slice ao (n + 1) cap) (n + 1) ((xs ++ [y]).map Value.string) → Below base w w' → wpList Tryz.prog ops Q rest (a.put o.dst (.slice ao (n + 1) cap)) w') :
    wpList Tryz.prog ops Q (o :: rest) a w := by
  subst hn
  obtain ⟨i0, hi, hz0, hz1, hz2⟩ := info_parts' info_str
  have hcell : ∀ (j : Nat) (u : Value), [Value.string y][j]? = some u → w.cell? ((⟨gk, 0, none⟩ : Addr).add j) = some u := by
    intro j u hu
    cases j with
    | zero =>
      obtain rfl := Option.some.inj hu
      have := cell_of_row w gk 0 _ _ _ hr
      simpa [Addr.add] using this
    | succ j => cases hu
  have hone : ∀ u ∈ [Value.string y], u.oneCell' = true := by
    intro u hu
    obtain rfl := List.mem_singleton.1 hu
    rfl
  refine wpList_append_own_at w hg p x _ hop base 9 i0 _ 1 16 Tryz.underlying22 hi hz0 hz1 hz2 rfl (by omega) v xs.length _ hs h ⟨gk, 0, none⟩ 1 1 [Value.string y] hx rfl hcell hone (by simp only [maxLen]; omega) (by omega) hbase ?_
  intro v' w' hown' hgr _ hat
  have hv : ∃ ao cap, v' = .slice ao (xs.length + 1) cap := by
    obtain ⟨-, h2⟩ := hown'
    rcases h2 with ⟨rfl, hn⟩ | ⟨g', cap, cur, rfl, -⟩
    · omega
    · exact ⟨_, _, rfl⟩
  obtain ⟨ao, cap, rfl⟩ := hv
  exact hK ao cap w' (by simpa using hown') ((Below.refl base w).grown hgr hbase (fun k hk => (World.ownsRow.lt h k hk).1))
theorem strs_row {w : World} {base : Nat} {v : Value} {xs : List ByteArray} (h : w.ownsRow base 9 1 v xs.length (xs.map Value.string)) (hf : xs.length ≤ 9000) : Strs w v xs := by
  have h' := h
  obtain ⟨h1, h2⟩ := h
  rcases h2 with ⟨rfl, hn⟩ | ⟨g, cap, cur, rfl, hg, hh, hcap, hm, hs, ht⟩
  · exact ⟨Or.inl ⟨List.length_eq_zero_iff.1 hn, none, 0, by rfl⟩, by omega⟩
  · refine ⟨Or.inr ⟨g, 0, cap, rfl, hcap, fun j hj => ?_⟩, by omega⟩
    rw [Nat.zero_add, World.ownsRow.cellAt h' j (by omega), List.getElem?_map, getElem!_pos xs j hj, List.getElem?_eq_getElem hj]; rfl
structure SumsN (base : Nat) (w : World) (v : Value) (us : List Value) (es : List (List Nd)) : Prop where
  row : w.ownsRow base 26 1 v us.length us
  len : us.length = es.length
  own : ∀ (i : Nat) (u : Value) (e : List Nd), us[i]? = some u → es[i]? = some e → OwnN base w u e
  apart : ∀ (i j : Nat) (u v : Value) (k l : Nat), i < j → us[i]? = some u → us[j]? = some v → u.ownBlock = some k → v.ownBlock = some l → k < l
theorem Sums.nodes {base : Nat} {w : World} {v : Value} {us : List Value} {ts : List Tr} (h : Sums base w v us ts) : SumsN base w v us (ts.map flat) :=
  ⟨h.row, by simp [h.len], fun i u e hu he => by
    rw [List.getElem?_map] at he
    cases ht : ts[i]? with
    | none => rw [ht] at he; cases he
    | some t =>
      rw [ht] at he
      obtain rfl := Option.some.inj he
      exact h.own i u t hu ht, h.apart⟩
theorem SumsN.below {base : Nat} {w w' : World} {v : Value} {us : List Value} {es : List (List Nd)} (h : SumsN base w v us es) (hb : Below w.heap.size w w') : SumsN base w' v us es :=
  ⟨owns_below h.row hb, h.len, fun i u e hu he => owns_below (h.own i u e hu he) hb, h.apart⟩
theorem SumsN.set {base : Nat} {w w' : World} {v u : Value} {us : List Value} {es : List (List Nd)} {i gv : Nat} {e' : List Nd} (h : SumsN base w v us es) (hu : us[i]? = some u) (hg : u.ownBlock = some gv) (hf : FrN (fun k => k ≠ gv) w w') (ho : OwnN base w' u e') : SumsN base w' v us (es.set i e') := by
  refine ⟨owns_fr h.row hf (by decide), by simp [h.len], fun j y e hy he => ?_, h.apart⟩
  by_cases hij : i = j
  · subst hij
    rw [hu] at hy
    obtain rfl := Option.some.inj hy
    have hl : i < es.length := by have := (List.getElem?_eq_some_iff.1 hu).1; have := h.len; omega
    rw [List.getElem?_set_self hl] at he
    obtain rfl := Option.some.inj he
    exact ho
  · rw [List.getElem?_set_ne hij] at he
    refine owns_in (h.own j y e hy he) hf fun k hk hkg => ?_
    subst hkg
    rcases Nat.lt_or_gt_of_ne hij with hlt | hlt
    · exact absurd (h.apart i j u y _ _ hlt hu hy hg hk) (Nat.lt_irrefl _)
    · exact absurd (h.apart j i y u _ _ hlt hy hu hk hg) (Nat.lt_irrefl _)
theorem SumsN.fs {base : Nat} {w : World} {v : Value} {us : List Value} {es : List (List Nd)} (h : SumsN base w v us es) (hf : es.length ≤ 9000) (hl : ∀ e ∈ es, e.length ≤ 9000) : Fs w v es := by
  have hr := h.row
  obtain ⟨h1, h2⟩ := hr
  rcases h2 with ⟨rfl, hn⟩ | ⟨g, cap, cur, rfl, hg, hh, hcap, hm, hs, ht⟩
  · exact ⟨Or.inl ⟨List.length_eq_zero_iff.1 (by rw [← h.len]; exact hn), none, 0, rfl⟩, by omega⟩
  · refine ⟨Or.inr ⟨g, 0, cap, us, by rw [h.len], h.len, fun j u hu => ?_, fun j u e hu he => (h.own j u e hu he).rdN (hl e (List.mem_of_getElem? he))⟩, by omega⟩
    have hj := (List.getElem?_eq_some_iff.1 hu).1
    rw [Nat.zero_add, World.ownsRow.cellAt h.row j (by omega)]; exact hu
theorem tok_cells {w : World} {gs N cs : Nat} {s : ByteArray} {ns : List Tok} (h : w.ownsRow 0 108 3 (.slice (some ⟨gs, 0, none⟩) N cs) N (toks s (prs ns))) (hN : ns.length = N) {i : Nat} {t : Tok} (ht : ns[i]? = some t) :
    w.cell? ⟨gs, i * 3, none⟩ = some (.int .i64 1) ∧ w.cell? ⟨gs, i * 3 + 1, none⟩ = some (.string (s.extract t.lo t.hi)) ∧ w.cell? ⟨gs, i * 3 + 2, none⟩ = some (.int .i64 (t.lo : Nat)) := by
  have hi := (List.getElem?_eq_some_iff.1 ht).1
  have hp : (prs ns)[i]? = some (t.lo, t.hi) := by unfold prs; rw [List.getElem?_map, ht]; rfl
  have c0 := h.cellAt (i * 3 + 0) (by omega)
  have c1 := h.cellAt (i * 3 + 1) (by omega)
  have c2 := h.cellAt (i * 3 + 2) (by omega)
  rw [toks_get s _ _ _ 0 hp (by decide)] at c0
  rw [toks_get s _ _ _ 1 hp (by decide)] at c1
  rw [toks_get s _ _ _ 2 hp (by decide)] at c2
  exact ⟨c0, c1, c2⟩
theorem resAll_cons (L : List UInt8) (pn : List (Nat × Nat)) (vars : List (List UInt8)) (t : Tok) (ts : List Tok) (e : Tr) (es : List Tr) (seen : List (List UInt8)) : Od.resAll L pn vars (t :: ts) (e :: es) seen =
    if seen.contains (sub L t.lo t.hi) then .err t.lo 72
    else match Od.resolve L pn vars (flat e) with
      | (_, some o) => .err o 72
      | (e', none) => match Od.resAll L pn vars ts es (seen ++ [sub L t.lo t.hi]) with
        | .ok r => .ok (e' :: r)
        | .err o c => .err o c := rfl
theorem le_sum_of_mem : ∀ (l : List Nat) (x : Nat), x ∈ l → x ≤ l.sum
  | [], x, h => by cases h
  | y :: l, x, h => by
    rw [List.sum_cons]
    rcases List.mem_cons.1 h with rfl | h
    · omega
    · have := le_sum_of_mem l x h; omega
def more (d : List (List Nd)) : Ans (List (List Nd)) → Ans (List (List Nd))
  | .ok r => .ok (d ++ r)
  | .err o c => .err o c
theorem three_set {w : World} {g : Nat} {a b c d : Value} (h0 : w.heap[g]? = some (.cells #[a, b] 25 (0, 0))) (h1 : w.heap[g + 1]? = some (.cells #[c] 3 (0, 0))) (h2 : w.heap[g + 1 + 1]? = some (.cells #[d] 47 (0, 0))) (p q x y : Value) :
    ((((w.setCell ⟨g, 0, none⟩ p).setCell ⟨g, 1, none⟩ q).setCell ⟨g + 1, 0, none⟩ x).setCell ⟨g + 1 + 1, 0, none⟩ y).heap[g]? = some (.cells #[p, q] 25 (0, 0)) ∧
    ((((w.setCell ⟨g, 0, none⟩ p).setCell ⟨g, 1, none⟩ q).setCell ⟨g + 1, 0, none⟩ x).setCell ⟨g + 1 + 1, 0, none⟩ y).heap[g + 1]? = some (.cells #[x] 3 (0, 0)) ∧
    ((((w.setCell ⟨g, 0, none⟩ p).setCell ⟨g, 1, none⟩ q).setCell ⟨g + 1, 0, none⟩ x).setCell ⟨g + 1 + 1, 0, none⟩ y).heap[g + 1 + 1]? = some (.cells #[y] 47 (0, 0)) ∧
    Below g w ((((w.setCell ⟨g, 0, none⟩ p).setCell ⟨g, 1, none⟩ q).setCell ⟨g + 1, 0, none⟩ x).setCell ⟨g + 1 + 1, 0, none⟩ y) ∧
    (∀ k, k ≠ g → k ≠ g + 1 → k ≠ g + 1 + 1 → ((((w.setCell ⟨g, 0, none⟩ p).setCell ⟨g, 1, none⟩ q).setCell ⟨g + 1, 0, none⟩ x).setCell ⟨g + 1 + 1, 0, none⟩ y).heap[k]? = w.heap[k]?) := by
  have s1 := row_cell (i := 0) h0 p
  have s2 := row_cell (i := 1) s1 q
  have n1 : ((w.setCell ⟨g, 0, none⟩ p).setCell ⟨g, 1, none⟩ q).heap[g + 1]? = some (.cells #[c] 3 (0, 0)) := by
    rw [Below.heap_setCell _ _ _ _ (by show g + 1 ≠ g; omega), Below.heap_setCell _ _ _ _ (by show g + 1 ≠ g; omega)]; exact h1
  have n2 : ((w.setCell ⟨g, 0, none⟩ p).setCell ⟨g, 1, none⟩ q).heap[g + 1 + 1]? = some (.cells #[d] 47 (0, 0)) := by
    rw [Below.heap_setCell _ _ _ _ (by show g + 1 + 1 ≠ g; omega), Below.heap_setCell _ _ _ _ (by show g + 1 + 1 ≠ g; omega)]; exact h2
  have t1 := row_cell (i := 0) n1 x
  have t2 : (((w.setCell ⟨g, 0, none⟩ p).setCell ⟨g, 1, none⟩ q).setCell ⟨g + 1, 0, none⟩ x).heap[g + 1 + 1]? = some (.cells #[d] 47 (0, 0)) := by
    rw [Below.heap_setCell _ _ _ _ (by show g + 1 + 1 ≠ g + 1; omega)]; exact n2
  refine ⟨?_, ?_, row_cell (i := 0) t2 y, ?_, fun k k0 k1 k2 => ?_⟩
  · rw [Below.heap_setCell _ _ _ _ (by show g ≠ g + 1 + 1; omega), Below.heap_setCell _ _ _ _ (by show g ≠ g + 1; omega)]; exact s2
  · rw [Below.heap_setCell _ _ _ _ (by show g + 1 ≠ g + 1 + 1; omega)]; exact t1
  · exact ((((Below.refl _ _).setCell (p := ⟨g, 0, none⟩) (Nat.le_refl _) _).setCell (p := ⟨g, 1, none⟩) (Nat.le_refl _) _).setCell (p := ⟨g + 1, 0, none⟩) (by show g ≤ g + 1; omega) _).setCell (p := ⟨g + 1 + 1, 0, none⟩) (by show g ≤ g + 1 + 1; omega) _
  · rw [Below.heap_setCell _ _ _ _ k2, Below.heap_setCell _ _ _ _ k1, Below.heap_setCell _ _ _ _ k0, Below.heap_setCell _ _ _ _ k0]
theorem owns_keep {T : TypeId} {base sz n : Nat} {w w' : World} {v : Value} {xs : List Value} (h : w.ownsRow base T sz v n xs) (hk : ∀ k, base ≤ k → w'.heap[k]? = w.heap[k]?) : w'.ownsRow base T sz v n xs := by
  obtain ⟨g1, g2⟩ := h
  refine ⟨g1, ?_⟩
  rcases g2 with g2 | ⟨g', cap, cur, hv, hg, hh, r⟩
  · exact Or.inl g2
  · exact Or.inr ⟨g', cap, cur, hv, hg, by rw [hk g' hg]; exact hh, r⟩
theorem SumsN.keep {base : Nat} {w w' : World} {v : Value} {us : List Value} {es : List (List Nd)} (h : SumsN base w v us es) (hk : ∀ k, base ≤ k → w'.heap[k]? = w.heap[k]?) : SumsN base w' v us es :=
  ⟨owns_keep h.row hk, h.len, fun i u e hu he => owns_keep (h.own i u e hu he) hk, h.apart⟩
def SysPost (w : World) (s : ByteArray) (e : Ending) (w' : World) : Prop :=
  Below w.heap.size w w' ∧ match Od.parseSys s.data.toList with
    | .ok (names, fs) => ∃ vn vf xs, e = .returned (.tuple #[.agg #[vn, vf], .int .i64 0, .int .i64 0]) ∧ strL xs = names ∧ Strs w' vn xs ∧ Fs w' vf fs
    | .err o c => e = .returned (.tuple #[.agg #[.slice none 0 0, .slice none 0 0], .int .i64 (o : Nat), .int .i64 c])
end Go.Proofs.YthcidkidpiaomaaGreatDoor.Od
end
