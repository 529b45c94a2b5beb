/- OdF Reg -/
import Derived.ProofKit
import Derived.WalkKit
import Derived.KernelRfl
import Derived.Below
import Derived.Laws.AppendOwn
import Derived.Deep.WholeRow
import Derived.RegionTactic
import Derived.Test.YthcidkidpiaomaaGreatDoorKb05
section
set_option linter.unusedVariables false
namespace Go.Proofs.YthcidkidpiaomaaGreatDoor.Od
open Go.RowKit
structure Aside (p : Prop) : Prop where
  out : p
def isPT (PT TT : TypeId) : Obj → Bool
  | .cells _ T _ => T == PT || T == TT
  | _ => false
structure Fr (PT TT : TypeId) (B : Nat → Prop) (w w' : World) : Prop where
  os : w'.os = w.os
  tape : w'.tape = w.tape
  output : w'.output = w.output
  size : w.heap.size ≤ w'.heap.size
  block : ∀ k o, w.heap[k]? = some o → (B k ∨ isPT PT TT o = false) → w'.heap[k]? = some o
theorem heap_lt {w : World} {g : Nat} {o : Obj} (h : w.heap[g]? = some o) : g < w.heap.size := by
  rcases Nat.lt_or_ge g w.heap.size with h' | h'
  · exact h'
  · rw [Array.getElem?_eq_none h'] at h; exact absurd h (by simp)
section
variable {PT TT : TypeId} {B : Nat → Prop} {w w1 w2 : World}
theorem Fr.refl (w : World) : Fr PT TT B w w := ⟨rfl, rfl, rfl, Nat.le_refl _, fun _ _ h _ => h⟩
theorem Fr.trans (h : Fr PT TT B w w1) (k : Fr PT TT B w1 w2) : Fr PT TT B w w2 :=
  ⟨k.os.trans h.os, k.tape.trans h.tape, k.output.trans h.output, Nat.le_trans h.size k.size, fun i o ho hi => k.block i o (h.block i o ho hi) hi⟩
theorem Fr.of (h : Below w.heap.size w w1) : Fr PT TT B w w1 := ⟨h.os, h.tape, h.output, h.size, fun k o ho _ => by rw [h.block k (heap_lt ho)]; exact ho⟩
theorem Fr.less {B' : Nat → Prop} (h : Fr PT TT B w w1) (hB : ∀ k, B' k → B k) : Fr PT TT B' w w1 := ⟨h.os, h.tape, h.output, h.size, fun k o ho hk => h.block k o ho (hk.imp (hB k) id)⟩
theorem Fr.below {n : Nat} (h : Fr PT TT B w w1) (hn : n ≤ w.heap.size) (hB : ∀ k, k < n → B k) : Below n w w1 := ⟨h.os, h.tape, h.output, h.size, fun k hk => by
  have hlt : k < w.heap.size := Nat.lt_of_lt_of_le hk hn
  rw [Array.getElem?_eq_getElem hlt]
  exact h.block k _ (Array.getElem?_eq_getElem hlt) (Or.inl (hB k hk))⟩
theorem Fr.set {g i : Nat} {cs : Array Value} {m : Nat × Nat} (hg : w.heap[g]? = some (.cells cs PT m)) (hB : ¬ B g) (u : Value) : Fr PT TT B w (w.setCell ⟨g, i, none⟩ u) :=
  ⟨rfl, rfl, rfl, by simp [World.setCell], fun k o ho hk => by
    by_cases e : k = g
    · subst e
      rw [hg] at ho; cases ho
      rcases hk with hk | hk
      · exact absurd hk hB
      · simp [isPT] at hk
    · rw [Below.heap_setCell _ _ _ _ e]; exact ho⟩
theorem Fr.grown {row : Option Nat} (h : w.grownBy w1 row) (hr : ∀ k, row = some k → ¬ B k ∧ ∃ cs m, w.heap[k]? = some (.cells cs TT m)) : Fr PT TT B w w1 :=
  ⟨h.os, h.tape, h.output, h.size, fun k o ho hk => by
    by_cases e : row = some k
    · obtain ⟨hb, cs, m, hc⟩ := hr k e
      rw [hc] at ho; cases ho
      rcases hk with hk | hk
      · exact absurd hk hb
      · simp [isPT] at hk
    · rw [h.block k (heap_lt ho) (fun e' => e e'.symm)]; exact ho⟩
theorem Fr.drew (h : Fr PT TT B w w1) : Fr PT TT B w w1.drew := ⟨h.os, h.tape, h.output, h.size, h.block⟩
theorem Fr.cell {g : Nat} {cs : Array Value} {T : TypeId} {m : Nat × Nat} (h : Fr PT TT B w w1) (hg : w.heap[g]? = some (.cells cs T m)) (hT : (T == PT || T == TT) = false) : w1.heap[g]? = some (.cells cs T m) := h.block g _ hg (Or.inr hT)
end
def nd4 (x : Nd) : List Value := [.int .i64 x.op, .int .i64 x.n, .int .i64 x.lo, .int .i64 x.hi]
def nds (e : List Nd) : List Value := e.flatMap nd4
theorem nds_len (e : List Nd) : (nds e).length = e.length * 4 := by
  induction e with
  | nil => rfl
  | cons x r ih => simp only [nds, List.flatMap_cons, List.length_append] at *; rw [ih]; simp [nd4]; omega
theorem nds_app (a b : List Nd) : nds (a ++ b) = nds a ++ nds b := by simp [nds]
structure Rd (w : World) (v : Value) (e : List Nd) : Prop where
  out : ∃ ao cap, v = .slice ao e.length cap ∧ (ao = none → e.length = 0 ∧ cap = 0) ∧ e.length ≤ cap ∧ cap ≤ maxLen ∧ ∀ b, ao = some b → ∀ j u, (nds e)[j]? = some u → w.cell? (b.add j) = some u
def OwnN (B : Nat) (w : World) (v : Value) (e : List Nd) : Prop := w.ownsRow B 79 4 v e.length (nds e)
theorem OwnN.rd {B : Nat} {w : World} {v : Value} {e : List Nd} (h : OwnN B w v e) : Rd w v e := by
  have h' := h
  obtain ⟨h1, h2⟩ := h
  rcases h2 with ⟨rfl, hn⟩ | ⟨g, cap, cur, rfl, hg, hh, hcap, hm, hs, ht⟩
  · exact ⟨none, 0, by rw [hn], fun _ => ⟨hn, rfl⟩, by omega, by simp, by simp⟩
  · refine ⟨some ⟨g, 0, none⟩, cap, rfl, by simp, hcap, hm, fun b hb j u hu => ?_⟩
    obtain rfl := Option.some.inj hb
    exact World.ownsRow.cells h' rfl j u hu
theorem Rd.below {w w' : World} {v : Value} {e : List Nd} (h : Rd w v e) (hb : Below w.heap.size w w') : Rd w' v e := by
  obtain ⟨ao, cap, hv, h0, h1, h2, hc⟩ := h.out
  refine ⟨ao, cap, hv, h0, h1, h2, fun b hb' j u hu => ?_⟩
  have h3 := hc b hb' j u hu
  rw [hb.cell (World.block_lt_of_cell? w _ h3)]; exact h3
theorem OwnN.fr {PT TT : TypeId} {B : Nat → Prop} {B' : Nat} {w w1 : World} {v : Value} {e : List Nd} (h : OwnN B' w v e) (hf : Fr PT TT B w w1) (hT : ((79 : Nat) == PT || (79 : Nat) == TT) = false) : OwnN B' w1 v e := by
  obtain ⟨h1, h2⟩ := h
  refine ⟨h1, ?_⟩
  rcases h2 with h2 | ⟨g, cap, cur, hv, hg, hh, r⟩
  · exact Or.inl h2
  · exact Or.inr ⟨g, cap, cur, hv, hg, hf.cell hh hT, r⟩
theorem OwnN.mono {B B' : Nat} {w : World} {v : Value} {e : List Nd} (h : OwnN B' w v e) (hb : B ≤ B') : OwnN B w v e := by
  obtain ⟨h1, h2⟩ := h
  refine ⟨h1, ?_⟩
  rcases h2 with h2 | ⟨g, cap, cur, hv, hg, r⟩
  · exact Or.inl h2
  · exact Or.inr ⟨g, cap, cur, hv, by omega, r⟩
def tokS (s : ByteArray) (n : Nat × Nat) : List Value := [.int .i64 1, .string (s.extract n.1 n.2), .int .i64 (n.1 : Nat)]
def toks (s : ByteArray) (ns : List (Nat × Nat)) : List Value := ns.flatMap (tokS s)
def OwnT (B : Nat → Prop) (w : World) (v : Value) (n : Nat) (xs : List Value) : Prop := w.ownsRow 0 108 3 v n xs ∧ ∀ k, v.ownBlock = some k → ¬ B k
structure Par (w : World) (g : Nat) (B : Nat → Prop) (s : ByteArray) (nl : Bool) (σ : PS) : Prop where
  here : ∃ v, w.heap[g]? = some (.cells #[.string s, .int .i64 (σ.pos : Nat), .bool nl, v, .bool σ.bad] 104 (0, 0)) ∧ OwnT B w v σ.names.length (toks s σ.names)
  le : σ.pos ≤ s.size
  base : ¬ B g
  len : s.size ≤ 8000
  few : σ.names.length ≤ σ.pos
  bnd : ∀ k, B k → k < w.heap.size
abbrev FrP := Fr 104 108
abbrev FrQ := Fr 104 104
theorem Fr.wide {PT TT : TypeId} {B : Nat → Prop} {w w' : World} (h : Fr PT PT B w w') : Fr PT TT B w w' :=
  ⟨h.os, h.tape, h.output, h.size, fun k o ho hk => h.block k o ho (by
    rcases hk with hk | hk
    · exact Or.inl hk
    · refine Or.inr ?_
      cases o <;> simp_all [isPT])⟩
theorem Fr.setNew {PT TT : TypeId} {B : Nat → Prop} {g i : Nat} {w w1 : World} (h : Fr PT TT B w w1) (hg : w.heap.size ≤ g) (u : Value) : Fr PT TT B w (w1.setCell ⟨g, i, none⟩ u) :=
  ⟨h.os, h.tape, h.output, by simpa [World.setCell] using h.size, fun k o ho hk => by
    have hlt := heap_lt ho
    rw [Below.heap_setCell _ _ _ _ (by show k ≠ g; omega)]
    exact h.block k o ho hk⟩
theorem row_cell {w : World} {g i : Nat} {cs : Array Value} {T : TypeId} {m : Nat × Nat} (h : w.heap[g]? = some (.cells cs T m)) (x : Value) : (w.setCell ⟨g, i, none⟩ x).heap[g]? = some (.cells (cs.setIfInBounds i x) T m) := by
  rw [setCell_eq_setRow w g i _ _ _ _ h]; exact setRow_heap w g _ _ _ _ h
theorem owns_set {w : World} {B g i : Nat} {cs : Array Value} {T T' : TypeId} {m : Nat × Nat} {sz n : Nat} {v x : Value} {xs : List Value} (h : w.ownsRow B T sz v n xs) (hg : w.heap[g]? = some (.cells cs T' m)) (hT : T ≠ T') : (w.setCell ⟨g, i, none⟩ x).ownsRow B T sz v n xs := by
  obtain ⟨h1, h2⟩ := h
  refine ⟨h1, ?_⟩
  rcases h2 with h2 | ⟨g', cap, cur, hv, hg', hh, r⟩
  · exact Or.inl h2
  · refine Or.inr ⟨g', cap, cur, hv, hg', ?_, r⟩
    have hne : g' ≠ g := by
      rintro rfl
      rw [hg] at hh
      cases hh
      exact hT rfl
    rw [Below.heap_setCell _ _ _ _ hne]; exact hh
theorem owns_below {w w' : World} {B : Nat} {T : TypeId} {sz n : Nat} {v : Value} {xs : List Value} (h : w.ownsRow B T sz v n xs) (hb : Below w.heap.size w w') : w'.ownsRow B T sz v n xs := by
  obtain ⟨h1, h2⟩ := h
  refine ⟨h1, ?_⟩
  rcases h2 with h2 | ⟨g', cap, cur, hv, hg', hh, r⟩
  · exact Or.inl h2
  · exact Or.inr ⟨g', cap, cur, hv, hg', by rw [hb.block g' (heap_lt hh)]; exact hh, r⟩
theorem Par.below {w w' : World} {g : Nat} {B : Nat → Prop} {s : ByteArray} {nl : Bool} {σ : PS} (h : Par w g B s nl σ) (hb : Below w.heap.size w w') : Par w' g B s nl σ := by
  obtain ⟨v, hh, ho⟩ := h.here
  exact ⟨⟨v, by rw [hb.block g (heap_lt hh)]; exact hh, ⟨owns_below ho.1 hb, ho.2⟩⟩, h.le, h.base, h.len, h.few, fun k hk => Nat.lt_of_lt_of_le (h.bnd k hk) hb.size⟩
theorem Par.set {w : World} {g : Nat} {B : Nat → Prop} {s : ByteArray} {nl : Bool} {σ : PS} (h : Par w g B s nl σ) (q : Nat) (hq : q ≤ s.size) (hge : σ.pos ≤ q) : Par (w.setCell ⟨g, 1, none⟩ (.int .i64 (q : Nat))) g B s nl { σ with pos := q } := by
  obtain ⟨v, hh, ho⟩ := h.here
  exact ⟨⟨v, row_cell hh _, ⟨owns_set ho.1 hh (by decide), ho.2⟩⟩, hq, h.base, h.len, Nat.le_trans h.few hge, fun k hk => by simpa [World.setCell] using h.bnd k hk⟩
theorem Par.fr {w : World} {g : Nat} {B : Nat → Prop} {s : ByteArray} {nl : Bool} {σ : PS} (h : Par w g B s nl σ) (i : Nat) (u : Value) : FrP B w (w.setCell ⟨g, i, none⟩ u) := by
  obtain ⟨v, hh, ho⟩ := h.here
  exact Fr.set (i := i) hh h.base u
theorem Par.frQ {w : World} {g : Nat} {B : Nat → Prop} {s : ByteArray} {nl : Bool} {σ : PS} (h : Par w g B s nl σ) (i : Nat) (u : Value) : FrQ B w (w.setCell ⟨g, i, none⟩ u) := by
  obtain ⟨v, hh, ho⟩ := h.here
  exact Fr.set (i := i) hh h.base u
def pan (o : Nat) (c : Int) : List PanicEntry := [{ v := .iface 148 (.agg #[.int .i64 (o : Nat), .int .i64 c]), recovered := false }]
def Got {α : Type} (w : World) (g : Nat) (B : Nat → Prop) (s : ByteArray) (nl : Bool) (r : Res α) (val : α → Value → World → Prop) (e : Ending) (w' : World) : Prop :=
  FrP B w w' ∧ match r with
    | .ok a σ => (∃ u, e = .returned u ∧ val a u w') ∧ Par w' g B s nl σ
    | .err c o => e = .panicked (pan o c)
def GotQ {α : Type} (w : World) (g : Nat) (B : Nat → Prop) (s : ByteArray) (nl : Bool) (r : Res α) (val : α → Value → World → Prop) (e : Ending) (w' : World) : Prop :=
  FrQ B w w' ∧ match r with
    | .ok a σ => (∃ u, e = .returned u ∧ val a u w') ∧ Par w' g B s nl σ
    | .err c o => e = .panicked (pan o c)
def Same3 (g : Nat) (w w' : World) : Prop := w'.cell? ⟨g, 3, none⟩ = w.cell? ⟨g, 3, none⟩
theorem GotQ.got {α : Type} {w : World} {g : Nat} {B : Nat → Prop} {s : ByteArray} {nl : Bool} {r : Res α} {val : α → Value → World → Prop} {e : Ending} {w' : World} (h : GotQ w g B s nl r val e w') : Got w g B s nl r val e w' := ⟨h.1.wide, h.2⟩
end Go.Proofs.YthcidkidpiaomaaGreatDoor.Od
end
section
set_option linter.unusedVariables false
namespace Go.Proofs.YthcidkidpiaomaaGreatDoor.Rg
open Go.RowKit
theorem gd {a : Array Value} {i : Nat} {d v : Value} (h : a.getD i d = v) : a[i]?.getD d = v := by rw [Array.getD_eq_getD_getElem?] at h; exact h
structure Stp (n : Nat) (w w' : World) : Prop where
  low : Below n w w'
  cells : ∀ a v, w.cell? a = some v → w'.cell? a = some v
theorem Stp.refl (n : Nat) (w : World) : Stp n w w := ⟨Below.refl _ _, fun _ _ h => h⟩
theorem Stp.of {n : Nat} {w w' : World} (hn : n ≤ w.heap.size) (h : Below w.heap.size w w') : Stp n w w' := ⟨h.mono hn, fun a v hv => by rw [h.cell (World.block_lt_of_cell? w _ hv)]; exact hv⟩
structure Tab where
  S : Nat → Value → World → Prop
  strict : Bool
  mono : ∀ i v w w', S i v w → (∀ a v, w.cell? a = some v → w'.cell? a = some v) → (strict = true → Below w.heap.size w w') → S i v w'
def Got (T : Tab) (ops : Array Oper) (j : Nat) (a : Act) (w : World) : Prop := ∀ o d, ops[j]? = some o → o.dst = some d → T.S j (a.tmps.getD d undef) w
def Old (ops : Array Oper) (a0 a : Act) : Prop := ∀ t, (ops.all fun o => o.dst != some t) = true → a.tmps.getD t undef = a0.tmps.getD t undef
structure Good (T : Tab) (ops us : Array Oper) (a0 : Act) (w0 : World) (listed : Array Bool) (a : Act) (w : World) : Prop where
  defs : a.defers = a0.defers
  size : a.tmps.size = a0.tmps.size
  len : listed.size = ops.size
  below : Below w0.heap.size w0 w
  old : Old us a0 a
  got : ∀ i, listed.getD i false = true → Got T ops i a w
def StepOk (P : Program) (T : Tab) (ops us : Array Oper) (Q : Exit → Act → World → Prop) (a0 : Act) (w0 : World) (i : Nat) (o : Oper) : Prop :=
  ∀ (a : Act) (w : World), a.tmps.size = a0.tmps.size → Below w0.heap.size w0 w → Old us a0 a → (∀ e ∈ o.after.toList, Region.binds .any e = true → Got T ops e.on a w) →
    (Region.wanted o (yielded ops a.tmps) = true ∧ o.wp P a w (fun a' w' => ∃ v, a' = a.put o.dst v ∧ Stp w0.heap.size w w' ∧ (T.strict = true → Below w.heap.size w w') ∧ T.S i v w') Q) ∨ (Region.wanted o (yielded ops a.tmps) = false ∧ T.S i undef w)
section
variable {P : Program} {T : Tab} {ops us : Array Oper} {Q : Exit → Act → World → Prop} {a0 : Act} {w0 : World}
theorem put_defers (a : Act) (d : Option Tmp) (v : Value) : (a.put d v).defers = a.defers := by cases d <;> rfl
theorem put_size (a : Act) (d : Option Tmp) (v : Value) : (a.put d v).tmps.size = a.tmps.size := by cases d <;> simp [Act.put]
theorem put_other (a : Act) (d : Option Tmp) (v : Value) (t : Tmp) (h : d ≠ some t) : (a.put d v).tmps.getD t undef = a.tmps.getD t undef := by
  cases d with
  | none => rfl
  | some d =>
    have hne : d ≠ t := fun e => h (by rw [e])
    simp [Act.put, Array.getD_eq_getD_getElem?, hne]
theorem put_same (a : Act) (d : Tmp) (v : Value) (h : d < a.tmps.size) : (a.put (some d) v).tmps.getD d undef = v := by
  simp [Act.put, Array.getD_eq_getD_getElem?, h]
theorem Good.next {listed : Array Bool} {a : Act} {w w' : World} {i : Nat} {o : Oper} {v : Value} (h : Good T ops us a0 w0 listed a w) (hi : ops[i]? = some o) (hu : o ∈ us)
    (hdst : ∀ (i j : Nat) (o o' : Oper) (d : Tmp), ops[i]? = some o → ops[j]? = some o' → o.dst = some d → o'.dst = some d → i = j) (hsz : ∀ (i : Nat) (o : Oper) (d : Tmp), ops[i]? = some o → o.dst = some d → d < a0.tmps.size)
    (hb : Stp w0.heap.size w w') (hbs : T.strict = true → Below w.heap.size w w') (hv : T.S i v w') : Good T ops us a0 w0 (listed.setIfInBounds i true) (a.put o.dst v) w' := by
  have hbw : Below w0.heap.size w0 w' := h.below.trans hb.low
  refine ⟨by rw [put_defers]; exact h.defs, by rw [put_size]; exact h.size, by simpa using h.len, hbw, fun t ht => ?_, fun j hj => ?_⟩
  · rw [put_other, h.old t ht]
    intro e
    have := Array.all_eq_true_iff_forall_mem.1 ht o hu
    simp [e] at this
  · intro o' d ho' hd
    by_cases hij : j = i
    · subst hij
      rw [hi] at ho'; cases ho'
      rw [hd, put_same _ _ _ (by rw [h.size]; exact hsz j o d hi hd)]
      exact hv
    · rw [put_other _ _ _ _ (fun e => hij (hdst j i o' o d ho' hi hd e))]
      have hj' : listed.getD j false = true := by
        rw [Array.getD_eq_getD_getElem?, Array.getElem?_setIfInBounds, if_neg (fun e => hij e.symm)] at hj
        rw [Array.getD_eq_getD_getElem?]; exact hj
      exact T.mono _ _ _ _ (h.got j hj' o' d ho' hd) hb.cells hbs
theorem mem_ready {listed : Array Bool} {i : Nat} (h : i ∈ Region.ready .any ops listed) : ∃ o, ops[i]? = some o ∧ listed.getD i true = false ∧ ∀ e ∈ o.after.toList, Region.binds .any e = true → listed.getD e.on false = true := by
  simp only [Region.ready, List.mem_filter, Bool.and_eq_true, Bool.not_eq_true'] at h
  obtain ⟨_, h1, h2⟩ := h
  cases ho : ops[i]? with
  | none => rw [ho] at h2; simp at h2
  | some o =>
    rw [ho] at h2
    simp only [Option.map_some, Option.getD_some] at h2
    refine ⟨o, rfl, h1, fun e he hb => ?_⟩
    have := Array.all_eq_true_iff_forall_mem.1 h2 e (by simpa using he)
    rw [hb] at this
    simpa using this
def AllOk (P : Program) (T : Tab) (ops us : Array Oper) (Q : Exit → Act → World → Prop) (a0 : Act) (w0 : World) : Nat → List Oper → Prop
  | _, [] => True
  | k, o :: r => StepOk P T ops us Q a0 w0 k o ∧ AllOk P T ops us Q a0 w0 (k + 1) r
theorem AllOk.nil {k : Nat} : AllOk P T ops us Q a0 w0 k [] := trivial
theorem AllOk.cons {k : Nat} {o : Oper} {r : List Oper} (h : StepOk P T ops us Q a0 w0 k o) (t : AllOk P T ops us Q a0 w0 (k + 1) r) : AllOk P T ops us Q a0 w0 k (o :: r) := ⟨h, t⟩
theorem AllOk.at {l : List Oper} : ∀ {k : Nat}, AllOk P T ops us Q a0 w0 k l → ∀ i o, l[i]? = some o → StepOk P T ops us Q a0 w0 (k + i) o := by
  induction l with
  | nil => intro k _ i o h; simp at h
  | cons x r ih =>
    intro k h i o ho
    cases i with
    | zero => simp at ho; subst ho; exact h.1
    | succ i =>
      simp at ho
      have := ih h.2 i o ho
      rwa [show k + 1 + i = k + (i + 1) by omega] at this
def noDup : List Nat → Bool
  | [] => true
  | x :: r => !(r.any (Nat.beq x)) && noDup r
theorem nodup_of : ∀ {l : List Nat}, noDup l = true → l.Nodup := by
  intro l
  induction l with
  | nil => intro _; exact List.nodup_nil
  | cons x r ih =>
    intro h
    simp only [noDup, Bool.and_eq_true, Bool.not_eq_true'] at h
    refine List.nodup_cons.2 ⟨fun hm => ?_, ih h.2⟩
    have := List.any_eq_false.1 h.1 x hm
    simp at this
def slotsOk (ops : List Oper) (n : Nat) : Bool := ((ops.filterMap (·.dst)).all fun d => Nat.blt d n) && noDup (ops.filterMap (·.dst))
theorem slots_lt {l : List Oper} {n : Nat} (h : slotsOk l n = true) : ∀ (i : Nat) (o : Oper) (d : Tmp), l[i]? = some o → o.dst = some d → d < n := by
  intro i o d hi hd
  simp only [slotsOk, Bool.and_eq_true] at h
  have := List.all_eq_true.1 h.1 d (List.mem_filterMap.2 ⟨o, List.mem_of_getElem? hi, hd⟩)
  simpa [Nat.blt_eq] using this
theorem slots_ne {l : List Oper} {n : Nat} (h : slotsOk l n = true) : ∀ (i j : Nat) (o o' : Oper) (d : Tmp), l[i]? = some o → l[j]? = some o' → o.dst = some d → o'.dst = some d → i = j := by
  simp only [slotsOk, Bool.and_eq_true] at h
  have hn := nodup_of h.2
  clear h
  induction l with
  | nil => intro i j o o' d hi; simp at hi
  | cons x r ih =>
    intro i j o o' d hi hj hd hd'
    have hr : (r.filterMap (·.dst)).Nodup := by
      cases hx : x.dst with
      | none => simpa [List.filterMap_cons, hx] using hn
      | some y => rw [List.filterMap_cons, hx] at hn; exact (List.nodup_cons.1 hn).2
    cases i with
    | zero =>
      cases j with
      | zero => rfl
      | succ j =>
        simp at hi hj
        subst hi
        rw [List.filterMap_cons, hd] at hn
        exact absurd (List.mem_filterMap.2 ⟨o', List.mem_of_getElem? hj, hd'⟩) (List.nodup_cons.1 hn).1
    | succ i =>
      cases j with
      | zero =>
        simp at hi hj
        subst hj
        rw [List.filterMap_cons, hd'] at hn
        exact absurd (List.mem_filterMap.2 ⟨o, List.mem_of_getElem? hi, hd⟩) (List.nodup_cons.1 hn).1
      | succ j =>
        simp at hi hj
        rw [ih hr i j o o' d hi hj hd hd']
def edgesOk : Nat → List Oper → Bool
  | _, [] => true
  | k, o :: r => (o.after.toList.all fun e => !Region.binds .any e || decide (e.on < k)) && edgesOk (k + 1) r
theorem edges_lt {l : List Oper} : ∀ {k : Nat}, edgesOk k l = true → ∀ (i : Nat) (o : Oper), l[i]? = some o → ∀ e ∈ o.after.toList, Region.binds .any e = true → e.on < k + i := by
  induction l with
  | nil => intro k _ i o h; simp at h
  | cons x r ih =>
    intro k h i o ho e he hb
    simp only [edgesOk, Bool.and_eq_true] at h
    cases i with
    | zero =>
      simp at ho; subst ho
      have := List.all_eq_true.1 h.1 e he
      rw [hb] at this
      simpa using this
    | succ i =>
      simp at ho
      have := ih h.2 i o ho e he hb
      omega
theorem all_listed {l : List Oper} (h : edgesOk 0 l = true) {listed : Array Bool} (hsz : listed.size = l.toArray.size) (hr : Region.ready .any l.toArray listed = []) : ∀ i, i < l.toArray.size → listed.getD i false = true := by
  intro i
  induction i using Nat.strongRecOn with
  | ind i ih =>
    intro hi
    cases hl : listed.getD i false with
    | true => rfl
    | false =>
      exfalso
      have hlt : i < listed.size := by omega
      have hl' : listed.getD i true = false := by
        rw [Array.getD_eq_getD_getElem?, Array.getElem?_eq_getElem hlt] at hl ⊢
        simpa using hl
      have hi' : i < l.length := by simpa using hi
      have : i ∈ Region.ready .any l.toArray listed := by
        simp only [Region.ready, List.mem_filter, List.mem_range, Bool.and_eq_true, Bool.not_eq_true']
        refine ⟨hi, hl', ?_⟩
        have ho : l.toArray[i]? = some l[i] := by simp [hi']
        rw [ho]
        simp only [Option.map_some, Option.getD_some]
        rw [← Array.all_toList, List.all_eq_true]
        intro e he
        cases hb : Region.binds .any e with
        | false => rfl
        | true =>
          have := edges_lt h i l[i] (by simp [hi']) e he hb
          rw [ih e.on (by omega) (by omega)]
          rfl
      rw [hr] at this
      cases this
theorem got_of {T : Tab} {ops : Array Oper} {a : Act} {w : World} {o : Oper} {j : Nat} {oj : Oper} {d : Tmp}
    (hgot : ∀ e ∈ o.after.toList, Region.binds .any e = true → Got T ops e.on a w) (hj : ops[j]? = some oj) (hd : oj.dst = some d) (he : (o.after.toList.any fun e => e.on == j && Region.binds .any e) = true) : T.S j (a.tmps.getD d undef) w := by
  obtain ⟨e, hm, hh⟩ := List.any_eq_true.1 he
  simp only [Bool.and_eq_true, beq_iff_eq] at hh
  have := hgot e hm hh.2
  rw [hh.1] at this
  exact this oj d hj hd
theorem wanted_none {o : Oper} {f : Nat → Option Bool} (h : o.guard = none) : Region.wanted o f = true := by simp [Region.wanted, h]
theorem yielded_of {ops : Array Oper} {a : Act} {j : Nat} {oj : Oper} {d : Tmp} {b : Bool} (hj : ops[j]? = some oj) (hd : oj.dst = some d) (hv : a.tmps.getD d undef = .bool b) : yielded ops a.tmps j = some b := by
  have : a.tmps[d]? = some (.bool b) := by
    rw [Array.getD_eq_getD_getElem?] at hv
    cases h : a.tmps[d]? with
    | none => rw [h] at hv; cases hv
    | some x => rw [h] at hv; simp at hv; rw [hv]
  simp [yielded, hj, hd, this]
theorem wanted_of {ops : Array Oper} {a : Act} {o : Oper} {j : Nat} {oj : Oper} {d : Tmp} {b c : Bool} (hg : o.guard = some (j, b)) (hj : ops[j]? = some oj) (hd : oj.dst = some d) (hv : a.tmps.getD d undef = .bool c) : Region.wanted o (yielded ops a.tmps) = (c == b) := by
  simp only [Region.wanted, hg, yielded_of hj hd hv]
  rfl
theorem wp_value {P : Program} {T : Tab} {Q : Exit → Act → World → Prop} {n i : Nat} {o : Oper} {a : Act} {w w' : World} {v : Value} (hn : n ≤ w.heap.size) (hr : (execOp a.eval o).run P w = .ok (.value v) w') (hb : Below w.heap.size w w') (hv : T.S i v w') :
    o.wp P a w (fun a' w' => ∃ v, a' = a.put o.dst v ∧ Stp n w w' ∧ (T.strict = true → Below w.heap.size w w') ∧ T.S i v w') Q := by
  unfold Oper.wp
  rw [hr, Oper.upon_value]
  exact ⟨v, rfl, .of hn hb, fun _ => hb, hv⟩
theorem wv {P : Program} {T : Tab} {Q : Exit → Act → World → Prop} {ops : Array Oper} {i : Nat} {o : Oper} {a : Act} {w0 w : World} {v : Value} (hb : Below w0.heap.size w0 w) (hg : o.guard = none) (hr : (execOp a.eval o).run P w = .ok (.value v) w) (hv : T.S i v w) :
    (Region.wanted o (yielded ops a.tmps) = true ∧ o.wp P a w (fun a' w' => ∃ v, a' = a.put o.dst v ∧ Stp w0.heap.size w w' ∧ (T.strict = true → Below w.heap.size w w') ∧ T.S i v w') Q) ∨ (Region.wanted o (yielded ops a.tmps) = false ∧ T.S i undef w) :=
  Or.inl ⟨wanted_none hg, wp_value hb.size hr (Below.refl _ _) hv⟩
theorem wp_calls {P : Program} {T : Tab} {Q : Exit → Act → World → Prop} {n i : Nat} {o : Oper} {a : Act} {w : World} {f : Nat} {args : Array Value} (hn : n ≤ w.heap.size) (hr : (execOp a.eval o).run P w = .ok (.enter f args) w)
    (hc : Calls P f args w fun e w' => ∃ v, e = .returned v ∧ Below w.heap.size w w' ∧ T.S i v w') :
    o.wp P a w (fun a' w' => ∃ v, a' = a.put o.dst v ∧ Stp n w w' ∧ (T.strict = true → Below w.heap.size w w') ∧ T.S i v w') Q := by
  unfold Oper.wp
  rw [hr, Oper.upon_enter]
  refine hc.mono ?_
  rintro e w' ⟨v, rfl, hb, hv⟩
  exact ⟨v, rfl, .of hn hb, fun _ => hb, hv⟩
end
end Go.Proofs.YthcidkidpiaomaaGreatDoor.Rg
end
