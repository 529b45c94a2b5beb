/- OdM OdN OdV OdO -/
import Derived.Defers
import Derived.Recover
import Derived.RegionTactic
import Derived.Laws.Pointers
import Derived.Laws.NewBlocks
import Derived.Deep.QuietTactic
import Derived.BigQuiet
import Derived.Laws.OwnMore
import Derived.Test.YthcidkidpiaomaaGreatDoorKb17
import Derived.Test.YthcidkidpiaomaaGreatDoorKb08
import Derived.Test.YthcidkidpiaomaaGreatDoorKb09
section
set_option linter.unusedVariables false
set_option linter.unusedSimpArgs false
namespace Go.Proofs.YthcidkidpiaomaaGreatDoor.Od
open Go.RowKit Rg
theorem opnd_factor (s : ByteArray) (nl : Bool) (n : Nat) (ih : Meets 93 s nl (Od.sum nl s.data.toList n) n) : Opnd 154 s nl (Od.factor nl s.data.toList (Od.sum nl s.data.toList n) (s.data.toList.length + 1)) (n + 1) where
  meets := fun w g B σ h hT hn => factor_any s nl _ (n + 1) (Gr.sum n) (atom_any s nl _ n (Gr.sum n) ih) (s.data.toList.length + 1) w g B σ h hT hn (by have h1 : s.data.toList.length = s.size := rfl; omega)
  gr := Gr.factor (Gr.sum n) _
  goes := (Goes.factor (Goes.sum n) _).mono (Nat.zero_le _)
  enters := enters_factor
theorem opnd_product (s : ByteArray) (nl : Bool) (n : Nat) (ih : Meets 93 s nl (Od.sum nl s.data.toList n) n) : Opnd 132 s nl (Od.product nl s.data.toList (Od.sum nl s.data.toList n) (s.data.toList.length + 1)) (n + 1) where
  meets := product_any s nl _ (n + 1) (s.data.toList.length + 1) (by have h1 : s.data.toList.length = s.size := rfl; omega) (opnd_factor s nl n ih)
  gr := Gr.product (Gr.sum n) _
  goes := (Goes.product (Goes.sum n) _).mono (Nat.zero_le _)
  enters := enters_product
theorem sum_any (s : ByteArray) (nl : Bool) : ∀ n, Meets 93 s nl (Od.sum nl s.data.toList n) n
  | 0 => fun w g B σ h hT hn => by have := h.le; omega
  | n + 1 => sum_over s nl _ (n + 1) (s.data.toList.length + 1) (by have h1 : s.data.toList.length = s.size := rfl; omega) (opnd_product s nl n (sum_any s nl n))
end Go.Proofs.YthcidkidpiaomaaGreatDoor.Od
end
section
set_option linter.unusedVariables false
set_option linter.unusedSimpArgs false
namespace Go.Proofs.YthcidkidpiaomaaGreatDoor.Od
open Go.RowKit Rg
theorem assert_err (o c : Int) (w : World) : (Instr.typeAssert (.iface 148 (.agg #[.int .i64 o, .int .i64 c])) 20 148 true).run Tryz.prog w = .ok (.tuple #[.agg #[.int .i64 o, .int .i64 c], .bool true]) w := by kernel_rfl
theorem assert_nil (w : World) : (Instr.typeAssert .nilIface 20 148 true).run Tryz.prog w = .ok (.tuple #[.agg #[.int .i64 0, .int .i64 0], .bool false]) w := by kernel_rfl
set_option maxRecDepth 100000 in
set_option maxHeartbeats 8000000 in
theorem handle_nil (p1 p2 : Option Addr) (w : World) :
    Calls Tryz.prog 84 #[.nilIface, .pointer p1, .pointer p2] w fun e w' => e = .returned (.tuple #[]) ∧ Below w.heap.size w w' := by
  have hta := assert_nil
  go_enter Tryz.func84, Tryz.ntmps84
  go_wp2_with fail
  go_end0
  exact ⟨rfl, (Below.refl _ _).alloc (Nat.le_refl _) _⟩
set_option maxRecDepth 100000 in
set_option maxHeartbeats 8000000 in
theorem handle_err (o : Nat) (c : Int) (g1 g2 : Nat) (hne : g1 ≠ g2) (w : World) (x1 x2 : Value) (h1 : w.heap[g1]? = some (.cells #[x1] 3 (0, 0))) (h2 : w.heap[g2]? = some (.cells #[x2] 47 (0, 0))) :
    Calls Tryz.prog 84 #[.iface 148 (.agg #[.int .i64 (o : Nat), .int .i64 c]), .pointer (some ⟨g1, 0, none⟩), .pointer (some ⟨g2, 0, none⟩)] w
      fun e w' => e = .returned (.tuple #[]) ∧ Below (min g1 g2) w w' ∧ w'.heap[g1]? = some (.cells #[.int .i64 (o : Nat)] 3 (0, 0)) ∧ w'.heap[g2]? = some (.cells #[.int .i64 c] 47 (0, 0)) := by
  have hta := assert_err (o : Nat) c
  have hl1 := lt_of h1
  have hl2 := lt_of h2
  have HF : Aside (∀ X, X = (((w.setCell ⟨g1, 0, none⟩ (.int .i64 (o : Nat))).setCell ⟨g2, 0, none⟩ (.int .i64 c)).alloc (.cells #[.int .i64 (o : Nat), .int .i64 c] 148)).drew →
      Below (min g1 g2) w X ∧ X.heap[g1]? = some (.cells #[.int .i64 (o : Nat)] 3 (0, 0)) ∧ X.heap[g2]? = some (.cells #[.int .i64 c] 47 (0, 0))) := ⟨by
    rintro X rfl
    have b1 := row_cell (i := 0) h1 (.int .i64 (o : Nat))
    have b2 : (w.setCell ⟨g1, 0, none⟩ (.int .i64 (o : Nat))).heap[g2]? = some (.cells #[x2] 47 (0, 0)) := by rw [Below.heap_setCell _ _ _ _ (fun e => hne e.symm)]; exact h2
    have d1 : ((w.setCell ⟨g1, 0, none⟩ (.int .i64 (o : Nat))).setCell ⟨g2, 0, none⟩ (.int .i64 c)).heap[g1]? = some (.cells #[.int .i64 (o : Nat)] 3 (0, 0)) := by rw [Below.heap_setCell _ _ _ _ hne]; exact b1
    have d2 : ((w.setCell ⟨g1, 0, none⟩ (.int .i64 (o : Nat))).setCell ⟨g2, 0, none⟩ (.int .i64 c)).heap[g2]? = some (.cells #[.int .i64 c] 47 (0, 0)) := row_cell (i := 0) b2 (.int .i64 c)
    refine ⟨((((Below.refl _ _).setCell (by show min g1 g2 ≤ g1; omega) _).setCell (by show min g1 g2 ≤ g2; omega) _).alloc (by simp only [World.setCell]; simp; omega) _).drew, ?_, ?_⟩
    · show (World.alloc _ _).heap[g1]? = _
      rw [Below.heap_alloc _ _ _ (lt_of d1)]; exact d1
    · show (World.alloc _ _).heap[g2]? = _
      rw [Below.heap_alloc _ _ _ (lt_of d2)]; exact d2⟩
  have e1 : (w.alloc (.cells #[.int .i64 (o : Nat), .int .i64 c] 148)).cell? ⟨g1, 0, none⟩ = some x1 := by rw [World.cell?_alloc_past _ _ _ hl1, cell_of_row _ _ 0 _ _ _ h1]; rfl
  have e2 : (w.alloc (.cells #[.int .i64 (o : Nat), .int .i64 c] 148)).cell? ⟨g2, 0, none⟩ = some x2 := by rw [World.cell?_alloc_past _ _ _ hl2, cell_of_row _ _ 0 _ _ _ h2]; rfl
  have e3 : (w.alloc (.cells #[.int .i64 (o : Nat), .int .i64 c] 148)).cell? ⟨w.heap.size, 0, none⟩ = some (.int .i64 (o : Nat)) := by rw [cell_of_row _ _ 0 _ _ _ (heap_alloc_last w _)]; rfl
  have e4 : (w.alloc (.cells #[.int .i64 (o : Nat), .int .i64 c] 148)).cell? ⟨w.heap.size, 1, none⟩ = some (.int .i64 c) := by rw [cell_of_row _ _ 1 _ _ _ (heap_alloc_last w _)]; rfl
  have c1 : w.cell? ⟨g1, 0, none⟩ = some x1 := by rw [cell_of_row _ _ 0 _ _ _ h1]; rfl
  have c2 : w.cell? ⟨g2, 0, none⟩ = some x2 := by rw [cell_of_row _ _ 0 _ _ _ h2]; rfl
  have hne' : g2 ≠ g1 := fun e => hne e.symm
  have z1 : w.frozen? ⟨g1, 0, none⟩ = false := by simp [World.frozen?, h1]
  have z2 : w.frozen? ⟨g2, 0, none⟩ = false := by simp [World.frozen?, h2]
  clear h1 h2
  go_enter Tryz.func84, Tryz.ntmps84
  go_wp2_with fail
  go_region
  all_goals
    go_wp2_with fail
    go_end0
    exact ⟨rfl, HF.out _ rfl⟩
def CloMode (F : Nat) (g1 g2 : Nat) (x1 x2 : Value) : Prop :=
  (∀ w, CallsD Tryz.prog F #[.pointer (some ⟨g1, 0, none⟩), .pointer (some ⟨g2, 0, none⟩)] .returning w fun e u' w' => e = .returned (.tuple #[]) ∧ u' = .returning ∧ Below w.heap.size w w') ∧
  (∀ (o : Nat) (c : Int) (older : List PanicEntry) w, w.heap[g1]? = some (.cells #[x1] 3 (0, 0)) → w.heap[g2]? = some (.cells #[x2] 47 (0, 0)) →
    CallsD Tryz.prog F #[.pointer (some ⟨g1, 0, none⟩), .pointer (some ⟨g2, 0, none⟩)] (.panicking ({ v := .iface 148 (.agg #[.int .i64 (o : Nat), .int .i64 c]), recovered := false } :: older)) w fun e u' w' =>
      e = .returned (.tuple #[]) ∧ u' = .panicking ({ v := .iface 148 (.agg #[.int .i64 (o : Nat), .int .i64 c]), recovered := true } :: older) ∧
        Below (min g1 g2) w w' ∧ w'.heap[g1]? = some (.cells #[.int .i64 (o : Nat)] 3 (0, 0)) ∧ w'.heap[g2]? = some (.cells #[.int .i64 c] 47 (0, 0)))
set_option maxRecDepth 100000 in
theorem clo_expr (g1 g2 : Nat) (hne : g1 ≠ g2) (x1 x2 : Value) : CloMode 92 g1 g2 x1 x2 := by
  refine ⟨fun w => ?_, fun o c older w h1 h2 => ?_⟩
  · refine callsD_of_wpS Tryz.func92 rfl fun c₀ cs hu => ?_
    apply wpS_region
    simp [wpOpsS, go_sem, recoverD, hu, Tryz.ntmps92, Exit.thenS]
    refine (handle_nil _ _ w).mono ?_
    rintro e w' ⟨rfl, hb⟩
    cases c₀
    simp_all [bodyPostS, results, Tryz.results92]
  · refine callsD_of_wpS Tryz.func92 rfl fun c₀ cs hu => ?_
    apply wpS_region
    simp [wpOpsS, go_sem, recoverD, hu, Tryz.ntmps92, Exit.thenS]
    refine (handle_err o c g1 g2 hne w x1 x2 h1 h2).mono ?_
    rintro e w' ⟨rfl, hb, k1, k2⟩
    simp [bodyPostS, results, Tryz.results92, hb, k1, k2]
set_option maxRecDepth 100000 in
theorem clo_sys (g1 g2 : Nat) (hne : g1 ≠ g2) (x1 x2 : Value) : CloMode 83 g1 g2 x1 x2 := by
  refine ⟨fun w => ?_, fun o c older w h1 h2 => ?_⟩
  · refine callsD_of_wpS Tryz.func83 rfl fun c₀ cs hu => ?_
    apply wpS_region
    simp [wpOpsS, go_sem, recoverD, hu, Tryz.ntmps83, Exit.thenS]
    refine (handle_nil _ _ w).mono ?_
    rintro e w' ⟨rfl, hb⟩
    cases c₀
    simp_all [bodyPostS, results, Tryz.results83]
  · refine callsD_of_wpS Tryz.func83 rfl fun c₀ cs hu => ?_
    apply wpS_region
    simp [wpOpsS, go_sem, recoverD, hu, Tryz.ntmps83, Exit.thenS]
    refine (handle_err o c g1 g2 hne w x1 x2 h1 h2).mono ?_
    rintro e w' ⟨rfl, hb, k1, k2⟩
    simp [bodyPostS, results, Tryz.results83, hb, k1, k2]
end Go.Proofs.YthcidkidpiaomaaGreatDoor.Od
end
section
set_option linter.unusedVariables false
namespace Go.Proofs.YthcidkidpiaomaaGreatDoor.Od
def ErrAt (L : List UInt8) (c : Int) (o : Nat) : Prop := (c = 70 ∧ o < L.length) ∨ (c = 71 ∧ o = L.length)
def Nice (L : List UInt8) {α : Type} (N0 : Nat) (m : Pr α) (P : α → Nat → Prop) : Prop :=
  ∀ s : PS, s.pos ≤ L.length → (∀ r ∈ s.names, r.1 < L.length) → N0 ≤ s.names.length →
    (∀ a s', m s = .ok a s' → s'.pos ≤ L.length ∧ s.names.length ≤ s'.names.length ∧ (∀ r ∈ s'.names, r.1 < L.length) ∧ P a s'.names.length) ∧ (∀ c o, m s = .err c o → ErrAt L c o)
def All {α : Type} : α → Nat → Prop := fun _ _ => True
def Vrs : Tr → Nat → Prop := fun t N => ∀ x ∈ flat t, x.op = 2 → 0 ≤ x.n ∧ x.n.toNat < N
theorem Vrs.mono {t : Tr} {N N' : Nat} (h : Vrs t N) (hN : N ≤ N') : Vrs t N' := fun x hx ho => by have := h x hx ho; omega
theorem Vrs.un {op : Int} {a : Tr} {N : Nat} (ho : op ≠ 2) (h : Vrs a N) : Vrs (.un op a) N := fun x hx hx2 => by
  rcases List.mem_cons.1 hx with rfl | hx
  · exact absurd hx2 ho
  · exact h x hx hx2
theorem Vrs.bin {op : Int} {a b : Tr} {N : Nat} (ho : op ≠ 2) (h : Vrs a N) (h' : Vrs b N) : Vrs (.bin op a b) N := fun x hx hx2 => by
  rcases List.mem_cons.1 hx with rfl | hx
  · exact absurd hx2 ho
  · rcases List.mem_append.1 hx with hx | hx
    · exact h x hx hx2
    · exact h' x hx hx2
theorem Vrs.num (lo hi : Int) (N : Nat) : Vrs (.num lo hi) N := fun x hx hx2 => by
  obtain rfl := List.mem_singleton.1 hx
  cases hx2
section
variable {nl : Bool} {L : List UInt8} {α β : Type} {N0 : Nat}
theorem Nice.bind {m : Pr α} {f : α → Pr β} {P : α → Nat → Prop} {Q : β → Nat → Prop} (h : Nice L N0 m P) (k : ∀ a N1, N0 ≤ N1 → P a N1 → Nice L N1 (f a) Q) : Nice L N0 (m.bind f) Q := by
  intro s h1 h2 h3
  obtain ⟨ho, he⟩ := h s h1 h2 h3
  cases hm : m s with
  | err c o =>
    refine ⟨fun a s' h => ?_, fun c' o' h => ?_⟩
    · unfold Pr.bind at h; rw [hm] at h; cases h
    · unfold Pr.bind at h; rw [hm] at h; injection h with e1 e2; subst e1; subst e2; exact he _ _ hm
  | ok a s1 =>
    obtain ⟨b1, b2, b3, b4⟩ := ho _ _ hm
    obtain ⟨ko, ke⟩ := k a s1.names.length (by omega) b4 s1 b1 b3 (Nat.le_refl _)
    rw [bind_ok hm]
    refine ⟨fun a' s' h => ?_, ke⟩
    obtain ⟨c1, c2, c3, c4⟩ := ko _ _ h
    exact ⟨c1, by omega, c3, c4⟩
theorem Nice.ret {P : α → Nat → Prop} (a : α) (h : ∀ N, N0 ≤ N → P a N) : Nice L N0 (Pr.ret a) P := by
  intro s h1 h2 h3
  refine ⟨fun a' s' e => ?_, fun c o e => by cases e⟩
  injection e with e1 e2
  subst e1; subst e2
  exact ⟨h1, Nat.le_refl _, h2, h _ h3⟩
theorem Nice.map {m : Pr α} {P : α → Nat → Prop} {Q : β → Nat → Prop} (f : α → β) (h : Nice L N0 m P) (k : ∀ a N1, N0 ≤ N1 → P a N1 → ∀ N, N1 ≤ N → Q (f a) N) : Nice L N0 (m.map f) Q := h.bind fun a N1 h1 h2 => Nice.ret _ (k a N1 h1 h2)
theorem Nice.fail {P : α → Nat → Prop} : Nice L N0 (Od.fail nl L : Pr α) P := by
  intro s h1 h2 h3
  refine ⟨fun a' s' e => (by cases e), fun c o e => ?_⟩
  unfold Od.fail errAt at e
  injection e with e1 e2
  have hk := peekT_ok nl L s.pos h1
  have := hk.le
  have := hk.len
  unfold ErrAt
  simp only at e1 e2
  subst e2
  by_cases h0 : (peekT nl L s.pos).kind = 0
  · rw [if_pos h0] at e1
    exact Or.inr ⟨e1.symm, hk.fin.1 h0⟩
  · rw [if_neg h0] at e1
    refine Or.inl ⟨e1.symm, ?_⟩
    have hne : (peekT nl L s.pos).lo ≠ L.length := fun e => h0 (hk.fin.2 e)
    omega
theorem Nice.at {m : Pr α} {P : α → Nat → Prop} (h : Nice L N0 m P) {s : PS} (h1 : s.pos ≤ L.length) (h2 : ∀ r ∈ s.names, r.1 < L.length) (h3 : N0 ≤ s.names.length) {q : Nat} (hq : q ≤ L.length) :
    (∀ a s', m { s with pos := q } = .ok a s' → s'.pos ≤ L.length ∧ s.names.length ≤ s'.names.length ∧ (∀ r ∈ s'.names, r.1 < L.length) ∧ P a s'.names.length) ∧ (∀ c o, m { s with pos := q } = .err c o → ErrAt L c o) := h { s with pos := q } hq h2 h3
theorem Nice.accept (t : List UInt8) : Nice L N0 (Od.accept nl L t) All := by
  intro s h1 h2 h3
  have hk := peekT_ok nl L s.pos h1
  have hle := hk.le
  have hlen := hk.len
  unfold Od.accept
  by_cases ht : isTok nl L t s.pos = true
  · have := isTok_hi h1 ht
    rw [if_pos ht]
    refine ⟨fun a' s' e => ?_, fun c o e => by cases e⟩
    injection e with e1 e2
    subst e2
    exact ⟨by show (peekT nl L s.pos).lo + t.length ≤ L.length; omega, Nat.le_refl _, h2, trivial⟩
  · rw [if_neg ht]
    refine ⟨fun a' s' e => ?_, fun c o e => by cases e⟩
    injection e with e1 e2
    subst e2
    exact ⟨by show (peekT nl L s.pos).lo ≤ L.length; omega, Nat.le_refl _, h2, trivial⟩
theorem Nice.ite {m m' : Pr α} {P : α → Nat → Prop} (b : Bool) (h : Nice L N0 m P) (h' : Nice L N0 m' P) : Nice L N0 (if b then m else m') P := by
  cases b
  · exact h'
  · exact h
theorem Nice.expect (t : List UInt8) : Nice L N0 (Od.expect nl L t) All := (Nice.accept t).bind fun b N1 _ _ => Nice.ite b (Nice.ret () fun _ _ => trivial) Nice.fail
theorem Nice.number : Nice L N0 (Od.number nl L) All := by
  intro s h1 h2 h3
  have hk := peekT_ok nl L s.pos h1
  have hle := hk.le
  have hlen := hk.len
  unfold Od.number
  simp only
  by_cases h0 : (peekT nl L s.pos).kind = 2
  · rw [if_pos h0]
    refine ⟨fun a' s' e => ?_, fun c o e => by cases e⟩
    injection e with e1 e2
    subst e2
    exact ⟨hlen, Nat.le_refl _, h2, trivial⟩
  · rw [if_neg h0]
    exact Nice.at (Nice.fail (P := All)) h1 h2 h3 (by omega)
theorem Nice.signed : Nice L N0 (Od.signed nl L) All := (Nice.accept _).bind fun b N1 _ _ => Nice.ite b (Nice.number.map _ fun _ _ _ _ _ _ => trivial) Nice.number
theorem Nice.paren {sum : Pr Tr} (h : ∀ N, Nice L N sum Vrs) : Nice L N0 (Od.paren nl L sum) Vrs :=
  (Nice.expect _).bind fun _ N1 _ _ => (h N1).bind fun t N2 _ ht => (Nice.expect _).bind fun _ N3 h3 _ => Nice.ret t fun N hN => ht.mono (by omega)
theorem Nice.bounds : Nice L N0 (Od.bounds nl L) Vrs :=
  Nice.signed.bind fun a _ _ _ => (Nice.expect _).bind fun _ _ _ _ => Nice.signed.bind fun b _ _ _ => (Nice.expect _).bind fun _ _ _ _ => Nice.ret _ fun N _ => Vrs.num _ _ N
theorem Nice.atom {sum : Pr Tr} (h : ∀ N, Nice L N sum Vrs) : Nice L N0 (Od.atom nl L sum) Vrs := by
  intro s h1 h2 h3
  have hk := peekT_ok nl L s.pos h1
  have hle := hk.le
  have hlen := hk.len
  have leaf : ∀ (t : Tr) (q : Nat), (∀ N, Vrs t N) → q ≤ L.length → (∀ a s', (Res.ok t { s with pos := q } : Res Tr) = .ok a s' → s'.pos ≤ L.length ∧ s.names.length ≤ s'.names.length ∧ (∀ r ∈ s'.names, r.1 < L.length) ∧ Vrs a s'.names.length) ∧ (∀ c o, (Res.ok t { s with pos := q } : Res Tr) = .err c o → ErrAt L c o) := by
    intro t q ht hq
    refine ⟨fun a' s' e => ?_, fun c o e => by cases e⟩
    injection e with e1 e2
    subst e1; subst e2
    exact ⟨hq, Nat.le_refl _, h2, ht _⟩
  have un : ∀ op, op ≠ 2 → Nice L N0 ((Od.paren nl L sum).map (Tr.un op)) Vrs := fun op ho => (Nice.paren h).map _ fun a N1 _ ha N hN => Vrs.un ho (ha.mono hN)
  unfold Od.atom
  simp only
  split
  · exact Nice.at (Nice.number.map (Q := Vrs) (fun r => Tr.num r.1 r.2) fun _ _ _ _ N _ => Vrs.num _ _ N) h1 h2 h3 (q := (peekT nl L s.pos).lo) (by omega)
  split
  · rename_i ht
    have := isTok_hi h1 ht
    simp only [List.length_cons, List.length_nil] at this
    exact Nice.at Nice.bounds h1 h2 h3 (by omega)
  split
  · rename_i ht
    have := isTok_hi h1 ht
    simp only [wAll, List.length_cons, List.length_nil] at this
    exact leaf _ _ (Vrs.num _ _) (by omega)
  split
  · rename_i ht
    have := isTok_hi h1 ht
    simp only [wT, List.length_cons, List.length_nil] at this
    exact leaf _ _ (fun N x hx hx2 => by obtain rfl := List.mem_singleton.1 hx; cases hx2) (by omega)
  split
  · rename_i ht
    have := isTok_hi h1 ht
    simp only [wSqr, List.length_cons, List.length_nil] at this
    exact Nice.at (un 5 (by decide)) h1 h2 h3 (by omega)
  split
  · rename_i ht
    have := isTok_hi h1 ht
    simp only [wSqrt, List.length_cons, List.length_nil] at this
    exact Nice.at (un 6 (by decide)) h1 h2 h3 (by omega)
  split
  · rename_i hk1
    have hs := hk.some (Or.inl hk1)
    refine ⟨fun a' s' e => ?_, fun c o e => by cases e⟩
    injection e with e1 e2
    subst e1; subst e2
    refine ⟨hlen, by simp, fun r hr => ?_, fun x hx hx2 => ?_⟩
    · rcases List.mem_append.1 hr with hr | hr
      · exact h2 r hr
      · obtain rfl := List.mem_singleton.1 hr
        show (peekT nl L s.pos).lo < L.length
        omega
    · obtain rfl := List.mem_singleton.1 hx
      simp
  split
  · exact Nice.at (Nice.paren h) h1 h2 h3 (by omega)
  · exact Nice.at Nice.fail h1 h2 h3 (by omega)
theorem Nice.factor {sum : Pr Tr} (h : ∀ N, Nice L N sum Vrs) : ∀ k N0, Nice L N0 (Od.factor nl L sum k) Vrs
  | 0, N0 => Nice.fail
  | k + 1, N0 => (Nice.accept _).bind fun b N1 _ _ => Nice.ite b ((Nice.factor h k N1).map _ fun a N2 _ ha N hN => Vrs.un (by decide) (ha.mono hN)) (Nice.atom h)
theorem Nice.chain {op : Pr Tr} (h : ∀ N, Nice L N op Vrs) (c d : List UInt8) (f g : Int) (hf : f ≠ 2) (hg : g ≠ 2) : ∀ k t N0, Vrs t N0 → Nice L N0 (Od.chain nl L op c d f g k t) Vrs
  | 0, t, N0, ht => Nice.fail
  | k + 1, t, N0, ht => by
    have go : ∀ (o : Int), o ≠ 2 → ∀ N1, N0 ≤ N1 → Nice L N1 (op.bind fun r => Od.chain nl L op c d f g k (Tr.bin o t r)) Vrs := fun o ho N1 h1 => (h N1).bind fun r N2 h2 hr => Nice.chain h c d f g hf hg k _ N2 (Vrs.bin ho (ht.mono (by omega)) hr)
    exact (Nice.accept c).bind fun b N1 h1 _ => Nice.ite b (go f hf N1 h1) ((Nice.accept d).bind fun b N2 h2 _ => Nice.ite b (go g hg N2 (by omega)) (Nice.ret t fun N hN => ht.mono (by omega)))
theorem Nice.product {sum : Pr Tr} (h : ∀ N, Nice L N sum Vrs) (k : Nat) (N0 : Nat) : Nice L N0 (Od.product nl L sum k) Vrs := (Nice.factor h k N0).bind fun e N1 _ he => Nice.chain (fun N => Nice.factor h k N) _ _ _ _ (by decide) (by decide) k e N1 he
theorem Nice.sum : ∀ n N0, Nice L N0 (Od.sum nl L n) Vrs
  | 0, N0 => Nice.fail
  | n + 1, N0 => (Nice.product (Nice.sum n) (L.length + 1) N0).bind fun e N1 _ he => Nice.chain (fun N => Nice.product (Nice.sum n) (L.length + 1) N) _ _ _ _ (by decide) (by decide) (L.length + 1) e N1 he
end
end Go.Proofs.YthcidkidpiaomaaGreatDoor.Od
end
section
set_option linter.unusedVariables false
set_option linter.unusedSimpArgs false
namespace Go.Proofs.YthcidkidpiaomaaGreatDoor.Od
open Go.RowKit Rg
structure Strs (w : World) (v : Value) (xs : List ByteArray) : Prop where
  out : (xs = [] ∧ ∃ ao c, v = .slice ao 0 c) ∨ ∃ b off c, v = .slice (some ⟨b, off, none⟩) xs.length c ∧ xs.length ≤ c ∧ ∀ j, j < xs.length → w.cell? ⟨b, off + j, none⟩ = some (.string xs[j]!)
  few : xs.length ≤ 90000
def strL (xs : List ByteArray) : List (List UInt8) := xs.map fun x => x.data.toList
theorem Strs.below {w w' : World} {v : Value} {xs : List ByteArray} (h : Strs w v xs) (hb : Below w.heap.size w w') : Strs w' v xs := by
  refine ⟨?_, h.few⟩
  rcases h.out with h0 | ⟨b, off, c, hv, hcp, hc⟩
  · exact Or.inl h0
  · exact Or.inr ⟨b, off, c, hv, hcp, fun j hj => by rw [hb.cell (World.block_lt_of_cell? w _ (hc j hj))]; exact hc j hj⟩
theorem Strs.drewN {w : World} {v : Value} {xs : List ByteArray} (h : Strs w v xs) (n : Nat) : Strs (w.drewN n) v xs := h.below ⟨rfl, rfl, rfl, Nat.le_refl _, fun _ _ => rfl⟩
theorem Strs.set {w : World} {v : Value} {xs : List ByteArray} {p : Addr} {k : IntKind} {x : Int} (h : Strs w v xs) (hp : w.cell? p = some (.int k x)) (u : Value) : Strs (w.setCell p u) v xs := by
  refine ⟨?_, h.few⟩
  rcases h.out with h0 | ⟨b, off, c, hv, hcp, hc⟩
  · exact Or.inl h0
  · refine Or.inr ⟨b, off, c, hv, hcp, fun j hj => ?_⟩
    rw [World.cell?_setCell_other (h := fun e => by have := hc j hj; rw [← e, hp] at this; cases this)]
    exact hc j hj
theorem Strs.slice {w : World} {v : Value} {xs : List ByteArray} (h : Strs w v xs) : ∃ ao c, v = .slice ao xs.length c := by
  rcases h.out with ⟨rfl, ao, c, hv⟩ | ⟨b, off, c, hv, -⟩
  · exact ⟨ao, c, hv⟩
  · exact ⟨_, c, hv⟩
theorem idxBy_from (x : ByteArray) : ∀ (zs : List ByteArray) (i : Nat), Lib.idxByFrom (fun x y => x.toList == y.toList) x zs i = match idxOf (strL zs) x.data.toList with | none => -1 | some k => ((i + k : Nat) : Int)
  | [], i => rfl
  | z :: zs, i => by
    have ih := idxBy_from x zs (i + 1)
    unfold Lib.idxByFrom
    unfold idxOf strL at *
    rw [List.map_cons, List.findIdx?_cons]
    by_cases hx : x.toList = z.toList
    · have h2 : z.data.toList = x.data.toList := by rw [ByteArray.toList_eq, ByteArray.toList_eq] at hx; exact hx.symm
      simp [hx, h2]
    · have h2 : ¬ z.data.toList = x.data.toList := fun e => hx (by rw [ByteArray.toList_eq, ByteArray.toList_eq]; exact e.symm)
      simp only [beq_iff_eq, hx, h2, if_false, Bool.false_eq_true]
      rw [ih]
      cases List.findIdx? (fun y => y == x.data.toList) (List.map (fun x => x.data.toList) zs) with
      | none => rfl
      | some k => simp only [Option.map_some]; congr 1; omega
def idxV : Option Nat → Int
  | none => -1
  | some k => (k : Nat)
theorem index_any (w : World) (v : Value) (xs : List ByteArray) (h : Strs w v xs) (x : ByteArray) :
    Calls Tryz.prog 108 #[v, .string x] w fun e w' => e = .returned (.int .i64 (idxV (idxOf (strL xs) x.data.toList))) ∧ w' = w := by
  have hfew := h.few
  rcases h.out with ⟨rfl, ao, c, rfl⟩ | ⟨b, off, c, rfl, -, hc⟩
  · exact Tryz.slices_Index_empty (α := ByteArray) ao c (.string x) w
  · refine (Tryz.slices_Index Value.string _ (EqlAt.string _ _) b off xs.length c xs x w (Nat.le_refl _) (by omega) hc).mono ?_
    rintro e w' ⟨rfl, rfl⟩
    refine ⟨?_, rfl⟩
    rw [List.take_length, Lib.idxBy, idxBy_from]
    cases idxOf (strL xs) x.data.toList with
    | none => rfl
    | some k => simp [idxV]
theorem any_contains (x : ByteArray) : ∀ zs : List ByteArray, (zs.any fun y => x.toList == y.toList) = (strL zs).contains x.data.toList
  | [] => rfl
  | z :: zs => by
    rw [List.any_cons, any_contains x zs]
    unfold strL
    rw [List.map_cons, List.contains_cons, ByteArray.toList_eq, ByteArray.toList_eq]
theorem contains_any (w : World) (v : Value) (xs : List ByteArray) (h : Strs w v xs) (x : ByteArray) :
    Calls Tryz.prog 62 #[v, .string x] w fun e w' => e = .returned (.bool ((strL xs).contains x.data.toList)) ∧ w' = w := by
  have hfew := h.few
  rcases h.out with ⟨rfl, ao, c, rfl⟩ | ⟨b, off, c, rfl, -, hc⟩
  · exact Tryz.slices_Contains_empty (α := ByteArray) ao c (.string x) w
  · refine (Tryz.slices_Contains Value.string _ (EqlAt.string _ _) b off xs.length c xs x w (Nat.le_refl _) (by omega) hc).mono ?_
    rintro e w' ⟨rfl, rfl⟩
    refine ⟨?_, rfl⟩
    rw [List.take_length]
    rw [any_contains]
abbrev FrN := Fr 79 79
theorem Par.frN {w w' : World} {g : Nat} {B K : Nat → Prop} {s : ByteArray} {nl : Bool} {σ : PS} (h : Par w g B s nl σ) (hf : FrN K w w') : Par w' g B s nl σ := by
  obtain ⟨v, hh, ho⟩ := h.here
  refine ⟨⟨v, hf.cell hh (by decide), ?_, ho.2⟩, h.le, h.base, h.len, h.few, fun k hk => Nat.lt_of_lt_of_le (h.bnd k hk) hf.size⟩
  obtain ⟨h1, h2⟩ := ho.1
  refine ⟨h1, ?_⟩
  rcases h2 with h2 | ⟨g', cap, cur, hv, hg, hh, r⟩
  · exact Or.inl h2
  · exact Or.inr ⟨g', cap, cur, hv, hg, hf.cell hh (by decide), r⟩
theorem nds_get : ∀ (e : List Nd) (i : Nat) (x : Nd) (r : Nat), e[i]? = some x → r < 4 → (nds e)[i * 4 + r]? = (nd4 x)[r]?
  | [], i, x, r, h, _ => by cases h
  | y :: e, 0, x, r, h, hr => by
    obtain rfl := Option.some.inj h
    have e1 : nds (y :: e) = nd4 y ++ nds e := rfl
    rw [e1, Nat.zero_mul, Nat.zero_add, List.getElem?_append_left (by simpa [nd4] using hr)]
  | y :: e, i + 1, x, r, h, hr => by
    have e1 : nds (y :: e) = nd4 y ++ nds e := rfl
    have hl : (nd4 y).length = 4 := rfl
    rw [e1, List.getElem?_append_right (by rw [hl]; omega), hl, show (i + 1) * 4 + r - 4 = i * 4 + r by omega]
    exact nds_get e i x r h hr
theorem nds_set : ∀ (e : List Nd) (i : Nat) (x : Nd) (k : Int), e[i]? = some x → (nds e).set (i * 4 + 1) (.int .i64 k) = nds (e.set i { x with n := k })
  | [], i, x, k, h => by cases h
  | y :: e, 0, x, k, h => by
    obtain rfl := Option.some.inj h
    rfl
  | y :: e, i + 1, x, k, h => by
    have e1 : nds (y :: e) = nd4 y ++ nds e := rfl
    have hl : (nd4 y).length = 4 := rfl
    rw [e1, List.set_append, hl, if_neg (by omega), show (i + 1) * 4 + 1 - 4 = i * 4 + 1 by omega, nds_set e i x k h]
    rfl
theorem toks_get (s : ByteArray) : ∀ (e : List (Nat × Nat)) (i : Nat) (x : Nat × Nat) (r : Nat), e[i]? = some x → r < 3 → (toks s e)[i * 3 + r]? = (tokS s x)[r]?
  | [], i, x, r, h, _ => by cases h
  | y :: e, 0, x, r, h, hr => by
    obtain rfl := Option.some.inj h
    have e1 : toks s (y :: e) = tokS s y ++ toks s e := rfl
    rw [e1, Nat.zero_mul, Nat.zero_add, List.getElem?_append_left (by simpa [tokS] using hr)]
  | y :: e, i + 1, x, r, h, hr => by
    have e1 : toks s (y :: e) = tokS s y ++ toks s e := rfl
    have hl : (tokS s y).length = 3 := rfl
    rw [e1, List.getElem?_append_right (by rw [hl]; omega), hl, show (i + 1) * 3 + r - 3 = i * 3 + r by omega]
    exact toks_get s e i x r h hr
theorem resolve_len {L : List UInt8} {N : List (Nat × Nat)} {vars : List (List UInt8)} : ∀ e : List Nd, (resolve L N vars e).1.length = e.length
  | [] => rfl
  | x :: r => by
    have ih := resolve_len (L := L) (N := N) (vars := vars) r
    rw [resolve_cons]
    split
    · split
      · rfl
      · simp [ih]
    · simp [ih]
set_option maxRecDepth 100000 in
set_option maxHeartbeats 8000000 in
theorem resolve_any (w : World) (g : Nat) (B K : Nat → Prop) (s : ByteArray) (nl : Bool) (σ : PS) (h : Par w g B s nl σ) (gv cap : Nat) (e : List Nd) (base n : Nat) (hn : e.length = n) (hn9 : n ≤ 9000) (ho : OwnN base w (.slice (some ⟨gv, 0, none⟩) n cap) e) (hK : ¬ K gv)
    (vv : Value) (xs : List ByteArray) (hs : Strs w vv xs) (hvar : ∀ x ∈ e, x.op = 2 → 0 ≤ x.n ∧ x.n.toNat < σ.names.length) :
    Calls Tryz.prog 86 #[.pointer (some ⟨g, 0, none⟩), .slice (some ⟨gv, 0, none⟩) n cap, vv] w fun e' w' =>
      e' = .returned (.int .i64 (idxV (Od.resolve s.data.toList σ.names (strL xs) e).2)) ∧ OwnN base w' (.slice (some ⟨gv, 0, none⟩) n cap) (Od.resolve s.data.toList σ.names (strL xs) e).1 ∧ FrN K w w' ∧ Strs w' vv xs ∧ Par w' g B s nl σ := by
  have HP := Aside.mk h
  have HN := Aside.mk hn
  have HO := Aside.mk ho
  have HK := Aside.mk hK
  have HS := Aside.mk hs
  have HV := Aside.mk hvar
  clear h hn ho hK hs hvar
  go_enter Tryz.func86, Tryz.ntmps86
  go_wp2_with fail
  go_loopg [12] n (fun m v12 wr => ∃ (i : Nat) (pre : List Nd), v12 = .int .i64 (i : Nat) ∧ Aside (i ≤ n ∧ n - i ≤ m) ∧ Aside (Od.resolve s.data.toList σ.names (strL xs) (e.take i) = (pre, none)) ∧ Aside (OwnN base wr (.slice (some ⟨gv, 0, none⟩) n cap) (pre ++ e.drop i)) ∧ Aside (FrN K w wr) ∧ Aside (Strs wr vv xs) ∧ Aside (Par wr g B s nl σ))
  case atStart => exact ⟨0, [], rfl, ⟨by omega⟩, ⟨rfl⟩, HO, ⟨Fr.refl w⟩, HS, HP⟩
  case round =>
    clear HO HS HP
    obtain ⟨i, pre, rfl, HI, HR, HO, HF, HS, HP⟩ := hrel
    by_cases hi : i < n
    · have hi' : (i : Int) < (n : Int) := by omega
      have hpl : pre.length = i := by
        have := resolve_len (L := s.data.toList) (N := σ.names) (vars := strL xs) (e.take i)
        rw [HR.out] at this
        simp only at this
        rw [this, List.length_take]
        have := HN.out; omega
      obtain ⟨x, hx⟩ : ∃ x, e[i]? = some x := ⟨_, List.getElem?_eq_getElem (by rw [HN.out]; exact hi)⟩
      have hdr : e.drop i = x :: e.drop (i + 1) := by
        obtain ⟨hl, rfl⟩ := List.getElem?_eq_some_iff.1 hx
        exact List.drop_eq_getElem_cons hl
      have hcur : (pre ++ e.drop i)[i]? = some x := by rw [List.getElem?_append_right (by omega), hpl, Nat.sub_self, hdr]; rfl
      have HX := Aside.mk hx
      have HD := Aside.mk hdr
      have HC := Aside.mk hcur
      have HPL := Aside.mk hpl
      have hnl : (nds (pre ++ e.drop i)).length = n * 4 := by rw [nds_len, List.length_append, hpl, List.length_drop, HN.out]; omega
      have hlen2 : (pre ++ e.drop i).length = n := by rw [List.length_append, hpl, List.length_drop, HN.out]; omega
      have cell : ∀ r, r < 4 → wr.cell? ⟨gv, i * 4 + r, none⟩ = (nd4 x)[r]? := fun r hr => by
        have ho : wr.ownsRow base 79 4 (.slice (some ⟨gv, 0, none⟩) n cap) n (nds (pre ++ e.drop i)) := by have := HO.out; unfold OwnN at this; rw [hlen2] at this; exact this
        rw [ho.cellAt (i * 4 + r) (by omega), nds_get _ _ _ _ hcur hr]
      have c0 := cell 0 (by decide)
      have c1 := cell 1 (by decide)
      have c2 := cell 2 (by decide)
      have c3 := cell 3 (by decide)
      simp only [nd4, List.getElem?_cons_zero, List.getElem?_cons_succ, Nat.add_zero] at c0 c1 c2 c3
      obtain ⟨op, xn, lo, hi2⟩ := x
      simp only at c0 c1 c2 c3
      clear hx hdr hcur hpl hnl hlen2 cell
      have hal : Below wr.heap.size wr (wr.alloc (Obj.cells #[.int .i64 op, .int .i64 xn, .int .i64 lo, .int .i64 hi2] 79)) := (Below.refl _ _).alloc (Nat.le_refl _) _
      have hrow := heap_alloc_last wr (Obj.cells #[.int .i64 op, .int .i64 xn, .int .i64 lo, .int .i64 hi2] 79)
      have ho1 : OwnN base (wr.alloc (Obj.cells #[.int .i64 op, .int .i64 xn, .int .i64 lo, .int .i64 hi2] 79)) (.slice (some ⟨gv, 0, none⟩) n cap) (pre ++ e.drop i) := owns_below HO.out hal
      have HB := Aside.mk hal
      have HO1 := Aside.mk ho1
      have HF1 : Aside (FrN K w (wr.alloc (Obj.cells #[.int .i64 op, .int .i64 xn, .int .i64 lo, .int .i64 hi2] 79))) := ⟨HF.out.trans (Fr.of hal)⟩
      have HS1 := Aside.mk (HS.out.below hal)
      have HP1 := Aside.mk (HP.out.below hal)
      have HR1 : Aside (wr.heap.size < (wr.alloc (Obj.cells #[.int .i64 op, .int .i64 xn, .int .i64 lo, .int .i64 hi2] 79)).heap.size) := ⟨lt_of hrow⟩
      have n1 : (wr.alloc (Obj.cells #[.int .i64 op, .int .i64 xn, .int .i64 lo, .int .i64 hi2] 79)).cell? ⟨wr.heap.size, 1, none⟩ = some (.int .i64 xn) := by rw [cell_of_row _ _ 1 _ _ _ hrow]; rfl
      have HTK : Aside (e.take (i + 1) = e.take i ++ [⟨op, xn, lo, hi2⟩]) := ⟨by rw [List.take_add_one, HX.out]; rfl⟩
      clear hal hrow ho1
      by_cases hop : op = 2
      · subst hop
        obtain ⟨hx0, hxl⟩ := HV.out _ (List.mem_of_getElem? HX.out) rfl
        simp only at hx0 hxl
        obtain ⟨m, hm⟩ : ∃ m : Nat, xn = m := ⟨xn.toNat, by omega⟩
        subst hm
        rw [Int.toNat_natCast] at hxl
        obtain ⟨r, hr⟩ : ∃ r, σ.names[m]? = some r := ⟨_, List.getElem?_eq_getElem hxl⟩
        have hgetD : σ.names.getD m (0, 0) = r := by rw [List.getD_eq_getElem?_getD, hr]; rfl
        have HRES : Aside (Od.resolve s.data.toList σ.names (strL xs) [⟨2, m, lo, hi2⟩] = match idxOf (strL xs) (sub s.data.toList r.1 r.2) with
            | none => ([⟨2, m, lo, hi2⟩], some r.1)
            | some k => ([⟨2, k, lo, hi2⟩], none)) := ⟨by
          rw [resolve_cons, if_pos rfl]
          simp only
          rw [Int.toNat_natCast, hgetD]
          cases idxOf (strL xs) (sub s.data.toList r.1 r.2) <;> rfl⟩
        have HRES2 : Aside (idxOf (strL xs) (sub s.data.toList r.1 r.2) = none → (Od.resolve s.data.toList σ.names (strL xs) e) = (pre ++ e.drop i, some r.1)) := ⟨fun hn => by
          conv => lhs; rw [← List.take_append_drop i e]
          rw [resolve_app _ _ _ HR.out, HD.out, resolve_cons, if_pos rfl]
          simp only
          rw [Int.toNat_natCast, hgetD, hn]⟩
        have hcw : (wr.alloc (Obj.cells #[.int .i64 2, .int .i64 (m : Nat), .int .i64 lo, .int .i64 hi2] 79)).cell? ⟨gv, i * 4 + 1, none⟩ = some (.int .i64 (m : Nat)) := by rw [HB.out.cell (p := ⟨gv, i * 4 + 1, none⟩) (World.block_lt_of_cell? wr _ c1)]; exact c1
        go_wp2_with fail
        generalize wr.alloc (Obj.cells #[.int .i64 2, .int .i64 (m : Nat), .int .i64 lo, .int .i64 hi2] 79) = W at HO1 HF1 HS1 HP1 HR1 n1 hcw ⊢
        obtain ⟨gz, hgz⟩ : ∃ gz, wr.heap.size = gz := ⟨_, rfl⟩
        have hgl := HR1.out
        rw [hgz] at n1 hgl
        simp only [hgz]
        obtain ⟨V, hhere, hown, hout⟩ := HP1.out.here
        have hVf : ∃ gn capn, V = .slice (some ⟨gn, 0, none⟩) σ.names.length capn := by
          rcases hown.2 with ⟨-, h0⟩ | ⟨gn, capn, cur, rfl, -⟩
          · omega
          · exact ⟨gn, capn, rfl⟩
        obtain ⟨gn, capn, rfl⟩ := hVf
        have v3 : W.cell? ⟨g, 3, none⟩ = some (.slice (some ⟨gn, 0, none⟩) σ.names.length capn) := by rw [cell_of_row _ _ 3 _ _ _ hhere]; rfl
        have hlg : g < W.heap.size := lt_of hhere
        have tk1 : W.cell? ⟨gn, m * 3 + 1, none⟩ = some (.string (s.extract r.1 r.2)) := by
          rw [hown.cellAt (m * 3 + 1) (by omega), toks_get s _ _ r 1 hr (by decide)]; rfl
        have tk2 : W.cell? ⟨gn, m * 3 + 2, none⟩ = some (.int .i64 (r.1 : Nat)) := by
          rw [hown.cellAt (m * 3 + 2) (by omega), toks_get s _ _ r 2 hr (by decide)]; rfl
        have hgnl : gn < W.heap.size := World.block_lt_of_cell? W _ tk1
        have hml : (m : Int) < (σ.names.length : Int) := by omega
        have HMN := Aside.mk hxl
        obtain ⟨NL, hNL⟩ : ∃ NL, σ.names.length = NL := ⟨_, rfl⟩
        rw [hNL] at v3 hml
        obtain ⟨X, hX⟩ : ∃ X, s.extract r.1 r.2 = X := ⟨_, rfl⟩
        have HXL : Aside (X.data.toList = sub s.data.toList r.1 r.2) := ⟨by rw [← hX, sub_extract]⟩
        rw [hX] at tk1
        clear hx0 hxl hr hgetD hgz hhere hown hout hNL hX c0 c2 c3
        go_quiet (first | (go_at_call 108; refine Calls.quiet_of_same (index_any _ vv xs (HS1.out.drewN _) X)))
        have hlen2 : (pre ++ e.drop i).length = n := by rw [List.length_append, HPL.out, List.length_drop, HN.out]; omega
        have hown : W.ownsRow base 79 4 (.slice (some ⟨gv, 0, none⟩) n cap) n (nds (pre ++ e.drop i)) := by have := HO1.out; unfold OwnN at this; rw [hlen2] at this; exact this
        have hfzw := hown.frozenAt (i * 4 + 1)
        have hglv : gv < W.heap.size := World.block_lt_of_cell? W _ hcw
        have HOW := Aside.mk hown
        have HL2 := Aside.mk hlen2
        clear hlen2 hown
        cases hix : idxOf (strL xs) X.data.toList with
        | none =>
          have HE := Aside.mk (HRES2.out (by rw [← HXL.out]; exact hix))
          have e1 : idxV none = -1 := rfl
          rw [e1]
          clear hix e1
          go_wp2_with fail
          go_quiet (fail)
          go_wp2_with fail
          go_ret
          rw [HE.out]
          exact ⟨rfl, HO1.out, HF1.out.trans (Fr.of ⟨rfl, rfl, rfl, Nat.le_refl _, fun _ _ => rfl⟩), HS1.out.below ⟨rfl, rfl, rfl, Nat.le_refl _, fun _ _ => rfl⟩, HP1.out.below ⟨rfl, rfl, rfl, Nat.le_refl _, fun _ _ => rfl⟩⟩
        | some k =>
          have HRK := Aside.mk (HRES.out)
          have e1 : idxV (some k) = (k : Int) := rfl
          have HIX := Aside.mk hix
          rw [e1]
          clear hix e1
          have hk0 : ¬ ((k : Int) < 0) := by omega
          go_wp2_with fail
          have hb0 : Below W.heap.size W (W.drewN nq) := ⟨rfl, rfl, rfl, Nat.le_refl _, fun _ _ => rfl⟩
          have HRX : Aside (Od.resolve s.data.toList σ.names (strL xs) (e.take (i + 1)) = (pre ++ [⟨2, k, lo, hi2⟩], none)) := ⟨by
            rw [HTK.out, resolve_app _ _ _ HR.out, HRES.out, ← HXL.out, HIX.out]⟩
          have hset : (pre ++ e.drop i).set i ⟨2, k, lo, hi2⟩ = pre ++ [⟨2, k, lo, hi2⟩] ++ e.drop (i + 1) := by
            rw [HD.out, List.set_append, if_neg (by have := HPL.out; omega), HPL.out, Nat.sub_self, List.append_assoc]; rfl
          have hst : ((W.drewN nq).setCell ⟨gv, i * 4 + 1, none⟩ (.int .i64 (k : Int))).ownsRow base 79 4 (.slice (some ⟨gv, 0, none⟩) n cap) n ((nds (pre ++ e.drop i)).set (i * 4 + 1) (.int .i64 (k : Int))) := (World.ownsRow.stored (show (W.drewN nq).ownsRow base 79 4 (.slice (some ⟨gv, 0, none⟩) n cap) n (nds (pre ++ e.drop i)) from HOW.out) (i * 4 + 1) (.int .i64 (k : Int))).1
          rw [nds_set _ _ _ _ HC.out, hset] at hst
          have HO3 : Aside (OwnN base ((W.drewN nq).setCell ⟨gv, i * 4 + 1, none⟩ (.int .i64 (k : Int))) (.slice (some ⟨gv, 0, none⟩) n cap) (pre ++ [⟨2, k, lo, hi2⟩] ++ e.drop (i + 1))) := ⟨by
            unfold OwnN
            rw [show (pre ++ [(⟨2, k, lo, hi2⟩ : Nd)] ++ e.drop (i + 1)).length = n by rw [← hset, List.length_set]; exact HL2.out]
            exact hst⟩
          have hgr : ∃ cur, (W.drewN nq).heap[gv]? = some (.cells cur 79 (0, 0)) := by
            rcases HOW.out.2 with ⟨h', _⟩ | ⟨g', cap', cur, h', _, hg, _⟩
            · simp at h'
            · simp only [Value.slice.injEq, Option.some.injEq, Addr.mk.injEq, and_true, true_and] at h'
              obtain ⟨rfl, rfl⟩ := h'
              exact ⟨cur, hg⟩
          obtain ⟨cur, hgr⟩ := hgr
          have hfs : FrN K (W.drewN nq) ((W.drewN nq).setCell ⟨gv, i * 4 + 1, none⟩ (.int .i64 (k : Int))) := Fr.set hgr HK.out _
          have HF3 := Aside.mk ((HF1.out.trans (Fr.of hb0)).trans hfs)
          have HS3 := Aside.mk ((HS1.out.below hb0).set (p := ⟨gv, i * 4 + 1, none⟩) (k := .i64) (x := m) hcw (.int .i64 (k : Int)))
          have HP3 := Aside.mk ((HP1.out.below hb0).frN hfs)
          clear hset hst hgr hfs hb0
          obtain ⟨go, hgo⟩ : ∃ go, gk = go + 1 := ⟨gk - 1, by have := HI.out; omega⟩
          go_roundg go
          case measure => omega
          case rel => exact ⟨i + 1, pre ++ [⟨2, k, lo, hi2⟩], rfl, ⟨by have := HI.out; omega⟩, HRX, HO3, HF3, HS3, HP3⟩
      · have HOP := Aside.mk hop
        have HRX : Aside (Od.resolve s.data.toList σ.names (strL xs) (e.take (i + 1)) = (pre ++ [⟨op, xn, lo, hi2⟩], none)) := ⟨by
          rw [HTK.out, resolve_app _ _ _ HR.out, resolve_cons, if_neg hop]; rfl⟩
        have HOX : Aside (pre ++ [⟨op, xn, lo, hi2⟩] ++ e.drop (i + 1) = pre ++ e.drop i) := ⟨by rw [HD.out]; simp⟩
        go_wp2_with fail
        obtain ⟨go, hgo⟩ : ∃ go, gk = go + 1 := ⟨gk - 1, by have := HI.out; omega⟩
        go_roundg go
        case measure => omega
        case rel => exact ⟨i + 1, pre ++ [⟨op, xn, lo, hi2⟩], rfl, ⟨by have := HI.out; omega⟩, HRX, ⟨by rw [HOX.out]; exact HO1.out⟩, HF1, HS1, HP1⟩
    · have hi' : ¬ ((i : Int) < (n : Int)) := by omega
      have HIN : Aside (i = n) := ⟨by have := HI.out; omega⟩
      have HE : Aside (Od.resolve s.data.toList σ.names (strL xs) e = (pre, none)) := ⟨by have := HR.out; rw [HIN.out, List.take_of_length_le (by rw [HN.out]; omega)] at this; exact this⟩
      have HOE : Aside (pre ++ e.drop i = pre) := ⟨by rw [List.drop_of_length_le (by rw [HN.out, HIN.out]; omega), List.append_nil]⟩
      go_wp2_with fail
      go_ret
      rw [HE.out]
      exact ⟨rfl, by rw [← HOE.out]; exact HO.out, HF.out, HS.out, HP.out⟩
end Go.Proofs.YthcidkidpiaomaaGreatDoor.Od
end
