/- OdB -/
import Derived.Test.YthcidkidpiaomaaGreatDoorKf04
import Derived.Test.YthcidkidpiaomaaGreatDoorKf05
section
set_option linter.unusedVariables false
set_option linter.unusedSimpArgs false
namespace Go.Proofs.YthcidkidpiaomaaGreatDoor.Od
open Go.RowKit Rg
theorem skp_step' (f : UInt8 → Bool) {L : List UInt8} {p : Nat} {c : UInt8} (h : L[p]? = some c) (hf : f c = true) : skp f L p = skp f L (p + 1) := by
 obtain ⟨hl, hc⟩ := List.getElem?_eq_some_iff.1 h
 exact skp_step f L p hl (by rw [hc]; exact hf)
theorem skp_stop' (f : UInt8 → Bool) {L : List UInt8} {p : Nat} {c : UInt8} (h : L[p]? = some c) (hf : f c = false) : skp f L p = p := by
 obtain ⟨hl, hc⟩ := List.getElem?_eq_some_iff.1 h
 exact skp_stop f L p hl (by rw [hc]; exact hf)
theorem lt_of {w : World} {g : Nat} {o : Obj} (h : w.heap[g]? = some o) : g < w.heap.size := heap_lt h
theorem set3 {w : World} {k : Nat} {a b c : Value} {T : TypeId} (h : w.heap[k]? = some (.cells #[a, b, c] T (0, 0))) (x y z : Value) :
  (((w.setCell ⟨k, 0, none⟩ x).setCell ⟨k, 1, none⟩ y).setCell ⟨k, 2, none⟩ z).heap[k]? = some (.cells #[x, y, z] T (0, 0)) := by
 have h1 : (w.setCell ⟨k, 0, none⟩ x).heap[k]? = some (.cells #[x, b, c] T (0, 0)) := row_cell h x
 have h2 : ((w.setCell ⟨k, 0, none⟩ x).setCell ⟨k, 1, none⟩ y).heap[k]? = some (.cells #[x, y, c] T (0, 0)) := row_cell h1 y
 exact row_cell h2 z
def tokV (s : ByteArray) (t : Tok) : Value := .agg #[.int .i64 t.kind, .string (if t.kind = 0 ∨ t.kind = 4 then ⟨#[]⟩ else s.extract t.lo t.hi), .int .i64 (t.lo : Nat)]
structure Pk (w : World) (g : Nat) (B : Nat → Prop) (gb gr : Nat) (s : ByteArray) (nl : Bool) (σ : PS) (v : Value) (q : Nat) (wr : World) : Prop where
 row : wr.heap[g]? = some (.cells #[.string s, .int .i64 (q : Nat), .bool nl, v, .bool σ.bad] 104 (0, 0))
 box : wr.heap[gb]? = some (.cells #[.pointer (some ⟨g, 0, none⟩)] 101 (0, 0))
 tok : wr.heap[gr]? = some (.cells #[.int .i64 0, .string ⟨#[]⟩, .int .i64 0] 108 (0, 0))
 own : OwnT B wr v σ.names.length (toks s σ.names)
 fr : FrQ B w wr
 lt : ¬ B g ∧ g < w.heap.size ∧ w.heap.size ≤ gb ∧ gb < gr
 old : ∀ k, v.ownBlock = some k → k < w.heap.size
 few : σ.names.length ≤ σ.pos
 bnd : ∀ k, B k → k < w.heap.size
 start : w.cell? ⟨g, 3, none⟩ = some v
section
variable {w wr w' : World} {g gb gr q : Nat} {B : Nat → Prop} {s : ByteArray} {nl : Bool} {σ : PS} {v : Value}
theorem Pk.below (h : Pk w g B gb gr s nl σ v q wr) (hb : Below wr.heap.size wr w') : Pk w g B gb gr s nl σ v q w' :=
 ⟨by rw [hb.block _ (lt_of h.row)]; exact h.row, by rw [hb.block _ (lt_of h.box)]; exact h.box, by rw [hb.block _ (lt_of h.tok)]; exact h.tok, ⟨owns_below h.own.1 hb, h.own.2⟩, h.fr.trans (Fr.of hb), h.lt, h.old, h.few, h.bnd, h.start⟩
theorem Pk.cells (h : Pk w g B gb gr s nl σ v q wr) : wr.cell? ⟨gb, 0, none⟩ = some (.pointer (some ⟨g, 0, none⟩)) ∧ wr.cell? ⟨g, 0, none⟩ = some (.string s) ∧ wr.cell? ⟨g, 1, none⟩ = some (.int .i64 (q : Nat)) ∧ wr.cell? ⟨g, 2, none⟩ = some (.bool nl) ∧ gb < wr.heap.size ∧ g < wr.heap.size ∧ wr.frozen? ⟨g, 1, none⟩ = false :=
 ⟨by rw [cell_of_row wr _ 0 _ _ _ h.box]; rfl, by rw [cell_of_row wr _ 0 _ _ _ h.row]; rfl, by rw [cell_of_row wr _ 1 _ _ _ h.row]; rfl, by rw [cell_of_row wr _ 2 _ _ _ h.row]; rfl, lt_of h.box, lt_of h.row, by simp [World.frozen?, h.row]⟩
theorem Pk.toks (h : Pk w g B gb gr s nl σ v q wr) : wr.cell? ⟨gr, 0, none⟩ = some (.int .i64 0) ∧ wr.cell? ⟨gr, 1, none⟩ = some (.string ⟨#[]⟩) ∧ wr.cell? ⟨gr, 2, none⟩ = some (.int .i64 0) ∧ (wr.frozen? ⟨gr, 0, none⟩ = false ∧ wr.frozen? ⟨gr, 1, none⟩ = false ∧ wr.frozen? ⟨gr, 2, none⟩ = false) :=
 ⟨by rw [cell_of_row wr _ 0 _ _ _ h.tok]; rfl, by rw [cell_of_row wr _ 1 _ _ _ h.tok]; rfl, by rw [cell_of_row wr _ 2 _ _ _ h.tok]; rfl, by simp [World.frozen?, h.tok], by simp [World.frozen?, h.tok], by simp [World.frozen?, h.tok]⟩
theorem Pk.set (h : Pk w g B gb gr s nl σ v q wr) (r : Nat) : Pk w g B gb gr s nl σ v r (wr.setCell ⟨g, 1, none⟩ (.int .i64 (r : Nat))) := by
 have hl := h.lt
 refine ⟨row_cell h.row _, ?_, ?_, ⟨owns_set h.own.1 h.row (by decide), h.own.2⟩, h.fr.trans (Fr.set h.row hl.1 _), h.lt, h.old, h.few, h.bnd, h.start⟩
 ·rw [Below.heap_setCell _ _ _ _ (by show gb ≠ g; omega)]; exact h.box
 ·rw [Below.heap_setCell _ _ _ _ (by show gr ≠ g; omega)]; exact h.tok
theorem Pk.done (h : Pk w g B gb gr s nl σ v q wr) (hs : s.size ≤ 8000) (hq : q ≤ s.size) (hge : σ.pos ≤ q) (x y z : Value) :
  (((wr.setCell ⟨gr, 0, none⟩ x).setCell ⟨gr, 1, none⟩ y).setCell ⟨gr, 2, none⟩ z).heap[gr]? = some (.cells #[x, y, z] 108 (0, 0)) ∧
   FrQ B w (((wr.setCell ⟨gr, 0, none⟩ x).setCell ⟨gr, 1, none⟩ y).setCell ⟨gr, 2, none⟩ z) ∧ Par (((wr.setCell ⟨gr, 0, none⟩ x).setCell ⟨gr, 1, none⟩ y).setCell ⟨gr, 2, none⟩ z) g B s nl { σ with pos := q } ∧ Same3 g w (((wr.setCell ⟨gr, 0, none⟩ x).setCell ⟨gr, 1, none⟩ y).setCell ⟨gr, 2, none⟩ z) := by
 have hl := h.lt
 have hn : w.heap.size ≤ gr := by omega
 have h1 : (wr.setCell ⟨gr, 0, none⟩ x).heap[gr]? = some (.cells #[x, .string ⟨#[]⟩, .int .i64 0] 108 (0, 0)) := row_cell h.tok x
 have h2 : ((wr.setCell ⟨gr, 0, none⟩ x).setCell ⟨gr, 1, none⟩ y).heap[gr]? = some (.cells #[x, y, .int .i64 0] 108 (0, 0)) := row_cell h1 y
 have hne : g ≠ gr := by omega
 have hov : ∀ k, v.ownBlock = some k → k ≠ gr := fun k hk => by have := h.old k hk; omega
 have own3 : ∀ (w1 : World) (i : Nat) (u : Value), w1.ownsRow 0 108 3 v σ.names.length (Od.toks s σ.names) → (w1.setCell ⟨gr, i, none⟩ u).ownsRow 0 108 3 v σ.names.length (Od.toks s σ.names) := fun w1 i u ho => by
  obtain ⟨a1, a2⟩ := ho
  refine ⟨a1, ?_⟩
  rcases a2 with a2 | ⟨g', cap, cur, hv, hg', hh, r⟩
  ·exact Or.inl a2
  ·refine Or.inr ⟨g', cap, cur, hv, hg', ?_, r⟩
   rw [Below.heap_setCell _ _ _ _ (hov g' (by rw [hv]; rfl))]; exact hh
 have hrow : (((wr.setCell ⟨gr, 0, none⟩ x).setCell ⟨gr, 1, none⟩ y).setCell ⟨gr, 2, none⟩ z).heap[g]? = some (.cells #[.string s, .int .i64 (q : Nat), .bool nl, v, .bool σ.bad] 104 (0, 0)) := by
  rw [Below.heap_setCell _ _ _ _ hne, Below.heap_setCell _ _ _ _ hne, Below.heap_setCell _ _ _ _ hne]; exact h.row
 refine ⟨set3 h.tok x y z, ((h.fr.setNew hn x).setNew hn y).setNew hn z, ⟨⟨v, hrow, own3 _ _ _ (own3 _ _ _ (own3 _ _ _ h.own.1)), h.own.2⟩, hq, hl.1, hs, Nat.le_trans h.few hge, fun k hk => Nat.lt_of_lt_of_le (h.bnd k hk) (by simpa [World.setCell] using h.fr.size)⟩, ?_⟩
 unfold Same3
 rw [h.start, cell_of_row _ _ 3 _ _ _ hrow]; rfl
end
theorem enters_ix : ∀ args w, (callFunc 133 args).run Tryz.prog w = .ok (.enter 133 args) w := fun args w => by kernel_rfl
theorem run_call {dst : Option Tmp} {type : TypeId} {pos : String} {after : Array Edge} {guard : Option (Nat × Bool)} {a : Act} {w : World} {f : Nat} {xs : Array Operand} {ats : Array TypeId} {args : Array Value} (hf : ∀ args w, (callFunc f args).run Tryz.prog w = .ok (.enter f args) w) (h : #[] ++ xs.map a.eval ++ #[] = args) :
  (execOp a.eval { dst, op := .call { callee := .value (.func f), args := xs, argTypes := ats }, type, pos, after, guard }).run Tryz.prog w = .ok (.enter f args) w := by
 subst h
 exact hf _ _
set_option maxRecDepth 100000 in
theorem run_callv {dst : Option Tmp} {type : TypeId} {pos : String} {after : Array Edge} {guard : Option (Nat × Bool)} {a : Act} {w : World} {f : Nat} {x : Operand} {cap : Array Value} {xs : Array Operand} {ats : Array TypeId} {args : Array Value} (hx : a.eval x = .func (.func f) #[] cap) (hf : ∀ args w, (callFunc f args).run Tryz.prog w = .ok (.enter f args) w) (h : #[] ++ xs.map a.eval ++ cap = args) :
  (execOp a.eval { dst, op := .call { callee := .value x, args := xs, argTypes := ats }, type, pos, after, guard }).run Tryz.prog w = .ok (.enter f args) w := by
 subst h
 show Sem.run _ (do let d ← Deferred.ofValue (a.eval x) (xs.map a.eval); invoke d.target d.args) w = _
 rw [hx]
 exact hf _ _
theorem byte10 (c : UInt8) (h : (c.toNat : Int) = 10) : c = 10 := UInt8.toNat_inj.1 (by
 have h' : c.toNat = 10 := by omega
 rw [h']; rfl)
theorem enters_skip : ∀ args w, (callFunc 134 args).run Tryz.prog w = .ok (.enter 134 args) w := fun args w => by kernel_rfl
def PkPost (w : World) (g : Nat) (B : Nat → Prop) (s : ByteArray) (nl : Bool) (σ : PS) (e : Ending) (w' : World) : Prop :=
 e = .returned (tokV s (peekT nl s.data.toList σ.pos)) ∧ FrQ B w w' ∧ Par w' g B s nl { σ with pos := (peekT nl s.data.toList σ.pos).lo } ∧ Same3 g w w'
set_option maxRecDepth 100000 in
theorem pk_end {w wr : World} {g gb gr q : Nat} {B : Nat → Prop} {s : ByteArray} {nl : Bool} {σ : PS} {v : Value} {tm : Array Value} {t : Tok} {x : ByteArray} {k : Int} (h : Pk w g B gb gr s nl σ v q wr) (hs : s.size ≤ 8000) (hq : q ≤ s.size)
  (hp : peekT nl s.data.toList σ.pos = tokAt nl s.data.toList q) (ht : tokAt nl s.data.toList q = t) (hk : t.kind = k) (hl : t.lo = q) (hx : (if t.kind = 0 ∨ t.kind = 4 then ⟨#[]⟩ else s.extract t.lo t.hi) = x) (h2 : tm.getD 2 undef = .pointer (some ⟨gr, 0, none⟩)) :
  bodyPost Tryz.prog Tryz.f94 (fun e w' => PkPost w g B s nl σ e w') Exit.ret ⟨tm, []⟩ (((wr.setCell ⟨gr, 0, none⟩ (.int .i64 k)).setCell ⟨gr, 1, none⟩ (.string x)).setCell ⟨gr, 2, none⟩ (.int .i64 (q : Nat))) := by
 obtain ⟨hr, hf, hP, h3⟩ := h.done hs hq (by have h1 := peekT_ge nl s.data.toList σ.pos; rw [hp, ht, hl] at h1; exact h1) (.int .i64 k) (.string x) (.int .i64 (q : Nat))
 refine bodyPost_ret (results_cell_row rfl _ _ gr 108 #[.int .i64 k, .string x, .int .i64 (q : Nat)] (0, 0) _ h2 hr Tryz.underlying108 rfl (by kernel_rfl)) rfl ?_
 refine ⟨?_, hf, ?_, h3⟩
 ·rw [hp, ht]; unfold tokV; rw [hk, hl] at *; rw [hx]
 ·rw [hp, ht, hl]; exact hP
set_option maxRecDepth 100000 in
set_option maxHeartbeats 8000000 in
theorem peek_anyQ (w : World) (g : Nat) (B : Nat → Prop) (s : ByteArray) (nl : Bool) (σ : PS) (h : Par w g B s nl σ) :
  Calls Tryz.prog 94 #[.pointer (some ⟨g, 0, none⟩)] w fun e w' => PkPost w g B s nl σ e w' := by
 obtain ⟨v, hh, ho⟩ := h.here
 have HSZ := Aside.mk h.len
 have HLE := Aside.mk h.le
 have hB := h.base
 have hfew := h.few
 have hbnd := h.bnd
 have hgl := lt_of hh
 go_enter Tryz.func94, Tryz.ntmps94
 go_wp2_with fail
 have hpk : Pk w g B w.heap.size (w.heap.size + 1) s nl σ v σ.pos ((w.alloc (.cells #[.pointer (some ⟨g, 0, none⟩)] 101)).alloc (.cells #[.int .i64 0, .string ⟨#[]⟩, .int .i64 0] 108)) := by
  have hb : Below w.heap.size w ((w.alloc (.cells #[.pointer (some ⟨g, 0, none⟩)] 101)).alloc (.cells #[.int .i64 0, .string ⟨#[]⟩, .int .i64 0] 108)) := ((Below.refl _ _).alloc (Nat.le_refl _) _).alloc (by simp) _
  refine ⟨by rw [hb.block _ hgl]; exact hh, by rw [Below.heap_alloc _ _ _ (by simp)]; exact heap_alloc_last _ _, ?_, ⟨owns_below ho.1 hb, ho.2⟩, Fr.of hb, ⟨hB, hgl, Nat.le_refl _, Nat.lt_succ_self _⟩, fun k hk => (World.ownsRow.lt ho.1 k hk).2, hfew, hbnd, by rw [cell_of_row w _ 3 _ _ _ hh]; rfl⟩
  have := heap_alloc_last (w.alloc (.cells #[.pointer (some ⟨g, 0, none⟩)] 101)) (.cells #[.int .i64 0, .string ⟨#[]⟩, .int .i64 0] 108)
  simpa using this
 generalize (w.alloc (.cells #[.pointer (some ⟨g, 0, none⟩)] 101)).alloc (.cells #[.int .i64 0, .string ⟨#[]⟩, .int .i64 0] 108) = W at hpk ⊢
 obtain ⟨gr, hgr⟩ : ∃ x, w.heap.size + 1 = x := ⟨_, rfl⟩
 obtain ⟨gb, hgb⟩ : ∃ x, w.heap.size = x := ⟨_, rfl⟩
 simp only [hgr] at hpk ⊢
 simp only [hgb] at hpk ⊢
 have HPK := Aside.mk hpk
 have hsl : Aside (s.data.toList.length = s.size) := ⟨rfl⟩
 clear h hh ho hB hgl hpk hgr hgb hfew hbnd
 go_loopg [28] s.size (fun m v28 wr => ∃ q : Nat, Aside (Pk w g B gb gr s nl σ v q wr) ∧ Aside (q ≤ s.size ∧ s.size - q ≤ m) ∧ Aside (skp isWs s.data.toList q = skp isWs s.data.toList σ.pos))
 case atStart => exact ⟨σ.pos, HPK, ⟨HLE.out, by omega⟩, ⟨rfl⟩⟩
 case round =>
  clear HPK
  obtain ⟨q, HPK, HQ, HS⟩ := hrel
  obtain ⟨cb, c0, c1, c2, hlb, hlg, hfz⟩ := HPK.out.cells
  by_cases hq' : q < s.size
  ·have hq : (q : Int) < (s.size : Int) := by omega
   have HQL := Aside.mk hq'
   obtain ⟨c, hc⟩ : ∃ c, s.data.toList[q]? = some c := ⟨_, List.getElem?_eq_getElem (by rw [hsl.out]; exact hq')⟩
   have HC := Aside.mk hc
   have hX0 : ∀ h : q < s.size, s[q].toNat = c.toNat := fun h => by rw [← (List.getElem?_eq_some_iff.1 hc).2]; rfl
   obtain ⟨X, hXX⟩ : ∃ X, c.toNat = X := ⟨_, rfl⟩
   have hX := hX0 hq'
   rw [hXX] at hX
   obtain ⟨R, hR⟩ : ∃ R, Lib.indexByte (⟨#[32, 9, 13]⟩ : ByteArray).data.toList ((X : Nat) : Int).toNat.toUInt8 = R := ⟨_, rfl⟩
   have hcX : ((X : Nat) : Int).toNat.toUInt8 = c := by rw [← hXX]; simp
   have hwsR : decide (0 ≤ R) = isWs c := by
    rw [← hR, hcX]
    have := ws_all c.toNat c.toNat_lt
    rw [UInt8.ofNat_toNat] at this
    exact this
   have HXX := Aside.mk hXX
   clear hc hX0 hXX hcX
   cases hw : isWs c with
   | true =>
    have hR0 : 0 ≤ R := by rw [hw] at hwsR; simpa using hwsR
    have HST : Aside (skp isWs s.data.toList (q + 1) = skp isWs s.data.toList σ.pos) := ⟨by rw [← HS.out, skp_step' isWs HC.out hw]⟩
    have hqi : (q : Int) < 9000 := by have := HSZ.out; omega
    clear hwsR hw
    go_wp2_with fail
    refine region_v [6, 7, 8, 9, 10, 11, 12, 13, 14, 15, 16, 17, 18, 19, 20, 21, 22, 23, 24, 25, 26, 27] 22 [.pointer (some ⟨g, 0, none⟩), .pointer (some ⟨g, 0, none⟩), .pointer (some ⟨g, 1, none⟩), .int .i64 (q : Nat), .pointer (some ⟨g, 0, none⟩), .pointer (some ⟨g, 0, none⟩), .pointer (some ⟨g, 0, none⟩), .string s, .int .i64 (s.size : Nat), .bool true, .bool true, .pointer (some ⟨g, 0, none⟩), .pointer (some ⟨g, 0, none⟩), .pointer (some ⟨g, 0, none⟩), .string s, .pointer (some ⟨g, 0, none⟩), .pointer (some ⟨g, 0, none⟩), .pointer (some ⟨g, 1, none⟩), .int .i64 (q : Nat), .int .u8 (X : Nat), .int .i64 R, .bool true] rfl rfl ?_ ?_
    ·iterate 20 (refine AllV.val rfl (fun w hb => by simp [execOp, Act.eval, kp hb cb, kp hb c1, kp hb c0, hq, hX, hR0, go_sem]) ?_)
     refine AllV.cons ?_ ?_
     ·intro a w hz hb ho hg
      have e25 : a.tmps.getD 25 undef = .int .u8 (X : Nat) := got_of hg (j := 19) rfl rfl rfl
      have f25 := Rg.gd e25
      exact Or.inl ⟨by rw [wanted_of (j := 10) rfl rfl rfl (show a.tmps.getD 16 undef = .bool true from got_of hg (j := 10) rfl rfl rfl)]; rfl, wp_calls hb.size (run_call (args := #[.string ⟨#[32, 9, 13]⟩, .int .u8 (X : Nat)]) enters_ix (by simp [Act.eval, f25])) ((Tryz.strings_IndexByte _ _ w).mono (by rintro e w' ⟨rfl, rfl⟩; exact ⟨_, rfl, Below.refl _ _, by rw [hR]; rfl⟩))⟩
     refine AllV.val rfl (fun w hb => by simp [execOp, Act.eval, kp hb cb, kp hb c1, kp hb c0, hq, hX, hR0, go_sem]) ?_
     exact AllV.nil
    intro w1 hb
    simp only [List.drop_succ_cons, List.drop_zero]
    have HH1 := Aside.mk hb
    clear hb
    clear cb c0 c1 c2 hlb hlg hfz
    have HPK := Aside.mk (HPK.out.below HH1.out)
    obtain ⟨cb, c0, c1, c2, hlb, hlg, hfz⟩ := HPK.out.cells
    go_wp2_with fail
    obtain ⟨go, hgo⟩ : ∃ go, gk = go + 1 := ⟨gk - 1, by have := HQ.out; omega⟩
    go_roundg go
    case measure => omega
    case rel =>
     refine ⟨q + 1, ⟨?_⟩, ⟨by have := HQ.out; omega⟩, HST⟩
     have := HPK.out.set (q + 1)
     exact this
   | false =>
    have hR0 : ¬ 0 ≤ R := by rw [hw] at hwsR; simpa using hwsR
    have HST : Aside (skp isWs s.data.toList σ.pos = q) := ⟨by rw [← HS.out, skp_stop' isWs HC.out hw]⟩
    have hqi : (q : Int) < 9000 := by have := HSZ.out; omega
    have hqs : (q : Int) ≤ (s.size : Int) := by omega
    have HAT : Aside (peekT nl s.data.toList σ.pos = tokAt nl s.data.toList q) := ⟨by unfold peekT; rw [HST.out]⟩
    have HIL : Aside (∀ w, Calls Tryz.prog 105 #[.int .u8 (X : Nat)] w fun e w' => e = .returned (.bool (isLt c)) ∧ w = w') := ⟨fun w => by have := isLetter_any c w; rw [HXX.out] at this; exact this⟩
    have HID : Aside (∀ w, Calls Tryz.prog 136 #[.int .u8 (X : Nat)] w fun e w' => e = .returned (.bool (isDg c)) ∧ w = w') := ⟨fun w => by have := isDigit_any c w; rw [HXX.out] at this; exact this⟩
    have HIC : Aside (∀ w, Calls Tryz.prog 133 #[.string ⟨#[43, 45, 42, 47, 40, 41, 91, 93, 44, 61, 39]⟩, .int .u8 (X : Nat)] w fun e w' => ∃ r : Int, e = .returned (.int .i64 r) ∧ decide (0 ≤ r) = isCh c ∧ w = w') := ⟨fun w => by have := ix_ch c w; rw [HXX.out] at this; exact this⟩
    have hmf : ∀ (fn : Fn) (first cap : Array Value) (w : World), (Instr.makeFunc fn first cap).run Tryz.prog w = .ok (.func fn first cap) w := fun _ _ _ _ => rfl
    clear hwsR hw HS
    go_wp2_with fail
    refine region_v [6, 7, 8, 9, 10, 11, 12, 13, 14, 15, 16, 17, 18, 19, 20, 21, 22, 23, 24, 25, 26, 27] 22 [.pointer (some ⟨g, 0, none⟩), .pointer (some ⟨g, 0, none⟩), .pointer (some ⟨g, 1, none⟩), .int .i64 (q : Nat), .pointer (some ⟨g, 0, none⟩), .pointer (some ⟨g, 0, none⟩), .pointer (some ⟨g, 0, none⟩), .string s, .int .i64 (s.size : Nat), .bool true, .bool true, .pointer (some ⟨g, 0, none⟩), .pointer (some ⟨g, 0, none⟩), .pointer (some ⟨g, 0, none⟩), .string s, .pointer (some ⟨g, 0, none⟩), .pointer (some ⟨g, 0, none⟩), .pointer (some ⟨g, 1, none⟩), .int .i64 (q : Nat), .int .u8 (X : Nat), .int .i64 R, .bool false] rfl rfl ?_ ?_
    ·iterate 20 (refine AllV.val rfl (fun w hb => by simp [execOp, Act.eval, kp hb cb, kp hb c1, kp hb c0, hq, hX, hR0, go_sem]) ?_)
     refine AllV.cons ?_ ?_
     ·intro a w hz hb ho hg
      have e25 : a.tmps.getD 25 undef = .int .u8 (X : Nat) := got_of hg (j := 19) rfl rfl rfl
      have f25 := Rg.gd e25
      exact Or.inl ⟨by rw [wanted_of (j := 10) rfl rfl rfl (show a.tmps.getD 16 undef = .bool true from got_of hg (j := 10) rfl rfl rfl)]; rfl, wp_calls hb.size (run_call (args := #[.string ⟨#[32, 9, 13]⟩, .int .u8 (X : Nat)]) enters_ix (by simp [Act.eval, f25])) ((Tryz.strings_IndexByte _ _ w).mono (by rintro e w' ⟨rfl, rfl⟩; exact ⟨_, rfl, Below.refl _ _, by rw [hR]; rfl⟩))⟩
     refine AllV.val rfl (fun w hb => by simp [execOp, Act.eval, kp hb cb, kp hb c1, kp hb c0, hq, hX, hR0, go_sem]) ?_
     exact AllV.nil
    intro w1 hb
    simp only [List.drop_succ_cons, List.drop_zero]
    have HH1 := Aside.mk hb
    clear hb
    clear cb c0 c1 c2 hlb hlg hfz
    have HPK := Aside.mk (HPK.out.below HH1.out)
    obtain ⟨cb, c0, c1, c2, hlb, hlg, hfz⟩ := HPK.out.cells
    clear hR hR0
    go_wp2_with fail
    refine region_v [36, 37, 38, 39, 40, 41, 42, 43, 44] 9 [.pointer (some ⟨g, 0, none⟩), .pointer (some ⟨g, 0, none⟩), .pointer (some ⟨g, 1, none⟩), .int .i64 (q : Nat), .pointer (some ⟨g, 0, none⟩), .pointer (some ⟨g, 0, none⟩), .pointer (some ⟨g, 0, none⟩), .string s, .int .i64 (s.size : Nat)] rfl rfl ?_ ?_
    ·iterate 9 (refine AllV.val rfl (fun w hb => by simp [execOp, Act.eval, kp hb cb, kp hb c1, kp hb c0, go_sem]) ?_)
     exact AllV.nil
    intro w3 hb
    simp only [List.drop_succ_cons, List.drop_zero]
    have HH3 := Aside.mk hb
    clear hb
    clear cb c0 c1 c2 hlb hlg hfz
    have HPK := Aside.mk (HPK.out.below HH3.out)
    obtain ⟨cb, c0, c1, c2, hlb, hlg, hfz⟩ := HPK.out.cells
    have hqne : ((q : Int) == (s.size : Int)) = false := by rw [beq_eq_false_iff_ne]; omega
    go_wp2_with fail
    refine region_v [52, 53, 54, 55, 56, 57, 58, 59, 60] 9 [.pointer (some ⟨g, 0, none⟩), .pointer (some ⟨g, 0, none⟩), .pointer (some ⟨g, 0, none⟩), .string s, .pointer (some ⟨g, 0, none⟩), .pointer (some ⟨g, 0, none⟩), .pointer (some ⟨g, 1, none⟩), .int .i64 (q : Nat), .int .u8 (X : Nat)] rfl rfl ?_ ?_
    ·iterate 9 (refine AllV.val rfl (fun w hb => by simp [execOp, Act.eval, kp hb cb, kp hb c0, kp hb c1, hq, hX, go_sem]) ?_)
     exact AllV.nil
    intro w6 hb
    simp only [List.drop_succ_cons, List.drop_zero]
    have HH6 := Aside.mk hb
    clear hb
    clear cb c0 c1 c2 hlb hlg hfz
    have HPK := Aside.mk (HPK.out.below HH6.out)
    obtain ⟨cb, c0, c1, c2, hlb, hlg, hfz⟩ := HPK.out.cells
    clear hqne
    go_wp2_with fail
    refine (HIL.out _).mono ?_
    rintro e w7 ⟨rfl, rfl⟩
    cases hlt : isLt c with
    | true =>
     have hsk : q ≤ skp isLD s.data.toList q ∧ skp isLD s.data.toList q ≤ s.size := ⟨skp_ge _ _ _, skp_le _ _ _ (by rw [hsl.out]; omega)⟩
     obtain ⟨E, hE⟩ : ∃ E, skp isLD s.data.toList q = E := ⟨_, rfl⟩
     rw [hE] at hsk
     have HE := Aside.mk hE
     have hsk1 : (q : Int) ≤ (E : Int) := by omega
     have hsk2 : (E : Int) ≤ (s.size : Int) := by omega
     have HTK : Aside (tokAt nl s.data.toList q = ⟨1, q, E⟩) := ⟨by unfold tokAt; rw [HC.out]; simp only; rw [if_pos hlt, HE.out]⟩
     clear hE hsk
     go_wp2_with fail
     refine region_v [64, 65, 66, 67, 68, 69, 70, 71, 72, 73, 74, 75, 76, 77, 78, 79, 80, 81, 82, 83] 20 [.pointer (some ⟨g, 0, none⟩), .pointer (some ⟨g, 0, none⟩), .pointer (some ⟨g, 0, none⟩), .string s, .pointer (some ⟨g, 0, none⟩), .pointer (some ⟨g, 0, none⟩), .pointer (some ⟨g, 1, none⟩), .int .i64 (q : Nat), .func (.func 134) #[] #[.pointer (some ⟨gb, 0, none⟩)], .pointer (some ⟨g, 0, none⟩), .pointer (some ⟨g, 0, none⟩), .pointer (some ⟨g, 1, none⟩), .int .i64 (q : Nat), .int .i64 (E : Nat), .string (s.extract q E), .pointer (some ⟨g, 0, none⟩), .pointer (some ⟨g, 0, none⟩), .pointer (some ⟨g, 1, none⟩), .int .i64 (q : Nat), .agg #[.int .i64 1, .string (s.extract q E), .int .i64 (q : Nat)]] rfl rfl ?_ ?_
     ·iterate 13 (refine AllV.val rfl (fun w hb => by simp [execOp, Act.eval, kp hb cb, kp hb c0, kp hb c1, hsk1, hsk2, hqs, go_sem]) ?_)
      refine AllV.cons ?_ ?_
      ·intro a w hz hb ho hg
       have e72 : a.tmps.getD 72 undef = .func (.func 134) #[] #[.pointer (some ⟨gb, 0, none⟩)] := got_of hg (j := 8) rfl rfl rfl
       have e76 : a.tmps.getD 76 undef = .int .i64 (q : Nat) := got_of hg (j := 12) rfl rfl rfl
       have f72 := Rg.gd e72
       have f76 := Rg.gd e76
       exact Or.inl ⟨wanted_none rfl, wp_calls hb.size (run_callv (args := #[.int .i64 (q : Nat), .func (.func 135) #[] #[], .pointer (some ⟨gb, 0, none⟩)]) (show a.eval (.tmp 72) = _ from e72) enters_skip (by simp [Act.eval, f76])) ((skip_any _ isLD tells_ld enters_ld s q gb g w (by omega) HSZ ((hb.cell (p := ⟨gb, 0, none⟩) hlb).trans cb) ((hb.cell (p := ⟨g, 0, none⟩) hlg).trans c0)).mono (by rintro e w' ⟨rfl, rfl⟩; exact ⟨_, rfl, Below.refl _ _, by rw [HE.out]; rfl⟩))⟩
      iterate 6 (refine AllV.val rfl (fun w hb => by simp [execOp, Act.eval, kp hb cb, kp hb c0, kp hb c1, hsk1, hsk2, hqs, go_sem]) ?_)
      exact AllV.nil
     intro w8 hb
     simp only [List.drop_succ_cons, List.drop_zero]
     have HH8 := Aside.mk hb
     clear hb
     clear cb c0 c1 c2 hlb hlg hfz
     have HPK := Aside.mk (HPK.out.below HH8.out)
     obtain ⟨cb, c0, c1, c2, hlb, hlg, hfz⟩ := HPK.out.cells
     obtain ⟨t0, t1, t2, f0, f1, f2⟩ := HPK.out.toks
     go_wp2_with fail
     exact pk_end HPK.out HSZ.out (by omega) HAT.out HTK.out rfl rfl rfl rfl
    | false =>
     go_wp2_with fail
     refine (HID.out _).mono ?_
     rintro e w9 ⟨rfl, rfl⟩
     cases hdg : isDg c with
     | true =>
      have hsk : q + 1 ≤ skp isDg s.data.toList q ∧ skp isDg s.data.toList q ≤ s.size := ⟨skp_first isDg _ q (by rw [hsl.out]; exact hq') (by rw [(List.getElem?_eq_some_iff.1 HC.out).2]; exact hdg), skp_le _ _ _ (by rw [hsl.out]; omega)⟩
      obtain ⟨E, hE⟩ : ∃ E, skp isDg s.data.toList q = E := ⟨_, rfl⟩
      rw [hE] at hsk
      have HE := Aside.mk hE
      have HEB := Aside.mk hsk
      have HTK0 : Aside (tokAt nl s.data.toList q = ⟨2, q, numEnd s.data.toList q⟩) := ⟨by unfold tokAt; rw [HC.out]; simp only; rw [if_neg (by rw [hlt]; simp), if_pos hdg]⟩
      have HSK := Aside.mk (fun w (h1 : w.cell? ⟨gb, 0, none⟩ = some (.pointer (some ⟨g, 0, none⟩))) (h2 : w.cell? ⟨g, 0, none⟩ = some (.string s)) => skip_any _ isDg tells_digit enters_digit s q gb g w (by omega) HSZ h1 h2)
      clear hE hsk
      go_wp2_with fail
      refine (HSK.out _ cb c0).mono ?_
      rintro e w10 ⟨rfl, rfl⟩
      rw [HE.out]
      have hE9 : (E : Int) < 9000 := by have := HEB.out; have := HSZ.out; omega
      have hsk1 : (q : Int) ≤ (E : Int) := by have := HEB.out; omega
      have hsk2 : (E : Int) ≤ (s.size : Int) := by have := HEB.out; omega
      clear HSK
      by_cases h1 : E + 1 < s.size
      ·have hE1 : (E : Int) + 1 < (s.size : Int) := by omega
       obtain ⟨c2', hc2⟩ : ∃ c, s.data.toList[E]? = some c := ⟨_, List.getElem?_eq_getElem (by rw [hsl.out]; omega)⟩
       obtain ⟨c3', hc3⟩ : ∃ c, s.data.toList[E + 1]? = some c := ⟨_, List.getElem?_eq_getElem (by rw [hsl.out]; omega)⟩
       have hY0 : ∀ h : E < s.size, s[E].toNat = c2'.toNat := fun h => by rw [← (List.getElem?_eq_some_iff.1 hc2).2]; rfl
       have hZ0 : ∀ h : E + 1 < s.size, s[E + 1].toNat = c3'.toNat := fun h => by rw [← (List.getElem?_eq_some_iff.1 hc3).2]; rfl
       have hY := hY0 (by omega)
       have hZ := hZ0 h1
       obtain ⟨Y, hYY⟩ : ∃ X, c2'.toNat = X := ⟨_, rfl⟩
       obtain ⟨Z, hZZ⟩ : ∃ X, c3'.toNat = X := ⟨_, rfl⟩
       rw [hYY] at hY
       rw [hZZ] at hZ
       have HID3 : Aside (∀ w, Calls Tryz.prog 136 #[.int .u8 (Z : Nat)] w fun e w' => e = .returned (.bool (isDg c3')) ∧ w = w') := ⟨fun w => by have := isDigit_any c3' w; rw [hZZ] at this; exact this⟩
       have HC2 := Aside.mk (And.intro hc2 hc3)
       have HYZ := Aside.mk hYY
       have hEl : E < s.size := by omega
       clear hc2 hc3 hYY hZZ hY0 hZ0
       by_cases h46 : Y = 46
       ·have hY46 : ((Y : Int) == 46) = true := by rw [h46]; rfl
        have H46 : Aside (c2' = 46) := ⟨UInt8.toNat_inj.1 (by rw [HYZ.out, h46]; rfl)⟩
        clear h46
        go_wp2_with fail
        refine (HID3.out _).mono ?_
        rintro e w11 ⟨rfl, rfl⟩
        cases hd3 : isDg c3' with
        | true =>
         have hsk3 : E + 1 ≤ skp isDg s.data.toList (E + 1) ∧ skp isDg s.data.toList (E + 1) ≤ s.size := ⟨skp_ge _ _ _, skp_le _ _ _ (by rw [hsl.out]; omega)⟩
         obtain ⟨E', hE'⟩ : ∃ E', skp isDg s.data.toList (E + 1) = E' := ⟨_, rfl⟩
         rw [hE'] at hsk3
         have HE' := Aside.mk hE'
         have HTK : Aside (tokAt nl s.data.toList q = ⟨2, q, E'⟩) := ⟨by
          rw [HTK0.out]; unfold numEnd; simp only [HE.out, HC2.out.1]
          rw [if_pos ⟨by rw [H46.out], by rw [HC2.out.2]; exact hd3⟩, HE'.out]⟩
         have HSK2 := Aside.mk (fun w (h1 : w.cell? ⟨gb, 0, none⟩ = some (.pointer (some ⟨g, 0, none⟩))) (h2 : w.cell? ⟨g, 0, none⟩ = some (.string s)) => skip_any _ isDg tells_digit enters_digit s (E + 1) gb g w (by omega) HSZ h1 h2)
         have hp1 : ((E : Nat) : Int) + 1 = ((E + 1 : Nat) : Int) := by omega
         have HP1 := Aside.mk hp1
         have hsk4 : (q : Int) ≤ (E' : Int) := by omega
         have hsk5 : (E' : Int) ≤ (s.size : Int) := by omega
         clear hE' hsk3 hp1
         go_wp2_with fail
         rw [HP1.out]
         refine (HSK2.out _ cb c0).mono ?_
         rintro e w12 ⟨rfl, rfl⟩
         rw [HE'.out]
         clear HSK2
         go_wp2_with fail
         refine region_v [124, 125, 126, 127, 128, 129, 130, 131, 132, 133, 134, 135, 136, 137, 138] 15 [.pointer (some ⟨g, 0, none⟩), .pointer (some ⟨g, 0, none⟩), .pointer (some ⟨g, 0, none⟩), .string s, .pointer (some ⟨g, 0, none⟩), .pointer (some ⟨g, 0, none⟩), .pointer (some ⟨g, 1, none⟩), .int .i64 (q : Nat), .int .i64 (E' : Nat), .string (s.extract q E'), .pointer (some ⟨g, 0, none⟩), .pointer (some ⟨g, 0, none⟩), .pointer (some ⟨g, 1, none⟩), .int .i64 (q : Nat), .agg #[.int .i64 2, .string (s.extract q E'), .int .i64 (q : Nat)]] rfl rfl ?_ ?_
         ·iterate 15 (refine AllV.val rfl (fun w hb => by simp [execOp, Act.eval, kp hb cb, kp hb c0, kp hb c1, hsk4, hsk5, hqs, go_sem]) ?_)
          exact AllV.nil
         intro w13 hb
         simp only [List.drop_succ_cons, List.drop_zero]
         have HH13 := Aside.mk hb
         clear hb
         clear cb c0 c1 c2 hlb hlg hfz
         have HPK := Aside.mk (HPK.out.below HH13.out)
         obtain ⟨cb, c0, c1, c2, hlb, hlg, hfz⟩ := HPK.out.cells
         obtain ⟨t0, t1, t2, f0, f1, f2⟩ := HPK.out.toks
         go_wp2_with fail
         exact pk_end HPK.out HSZ.out (by omega) HAT.out HTK.out rfl rfl rfl rfl
        | false =>
         have HTK : Aside (tokAt nl s.data.toList q = ⟨2, q, E⟩) := ⟨by
          rw [HTK0.out]; unfold numEnd; simp only [HE.out, HC2.out.1]
          rw [if_neg (by rintro ⟨-, h⟩; rw [HC2.out.2] at h; simp [hd3] at h)]⟩
         go_wp2_with fail
         refine region_v [124, 125, 126, 127, 128, 129, 130, 131, 132, 133, 134, 135, 136, 137, 138] 15 [.pointer (some ⟨g, 0, none⟩), .pointer (some ⟨g, 0, none⟩), .pointer (some ⟨g, 0, none⟩), .string s, .pointer (some ⟨g, 0, none⟩), .pointer (some ⟨g, 0, none⟩), .pointer (some ⟨g, 1, none⟩), .int .i64 (q : Nat), .int .i64 (E : Nat), .string (s.extract q E), .pointer (some ⟨g, 0, none⟩), .pointer (some ⟨g, 0, none⟩), .pointer (some ⟨g, 1, none⟩), .int .i64 (q : Nat), .agg #[.int .i64 2, .string (s.extract q E), .int .i64 (q : Nat)]] rfl rfl ?_ ?_
         ·iterate 15 (refine AllV.val rfl (fun w hb => by simp [execOp, Act.eval, kp hb cb, kp hb c0, kp hb c1, hsk1, hsk2, hqs, go_sem]) ?_)
          exact AllV.nil
         intro w13 hb
         simp only [List.drop_succ_cons, List.drop_zero]
         have HH13 := Aside.mk hb
         clear hb
         clear cb c0 c1 c2 hlb hlg hfz
         have HPK := Aside.mk (HPK.out.below HH13.out)
         obtain ⟨cb, c0, c1, c2, hlb, hlg, hfz⟩ := HPK.out.cells
         obtain ⟨t0, t1, t2, f0, f1, f2⟩ := HPK.out.toks
         go_wp2_with fail
         exact pk_end HPK.out HSZ.out (by omega) HAT.out HTK.out rfl rfl rfl rfl
       ·have hY46 : ((Y : Int) == 46) = false := by rw [beq_eq_false_iff_ne]; omega
        have HTK : Aside (tokAt nl s.data.toList q = ⟨2, q, E⟩) := ⟨by
         rw [HTK0.out]; unfold numEnd; simp only [HE.out, HC2.out.1]
         rw [if_neg (by rintro ⟨h, -⟩; apply h46; rw [← HYZ.out]; rw [Option.some.inj h]; rfl)]⟩
        clear h46
        go_wp2_with fail
        refine region_v [124, 125, 126, 127, 128, 129, 130, 131, 132, 133, 134, 135, 136, 137, 138] 15 [.pointer (some ⟨g, 0, none⟩), .pointer (some ⟨g, 0, none⟩), .pointer (some ⟨g, 0, none⟩), .string s, .pointer (some ⟨g, 0, none⟩), .pointer (some ⟨g, 0, none⟩), .pointer (some ⟨g, 1, none⟩), .int .i64 (q : Nat), .int .i64 (E : Nat), .string (s.extract q E), .pointer (some ⟨g, 0, none⟩), .pointer (some ⟨g, 0, none⟩), .pointer (some ⟨g, 1, none⟩), .int .i64 (q : Nat), .agg #[.int .i64 2, .string (s.extract q E), .int .i64 (q : Nat)]] rfl rfl ?_ ?_
        ·iterate 15 (refine AllV.val rfl (fun w hb => by simp [execOp, Act.eval, kp hb cb, kp hb c0, kp hb c1, hsk1, hsk2, hqs, go_sem]) ?_)
         exact AllV.nil
        intro w13 hb
        simp only [List.drop_succ_cons, List.drop_zero]
        have HH13 := Aside.mk hb
        clear hb
        clear cb c0 c1 c2 hlb hlg hfz
        have HPK := Aside.mk (HPK.out.below HH13.out)
        obtain ⟨cb, c0, c1, c2, hlb, hlg, hfz⟩ := HPK.out.cells
        obtain ⟨t0, t1, t2, f0, f1, f2⟩ := HPK.out.toks
        go_wp2_with fail
        exact pk_end HPK.out HSZ.out (by omega) HAT.out HTK.out rfl rfl rfl rfl
      ·have hE1 : ¬ (E : Int) + 1 < (s.size : Int) := by omega
       have HTK : Aside (tokAt nl s.data.toList q = ⟨2, q, E⟩) := ⟨by
        rw [HTK0.out]; unfold numEnd; simp only [HE.out]
        rw [if_neg (by rintro ⟨-, h⟩; rw [List.getElem?_eq_none (by rw [hsl.out]; omega)] at h; simp at h)]⟩
       go_wp2_with fail
       refine region_v [124, 125, 126, 127, 128, 129, 130, 131, 132, 133, 134, 135, 136, 137, 138] 15 [.pointer (some ⟨g, 0, none⟩), .pointer (some ⟨g, 0, none⟩), .pointer (some ⟨g, 0, none⟩), .string s, .pointer (some ⟨g, 0, none⟩), .pointer (some ⟨g, 0, none⟩), .pointer (some ⟨g, 1, none⟩), .int .i64 (q : Nat), .int .i64 (E : Nat), .string (s.extract q E), .pointer (some ⟨g, 0, none⟩), .pointer (some ⟨g, 0, none⟩), .pointer (some ⟨g, 1, none⟩), .int .i64 (q : Nat), .agg #[.int .i64 2, .string (s.extract q E), .int .i64 (q : Nat)]] rfl rfl ?_ ?_
       ·iterate 15 (refine AllV.val rfl (fun w hb => by simp [execOp, Act.eval, kp hb cb, kp hb c0, kp hb c1, hsk1, hsk2, hqs, go_sem]) ?_)
        exact AllV.nil
       intro w13 hb
       simp only [List.drop_succ_cons, List.drop_zero]
       have HH13 := Aside.mk hb
       clear hb
       clear cb c0 c1 c2 hlb hlg hfz
       have HPK := Aside.mk (HPK.out.below HH13.out)
       obtain ⟨cb, c0, c1, c2, hlb, hlg, hfz⟩ := HPK.out.cells
       obtain ⟨t0, t1, t2, f0, f1, f2⟩ := HPK.out.toks
       go_wp2_with fail
       exact pk_end HPK.out HSZ.out (by omega) HAT.out HTK.out rfl rfl rfl rfl
     | false =>
      have HTK0 : Aside (tokAt nl s.data.toList q = if isCh c || (c == 10 && nl) then ⟨3, q, q + 1⟩ else ⟨4, q, q⟩) := ⟨by unfold tokAt; rw [HC.out]; simp only; rw [if_neg (by rw [hlt]; simp), if_neg (by rw [hdg]; simp)]⟩
      have HTN : Aside (decide (((X : Nat) : Int) = 10) = (c == 10)) := ⟨by rw [← HXX.out, Bool.eq_iff_iff, decide_eq_true_iff, beq_iff_eq]; exact ⟨byte10 c, fun h => by rw [h]; rfl⟩⟩
      go_wp2_with fail
      refine (HIC.out _).mono ?_
      rintro e w10 ⟨R2, rfl, hR2, rfl⟩
      have HR2 := Aside.mk hR2
      clear hR2
      have hqa : (q : Int) ≤ (q : Int) + 1 := by omega
      have hqb : (q : Int) + 1 ≤ (s.size : Int) := by omega
      have hqw : IntKind.i64.wrap ((q : Int) + 1) = (q : Int) + 1 := IntWalk.i64_in _ (by omega)
      by_cases h10 : (0 : Int) ≤ R2
      ·have HTK : Aside (tokAt nl s.data.toList q = ⟨3, q, q + 1⟩) := ⟨by rw [HTK0.out, if_pos (by rw [← HR2.out]; simp [h10])]⟩
       go_wp2_with fail
       refine region_v [153, 154, 155, 156, 157, 158, 159, 160, 161, 162, 163, 164, 165, 166, 167, 168, 169, 170, 171] 19 [.pointer (some ⟨g, 0, none⟩), .pointer (some ⟨g, 0, none⟩), .pointer (some ⟨g, 0, none⟩), .string s, .pointer (some ⟨g, 0, none⟩), .pointer (some ⟨g, 0, none⟩), .pointer (some ⟨g, 1, none⟩), .int .i64 (q : Nat), .pointer (some ⟨g, 0, none⟩), .pointer (some ⟨g, 0, none⟩), .pointer (some ⟨g, 1, none⟩), .int .i64 (q : Nat), .int .i64 ((q : Int) + 1), .string (s.extract q (q + 1)), .pointer (some ⟨g, 0, none⟩), .pointer (some ⟨g, 0, none⟩), .pointer (some ⟨g, 1, none⟩), .int .i64 (q : Nat), .agg #[.int .i64 3, .string (s.extract q (q + 1)), .int .i64 (q : Nat)]] rfl rfl ?_ ?_
       ·iterate 19 (refine AllV.val rfl (fun w hb => by simp [execOp, Act.eval, kp hb cb, kp hb c0, kp hb c1, hqw, hqa, hqb, hqs, go_sem]) ?_)
        exact AllV.nil
       intro w15 hb
       simp only [List.drop_succ_cons, List.drop_zero]
       have HH15 := Aside.mk hb
       clear hb
       clear cb c0 c1 c2 hlb hlg hfz
       have HPK := Aside.mk (HPK.out.below HH15.out)
       obtain ⟨cb, c0, c1, c2, hlb, hlg, hfz⟩ := HPK.out.cells
       obtain ⟨t0, t1, t2, f0, f1, f2⟩ := HPK.out.toks
       go_wp2_with fail
       exact pk_end HPK.out HSZ.out (by omega) HAT.out HTK.out rfl rfl rfl rfl
      ·have HCF : Aside (isCh c = false) := ⟨by rw [← HR2.out]; simp [h10]⟩
       by_cases h11 : (X : Int) = 10
       ·have hX10 : ((X : Int) == 10) = true := by rw [h11]; rfl
        have HX : Aside ((c == 10) = true) := ⟨by rw [← HTN.out]; simp [h11]⟩
        clear h11
        cases nl with
        | true =>
         have HTK : Aside (tokAt true s.data.toList q = ⟨3, q, q + 1⟩) := ⟨by rw [HTK0.out, if_pos (by rw [HX.out]; simp)]⟩
         go_wp2_with fail
         refine region_v [153, 154, 155, 156, 157, 158, 159, 160, 161, 162, 163, 164, 165, 166, 167, 168, 169, 170, 171] 19 [.pointer (some ⟨g, 0, none⟩), .pointer (some ⟨g, 0, none⟩), .pointer (some ⟨g, 0, none⟩), .string s, .pointer (some ⟨g, 0, none⟩), .pointer (some ⟨g, 0, none⟩), .pointer (some ⟨g, 1, none⟩), .int .i64 (q : Nat), .pointer (some ⟨g, 0, none⟩), .pointer (some ⟨g, 0, none⟩), .pointer (some ⟨g, 1, none⟩), .int .i64 (q : Nat), .int .i64 ((q : Int) + 1), .string (s.extract q (q + 1)), .pointer (some ⟨g, 0, none⟩), .pointer (some ⟨g, 0, none⟩), .pointer (some ⟨g, 1, none⟩), .int .i64 (q : Nat), .agg #[.int .i64 3, .string (s.extract q (q + 1)), .int .i64 (q : Nat)]] rfl rfl ?_ ?_
         ·iterate 19 (refine AllV.val rfl (fun w hb => by simp [execOp, Act.eval, kp hb cb, kp hb c0, kp hb c1, hqw, hqa, hqb, hqs, go_sem]) ?_)
          exact AllV.nil
         intro w15 hb
         simp only [List.drop_succ_cons, List.drop_zero]
         have HH15 := Aside.mk hb
         clear hb
         clear cb c0 c1 c2 hlb hlg hfz
         have HPK := Aside.mk (HPK.out.below HH15.out)
         obtain ⟨cb, c0, c1, c2, hlb, hlg, hfz⟩ := HPK.out.cells
         obtain ⟨t0, t1, t2, f0, f1, f2⟩ := HPK.out.toks
         go_wp2_with fail
         exact pk_end HPK.out HSZ.out (by omega) HAT.out HTK.out rfl rfl rfl rfl
        | false =>
         have HTK : Aside (tokAt false s.data.toList q = ⟨4, q, q⟩) := ⟨by rw [HTK0.out, if_neg (by rw [HCF.out]; simp)]⟩
         obtain ⟨t0, t1, t2, f0, f1, f2⟩ := HPK.out.toks
         go_wp2_with fail
         exact pk_end HPK.out HSZ.out (by omega) HAT.out HTK.out rfl rfl rfl rfl
       ·have hX10 : ((X : Int) == 10) = false := by rw [beq_eq_false_iff_ne]; exact h11
        have HTK : Aside (tokAt nl s.data.toList q = ⟨4, q, q⟩) := ⟨by rw [HTK0.out, if_neg (by rw [HCF.out, ← HTN.out]; simp [h11])]⟩
        clear h11
        obtain ⟨t0, t1, t2, f0, f1, f2⟩ := HPK.out.toks
        go_wp2_with fail
        exact pk_end HPK.out HSZ.out (by omega) HAT.out HTK.out rfl rfl rfl rfl
  ·have hnq : ¬ (q : Int) < (s.size : Int) := by omega
   have hqe : q = s.size := by have := HQ.out; omega
   have HQE := Aside.mk hqe
   have hqle : s.size ≤ q := by omega
   have HNO : Aside (s.data.toList[q]? = none) := ⟨List.getElem?_eq_none (by rw [hsl.out]; omega)⟩
   have HST : Aside (skp isWs s.data.toList σ.pos = q) := ⟨by rw [← HS.out]; exact skp_end isWs _ q (by rw [hsl.out]; omega)⟩
   have HAT : Aside (peekT nl s.data.toList σ.pos = tokAt nl s.data.toList q) := ⟨by unfold peekT; rw [HST.out]⟩
   have HTK : Aside (tokAt nl s.data.toList q = ⟨0, q, q⟩) := ⟨by unfold tokAt; rw [HNO.out]⟩
   have hmf : ∀ (fn : Fn) (first cap : Array Value) (w : World), (Instr.makeFunc fn first cap).run Tryz.prog w = .ok (.func fn first cap) w := fun _ _ _ _ => rfl
   have hqeq : ((q : Int) == (s.size : Int)) = true := by rw [hqe]; simp
   clear hqe HS
   go_wp2_with fail
   refine region_v [6, 7, 8, 9, 10, 11, 12, 13, 14, 15, 16, 17, 18, 19, 20, 21, 22, 23, 24, 25, 26, 27] 22 [.pointer (some ⟨g, 0, none⟩), .pointer (some ⟨g, 0, none⟩), .pointer (some ⟨g, 1, none⟩), .int .i64 (q : Nat), .pointer (some ⟨g, 0, none⟩), .pointer (some ⟨g, 0, none⟩), .pointer (some ⟨g, 0, none⟩), .string s, .int .i64 (s.size : Nat), .bool false, .bool false, undef, undef, undef, undef, undef, undef, undef, undef, undef, undef, undef] rfl rfl ?_ ?_
   ·iterate 22 (first | refine AllV.off rfl ?_ | refine AllV.val rfl (fun w hb => by simp [execOp, Act.eval, kp hb cb, kp hb c1, kp hb c0, hnq, hqle, go_sem]) ?_)
    exact AllV.nil
   intro w1 hb
   simp only [List.drop_succ_cons, List.drop_zero]
   have HH1 := Aside.mk hb
   clear hb
   clear cb c0 c1 c2 hlb hlg hfz
   have HPK := Aside.mk (HPK.out.below HH1.out)
   obtain ⟨cb, c0, c1, c2, hlb, hlg, hfz⟩ := HPK.out.cells
   go_wp2_with fail
   refine region_v [36, 37, 38, 39, 40, 41, 42, 43, 44] 9 [.pointer (some ⟨g, 0, none⟩), .pointer (some ⟨g, 0, none⟩), .pointer (some ⟨g, 1, none⟩), .int .i64 (q : Nat), .pointer (some ⟨g, 0, none⟩), .pointer (some ⟨g, 0, none⟩), .pointer (some ⟨g, 0, none⟩), .string s, .int .i64 (s.size : Nat)] rfl rfl ?_ ?_
   ·iterate 9 (refine AllV.val rfl (fun w hb => by simp [execOp, Act.eval, kp hb cb, kp hb c1, kp hb c0, go_sem]) ?_)
    exact AllV.nil
   intro w3 hb
   simp only [List.drop_succ_cons, List.drop_zero]
   have HH3 := Aside.mk hb
   clear hb
   clear cb c0 c1 c2 hlb hlg hfz
   have HPK := Aside.mk (HPK.out.below HH3.out)
   obtain ⟨cb, c0, c1, c2, hlb, hlg, hfz⟩ := HPK.out.cells
   obtain ⟨t0, t1, t2, f0, f1, f2⟩ := HPK.out.toks
   go_wp2_with fail
   exact pk_end HPK.out HSZ.out HQ.out.1 HAT.out HTK.out rfl rfl rfl rfl
theorem peek_any (w : World) (g : Nat) (B : Nat → Prop) (s : ByteArray) (nl : Bool) (σ : PS) (h : Par w g B s nl σ) :
  Calls Tryz.prog 94 #[.pointer (some ⟨g, 0, none⟩)] w fun e w' => e = .returned (tokV s (peekT nl s.data.toList σ.pos)) ∧ FrP B w w' ∧ Par w' g B s nl { σ with pos := (peekT nl s.data.toList σ.pos).lo } :=
 (peek_anyQ w g B s nl σ h).mono fun e w' h => ⟨h.1, h.2.1.wide, h.2.2.1⟩
end Go.Proofs.YthcidkidpiaomaaGreatDoor.Od
end
