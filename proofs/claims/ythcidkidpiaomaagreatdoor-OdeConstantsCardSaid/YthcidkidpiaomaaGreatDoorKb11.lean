/- OdB -/
import Derived.Test.YthcidkidpiaomaaGreatDoorKb10
import Derived.Test.YthcidkidpiaomaaGreatDoorKb07
section
set_option linter.unusedVariables false
set_option linter.unusedSimpArgs false
namespace Go.Proofs.YthcidkidpiaomaaGreatDoor.Od
open Go.RowKit Rg
theorem skp_step' (f : UInt8 → Bool) {L : List UInt8} {p : Nat} {c : UInt8} (h : L[p]? = some c) (hf : f c = true) : skp f L p = skp f L (p + 1) := by
 obtain ⟨hl, hc⟩ := List.getElem?_eq_some_iff.1 h
 exact skp_step f L p hl (by rw [hc]; exact hf)
theorem skp_stop' (f : UInt8 → Bool) {L : List UInt8} {p : Nat} {c : UInt8} (h : L[p]? = some c) (hf : f c = false) : skp f L p = p := by
 obtain ⟨hl, hc⟩ := List.getElem?_eq_some_iff.1 h
 exact skp_stop f L p hl (by rw [hc]; exact hf)
theorem lt_of {w : World} {g : Nat} {o : Obj} (h : w.heap[g]? = some o) : g < w.heap.size := heap_lt h
theorem set3 {w : World} {k : Nat} {a b c : Value} {T : TypeId} (h : w.heap[k]? = some (.cells #[a, b, c] T (0, 0))) (x y z : Value) :
  (((w.setCell ⟨k, 0, none⟩ x).setCell ⟨k, 1, none⟩ y).setCell ⟨k, 2, none⟩ z).heap[k]? = some (.cells #[x, y, z] T (0, 0)) := by
 have h1 : (w.setCell ⟨k, 0, none⟩ x).heap[k]? = some (.cells #[x, b, c] T (0, 0)) := row_cell h x
 have h2 : ((w.setCell ⟨k, 0, none⟩ x).setCell ⟨k, 1, none⟩ y).heap[k]? = some (.cells #[x, y, c] T (0, 0)) := row_cell h1 y
 exact row_cell h2 z
def tokV (s : ByteArray) (t : Tok) : Value := .agg #[.int .i64 t.kind, .string (if t.kind = 0 ∨ t.kind = 4 then ⟨#[]⟩ else s.extract t.lo t.hi), .int .i64 (t.lo : Nat)]
structure Pk (w : World) (g : Nat) (B : Nat → Prop) (gb gr : Nat) (s : ByteArray) (nl : Bool) (σ : PS) (v : Value) (q : Nat) (wr : World) : Prop where
 row : wr.heap[g]? = some (.cells #[.string s, .int .i64 (q : Nat), .bool nl, v, .bool σ.bad] 104 (0, 0))
 box : wr.heap[gb]? = some (.cells #[.pointer (some ⟨g, 0, none⟩)] 101 (0, 0))
 tok : wr.heap[gr]? = some (.cells #[.int .i64 0, .string ⟨#[]⟩, .int .i64 0] 108 (0, 0))
 own : OwnT B wr v σ.names.length (toks s σ.names)
 fr : FrQ B w wr
 lt : ¬ B g ∧ g < w.heap.size ∧ w.heap.size ≤ gb ∧ gb < gr
 old : ∀ k, v.ownBlock = some k → k < w.heap.size
 few : σ.names.length ≤ σ.pos
 bnd : ∀ k, B k → k < w.heap.size
 start : w.cell? ⟨g, 3, none⟩ = some v
section
variable {w wr w' : World} {g gb gr q : Nat} {B : Nat → Prop} {s : ByteArray} {nl : Bool} {σ : PS} {v : Value}
theorem Pk.below (h : Pk w g B gb gr s nl σ v q wr) (hb : Below wr.heap.size wr w') : Pk w g B gb gr s nl σ v q w' :=
 ⟨by rw [hb.block _ (lt_of h.row)]; exact h.row, by rw [hb.block _ (lt_of h.box)]; exact h.box, by rw [hb.block _ (lt_of h.tok)]; exact h.tok, ⟨owns_below h.own.1 hb, h.own.2⟩, h.fr.trans (Fr.of hb), h.lt, h.old, h.few, h.bnd, h.start⟩
theorem Pk.cells (h : Pk w g B gb gr s nl σ v q wr) : wr.cell? ⟨gb, 0, none⟩ = some (.pointer (some ⟨g, 0, none⟩)) ∧ wr.cell? ⟨g, 0, none⟩ = some (.string s) ∧ wr.cell? ⟨g, 1, none⟩ = some (.int .i64 (q : Nat)) ∧ wr.cell? ⟨g, 2, none⟩ = some (.bool nl) ∧ gb < wr.heap.size ∧ g < wr.heap.size ∧ wr.frozen? ⟨g, 1, none⟩ = false :=
 ⟨by rw [cell_of_row wr _ 0 _ _ _ h.box]; rfl, by rw [cell_of_row wr _ 0 _ _ _ h.row]; rfl, by rw [cell_of_row wr _ 1 _ _ _ h.row]; rfl, by rw [cell_of_row wr _ 2 _ _ _ h.row]; rfl, lt_of h.box, lt_of h.row, by simp [World.frozen?, h.row]⟩
theorem Pk.toks (h : Pk w g B gb gr s nl σ v q wr) : wr.cell? ⟨gr, 0, none⟩ = some (.int .i64 0) ∧ wr.cell? ⟨gr, 1, none⟩ = some (.string ⟨#[]⟩) ∧ wr.cell? ⟨gr, 2, none⟩ = some (.int .i64 0) ∧ (wr.frozen? ⟨gr, 0, none⟩ = false ∧ wr.frozen? ⟨gr, 1, none⟩ = false ∧ wr.frozen? ⟨gr, 2, none⟩ = false) :=
 ⟨by rw [cell_of_row wr _ 0 _ _ _ h.tok]; rfl, by rw [cell_of_row wr _ 1 _ _ _ h.tok]; rfl, by rw [cell_of_row wr _ 2 _ _ _ h.tok]; rfl, by simp [World.frozen?, h.tok], by simp [World.frozen?, h.tok], by simp [World.frozen?, h.tok]⟩
theorem Pk.set (h : Pk w g B gb gr s nl σ v q wr) (r : Nat) : Pk w g B gb gr s nl σ v r (wr.setCell ⟨g, 1, none⟩ (.int .i64 (r : Nat))) := by
 have hl := h.lt
 refine ⟨row_cell h.row _, ?_, ?_, ⟨owns_set h.own.1 h.row (by decide), h.own.2⟩, h.fr.trans (Fr.set h.row hl.1 _), h.lt, h.old, h.few, h.bnd, h.start⟩
 ·rw [Below.heap_setCell _ _ _ _ (by show gb ≠ g; omega)]; exact h.box
 ·rw [Below.heap_setCell _ _ _ _ (by show gr ≠ g; omega)]; exact h.tok
theorem Pk.done (h : Pk w g B gb gr s nl σ v q wr) (hs : s.size ≤ 8000) (hq : q ≤ s.size) (hge : σ.pos ≤ q) (x y z : Value) :
  (((wr.setCell ⟨gr, 0, none⟩ x).setCell ⟨gr, 1, none⟩ y).setCell ⟨gr, 2, none⟩ z).heap[gr]? = some (.cells #[x, y, z] 108 (0, 0)) ∧
   FrQ B w (((wr.setCell ⟨gr, 0, none⟩ x).setCell ⟨gr, 1, none⟩ y).setCell ⟨gr, 2, none⟩ z) ∧ Par (((wr.setCell ⟨gr, 0, none⟩ x).setCell ⟨gr, 1, none⟩ y).setCell ⟨gr, 2, none⟩ z) g B s nl { σ with pos := q } ∧ Same3 g w (((wr.setCell ⟨gr, 0, none⟩ x).setCell ⟨gr, 1, none⟩ y).setCell ⟨gr, 2, none⟩ z) := by
 have hl := h.lt
 have hn : w.heap.size ≤ gr := by omega
 have h1 : (wr.setCell ⟨gr, 0, none⟩ x).heap[gr]? = some (.cells #[x, .string ⟨#[]⟩, .int .i64 0] 108 (0, 0)) := row_cell h.tok x
 have h2 : ((wr.setCell ⟨gr, 0, none⟩ x).setCell ⟨gr, 1, none⟩ y).heap[gr]? = some (.cells #[x, y, .int .i64 0] 108 (0, 0)) := row_cell h1 y
 have hne : g ≠ gr := by omega
 have hov : ∀ k, v.ownBlock = some k → k ≠ gr := fun k hk => by have := h.old k hk; omega
 have own3 : ∀ (w1 : World) (i : Nat) (u : Value), w1.ownsRow 0 108 3 v σ.names.length (Od.toks s σ.names) → (w1.setCell ⟨gr, i, none⟩ u).ownsRow 0 108 3 v σ.names.length (Od.toks s σ.names) := fun w1 i u ho => by
  obtain ⟨a1, a2⟩ := ho
  refine ⟨a1, ?_⟩
  rcases a2 with a2 | ⟨g', cap, cur, hv, hg', hh, r⟩
  ·exact Or.inl a2
  ·refine Or.inr ⟨g', cap, cur, hv, hg', ?_, r⟩
   rw [Below.heap_setCell _ _ _ _ (hov g' (by rw [hv]; rfl))]; exact hh
 have hrow : (((wr.setCell ⟨gr, 0, none⟩ x).setCell ⟨gr, 1, none⟩ y).setCell ⟨gr, 2, none⟩ z).heap[g]? = some (.cells #[.string s, .int .i64 (q : Nat), .bool nl, v, .bool σ.bad] 104 (0, 0)) := by
  rw [Below.heap_setCell _ _ _ _ hne, Below.heap_setCell _ _ _ _ hne, Below.heap_setCell _ _ _ _ hne]; exact h.row
 refine ⟨set3 h.tok x y z, ((h.fr.setNew hn x).setNew hn y).setNew hn z, ⟨⟨v, hrow, own3 _ _ _ (own3 _ _ _ (own3 _ _ _ h.own.1)), h.own.2⟩, hq, hl.1, hs, Nat.le_trans h.few hge, fun k hk => Nat.lt_of_lt_of_le (h.bnd k hk) (by simpa [World.setCell] using h.fr.size)⟩, ?_⟩
 unfold Same3
 rw [h.start, cell_of_row _ _ 3 _ _ _ hrow]; rfl
end
theorem enters_ix : ∀ args w, (callFunc 133 args).run Tryz.prog w = .ok (.enter 133 args) w := fun args w => by kernel_rfl
theorem run_call {dst : Option Tmp} {type : TypeId} {pos : String} {after : Array Edge} {guard : Option (Nat × Bool)} {a : Act} {w : World} {f : Nat} {xs : Array Operand} {ats : Array TypeId} {args : Array Value} (hf : ∀ args w, (callFunc f args).run Tryz.prog w = .ok (.enter f args) w) (h : #[] ++ xs.map a.eval ++ #[] = args) :
  (execOp a.eval { dst, op := .call { callee := .value (.func f), args := xs, argTypes := ats }, type, pos, after, guard }).run Tryz.prog w = .ok (.enter f args) w := by
 subst h
 exact hf _ _
set_option maxRecDepth 100000 in
theorem run_callv {dst : Option Tmp} {type : TypeId} {pos : String} {after : Array Edge} {guard : Option (Nat × Bool)} {a : Act} {w : World} {f : Nat} {x : Operand} {cap : Array Value} {xs : Array Operand} {ats : Array TypeId} {args : Array Value} (hx : a.eval x = .func (.func f) #[] cap) (hf : ∀ args w, (callFunc f args).run Tryz.prog w = .ok (.enter f args) w) (h : #[] ++ xs.map a.eval ++ cap = args) :
  (execOp a.eval { dst, op := .call { callee := .value x, args := xs, argTypes := ats }, type, pos, after, guard }).run Tryz.prog w = .ok (.enter f args) w := by
 subst h
 show Sem.run _ (do let d ← Deferred.ofValue (a.eval x) (xs.map a.eval); invoke d.target d.args) w = _
 rw [hx]
 exact hf _ _
theorem byte10 (c : UInt8) (h : (c.toNat : Int) = 10) : c = 10 := UInt8.toNat_inj.1 (by
 have h' : c.toNat = 10 := by omega
 rw [h']; rfl)
theorem enters_skip : ∀ args w, (callFunc 134 args).run Tryz.prog w = .ok (.enter 134 args) w := fun args w => by kernel_rfl
def PkPost (w : World) (g : Nat) (B : Nat → Prop) (s : ByteArray) (nl : Bool) (σ : PS) (e : Ending) (w' : World) : Prop :=
 e = .returned (tokV s (peekT nl s.data.toList σ.pos)) ∧ FrQ B w w' ∧ Par w' g B s nl { σ with pos := (peekT nl s.data.toList σ.pos).lo } ∧ Same3 g w w'
set_option maxRecDepth 100000 in
theorem pk_end {w wr : World} {g gb gr q : Nat} {B : Nat → Prop} {s : ByteArray} {nl : Bool} {σ : PS} {v : Value} {tm : Array Value} {t : Tok} {x : ByteArray} {k : Int} (h : Pk w g B gb gr s nl σ v q wr) (hs : s.size ≤ 8000) (hq : q ≤ s.size)
  (hp : peekT nl s.data.toList σ.pos = tokAt nl s.data.toList q) (ht : tokAt nl s.data.toList q = t) (hk : t.kind = k) (hl : t.lo = q) (hx : (if t.kind = 0 ∨ t.kind = 4 then ⟨#[]⟩ else s.extract t.lo t.hi) = x) (h2 : tm.getD 2 undef = .pointer (some ⟨gr, 0, none⟩)) :
  bodyPost Tryz.prog Tryz.f94 (fun e w' => PkPost w g B s nl σ e w') Exit.ret ⟨tm, []⟩ (((wr.setCell ⟨gr, 0, none⟩ (.int .i64 k)).setCell ⟨gr, 1, none⟩ (.string x)).setCell ⟨gr, 2, none⟩ (.int .i64 (q : Nat))) := by
 obtain ⟨hr, hf, hP, h3⟩ := h.done hs hq (by have h1 := peekT_ge nl s.data.toList σ.pos; rw [hp, ht, hl] at h1; exact h1) (.int .i64 k) (.string x) (.int .i64 (q : Nat))
 refine bodyPost_ret (results_cell_row rfl _ _ gr 108 #[.int .i64 k, .string x, .int .i64 (q : Nat)] (0, 0) _ h2 hr Tryz.underlying108 rfl (by kernel_rfl)) rfl ?_
 refine ⟨?_, hf, ?_, h3⟩
 ·rw [hp, ht]; unfold tokV; rw [hk, hl] at *; rw [hx]
 ·rw [hp, ht, hl]; exact hP
set_option maxRecDepth 100000 in
set_option maxHeartbeats 8000000 in
theorem peek_anyQ (w : World) (g : Nat) (B : Nat → Prop) (s : ByteArray) (nl : Bool) (σ : PS) (h : Par w g B s nl σ) :
  Calls Tryz.prog 94 #[.pointer (some ⟨g, 0, none⟩)] w fun e w' => PkPost w g B s nl σ e w' := by
 obtain ⟨v, hh, ho⟩ := h.here
 have HSZ := Aside.mk h.len
 have HLE := Aside.mk h.le
 have hB := h.base
 have hfew := h.few
 have hbnd := h.bnd
 have hgl := lt_of hh
 go_enter Tryz.func94, Tryz.ntmps94
 go_wp2_with fail
 have hpk : Pk w g B w.heap.size (w.heap.size + 1) s nl σ v σ.pos ((w.alloc (.cells #[.pointer (some ⟨g, 0, none⟩)] 101)).alloc (.cells #[.int .i64 0, .string ⟨#[]⟩, .int .i64 0] 108)) := by
  have hb : Below w.heap.size w ((w.alloc (.cells #[.pointer (some ⟨g, 0, none⟩)] 101)).alloc (.cells #[.int .i64 0, .string ⟨#[]⟩, .int .i64 0] 108)) := ((Below.refl _ _).alloc (Nat.le_refl _) _).alloc (by simp) _
  refine ⟨by rw [hb.block _ hgl]; exact hh, by rw [Below.heap_alloc _ _ _ (by simp)]; exact heap_alloc_last _ _, ?_, ⟨owns_below ho.1 hb, ho.2⟩, Fr.of hb, ⟨hB, hgl, Nat.le_refl _, Nat.lt_succ_self _⟩, fun k hk => (World.ownsRow.lt ho.1 k hk).2, hfew, hbnd, by rw [cell_of_row w _ 3 _ _ _ hh]; rfl⟩
  have := heap_alloc_last (w.alloc (.cells #[.pointer (some ⟨g, 0, none⟩)] 101)) (.cells #[.int .i64 0, .string ⟨#[]⟩, .int .i64 0] 108)
  simpa using this
 generalize (w.alloc (.cells #[.pointer (some ⟨g, 0, none⟩)] 101)).alloc (.cells #[.int .i64 0, .string ⟨#[]⟩, .int .i64 0] 108) = W at hpk ⊢
 obtain ⟨gr, hgr⟩ : ∃ x, w.heap.size + 1 = x := ⟨_, rfl⟩
 obtain ⟨gb, hgb⟩ : ∃ x, w.heap.size = x := ⟨_, rfl⟩
 simp only [hgr] at hpk ⊢
 simp only [hgb] at hpk ⊢
 have HPK := Aside.mk hpk
 have hsl : Aside (s.data.toList.length = s.size) := ⟨rfl⟩
 clear h hh ho hB hgl hpk hgr hgb hfew hbnd
 go_loopg [28] s.size (fun m v28 wr => ∃ q : Nat, Aside (Pk w g B gb gr s nl σ v q wr) ∧ Aside (q ≤ s.size ∧ s.size - q ≤ m) ∧ Aside (skp isWs s.data.toList q = skp isWs s.data.toList σ.pos))
 case atStart => exact ⟨σ.pos, HPK, ⟨HLE.out, by omega⟩, ⟨rfl⟩⟩
 case round =>
  clear HPK
  obtain ⟨q, HPK, HQ, HS⟩ := hrel
  obtain ⟨cb, c0, c1, c2, hlb, hlg, hfz⟩ := HPK.out.cells
  by_cases hq' : q < s.size
  ·have hq : (q : Int) < (s.size : Int) := by omega
   have HQL := Aside.mk hq'
   obtain ⟨c, hc⟩ : ∃ c, s.data.toList[q]? = some c := ⟨_, List.getElem?_eq_getElem (by rw [hsl.out]; exact hq')⟩
   have HC := Aside.mk hc
   have hX0 : ∀ h : q < s.size, s[q].toNat = c.toNat := fun h => by rw [← (List.getElem?_eq_some_iff.1 hc).2]; rfl
   obtain ⟨X, hXX⟩ : ∃ X, c.toNat = X := ⟨_, rfl⟩
   have hX := hX0 hq'
   rw [hXX] at hX
   obtain ⟨R, hR⟩ : ∃ R, Lib.indexByte (⟨#[32, 9, 13]⟩ : ByteArray).data.toList ((X : Nat) : Int).toNat.toUInt8 = R := ⟨_, rfl⟩
   have hcX : ((X : Nat) : Int).toNat.toUInt8 = c := by rw [← hXX]; simp
   have hwsR : decide (0 ≤ R) = isWs c := by
    rw [← hR, hcX]
    have := ws_all c.toNat c.toNat_lt
    rw [UInt8.ofNat_toNat] at this
    exact this
   have HXX := Aside.mk hXX
   clear hc hX0 hXX hcX
   cases hw : isWs c with
   | true =>
    have hR0 : 0 ≤ R := by rw [hw] at hwsR; simpa using hwsR
    have HST : Aside (skp isWs s.data.toList (q + 1) = skp isWs s.data.toList σ.pos) := ⟨by rw [← HS.out, skp_step' isWs HC.out hw]⟩
    have hqi : (q : Int) < 9000 := by have := HSZ.out; omega
    clear hwsR hw
    go_wp2_with fail
    refine region_list (T := tab2 [
      Sq.val (.pointer (some ⟨g, 0, none⟩)), Sq.val (.pointer (some ⟨g, 0, none⟩)), Sq.val (.pointer (some ⟨g, 1, none⟩)), Sq.val (.int .i64 (q : Nat)), Sq.val (.pointer (some ⟨g, 0, none⟩)), Sq.val (.pointer (some ⟨g, 0, none⟩)), Sq.val (.pointer (some ⟨g, 0, none⟩)), Sq.val (.string s), Sq.val (.int .i64 (s.size : Nat)), Sq.val (.bool true), Sq.val (.bool true), Sq.val (.pointer (some ⟨g, 0, none⟩)), Sq.val (.pointer (some ⟨g, 0, none⟩)), Sq.val (.pointer (some ⟨g, 0, none⟩)), Sq.val (.string s), Sq.val (.pointer (some ⟨g, 0, none⟩)), Sq.val (.pointer (some ⟨g, 0, none⟩)), Sq.val (.pointer (some ⟨g, 1, none⟩)), Sq.val (.int .i64 (q : Nat)), Sq.val (.int .u8 (X : Nat)), Sq.val (.int .i64 R), Sq.val (.bool true)]) 22
     [_, _, _, _, _, _, _, _, _, _, _, _, _, _, _, _, _, _, _, _, _, _, _] (by kernel_rfl) (by kernel_rfl) (by kernel_rfl) (by kernel_rfl) (by kernel_rfl) (by kernel_rfl) rfl ?_ ?_
    ·refine AllIn.cons ?_ ?_
     ·intro a w hz hb ho hg
      have e1 : a.tmps.getD 1 undef = .pointer (some ⟨gb, 0, none⟩) := ho 1 (by kernel_rfl)
      have f1 := Rg.gd e1
      have q := (hb.cell (p := ⟨gb, 0, none⟩) hlb).trans cb
      exact wv hb rfl (by simp [execOp, Act.eval, e1, f1, q, go_sem]) rfl
     refine AllIn.cons ?_ ?_
     ·intro a w hz hb ho hg
      have e6 : a.tmps.getD 6 undef = .pointer (some ⟨g, 0, none⟩) := got_of hg (j := 0) rfl rfl rfl
      have f6 := Rg.gd e6
      exact wv hb rfl (by simp [execOp, Act.eval, e6, f6, go_sem]) rfl
     refine AllIn.cons ?_ ?_
     ·intro a w hz hb ho hg
      have e7 : a.tmps.getD 7 undef = .pointer (some ⟨g, 0, none⟩) := got_of hg (j := 1) rfl rfl rfl
      have f7 := Rg.gd e7
      exact wv hb rfl (by simp [execOp, Act.eval, e7, f7, go_sem]) rfl
     refine AllIn.cons ?_ ?_
     ·intro a w hz hb ho hg
      have e8 : a.tmps.getD 8 undef = .pointer (some ⟨g, 1, none⟩) := got_of hg (j := 2) rfl rfl rfl
      have f8 := Rg.gd e8
      have q := (hb.cell (p := ⟨g, 1, none⟩) hlg).trans c1
      exact wv hb rfl (by simp [execOp, Act.eval, e8, f8, q, go_sem]) rfl
     refine AllIn.cons ?_ ?_
     ·intro a w hz hb ho hg
      have e1 : a.tmps.getD 1 undef = .pointer (some ⟨gb, 0, none⟩) := ho 1 (by kernel_rfl)
      have f1 := Rg.gd e1
      have q := (hb.cell (p := ⟨gb, 0, none⟩) hlb).trans cb
      exact wv hb rfl (by simp [execOp, Act.eval, e1, f1, q, go_sem]) rfl
     refine AllIn.cons ?_ ?_
     ·intro a w hz hb ho hg
      have e10 : a.tmps.getD 10 undef = .pointer (some ⟨g, 0, none⟩) := got_of hg (j := 4) rfl rfl rfl
      have f10 := Rg.gd e10
      exact wv hb rfl (by simp [execOp, Act.eval, e10, f10, go_sem]) rfl
     refine AllIn.cons ?_ ?_
     ·intro a w hz hb ho hg
      have e11 : a.tmps.getD 11 undef = .pointer (some ⟨g, 0, none⟩) := got_of hg (j := 5) rfl rfl rfl
      have f11 := Rg.gd e11
      exact wv hb rfl (by simp [execOp, Act.eval, e11, f11, go_sem]) rfl
     refine AllIn.cons ?_ ?_
     ·intro a w hz hb ho hg
      have e12 : a.tmps.getD 12 undef = .pointer (some ⟨g, 0, none⟩) := got_of hg (j := 6) rfl rfl rfl
      have f12 := Rg.gd e12
      have q := (hb.cell (p := ⟨g, 0, none⟩) hlg).trans c0
      exact wv hb rfl (by simp [execOp, Act.eval, e12, f12, q, go_sem]) rfl
     refine AllIn.cons ?_ ?_
     ·intro a w hz hb ho hg
      have e13 : a.tmps.getD 13 undef = .string s := got_of hg (j := 7) rfl rfl rfl
      have f13 := Rg.gd e13
      exact wv hb rfl (by simp [execOp, Act.eval, e13, f13, go_sem]) rfl
     refine AllIn.cons ?_ ?_
     ·intro a w hz hb ho hg
      have e9 : a.tmps.getD 9 undef = .int .i64 (q : Nat) := got_of hg (j := 3) rfl rfl rfl
      have e14 : a.tmps.getD 14 undef = .int .i64 (s.size : Nat) := got_of hg (j := 8) rfl rfl rfl
      have f9 := Rg.gd e9
      have f14 := Rg.gd e14
      exact wv hb rfl (by simp [execOp, Act.eval, e9, e14, f9, f14, hq, go_sem]) rfl
     refine AllIn.cons ?_ ?_
     ·intro a w hz hb ho hg
      have e15 : a.tmps.getD 15 undef = .bool true := got_of hg (j := 9) rfl rfl rfl
      have f15 := Rg.gd e15
      exact wv hb rfl (by simp [execOp, Act.eval, e15, f15, go_sem]) rfl
     refine AllIn.cons ?_ ?_
     ·intro a w hz hb ho hg
      have e1 : a.tmps.getD 1 undef = .pointer (some ⟨gb, 0, none⟩) := ho 1 (by kernel_rfl)
      have f1 := Rg.gd e1
      have q := (hb.cell (p := ⟨gb, 0, none⟩) hlb).trans cb
      exact Or.inl ⟨by rw [wanted_of (j := 10) rfl rfl rfl (show a.tmps.getD 16 undef = .bool true from got_of hg (j := 10) rfl rfl rfl)]; rfl, wp_value hb.size (by simp [execOp, Act.eval, e1, f1, q, go_sem]) (Below.refl _ _) rfl⟩
     refine AllIn.cons ?_ ?_
     ·intro a w hz hb ho hg
      have e17 : a.tmps.getD 17 undef = .pointer (some ⟨g, 0, none⟩) := got_of hg (j := 11) rfl rfl rfl
      have f17 := Rg.gd e17
      exact Or.inl ⟨by rw [wanted_of (j := 10) rfl rfl rfl (show a.tmps.getD 16 undef = .bool true from got_of hg (j := 10) rfl rfl rfl)]; rfl, wp_value hb.size (by simp [execOp, Act.eval, e17, f17, go_sem]) (Below.refl _ _) rfl⟩
     refine AllIn.cons ?_ ?_
     ·intro a w hz hb ho hg
      have e18 : a.tmps.getD 18 undef = .pointer (some ⟨g, 0, none⟩) := got_of hg (j := 12) rfl rfl rfl
      have f18 := Rg.gd e18
      exact Or.inl ⟨by rw [wanted_of (j := 10) rfl rfl rfl (show a.tmps.getD 16 undef = .bool true from got_of hg (j := 10) rfl rfl rfl)]; rfl, wp_value hb.size (by simp [execOp, Act.eval, e18, f18, go_sem]) (Below.refl _ _) rfl⟩
     refine AllIn.cons ?_ ?_
     ·intro a w hz hb ho hg
      have e19 : a.tmps.getD 19 undef = .pointer (some ⟨g, 0, none⟩) := got_of hg (j := 13) rfl rfl rfl
      have f19 := Rg.gd e19
      have q := (hb.cell (p := ⟨g, 0, none⟩) hlg).trans c0
      exact Or.inl ⟨by rw [wanted_of (j := 10) rfl rfl rfl (show a.tmps.getD 16 undef = .bool true from got_of hg (j := 10) rfl rfl rfl)]; rfl, wp_value hb.size (by simp [execOp, Act.eval, e19, f19, q, go_sem]) (Below.refl _ _) rfl⟩
     refine AllIn.cons ?_ ?_
     ·intro a w hz hb ho hg
      have e1 : a.tmps.getD 1 undef = .pointer (some ⟨gb, 0, none⟩) := ho 1 (by kernel_rfl)
      have f1 := Rg.gd e1
      have q := (hb.cell (p := ⟨gb, 0, none⟩) hlb).trans cb
      exact Or.inl ⟨by rw [wanted_of (j := 10) rfl rfl rfl (show a.tmps.getD 16 undef = .bool true from got_of hg (j := 10) rfl rfl rfl)]; rfl, wp_value hb.size (by simp [execOp, Act.eval, e1, f1, q, go_sem]) (Below.refl _ _) rfl⟩
     refine AllIn.cons ?_ ?_
     ·intro a w hz hb ho hg
      have e21 : a.tmps.getD 21 undef = .pointer (some ⟨g, 0, none⟩) := got_of hg (j := 15) rfl rfl rfl
      have f21 := Rg.gd e21
      exact Or.inl ⟨by rw [wanted_of (j := 10) rfl rfl rfl (show a.tmps.getD 16 undef = .bool true from got_of hg (j := 10) rfl rfl rfl)]; rfl, wp_value hb.size (by simp [execOp, Act.eval, e21, f21, go_sem]) (Below.refl _ _) rfl⟩
     refine AllIn.cons ?_ ?_
     ·intro a w hz hb ho hg
      have e22 : a.tmps.getD 22 undef = .pointer (some ⟨g, 0, none⟩) := got_of hg (j := 16) rfl rfl rfl
      have f22 := Rg.gd e22
      exact Or.inl ⟨by rw [wanted_of (j := 10) rfl rfl rfl (show a.tmps.getD 16 undef = .bool true from got_of hg (j := 10) rfl rfl rfl)]; rfl, wp_value hb.size (by simp [execOp, Act.eval, e22, f22, go_sem]) (Below.refl _ _) rfl⟩
     refine AllIn.cons ?_ ?_
     ·intro a w hz hb ho hg
      have e23 : a.tmps.getD 23 undef = .pointer (some ⟨g, 1, none⟩) := got_of hg (j := 17) rfl rfl rfl
      have f23 := Rg.gd e23
      have q := (hb.cell (p := ⟨g, 1, none⟩) hlg).trans c1
      exact Or.inl ⟨by rw [wanted_of (j := 10) rfl rfl rfl (show a.tmps.getD 16 undef = .bool true from got_of hg (j := 10) rfl rfl rfl)]; rfl, wp_value hb.size (by simp [execOp, Act.eval, e23, f23, q, go_sem]) (Below.refl _ _) rfl⟩
     refine AllIn.cons ?_ ?_
     ·intro a w hz hb ho hg
      have e20 : a.tmps.getD 20 undef = .string s := got_of hg (j := 14) rfl rfl rfl
      have e24 : a.tmps.getD 24 undef = .int .i64 (q : Nat) := got_of hg (j := 18) rfl rfl rfl
      have f20 := Rg.gd e20
      have f24 := Rg.gd e24
      exact Or.inl ⟨by rw [wanted_of (j := 10) rfl rfl rfl (show a.tmps.getD 16 undef = .bool true from got_of hg (j := 10) rfl rfl rfl)]; rfl, wp_value hb.size (by simp [execOp, Act.eval, e20, e24, f20, f24, hq, hX, go_sem]) (Below.refl _ _) rfl⟩
     refine AllIn.cons ?_ ?_
     ·intro a w hz hb ho hg
      have e25 : a.tmps.getD 25 undef = .int .u8 (X : Nat) := got_of hg (j := 19) rfl rfl rfl
      have f25 := Rg.gd e25
      exact Or.inl ⟨by rw [wanted_of (j := 10) rfl rfl rfl (show a.tmps.getD 16 undef = .bool true from got_of hg (j := 10) rfl rfl rfl)]; rfl, wp_calls hb.size (run_call (args := #[.string ⟨#[32, 9, 13]⟩, .int .u8 (X : Nat)]) enters_ix (by simp [Act.eval, f25])) ((Tryz.strings_IndexByte _ _ w).mono (by rintro e w' ⟨rfl, rfl⟩; exact ⟨_, rfl, Below.refl _ _, by rw [hR]; rfl⟩))⟩
     refine AllIn.cons ?_ ?_
     ·intro a w hz hb ho hg
      have e26 : a.tmps.getD 26 undef = .int .i64 R := got_of hg (j := 20) rfl rfl rfl
      have f26 := Rg.gd e26
      exact Or.inl ⟨by rw [wanted_of (j := 10) rfl rfl rfl (show a.tmps.getD 16 undef = .bool true from got_of hg (j := 10) rfl rfl rfl)]; rfl, wp_value hb.size (by simp [execOp, Act.eval, e26, f26, hR0, go_sem]) (Below.refl _ _) rfl⟩
     exact AllIn.nil
    intro a w1 hd hz hb ho hg
    have e6 : a.tmps.getD 6 undef = .pointer (some ⟨g, 0, none⟩) := hg 0 (by decide) _ _ rfl rfl
    have e7 : a.tmps.getD 7 undef = .pointer (some ⟨g, 0, none⟩) := hg 1 (by decide) _ _ rfl rfl
    have e8 : a.tmps.getD 8 undef = .pointer (some ⟨g, 1, none⟩) := hg 2 (by decide) _ _ rfl rfl
    have e9 : a.tmps.getD 9 undef = .int .i64 (q : Nat) := hg 3 (by decide) _ _ rfl rfl
    have e10 : a.tmps.getD 10 undef = .pointer (some ⟨g, 0, none⟩) := hg 4 (by decide) _ _ rfl rfl
    have e11 : a.tmps.getD 11 undef = .pointer (some ⟨g, 0, none⟩) := hg 5 (by decide) _ _ rfl rfl
    have e12 : a.tmps.getD 12 undef = .pointer (some ⟨g, 0, none⟩) := hg 6 (by decide) _ _ rfl rfl
    have e13 : a.tmps.getD 13 undef = .string s := hg 7 (by decide) _ _ rfl rfl
    have e14 : a.tmps.getD 14 undef = .int .i64 (s.size : Nat) := hg 8 (by decide) _ _ rfl rfl
    have e15 : a.tmps.getD 15 undef = .bool true := hg 9 (by decide) _ _ rfl rfl
    have e16 : a.tmps.getD 16 undef = .bool true := hg 10 (by decide) _ _ rfl rfl
    have e17 : a.tmps.getD 17 undef = .pointer (some ⟨g, 0, none⟩) := hg 11 (by decide) _ _ rfl rfl
    have e18 : a.tmps.getD 18 undef = .pointer (some ⟨g, 0, none⟩) := hg 12 (by decide) _ _ rfl rfl
    have e19 : a.tmps.getD 19 undef = .pointer (some ⟨g, 0, none⟩) := hg 13 (by decide) _ _ rfl rfl
    have e20 : a.tmps.getD 20 undef = .string s := hg 14 (by decide) _ _ rfl rfl
    have e21 : a.tmps.getD 21 undef = .pointer (some ⟨g, 0, none⟩) := hg 15 (by decide) _ _ rfl rfl
    have e22 : a.tmps.getD 22 undef = .pointer (some ⟨g, 0, none⟩) := hg 16 (by decide) _ _ rfl rfl
    have e23 : a.tmps.getD 23 undef = .pointer (some ⟨g, 1, none⟩) := hg 17 (by decide) _ _ rfl rfl
    have e24 : a.tmps.getD 24 undef = .int .i64 (q : Nat) := hg 18 (by decide) _ _ rfl rfl
    have e25 : a.tmps.getD 25 undef = .int .u8 (X : Nat) := hg 19 (by decide) _ _ rfl rfl
    have e26 : a.tmps.getD 26 undef = .int .i64 R := hg 20 (by decide) _ _ rfl rfl
    have e27 : a.tmps.getD 27 undef = .bool true := hg 21 (by decide) _ _ rfl rfl
    have hA := ho.frame hz
    simp only [List.take_succ_cons, List.take_zero, List.filterMap_cons, List.filterMap_nil, List.foldl_cons, List.foldl_nil, e6, e7, e8, e9, e10, e11, e12, e13, e14, e15, e16, e17, e18, e19, e20, e21, e22, e23, e24, e25, e26, e27, List.setIfInBounds_toArray, List.set_cons_zero, List.set_cons_succ] at hA
    obtain ⟨tm, df⟩ := a
    simp only at hd hA
    subst hd
    subst hA
    simp only [List.drop_succ_cons, List.drop_zero]
    have HH1 := Aside.mk hb
    clear hz ho hg hb e6 e7 e8 e9 e10 e11 e12 e13 e14 e15 e16 e17 e18 e19 e20 e21 e22 e23 e24 e25 e26 e27
    clear cb c0 c1 c2 hlb hlg hfz
    have HPK := Aside.mk (HPK.out.below HH1.out)
    obtain ⟨cb, c0, c1, c2, hlb, hlg, hfz⟩ := HPK.out.cells
    go_wp2_with fail
    obtain ⟨go, hgo⟩ : ∃ go, gk = go + 1 := ⟨gk - 1, by have := HQ.out; omega⟩
    go_roundg go
    case measure => omega
    case rel =>
     refine ⟨q + 1, ⟨?_⟩, ⟨by have := HQ.out; omega⟩, HST⟩
     have := HPK.out.set (q + 1)
     exact this
   | false =>
    have hR0 : ¬ 0 ≤ R := by rw [hw] at hwsR; simpa using hwsR
    have HST : Aside (skp isWs s.data.toList σ.pos = q) := ⟨by rw [← HS.out, skp_stop' isWs HC.out hw]⟩
    have hqi : (q : Int) < 9000 := by have := HSZ.out; omega
    have hqs : (q : Int) ≤ (s.size : Int) := by omega
    have HAT : Aside (peekT nl s.data.toList σ.pos = tokAt nl s.data.toList q) := ⟨by unfold peekT; rw [HST.out]⟩
    have HIL : Aside (∀ w, Calls Tryz.prog 105 #[.int .u8 (X : Nat)] w fun e w' => e = .returned (.bool (isLt c)) ∧ w = w') := ⟨fun w => by have := isLetter_any c w; rw [HXX.out] at this; exact this⟩
    have HID : Aside (∀ w, Calls Tryz.prog 136 #[.int .u8 (X : Nat)] w fun e w' => e = .returned (.bool (isDg c)) ∧ w = w') := ⟨fun w => by have := isDigit_any c w; rw [HXX.out] at this; exact this⟩
    have HIC : Aside (∀ w, Calls Tryz.prog 133 #[.string ⟨#[43, 45, 42, 47, 40, 41, 91, 93, 44, 61, 39]⟩, .int .u8 (X : Nat)] w fun e w' => ∃ r : Int, e = .returned (.int .i64 r) ∧ decide (0 ≤ r) = isCh c ∧ w = w') := ⟨fun w => by have := ix_ch c w; rw [HXX.out] at this; exact this⟩
    have hmf : ∀ (fn : Fn) (first cap : Array Value) (w : World), (Instr.makeFunc fn first cap).run Tryz.prog w = .ok (.func fn first cap) w := fun _ _ _ _ => rfl
    clear hwsR hw HS
    go_wp2_with fail
    refine region_list (T := tab2 [
      Sq.val (.pointer (some ⟨g, 0, none⟩)), Sq.val (.pointer (some ⟨g, 0, none⟩)), Sq.val (.pointer (some ⟨g, 1, none⟩)), Sq.val (.int .i64 (q : Nat)), Sq.val (.pointer (some ⟨g, 0, none⟩)), Sq.val (.pointer (some ⟨g, 0, none⟩)), Sq.val (.pointer (some ⟨g, 0, none⟩)), Sq.val (.string s), Sq.val (.int .i64 (s.size : Nat)), Sq.val (.bool true), Sq.val (.bool true), Sq.val (.pointer (some ⟨g, 0, none⟩)), Sq.val (.pointer (some ⟨g, 0, none⟩)), Sq.val (.pointer (some ⟨g, 0, none⟩)), Sq.val (.string s), Sq.val (.pointer (some ⟨g, 0, none⟩)), Sq.val (.pointer (some ⟨g, 0, none⟩)), Sq.val (.pointer (some ⟨g, 1, none⟩)), Sq.val (.int .i64 (q : Nat)), Sq.val (.int .u8 (X : Nat)), Sq.val (.int .i64 R), Sq.val (.bool false)]) 22
     [_, _, _, _, _, _, _, _, _, _, _, _, _, _, _, _, _, _, _, _, _, _, _] (by kernel_rfl) (by kernel_rfl) (by kernel_rfl) (by kernel_rfl) (by kernel_rfl) (by kernel_rfl) rfl ?_ ?_
    ·refine AllIn.cons ?_ ?_
     ·intro a w hz hb ho hg
      have e1 : a.tmps.getD 1 undef = .pointer (some ⟨gb, 0, none⟩) := ho 1 (by kernel_rfl)
      have f1 := Rg.gd e1
      have q := (hb.cell (p := ⟨gb, 0, none⟩) hlb).trans cb
      exact wv hb rfl (by simp [execOp, Act.eval, e1, f1, q, go_sem]) rfl
     refine AllIn.cons ?_ ?_
     ·intro a w hz hb ho hg
      have e6 : a.tmps.getD 6 undef = .pointer (some ⟨g, 0, none⟩) := got_of hg (j := 0) rfl rfl rfl
      have f6 := Rg.gd e6
      exact wv hb rfl (by simp [execOp, Act.eval, e6, f6, go_sem]) rfl
     refine AllIn.cons ?_ ?_
     ·intro a w hz hb ho hg
      have e7 : a.tmps.getD 7 undef = .pointer (some ⟨g, 0, none⟩) := got_of hg (j := 1) rfl rfl rfl
      have f7 := Rg.gd e7
      exact wv hb rfl (by simp [execOp, Act.eval, e7, f7, go_sem]) rfl
     refine AllIn.cons ?_ ?_
     ·intro a w hz hb ho hg
      have e8 : a.tmps.getD 8 undef = .pointer (some ⟨g, 1, none⟩) := got_of hg (j := 2) rfl rfl rfl
      have f8 := Rg.gd e8
      have q := (hb.cell (p := ⟨g, 1, none⟩) hlg).trans c1
      exact wv hb rfl (by simp [execOp, Act.eval, e8, f8, q, go_sem]) rfl
     refine AllIn.cons ?_ ?_
     ·intro a w hz hb ho hg
      have e1 : a.tmps.getD 1 undef = .pointer (some ⟨gb, 0, none⟩) := ho 1 (by kernel_rfl)
      have f1 := Rg.gd e1
      have q := (hb.cell (p := ⟨gb, 0, none⟩) hlb).trans cb
      exact wv hb rfl (by simp [execOp, Act.eval, e1, f1, q, go_sem]) rfl
     refine AllIn.cons ?_ ?_
     ·intro a w hz hb ho hg
      have e10 : a.tmps.getD 10 undef = .pointer (some ⟨g, 0, none⟩) := got_of hg (j := 4) rfl rfl rfl
      have f10 := Rg.gd e10
      exact wv hb rfl (by simp [execOp, Act.eval, e10, f10, go_sem]) rfl
     refine AllIn.cons ?_ ?_
     ·intro a w hz hb ho hg
      have e11 : a.tmps.getD 11 undef = .pointer (some ⟨g, 0, none⟩) := got_of hg (j := 5) rfl rfl rfl
      have f11 := Rg.gd e11
      exact wv hb rfl (by simp [execOp, Act.eval, e11, f11, go_sem]) rfl
     refine AllIn.cons ?_ ?_
     ·intro a w hz hb ho hg
      have e12 : a.tmps.getD 12 undef = .pointer (some ⟨g, 0, none⟩) := got_of hg (j := 6) rfl rfl rfl
      have f12 := Rg.gd e12
      have q := (hb.cell (p := ⟨g, 0, none⟩) hlg).trans c0
      exact wv hb rfl (by simp [execOp, Act.eval, e12, f12, q, go_sem]) rfl
     refine AllIn.cons ?_ ?_
     ·intro a w hz hb ho hg
      have e13 : a.tmps.getD 13 undef = .string s := got_of hg (j := 7) rfl rfl rfl
      have f13 := Rg.gd e13
      exact wv hb rfl (by simp [execOp, Act.eval, e13, f13, go_sem]) rfl
     refine AllIn.cons ?_ ?_
     ·intro a w hz hb ho hg
      have e9 : a.tmps.getD 9 undef = .int .i64 (q : Nat) := got_of hg (j := 3) rfl rfl rfl
      have e14 : a.tmps.getD 14 undef = .int .i64 (s.size : Nat) := got_of hg (j := 8) rfl rfl rfl
      have f9 := Rg.gd e9
      have f14 := Rg.gd e14
      exact wv hb rfl (by simp [execOp, Act.eval, e9, e14, f9, f14, hq, go_sem]) rfl
     refine AllIn.cons ?_ ?_
     ·intro a w hz hb ho hg
      have e15 : a.tmps.getD 15 undef = .bool true := got_of hg (j := 9) rfl rfl rfl
      have f15 := Rg.gd e15
      exact wv hb rfl (by simp [execOp, Act.eval, e15, f15, go_sem]) rfl
     refine AllIn.cons ?_ ?_
     ·intro a w hz hb ho hg
      have e1 : a.tmps.getD 1 undef = .pointer (some ⟨gb, 0, none⟩) := ho 1 (by kernel_rfl)
      have f1 := Rg.gd e1
      have q := (hb.cell (p := ⟨gb, 0, none⟩) hlb).trans cb
      exact Or.inl ⟨by rw [wanted_of (j := 10) rfl rfl rfl (show a.tmps.getD 16 undef = .bool true from got_of hg (j := 10) rfl rfl rfl)]; rfl, wp_value hb.size (by simp [execOp, Act.eval, e1, f1, q, go_sem]) (Below.refl _ _) rfl⟩
     refine AllIn.cons ?_ ?_
     ·intro a w hz hb ho hg
      have e17 : a.tmps.getD 17 undef = .pointer (some ⟨g, 0, none⟩) := got_of hg (j := 11) rfl rfl rfl
      have f17 := Rg.gd e17
      exact Or.inl ⟨by rw [wanted_of (j := 10) rfl rfl rfl (show a.tmps.getD 16 undef = .bool true from got_of hg (j := 10) rfl rfl rfl)]; rfl, wp_value hb.size (by simp [execOp, Act.eval, e17, f17, go_sem]) (Below.refl _ _) rfl⟩
     refine AllIn.cons ?_ ?_
     ·intro a w hz hb ho hg
      have e18 : a.tmps.getD 18 undef = .pointer (some ⟨g, 0, none⟩) := got_of hg (j := 12) rfl rfl rfl
      have f18 := Rg.gd e18
      exact Or.inl ⟨by rw [wanted_of (j := 10) rfl rfl rfl (show a.tmps.getD 16 undef = .bool true from got_of hg (j := 10) rfl rfl rfl)]; rfl, wp_value hb.size (by simp [execOp, Act.eval, e18, f18, go_sem]) (Below.refl _ _) rfl⟩
     refine AllIn.cons ?_ ?_
     ·intro a w hz hb ho hg
      have e19 : a.tmps.getD 19 undef = .pointer (some ⟨g, 0, none⟩) := got_of hg (j := 13) rfl rfl rfl
      have f19 := Rg.gd e19
      have q := (hb.cell (p := ⟨g, 0, none⟩) hlg).trans c0
      exact Or.inl ⟨by rw [wanted_of (j := 10) rfl rfl rfl (show a.tmps.getD 16 undef = .bool true from got_of hg (j := 10) rfl rfl rfl)]; rfl, wp_value hb.size (by simp [execOp, Act.eval, e19, f19, q, go_sem]) (Below.refl _ _) rfl⟩
     refine AllIn.cons ?_ ?_
     ·intro a w hz hb ho hg
      have e1 : a.tmps.getD 1 undef = .pointer (some ⟨gb, 0, none⟩) := ho 1 (by kernel_rfl)
      have f1 := Rg.gd e1
      have q := (hb.cell (p := ⟨gb, 0, none⟩) hlb).trans cb
      exact Or.inl ⟨by rw [wanted_of (j := 10) rfl rfl rfl (show a.tmps.getD 16 undef = .bool true from got_of hg (j := 10) rfl rfl rfl)]; rfl, wp_value hb.size (by simp [execOp, Act.eval, e1, f1, q, go_sem]) (Below.refl _ _) rfl⟩
     refine AllIn.cons ?_ ?_
     ·intro a w hz hb ho hg
      have e21 : a.tmps.getD 21 undef = .pointer (some ⟨g, 0, none⟩) := got_of hg (j := 15) rfl rfl rfl
      have f21 := Rg.gd e21
      exact Or.inl ⟨by rw [wanted_of (j := 10) rfl rfl rfl (show a.tmps.getD 16 undef = .bool true from got_of hg (j := 10) rfl rfl rfl)]; rfl, wp_value hb.size (by simp [execOp, Act.eval, e21, f21, go_sem]) (Below.refl _ _) rfl⟩
     refine AllIn.cons ?_ ?_
     ·intro a w hz hb ho hg
      have e22 : a.tmps.getD 22 undef = .pointer (some ⟨g, 0, none⟩) := got_of hg (j := 16) rfl rfl rfl
      have f22 := Rg.gd e22
      exact Or.inl ⟨by rw [wanted_of (j := 10) rfl rfl rfl (show a.tmps.getD 16 undef = .bool true from got_of hg (j := 10) rfl rfl rfl)]; rfl, wp_value hb.size (by simp [execOp, Act.eval, e22, f22, go_sem]) (Below.refl _ _) rfl⟩
     refine AllIn.cons ?_ ?_
     ·intro a w hz hb ho hg
      have e23 : a.tmps.getD 23 undef = .pointer (some ⟨g, 1, none⟩) := got_of hg (j := 17) rfl rfl rfl
      have f23 := Rg.gd e23
      have q := (hb.cell (p := ⟨g, 1, none⟩) hlg).trans c1
      exact Or.inl ⟨by rw [wanted_of (j := 10) rfl rfl rfl (show a.tmps.getD 16 undef = .bool true from got_of hg (j := 10) rfl rfl rfl)]; rfl, wp_value hb.size (by simp [execOp, Act.eval, e23, f23, q, go_sem]) (Below.refl _ _) rfl⟩
     refine AllIn.cons ?_ ?_
     ·intro a w hz hb ho hg
      have e20 : a.tmps.getD 20 undef = .string s := got_of hg (j := 14) rfl rfl rfl
      have e24 : a.tmps.getD 24 undef = .int .i64 (q : Nat) := got_of hg (j := 18) rfl rfl rfl
      have f20 := Rg.gd e20
      have f24 := Rg.gd e24
      exact Or.inl ⟨by rw [wanted_of (j := 10) rfl rfl rfl (show a.tmps.getD 16 undef = .bool true from got_of hg (j := 10) rfl rfl rfl)]; rfl, wp_value hb.size (by simp [execOp, Act.eval, e20, e24, f20, f24, hq, hX, go_sem]) (Below.refl _ _) rfl⟩
     refine AllIn.cons ?_ ?_
     ·intro a w hz hb ho hg
      have e25 : a.tmps.getD 25 undef = .int .u8 (X : Nat) := got_of hg (j := 19) rfl rfl rfl
      have f25 := Rg.gd e25
      exact Or.inl ⟨by rw [wanted_of (j := 10) rfl rfl rfl (show a.tmps.getD 16 undef = .bool true from got_of hg (j := 10) rfl rfl rfl)]; rfl, wp_calls hb.size (run_call (args := #[.string ⟨#[32, 9, 13]⟩, .int .u8 (X : Nat)]) enters_ix (by simp [Act.eval, f25])) ((Tryz.strings_IndexByte _ _ w).mono (by rintro e w' ⟨rfl, rfl⟩; exact ⟨_, rfl, Below.refl _ _, by rw [hR]; rfl⟩))⟩
     refine AllIn.cons ?_ ?_
     ·intro a w hz hb ho hg
      have e26 : a.tmps.getD 26 undef = .int .i64 R := got_of hg (j := 20) rfl rfl rfl
      have f26 := Rg.gd e26
      exact Or.inl ⟨by rw [wanted_of (j := 10) rfl rfl rfl (show a.tmps.getD 16 undef = .bool true from got_of hg (j := 10) rfl rfl rfl)]; rfl, wp_value hb.size (by simp [execOp, Act.eval, e26, f26, hR0, go_sem]) (Below.refl _ _) rfl⟩
     exact AllIn.nil
    intro a w1 hd hz hb ho hg
    have e6 : a.tmps.getD 6 undef = .pointer (some ⟨g, 0, none⟩) := hg 0 (by decide) _ _ rfl rfl
    have e7 : a.tmps.getD 7 undef = .pointer (some ⟨g, 0, none⟩) := hg 1 (by decide) _ _ rfl rfl
    have e8 : a.tmps.getD 8 undef = .pointer (some ⟨g, 1, none⟩) := hg 2 (by decide) _ _ rfl rfl
    have e9 : a.tmps.getD 9 undef = .int .i64 (q : Nat) := hg 3 (by decide) _ _ rfl rfl
    have e10 : a.tmps.getD 10 undef = .pointer (some ⟨g, 0, none⟩) := hg 4 (by decide) _ _ rfl rfl
    have e11 : a.tmps.getD 11 undef = .pointer (some ⟨g, 0, none⟩) := hg 5 (by decide) _ _ rfl rfl
    have e12 : a.tmps.getD 12 undef = .pointer (some ⟨g, 0, none⟩) := hg 6 (by decide) _ _ rfl rfl
    have e13 : a.tmps.getD 13 undef = .string s := hg 7 (by decide) _ _ rfl rfl
    have e14 : a.tmps.getD 14 undef = .int .i64 (s.size : Nat) := hg 8 (by decide) _ _ rfl rfl
    have e15 : a.tmps.getD 15 undef = .bool true := hg 9 (by decide) _ _ rfl rfl
    have e16 : a.tmps.getD 16 undef = .bool true := hg 10 (by decide) _ _ rfl rfl
    have e17 : a.tmps.getD 17 undef = .pointer (some ⟨g, 0, none⟩) := hg 11 (by decide) _ _ rfl rfl
    have e18 : a.tmps.getD 18 undef = .pointer (some ⟨g, 0, none⟩) := hg 12 (by decide) _ _ rfl rfl
    have e19 : a.tmps.getD 19 undef = .pointer (some ⟨g, 0, none⟩) := hg 13 (by decide) _ _ rfl rfl
    have e20 : a.tmps.getD 20 undef = .string s := hg 14 (by decide) _ _ rfl rfl
    have e21 : a.tmps.getD 21 undef = .pointer (some ⟨g, 0, none⟩) := hg 15 (by decide) _ _ rfl rfl
    have e22 : a.tmps.getD 22 undef = .pointer (some ⟨g, 0, none⟩) := hg 16 (by decide) _ _ rfl rfl
    have e23 : a.tmps.getD 23 undef = .pointer (some ⟨g, 1, none⟩) := hg 17 (by decide) _ _ rfl rfl
    have e24 : a.tmps.getD 24 undef = .int .i64 (q : Nat) := hg 18 (by decide) _ _ rfl rfl
    have e25 : a.tmps.getD 25 undef = .int .u8 (X : Nat) := hg 19 (by decide) _ _ rfl rfl
    have e26 : a.tmps.getD 26 undef = .int .i64 R := hg 20 (by decide) _ _ rfl rfl
    have e27 : a.tmps.getD 27 undef = .bool false := hg 21 (by decide) _ _ rfl rfl
    have hA := ho.frame hz
    simp only [List.take_succ_cons, List.take_zero, List.filterMap_cons, List.filterMap_nil, List.foldl_cons, List.foldl_nil, e6, e7, e8, e9, e10, e11, e12, e13, e14, e15, e16, e17, e18, e19, e20, e21, e22, e23, e24, e25, e26, e27, List.setIfInBounds_toArray, List.set_cons_zero, List.set_cons_succ] at hA
    obtain ⟨tm, df⟩ := a
    simp only at hd hA
    subst hd
    subst hA
    simp only [List.drop_succ_cons, List.drop_zero]
    have HH1 := Aside.mk hb
    clear hz ho hg hb e6 e7 e8 e9 e10 e11 e12 e13 e14 e15 e16 e17 e18 e19 e20 e21 e22 e23 e24 e25 e26 e27
    clear cb c0 c1 c2 hlb hlg hfz
    have HPK := Aside.mk (HPK.out.below HH1.out)
    obtain ⟨cb, c0, c1, c2, hlb, hlg, hfz⟩ := HPK.out.cells
    clear hR hR0
    go_wp2_with fail
    refine region_list (T := tab2 [
      Sq.val (.pointer (some ⟨g, 0, none⟩)), Sq.val (.pointer (some ⟨g, 0, none⟩)), Sq.val (.pointer (some ⟨g, 1, none⟩)), Sq.val (.int .i64 (q : Nat)), Sq.val (.pointer (some ⟨g, 0, none⟩)), Sq.val (.pointer (some ⟨g, 0, none⟩)), Sq.val (.pointer (some ⟨g, 0, none⟩)), Sq.val (.string s), Sq.val (.int .i64 (s.size : Nat))]) 9
     [_, _, _, _, _, _, _, _, _, _] (by kernel_rfl) (by kernel_rfl) (by kernel_rfl) (by kernel_rfl) (by kernel_rfl) (by kernel_rfl) rfl ?_ ?_
    ·refine AllIn.cons ?_ ?_
     ·intro a w hz hb ho hg
      have e1 : a.tmps.getD 1 undef = .pointer (some ⟨gb, 0, none⟩) := ho 1 (by kernel_rfl)
      have f1 := Rg.gd e1
      have q := (hb.cell (p := ⟨gb, 0, none⟩) hlb).trans cb
      exact wv hb rfl (by simp [execOp, Act.eval, e1, f1, q, go_sem]) rfl
     refine AllIn.cons ?_ ?_
     ·intro a w hz hb ho hg
      have e36 : a.tmps.getD 36 undef = .pointer (some ⟨g, 0, none⟩) := got_of hg (j := 0) rfl rfl rfl
      have f36 := Rg.gd e36
      exact wv hb rfl (by simp [execOp, Act.eval, e36, f36, go_sem]) rfl
     refine AllIn.cons ?_ ?_
     ·intro a w hz hb ho hg
      have e37 : a.tmps.getD 37 undef = .pointer (some ⟨g, 0, none⟩) := got_of hg (j := 1) rfl rfl rfl
      have f37 := Rg.gd e37
      exact wv hb rfl (by simp [execOp, Act.eval, e37, f37, go_sem]) rfl
     refine AllIn.cons ?_ ?_
     ·intro a w hz hb ho hg
      have e38 : a.tmps.getD 38 undef = .pointer (some ⟨g, 1, none⟩) := got_of hg (j := 2) rfl rfl rfl
      have f38 := Rg.gd e38
      have q := (hb.cell (p := ⟨g, 1, none⟩) hlg).trans c1
      exact wv hb rfl (by simp [execOp, Act.eval, e38, f38, q, go_sem]) rfl
     refine AllIn.cons ?_ ?_
     ·intro a w hz hb ho hg
      have e1 : a.tmps.getD 1 undef = .pointer (some ⟨gb, 0, none⟩) := ho 1 (by kernel_rfl)
      have f1 := Rg.gd e1
      have q := (hb.cell (p := ⟨gb, 0, none⟩) hlb).trans cb
      exact wv hb rfl (by simp [execOp, Act.eval, e1, f1, q, go_sem]) rfl
     refine AllIn.cons ?_ ?_
     ·intro a w hz hb ho hg
      have e40 : a.tmps.getD 40 undef = .pointer (some ⟨g, 0, none⟩) := got_of hg (j := 4) rfl rfl rfl
      have f40 := Rg.gd e40
      exact wv hb rfl (by simp [execOp, Act.eval, e40, f40, go_sem]) rfl
     refine AllIn.cons ?_ ?_
     ·intro a w hz hb ho hg
      have e41 : a.tmps.getD 41 undef = .pointer (some ⟨g, 0, none⟩) := got_of hg (j := 5) rfl rfl rfl
      have f41 := Rg.gd e41
      exact wv hb rfl (by simp [execOp, Act.eval, e41, f41, go_sem]) rfl
     refine AllIn.cons ?_ ?_
     ·intro a w hz hb ho hg
      have e42 : a.tmps.getD 42 undef = .pointer (some ⟨g, 0, none⟩) := got_of hg (j := 6) rfl rfl rfl
      have f42 := Rg.gd e42
      have q := (hb.cell (p := ⟨g, 0, none⟩) hlg).trans c0
      exact wv hb rfl (by simp [execOp, Act.eval, e42, f42, q, go_sem]) rfl
     refine AllIn.cons ?_ ?_
     ·intro a w hz hb ho hg
      have e43 : a.tmps.getD 43 undef = .string s := got_of hg (j := 7) rfl rfl rfl
      have f43 := Rg.gd e43
      exact wv hb rfl (by simp [execOp, Act.eval, e43, f43, go_sem]) rfl
     exact AllIn.nil
    intro a w3 hd hz hb ho hg
    have e36 : a.tmps.getD 36 undef = .pointer (some ⟨g, 0, none⟩) := hg 0 (by decide) _ _ rfl rfl
    have e37 : a.tmps.getD 37 undef = .pointer (some ⟨g, 0, none⟩) := hg 1 (by decide) _ _ rfl rfl
    have e38 : a.tmps.getD 38 undef = .pointer (some ⟨g, 1, none⟩) := hg 2 (by decide) _ _ rfl rfl
    have e39 : a.tmps.getD 39 undef = .int .i64 (q : Nat) := hg 3 (by decide) _ _ rfl rfl
    have e40 : a.tmps.getD 40 undef = .pointer (some ⟨g, 0, none⟩) := hg 4 (by decide) _ _ rfl rfl
    have e41 : a.tmps.getD 41 undef = .pointer (some ⟨g, 0, none⟩) := hg 5 (by decide) _ _ rfl rfl
    have e42 : a.tmps.getD 42 undef = .pointer (some ⟨g, 0, none⟩) := hg 6 (by decide) _ _ rfl rfl
    have e43 : a.tmps.getD 43 undef = .string s := hg 7 (by decide) _ _ rfl rfl
    have e44 : a.tmps.getD 44 undef = .int .i64 (s.size : Nat) := hg 8 (by decide) _ _ rfl rfl
    have hA := ho.frame hz
    simp only [List.take_succ_cons, List.take_zero, List.filterMap_cons, List.filterMap_nil, List.foldl_cons, List.foldl_nil, e36, e37, e38, e39, e40, e41, e42, e43, e44, List.setIfInBounds_toArray, List.set_cons_zero, List.set_cons_succ] at hA
    obtain ⟨tm, df⟩ := a
    simp only at hd hA
    subst hd
    subst hA
    simp only [List.drop_succ_cons, List.drop_zero]
    have HH3 := Aside.mk hb
    clear hz ho hg hb e36 e37 e38 e39 e40 e41 e42 e43 e44
    clear cb c0 c1 c2 hlb hlg hfz
    have HPK := Aside.mk (HPK.out.below HH3.out)
    obtain ⟨cb, c0, c1, c2, hlb, hlg, hfz⟩ := HPK.out.cells
    have hqne : ((q : Int) == (s.size : Int)) = false := by rw [beq_eq_false_iff_ne]; omega
    go_wp2_with fail
    refine region_list (T := tab2 [
      Sq.val (.pointer (some ⟨g, 0, none⟩)), Sq.val (.pointer (some ⟨g, 0, none⟩)), Sq.val (.pointer (some ⟨g, 0, none⟩)), Sq.val (.string s), Sq.val (.pointer (some ⟨g, 0, none⟩)), Sq.val (.pointer (some ⟨g, 0, none⟩)), Sq.val (.pointer (some ⟨g, 1, none⟩)), Sq.val (.int .i64 (q : Nat)), Sq.val (.int .u8 (X : Nat))]) 9
     [_, _, _, _, _, _, _, _, _, _] (by kernel_rfl) (by kernel_rfl) (by kernel_rfl) (by kernel_rfl) (by kernel_rfl) (by kernel_rfl) rfl ?_ ?_
    ·refine AllIn.cons ?_ ?_
     ·intro a w hz hb ho hg
      have e1 : a.tmps.getD 1 undef = .pointer (some ⟨gb, 0, none⟩) := ho 1 (by kernel_rfl)
      have f1 := Rg.gd e1
      have q := (hb.cell (p := ⟨gb, 0, none⟩) hlb).trans cb
      exact wv hb rfl (by simp [execOp, Act.eval, e1, f1, q, go_sem]) rfl
     refine AllIn.cons ?_ ?_
     ·intro a w hz hb ho hg
      have e52 : a.tmps.getD 52 undef = .pointer (some ⟨g, 0, none⟩) := got_of hg (j := 0) rfl rfl rfl
      have f52 := Rg.gd e52
      exact wv hb rfl (by simp [execOp, Act.eval, e52, f52, go_sem]) rfl
     refine AllIn.cons ?_ ?_
     ·intro a w hz hb ho hg
      have e53 : a.tmps.getD 53 undef = .pointer (some ⟨g, 0, none⟩) := got_of hg (j := 1) rfl rfl rfl
      have f53 := Rg.gd e53
      exact wv hb rfl (by simp [execOp, Act.eval, e53, f53, go_sem]) rfl
     refine AllIn.cons ?_ ?_
     ·intro a w hz hb ho hg
      have e54 : a.tmps.getD 54 undef = .pointer (some ⟨g, 0, none⟩) := got_of hg (j := 2) rfl rfl rfl
      have f54 := Rg.gd e54
      have q := (hb.cell (p := ⟨g, 0, none⟩) hlg).trans c0
      exact wv hb rfl (by simp [execOp, Act.eval, e54, f54, q, go_sem]) rfl
     refine AllIn.cons ?_ ?_
     ·intro a w hz hb ho hg
      have e1 : a.tmps.getD 1 undef = .pointer (some ⟨gb, 0, none⟩) := ho 1 (by kernel_rfl)
      have f1 := Rg.gd e1
      have q := (hb.cell (p := ⟨gb, 0, none⟩) hlb).trans cb
      exact wv hb rfl (by simp [execOp, Act.eval, e1, f1, q, go_sem]) rfl
     refine AllIn.cons ?_ ?_
     ·intro a w hz hb ho hg
      have e56 : a.tmps.getD 56 undef = .pointer (some ⟨g, 0, none⟩) := got_of hg (j := 4) rfl rfl rfl
      have f56 := Rg.gd e56
      exact wv hb rfl (by simp [execOp, Act.eval, e56, f56, go_sem]) rfl
     refine AllIn.cons ?_ ?_
     ·intro a w hz hb ho hg
      have e57 : a.tmps.getD 57 undef = .pointer (some ⟨g, 0, none⟩) := got_of hg (j := 5) rfl rfl rfl
      have f57 := Rg.gd e57
      exact wv hb rfl (by simp [execOp, Act.eval, e57, f57, go_sem]) rfl
     refine AllIn.cons ?_ ?_
     ·intro a w hz hb ho hg
      have e58 : a.tmps.getD 58 undef = .pointer (some ⟨g, 1, none⟩) := got_of hg (j := 6) rfl rfl rfl
      have f58 := Rg.gd e58
      have q := (hb.cell (p := ⟨g, 1, none⟩) hlg).trans c1
      exact wv hb rfl (by simp [execOp, Act.eval, e58, f58, q, go_sem]) rfl
     refine AllIn.cons ?_ ?_
     ·intro a w hz hb ho hg
      have e55 : a.tmps.getD 55 undef = .string s := got_of hg (j := 3) rfl rfl rfl
      have e59 : a.tmps.getD 59 undef = .int .i64 (q : Nat) := got_of hg (j := 7) rfl rfl rfl
      have f55 := Rg.gd e55
      have f59 := Rg.gd e59
      exact wv hb rfl (by simp [execOp, Act.eval, e55, e59, f55, f59, hq, hX, go_sem]) rfl
     exact AllIn.nil
    intro a w6 hd hz hb ho hg
    have e52 : a.tmps.getD 52 undef = .pointer (some ⟨g, 0, none⟩) := hg 0 (by decide) _ _ rfl rfl
    have e53 : a.tmps.getD 53 undef = .pointer (some ⟨g, 0, none⟩) := hg 1 (by decide) _ _ rfl rfl
    have e54 : a.tmps.getD 54 undef = .pointer (some ⟨g, 0, none⟩) := hg 2 (by decide) _ _ rfl rfl
    have e55 : a.tmps.getD 55 undef = .string s := hg 3 (by decide) _ _ rfl rfl
    have e56 : a.tmps.getD 56 undef = .pointer (some ⟨g, 0, none⟩) := hg 4 (by decide) _ _ rfl rfl
    have e57 : a.tmps.getD 57 undef = .pointer (some ⟨g, 0, none⟩) := hg 5 (by decide) _ _ rfl rfl
    have e58 : a.tmps.getD 58 undef = .pointer (some ⟨g, 1, none⟩) := hg 6 (by decide) _ _ rfl rfl
    have e59 : a.tmps.getD 59 undef = .int .i64 (q : Nat) := hg 7 (by decide) _ _ rfl rfl
    have e60 : a.tmps.getD 60 undef = .int .u8 (X : Nat) := hg 8 (by decide) _ _ rfl rfl
    have hA := ho.frame hz
    simp only [List.take_succ_cons, List.take_zero, List.filterMap_cons, List.filterMap_nil, List.foldl_cons, List.foldl_nil, e52, e53, e54, e55, e56, e57, e58, e59, e60, List.setIfInBounds_toArray, List.set_cons_zero, List.set_cons_succ] at hA
    obtain ⟨tm, df⟩ := a
    simp only at hd hA
    subst hd
    subst hA
    simp only [List.drop_succ_cons, List.drop_zero]
    have HH6 := Aside.mk hb
    clear hz ho hg hb e52 e53 e54 e55 e56 e57 e58 e59 e60
    clear cb c0 c1 c2 hlb hlg hfz
    have HPK := Aside.mk (HPK.out.below HH6.out)
    obtain ⟨cb, c0, c1, c2, hlb, hlg, hfz⟩ := HPK.out.cells
    clear hqne
    go_wp2_with fail
    refine (HIL.out _).mono ?_
    rintro e w7 ⟨rfl, rfl⟩
    cases hlt : isLt c with
    | true =>
     have hsk : q ≤ skp isLD s.data.toList q ∧ skp isLD s.data.toList q ≤ s.size := ⟨skp_ge _ _ _, skp_le _ _ _ (by rw [hsl.out]; omega)⟩
     obtain ⟨E, hE⟩ : ∃ E, skp isLD s.data.toList q = E := ⟨_, rfl⟩
     rw [hE] at hsk
     have HE := Aside.mk hE
     have hsk1 : (q : Int) ≤ (E : Int) := by omega
     have hsk2 : (E : Int) ≤ (s.size : Int) := by omega
     have HTK : Aside (tokAt nl s.data.toList q = ⟨1, q, E⟩) := ⟨by unfold tokAt; rw [HC.out]; simp only; rw [if_pos hlt, HE.out]⟩
     clear hE hsk
     go_wp2_with fail
     refine region_list (T := tab2 [
       Sq.val (.pointer (some ⟨g, 0, none⟩)), Sq.val (.pointer (some ⟨g, 0, none⟩)), Sq.val (.pointer (some ⟨g, 0, none⟩)), Sq.val (.string s), Sq.val (.pointer (some ⟨g, 0, none⟩)), Sq.val (.pointer (some ⟨g, 0, none⟩)), Sq.val (.pointer (some ⟨g, 1, none⟩)), Sq.val (.int .i64 (q : Nat)), Sq.val (.func (.func 134) #[] #[.pointer (some ⟨gb, 0, none⟩)]), Sq.val (.pointer (some ⟨g, 0, none⟩)), Sq.val (.pointer (some ⟨g, 0, none⟩)), Sq.val (.pointer (some ⟨g, 1, none⟩)), Sq.val (.int .i64 (q : Nat)), Sq.val (.int .i64 (E : Nat)), Sq.val (.string (s.extract q E)), Sq.val (.pointer (some ⟨g, 0, none⟩)), Sq.val (.pointer (some ⟨g, 0, none⟩)), Sq.val (.pointer (some ⟨g, 1, none⟩)), Sq.val (.int .i64 (q : Nat)), Sq.val (.agg #[.int .i64 1, .string (s.extract q E), .int .i64 (q : Nat)])]) 20
      [_, _, _, _, _, _, _, _, _, _, _, _, _, _, _, _, _, _, _, _, _] (by kernel_rfl) (by kernel_rfl) (by kernel_rfl) (by kernel_rfl) (by kernel_rfl) (by kernel_rfl) rfl ?_ ?_
     ·refine AllIn.cons ?_ ?_
      ·intro a w hz hb ho hg
       have e1 : a.tmps.getD 1 undef = .pointer (some ⟨gb, 0, none⟩) := ho 1 (by kernel_rfl)
       have f1 := Rg.gd e1
       have q := (hb.cell (p := ⟨gb, 0, none⟩) hlb).trans cb
       exact wv hb rfl (by simp [execOp, Act.eval, e1, f1, q, go_sem]) rfl
      refine AllIn.cons ?_ ?_
      ·intro a w hz hb ho hg
       have e64 : a.tmps.getD 64 undef = .pointer (some ⟨g, 0, none⟩) := got_of hg (j := 0) rfl rfl rfl
       have f64 := Rg.gd e64
       exact wv hb rfl (by simp [execOp, Act.eval, e64, f64, go_sem]) rfl
      refine AllIn.cons ?_ ?_
      ·intro a w hz hb ho hg
       have e65 : a.tmps.getD 65 undef = .pointer (some ⟨g, 0, none⟩) := got_of hg (j := 1) rfl rfl rfl
       have f65 := Rg.gd e65
       exact wv hb rfl (by simp [execOp, Act.eval, e65, f65, go_sem]) rfl
      refine AllIn.cons ?_ ?_
      ·intro a w hz hb ho hg
       have e66 : a.tmps.getD 66 undef = .pointer (some ⟨g, 0, none⟩) := got_of hg (j := 2) rfl rfl rfl
       have f66 := Rg.gd e66
       have q := (hb.cell (p := ⟨g, 0, none⟩) hlg).trans c0
       exact wv hb rfl (by simp [execOp, Act.eval, e66, f66, q, go_sem]) rfl
      refine AllIn.cons ?_ ?_
      ·intro a w hz hb ho hg
       have e1 : a.tmps.getD 1 undef = .pointer (some ⟨gb, 0, none⟩) := ho 1 (by kernel_rfl)
       have f1 := Rg.gd e1
       have q := (hb.cell (p := ⟨gb, 0, none⟩) hlb).trans cb
       exact wv hb rfl (by simp [execOp, Act.eval, e1, f1, q, go_sem]) rfl
      refine AllIn.cons ?_ ?_
      ·intro a w hz hb ho hg
       have e68 : a.tmps.getD 68 undef = .pointer (some ⟨g, 0, none⟩) := got_of hg (j := 4) rfl rfl rfl
       have f68 := Rg.gd e68
       exact wv hb rfl (by simp [execOp, Act.eval, e68, f68, go_sem]) rfl
      refine AllIn.cons ?_ ?_
      ·intro a w hz hb ho hg
       have e69 : a.tmps.getD 69 undef = .pointer (some ⟨g, 0, none⟩) := got_of hg (j := 5) rfl rfl rfl
       have f69 := Rg.gd e69
       exact wv hb rfl (by simp [execOp, Act.eval, e69, f69, go_sem]) rfl
      refine AllIn.cons ?_ ?_
      ·intro a w hz hb ho hg
       have e70 : a.tmps.getD 70 undef = .pointer (some ⟨g, 1, none⟩) := got_of hg (j := 6) rfl rfl rfl
       have f70 := Rg.gd e70
       have q := (hb.cell (p := ⟨g, 1, none⟩) hlg).trans c1
       exact wv hb rfl (by simp [execOp, Act.eval, e70, f70, q, go_sem]) rfl
      refine AllIn.cons ?_ ?_
      ·intro a w hz hb ho hg
       have e3 : a.tmps.getD 3 undef = .func (.func 134) #[] #[.pointer (some ⟨gb, 0, none⟩)] := ho 3 (by kernel_rfl)
       have f3 := Rg.gd e3
       exact wv hb rfl (by simp [execOp, Act.eval, e3, f3, go_sem]) rfl
      refine AllIn.cons ?_ ?_
      ·intro a w hz hb ho hg
       have e1 : a.tmps.getD 1 undef = .pointer (some ⟨gb, 0, none⟩) := ho 1 (by kernel_rfl)
       have f1 := Rg.gd e1
       have q := (hb.cell (p := ⟨gb, 0, none⟩) hlb).trans cb
       exact wv hb rfl (by simp [execOp, Act.eval, e1, f1, q, go_sem]) rfl
      refine AllIn.cons ?_ ?_
      ·intro a w hz hb ho hg
       have e73 : a.tmps.getD 73 undef = .pointer (some ⟨g, 0, none⟩) := got_of hg (j := 9) rfl rfl rfl
       have f73 := Rg.gd e73
       exact wv hb rfl (by simp [execOp, Act.eval, e73, f73, go_sem]) rfl
      refine AllIn.cons ?_ ?_
      ·intro a w hz hb ho hg
       have e74 : a.tmps.getD 74 undef = .pointer (some ⟨g, 0, none⟩) := got_of hg (j := 10) rfl rfl rfl
       have f74 := Rg.gd e74
       exact wv hb rfl (by simp [execOp, Act.eval, e74, f74, go_sem]) rfl
      refine AllIn.cons ?_ ?_
      ·intro a w hz hb ho hg
       have e75 : a.tmps.getD 75 undef = .pointer (some ⟨g, 1, none⟩) := got_of hg (j := 11) rfl rfl rfl
       have f75 := Rg.gd e75
       have q := (hb.cell (p := ⟨g, 1, none⟩) hlg).trans c1
       exact wv hb rfl (by simp [execOp, Act.eval, e75, f75, q, go_sem]) rfl
      refine AllIn.cons ?_ ?_
      ·intro a w hz hb ho hg
       have e72 : a.tmps.getD 72 undef = .func (.func 134) #[] #[.pointer (some ⟨gb, 0, none⟩)] := got_of hg (j := 8) rfl rfl rfl
       have e76 : a.tmps.getD 76 undef = .int .i64 (q : Nat) := got_of hg (j := 12) rfl rfl rfl
       have f72 := Rg.gd e72
       have f76 := Rg.gd e76
       exact Or.inl ⟨wanted_none rfl, wp_calls hb.size (run_callv (args := #[.int .i64 (q : Nat), .func (.func 135) #[] #[], .pointer (some ⟨gb, 0, none⟩)]) (show a.eval (.tmp 72) = _ from e72) enters_skip (by simp [Act.eval, f76])) ((skip_any _ isLD tells_ld enters_ld s q gb g w (by omega) HSZ ((hb.cell (p := ⟨gb, 0, none⟩) hlb).trans cb) ((hb.cell (p := ⟨g, 0, none⟩) hlg).trans c0)).mono (by rintro e w' ⟨rfl, rfl⟩; exact ⟨_, rfl, Below.refl _ _, by rw [HE.out]; rfl⟩))⟩
      refine AllIn.cons ?_ ?_
      ·intro a w hz hb ho hg
       have e67 : a.tmps.getD 67 undef = .string s := got_of hg (j := 3) rfl rfl rfl
       have e71 : a.tmps.getD 71 undef = .int .i64 (q : Nat) := got_of hg (j := 7) rfl rfl rfl
       have e77 : a.tmps.getD 77 undef = .int .i64 (E : Nat) := got_of hg (j := 13) rfl rfl rfl
       have f67 := Rg.gd e67
       have f71 := Rg.gd e71
       have f77 := Rg.gd e77
       exact wv hb rfl (by simp [execOp, Act.eval, e67, e71, e77, f67, f71, f77, hsk1, hsk2, hqs, go_sem]) rfl
      refine AllIn.cons ?_ ?_
      ·intro a w hz hb ho hg
       have e1 : a.tmps.getD 1 undef = .pointer (some ⟨gb, 0, none⟩) := ho 1 (by kernel_rfl)
       have f1 := Rg.gd e1
       have q := (hb.cell (p := ⟨gb, 0, none⟩) hlb).trans cb
       exact wv hb rfl (by simp [execOp, Act.eval, e1, f1, q, go_sem]) rfl
      refine AllIn.cons ?_ ?_
      ·intro a w hz hb ho hg
       have e79 : a.tmps.getD 79 undef = .pointer (some ⟨g, 0, none⟩) := got_of hg (j := 15) rfl rfl rfl
       have f79 := Rg.gd e79
       exact wv hb rfl (by simp [execOp, Act.eval, e79, f79, go_sem]) rfl
      refine AllIn.cons ?_ ?_
      ·intro a w hz hb ho hg
       have e80 : a.tmps.getD 80 undef = .pointer (some ⟨g, 0, none⟩) := got_of hg (j := 16) rfl rfl rfl
       have f80 := Rg.gd e80
       exact wv hb rfl (by simp [execOp, Act.eval, e80, f80, go_sem]) rfl
      refine AllIn.cons ?_ ?_
      ·intro a w hz hb ho hg
       have e81 : a.tmps.getD 81 undef = .pointer (some ⟨g, 1, none⟩) := got_of hg (j := 17) rfl rfl rfl
       have f81 := Rg.gd e81
       have q := (hb.cell (p := ⟨g, 1, none⟩) hlg).trans c1
       exact wv hb rfl (by simp [execOp, Act.eval, e81, f81, q, go_sem]) rfl
      refine AllIn.cons ?_ ?_
      ·intro a w hz hb ho hg
       have e78 : a.tmps.getD 78 undef = .string (s.extract q E) := got_of hg (j := 14) rfl rfl rfl
       have e82 : a.tmps.getD 82 undef = .int .i64 (q : Nat) := got_of hg (j := 18) rfl rfl rfl
       have f78 := Rg.gd e78
       have f82 := Rg.gd e82
       exact wv hb rfl (by simp [execOp, Act.eval, e78, e82, f78, f82, go_sem]) rfl
      exact AllIn.nil
     intro a w8 hd hz hb ho hg
     have e64 : a.tmps.getD 64 undef = .pointer (some ⟨g, 0, none⟩) := hg 0 (by decide) _ _ rfl rfl
     have e65 : a.tmps.getD 65 undef = .pointer (some ⟨g, 0, none⟩) := hg 1 (by decide) _ _ rfl rfl
     have e66 : a.tmps.getD 66 undef = .pointer (some ⟨g, 0, none⟩) := hg 2 (by decide) _ _ rfl rfl
     have e67 : a.tmps.getD 67 undef = .string s := hg 3 (by decide) _ _ rfl rfl
     have e68 : a.tmps.getD 68 undef = .pointer (some ⟨g, 0, none⟩) := hg 4 (by decide) _ _ rfl rfl
     have e69 : a.tmps.getD 69 undef = .pointer (some ⟨g, 0, none⟩) := hg 5 (by decide) _ _ rfl rfl
     have e70 : a.tmps.getD 70 undef = .pointer (some ⟨g, 1, none⟩) := hg 6 (by decide) _ _ rfl rfl
     have e71 : a.tmps.getD 71 undef = .int .i64 (q : Nat) := hg 7 (by decide) _ _ rfl rfl
     have e72 : a.tmps.getD 72 undef = .func (.func 134) #[] #[.pointer (some ⟨gb, 0, none⟩)] := hg 8 (by decide) _ _ rfl rfl
     have e73 : a.tmps.getD 73 undef = .pointer (some ⟨g, 0, none⟩) := hg 9 (by decide) _ _ rfl rfl
     have e74 : a.tmps.getD 74 undef = .pointer (some ⟨g, 0, none⟩) := hg 10 (by decide) _ _ rfl rfl
     have e75 : a.tmps.getD 75 undef = .pointer (some ⟨g, 1, none⟩) := hg 11 (by decide) _ _ rfl rfl
     have e76 : a.tmps.getD 76 undef = .int .i64 (q : Nat) := hg 12 (by decide) _ _ rfl rfl
     have e77 : a.tmps.getD 77 undef = .int .i64 (E : Nat) := hg 13 (by decide) _ _ rfl rfl
     have e78 : a.tmps.getD 78 undef = .string (s.extract q E) := hg 14 (by decide) _ _ rfl rfl
     have e79 : a.tmps.getD 79 undef = .pointer (some ⟨g, 0, none⟩) := hg 15 (by decide) _ _ rfl rfl
     have e80 : a.tmps.getD 80 undef = .pointer (some ⟨g, 0, none⟩) := hg 16 (by decide) _ _ rfl rfl
     have e81 : a.tmps.getD 81 undef = .pointer (some ⟨g, 1, none⟩) := hg 17 (by decide) _ _ rfl rfl
     have e82 : a.tmps.getD 82 undef = .int .i64 (q : Nat) := hg 18 (by decide) _ _ rfl rfl
     have e83 : a.tmps.getD 83 undef = .agg #[.int .i64 1, .string (s.extract q E), .int .i64 (q : Nat)] := hg 19 (by decide) _ _ rfl rfl
     have hA := ho.frame hz
     simp only [List.take_succ_cons, List.take_zero, List.filterMap_cons, List.filterMap_nil, List.foldl_cons, List.foldl_nil, e64, e65, e66, e67, e68, e69, e70, e71, e72, e73, e74, e75, e76, e77, e78, e79, e80, e81, e82, e83, List.setIfInBounds_toArray, List.set_cons_zero, List.set_cons_succ] at hA
     obtain ⟨tm, df⟩ := a
     simp only at hd hA
     subst hd
     subst hA
     simp only [List.drop_succ_cons, List.drop_zero]
     have HH8 := Aside.mk hb
     clear hz ho hg hb e64 e65 e66 e67 e68 e69 e70 e71 e72 e73 e74 e75 e76 e77 e78 e79 e80 e81 e82 e83
     clear cb c0 c1 c2 hlb hlg hfz
     have HPK := Aside.mk (HPK.out.below HH8.out)
     obtain ⟨cb, c0, c1, c2, hlb, hlg, hfz⟩ := HPK.out.cells
     obtain ⟨t0, t1, t2, f0, f1, f2⟩ := HPK.out.toks
     go_wp2_with fail
     exact pk_end HPK.out HSZ.out (by omega) HAT.out HTK.out rfl rfl rfl rfl
    | false =>
     go_wp2_with fail
     refine (HID.out _).mono ?_
     rintro e w9 ⟨rfl, rfl⟩
     cases hdg : isDg c with
     | true =>
      have hsk : q + 1 ≤ skp isDg s.data.toList q ∧ skp isDg s.data.toList q ≤ s.size := ⟨skp_first isDg _ q (by rw [hsl.out]; exact hq') (by rw [(List.getElem?_eq_some_iff.1 HC.out).2]; exact hdg), skp_le _ _ _ (by rw [hsl.out]; omega)⟩
      obtain ⟨E, hE⟩ : ∃ E, skp isDg s.data.toList q = E := ⟨_, rfl⟩
      rw [hE] at hsk
      have HE := Aside.mk hE
      have HEB := Aside.mk hsk
      have HTK0 : Aside (tokAt nl s.data.toList q = ⟨2, q, numEnd s.data.toList q⟩) := ⟨by unfold tokAt; rw [HC.out]; simp only; rw [if_neg (by rw [hlt]; simp), if_pos hdg]⟩
      have HSK := Aside.mk (fun w (h1 : w.cell? ⟨gb, 0, none⟩ = some (.pointer (some ⟨g, 0, none⟩))) (h2 : w.cell? ⟨g, 0, none⟩ = some (.string s)) => skip_any _ isDg tells_digit enters_digit s q gb g w (by omega) HSZ h1 h2)
      clear hE hsk
      go_wp2_with fail
      refine (HSK.out _ cb c0).mono ?_
      rintro e w10 ⟨rfl, rfl⟩
      rw [HE.out]
      have hE9 : (E : Int) < 9000 := by have := HEB.out; have := HSZ.out; omega
      have hsk1 : (q : Int) ≤ (E : Int) := by have := HEB.out; omega
      have hsk2 : (E : Int) ≤ (s.size : Int) := by have := HEB.out; omega
      clear HSK
      by_cases h1 : E + 1 < s.size
      ·have hE1 : (E : Int) + 1 < (s.size : Int) := by omega
       obtain ⟨c2', hc2⟩ : ∃ c, s.data.toList[E]? = some c := ⟨_, List.getElem?_eq_getElem (by rw [hsl.out]; omega)⟩
       obtain ⟨c3', hc3⟩ : ∃ c, s.data.toList[E + 1]? = some c := ⟨_, List.getElem?_eq_getElem (by rw [hsl.out]; omega)⟩
       have hY0 : ∀ h : E < s.size, s[E].toNat = c2'.toNat := fun h => by rw [← (List.getElem?_eq_some_iff.1 hc2).2]; rfl
       have hZ0 : ∀ h : E + 1 < s.size, s[E + 1].toNat = c3'.toNat := fun h => by rw [← (List.getElem?_eq_some_iff.1 hc3).2]; rfl
       have hY := hY0 (by omega)
       have hZ := hZ0 h1
       obtain ⟨Y, hYY⟩ : ∃ X, c2'.toNat = X := ⟨_, rfl⟩
       obtain ⟨Z, hZZ⟩ : ∃ X, c3'.toNat = X := ⟨_, rfl⟩
       rw [hYY] at hY
       rw [hZZ] at hZ
       have HID3 : Aside (∀ w, Calls Tryz.prog 136 #[.int .u8 (Z : Nat)] w fun e w' => e = .returned (.bool (isDg c3')) ∧ w = w') := ⟨fun w => by have := isDigit_any c3' w; rw [hZZ] at this; exact this⟩
       have HC2 := Aside.mk (And.intro hc2 hc3)
       have HYZ := Aside.mk hYY
       have hEl : E < s.size := by omega
       clear hc2 hc3 hYY hZZ hY0 hZ0
       by_cases h46 : Y = 46
       ·have hY46 : ((Y : Int) == 46) = true := by rw [h46]; rfl
        have H46 : Aside (c2' = 46) := ⟨UInt8.toNat_inj.1 (by rw [HYZ.out, h46]; rfl)⟩
        clear h46
        go_wp2_with fail
        refine (HID3.out _).mono ?_
        rintro e w11 ⟨rfl, rfl⟩
        cases hd3 : isDg c3' with
        | true =>
         have hsk3 : E + 1 ≤ skp isDg s.data.toList (E + 1) ∧ skp isDg s.data.toList (E + 1) ≤ s.size := ⟨skp_ge _ _ _, skp_le _ _ _ (by rw [hsl.out]; omega)⟩
         obtain ⟨E', hE'⟩ : ∃ E', skp isDg s.data.toList (E + 1) = E' := ⟨_, rfl⟩
         rw [hE'] at hsk3
         have HE' := Aside.mk hE'
         have HTK : Aside (tokAt nl s.data.toList q = ⟨2, q, E'⟩) := ⟨by
          rw [HTK0.out]; unfold numEnd; simp only [HE.out, HC2.out.1]
          rw [if_pos ⟨by rw [H46.out], by rw [HC2.out.2]; exact hd3⟩, HE'.out]⟩
         have HSK2 := Aside.mk (fun w (h1 : w.cell? ⟨gb, 0, none⟩ = some (.pointer (some ⟨g, 0, none⟩))) (h2 : w.cell? ⟨g, 0, none⟩ = some (.string s)) => skip_any _ isDg tells_digit enters_digit s (E + 1) gb g w (by omega) HSZ h1 h2)
         have hp1 : ((E : Nat) : Int) + 1 = ((E + 1 : Nat) : Int) := by omega
         have HP1 := Aside.mk hp1
         have hsk4 : (q : Int) ≤ (E' : Int) := by omega
         have hsk5 : (E' : Int) ≤ (s.size : Int) := by omega
         clear hE' hsk3 hp1
         go_wp2_with fail
         rw [HP1.out]
         refine (HSK2.out _ cb c0).mono ?_
         rintro e w12 ⟨rfl, rfl⟩
         rw [HE'.out]
         clear HSK2
         go_wp2_with fail
         refine region_list (T := tab2 [
           Sq.val (.pointer (some ⟨g, 0, none⟩)), Sq.val (.pointer (some ⟨g, 0, none⟩)), Sq.val (.pointer (some ⟨g, 0, none⟩)), Sq.val (.string s), Sq.val (.pointer (some ⟨g, 0, none⟩)), Sq.val (.pointer (some ⟨g, 0, none⟩)), Sq.val (.pointer (some ⟨g, 1, none⟩)), Sq.val (.int .i64 (q : Nat)), Sq.val (.int .i64 (E' : Nat)), Sq.val (.string (s.extract q E')), Sq.val (.pointer (some ⟨g, 0, none⟩)), Sq.val (.pointer (some ⟨g, 0, none⟩)), Sq.val (.pointer (some ⟨g, 1, none⟩)), Sq.val (.int .i64 (q : Nat)), Sq.val (.agg #[.int .i64 2, .string (s.extract q E'), .int .i64 (q : Nat)])]) 15
          [_, _, _, _, _, _, _, _, _, _, _, _, _, _, _, _] (by kernel_rfl) (by kernel_rfl) (by kernel_rfl) (by kernel_rfl) (by kernel_rfl) (by kernel_rfl) rfl ?_ ?_
         ·refine AllIn.cons ?_ ?_
          ·intro a w hz hb ho hg
           have e1 : a.tmps.getD 1 undef = .pointer (some ⟨gb, 0, none⟩) := ho 1 (by kernel_rfl)
           have f1 := Rg.gd e1
           have q := (hb.cell (p := ⟨gb, 0, none⟩) hlb).trans cb
           exact wv hb rfl (by simp [execOp, Act.eval, e1, f1, q, go_sem]) rfl
          refine AllIn.cons ?_ ?_
          ·intro a w hz hb ho hg
           have e124 : a.tmps.getD 124 undef = .pointer (some ⟨g, 0, none⟩) := got_of hg (j := 0) rfl rfl rfl
           have f124 := Rg.gd e124
           exact wv hb rfl (by simp [execOp, Act.eval, e124, f124, go_sem]) rfl
          refine AllIn.cons ?_ ?_
          ·intro a w hz hb ho hg
           have e125 : a.tmps.getD 125 undef = .pointer (some ⟨g, 0, none⟩) := got_of hg (j := 1) rfl rfl rfl
           have f125 := Rg.gd e125
           exact wv hb rfl (by simp [execOp, Act.eval, e125, f125, go_sem]) rfl
          refine AllIn.cons ?_ ?_
          ·intro a w hz hb ho hg
           have e126 : a.tmps.getD 126 undef = .pointer (some ⟨g, 0, none⟩) := got_of hg (j := 2) rfl rfl rfl
           have f126 := Rg.gd e126
           have q := (hb.cell (p := ⟨g, 0, none⟩) hlg).trans c0
           exact wv hb rfl (by simp [execOp, Act.eval, e126, f126, q, go_sem]) rfl
          refine AllIn.cons ?_ ?_
          ·intro a w hz hb ho hg
           have e1 : a.tmps.getD 1 undef = .pointer (some ⟨gb, 0, none⟩) := ho 1 (by kernel_rfl)
           have f1 := Rg.gd e1
           have q := (hb.cell (p := ⟨gb, 0, none⟩) hlb).trans cb
           exact wv hb rfl (by simp [execOp, Act.eval, e1, f1, q, go_sem]) rfl
          refine AllIn.cons ?_ ?_
          ·intro a w hz hb ho hg
           have e128 : a.tmps.getD 128 undef = .pointer (some ⟨g, 0, none⟩) := got_of hg (j := 4) rfl rfl rfl
           have f128 := Rg.gd e128
           exact wv hb rfl (by simp [execOp, Act.eval, e128, f128, go_sem]) rfl
          refine AllIn.cons ?_ ?_
          ·intro a w hz hb ho hg
           have e129 : a.tmps.getD 129 undef = .pointer (some ⟨g, 0, none⟩) := got_of hg (j := 5) rfl rfl rfl
           have f129 := Rg.gd e129
           exact wv hb rfl (by simp [execOp, Act.eval, e129, f129, go_sem]) rfl
          refine AllIn.cons ?_ ?_
          ·intro a w hz hb ho hg
           have e130 : a.tmps.getD 130 undef = .pointer (some ⟨g, 1, none⟩) := got_of hg (j := 6) rfl rfl rfl
           have f130 := Rg.gd e130
           have q := (hb.cell (p := ⟨g, 1, none⟩) hlg).trans c1
           exact wv hb rfl (by simp [execOp, Act.eval, e130, f130, q, go_sem]) rfl
          refine AllIn.cons ?_ ?_
          ·intro a w hz hb ho hg
           have e5 : a.tmps.getD 5 undef = .int .i64 (E' : Nat) := ho 5 (by kernel_rfl)
           have f5 := Rg.gd e5
           exact wv hb rfl (by simp [execOp, Act.eval, e5, f5, go_sem]) rfl
          refine AllIn.cons ?_ ?_
          ·intro a w hz hb ho hg
           have e127 : a.tmps.getD 127 undef = .string s := got_of hg (j := 3) rfl rfl rfl
           have e131 : a.tmps.getD 131 undef = .int .i64 (q : Nat) := got_of hg (j := 7) rfl rfl rfl
           have e132 : a.tmps.getD 132 undef = .int .i64 (E' : Nat) := got_of hg (j := 8) rfl rfl rfl
           have f127 := Rg.gd e127
           have f131 := Rg.gd e131
           have f132 := Rg.gd e132
           exact wv hb rfl (by simp [execOp, Act.eval, e127, e131, e132, f127, f131, f132, hsk4, hsk5, hqs, go_sem]) rfl
          refine AllIn.cons ?_ ?_
          ·intro a w hz hb ho hg
           have e1 : a.tmps.getD 1 undef = .pointer (some ⟨gb, 0, none⟩) := ho 1 (by kernel_rfl)
           have f1 := Rg.gd e1
           have q := (hb.cell (p := ⟨gb, 0, none⟩) hlb).trans cb
           exact wv hb rfl (by simp [execOp, Act.eval, e1, f1, q, go_sem]) rfl
          refine AllIn.cons ?_ ?_
          ·intro a w hz hb ho hg
           have e134 : a.tmps.getD 134 undef = .pointer (some ⟨g, 0, none⟩) := got_of hg (j := 10) rfl rfl rfl
           have f134 := Rg.gd e134
           exact wv hb rfl (by simp [execOp, Act.eval, e134, f134, go_sem]) rfl
          refine AllIn.cons ?_ ?_
          ·intro a w hz hb ho hg
           have e135 : a.tmps.getD 135 undef = .pointer (some ⟨g, 0, none⟩) := got_of hg (j := 11) rfl rfl rfl
           have f135 := Rg.gd e135
           exact wv hb rfl (by simp [execOp, Act.eval, e135, f135, go_sem]) rfl
          refine AllIn.cons ?_ ?_
          ·intro a w hz hb ho hg
           have e136 : a.tmps.getD 136 undef = .pointer (some ⟨g, 1, none⟩) := got_of hg (j := 12) rfl rfl rfl
           have f136 := Rg.gd e136
           have q := (hb.cell (p := ⟨g, 1, none⟩) hlg).trans c1
           exact wv hb rfl (by simp [execOp, Act.eval, e136, f136, q, go_sem]) rfl
          refine AllIn.cons ?_ ?_
          ·intro a w hz hb ho hg
           have e133 : a.tmps.getD 133 undef = .string (s.extract q E') := got_of hg (j := 9) rfl rfl rfl
           have e137 : a.tmps.getD 137 undef = .int .i64 (q : Nat) := got_of hg (j := 13) rfl rfl rfl
           have f133 := Rg.gd e133
           have f137 := Rg.gd e137
           exact wv hb rfl (by simp [execOp, Act.eval, e133, e137, f133, f137, go_sem]) rfl
          exact AllIn.nil
         intro a w13 hd hz hb ho hg
         have e124 : a.tmps.getD 124 undef = .pointer (some ⟨g, 0, none⟩) := hg 0 (by decide) _ _ rfl rfl
         have e125 : a.tmps.getD 125 undef = .pointer (some ⟨g, 0, none⟩) := hg 1 (by decide) _ _ rfl rfl
         have e126 : a.tmps.getD 126 undef = .pointer (some ⟨g, 0, none⟩) := hg 2 (by decide) _ _ rfl rfl
         have e127 : a.tmps.getD 127 undef = .string s := hg 3 (by decide) _ _ rfl rfl
         have e128 : a.tmps.getD 128 undef = .pointer (some ⟨g, 0, none⟩) := hg 4 (by decide) _ _ rfl rfl
         have e129 : a.tmps.getD 129 undef = .pointer (some ⟨g, 0, none⟩) := hg 5 (by decide) _ _ rfl rfl
         have e130 : a.tmps.getD 130 undef = .pointer (some ⟨g, 1, none⟩) := hg 6 (by decide) _ _ rfl rfl
         have e131 : a.tmps.getD 131 undef = .int .i64 (q : Nat) := hg 7 (by decide) _ _ rfl rfl
         have e132 : a.tmps.getD 132 undef = .int .i64 (E' : Nat) := hg 8 (by decide) _ _ rfl rfl
         have e133 : a.tmps.getD 133 undef = .string (s.extract q E') := hg 9 (by decide) _ _ rfl rfl
         have e134 : a.tmps.getD 134 undef = .pointer (some ⟨g, 0, none⟩) := hg 10 (by decide) _ _ rfl rfl
         have e135 : a.tmps.getD 135 undef = .pointer (some ⟨g, 0, none⟩) := hg 11 (by decide) _ _ rfl rfl
         have e136 : a.tmps.getD 136 undef = .pointer (some ⟨g, 1, none⟩) := hg 12 (by decide) _ _ rfl rfl
         have e137 : a.tmps.getD 137 undef = .int .i64 (q : Nat) := hg 13 (by decide) _ _ rfl rfl
         have e138 : a.tmps.getD 138 undef = .agg #[.int .i64 2, .string (s.extract q E'), .int .i64 (q : Nat)] := hg 14 (by decide) _ _ rfl rfl
         have hA := ho.frame hz
         simp only [List.take_succ_cons, List.take_zero, List.filterMap_cons, List.filterMap_nil, List.foldl_cons, List.foldl_nil, e124, e125, e126, e127, e128, e129, e130, e131, e132, e133, e134, e135, e136, e137, e138, List.setIfInBounds_toArray, List.set_cons_zero, List.set_cons_succ] at hA
         obtain ⟨tm, df⟩ := a
         simp only at hd hA
         subst hd
         subst hA
         simp only [List.drop_succ_cons, List.drop_zero]
         have HH13 := Aside.mk hb
         clear hz ho hg hb e124 e125 e126 e127 e128 e129 e130 e131 e132 e133 e134 e135 e136 e137 e138
         clear cb c0 c1 c2 hlb hlg hfz
         have HPK := Aside.mk (HPK.out.below HH13.out)
         obtain ⟨cb, c0, c1, c2, hlb, hlg, hfz⟩ := HPK.out.cells
         obtain ⟨t0, t1, t2, f0, f1, f2⟩ := HPK.out.toks
         go_wp2_with fail
         exact pk_end HPK.out HSZ.out (by omega) HAT.out HTK.out rfl rfl rfl rfl
        | false =>
         have HTK : Aside (tokAt nl s.data.toList q = ⟨2, q, E⟩) := ⟨by
          rw [HTK0.out]; unfold numEnd; simp only [HE.out, HC2.out.1]
          rw [if_neg (by rintro ⟨-, h⟩; rw [HC2.out.2] at h; simp [hd3] at h)]⟩
         go_wp2_with fail
         refine region_list (T := tab2 [
           Sq.val (.pointer (some ⟨g, 0, none⟩)), Sq.val (.pointer (some ⟨g, 0, none⟩)), Sq.val (.pointer (some ⟨g, 0, none⟩)), Sq.val (.string s), Sq.val (.pointer (some ⟨g, 0, none⟩)), Sq.val (.pointer (some ⟨g, 0, none⟩)), Sq.val (.pointer (some ⟨g, 1, none⟩)), Sq.val (.int .i64 (q : Nat)), Sq.val (.int .i64 (E : Nat)), Sq.val (.string (s.extract q E)), Sq.val (.pointer (some ⟨g, 0, none⟩)), Sq.val (.pointer (some ⟨g, 0, none⟩)), Sq.val (.pointer (some ⟨g, 1, none⟩)), Sq.val (.int .i64 (q : Nat)), Sq.val (.agg #[.int .i64 2, .string (s.extract q E), .int .i64 (q : Nat)])]) 15
          [_, _, _, _, _, _, _, _, _, _, _, _, _, _, _, _] (by kernel_rfl) (by kernel_rfl) (by kernel_rfl) (by kernel_rfl) (by kernel_rfl) (by kernel_rfl) rfl ?_ ?_
         ·refine AllIn.cons ?_ ?_
          ·intro a w hz hb ho hg
           have e1 : a.tmps.getD 1 undef = .pointer (some ⟨gb, 0, none⟩) := ho 1 (by kernel_rfl)
           have f1 := Rg.gd e1
           have q := (hb.cell (p := ⟨gb, 0, none⟩) hlb).trans cb
           exact wv hb rfl (by simp [execOp, Act.eval, e1, f1, q, go_sem]) rfl
          refine AllIn.cons ?_ ?_
          ·intro a w hz hb ho hg
           have e124 : a.tmps.getD 124 undef = .pointer (some ⟨g, 0, none⟩) := got_of hg (j := 0) rfl rfl rfl
           have f124 := Rg.gd e124
           exact wv hb rfl (by simp [execOp, Act.eval, e124, f124, go_sem]) rfl
          refine AllIn.cons ?_ ?_
          ·intro a w hz hb ho hg
           have e125 : a.tmps.getD 125 undef = .pointer (some ⟨g, 0, none⟩) := got_of hg (j := 1) rfl rfl rfl
           have f125 := Rg.gd e125
           exact wv hb rfl (by simp [execOp, Act.eval, e125, f125, go_sem]) rfl
          refine AllIn.cons ?_ ?_
          ·intro a w hz hb ho hg
           have e126 : a.tmps.getD 126 undef = .pointer (some ⟨g, 0, none⟩) := got_of hg (j := 2) rfl rfl rfl
           have f126 := Rg.gd e126
           have q := (hb.cell (p := ⟨g, 0, none⟩) hlg).trans c0
           exact wv hb rfl (by simp [execOp, Act.eval, e126, f126, q, go_sem]) rfl
          refine AllIn.cons ?_ ?_
          ·intro a w hz hb ho hg
           have e1 : a.tmps.getD 1 undef = .pointer (some ⟨gb, 0, none⟩) := ho 1 (by kernel_rfl)
           have f1 := Rg.gd e1
           have q := (hb.cell (p := ⟨gb, 0, none⟩) hlb).trans cb
           exact wv hb rfl (by simp [execOp, Act.eval, e1, f1, q, go_sem]) rfl
          refine AllIn.cons ?_ ?_
          ·intro a w hz hb ho hg
           have e128 : a.tmps.getD 128 undef = .pointer (some ⟨g, 0, none⟩) := got_of hg (j := 4) rfl rfl rfl
           have f128 := Rg.gd e128
           exact wv hb rfl (by simp [execOp, Act.eval, e128, f128, go_sem]) rfl
          refine AllIn.cons ?_ ?_
          ·intro a w hz hb ho hg
           have e129 : a.tmps.getD 129 undef = .pointer (some ⟨g, 0, none⟩) := got_of hg (j := 5) rfl rfl rfl
           have f129 := Rg.gd e129
           exact wv hb rfl (by simp [execOp, Act.eval, e129, f129, go_sem]) rfl
          refine AllIn.cons ?_ ?_
          ·intro a w hz hb ho hg
           have e130 : a.tmps.getD 130 undef = .pointer (some ⟨g, 1, none⟩) := got_of hg (j := 6) rfl rfl rfl
           have f130 := Rg.gd e130
           have q := (hb.cell (p := ⟨g, 1, none⟩) hlg).trans c1
           exact wv hb rfl (by simp [execOp, Act.eval, e130, f130, q, go_sem]) rfl
          refine AllIn.cons ?_ ?_
          ·intro a w hz hb ho hg
           have e5 : a.tmps.getD 5 undef = .int .i64 (E : Nat) := ho 5 (by kernel_rfl)
           have f5 := Rg.gd e5
           exact wv hb rfl (by simp [execOp, Act.eval, e5, f5, go_sem]) rfl
          refine AllIn.cons ?_ ?_
          ·intro a w hz hb ho hg
           have e127 : a.tmps.getD 127 undef = .string s := got_of hg (j := 3) rfl rfl rfl
           have e131 : a.tmps.getD 131 undef = .int .i64 (q : Nat) := got_of hg (j := 7) rfl rfl rfl
           have e132 : a.tmps.getD 132 undef = .int .i64 (E : Nat) := got_of hg (j := 8) rfl rfl rfl
           have f127 := Rg.gd e127
           have f131 := Rg.gd e131
           have f132 := Rg.gd e132
           exact wv hb rfl (by simp [execOp, Act.eval, e127, e131, e132, f127, f131, f132, hsk1, hsk2, hqs, go_sem]) rfl
          refine AllIn.cons ?_ ?_
          ·intro a w hz hb ho hg
           have e1 : a.tmps.getD 1 undef = .pointer (some ⟨gb, 0, none⟩) := ho 1 (by kernel_rfl)
           have f1 := Rg.gd e1
           have q := (hb.cell (p := ⟨gb, 0, none⟩) hlb).trans cb
           exact wv hb rfl (by simp [execOp, Act.eval, e1, f1, q, go_sem]) rfl
          refine AllIn.cons ?_ ?_
          ·intro a w hz hb ho hg
           have e134 : a.tmps.getD 134 undef = .pointer (some ⟨g, 0, none⟩) := got_of hg (j := 10) rfl rfl rfl
           have f134 := Rg.gd e134
           exact wv hb rfl (by simp [execOp, Act.eval, e134, f134, go_sem]) rfl
          refine AllIn.cons ?_ ?_
          ·intro a w hz hb ho hg
           have e135 : a.tmps.getD 135 undef = .pointer (some ⟨g, 0, none⟩) := got_of hg (j := 11) rfl rfl rfl
           have f135 := Rg.gd e135
           exact wv hb rfl (by simp [execOp, Act.eval, e135, f135, go_sem]) rfl
          refine AllIn.cons ?_ ?_
          ·intro a w hz hb ho hg
           have e136 : a.tmps.getD 136 undef = .pointer (some ⟨g, 1, none⟩) := got_of hg (j := 12) rfl rfl rfl
           have f136 := Rg.gd e136
           have q := (hb.cell (p := ⟨g, 1, none⟩) hlg).trans c1
           exact wv hb rfl (by simp [execOp, Act.eval, e136, f136, q, go_sem]) rfl
          refine AllIn.cons ?_ ?_
          ·intro a w hz hb ho hg
           have e133 : a.tmps.getD 133 undef = .string (s.extract q E) := got_of hg (j := 9) rfl rfl rfl
           have e137 : a.tmps.getD 137 undef = .int .i64 (q : Nat) := got_of hg (j := 13) rfl rfl rfl
           have f133 := Rg.gd e133
           have f137 := Rg.gd e137
           exact wv hb rfl (by simp [execOp, Act.eval, e133, e137, f133, f137, go_sem]) rfl
          exact AllIn.nil
         intro a w13 hd hz hb ho hg
         have e124 : a.tmps.getD 124 undef = .pointer (some ⟨g, 0, none⟩) := hg 0 (by decide) _ _ rfl rfl
         have e125 : a.tmps.getD 125 undef = .pointer (some ⟨g, 0, none⟩) := hg 1 (by decide) _ _ rfl rfl
         have e126 : a.tmps.getD 126 undef = .pointer (some ⟨g, 0, none⟩) := hg 2 (by decide) _ _ rfl rfl
         have e127 : a.tmps.getD 127 undef = .string s := hg 3 (by decide) _ _ rfl rfl
         have e128 : a.tmps.getD 128 undef = .pointer (some ⟨g, 0, none⟩) := hg 4 (by decide) _ _ rfl rfl
         have e129 : a.tmps.getD 129 undef = .pointer (some ⟨g, 0, none⟩) := hg 5 (by decide) _ _ rfl rfl
         have e130 : a.tmps.getD 130 undef = .pointer (some ⟨g, 1, none⟩) := hg 6 (by decide) _ _ rfl rfl
         have e131 : a.tmps.getD 131 undef = .int .i64 (q : Nat) := hg 7 (by decide) _ _ rfl rfl
         have e132 : a.tmps.getD 132 undef = .int .i64 (E : Nat) := hg 8 (by decide) _ _ rfl rfl
         have e133 : a.tmps.getD 133 undef = .string (s.extract q E) := hg 9 (by decide) _ _ rfl rfl
         have e134 : a.tmps.getD 134 undef = .pointer (some ⟨g, 0, none⟩) := hg 10 (by decide) _ _ rfl rfl
         have e135 : a.tmps.getD 135 undef = .pointer (some ⟨g, 0, none⟩) := hg 11 (by decide) _ _ rfl rfl
         have e136 : a.tmps.getD 136 undef = .pointer (some ⟨g, 1, none⟩) := hg 12 (by decide) _ _ rfl rfl
         have e137 : a.tmps.getD 137 undef = .int .i64 (q : Nat) := hg 13 (by decide) _ _ rfl rfl
         have e138 : a.tmps.getD 138 undef = .agg #[.int .i64 2, .string (s.extract q E), .int .i64 (q : Nat)] := hg 14 (by decide) _ _ rfl rfl
         have hA := ho.frame hz
         simp only [List.take_succ_cons, List.take_zero, List.filterMap_cons, List.filterMap_nil, List.foldl_cons, List.foldl_nil, e124, e125, e126, e127, e128, e129, e130, e131, e132, e133, e134, e135, e136, e137, e138, List.setIfInBounds_toArray, List.set_cons_zero, List.set_cons_succ] at hA
         obtain ⟨tm, df⟩ := a
         simp only at hd hA
         subst hd
         subst hA
         simp only [List.drop_succ_cons, List.drop_zero]
         have HH13 := Aside.mk hb
         clear hz ho hg hb e124 e125 e126 e127 e128 e129 e130 e131 e132 e133 e134 e135 e136 e137 e138
         clear cb c0 c1 c2 hlb hlg hfz
         have HPK := Aside.mk (HPK.out.below HH13.out)
         obtain ⟨cb, c0, c1, c2, hlb, hlg, hfz⟩ := HPK.out.cells
         obtain ⟨t0, t1, t2, f0, f1, f2⟩ := HPK.out.toks
         go_wp2_with fail
         exact pk_end HPK.out HSZ.out (by omega) HAT.out HTK.out rfl rfl rfl rfl
       ·have hY46 : ((Y : Int) == 46) = false := by rw [beq_eq_false_iff_ne]; omega
        have HTK : Aside (tokAt nl s.data.toList q = ⟨2, q, E⟩) := ⟨by
         rw [HTK0.out]; unfold numEnd; simp only [HE.out, HC2.out.1]
         rw [if_neg (by rintro ⟨h, -⟩; apply h46; rw [← HYZ.out]; rw [Option.some.inj h]; rfl)]⟩
        clear h46
        go_wp2_with fail
        refine region_list (T := tab2 [
          Sq.val (.pointer (some ⟨g, 0, none⟩)), Sq.val (.pointer (some ⟨g, 0, none⟩)), Sq.val (.pointer (some ⟨g, 0, none⟩)), Sq.val (.string s), Sq.val (.pointer (some ⟨g, 0, none⟩)), Sq.val (.pointer (some ⟨g, 0, none⟩)), Sq.val (.pointer (some ⟨g, 1, none⟩)), Sq.val (.int .i64 (q : Nat)), Sq.val (.int .i64 (E : Nat)), Sq.val (.string (s.extract q E)), Sq.val (.pointer (some ⟨g, 0, none⟩)), Sq.val (.pointer (some ⟨g, 0, none⟩)), Sq.val (.pointer (some ⟨g, 1, none⟩)), Sq.val (.int .i64 (q : Nat)), Sq.val (.agg #[.int .i64 2, .string (s.extract q E), .int .i64 (q : Nat)])]) 15
         [_, _, _, _, _, _, _, _, _, _, _, _, _, _, _, _] (by kernel_rfl) (by kernel_rfl) (by kernel_rfl) (by kernel_rfl) (by kernel_rfl) (by kernel_rfl) rfl ?_ ?_
        ·refine AllIn.cons ?_ ?_
         ·intro a w hz hb ho hg
          have e1 : a.tmps.getD 1 undef = .pointer (some ⟨gb, 0, none⟩) := ho 1 (by kernel_rfl)
          have f1 := Rg.gd e1
          have q := (hb.cell (p := ⟨gb, 0, none⟩) hlb).trans cb
          exact wv hb rfl (by simp [execOp, Act.eval, e1, f1, q, go_sem]) rfl
         refine AllIn.cons ?_ ?_
         ·intro a w hz hb ho hg
          have e124 : a.tmps.getD 124 undef = .pointer (some ⟨g, 0, none⟩) := got_of hg (j := 0) rfl rfl rfl
          have f124 := Rg.gd e124
          exact wv hb rfl (by simp [execOp, Act.eval, e124, f124, go_sem]) rfl
         refine AllIn.cons ?_ ?_
         ·intro a w hz hb ho hg
          have e125 : a.tmps.getD 125 undef = .pointer (some ⟨g, 0, none⟩) := got_of hg (j := 1) rfl rfl rfl
          have f125 := Rg.gd e125
          exact wv hb rfl (by simp [execOp, Act.eval, e125, f125, go_sem]) rfl
         refine AllIn.cons ?_ ?_
         ·intro a w hz hb ho hg
          have e126 : a.tmps.getD 126 undef = .pointer (some ⟨g, 0, none⟩) := got_of hg (j := 2) rfl rfl rfl
          have f126 := Rg.gd e126
          have q := (hb.cell (p := ⟨g, 0, none⟩) hlg).trans c0
          exact wv hb rfl (by simp [execOp, Act.eval, e126, f126, q, go_sem]) rfl
         refine AllIn.cons ?_ ?_
         ·intro a w hz hb ho hg
          have e1 : a.tmps.getD 1 undef = .pointer (some ⟨gb, 0, none⟩) := ho 1 (by kernel_rfl)
          have f1 := Rg.gd e1
          have q := (hb.cell (p := ⟨gb, 0, none⟩) hlb).trans cb
          exact wv hb rfl (by simp [execOp, Act.eval, e1, f1, q, go_sem]) rfl
         refine AllIn.cons ?_ ?_
         ·intro a w hz hb ho hg
          have e128 : a.tmps.getD 128 undef = .pointer (some ⟨g, 0, none⟩) := got_of hg (j := 4) rfl rfl rfl
          have f128 := Rg.gd e128
          exact wv hb rfl (by simp [execOp, Act.eval, e128, f128, go_sem]) rfl
         refine AllIn.cons ?_ ?_
         ·intro a w hz hb ho hg
          have e129 : a.tmps.getD 129 undef = .pointer (some ⟨g, 0, none⟩) := got_of hg (j := 5) rfl rfl rfl
          have f129 := Rg.gd e129
          exact wv hb rfl (by simp [execOp, Act.eval, e129, f129, go_sem]) rfl
         refine AllIn.cons ?_ ?_
         ·intro a w hz hb ho hg
          have e130 : a.tmps.getD 130 undef = .pointer (some ⟨g, 1, none⟩) := got_of hg (j := 6) rfl rfl rfl
          have f130 := Rg.gd e130
          have q := (hb.cell (p := ⟨g, 1, none⟩) hlg).trans c1
          exact wv hb rfl (by simp [execOp, Act.eval, e130, f130, q, go_sem]) rfl
         refine AllIn.cons ?_ ?_
         ·intro a w hz hb ho hg
          have e5 : a.tmps.getD 5 undef = .int .i64 (E : Nat) := ho 5 (by kernel_rfl)
          have f5 := Rg.gd e5
          exact wv hb rfl (by simp [execOp, Act.eval, e5, f5, go_sem]) rfl
         refine AllIn.cons ?_ ?_
         ·intro a w hz hb ho hg
          have e127 : a.tmps.getD 127 undef = .string s := got_of hg (j := 3) rfl rfl rfl
          have e131 : a.tmps.getD 131 undef = .int .i64 (q : Nat) := got_of hg (j := 7) rfl rfl rfl
          have e132 : a.tmps.getD 132 undef = .int .i64 (E : Nat) := got_of hg (j := 8) rfl rfl rfl
          have f127 := Rg.gd e127
          have f131 := Rg.gd e131
          have f132 := Rg.gd e132
          exact wv hb rfl (by simp [execOp, Act.eval, e127, e131, e132, f127, f131, f132, hsk1, hsk2, hqs, go_sem]) rfl
         refine AllIn.cons ?_ ?_
         ·intro a w hz hb ho hg
          have e1 : a.tmps.getD 1 undef = .pointer (some ⟨gb, 0, none⟩) := ho 1 (by kernel_rfl)
          have f1 := Rg.gd e1
          have q := (hb.cell (p := ⟨gb, 0, none⟩) hlb).trans cb
          exact wv hb rfl (by simp [execOp, Act.eval, e1, f1, q, go_sem]) rfl
         refine AllIn.cons ?_ ?_
         ·intro a w hz hb ho hg
          have e134 : a.tmps.getD 134 undef = .pointer (some ⟨g, 0, none⟩) := got_of hg (j := 10) rfl rfl rfl
          have f134 := Rg.gd e134
          exact wv hb rfl (by simp [execOp, Act.eval, e134, f134, go_sem]) rfl
         refine AllIn.cons ?_ ?_
         ·intro a w hz hb ho hg
          have e135 : a.tmps.getD 135 undef = .pointer (some ⟨g, 0, none⟩) := got_of hg (j := 11) rfl rfl rfl
          have f135 := Rg.gd e135
          exact wv hb rfl (by simp [execOp, Act.eval, e135, f135, go_sem]) rfl
         refine AllIn.cons ?_ ?_
         ·intro a w hz hb ho hg
          have e136 : a.tmps.getD 136 undef = .pointer (some ⟨g, 1, none⟩) := got_of hg (j := 12) rfl rfl rfl
          have f136 := Rg.gd e136
          have q := (hb.cell (p := ⟨g, 1, none⟩) hlg).trans c1
          exact wv hb rfl (by simp [execOp, Act.eval, e136, f136, q, go_sem]) rfl
         refine AllIn.cons ?_ ?_
         ·intro a w hz hb ho hg
          have e133 : a.tmps.getD 133 undef = .string (s.extract q E) := got_of hg (j := 9) rfl rfl rfl
          have e137 : a.tmps.getD 137 undef = .int .i64 (q : Nat) := got_of hg (j := 13) rfl rfl rfl
          have f133 := Rg.gd e133
          have f137 := Rg.gd e137
          exact wv hb rfl (by simp [execOp, Act.eval, e133, e137, f133, f137, go_sem]) rfl
         exact AllIn.nil
        intro a w13 hd hz hb ho hg
        have e124 : a.tmps.getD 124 undef = .pointer (some ⟨g, 0, none⟩) := hg 0 (by decide) _ _ rfl rfl
        have e125 : a.tmps.getD 125 undef = .pointer (some ⟨g, 0, none⟩) := hg 1 (by decide) _ _ rfl rfl
        have e126 : a.tmps.getD 126 undef = .pointer (some ⟨g, 0, none⟩) := hg 2 (by decide) _ _ rfl rfl
        have e127 : a.tmps.getD 127 undef = .string s := hg 3 (by decide) _ _ rfl rfl
        have e128 : a.tmps.getD 128 undef = .pointer (some ⟨g, 0, none⟩) := hg 4 (by decide) _ _ rfl rfl
        have e129 : a.tmps.getD 129 undef = .pointer (some ⟨g, 0, none⟩) := hg 5 (by decide) _ _ rfl rfl
        have e130 : a.tmps.getD 130 undef = .pointer (some ⟨g, 1, none⟩) := hg 6 (by decide) _ _ rfl rfl
        have e131 : a.tmps.getD 131 undef = .int .i64 (q : Nat) := hg 7 (by decide) _ _ rfl rfl
        have e132 : a.tmps.getD 132 undef = .int .i64 (E : Nat) := hg 8 (by decide) _ _ rfl rfl
        have e133 : a.tmps.getD 133 undef = .string (s.extract q E) := hg 9 (by decide) _ _ rfl rfl
        have e134 : a.tmps.getD 134 undef = .pointer (some ⟨g, 0, none⟩) := hg 10 (by decide) _ _ rfl rfl
        have e135 : a.tmps.getD 135 undef = .pointer (some ⟨g, 0, none⟩) := hg 11 (by decide) _ _ rfl rfl
        have e136 : a.tmps.getD 136 undef = .pointer (some ⟨g, 1, none⟩) := hg 12 (by decide) _ _ rfl rfl
        have e137 : a.tmps.getD 137 undef = .int .i64 (q : Nat) := hg 13 (by decide) _ _ rfl rfl
        have e138 : a.tmps.getD 138 undef = .agg #[.int .i64 2, .string (s.extract q E), .int .i64 (q : Nat)] := hg 14 (by decide) _ _ rfl rfl
        have hA := ho.frame hz
        simp only [List.take_succ_cons, List.take_zero, List.filterMap_cons, List.filterMap_nil, List.foldl_cons, List.foldl_nil, e124, e125, e126, e127, e128, e129, e130, e131, e132, e133, e134, e135, e136, e137, e138, List.setIfInBounds_toArray, List.set_cons_zero, List.set_cons_succ] at hA
        obtain ⟨tm, df⟩ := a
        simp only at hd hA
        subst hd
        subst hA
        simp only [List.drop_succ_cons, List.drop_zero]
        have HH13 := Aside.mk hb
        clear hz ho hg hb e124 e125 e126 e127 e128 e129 e130 e131 e132 e133 e134 e135 e136 e137 e138
        clear cb c0 c1 c2 hlb hlg hfz
        have HPK := Aside.mk (HPK.out.below HH13.out)
        obtain ⟨cb, c0, c1, c2, hlb, hlg, hfz⟩ := HPK.out.cells
        obtain ⟨t0, t1, t2, f0, f1, f2⟩ := HPK.out.toks
        go_wp2_with fail
        exact pk_end HPK.out HSZ.out (by omega) HAT.out HTK.out rfl rfl rfl rfl
      ·have hE1 : ¬ (E : Int) + 1 < (s.size : Int) := by omega
       have HTK : Aside (tokAt nl s.data.toList q = ⟨2, q, E⟩) := ⟨by
        rw [HTK0.out]; unfold numEnd; simp only [HE.out]
        rw [if_neg (by rintro ⟨-, h⟩; rw [List.getElem?_eq_none (by rw [hsl.out]; omega)] at h; simp at h)]⟩
       go_wp2_with fail
       refine region_list (T := tab2 [
         Sq.val (.pointer (some ⟨g, 0, none⟩)), Sq.val (.pointer (some ⟨g, 0, none⟩)), Sq.val (.pointer (some ⟨g, 0, none⟩)), Sq.val (.string s), Sq.val (.pointer (some ⟨g, 0, none⟩)), Sq.val (.pointer (some ⟨g, 0, none⟩)), Sq.val (.pointer (some ⟨g, 1, none⟩)), Sq.val (.int .i64 (q : Nat)), Sq.val (.int .i64 (E : Nat)), Sq.val (.string (s.extract q E)), Sq.val (.pointer (some ⟨g, 0, none⟩)), Sq.val (.pointer (some ⟨g, 0, none⟩)), Sq.val (.pointer (some ⟨g, 1, none⟩)), Sq.val (.int .i64 (q : Nat)), Sq.val (.agg #[.int .i64 2, .string (s.extract q E), .int .i64 (q : Nat)])]) 15
        [_, _, _, _, _, _, _, _, _, _, _, _, _, _, _, _] (by kernel_rfl) (by kernel_rfl) (by kernel_rfl) (by kernel_rfl) (by kernel_rfl) (by kernel_rfl) rfl ?_ ?_
       ·refine AllIn.cons ?_ ?_
        ·intro a w hz hb ho hg
         have e1 : a.tmps.getD 1 undef = .pointer (some ⟨gb, 0, none⟩) := ho 1 (by kernel_rfl)
         have f1 := Rg.gd e1
         have q := (hb.cell (p := ⟨gb, 0, none⟩) hlb).trans cb
         exact wv hb rfl (by simp [execOp, Act.eval, e1, f1, q, go_sem]) rfl
        refine AllIn.cons ?_ ?_
        ·intro a w hz hb ho hg
         have e124 : a.tmps.getD 124 undef = .pointer (some ⟨g, 0, none⟩) := got_of hg (j := 0) rfl rfl rfl
         have f124 := Rg.gd e124
         exact wv hb rfl (by simp [execOp, Act.eval, e124, f124, go_sem]) rfl
        refine AllIn.cons ?_ ?_
        ·intro a w hz hb ho hg
         have e125 : a.tmps.getD 125 undef = .pointer (some ⟨g, 0, none⟩) := got_of hg (j := 1) rfl rfl rfl
         have f125 := Rg.gd e125
         exact wv hb rfl (by simp [execOp, Act.eval, e125, f125, go_sem]) rfl
        refine AllIn.cons ?_ ?_
        ·intro a w hz hb ho hg
         have e126 : a.tmps.getD 126 undef = .pointer (some ⟨g, 0, none⟩) := got_of hg (j := 2) rfl rfl rfl
         have f126 := Rg.gd e126
         have q := (hb.cell (p := ⟨g, 0, none⟩) hlg).trans c0
         exact wv hb rfl (by simp [execOp, Act.eval, e126, f126, q, go_sem]) rfl
        refine AllIn.cons ?_ ?_
        ·intro a w hz hb ho hg
         have e1 : a.tmps.getD 1 undef = .pointer (some ⟨gb, 0, none⟩) := ho 1 (by kernel_rfl)
         have f1 := Rg.gd e1
         have q := (hb.cell (p := ⟨gb, 0, none⟩) hlb).trans cb
         exact wv hb rfl (by simp [execOp, Act.eval, e1, f1, q, go_sem]) rfl
        refine AllIn.cons ?_ ?_
        ·intro a w hz hb ho hg
         have e128 : a.tmps.getD 128 undef = .pointer (some ⟨g, 0, none⟩) := got_of hg (j := 4) rfl rfl rfl
         have f128 := Rg.gd e128
         exact wv hb rfl (by simp [execOp, Act.eval, e128, f128, go_sem]) rfl
        refine AllIn.cons ?_ ?_
        ·intro a w hz hb ho hg
         have e129 : a.tmps.getD 129 undef = .pointer (some ⟨g, 0, none⟩) := got_of hg (j := 5) rfl rfl rfl
         have f129 := Rg.gd e129
         exact wv hb rfl (by simp [execOp, Act.eval, e129, f129, go_sem]) rfl
        refine AllIn.cons ?_ ?_
        ·intro a w hz hb ho hg
         have e130 : a.tmps.getD 130 undef = .pointer (some ⟨g, 1, none⟩) := got_of hg (j := 6) rfl rfl rfl
         have f130 := Rg.gd e130
         have q := (hb.cell (p := ⟨g, 1, none⟩) hlg).trans c1
         exact wv hb rfl (by simp [execOp, Act.eval, e130, f130, q, go_sem]) rfl
        refine AllIn.cons ?_ ?_
        ·intro a w hz hb ho hg
         have e5 : a.tmps.getD 5 undef = .int .i64 (E : Nat) := ho 5 (by kernel_rfl)
         have f5 := Rg.gd e5
         exact wv hb rfl (by simp [execOp, Act.eval, e5, f5, go_sem]) rfl
        refine AllIn.cons ?_ ?_
        ·intro a w hz hb ho hg
         have e127 : a.tmps.getD 127 undef = .string s := got_of hg (j := 3) rfl rfl rfl
         have e131 : a.tmps.getD 131 undef = .int .i64 (q : Nat) := got_of hg (j := 7) rfl rfl rfl
         have e132 : a.tmps.getD 132 undef = .int .i64 (E : Nat) := got_of hg (j := 8) rfl rfl rfl
         have f127 := Rg.gd e127
         have f131 := Rg.gd e131
         have f132 := Rg.gd e132
         exact wv hb rfl (by simp [execOp, Act.eval, e127, e131, e132, f127, f131, f132, hsk1, hsk2, hqs, go_sem]) rfl
        refine AllIn.cons ?_ ?_
        ·intro a w hz hb ho hg
         have e1 : a.tmps.getD 1 undef = .pointer (some ⟨gb, 0, none⟩) := ho 1 (by kernel_rfl)
         have f1 := Rg.gd e1
         have q := (hb.cell (p := ⟨gb, 0, none⟩) hlb).trans cb
         exact wv hb rfl (by simp [execOp, Act.eval, e1, f1, q, go_sem]) rfl
        refine AllIn.cons ?_ ?_
        ·intro a w hz hb ho hg
         have e134 : a.tmps.getD 134 undef = .pointer (some ⟨g, 0, none⟩) := got_of hg (j := 10) rfl rfl rfl
         have f134 := Rg.gd e134
         exact wv hb rfl (by simp [execOp, Act.eval, e134, f134, go_sem]) rfl
        refine AllIn.cons ?_ ?_
        ·intro a w hz hb ho hg
         have e135 : a.tmps.getD 135 undef = .pointer (some ⟨g, 0, none⟩) := got_of hg (j := 11) rfl rfl rfl
         have f135 := Rg.gd e135
         exact wv hb rfl (by simp [execOp, Act.eval, e135, f135, go_sem]) rfl
        refine AllIn.cons ?_ ?_
        ·intro a w hz hb ho hg
         have e136 : a.tmps.getD 136 undef = .pointer (some ⟨g, 1, none⟩) := got_of hg (j := 12) rfl rfl rfl
         have f136 := Rg.gd e136
         have q := (hb.cell (p := ⟨g, 1, none⟩) hlg).trans c1
         exact wv hb rfl (by simp [execOp, Act.eval, e136, f136, q, go_sem]) rfl
        refine AllIn.cons ?_ ?_
        ·intro a w hz hb ho hg
         have e133 : a.tmps.getD 133 undef = .string (s.extract q E) := got_of hg (j := 9) rfl rfl rfl
         have e137 : a.tmps.getD 137 undef = .int .i64 (q : Nat) := got_of hg (j := 13) rfl rfl rfl
         have f133 := Rg.gd e133
         have f137 := Rg.gd e137
         exact wv hb rfl (by simp [execOp, Act.eval, e133, e137, f133, f137, go_sem]) rfl
        exact AllIn.nil
       intro a w13 hd hz hb ho hg
       have e124 : a.tmps.getD 124 undef = .pointer (some ⟨g, 0, none⟩) := hg 0 (by decide) _ _ rfl rfl
       have e125 : a.tmps.getD 125 undef = .pointer (some ⟨g, 0, none⟩) := hg 1 (by decide) _ _ rfl rfl
       have e126 : a.tmps.getD 126 undef = .pointer (some ⟨g, 0, none⟩) := hg 2 (by decide) _ _ rfl rfl
       have e127 : a.tmps.getD 127 undef = .string s := hg 3 (by decide) _ _ rfl rfl
       have e128 : a.tmps.getD 128 undef = .pointer (some ⟨g, 0, none⟩) := hg 4 (by decide) _ _ rfl rfl
       have e129 : a.tmps.getD 129 undef = .pointer (some ⟨g, 0, none⟩) := hg 5 (by decide) _ _ rfl rfl
       have e130 : a.tmps.getD 130 undef = .pointer (some ⟨g, 1, none⟩) := hg 6 (by decide) _ _ rfl rfl
       have e131 : a.tmps.getD 131 undef = .int .i64 (q : Nat) := hg 7 (by decide) _ _ rfl rfl
       have e132 : a.tmps.getD 132 undef = .int .i64 (E : Nat) := hg 8 (by decide) _ _ rfl rfl
       have e133 : a.tmps.getD 133 undef = .string (s.extract q E) := hg 9 (by decide) _ _ rfl rfl
       have e134 : a.tmps.getD 134 undef = .pointer (some ⟨g, 0, none⟩) := hg 10 (by decide) _ _ rfl rfl
       have e135 : a.tmps.getD 135 undef = .pointer (some ⟨g, 0, none⟩) := hg 11 (by decide) _ _ rfl rfl
       have e136 : a.tmps.getD 136 undef = .pointer (some ⟨g, 1, none⟩) := hg 12 (by decide) _ _ rfl rfl
       have e137 : a.tmps.getD 137 undef = .int .i64 (q : Nat) := hg 13 (by decide) _ _ rfl rfl
       have e138 : a.tmps.getD 138 undef = .agg #[.int .i64 2, .string (s.extract q E), .int .i64 (q : Nat)] := hg 14 (by decide) _ _ rfl rfl
       have hA := ho.frame hz
       simp only [List.take_succ_cons, List.take_zero, List.filterMap_cons, List.filterMap_nil, List.foldl_cons, List.foldl_nil, e124, e125, e126, e127, e128, e129, e130, e131, e132, e133, e134, e135, e136, e137, e138, List.setIfInBounds_toArray, List.set_cons_zero, List.set_cons_succ] at hA
       obtain ⟨tm, df⟩ := a
       simp only at hd hA
       subst hd
       subst hA
       simp only [List.drop_succ_cons, List.drop_zero]
       have HH13 := Aside.mk hb
       clear hz ho hg hb e124 e125 e126 e127 e128 e129 e130 e131 e132 e133 e134 e135 e136 e137 e138
       clear cb c0 c1 c2 hlb hlg hfz
       have HPK := Aside.mk (HPK.out.below HH13.out)
       obtain ⟨cb, c0, c1, c2, hlb, hlg, hfz⟩ := HPK.out.cells
       obtain ⟨t0, t1, t2, f0, f1, f2⟩ := HPK.out.toks
       go_wp2_with fail
       exact pk_end HPK.out HSZ.out (by omega) HAT.out HTK.out rfl rfl rfl rfl
     | false =>
      have HTK0 : Aside (tokAt nl s.data.toList q = if isCh c || (c == 10 && nl) then ⟨3, q, q + 1⟩ else ⟨4, q, q⟩) := ⟨by unfold tokAt; rw [HC.out]; simp only; rw [if_neg (by rw [hlt]; simp), if_neg (by rw [hdg]; simp)]⟩
      have HTN : Aside (decide (((X : Nat) : Int) = 10) = (c == 10)) := ⟨by rw [← HXX.out, Bool.eq_iff_iff, decide_eq_true_iff, beq_iff_eq]; exact ⟨byte10 c, fun h => by rw [h]; rfl⟩⟩
      go_wp2_with fail
      refine (HIC.out _).mono ?_
      rintro e w10 ⟨R2, rfl, hR2, rfl⟩
      have HR2 := Aside.mk hR2
      clear hR2
      have hqa : (q : Int) ≤ (q : Int) + 1 := by omega
      have hqb : (q : Int) + 1 ≤ (s.size : Int) := by omega
      have hqw : IntKind.i64.wrap ((q : Int) + 1) = (q : Int) + 1 := IntWalk.i64_in _ (by omega)
      by_cases h10 : (0 : Int) ≤ R2
      ·have HTK : Aside (tokAt nl s.data.toList q = ⟨3, q, q + 1⟩) := ⟨by rw [HTK0.out, if_pos (by rw [← HR2.out]; simp [h10])]⟩
       go_wp2_with fail
       refine region_list (T := tab2 [
         Sq.val (.pointer (some ⟨g, 0, none⟩)), Sq.val (.pointer (some ⟨g, 0, none⟩)), Sq.val (.pointer (some ⟨g, 0, none⟩)), Sq.val (.string s), Sq.val (.pointer (some ⟨g, 0, none⟩)), Sq.val (.pointer (some ⟨g, 0, none⟩)), Sq.val (.pointer (some ⟨g, 1, none⟩)), Sq.val (.int .i64 (q : Nat)), Sq.val (.pointer (some ⟨g, 0, none⟩)), Sq.val (.pointer (some ⟨g, 0, none⟩)), Sq.val (.pointer (some ⟨g, 1, none⟩)), Sq.val (.int .i64 (q : Nat)), Sq.val (.int .i64 ((q : Int) + 1)), Sq.val (.string (s.extract q (q + 1))), Sq.val (.pointer (some ⟨g, 0, none⟩)), Sq.val (.pointer (some ⟨g, 0, none⟩)), Sq.val (.pointer (some ⟨g, 1, none⟩)), Sq.val (.int .i64 (q : Nat)), Sq.val (.agg #[.int .i64 3, .string (s.extract q (q + 1)), .int .i64 (q : Nat)])]) 19
        [_, _, _, _, _, _, _, _, _, _, _, _, _, _, _, _, _, _, _, _] (by kernel_rfl) (by kernel_rfl) (by kernel_rfl) (by kernel_rfl) (by kernel_rfl) (by kernel_rfl) rfl ?_ ?_
       ·refine AllIn.cons ?_ ?_
        ·intro a w hz hb ho hg
         have e1 : a.tmps.getD 1 undef = .pointer (some ⟨gb, 0, none⟩) := ho 1 (by kernel_rfl)
         have f1 := Rg.gd e1
         have q := (hb.cell (p := ⟨gb, 0, none⟩) hlb).trans cb
         exact wv hb rfl (by simp [execOp, Act.eval, e1, f1, q, go_sem]) rfl
        refine AllIn.cons ?_ ?_
        ·intro a w hz hb ho hg
         have e153 : a.tmps.getD 153 undef = .pointer (some ⟨g, 0, none⟩) := got_of hg (j := 0) rfl rfl rfl
         have f153 := Rg.gd e153
         exact wv hb rfl (by simp [execOp, Act.eval, e153, f153, go_sem]) rfl
        refine AllIn.cons ?_ ?_
        ·intro a w hz hb ho hg
         have e154 : a.tmps.getD 154 undef = .pointer (some ⟨g, 0, none⟩) := got_of hg (j := 1) rfl rfl rfl
         have f154 := Rg.gd e154
         exact wv hb rfl (by simp [execOp, Act.eval, e154, f154, go_sem]) rfl
        refine AllIn.cons ?_ ?_
        ·intro a w hz hb ho hg
         have e155 : a.tmps.getD 155 undef = .pointer (some ⟨g, 0, none⟩) := got_of hg (j := 2) rfl rfl rfl
         have f155 := Rg.gd e155
         have q := (hb.cell (p := ⟨g, 0, none⟩) hlg).trans c0
         exact wv hb rfl (by simp [execOp, Act.eval, e155, f155, q, go_sem]) rfl
        refine AllIn.cons ?_ ?_
        ·intro a w hz hb ho hg
         have e1 : a.tmps.getD 1 undef = .pointer (some ⟨gb, 0, none⟩) := ho 1 (by kernel_rfl)
         have f1 := Rg.gd e1
         have q := (hb.cell (p := ⟨gb, 0, none⟩) hlb).trans cb
         exact wv hb rfl (by simp [execOp, Act.eval, e1, f1, q, go_sem]) rfl
        refine AllIn.cons ?_ ?_
        ·intro a w hz hb ho hg
         have e157 : a.tmps.getD 157 undef = .pointer (some ⟨g, 0, none⟩) := got_of hg (j := 4) rfl rfl rfl
         have f157 := Rg.gd e157
         exact wv hb rfl (by simp [execOp, Act.eval, e157, f157, go_sem]) rfl
        refine AllIn.cons ?_ ?_
        ·intro a w hz hb ho hg
         have e158 : a.tmps.getD 158 undef = .pointer (some ⟨g, 0, none⟩) := got_of hg (j := 5) rfl rfl rfl
         have f158 := Rg.gd e158
         exact wv hb rfl (by simp [execOp, Act.eval, e158, f158, go_sem]) rfl
        refine AllIn.cons ?_ ?_
        ·intro a w hz hb ho hg
         have e159 : a.tmps.getD 159 undef = .pointer (some ⟨g, 1, none⟩) := got_of hg (j := 6) rfl rfl rfl
         have f159 := Rg.gd e159
         have q := (hb.cell (p := ⟨g, 1, none⟩) hlg).trans c1
         exact wv hb rfl (by simp [execOp, Act.eval, e159, f159, q, go_sem]) rfl
        refine AllIn.cons ?_ ?_
        ·intro a w hz hb ho hg
         have e1 : a.tmps.getD 1 undef = .pointer (some ⟨gb, 0, none⟩) := ho 1 (by kernel_rfl)
         have f1 := Rg.gd e1
         have q := (hb.cell (p := ⟨gb, 0, none⟩) hlb).trans cb
         exact wv hb rfl (by simp [execOp, Act.eval, e1, f1, q, go_sem]) rfl
        refine AllIn.cons ?_ ?_
        ·intro a w hz hb ho hg
         have e161 : a.tmps.getD 161 undef = .pointer (some ⟨g, 0, none⟩) := got_of hg (j := 8) rfl rfl rfl
         have f161 := Rg.gd e161
         exact wv hb rfl (by simp [execOp, Act.eval, e161, f161, go_sem]) rfl
        refine AllIn.cons ?_ ?_
        ·intro a w hz hb ho hg
         have e162 : a.tmps.getD 162 undef = .pointer (some ⟨g, 0, none⟩) := got_of hg (j := 9) rfl rfl rfl
         have f162 := Rg.gd e162
         exact wv hb rfl (by simp [execOp, Act.eval, e162, f162, go_sem]) rfl
        refine AllIn.cons ?_ ?_
        ·intro a w hz hb ho hg
         have e163 : a.tmps.getD 163 undef = .pointer (some ⟨g, 1, none⟩) := got_of hg (j := 10) rfl rfl rfl
         have f163 := Rg.gd e163
         have q := (hb.cell (p := ⟨g, 1, none⟩) hlg).trans c1
         exact wv hb rfl (by simp [execOp, Act.eval, e163, f163, q, go_sem]) rfl
        refine AllIn.cons ?_ ?_
        ·intro a w hz hb ho hg
         have e164 : a.tmps.getD 164 undef = .int .i64 (q : Nat) := got_of hg (j := 11) rfl rfl rfl
         have f164 := Rg.gd e164
         exact wv hb rfl (by simp [execOp, Act.eval, e164, f164, hqw, go_sem]) rfl
        refine AllIn.cons ?_ ?_
        ·intro a w hz hb ho hg
         have e156 : a.tmps.getD 156 undef = .string s := got_of hg (j := 3) rfl rfl rfl
         have e160 : a.tmps.getD 160 undef = .int .i64 (q : Nat) := got_of hg (j := 7) rfl rfl rfl
         have e165 : a.tmps.getD 165 undef = .int .i64 ((q : Int) + 1) := got_of hg (j := 12) rfl rfl rfl
         have f156 := Rg.gd e156
         have f160 := Rg.gd e160
         have f165 := Rg.gd e165
         exact wv hb rfl (by simp [execOp, Act.eval, e156, e160, e165, f156, f160, f165, hqa, hqb, hqs, go_sem]) rfl
        refine AllIn.cons ?_ ?_
        ·intro a w hz hb ho hg
         have e1 : a.tmps.getD 1 undef = .pointer (some ⟨gb, 0, none⟩) := ho 1 (by kernel_rfl)
         have f1 := Rg.gd e1
         have q := (hb.cell (p := ⟨gb, 0, none⟩) hlb).trans cb
         exact wv hb rfl (by simp [execOp, Act.eval, e1, f1, q, go_sem]) rfl
        refine AllIn.cons ?_ ?_
        ·intro a w hz hb ho hg
         have e167 : a.tmps.getD 167 undef = .pointer (some ⟨g, 0, none⟩) := got_of hg (j := 14) rfl rfl rfl
         have f167 := Rg.gd e167
         exact wv hb rfl (by simp [execOp, Act.eval, e167, f167, go_sem]) rfl
        refine AllIn.cons ?_ ?_
        ·intro a w hz hb ho hg
         have e168 : a.tmps.getD 168 undef = .pointer (some ⟨g, 0, none⟩) := got_of hg (j := 15) rfl rfl rfl
         have f168 := Rg.gd e168
         exact wv hb rfl (by simp [execOp, Act.eval, e168, f168, go_sem]) rfl
        refine AllIn.cons ?_ ?_
        ·intro a w hz hb ho hg
         have e169 : a.tmps.getD 169 undef = .pointer (some ⟨g, 1, none⟩) := got_of hg (j := 16) rfl rfl rfl
         have f169 := Rg.gd e169
         have q := (hb.cell (p := ⟨g, 1, none⟩) hlg).trans c1
         exact wv hb rfl (by simp [execOp, Act.eval, e169, f169, q, go_sem]) rfl
        refine AllIn.cons ?_ ?_
        ·intro a w hz hb ho hg
         have e166 : a.tmps.getD 166 undef = .string (s.extract q (q + 1)) := got_of hg (j := 13) rfl rfl rfl
         have e170 : a.tmps.getD 170 undef = .int .i64 (q : Nat) := got_of hg (j := 17) rfl rfl rfl
         have f166 := Rg.gd e166
         have f170 := Rg.gd e170
         exact wv hb rfl (by simp [execOp, Act.eval, e166, e170, f166, f170, go_sem]) rfl
        exact AllIn.nil
       intro a w15 hd hz hb ho hg
       have e153 : a.tmps.getD 153 undef = .pointer (some ⟨g, 0, none⟩) := hg 0 (by decide) _ _ rfl rfl
       have e154 : a.tmps.getD 154 undef = .pointer (some ⟨g, 0, none⟩) := hg 1 (by decide) _ _ rfl rfl
       have e155 : a.tmps.getD 155 undef = .pointer (some ⟨g, 0, none⟩) := hg 2 (by decide) _ _ rfl rfl
       have e156 : a.tmps.getD 156 undef = .string s := hg 3 (by decide) _ _ rfl rfl
       have e157 : a.tmps.getD 157 undef = .pointer (some ⟨g, 0, none⟩) := hg 4 (by decide) _ _ rfl rfl
       have e158 : a.tmps.getD 158 undef = .pointer (some ⟨g, 0, none⟩) := hg 5 (by decide) _ _ rfl rfl
       have e159 : a.tmps.getD 159 undef = .pointer (some ⟨g, 1, none⟩) := hg 6 (by decide) _ _ rfl rfl
       have e160 : a.tmps.getD 160 undef = .int .i64 (q : Nat) := hg 7 (by decide) _ _ rfl rfl
       have e161 : a.tmps.getD 161 undef = .pointer (some ⟨g, 0, none⟩) := hg 8 (by decide) _ _ rfl rfl
       have e162 : a.tmps.getD 162 undef = .pointer (some ⟨g, 0, none⟩) := hg 9 (by decide) _ _ rfl rfl
       have e163 : a.tmps.getD 163 undef = .pointer (some ⟨g, 1, none⟩) := hg 10 (by decide) _ _ rfl rfl
       have e164 : a.tmps.getD 164 undef = .int .i64 (q : Nat) := hg 11 (by decide) _ _ rfl rfl
       have e165 : a.tmps.getD 165 undef = .int .i64 ((q : Int) + 1) := hg 12 (by decide) _ _ rfl rfl
       have e166 : a.tmps.getD 166 undef = .string (s.extract q (q + 1)) := hg 13 (by decide) _ _ rfl rfl
       have e167 : a.tmps.getD 167 undef = .pointer (some ⟨g, 0, none⟩) := hg 14 (by decide) _ _ rfl rfl
       have e168 : a.tmps.getD 168 undef = .pointer (some ⟨g, 0, none⟩) := hg 15 (by decide) _ _ rfl rfl
       have e169 : a.tmps.getD 169 undef = .pointer (some ⟨g, 1, none⟩) := hg 16 (by decide) _ _ rfl rfl
       have e170 : a.tmps.getD 170 undef = .int .i64 (q : Nat) := hg 17 (by decide) _ _ rfl rfl
       have e171 : a.tmps.getD 171 undef = .agg #[.int .i64 3, .string (s.extract q (q + 1)), .int .i64 (q : Nat)] := hg 18 (by decide) _ _ rfl rfl
       have hA := ho.frame hz
       simp only [List.take_succ_cons, List.take_zero, List.filterMap_cons, List.filterMap_nil, List.foldl_cons, List.foldl_nil, e153, e154, e155, e156, e157, e158, e159, e160, e161, e162, e163, e164, e165, e166, e167, e168, e169, e170, e171, List.setIfInBounds_toArray, List.set_cons_zero, List.set_cons_succ] at hA
       obtain ⟨tm, df⟩ := a
       simp only at hd hA
       subst hd
       subst hA
       simp only [List.drop_succ_cons, List.drop_zero]
       have HH15 := Aside.mk hb
       clear hz ho hg hb e153 e154 e155 e156 e157 e158 e159 e160 e161 e162 e163 e164 e165 e166 e167 e168 e169 e170 e171
       clear cb c0 c1 c2 hlb hlg hfz
       have HPK := Aside.mk (HPK.out.below HH15.out)
       obtain ⟨cb, c0, c1, c2, hlb, hlg, hfz⟩ := HPK.out.cells
       obtain ⟨t0, t1, t2, f0, f1, f2⟩ := HPK.out.toks
       go_wp2_with fail
       exact pk_end HPK.out HSZ.out (by omega) HAT.out HTK.out rfl rfl rfl rfl
      ·have HCF : Aside (isCh c = false) := ⟨by rw [← HR2.out]; simp [h10]⟩
       by_cases h11 : (X : Int) = 10
       ·have hX10 : ((X : Int) == 10) = true := by rw [h11]; rfl
        have HX : Aside ((c == 10) = true) := ⟨by rw [← HTN.out]; simp [h11]⟩
        clear h11
        cases nl with
        | true =>
         have HTK : Aside (tokAt true s.data.toList q = ⟨3, q, q + 1⟩) := ⟨by rw [HTK0.out, if_pos (by rw [HX.out]; simp)]⟩
         go_wp2_with fail
         refine region_list (T := tab2 [
           Sq.val (.pointer (some ⟨g, 0, none⟩)), Sq.val (.pointer (some ⟨g, 0, none⟩)), Sq.val (.pointer (some ⟨g, 0, none⟩)), Sq.val (.string s), Sq.val (.pointer (some ⟨g, 0, none⟩)), Sq.val (.pointer (some ⟨g, 0, none⟩)), Sq.val (.pointer (some ⟨g, 1, none⟩)), Sq.val (.int .i64 (q : Nat)), Sq.val (.pointer (some ⟨g, 0, none⟩)), Sq.val (.pointer (some ⟨g, 0, none⟩)), Sq.val (.pointer (some ⟨g, 1, none⟩)), Sq.val (.int .i64 (q : Nat)), Sq.val (.int .i64 ((q : Int) + 1)), Sq.val (.string (s.extract q (q + 1))), Sq.val (.pointer (some ⟨g, 0, none⟩)), Sq.val (.pointer (some ⟨g, 0, none⟩)), Sq.val (.pointer (some ⟨g, 1, none⟩)), Sq.val (.int .i64 (q : Nat)), Sq.val (.agg #[.int .i64 3, .string (s.extract q (q + 1)), .int .i64 (q : Nat)])]) 19
          [_, _, _, _, _, _, _, _, _, _, _, _, _, _, _, _, _, _, _, _] (by kernel_rfl) (by kernel_rfl) (by kernel_rfl) (by kernel_rfl) (by kernel_rfl) (by kernel_rfl) rfl ?_ ?_
         ·refine AllIn.cons ?_ ?_
          ·intro a w hz hb ho hg
           have e1 : a.tmps.getD 1 undef = .pointer (some ⟨gb, 0, none⟩) := ho 1 (by kernel_rfl)
           have f1 := Rg.gd e1
           have q := (hb.cell (p := ⟨gb, 0, none⟩) hlb).trans cb
           exact wv hb rfl (by simp [execOp, Act.eval, e1, f1, q, go_sem]) rfl
          refine AllIn.cons ?_ ?_
          ·intro a w hz hb ho hg
           have e153 : a.tmps.getD 153 undef = .pointer (some ⟨g, 0, none⟩) := got_of hg (j := 0) rfl rfl rfl
           have f153 := Rg.gd e153
           exact wv hb rfl (by simp [execOp, Act.eval, e153, f153, go_sem]) rfl
          refine AllIn.cons ?_ ?_
          ·intro a w hz hb ho hg
           have e154 : a.tmps.getD 154 undef = .pointer (some ⟨g, 0, none⟩) := got_of hg (j := 1) rfl rfl rfl
           have f154 := Rg.gd e154
           exact wv hb rfl (by simp [execOp, Act.eval, e154, f154, go_sem]) rfl
          refine AllIn.cons ?_ ?_
          ·intro a w hz hb ho hg
           have e155 : a.tmps.getD 155 undef = .pointer (some ⟨g, 0, none⟩) := got_of hg (j := 2) rfl rfl rfl
           have f155 := Rg.gd e155
           have q := (hb.cell (p := ⟨g, 0, none⟩) hlg).trans c0
           exact wv hb rfl (by simp [execOp, Act.eval, e155, f155, q, go_sem]) rfl
          refine AllIn.cons ?_ ?_
          ·intro a w hz hb ho hg
           have e1 : a.tmps.getD 1 undef = .pointer (some ⟨gb, 0, none⟩) := ho 1 (by kernel_rfl)
           have f1 := Rg.gd e1
           have q := (hb.cell (p := ⟨gb, 0, none⟩) hlb).trans cb
           exact wv hb rfl (by simp [execOp, Act.eval, e1, f1, q, go_sem]) rfl
          refine AllIn.cons ?_ ?_
          ·intro a w hz hb ho hg
           have e157 : a.tmps.getD 157 undef = .pointer (some ⟨g, 0, none⟩) := got_of hg (j := 4) rfl rfl rfl
           have f157 := Rg.gd e157
           exact wv hb rfl (by simp [execOp, Act.eval, e157, f157, go_sem]) rfl
          refine AllIn.cons ?_ ?_
          ·intro a w hz hb ho hg
           have e158 : a.tmps.getD 158 undef = .pointer (some ⟨g, 0, none⟩) := got_of hg (j := 5) rfl rfl rfl
           have f158 := Rg.gd e158
           exact wv hb rfl (by simp [execOp, Act.eval, e158, f158, go_sem]) rfl
          refine AllIn.cons ?_ ?_
          ·intro a w hz hb ho hg
           have e159 : a.tmps.getD 159 undef = .pointer (some ⟨g, 1, none⟩) := got_of hg (j := 6) rfl rfl rfl
           have f159 := Rg.gd e159
           have q := (hb.cell (p := ⟨g, 1, none⟩) hlg).trans c1
           exact wv hb rfl (by simp [execOp, Act.eval, e159, f159, q, go_sem]) rfl
          refine AllIn.cons ?_ ?_
          ·intro a w hz hb ho hg
           have e1 : a.tmps.getD 1 undef = .pointer (some ⟨gb, 0, none⟩) := ho 1 (by kernel_rfl)
           have f1 := Rg.gd e1
           have q := (hb.cell (p := ⟨gb, 0, none⟩) hlb).trans cb
           exact wv hb rfl (by simp [execOp, Act.eval, e1, f1, q, go_sem]) rfl
          refine AllIn.cons ?_ ?_
          ·intro a w hz hb ho hg
           have e161 : a.tmps.getD 161 undef = .pointer (some ⟨g, 0, none⟩) := got_of hg (j := 8) rfl rfl rfl
           have f161 := Rg.gd e161
           exact wv hb rfl (by simp [execOp, Act.eval, e161, f161, go_sem]) rfl
          refine AllIn.cons ?_ ?_
          ·intro a w hz hb ho hg
           have e162 : a.tmps.getD 162 undef = .pointer (some ⟨g, 0, none⟩) := got_of hg (j := 9) rfl rfl rfl
           have f162 := Rg.gd e162
           exact wv hb rfl (by simp [execOp, Act.eval, e162, f162, go_sem]) rfl
          refine AllIn.cons ?_ ?_
          ·intro a w hz hb ho hg
           have e163 : a.tmps.getD 163 undef = .pointer (some ⟨g, 1, none⟩) := got_of hg (j := 10) rfl rfl rfl
           have f163 := Rg.gd e163
           have q := (hb.cell (p := ⟨g, 1, none⟩) hlg).trans c1
           exact wv hb rfl (by simp [execOp, Act.eval, e163, f163, q, go_sem]) rfl
          refine AllIn.cons ?_ ?_
          ·intro a w hz hb ho hg
           have e164 : a.tmps.getD 164 undef = .int .i64 (q : Nat) := got_of hg (j := 11) rfl rfl rfl
           have f164 := Rg.gd e164
           exact wv hb rfl (by simp [execOp, Act.eval, e164, f164, hqw, go_sem]) rfl
          refine AllIn.cons ?_ ?_
          ·intro a w hz hb ho hg
           have e156 : a.tmps.getD 156 undef = .string s := got_of hg (j := 3) rfl rfl rfl
           have e160 : a.tmps.getD 160 undef = .int .i64 (q : Nat) := got_of hg (j := 7) rfl rfl rfl
           have e165 : a.tmps.getD 165 undef = .int .i64 ((q : Int) + 1) := got_of hg (j := 12) rfl rfl rfl
           have f156 := Rg.gd e156
           have f160 := Rg.gd e160
           have f165 := Rg.gd e165
           exact wv hb rfl (by simp [execOp, Act.eval, e156, e160, e165, f156, f160, f165, hqa, hqb, hqs, go_sem]) rfl
          refine AllIn.cons ?_ ?_
          ·intro a w hz hb ho hg
           have e1 : a.tmps.getD 1 undef = .pointer (some ⟨gb, 0, none⟩) := ho 1 (by kernel_rfl)
           have f1 := Rg.gd e1
           have q := (hb.cell (p := ⟨gb, 0, none⟩) hlb).trans cb
           exact wv hb rfl (by simp [execOp, Act.eval, e1, f1, q, go_sem]) rfl
          refine AllIn.cons ?_ ?_
          ·intro a w hz hb ho hg
           have e167 : a.tmps.getD 167 undef = .pointer (some ⟨g, 0, none⟩) := got_of hg (j := 14) rfl rfl rfl
           have f167 := Rg.gd e167
           exact wv hb rfl (by simp [execOp, Act.eval, e167, f167, go_sem]) rfl
          refine AllIn.cons ?_ ?_
          ·intro a w hz hb ho hg
           have e168 : a.tmps.getD 168 undef = .pointer (some ⟨g, 0, none⟩) := got_of hg (j := 15) rfl rfl rfl
           have f168 := Rg.gd e168
           exact wv hb rfl (by simp [execOp, Act.eval, e168, f168, go_sem]) rfl
          refine AllIn.cons ?_ ?_
          ·intro a w hz hb ho hg
           have e169 : a.tmps.getD 169 undef = .pointer (some ⟨g, 1, none⟩) := got_of hg (j := 16) rfl rfl rfl
           have f169 := Rg.gd e169
           have q := (hb.cell (p := ⟨g, 1, none⟩) hlg).trans c1
           exact wv hb rfl (by simp [execOp, Act.eval, e169, f169, q, go_sem]) rfl
          refine AllIn.cons ?_ ?_
          ·intro a w hz hb ho hg
           have e166 : a.tmps.getD 166 undef = .string (s.extract q (q + 1)) := got_of hg (j := 13) rfl rfl rfl
           have e170 : a.tmps.getD 170 undef = .int .i64 (q : Nat) := got_of hg (j := 17) rfl rfl rfl
           have f166 := Rg.gd e166
           have f170 := Rg.gd e170
           exact wv hb rfl (by simp [execOp, Act.eval, e166, e170, f166, f170, go_sem]) rfl
          exact AllIn.nil
         intro a w15 hd hz hb ho hg
         have e153 : a.tmps.getD 153 undef = .pointer (some ⟨g, 0, none⟩) := hg 0 (by decide) _ _ rfl rfl
         have e154 : a.tmps.getD 154 undef = .pointer (some ⟨g, 0, none⟩) := hg 1 (by decide) _ _ rfl rfl
         have e155 : a.tmps.getD 155 undef = .pointer (some ⟨g, 0, none⟩) := hg 2 (by decide) _ _ rfl rfl
         have e156 : a.tmps.getD 156 undef = .string s := hg 3 (by decide) _ _ rfl rfl
         have e157 : a.tmps.getD 157 undef = .pointer (some ⟨g, 0, none⟩) := hg 4 (by decide) _ _ rfl rfl
         have e158 : a.tmps.getD 158 undef = .pointer (some ⟨g, 0, none⟩) := hg 5 (by decide) _ _ rfl rfl
         have e159 : a.tmps.getD 159 undef = .pointer (some ⟨g, 1, none⟩) := hg 6 (by decide) _ _ rfl rfl
         have e160 : a.tmps.getD 160 undef = .int .i64 (q : Nat) := hg 7 (by decide) _ _ rfl rfl
         have e161 : a.tmps.getD 161 undef = .pointer (some ⟨g, 0, none⟩) := hg 8 (by decide) _ _ rfl rfl
         have e162 : a.tmps.getD 162 undef = .pointer (some ⟨g, 0, none⟩) := hg 9 (by decide) _ _ rfl rfl
         have e163 : a.tmps.getD 163 undef = .pointer (some ⟨g, 1, none⟩) := hg 10 (by decide) _ _ rfl rfl
         have e164 : a.tmps.getD 164 undef = .int .i64 (q : Nat) := hg 11 (by decide) _ _ rfl rfl
         have e165 : a.tmps.getD 165 undef = .int .i64 ((q : Int) + 1) := hg 12 (by decide) _ _ rfl rfl
         have e166 : a.tmps.getD 166 undef = .string (s.extract q (q + 1)) := hg 13 (by decide) _ _ rfl rfl
         have e167 : a.tmps.getD 167 undef = .pointer (some ⟨g, 0, none⟩) := hg 14 (by decide) _ _ rfl rfl
         have e168 : a.tmps.getD 168 undef = .pointer (some ⟨g, 0, none⟩) := hg 15 (by decide) _ _ rfl rfl
         have e169 : a.tmps.getD 169 undef = .pointer (some ⟨g, 1, none⟩) := hg 16 (by decide) _ _ rfl rfl
         have e170 : a.tmps.getD 170 undef = .int .i64 (q : Nat) := hg 17 (by decide) _ _ rfl rfl
         have e171 : a.tmps.getD 171 undef = .agg #[.int .i64 3, .string (s.extract q (q + 1)), .int .i64 (q : Nat)] := hg 18 (by decide) _ _ rfl rfl
         have hA := ho.frame hz
         simp only [List.take_succ_cons, List.take_zero, List.filterMap_cons, List.filterMap_nil, List.foldl_cons, List.foldl_nil, e153, e154, e155, e156, e157, e158, e159, e160, e161, e162, e163, e164, e165, e166, e167, e168, e169, e170, e171, List.setIfInBounds_toArray, List.set_cons_zero, List.set_cons_succ] at hA
         obtain ⟨tm, df⟩ := a
         simp only at hd hA
         subst hd
         subst hA
         simp only [List.drop_succ_cons, List.drop_zero]
         have HH15 := Aside.mk hb
         clear hz ho hg hb e153 e154 e155 e156 e157 e158 e159 e160 e161 e162 e163 e164 e165 e166 e167 e168 e169 e170 e171
         clear cb c0 c1 c2 hlb hlg hfz
         have HPK := Aside.mk (HPK.out.below HH15.out)
         obtain ⟨cb, c0, c1, c2, hlb, hlg, hfz⟩ := HPK.out.cells
         obtain ⟨t0, t1, t2, f0, f1, f2⟩ := HPK.out.toks
         go_wp2_with fail
         exact pk_end HPK.out HSZ.out (by omega) HAT.out HTK.out rfl rfl rfl rfl
        | false =>
         have HTK : Aside (tokAt false s.data.toList q = ⟨4, q, q⟩) := ⟨by rw [HTK0.out, if_neg (by rw [HCF.out]; simp)]⟩
         obtain ⟨t0, t1, t2, f0, f1, f2⟩ := HPK.out.toks
         go_wp2_with fail
         exact pk_end HPK.out HSZ.out (by omega) HAT.out HTK.out rfl rfl rfl rfl
       ·have hX10 : ((X : Int) == 10) = false := by rw [beq_eq_false_iff_ne]; exact h11
        have HTK : Aside (tokAt nl s.data.toList q = ⟨4, q, q⟩) := ⟨by rw [HTK0.out, if_neg (by rw [HCF.out, ← HTN.out]; simp [h11])]⟩
        clear h11
        obtain ⟨t0, t1, t2, f0, f1, f2⟩ := HPK.out.toks
        go_wp2_with fail
        exact pk_end HPK.out HSZ.out (by omega) HAT.out HTK.out rfl rfl rfl rfl
  ·have hnq : ¬ (q : Int) < (s.size : Int) := by omega
   have hqe : q = s.size := by have := HQ.out; omega
   have HQE := Aside.mk hqe
   have hqle : s.size ≤ q := by omega
   have HNO : Aside (s.data.toList[q]? = none) := ⟨List.getElem?_eq_none (by rw [hsl.out]; omega)⟩
   have HST : Aside (skp isWs s.data.toList σ.pos = q) := ⟨by rw [← HS.out]; exact skp_end isWs _ q (by rw [hsl.out]; omega)⟩
   have HAT : Aside (peekT nl s.data.toList σ.pos = tokAt nl s.data.toList q) := ⟨by unfold peekT; rw [HST.out]⟩
   have HTK : Aside (tokAt nl s.data.toList q = ⟨0, q, q⟩) := ⟨by unfold tokAt; rw [HNO.out]⟩
   have hmf : ∀ (fn : Fn) (first cap : Array Value) (w : World), (Instr.makeFunc fn first cap).run Tryz.prog w = .ok (.func fn first cap) w := fun _ _ _ _ => rfl
   have hqeq : ((q : Int) == (s.size : Int)) = true := by rw [hqe]; simp
   clear hqe HS
   go_wp2_with fail
   refine region_list (T := tab2 [
     Sq.val (.pointer (some ⟨g, 0, none⟩)), Sq.val (.pointer (some ⟨g, 0, none⟩)), Sq.val (.pointer (some ⟨g, 1, none⟩)), Sq.val (.int .i64 (q : Nat)), Sq.val (.pointer (some ⟨g, 0, none⟩)), Sq.val (.pointer (some ⟨g, 0, none⟩)), Sq.val (.pointer (some ⟨g, 0, none⟩)), Sq.val (.string s), Sq.val (.int .i64 (s.size : Nat)), Sq.val (.bool false), Sq.val (.bool false), Sq.val (undef), Sq.val (undef), Sq.val (undef), Sq.val (undef), Sq.val (undef), Sq.val (undef), Sq.val (undef), Sq.val (undef), Sq.val (undef), Sq.val (undef), Sq.val (undef)]) 22
    [_, _, _, _, _, _, _, _, _, _, _, _, _, _, _, _, _, _, _, _, _, _, _] (by kernel_rfl) (by kernel_rfl) (by kernel_rfl) (by kernel_rfl) (by kernel_rfl) (by kernel_rfl) rfl ?_ ?_
   ·refine AllIn.cons ?_ ?_
    ·intro a w hz hb ho hg
     have e1 : a.tmps.getD 1 undef = .pointer (some ⟨gb, 0, none⟩) := ho 1 (by kernel_rfl)
     have f1 := Rg.gd e1
     have q := (hb.cell (p := ⟨gb, 0, none⟩) hlb).trans cb
     exact wv hb rfl (by simp [execOp, Act.eval, e1, f1, q, go_sem]) rfl
    refine AllIn.cons ?_ ?_
    ·intro a w hz hb ho hg
     have e6 : a.tmps.getD 6 undef = .pointer (some ⟨g, 0, none⟩) := got_of hg (j := 0) rfl rfl rfl
     have f6 := Rg.gd e6
     exact wv hb rfl (by simp [execOp, Act.eval, e6, f6, go_sem]) rfl
    refine AllIn.cons ?_ ?_
    ·intro a w hz hb ho hg
     have e7 : a.tmps.getD 7 undef = .pointer (some ⟨g, 0, none⟩) := got_of hg (j := 1) rfl rfl rfl
     have f7 := Rg.gd e7
     exact wv hb rfl (by simp [execOp, Act.eval, e7, f7, go_sem]) rfl
    refine AllIn.cons ?_ ?_
    ·intro a w hz hb ho hg
     have e8 : a.tmps.getD 8 undef = .pointer (some ⟨g, 1, none⟩) := got_of hg (j := 2) rfl rfl rfl
     have f8 := Rg.gd e8
     have q := (hb.cell (p := ⟨g, 1, none⟩) hlg).trans c1
     exact wv hb rfl (by simp [execOp, Act.eval, e8, f8, q, go_sem]) rfl
    refine AllIn.cons ?_ ?_
    ·intro a w hz hb ho hg
     have e1 : a.tmps.getD 1 undef = .pointer (some ⟨gb, 0, none⟩) := ho 1 (by kernel_rfl)
     have f1 := Rg.gd e1
     have q := (hb.cell (p := ⟨gb, 0, none⟩) hlb).trans cb
     exact wv hb rfl (by simp [execOp, Act.eval, e1, f1, q, go_sem]) rfl
    refine AllIn.cons ?_ ?_
    ·intro a w hz hb ho hg
     have e10 : a.tmps.getD 10 undef = .pointer (some ⟨g, 0, none⟩) := got_of hg (j := 4) rfl rfl rfl
     have f10 := Rg.gd e10
     exact wv hb rfl (by simp [execOp, Act.eval, e10, f10, go_sem]) rfl
    refine AllIn.cons ?_ ?_
    ·intro a w hz hb ho hg
     have e11 : a.tmps.getD 11 undef = .pointer (some ⟨g, 0, none⟩) := got_of hg (j := 5) rfl rfl rfl
     have f11 := Rg.gd e11
     exact wv hb rfl (by simp [execOp, Act.eval, e11, f11, go_sem]) rfl
    refine AllIn.cons ?_ ?_
    ·intro a w hz hb ho hg
     have e12 : a.tmps.getD 12 undef = .pointer (some ⟨g, 0, none⟩) := got_of hg (j := 6) rfl rfl rfl
     have f12 := Rg.gd e12
     have q := (hb.cell (p := ⟨g, 0, none⟩) hlg).trans c0
     exact wv hb rfl (by simp [execOp, Act.eval, e12, f12, q, go_sem]) rfl
    refine AllIn.cons ?_ ?_
    ·intro a w hz hb ho hg
     have e13 : a.tmps.getD 13 undef = .string s := got_of hg (j := 7) rfl rfl rfl
     have f13 := Rg.gd e13
     exact wv hb rfl (by simp [execOp, Act.eval, e13, f13, go_sem]) rfl
    refine AllIn.cons ?_ ?_
    ·intro a w hz hb ho hg
     have e9 : a.tmps.getD 9 undef = .int .i64 (q : Nat) := got_of hg (j := 3) rfl rfl rfl
     have e14 : a.tmps.getD 14 undef = .int .i64 (s.size : Nat) := got_of hg (j := 8) rfl rfl rfl
     have f9 := Rg.gd e9
     have f14 := Rg.gd e14
     exact wv hb rfl (by simp [execOp, Act.eval, e9, e14, f9, f14, hnq, hqle, go_sem]) rfl
    refine AllIn.cons ?_ ?_
    ·intro a w hz hb ho hg
     have e15 : a.tmps.getD 15 undef = .bool false := got_of hg (j := 9) rfl rfl rfl
     have f15 := Rg.gd e15
     exact wv hb rfl (by simp [execOp, Act.eval, e15, f15, go_sem]) rfl
    refine AllIn.cons ?_ ?_
    ·intro a w hz hb ho hg
     have e1 : a.tmps.getD 1 undef = .pointer (some ⟨gb, 0, none⟩) := ho 1 (by kernel_rfl)
     have f1 := Rg.gd e1
     exact Or.inr ⟨by rw [wanted_of (j := 10) rfl rfl rfl (show a.tmps.getD 16 undef = .bool false from got_of hg (j := 10) rfl rfl rfl)]; rfl, rfl⟩
    refine AllIn.cons ?_ ?_
    ·intro a w hz hb ho hg
     have e17 : a.tmps.getD 17 undef = undef := got_of hg (j := 11) rfl rfl rfl
     have f17 := Rg.gd e17
     exact Or.inr ⟨by rw [wanted_of (j := 10) rfl rfl rfl (show a.tmps.getD 16 undef = .bool false from got_of hg (j := 10) rfl rfl rfl)]; rfl, rfl⟩
    refine AllIn.cons ?_ ?_
    ·intro a w hz hb ho hg
     have e18 : a.tmps.getD 18 undef = undef := got_of hg (j := 12) rfl rfl rfl
     have f18 := Rg.gd e18
     exact Or.inr ⟨by rw [wanted_of (j := 10) rfl rfl rfl (show a.tmps.getD 16 undef = .bool false from got_of hg (j := 10) rfl rfl rfl)]; rfl, rfl⟩
    refine AllIn.cons ?_ ?_
    ·intro a w hz hb ho hg
     have e19 : a.tmps.getD 19 undef = undef := got_of hg (j := 13) rfl rfl rfl
     have f19 := Rg.gd e19
     exact Or.inr ⟨by rw [wanted_of (j := 10) rfl rfl rfl (show a.tmps.getD 16 undef = .bool false from got_of hg (j := 10) rfl rfl rfl)]; rfl, rfl⟩
    refine AllIn.cons ?_ ?_
    ·intro a w hz hb ho hg
     have e1 : a.tmps.getD 1 undef = .pointer (some ⟨gb, 0, none⟩) := ho 1 (by kernel_rfl)
     have f1 := Rg.gd e1
     exact Or.inr ⟨by rw [wanted_of (j := 10) rfl rfl rfl (show a.tmps.getD 16 undef = .bool false from got_of hg (j := 10) rfl rfl rfl)]; rfl, rfl⟩
    refine AllIn.cons ?_ ?_
    ·intro a w hz hb ho hg
     have e21 : a.tmps.getD 21 undef = undef := got_of hg (j := 15) rfl rfl rfl
     have f21 := Rg.gd e21
     exact Or.inr ⟨by rw [wanted_of (j := 10) rfl rfl rfl (show a.tmps.getD 16 undef = .bool false from got_of hg (j := 10) rfl rfl rfl)]; rfl, rfl⟩
    refine AllIn.cons ?_ ?_
    ·intro a w hz hb ho hg
     have e22 : a.tmps.getD 22 undef = undef := got_of hg (j := 16) rfl rfl rfl
     have f22 := Rg.gd e22
     exact Or.inr ⟨by rw [wanted_of (j := 10) rfl rfl rfl (show a.tmps.getD 16 undef = .bool false from got_of hg (j := 10) rfl rfl rfl)]; rfl, rfl⟩
    refine AllIn.cons ?_ ?_
    ·intro a w hz hb ho hg
     have e23 : a.tmps.getD 23 undef = undef := got_of hg (j := 17) rfl rfl rfl
     have f23 := Rg.gd e23
     exact Or.inr ⟨by rw [wanted_of (j := 10) rfl rfl rfl (show a.tmps.getD 16 undef = .bool false from got_of hg (j := 10) rfl rfl rfl)]; rfl, rfl⟩
    refine AllIn.cons ?_ ?_
    ·intro a w hz hb ho hg
     have e20 : a.tmps.getD 20 undef = undef := got_of hg (j := 14) rfl rfl rfl
     have e24 : a.tmps.getD 24 undef = undef := got_of hg (j := 18) rfl rfl rfl
     have f20 := Rg.gd e20
     have f24 := Rg.gd e24
     exact Or.inr ⟨by rw [wanted_of (j := 10) rfl rfl rfl (show a.tmps.getD 16 undef = .bool false from got_of hg (j := 10) rfl rfl rfl)]; rfl, rfl⟩
    refine AllIn.cons ?_ ?_
    ·intro a w hz hb ho hg
     have e25 : a.tmps.getD 25 undef = undef := got_of hg (j := 19) rfl rfl rfl
     have f25 := Rg.gd e25
     exact Or.inr ⟨by rw [wanted_of (j := 10) rfl rfl rfl (show a.tmps.getD 16 undef = .bool false from got_of hg (j := 10) rfl rfl rfl)]; rfl, rfl⟩
    refine AllIn.cons ?_ ?_
    ·intro a w hz hb ho hg
     have e26 : a.tmps.getD 26 undef = undef := got_of hg (j := 20) rfl rfl rfl
     have f26 := Rg.gd e26
     exact Or.inr ⟨by rw [wanted_of (j := 10) rfl rfl rfl (show a.tmps.getD 16 undef = .bool false from got_of hg (j := 10) rfl rfl rfl)]; rfl, rfl⟩
    exact AllIn.nil
   intro a w1 hd hz hb ho hg
   have e6 : a.tmps.getD 6 undef = .pointer (some ⟨g, 0, none⟩) := hg 0 (by decide) _ _ rfl rfl
   have e7 : a.tmps.getD 7 undef = .pointer (some ⟨g, 0, none⟩) := hg 1 (by decide) _ _ rfl rfl
   have e8 : a.tmps.getD 8 undef = .pointer (some ⟨g, 1, none⟩) := hg 2 (by decide) _ _ rfl rfl
   have e9 : a.tmps.getD 9 undef = .int .i64 (q : Nat) := hg 3 (by decide) _ _ rfl rfl
   have e10 : a.tmps.getD 10 undef = .pointer (some ⟨g, 0, none⟩) := hg 4 (by decide) _ _ rfl rfl
   have e11 : a.tmps.getD 11 undef = .pointer (some ⟨g, 0, none⟩) := hg 5 (by decide) _ _ rfl rfl
   have e12 : a.tmps.getD 12 undef = .pointer (some ⟨g, 0, none⟩) := hg 6 (by decide) _ _ rfl rfl
   have e13 : a.tmps.getD 13 undef = .string s := hg 7 (by decide) _ _ rfl rfl
   have e14 : a.tmps.getD 14 undef = .int .i64 (s.size : Nat) := hg 8 (by decide) _ _ rfl rfl
   have e15 : a.tmps.getD 15 undef = .bool false := hg 9 (by decide) _ _ rfl rfl
   have e16 : a.tmps.getD 16 undef = .bool false := hg 10 (by decide) _ _ rfl rfl
   have e17 : a.tmps.getD 17 undef = undef := hg 11 (by decide) _ _ rfl rfl
   have e18 : a.tmps.getD 18 undef = undef := hg 12 (by decide) _ _ rfl rfl
   have e19 : a.tmps.getD 19 undef = undef := hg 13 (by decide) _ _ rfl rfl
   have e20 : a.tmps.getD 20 undef = undef := hg 14 (by decide) _ _ rfl rfl
   have e21 : a.tmps.getD 21 undef = undef := hg 15 (by decide) _ _ rfl rfl
   have e22 : a.tmps.getD 22 undef = undef := hg 16 (by decide) _ _ rfl rfl
   have e23 : a.tmps.getD 23 undef = undef := hg 17 (by decide) _ _ rfl rfl
   have e24 : a.tmps.getD 24 undef = undef := hg 18 (by decide) _ _ rfl rfl
   have e25 : a.tmps.getD 25 undef = undef := hg 19 (by decide) _ _ rfl rfl
   have e26 : a.tmps.getD 26 undef = undef := hg 20 (by decide) _ _ rfl rfl
   have e27 : a.tmps.getD 27 undef = undef := hg 21 (by decide) _ _ rfl rfl
   have hA := ho.frame hz
   simp only [List.take_succ_cons, List.take_zero, List.filterMap_cons, List.filterMap_nil, List.foldl_cons, List.foldl_nil, e6, e7, e8, e9, e10, e11, e12, e13, e14, e15, e16, e17, e18, e19, e20, e21, e22, e23, e24, e25, e26, e27, List.setIfInBounds_toArray, List.set_cons_zero, List.set_cons_succ] at hA
   obtain ⟨tm, df⟩ := a
   simp only at hd hA
   subst hd
   subst hA
   simp only [List.drop_succ_cons, List.drop_zero]
   have HH1 := Aside.mk hb
   clear hz ho hg hb e6 e7 e8 e9 e10 e11 e12 e13 e14 e15 e16 e17 e18 e19 e20 e21 e22 e23 e24 e25 e26 e27
   clear cb c0 c1 c2 hlb hlg hfz
   have HPK := Aside.mk (HPK.out.below HH1.out)
   obtain ⟨cb, c0, c1, c2, hlb, hlg, hfz⟩ := HPK.out.cells
   go_wp2_with fail
   refine region_list (T := tab2 [
     Sq.val (.pointer (some ⟨g, 0, none⟩)), Sq.val (.pointer (some ⟨g, 0, none⟩)), Sq.val (.pointer (some ⟨g, 1, none⟩)), Sq.val (.int .i64 (q : Nat)), Sq.val (.pointer (some ⟨g, 0, none⟩)), Sq.val (.pointer (some ⟨g, 0, none⟩)), Sq.val (.pointer (some ⟨g, 0, none⟩)), Sq.val (.string s), Sq.val (.int .i64 (s.size : Nat))]) 9
    [_, _, _, _, _, _, _, _, _, _] (by kernel_rfl) (by kernel_rfl) (by kernel_rfl) (by kernel_rfl) (by kernel_rfl) (by kernel_rfl) rfl ?_ ?_
   ·refine AllIn.cons ?_ ?_
    ·intro a w hz hb ho hg
     have e1 : a.tmps.getD 1 undef = .pointer (some ⟨gb, 0, none⟩) := ho 1 (by kernel_rfl)
     have f1 := Rg.gd e1
     have q := (hb.cell (p := ⟨gb, 0, none⟩) hlb).trans cb
     exact wv hb rfl (by simp [execOp, Act.eval, e1, f1, q, go_sem]) rfl
    refine AllIn.cons ?_ ?_
    ·intro a w hz hb ho hg
     have e36 : a.tmps.getD 36 undef = .pointer (some ⟨g, 0, none⟩) := got_of hg (j := 0) rfl rfl rfl
     have f36 := Rg.gd e36
     exact wv hb rfl (by simp [execOp, Act.eval, e36, f36, go_sem]) rfl
    refine AllIn.cons ?_ ?_
    ·intro a w hz hb ho hg
     have e37 : a.tmps.getD 37 undef = .pointer (some ⟨g, 0, none⟩) := got_of hg (j := 1) rfl rfl rfl
     have f37 := Rg.gd e37
     exact wv hb rfl (by simp [execOp, Act.eval, e37, f37, go_sem]) rfl
    refine AllIn.cons ?_ ?_
    ·intro a w hz hb ho hg
     have e38 : a.tmps.getD 38 undef = .pointer (some ⟨g, 1, none⟩) := got_of hg (j := 2) rfl rfl rfl
     have f38 := Rg.gd e38
     have q := (hb.cell (p := ⟨g, 1, none⟩) hlg).trans c1
     exact wv hb rfl (by simp [execOp, Act.eval, e38, f38, q, go_sem]) rfl
    refine AllIn.cons ?_ ?_
    ·intro a w hz hb ho hg
     have e1 : a.tmps.getD 1 undef = .pointer (some ⟨gb, 0, none⟩) := ho 1 (by kernel_rfl)
     have f1 := Rg.gd e1
     have q := (hb.cell (p := ⟨gb, 0, none⟩) hlb).trans cb
     exact wv hb rfl (by simp [execOp, Act.eval, e1, f1, q, go_sem]) rfl
    refine AllIn.cons ?_ ?_
    ·intro a w hz hb ho hg
     have e40 : a.tmps.getD 40 undef = .pointer (some ⟨g, 0, none⟩) := got_of hg (j := 4) rfl rfl rfl
     have f40 := Rg.gd e40
     exact wv hb rfl (by simp [execOp, Act.eval, e40, f40, go_sem]) rfl
    refine AllIn.cons ?_ ?_
    ·intro a w hz hb ho hg
     have e41 : a.tmps.getD 41 undef = .pointer (some ⟨g, 0, none⟩) := got_of hg (j := 5) rfl rfl rfl
     have f41 := Rg.gd e41
     exact wv hb rfl (by simp [execOp, Act.eval, e41, f41, go_sem]) rfl
    refine AllIn.cons ?_ ?_
    ·intro a w hz hb ho hg
     have e42 : a.tmps.getD 42 undef = .pointer (some ⟨g, 0, none⟩) := got_of hg (j := 6) rfl rfl rfl
     have f42 := Rg.gd e42
     have q := (hb.cell (p := ⟨g, 0, none⟩) hlg).trans c0
     exact wv hb rfl (by simp [execOp, Act.eval, e42, f42, q, go_sem]) rfl
    refine AllIn.cons ?_ ?_
    ·intro a w hz hb ho hg
     have e43 : a.tmps.getD 43 undef = .string s := got_of hg (j := 7) rfl rfl rfl
     have f43 := Rg.gd e43
     exact wv hb rfl (by simp [execOp, Act.eval, e43, f43, go_sem]) rfl
    exact AllIn.nil
   intro a w3 hd hz hb ho hg
   have e36 : a.tmps.getD 36 undef = .pointer (some ⟨g, 0, none⟩) := hg 0 (by decide) _ _ rfl rfl
   have e37 : a.tmps.getD 37 undef = .pointer (some ⟨g, 0, none⟩) := hg 1 (by decide) _ _ rfl rfl
   have e38 : a.tmps.getD 38 undef = .pointer (some ⟨g, 1, none⟩) := hg 2 (by decide) _ _ rfl rfl
   have e39 : a.tmps.getD 39 undef = .int .i64 (q : Nat) := hg 3 (by decide) _ _ rfl rfl
   have e40 : a.tmps.getD 40 undef = .pointer (some ⟨g, 0, none⟩) := hg 4 (by decide) _ _ rfl rfl
   have e41 : a.tmps.getD 41 undef = .pointer (some ⟨g, 0, none⟩) := hg 5 (by decide) _ _ rfl rfl
   have e42 : a.tmps.getD 42 undef = .pointer (some ⟨g, 0, none⟩) := hg 6 (by decide) _ _ rfl rfl
   have e43 : a.tmps.getD 43 undef = .string s := hg 7 (by decide) _ _ rfl rfl
   have e44 : a.tmps.getD 44 undef = .int .i64 (s.size : Nat) := hg 8 (by decide) _ _ rfl rfl
   have hA := ho.frame hz
   simp only [List.take_succ_cons, List.take_zero, List.filterMap_cons, List.filterMap_nil, List.foldl_cons, List.foldl_nil, e36, e37, e38, e39, e40, e41, e42, e43, e44, List.setIfInBounds_toArray, List.set_cons_zero, List.set_cons_succ] at hA
   obtain ⟨tm, df⟩ := a
   simp only at hd hA
   subst hd
   subst hA
   simp only [List.drop_succ_cons, List.drop_zero]
   have HH3 := Aside.mk hb
   clear hz ho hg hb e36 e37 e38 e39 e40 e41 e42 e43 e44
   clear cb c0 c1 c2 hlb hlg hfz
   have HPK := Aside.mk (HPK.out.below HH3.out)
   obtain ⟨cb, c0, c1, c2, hlb, hlg, hfz⟩ := HPK.out.cells
   obtain ⟨t0, t1, t2, f0, f1, f2⟩ := HPK.out.toks
   go_wp2_with fail
   exact pk_end HPK.out HSZ.out HQ.out.1 HAT.out HTK.out rfl rfl rfl rfl
theorem peek_any (w : World) (g : Nat) (B : Nat → Prop) (s : ByteArray) (nl : Bool) (σ : PS) (h : Par w g B s nl σ) :
  Calls Tryz.prog 94 #[.pointer (some ⟨g, 0, none⟩)] w fun e w' => e = .returned (tokV s (peekT nl s.data.toList σ.pos)) ∧ FrP B w w' ∧ Par w' g B s nl { σ with pos := (peekT nl s.data.toList σ.pos).lo } :=
 (peek_anyQ w g B s nl σ h).mono fun e w' h => ⟨h.1, h.2.1.wide, h.2.2.1⟩
end Go.Proofs.YthcidkidpiaomaaGreatDoor.Od
end
