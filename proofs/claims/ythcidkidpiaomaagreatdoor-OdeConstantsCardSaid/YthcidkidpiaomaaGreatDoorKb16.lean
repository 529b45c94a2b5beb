/- OdJ OdK -/
import Derived.Test.YthcidkidpiaomaaGreatDoorKb15
section
set_option linter.unusedVariables false
set_option linter.unusedSimpArgs false
namespace Go.Proofs.YthcidkidpiaomaaGreatDoor.Od
open Go.RowKit Rg
structure Opnd (F : Nat) (s : ByteArray) (nl : Bool) (op : Pr Tr) (n : Nat) : Prop where
 meets : Meets F s nl op n
 gr : Gr s.data.toList 0 op
 goes : Goes s.data.toList 0 op
 enters : ∀ args w, (callFunc F args).run Tryz.prog w = .ok (.enter F args) w
def OpAns (s : ByteArray) (nl : Bool) (op : Pr Tr) (σ2 : PS) (g : Nat) (B : Nat → Prop) (n0 : Nat) (v : Value) (w : World) : Prop := ∃ r σ3, op σ2 = .ok r σ3 ∧ OwnN n0 w v (flat r) ∧ Par w g B s nl σ3
def OpRow (op : Pr Tr) (σ2 : PS) (n0 : Nat) (ev v : Value) (w : World) : Prop := ∃ gn v4 r σ3, op σ2 = .ok r σ3 ∧ v = .slice (some ⟨gn, 0, none⟩) 2 2 ∧ w.heap[gn]? = some (.cells #[ev, v4] 26 (0, 0)) ∧ OwnN n0 w v4 (flat r)
def tabL (s : ByteArray) (nl : Bool) (op : Pr Tr) (σ2 : PS) (g : Nat) (B : Nat → Prop) (gx n0 : Nat) (f1 : Int) (i0 : Nat) (ev opf : Value) : TabW where
 S := fun i v w => match i with
  | 0 => v = .pointer (some ⟨gx, i0, none⟩)
  | 1 => v = .int .i64 f1
  | 2 => v = ev
  | 3 => v = opf
  | 4 => OpAns s nl op σ2 g B n0 v w
  | 5 => OpRow op σ2 n0 ev v w
  | _ => True
 R := fun b w0 w => FrP B w0 w ∧ (b = false → Below w0.heap.size w0 w)
 call := 4
 E := fun j w w' => match j with
  | 4 => FrP B w w'
  | 5 => Below w.heap.size w w'
  | _ => w' = w
 comp := fun j b w0 w w' h he => by
  match j, he with
  | 0, he | 1, he | 2, he | 3, he => subst he; exact ⟨h.1, fun e => h.2 (by simpa using e)⟩
  | (k + 6), he => subst he; exact ⟨h.1, fun e => h.2 (by simpa using e)⟩
  | 4, he => exact ⟨h.1.trans he, fun e => by simp at e⟩
  | 5, he => exact ⟨h.1.trans (Fr.of he), fun e => (h.2 (by simpa using e)).trans (he.mono h.1.size)⟩
 mono := fun i j v w w' hij h he => by
  match i, h with
  | 0, h | 1, h | 2, h | 3, h => exact h
  | (_ + 6), _ => trivial
  | 4, h =>
   match j, he with
   | 0, he | 1, he | 2, he | 3, he | (_ + 6), he => exact he ▸ h
   | 4, _ => exact absurd rfl hij
   | 5, he =>
    obtain ⟨r, σ3, h1, h2, h3⟩ := h
    exact ⟨r, σ3, h1, owns_below h2 he, h3.below he⟩
  | 5, h =>
   match j, he with
   | 0, he | 1, he | 2, he | 3, he | (_ + 6), he => exact he ▸ h
   | 5, _ => exact absurd rfl hij
   | 4, he =>
    obtain ⟨gn, v4, r, σ3, h1, h2, h3, h4⟩ := h
    exact ⟨gn, v4, r, σ3, h1, h2, Fr.cell he h3 (by decide), h4.frP he⟩
set_option maxRecDepth 100000 in
theorem run_callb {dst : Option Tmp} {type : TypeId} {pos : String} {after : Array Edge} {guard : Option (Nat × Bool)} {a : Act} {w : World} {f : Nat} {x : Operand} {first : Array Value} {ats : Array TypeId} (hx : a.eval x = .func (.func f) first #[]) (hf : ∀ args w, (callFunc f args).run Tryz.prog w = .ok (.enter f args) w) :
  (execOp a.eval { dst, op := .call { callee := .value x, args := #[], argTypes := ats }, type, pos, after, guard }).run Tryz.prog w = .ok (.enter f first) w := by
 show Sem.run _ (do let d ← Deferred.ofValue (a.eval x) (#[].map a.eval); invoke d.target d.args) w = _
 rw [hx, Array.map_empty]
 show Sem.run _ (callFunc f (first ++ #[] ++ #[])) w = _
 rw [Array.append_empty, Array.append_empty]
 exact hf _ _
theorem wp_newW {P : Program} {T : TabW} {Q : Exit → Act → World → Prop} {i : Nat} {o : Oper} {a : Act} {w w' : World} {v : Value} (hr : (execOp a.eval o).run P w = .ok (.value v) w') (he : T.E i w w') (hv : T.S i v w') :
  o.wp P a w (fun a' w' => ∃ v, a' = a.put o.dst v ∧ T.E i w w' ∧ T.S i v w') Q := by
 unfold Oper.wp
 rw [hr, Oper.upon_value]
 exact ⟨v, rfl, he, hv⟩
theorem opd_two {w : World} {gn : Nat} {u v : Value} {T : TypeId} {e f : List Nd} (hh : w.heap[gn]? = some (.cells #[u, v] T (0, 0))) (he : Rd w u e) (hf : Rd w v f) (hne : e ≠ []) (hnf : f ≠ []) (hl : e.length + f.length ≤ 90000) : Opd w gn [u, v] [e, f] := by
 refine ⟨rfl, fun j x hx => ?_, fun j x y hx hy => ?_, by simp; omega⟩
 ·rcases j with _ | _ | j
  ·obtain rfl := Option.some.inj hx
   rw [cell_of_row _ _ 0 _ _ _ hh]; rfl
  ·obtain rfl := Option.some.inj hx
   rw [cell_of_row _ _ 1 _ _ _ hh]; rfl
  ·cases hx
 ·rcases j with _ | _ | j
  ·obtain rfl := Option.some.inj hx
   obtain rfl := Option.some.inj hy
   exact ⟨he, hne⟩
  ·obtain rfl := Option.some.inj hx
   obtain rfl := Option.some.inj hy
   exact ⟨hf, hnf⟩
  ·cases hx
theorem chain_first {nl : Bool} {L : List UInt8} {op : Pr Tr} {c d : List UInt8} {f1 f2 : Int} {k : Nat} {t : Tr} {σ1 σ2 : PS} (h : Od.accept nl L c σ1 = .ok true σ2) : Od.chain nl L op c d f1 f2 (k + 1) t σ1 = (op.bind fun r => Od.chain nl L op c d f1 f2 k (Tr.bin f1 t r)) σ2 := by
 conv => lhs; unfold Od.chain
 simp only [Pr.bind, h]
 rfl
theorem chain_second {nl : Bool} {L : List UInt8} {op : Pr Tr} {c d : List UInt8} {f1 f2 : Int} {k : Nat} {t : Tr} {σ1 σ2 σ4 : PS} (h : Od.accept nl L c σ1 = .ok false σ2) (h2 : Od.accept nl L d σ2 = .ok true σ4) : Od.chain nl L op c d f1 f2 (k + 1) t σ1 = (op.bind fun r => Od.chain nl L op c d f1 f2 k (Tr.bin f2 t r)) σ4 := by
 conv => lhs; unfold Od.chain
 simp only [Pr.bind, h, Bool.false_eq_true, if_false, h2]
 rfl
theorem chain_last {nl : Bool} {L : List UInt8} {op : Pr Tr} {c d : List UInt8} {f1 f2 : Int} {k : Nat} {t : Tr} {σ1 σ2 σ4 : PS} (h : Od.accept nl L c σ1 = .ok false σ2) (h2 : Od.accept nl L d σ2 = .ok false σ4) : Od.chain nl L op c d f1 f2 (k + 1) t σ1 = .ok t σ4 := by
 unfold Od.chain
 simp only [Pr.bind, h, Bool.false_eq_true, if_false, h2]
 rfl
set_option maxRecDepth 100000 in
set_option maxHeartbeats 8000000 in
theorem left_any (F : Nat) (s : ByteArray) (nl : Bool) (op : Pr Tr) (n : Nat) (hop : Opnd F s nl op n) (c d : ByteArray) (f1 f2 : Int) (w : World) (g : Nat) (B : Nat → Prop) (σ : PS) (h : Par w g B s nl σ) (hT : TB B w) (hn : s.size < n + σ.pos) (kk : Nat) (hk : s.size < kk + σ.pos) :
  Calls Tryz.prog 131 #[.pointer (some ⟨g, 0, none⟩), .func (.func F) #[.pointer (some ⟨g, 0, none⟩)] #[], .string c, .string d, .agg #[.int .i64 f1, .int .i64 f2]] w
   fun e w' => GotT w g B s nl ((op.bind fun t => Od.chain nl s.data.toList op c.data.toList d.data.toList f1 f2 kk t) σ) e w' := by
 have HOP := Aside.mk hop
 have HP := Aside.mk h
 have HTB := Aside.mk hT
 have HN := Aside.mk hn
 have HK := Aside.mk hk
 have hen := hop.enters
 clear hop h hT hn hk
 go_enter Tryz.func131, Tryz.ntmps131
 go_wp2_with fail
 have hal : Below w.heap.size w (w.alloc (.cells #[.int .i64 f1, .int .i64 f2] 152)) := (Below.refl _ _).alloc (Nat.le_refl _) _
 have HBX : Aside ((w.alloc (.cells #[.int .i64 f1, .int .i64 f2] 152)).heap[w.heap.size]? = some (.cells #[.int .i64 f1, .int .i64 f2] 152 (0, 0))) := ⟨heap_alloc_last _ _⟩
 have HP0 := Aside.mk (HP.out.below hal)
 have HF0 : Aside (FrP B w (w.alloc (.cells #[.int .i64 f1, .int .i64 f2] 152))) := ⟨Fr.of hal⟩
 have HSZ0 := Aside.mk hal.size
 clear hal
 generalize (w.alloc (.cells #[.int .i64 f1, .int .i64 f2] 152)) = W at HBX HP0 HF0 HSZ0 ⊢
 obtain ⟨gx, hgx⟩ : ∃ gx, w.heap.size = gx := ⟨_, rfl⟩
 rw [hgx] at HBX
 have HGX := Aside.mk hgx
 simp only [hgx]
 clear hgx
 refine (HOP.out.meets W g B σ HP0.out (HTB.out.fr HF0.out) HN.out).mono ?_
 rintro e w1 hg
 cases hx : op σ with
 | err cc o =>
  have HX := Aside.mk hx
  rw [hx] at hg
  clear hx
  obtain ⟨hf, rfl⟩ := hg
  have HF2 := Aside.mk (HF0.out.trans hf)
  clear hf
  go_wp2_with fail
  unfold Pr.bind
  rw [HX.out]
  exact ⟨rfl, HF2.out, rfl⟩
 | ok t0 σ0 =>
  have HX := Aside.mk hx
  have hgr := HOP.out.gr σ t0 σ0 HP.out.inL hx
  rw [hx] at hg
  clear hx
  obtain ⟨hf, ⟨u0, rfl, ho⟩, hP1⟩ := hg
  have HF1 := Aside.mk (HF0.out.trans hf)
  have HP1 := Aside.mk hP1
  have HO1 := Aside.mk (OwnN.mono ho HSZ0.out)
  have HB1 : Aside (w1.heap[gx]? = some (.cells #[.int .i64 f1, .int .i64 f2] 152 (0, 0))) := ⟨hf.cell HBX.out (by decide)⟩
  have HRES : Aside ((op.bind fun t => Od.chain nl s.data.toList op c.data.toList d.data.toList f1 f2 kk t) σ = Od.chain nl s.data.toList op c.data.toList d.data.toList f1 f2 kk t0 σ0) := ⟨by unfold Pr.bind; rw [HX.out]⟩
  have HLE := Aside.mk (show σ.pos ≤ σ0.pos ∧ (flat t0).length ≤ σ0.pos by omega)
  clear hf hP1 ho hgr HBX
  clear HX
  go_wp2_with fail
  go_loopg [11] s.size (fun m v11 wr => ∃ (t : Tr) (σ1 : PS) (k : Nat), Aside (OwnN w.heap.size wr v11 (flat t)) ∧ Aside (Par wr g B s nl σ1) ∧ Aside (FrP B w wr) ∧ Aside (wr.heap[gx]? = some (.cells #[.int .i64 f1, .int .i64 f2] 152 (0, 0))) ∧
   Aside (s.size < k + σ1.pos ∧ s.size - σ1.pos ≤ m ∧ s.size < n + σ1.pos ∧ (flat t).length ≤ σ1.pos) ∧ Aside ((op.bind fun t => Od.chain nl s.data.toList op c.data.toList d.data.toList f1 f2 kk t) σ = Od.chain nl s.data.toList op c.data.toList d.data.toList f1 f2 k t σ1))
  case atStart => exact ⟨t0, σ0, kk, HO1, HP1, HF1, HB1, ⟨by have := HLE.out; have := HK.out; have := HN.out; exact ⟨by omega, by omega, by omega, HLE.out.2⟩⟩, HRES⟩
  case round =>
   clear HO1 HP1 HF1 HB1
   obtain ⟨t, σ1, k, HO1, HP1, HF1, HB1, HM, HEQ⟩ := hrel
   clear HRES
   cases k with
   | zero => exfalso; have := HM.out.1; have := HP1.out.le; omega
   | succ k =>
    obtain ⟨b, σ2, ha⟩ := accept_eq nl s.data.toList c.data.toList σ1
    have HA := Aside.mk ha
    clear ha
    go_wp2_with fail
    refine (accept_any wr g B s nl σ1 HP1.out c).mono ?_
    rintro e w2 hg
    rw [HA.out] at hg
    obtain ⟨hf, ⟨u, rfl, rfl⟩, hP2⟩ := hg
    have HF2 := Aside.mk (HF1.out.trans hf)
    have HP2 := Aside.mk hP2
    have HO2 := Aside.mk (HO1.out.frP hf)
    have HB2 : Aside (w2.heap[gx]? = some (.cells #[.int .i64 f1, .int .i64 f2] 152 (0, 0))) := ⟨hf.cell HB1.out (by decide)⟩
    clear hf hP2 HO1 HF1 HB1
    cases b with
    | true =>
     go_wp2_with fail
     have HPOS := Aside.mk (accept_true HP1.out.inL HA.out)
     have hu : ∃ ao l cap, u11 = Value.slice ao l cap := by obtain ⟨ao, cap, hv, -⟩ := HO2.out.rd.out; exact ⟨ao, _, cap, hv⟩
     refine region_listW (T := tabL s nl op σ2 g B gx w2.heap.size f1 0 u11 (.func (.func F) #[.pointer (some ⟨g, 0, none⟩)] #[])) 6
      [_, _, _, _, _, _, _, _] (by kernel_rfl) (by kernel_rfl) (by kernel_rfl) (by kernel_rfl) (by kernel_rfl) (by kernel_rfl) rfl ?_ ?_ ?_
     ·exact ⟨Fr.of ⟨rfl, rfl, rfl, Nat.le_refl _, fun _ _ => rfl⟩, fun _ => ⟨rfl, rfl, rfl, Nat.le_refl _, fun _ _ => rfl⟩⟩
     ·refine AllW.cons ?_ ?_
      ·intro b a wz hcl hd hz hb ho hg
       have e9 : a.tmps.getD 9 undef = .pointer (some ⟨gx, 0, none⟩) := ho 9 (by kernel_rfl)
       have f9 := Rg.gd e9
       exact ⟨wanted_none rfl, wp_valueW (v := .pointer (some ⟨gx, 0, none⟩)) (by simp [execOp, Act.eval, e9, f9, go_sem]) rfl rfl⟩
      refine AllW.cons ?_ ?_
      ·intro b a wz hcl hd hz hb ho hg
       have e19 : a.tmps.getD 19 undef = .pointer (some ⟨gx, 0, none⟩) := gotW_of hg (j := 0) rfl rfl rfl
       have f19 := Rg.gd e19
       have hr := Fr.cell hb.1 HB2.out (by decide)
       have q : wz.cell? ⟨gx, 0, none⟩ = some (.int .i64 f1) := by rw [cell_of_row _ _ 0 _ _ _ hr]; rfl
       exact ⟨wanted_none rfl, wp_valueW (v := .int .i64 f1) (by simp [execOp, Act.eval, e19, f19, q, go_sem]) rfl rfl⟩
      refine AllW.cons ?_ ?_
      ·intro b a wz hcl hd hz hb ho hg
       have e11 : a.tmps.getD 11 undef = u11 := ho 11 (by kernel_rfl)
       have f11 := Rg.gd e11
       exact ⟨wanted_none rfl, wp_valueW (v := u11) (by simp [execOp, Act.eval, e11, f11, go_sem]) rfl rfl⟩
      refine AllW.cons ?_ ?_
      ·intro b a wz hcl hd hz hb ho hg
       have e1 : a.tmps.getD 1 undef = .func (.func F) #[.pointer (some ⟨g, 0, none⟩)] #[] := ho 1 (by kernel_rfl)
       have f1 := Rg.gd e1
       exact ⟨wanted_none rfl, wp_valueW (v := .func (.func F) #[.pointer (some ⟨g, 0, none⟩)] #[]) (by simp [execOp, Act.eval, e1, f1, go_sem]) rfl rfl⟩
      refine AllW.cons ?_ ?_
      ·intro b a wz hcl hd hz hb ho hg
       have e22 : a.tmps.getD 22 undef = .func (.func F) #[.pointer (some ⟨g, 0, none⟩)] #[] := gotW_of hg (j := 3) rfl rfl rfl
       have hbw := hb.2 (hcl rfl)
       refine ⟨wanted_none rfl, wp_callsW (run_callb (show a.eval (.tmp 22) = _ from e22) HOP.out.enters) ((HOP.out.meets wz g B σ2 (HP2.out.below hbw) ((HTB.out.fr HF2.out).fr hb.1) (by have := HM.out.2.2.1; have := HPOS.out.1; omega)).mono ?_)⟩
       rintro e w' hgot
       cases hy : op σ2 with
       | ok r σ3 =>
        rw [hy] at hgot
        obtain ⟨hf, ⟨u, rfl, ho3⟩, hP3⟩ := hgot
        exact Or.inl ⟨u, rfl, hf, ⟨r, σ3, hy, OwnN.mono ho3 hb.1.size, hP3⟩⟩
       | err cc o =>
        rw [hy] at hgot
        obtain ⟨hf, rfl⟩ := hgot
        refine Or.inr ⟨_, rfl, ?_⟩
        have hres : (op.bind fun t => Od.chain nl s.data.toList op c.data.toList d.data.toList f1 f2 kk t) σ = .err cc o := by rw [HEQ.out, chain_first HA.out, Pr.bind, hy]
        exact (⟨hd, (HF2.out.trans hb.1).trans hf, by rw [hres]⟩ : bodyPost Tryz.prog Tryz.f131 (fun e w' => GotT w g B s nl ((op.bind fun t => Od.chain nl s.data.toList op c.data.toList d.data.toList f1 f2 kk t) σ) e w') (Exit.panic (pan o cc)) a w')
      refine AllW.cons ?_ ?_
      ·intro b a wz hcl hd hz hb ho hg
       have e21 : a.tmps.getD 21 undef = u11 := gotW_of hg (j := 2) rfl rfl rfl
       obtain ⟨r, σ3, hy, ho3, hP3⟩ := (gotW_of hg (j := 4) rfl rfl rfl : OpAns s nl op σ2 g B w2.heap.size (a.tmps.getD 23 undef) wz)
       obtain ⟨v4, e23⟩ : ∃ v, a.tmps.getD 23 undef = v := ⟨_, rfl⟩
       rw [e23] at ho3
       obtain ⟨ao3, cap3, hv3, -⟩ := ho3.rd.out
       obtain ⟨ao, l, cap, hu11⟩ := hu
       obtain ⟨l3, hl3⟩ : ∃ l, (flat r).length = l := ⟨_, rfl⟩
       rw [hl3] at hv3
       have f21 := e21; rw [Array.getD_eq_getD_getElem?, hu11] at f21
       have f23 := e23; rw [Array.getD_eq_getD_getElem?, hv3] at f23
       rw [hu11] at e21
       rw [hv3] at e23
       refine ⟨wanted_none rfl, wp_newW (v := .slice (some ⟨wz.heap.size, 0, none⟩) 2 2) (w' := wz.alloc (.cells #[.slice ao l cap, .slice ao3 l3 cap3] 26)) (by simp [execOp, Act.eval, e21, e23, f21, f23, go_sem]) ((Below.refl wz.heap.size wz).alloc (Nat.le_refl _) _) ?_⟩
       exact ⟨wz.heap.size, v4, r, σ3, hy, rfl, by rw [hu11, hv3]; exact heap_alloc_last _ _, owns_below ho3 ((Below.refl _ _).alloc (Nat.le_refl _) _)⟩
      exact AllW.nil
     ·intro a wz hd hz hb ho hg
      obtain ⟨b, hb, -⟩ := hb
      have e19 : a.tmps.getD 19 undef = .pointer (some ⟨gx, 0, none⟩) := hg 0 (by decide) _ _ rfl rfl
      have e20 : a.tmps.getD 20 undef = .int .i64 f1 := hg 1 (by decide) _ _ rfl rfl
      have e21 : a.tmps.getD 21 undef = u11 := hg 2 (by decide) _ _ rfl rfl
      have e22 : a.tmps.getD 22 undef = .func (.func F) #[.pointer (some ⟨g, 0, none⟩)] #[] := hg 3 (by decide) _ _ rfl rfl
      obtain ⟨r, σ3, hy, -, hP3⟩ := (hg 4 (by decide) _ _ rfl rfl : OpAns s nl op σ2 g B w2.heap.size (a.tmps.getD 23 undef) wz)
      obtain ⟨gn, v4, r', σ3', hy', e24, hrow, ho4⟩ := (hg 5 (by decide) _ _ rfl rfl : OpRow op σ2 w2.heap.size u11 (a.tmps.getD 24 undef) wz)
      obtain ⟨v23, e23⟩ : ∃ v, a.tmps.getD 23 undef = v := ⟨_, rfl⟩
      rw [hy] at hy'
      injection hy' with hr1 hr2
      subst hr1 hr2
      have hA := ho.frame hz
      simp only [List.take_succ_cons, List.take_zero, List.filterMap_cons, List.filterMap_nil, List.foldl_cons, List.foldl_nil, e19, e20, e21, e22, e23, e24, List.setIfInBounds_toArray, List.set_cons_zero, List.set_cons_succ] at hA
      have hgr := HOP.out.gr σ2 r σ3 HP2.out.inL hy
      have hgo := HOP.out.goes σ2 r σ3 HP2.out.inL hy
      have HLN : Aside ((flat t).length ≤ 8000 ∧ (flat r).length ≤ 8000 ∧ 1 + (flat t).length + (flat r).length ≤ σ3.pos ∧ σ1.pos + 1 ≤ σ3.pos) := ⟨by
       have h1 := hP3.len; have h2 : s.data.toList.length = s.size := rfl; have h3 := HM.out.2.2.2; have h4 := HPOS.out; omega⟩
      have HOD := Aside.mk (opd_two hrow (HO2.out.frP hb).rd ho4.rd (flat_ne t) (flat_ne r) (by have := HLN.out; omega))
      have HP3 := Aside.mk hP3
      have HF3 := Aside.mk (HF2.out.trans hb)
      have HB3 : Aside (wz.heap[gx]? = some (.cells #[.int .i64 f1, .int .i64 f2] 152 (0, 0))) := ⟨hb.cell HB2.out (by decide)⟩
      have HY := Aside.mk hy
      obtain ⟨tm, df⟩ := a
      simp only at hd hA
      subst hd
      subst hA
      simp only [List.drop_succ_cons, List.drop_zero]
      clear hz ho hg hb e19 e20 e21 e22 e23 e24 hy hP3 hrow ho4 hgr hgo
      go_wp2_with fail
      refine (apply_any wz f1 gn [u11, v4] [flat t, flat r] 2 rfl (by omega) HOD.out (by simp [flat_ne]) (by have := HLN.out; simp; omega) _ rfl).mono ?_
      rintro e w5 ⟨v5, rfl, ho5, hb5⟩
      have HO5 : Aside (OwnN w.heap.size w5 v5 (flat (Tr.bin f1 t r))) := ⟨by
       have := OwnN.mono ho5 (B := w.heap.size) HF3.out.size
       simpa [flat] using this⟩
      have HF5 := Aside.mk (HF3.out.trans (Fr.of hb5))
      have HP5 := Aside.mk (HP3.out.below hb5)
      have HB5 : Aside (w5.heap[gx]? = some (.cells #[.int .i64 f1, .int .i64 f2] 152 (0, 0))) := ⟨by rw [hb5.block _ (lt_of HB3.out)]; exact HB3.out⟩
      clear ho5 hb5
      go_wp2_with fail
      have hp3 := HP3.out.le
      obtain ⟨go, hgo⟩ : ∃ go, gk = go + 1 := ⟨gk - 1, by have := HM.out; have := HLN.out; omega⟩
      go_roundg go
      case measure => omega
      case rel => exact ⟨Tr.bin f1 t r, σ3, k, HO5, HP5, HF5, HB5, ⟨by have := HM.out; have := HLN.out; simp only [flat, List.length_cons, List.length_append]; omega⟩, ⟨by rw [HEQ.out, chain_first HA.out, Pr.bind, HY.out]⟩⟩
    | false =>
     have HG2 := Aside.mk (Goes.accept (nl := nl) (L := s.data.toList) c.data.toList σ1 false σ2 HP1.out.inL HA.out)
     obtain ⟨b2, σ4, ha2⟩ := accept_eq nl s.data.toList d.data.toList σ2
     have HA2 := Aside.mk ha2
     clear ha2
     go_wp2_with fail
     refine (accept_any w2 g B s nl σ2 HP2.out d).mono ?_
     rintro e w4 hg
     rw [HA2.out] at hg
     obtain ⟨hf, ⟨u, rfl, rfl⟩, hP4⟩ := hg
     have HF4 := Aside.mk (HF2.out.trans hf)
     have HP4 := Aside.mk hP4
     have HO4 := Aside.mk (HO2.out.frP hf)
     have HB4 : Aside (w4.heap[gx]? = some (.cells #[.int .i64 f1, .int .i64 f2] 152 (0, 0))) := ⟨hf.cell HB2.out (by decide)⟩
     have HQ2 := HP2
     clear hf hP4 HF2 HO2 HB2 HP2
     cases b2 with
     | true =>
      go_wp2_with fail
      have HPOS := Aside.mk (show σ1.pos + 1 ≤ σ4.pos ∧ σ4.pos ≤ s.data.toList.length from by have := accept_true HQ2.out.inL HA2.out; have := HG2.out; omega)
      have hu : ∃ ao l cap, u11 = Value.slice ao l cap := by obtain ⟨ao, cap, hv, -⟩ := HO4.out.rd.out; exact ⟨ao, _, cap, hv⟩
      refine region_listW (T := tabL s nl op σ4 g B gx w4.heap.size f2 1 u11 (.func (.func F) #[.pointer (some ⟨g, 0, none⟩)] #[])) 6
       [_, _, _, _, _, _, _, _] (by kernel_rfl) (by kernel_rfl) (by kernel_rfl) (by kernel_rfl) (by kernel_rfl) (by kernel_rfl) rfl ?_ ?_ ?_
      ·exact ⟨Fr.of ⟨rfl, rfl, rfl, Nat.le_refl _, fun _ _ => rfl⟩, fun _ => ⟨rfl, rfl, rfl, Nat.le_refl _, fun _ _ => rfl⟩⟩
      ·refine AllW.cons ?_ ?_
       ·intro b a wz hcl hd hz hb ho hg
        have e9 : a.tmps.getD 9 undef = .pointer (some ⟨gx, 0, none⟩) := ho 9 (by kernel_rfl)
        have f9 := Rg.gd e9
        exact ⟨wanted_none rfl, wp_valueW (v := .pointer (some ⟨gx, 1, none⟩)) (by simp [execOp, Act.eval, e9, f9, go_sem]) rfl rfl⟩
       refine AllW.cons ?_ ?_
       ·intro b a wz hcl hd hz hb ho hg
        have e30 : a.tmps.getD 30 undef = .pointer (some ⟨gx, 1, none⟩) := gotW_of hg (j := 0) rfl rfl rfl
        have f30 := Rg.gd e30
        have hr := Fr.cell hb.1 HB4.out (by decide)
        have q : wz.cell? ⟨gx, 1, none⟩ = some (.int .i64 f2) := by rw [cell_of_row _ _ 1 _ _ _ hr]; rfl
        exact ⟨wanted_none rfl, wp_valueW (v := .int .i64 f2) (by simp [execOp, Act.eval, e30, f30, q, go_sem]) rfl rfl⟩
       refine AllW.cons ?_ ?_
       ·intro b a wz hcl hd hz hb ho hg
        have e11 : a.tmps.getD 11 undef = u11 := ho 11 (by kernel_rfl)
        have f11 := Rg.gd e11
        exact ⟨wanted_none rfl, wp_valueW (v := u11) (by simp [execOp, Act.eval, e11, f11, go_sem]) rfl rfl⟩
       refine AllW.cons ?_ ?_
       ·intro b a wz hcl hd hz hb ho hg
        have e1 : a.tmps.getD 1 undef = .func (.func F) #[.pointer (some ⟨g, 0, none⟩)] #[] := ho 1 (by kernel_rfl)
        have f1 := Rg.gd e1
        exact ⟨wanted_none rfl, wp_valueW (v := .func (.func F) #[.pointer (some ⟨g, 0, none⟩)] #[]) (by simp [execOp, Act.eval, e1, f1, go_sem]) rfl rfl⟩
       refine AllW.cons ?_ ?_
       ·intro b a wz hcl hd hz hb ho hg
        have e33 : a.tmps.getD 33 undef = .func (.func F) #[.pointer (some ⟨g, 0, none⟩)] #[] := gotW_of hg (j := 3) rfl rfl rfl
        have hbw := hb.2 (hcl rfl)
        refine ⟨wanted_none rfl, wp_callsW (run_callb (show a.eval (.tmp 33) = _ from e33) HOP.out.enters) ((HOP.out.meets wz g B σ4 (HP4.out.below hbw) ((HTB.out.fr HF4.out).fr hb.1) (by have := HM.out.2.2.1; have := HPOS.out.1; omega)).mono ?_)⟩
        rintro e w' hgot
        cases hy : op σ4 with
        | ok r σ3 =>
         rw [hy] at hgot
         obtain ⟨hf, ⟨u, rfl, ho3⟩, hP3⟩ := hgot
         exact Or.inl ⟨u, rfl, hf, ⟨r, σ3, hy, OwnN.mono ho3 hb.1.size, hP3⟩⟩
        | err cc o =>
         rw [hy] at hgot
         obtain ⟨hf, rfl⟩ := hgot
         refine Or.inr ⟨_, rfl, ?_⟩
         have hres : (op.bind fun t => Od.chain nl s.data.toList op c.data.toList d.data.toList f1 f2 kk t) σ = .err cc o := by rw [HEQ.out, chain_second HA.out HA2.out, Pr.bind, hy]
         exact (⟨hd, (HF4.out.trans hb.1).trans hf, by rw [hres]⟩ : bodyPost Tryz.prog Tryz.f131 (fun e w' => GotT w g B s nl ((op.bind fun t => Od.chain nl s.data.toList op c.data.toList d.data.toList f1 f2 kk t) σ) e w') (Exit.panic (pan o cc)) a w')
       refine AllW.cons ?_ ?_
       ·intro b a wz hcl hd hz hb ho hg
        have e32 : a.tmps.getD 32 undef = u11 := gotW_of hg (j := 2) rfl rfl rfl
        obtain ⟨r, σ3, hy, ho3, hP3⟩ := (gotW_of hg (j := 4) rfl rfl rfl : OpAns s nl op σ4 g B w4.heap.size (a.tmps.getD 34 undef) wz)
        obtain ⟨v4, e34⟩ : ∃ v, a.tmps.getD 34 undef = v := ⟨_, rfl⟩
        rw [e34] at ho3
        obtain ⟨ao3, cap3, hv3, -⟩ := ho3.rd.out
        obtain ⟨ao, l, cap, hu11⟩ := hu
        obtain ⟨l3, hl3⟩ : ∃ l, (flat r).length = l := ⟨_, rfl⟩
        rw [hl3] at hv3
        have f32 := e32; rw [Array.getD_eq_getD_getElem?, hu11] at f32
        have f34 := e34; rw [Array.getD_eq_getD_getElem?, hv3] at f34
        rw [hu11] at e32
        rw [hv3] at e34
        refine ⟨wanted_none rfl, wp_newW (v := .slice (some ⟨wz.heap.size, 0, none⟩) 2 2) (w' := wz.alloc (.cells #[.slice ao l cap, .slice ao3 l3 cap3] 26)) (by simp [execOp, Act.eval, e32, e34, f32, f34, go_sem]) ((Below.refl wz.heap.size wz).alloc (Nat.le_refl _) _) ?_⟩
        exact ⟨wz.heap.size, v4, r, σ3, hy, rfl, by rw [hu11, hv3]; exact heap_alloc_last _ _, owns_below ho3 ((Below.refl _ _).alloc (Nat.le_refl _) _)⟩
       exact AllW.nil
      ·intro a wz hd hz hb ho hg
       obtain ⟨b, hb, -⟩ := hb
       have e30 : a.tmps.getD 30 undef = .pointer (some ⟨gx, 1, none⟩) := hg 0 (by decide) _ _ rfl rfl
       have e31 : a.tmps.getD 31 undef = .int .i64 f2 := hg 1 (by decide) _ _ rfl rfl
       have e32 : a.tmps.getD 32 undef = u11 := hg 2 (by decide) _ _ rfl rfl
       have e33 : a.tmps.getD 33 undef = .func (.func F) #[.pointer (some ⟨g, 0, none⟩)] #[] := hg 3 (by decide) _ _ rfl rfl
       obtain ⟨r, σ3, hy, -, hP3⟩ := (hg 4 (by decide) _ _ rfl rfl : OpAns s nl op σ4 g B w4.heap.size (a.tmps.getD 34 undef) wz)
       obtain ⟨gn, v4, r', σ3', hy', e35, hrow, ho4⟩ := (hg 5 (by decide) _ _ rfl rfl : OpRow op σ4 w4.heap.size u11 (a.tmps.getD 35 undef) wz)
       obtain ⟨v23, e34⟩ : ∃ v, a.tmps.getD 34 undef = v := ⟨_, rfl⟩
       rw [hy] at hy'
       injection hy' with hr1 hr2
       subst hr1 hr2
       have hA := ho.frame hz
       simp only [List.take_succ_cons, List.take_zero, List.filterMap_cons, List.filterMap_nil, List.foldl_cons, List.foldl_nil, e30, e31, e32, e33, e34, e35, List.setIfInBounds_toArray, List.set_cons_zero, List.set_cons_succ] at hA
       have hgr := HOP.out.gr σ4 r σ3 HP4.out.inL hy
       have hgo := HOP.out.goes σ4 r σ3 HP4.out.inL hy
       have HLN : Aside ((flat t).length ≤ 8000 ∧ (flat r).length ≤ 8000 ∧ 1 + (flat t).length + (flat r).length ≤ σ3.pos ∧ σ1.pos + 1 ≤ σ3.pos) := ⟨by
        have h1 := hP3.len; have h2 : s.data.toList.length = s.size := rfl; have h3 := HM.out.2.2.2; have h4 := HPOS.out; omega⟩
       have HOD := Aside.mk (opd_two hrow (HO4.out.frP hb).rd ho4.rd (flat_ne t) (flat_ne r) (by have := HLN.out; omega))
       have HP3 := Aside.mk hP3
       have HF3 := Aside.mk (HF4.out.trans hb)
       have HB3 : Aside (wz.heap[gx]? = some (.cells #[.int .i64 f1, .int .i64 f2] 152 (0, 0))) := ⟨hb.cell HB4.out (by decide)⟩
       have HY := Aside.mk hy
       obtain ⟨tm, df⟩ := a
       simp only at hd hA
       subst hd
       subst hA
       simp only [List.drop_succ_cons, List.drop_zero]
       clear hz ho hg hb e30 e31 e32 e33 e34 e35 hy hP3 hrow ho4 hgr hgo
       go_wp2_with fail
       refine (apply_any wz f2 gn [u11, v4] [flat t, flat r] 2 rfl (by omega) HOD.out (by simp [flat_ne]) (by have := HLN.out; simp; omega) _ rfl).mono ?_
       rintro e w5 ⟨v5, rfl, ho5, hb5⟩
       have HO5 : Aside (OwnN w.heap.size w5 v5 (flat (Tr.bin f2 t r))) := ⟨by
        have := OwnN.mono ho5 (B := w.heap.size) HF3.out.size
        simpa [flat] using this⟩
       have HF5 := Aside.mk (HF3.out.trans (Fr.of hb5))
       have HP5 := Aside.mk (HP3.out.below hb5)
       have HB5 : Aside (w5.heap[gx]? = some (.cells #[.int .i64 f1, .int .i64 f2] 152 (0, 0))) := ⟨by rw [hb5.block _ (lt_of HB3.out)]; exact HB3.out⟩
       clear ho5 hb5
       go_wp2_with fail
       have hp3 := HP3.out.le
       obtain ⟨go, hgo⟩ : ∃ go, gk = go + 1 := ⟨gk - 1, by have := HM.out; have := HLN.out; omega⟩
       go_roundg go
       case measure => omega
       case rel => exact ⟨Tr.bin f2 t r, σ3, k, HO5, HP5, HF5, HB5, ⟨by have := HM.out; have := HLN.out; simp only [flat, List.length_cons, List.length_append]; omega⟩, ⟨by rw [HEQ.out, chain_second HA.out HA2.out, Pr.bind, HY.out]⟩⟩
     | false =>
      go_wp2_with fail
      go_ret
      rw [HEQ.out, chain_last HA.out HA2.out]
      exact ⟨HF4.out, ⟨_, rfl, HO4.out⟩, HP4.out⟩
end Go.Proofs.YthcidkidpiaomaaGreatDoor.Od
end
section
set_option linter.unusedVariables false
set_option linter.unusedSimpArgs false
namespace Go.Proofs.YthcidkidpiaomaaGreatDoor.Od
open Go.RowKit Rg
theorem enters_factor : ∀ args w, (callFunc 154 args).run Tryz.prog w = .ok (.enter 154 args) w := fun args w => by kernel_rfl
theorem enters_product : ∀ args w, (callFunc 132 args).run Tryz.prog w = .ok (.enter 132 args) w := fun args w => by kernel_rfl
set_option maxRecDepth 100000 in
set_option maxHeartbeats 8000000 in
theorem product_any (s : ByteArray) (nl : Bool) (op : Pr Tr) (n kk : Nat) (hk : s.size < kk) (hop : Opnd 154 s nl op n) :
    Meets 132 s nl (op.bind fun t => Od.chain nl s.data.toList op [42] [47] 9 10 kk t) n := by
  intro w g B σ h hT hn
  have hmf : ∀ (fn : Fn) (first cap : Array Value) (w : World), (Instr.makeFunc fn first cap).run Tryz.prog w = .ok (.func fn first cap) w := fun _ _ _ _ => rfl
  have HL := Aside.mk (left_any 154 s nl op n hop ⟨#[42]⟩ ⟨#[47]⟩ 9 10 w g B σ h hT hn kk (by omega))
  clear h hT hn hop
  go_enter Tryz.func132, Tryz.ntmps132
  go_wp2_with fail
  refine HL.out.mono ?_
  rintro e w1 hg
  cases hx : (op.bind fun t => Od.chain nl s.data.toList op [42] [47] 9 10 kk t) σ with
  | err c o =>
    have HX := Aside.mk hx
    obtain ⟨hf, hr⟩ := hg
    rw [hx] at hr
    subst hr
    have HF := Aside.mk hf
    clear hf hx
    go_wp2_with fail
    rw [HX.out]
    exact ⟨rfl, HF.out, rfl⟩
  | ok t σ1 =>
    have HX := Aside.mk hx
    obtain ⟨hf, hr⟩ := hg
    rw [hx] at hr
    obtain ⟨⟨u, rfl, ho⟩, hP⟩ := hr
    have HF := Aside.mk hf
    have HO := Aside.mk ho
    have HP := Aside.mk hP
    clear hf hx ho hP
    go_wp2_with fail
    go_ret
    rw [HX.out]
    exact ⟨HF.out, ⟨_, rfl, HO.out⟩, HP.out⟩
set_option maxRecDepth 100000 in
set_option maxHeartbeats 8000000 in
theorem sum_over (s : ByteArray) (nl : Bool) (op : Pr Tr) (n kk : Nat) (hk : s.size < kk) (hop : Opnd 132 s nl op n) :
    Meets 93 s nl (op.bind fun t => Od.chain nl s.data.toList op [43] [45] 7 8 kk t) n := by
  intro w g B σ h hT hn
  have hmf : ∀ (fn : Fn) (first cap : Array Value) (w : World), (Instr.makeFunc fn first cap).run Tryz.prog w = .ok (.func fn first cap) w := fun _ _ _ _ => rfl
  have HL := Aside.mk (left_any 132 s nl op n hop ⟨#[43]⟩ ⟨#[45]⟩ 7 8 w g B σ h hT hn kk (by omega))
  clear h hT hn hop
  go_enter Tryz.func93, Tryz.ntmps93
  go_wp2_with fail
  refine HL.out.mono ?_
  rintro e w1 hg
  cases hx : (op.bind fun t => Od.chain nl s.data.toList op [43] [45] 7 8 kk t) σ with
  | err c o =>
    have HX := Aside.mk hx
    obtain ⟨hf, hr⟩ := hg
    rw [hx] at hr
    subst hr
    have HF := Aside.mk hf
    clear hf hx
    go_wp2_with fail
    rw [HX.out]
    exact ⟨rfl, HF.out, rfl⟩
  | ok t σ1 =>
    have HX := Aside.mk hx
    obtain ⟨hf, hr⟩ := hg
    rw [hx] at hr
    obtain ⟨⟨u, rfl, ho⟩, hP⟩ := hr
    have HF := Aside.mk hf
    have HO := Aside.mk ho
    have HP := Aside.mk hP
    clear hf hx ho hP
    go_wp2_with fail
    go_ret
    rw [HX.out]
    exact ⟨HF.out, ⟨_, rfl, HO.out⟩, HP.out⟩
end Go.Proofs.YthcidkidpiaomaaGreatDoor.Od
end
