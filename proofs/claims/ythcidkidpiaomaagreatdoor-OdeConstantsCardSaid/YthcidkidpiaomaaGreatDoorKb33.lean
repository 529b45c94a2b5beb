/- OgB -/
import Derived.Test.YthcidkidpiaomaaGreatDoorKb32
section
set_option linter.unusedVariables false
set_option linter.unusedSimpArgs false
namespace Go.Proofs.YthcidkidpiaomaaGreatDoor.Od
open Go.RowKit Rg
theorem strL_is : ∀ (xs : List ByteArray) (l : List (List UInt8)), strL xs = l → xs = l.map fun y => (⟨y.toArray⟩ : ByteArray)
 | [], l, h => by subst h; rfl
 | x :: xs, l, h => by
  subst h
  have := strL_is xs (strL xs) rfl
  unfold strL at *
  rw [List.map_cons, List.map_cons, ← this]
def s1 : ByteArray := ⟨#[120, 39, 32, 61, 32, 118, 10, 118, 39, 32, 61, 32, 45, 120, 10]⟩
theorem s1_parse : parseSys s1.data.toList = .ok ([[120], [118]], [[⟨2, 1, 0, 0⟩], [⟨4, 0, 0, 0⟩, ⟨2, 0, 0, 0⟩]]) := by kernel_rfl
structure San (g1 g4 g5 : Nat) (an af : Option Addr) (cn cf : Nat) (W : World) : Prop where
 r1 : W.heap[g1]? = some (.cells #[.slice an 2 cn, .slice af 2 cf] 25 (0, 0))
 r4 : W.heap[g4]? = some (.cells #[.int .i64 65536, .int .i64 65536] 29 (0, 0))
 r5 : W.heap[g5]? = some (.cells #[.int .i64 (-65536), .int .i64 131072] 29 (0, 0))
 sn : Strs W (.slice an 2 cn) [⟨#[120]⟩, ⟨#[118]⟩]
 fs : Fs W (.slice af 2 cf) [[⟨2, 1, 0, 0⟩], [⟨4, 0, 0, 0⟩, ⟨2, 0, 0, 0⟩]]
 lb : Lb W
theorem San.below {g1 g4 g5 : Nat} {an af : Option Addr} {cn cf : Nat} {W W' : World} (h : San g1 g4 g5 an af cn cf W) (hb : Below W.heap.size W W') : San g1 g4 g5 an af cn cf W' :=
 ⟨(hb.block _ (heap_lt h.r1)).trans h.r1, (hb.block _ (heap_lt h.r4)).trans h.r4, (hb.block _ (heap_lt h.r5)).trans h.r5, h.sn.below hb, h.fs.below hb, h.lb.below hb⟩
theorem San.cells {g1 g4 g5 : Nat} {an af : Option Addr} {cn cf : Nat} {W : World} (h : San g1 g4 g5 an af cn cf W) :
  W.cell? ⟨g1, 0, none⟩ = some (.slice an 2 cn) ∧ W.cell? ⟨g1, 1, none⟩ = some (.slice af 2 cf) ∧ W.cell? ⟨g4, 0, none⟩ = some (.int .i64 65536) ∧ W.cell? ⟨g4, 1, none⟩ = some (.int .i64 65536) ∧ W.cell? ⟨g5, 0, none⟩ = some (.int .i64 (-65536)) ∧ W.cell? ⟨g5, 1, none⟩ = some (.int .i64 131072) :=
 ⟨by rw [cell_of_row _ _ 0 _ _ _ h.r1]; rfl, by rw [cell_of_row _ _ 1 _ _ _ h.r1]; rfl, by rw [cell_of_row _ _ 0 _ _ _ h.r4]; rfl, by rw [cell_of_row _ _ 1 _ _ _ h.r4]; rfl, by rw [cell_of_row _ _ 0 _ _ _ h.r5]; rfl, by rw [cell_of_row _ _ 1 _ _ _ h.r5]; rfl⟩
theorem enters_pt : ∀ args w, (callFunc 51 args).run Tryz.prog w = .ok (.enter 51 args) w := fun args w => by kernel_rfl
def xs0 : List Iv := [(65536, 65536), (-65536, 131072)]
def ts0 : List Tr := [.var 1, .un 4 (.var 0)]
theorem ts0_ok : ∀ t ∈ ts0, okT [[120], [118]] t := by
 intro t ht
 simp only [ts0, List.mem_cons, List.not_mem_nil, or_false] at ht
 rcases ht with rfl | rfl
 ·show 1 < 2; decide
 ·exact ⟨⟨by decide, by decide⟩, by show 0 < 2; decide⟩
theorem okI_mk {l h : Int} (h1 : okIv l h = true) : okI (l, h) := h1
theorem xs0_ok : ∀ a ∈ xs0, okI a := by
 intro a ha
 simp only [xs0, List.mem_cons, List.not_mem_nil, or_false] at ha
 rcases ha with rfl | rfl
 ·exact okI_mk (by kernel_rfl)
 ·exact okI_mk (by kernel_rfl)
theorem der0 : ts0.map (ev xs0 (0, 0)) = [(-65536, 131072), (-65536, -65536)] := by kernel_rfl
def tg : Tr := .bin 8 (.num 98304 98304) (.un 5 .time)
theorem tg_ok (vars : List (List UInt8)) : okT vars tg := ⟨⟨by decide, by decide⟩, by show okIv 98304 98304 = true; kernel_rfl, ⟨by decide, by decide⟩, trivial⟩
structure San2 (g1 g4 g5 : Nat) (an af : Option Addr) (cn cf : Nat) (vd : Value) (ag : Option Addr) (cg : Nat) (W : World) : Prop where
 san : San g1 g4 g5 an af cn cf W
 dv : Ivs W vd [(-65536, 131072), (-65536, -65536)]
 gt : RdN W (.slice ag 4 cg) (flat tg)
theorem San2.below {g1 g4 g5 : Nat} {an af : Option Addr} {cn cf : Nat} {vd : Value} {ag : Option Addr} {cg : Nat} {W W' : World} (h : San2 g1 g4 g5 an af cn cf vd ag cg W) (hb : Below W.heap.size W W') : San2 g1 g4 g5 an af cn cf vd ag cg W' :=
 ⟨h.san.below hb, h.dv.below hb, h.gt.below hb⟩
theorem ivs_row {w : World} {g : Nat} {a b c d : Int} (h : w.heap[g]? = some (.cells #[.int .i64 a, .int .i64 b, .int .i64 c, .int .i64 d] 29 (0, 0))) : Ivs w (.slice (some ⟨g, 0, none⟩) 2 2) [(a, b), (c, d)] := by
 refine ⟨⟨_, 2, rfl, fun j x hx => ⟨g, 0, rfl, ?_⟩⟩, by simp⟩
 rcases j with _ | _ | j
 ·obtain rfl := Option.some.inj hx
  exact ⟨by rw [cell_of_row _ _ _ _ _ _ h]; rfl, by rw [cell_of_row _ _ _ _ _ _ h]; rfl⟩
 ·obtain rfl := Option.some.inj hx
  exact ⟨by rw [cell_of_row _ _ _ _ _ _ h]; rfl, by rw [cell_of_row _ _ _ _ _ _ h]; rfl⟩
 ·simp at hx
theorem strs_one {w : World} {g : Nat} {x : ByteArray} (h : w.heap[g]? = some (.cells #[.string x] 9 (0, 0))) : Strs w (.slice (some ⟨g, 0, none⟩) 1 1) [x] :=
 ⟨Or.inr ⟨_, 0, 1, rfl, Nat.le_refl _, fun j hj => by
  rw [cell_of_row _ _ (0 + j) _ _ _ h]
  simp only [List.length_cons, List.length_nil] at hj
  obtain rfl : j = 0 := by omega
  rfl⟩, by simp⟩
inductive Sx
 | val (v : Value)
 | row (n : Nat) (z : Array Value) (T : TypeId) (k c : Nat)
 | len (k : Nat)
 | nodes (e : List Nd)
def Sx.ok : Sx → Value → World → Prop
 | .val v, u, _ => u = v
 | .row n z T k c, u, w => ∃ g, n ≤ g ∧ u = .slice (some ⟨g, 0, none⟩) k c ∧ w.heap[g]? = some (.cells z T (0, 0))
 | .len k, u, _ => ∃ a c, u = .slice a k c
 | .nodes e, u, w => RdN w u e ∧ Rd w u e
def tabx (l : List Sx) : Tab := ⟨fun i v w => ((l[i]?).getD (.val .nilFunc)).ok v w, true, fun i v w w' h hb hs => by
 revert h
 generalize (l[i]?).getD (.val .nilFunc) = s
 intro h
 cases s with
 | val u => exact h
 | row n z T k c =>
  obtain ⟨g, hn, hv, hh⟩ := h
  exact ⟨g, hn, hv, by rw [(hs rfl).block _ (heap_lt hh)]; exact hh⟩
 | len k => exact h
 | nodes e => exact ⟨h.1.below (hs rfl), h.2.below (hs rfl)⟩⟩
theorem eq_ss (s : ByteArray) (w : World) : (binOp .eql 9 (.string s) (.string s)).run Tryz.prog w = .ok (.bool true) w := by simp [go_sem]
theorem eq_iv2 (a b : Int) (w : World) : (binOp .eql 29 (.agg #[.int .i64 a, .int .i64 b]) (.agg #[.int .i64 a, .int .i64 b])).run Tryz.prog w = .ok (.bool true) w := by
 rw [eq_iv]; simp
theorem enters_bs : ∀ args w, (callFunc 27 args).run Tryz.prog w = .ok (.enter 27 args) w := fun args w => by kernel_rfl
theorem enters_fm : ∀ args w, (callFunc 36 args).run Tryz.prog w = .ok (.enter 36 args) w := fun args w => by kernel_rfl
theorem enters_va : ∀ args w, (callFunc 16 args).run Tryz.prog w = .ok (.enter 16 args) w := fun args w => by kernel_rfl
theorem enters_vx : ∀ args w, (callFunc 14 args).run Tryz.prog w = .ok (.enter 14 args) w := fun args w => by kernel_rfl
theorem enters_os : ∀ args w, (callFunc 22 args).run Tryz.prog w = .ok (.enter 22 args) w := fun args w => by kernel_rfl
theorem enters_evl : ∀ args w, (callFunc 25 args).run Tryz.prog w = .ok (.enter 25 args) w := fun args w => by kernel_rfl
theorem enters_rct : ∀ args w, (callFunc 52 args).run Tryz.prog w = .ok (.enter 52 args) w := fun args w => by kernel_rfl
theorem enters_un : ∀ args w, (callFunc 41 args).run Tryz.prog w = .ok (.enter 41 args) w := fun args w => by kernel_rfl
theorem enters_ie : ∀ args w, (callFunc 53 args).run Tryz.prog w = .ok (.enter 53 args) w := fun args w => by kernel_rfl
theorem enters_pf : ∀ args w, (callFunc 54 args).run Tryz.prog w = .ok (.enter 54 args) w := fun args w => by kernel_rfl
theorem enters_rf : ∀ args w, (callFunc 55 args).run Tryz.prog w = .ok (.enter 55 args) w := fun args w => by kernel_rfl
theorem Format_is {names : List ByteArray} (ts : List Tr) (hnm : ∀ x ∈ strL names, okName x = true) (hl : names.length = ts.length) (hok : ∀ t ∈ ts, okT (strL names) t) (h6 : names.length ≤ 6) (vn vf : Value) (w : World) (hn : Strs w vn names) (hf : Fs w vf (ts.map flat)) (ht : Fx.Tabs w) (S : ByteArray) (hS : S.data.toList = fmtS (strL names) (strL names) ts) :
  Calls Tryz.prog 36 #[.agg #[vn, vf]] w fun e w' => e = .returned (.string S) ∧ Below w.heap.size w w' := by
 refine (Format_any ts hnm hl hok h6 vn vf w hn hf ht).mono ?_
 rintro e w' ⟨⟨s, rfl, hs⟩, hb⟩
 refine ⟨?_, hb⟩
 rw [mk_str hs, mk_str hS]
theorem strs_nil (w : World) : Strs w (.slice none 0 0) [] := ⟨Or.inl ⟨rfl, none, 0, rfl⟩, by simp⟩
theorem fs_nil (w : World) : Fs w (.slice none 0 0) [] := ⟨Or.inl ⟨rfl, none, 0, rfl⟩, by simp⟩
theorem rdn_nil (w : World) : RdN w (.slice none 0 0) [] := ⟨Or.inl ⟨rfl, none, 0, rfl⟩, by simp⟩
theorem ivs_nil (w : World) : Ivs w (.slice none 0 0) [] := ⟨⟨none, 0, rfl, fun j a ha => by simp at ha⟩, by simp⟩
theorem RdN.cut {w : World} {ag : Option Addr} {cg : Nat} {e : List Nd} (h : RdN w (.slice ag e.length cg) e) (k : Nat) (hk : k ≤ e.length) (hne : e ≠ []) : RdN w (.slice ag k cg) (e.take k) := by
 have hl : (e.take k).length = k := by rw [List.length_take]; omega
 rcases h.out with ⟨h0, -⟩ | ⟨b, o, c, hv, hcp, hc⟩
 ·exact absurd h0 hne
 ·injection hv with q1 q2 q3
  subst q1 q3
  refine ⟨Or.inr ⟨b, o, cg, by rw [hl], by rw [hl]; omega, fun j u hu => hc j u ?_⟩, by rw [hl]; have := h.few; omega⟩
  have : nds e = nds (e.take k) ++ nds (e.drop k) := by rw [← nds_app, List.take_append_drop]
  rw [this, List.getElem?_append_left (List.getElem?_eq_some_iff.1 hu).1]; exact hu
theorem eqg_s (x y : Operand) (u v : ByteArray) (w : World) : (eqGuard .eql 9 x y (.string u) (.string v)).run Tryz.prog w = .ok () w := rfl
theorem eqg_iv (x y : Operand) (a b c d : Int) (w : World) : (eqGuard .eql 29 x y (.agg #[.int .i64 a, .int .i64 b]) (.agg #[.int .i64 c, .int .i64 d])).run Tryz.prog w = .ok () w := by first | kernel_rfl | simp [eqGuard, go_sem]
set_option maxRecDepth 100000 in
set_option maxHeartbeats 32000000 in
theorem sanity_any (w : World) (hL : Lb w) : Calls Tryz.prog 12 #[] w fun e w' => e = .returned (.bool true) ∧ Below w.heap.size w w' := by
 have HL := Aside.mk hL
 clear hL
 go_enter Tryz.func12, Tryz.ntmps12
 go_wp2_with fail
 refine (Parse_good s1 (by decide) _ _ s1_parse w HL.out).mono ?_
 rintro e w1 ⟨vn, vf, xs, rfl, hxs, hsn, hfs, hb1⟩
 obtain rfl := strL_is xs _ hxs
 obtain ⟨an, cn, rfl⟩ := hsn.slice
 obtain ⟨af, cf, rfl⟩ := hfs.slice
 have hal : Below w1.heap.size w1 (w1.alloc (.cells #[.slice an 2 cn, .slice af 2 cf] 25)) := (Below.refl _ _).alloc (Nat.le_refl _) _
 have HR1 := Aside.mk (heap_alloc_last w1 (.cells #[.slice an 2 cn, .slice af 2 cf] 25))
 have HB1 := Aside.mk (hb1.trans (hal.mono hb1.size))
 have HSN := Aside.mk (hsn.below hal)
 have HFS := Aside.mk (hfs.below hal)
 obtain ⟨g1, hg1⟩ : ∃ g1, w1.heap.size = g1 := ⟨_, rfl⟩
 rw [hg1] at HR1
 clear hxs hsn hfs hb1 hal
 simp only [List.length_cons, List.length_nil, List.map_cons, List.map_nil] at *
 go_wp2_with fail
 try simp only [hg1]
 generalize w1.alloc (.cells #[.slice an 2 cn, .slice af 2 cf] 25) = W1 at HR1 HB1 HSN HFS ⊢
 refine (rValid_any _ _ _ _ W1 HSN.out HFS.out (fun x hx => by simp only [List.mem_cons, List.not_mem_nil, or_false] at hx; rcases hx with rfl | rfl <;> decide)).mono ?_
 rintro e w2 ⟨rfl, hb2⟩
 rw [show okSys (strL [⟨#[120]⟩, ⟨#[118]⟩]) [[⟨2, 1, 0, 0⟩], [⟨4, 0, 0, 0⟩, ⟨2, 0, 0, 0⟩]] = true from by kernel_rfl]
 have HR2 := Aside.mk ((hb2.block _ (heap_lt HR1.out)).trans HR1.out)
 have HB2 := Aside.mk (HB1.out.trans (hb2.mono HB1.out.size))
 have HSN2 := Aside.mk (HSN.out.below hb2)
 have HFS2 := Aside.mk (HFS.out.below hb2)
 clear hb2 HR1 HB1 HSN HFS hg1
 go_wp2_with fail
 refine (rPoint_any 65536 w2).mono ?_
 rintro e w3 ⟨rfl, hb3⟩
 rw [show newI 65536 65536 = (65536, 65536) from by kernel_rfl]
 have HR3 := Aside.mk ((hb3.block _ (heap_lt HR2.out)).trans HR2.out)
 have HB3 := Aside.mk (HB2.out.trans (hb3.mono HB2.out.size))
 have HSN3 := Aside.mk (HSN2.out.below hb3)
 have HFS3 := Aside.mk (HFS2.out.below hb3)
 clear hb3 HR2 HB2 HSN2 HFS2
 have hal : Below w3.heap.size w3 ((w3.alloc (.cells #[.int .i64 65536, .int .i64 65536] 29)).alloc (.cells #[.int .i64 (-65536), .int .i64 131072] 29)) := ((Below.refl _ _).alloc (Nat.le_refl _) _).alloc (by simp) _
 have e4 : (w3.alloc (.cells #[.int .i64 65536, .int .i64 65536] 29)).heap.size = w3.heap.size + 1 := World.size_alloc ..
 have r4 := heap_alloc_last w3 (.cells #[.int .i64 65536, .int .i64 65536] 29)
 have r5 := heap_alloc_last (w3.alloc (.cells #[.int .i64 65536, .int .i64 65536] 29)) (.cells #[.int .i64 (-65536), .int .i64 131072] 29)
 have b5 : Below (w3.heap.size + 1) (w3.alloc (.cells #[.int .i64 65536, .int .i64 65536] 29)) ((w3.alloc (.cells #[.int .i64 65536, .int .i64 65536] 29)).alloc (.cells #[.int .i64 (-65536), .int .i64 131072] 29)) := (Below.refl _ _).alloc (by omega) _
 rw [e4] at r5
 have r4' := (b5.block w3.heap.size (by omega)).trans r4
 obtain ⟨g4, hg4⟩ : ∃ g4, w3.heap.size = g4 := ⟨_, rfl⟩
 rw [hg4] at r4' r5
 have HS := Aside.mk (San.mk ((hal.block _ (heap_lt HR3.out)).trans HR3.out) r4' r5 (HSN3.out.below hal) (HFS3.out.below hal) (HL.out.below (HB3.out.trans (hal.mono HB3.out.size))))
 have HB := Aside.mk (HB3.out.trans (hal.mono HB3.out.size))
 clear hal e4 r4 r5 b5 r4' HR3 HB3 HSN3 HFS3 HL
 unfold ivV
 simp only
 go_wp2_with fail
 try simp only [hg4]
 clear hg4
 generalize (w3.alloc (.cells #[.int .i64 65536, .int .i64 65536] 29)).alloc (.cells #[.int .i64 (-65536), .int .i64 131072] 29) = W at HS HB ⊢
 obtain ⟨c0, c1, d0, d1, f0, f1⟩ := HS.out.cells
 have hl1 := heap_lt HS.out.r1
 have hl4 := heap_lt HS.out.r4
 have hl5 := heap_lt HS.out.r5
 refine region_list (T := tab2 [
   Sq.val (.agg #[.slice an 2 cn, .slice af 2 cf]), Sq.val (.agg #[.int .i64 65536, .int .i64 65536]), Sq.val (.agg #[.int .i64 (-65536), .int .i64 131072]), Sq.row W.heap.size #[.int .i64 65536, .int .i64 65536, .int .i64 (-65536), .int .i64 131072] 29 2 2, Sq.val (.agg #[.int .i64 0, .int .i64 0])]) 5
  [_, _, _, _, _, _, _] (by kernel_rfl) (by kernel_rfl) (by kernel_rfl) (by kernel_rfl) (by kernel_rfl) (by kernel_rfl) rfl ?_ ?_
 ·refine AllIn.cons ?_ ?_
  ·intro a w hz hb ho hg
   have e1 : a.tmps.getD 1 undef = .pointer (some ⟨g1, 0, none⟩) := ho 1 (by kernel_rfl)
   have f1 := Rg.gd e1
   have q := (hb.cell (p := ⟨g1, 0, none⟩) hl1).trans c0
   have q' := (hb.cell (p := ⟨g1, 1, none⟩) hl1).trans c1
   exact wv hb rfl (by simp [execOp, Act.eval, e1, f1, q, q', go_sem]) rfl
  refine AllIn.cons ?_ ?_
  ·intro a w hz hb ho hg
   have e4 : a.tmps.getD 4 undef = .pointer (some ⟨g4, 0, none⟩) := ho 4 (by kernel_rfl)
   have f4 := Rg.gd e4
   have q := (hb.cell (p := ⟨g4, 0, none⟩) hl4).trans d0
   have q' := (hb.cell (p := ⟨g4, 1, none⟩) hl4).trans d1
   exact wv hb rfl (by simp [execOp, Act.eval, e4, f4, q, q', go_sem]) rfl
  refine AllIn.cons ?_ ?_
  ·intro a w hz hb ho hg
   have e5 : a.tmps.getD 5 undef = .pointer (some ⟨g4 + 1, 0, none⟩) := ho 5 (by kernel_rfl)
   have f5 := Rg.gd e5
   have q := (hb.cell (p := ⟨g4 + 1, 0, none⟩) hl5).trans f0
   have q' := (hb.cell (p := ⟨g4 + 1, 1, none⟩) hl5).trans f1
   exact wv hb rfl (by simp [execOp, Act.eval, e5, f5, q, q', go_sem]) rfl
  refine AllIn.cons ?_ ?_
  ·intro a w hz hb ho hg
   have e32 : a.tmps.getD 32 undef = .agg #[.int .i64 65536, .int .i64 65536] := got_of hg (j := 1) rfl rfl rfl
   have e33 : a.tmps.getD 33 undef = .agg #[.int .i64 (-65536), .int .i64 131072] := got_of hg (j := 2) rfl rfl rfl
   have f32 := Rg.gd e32
   have f33 := Rg.gd e33
   exact Or.inl ⟨wanted_none rfl, wp_value hb.size (by simp [execOp, Act.eval, e32, e33, f32, f33, go_sem]) ((Below.refl _ _).alloc (Nat.le_refl _) _) ⟨_, hb.size, rfl, heap_alloc_last _ _⟩⟩
  refine AllIn.cons ?_ ?_
  ·intro a w hz hb ho hg
   exact Or.inl ⟨wanted_none rfl, wp_calls hb.size (run_call (args := #[.int .i64 0]) enters_pt (by simp [Act.eval])) ((rPoint_any 0 w).mono (by rintro e w' ⟨rfl, hb2⟩; exact ⟨_, rfl, hb2, rfl⟩))⟩
  exact AllIn.nil
 intro a W2 hd hz hb ho hg
 have e31 : a.tmps.getD 31 undef = .agg #[.slice an 2 cn, .slice af 2 cf] := hg 0 (by decide) _ _ rfl rfl
 have e32 : a.tmps.getD 32 undef = .agg #[.int .i64 65536, .int .i64 65536] := hg 1 (by decide) _ _ rfl rfl
 have e33 : a.tmps.getD 33 undef = .agg #[.int .i64 (-65536), .int .i64 131072] := hg 2 (by decide) _ _ rfl rfl
 have E34 := hg 3 (by decide) _ _ rfl rfl
 have e35 : a.tmps.getD 35 undef = .agg #[.int .i64 0, .int .i64 0] := hg 4 (by decide) _ _ rfl rfl
 obtain ⟨g34, G34, e34, R34⟩ := E34
 have hA := ho.frame hz
 simp only [List.take_succ_cons, List.take_zero, List.filterMap_cons, List.filterMap_nil, List.foldl_cons, List.foldl_nil, e31, e32, e33, e34, e35, List.setIfInBounds_toArray, List.set_cons_zero, List.set_cons_succ] at hA
 obtain ⟨tm, df⟩ := a
 simp only at hd hA
 subst hd
 subst hA
 simp only [List.drop_succ_cons, List.drop_zero]
 have HH2 := Aside.mk hb
 clear hz ho hg hb e31 e32 e33 e34 e35
 have HIV := Aside.mk (ivs_row R34)
 have HS2 := Aside.mk (HS.out.below HH2.out)
 have HB2 := Aside.mk (HB.out.trans (HH2.out.mono HB.out.size))
 clear c0 c1 d0 d1 f0 f1 hl1 hl4 hl5 HS HB HH2 R34
 go_wp2_with fail
 refine (Derivatives_any (vars := [[120], [118]]) ts0 ts0_ok (by decide) xs0 (0, 0) (by decide) xs0_ok (okI_mk (by kernel_rfl)) _ _ _ W2 HS2.out.fs HIV.out HS2.out.lb.ends).mono ?_
 rintro e w3 ⟨⟨vd, rfl, hvd⟩, hb3⟩
 rw [der0] at hvd
 have HVD := Aside.mk hvd
 have HS := Aside.mk (HS2.out.below hb3)
 have HB := Aside.mk (HB2.out.trans (hb3.mono HB2.out.size))
 obtain ⟨ad, cd, hvde, -⟩ := hvd.out
 subst hvde
 clear hvd hb3 HS2 HB2 HIV G34
 go_wp2_with fail
 refine (rPoint_any 98304 w3).mono ?_
 rintro e w4 ⟨rfl, hb4⟩
 rw [show newI 98304 98304 = (98304, 98304) from by kernel_rfl]
 replace HVD := Aside.mk (HVD.out.below hb4)
 replace HS := Aside.mk (HS.out.below hb4)
 replace HB := Aside.mk (HB.out.trans (hb4.mono HB.out.size))
 clear hb4
 go_wp2_with fail
 refine (rConst_any (98304, 98304) w4).mono ?_
 rintro e w5 ⟨vc, rfl, hoc, hb5⟩
 have HOC := Aside.mk hoc.rd
 replace HVD := Aside.mk (HVD.out.below hb5)
 replace HS := Aside.mk (HS.out.below hb5)
 replace HB := Aside.mk (HB.out.trans (hb5.mono HB.out.size))
 clear hb5
 clear hoc
 have hal : Below w5.heap.size w5 (w5.alloc (.cells #[.int .i64 3, .int .i64 0, .int .i64 0, .int .i64 0] 79)) := (Below.refl _ _).alloc (Nat.le_refl _) _
 have HOT : Aside (Rd (w5.alloc (.cells #[.int .i64 3, .int .i64 0, .int .i64 0, .int .i64 0] 79)) (.slice (some ⟨w5.heap.size, 0, none⟩) 1 1) [⟨3, 0, 0, 0⟩]) := ⟨(own_one (B := 0) (x := ⟨3, 0, 0, 0⟩) (heap_alloc_last w5 _) (Nat.zero_le _) rfl).rd⟩
 have HAL := Aside.mk hal
 clear hal
 obtain ⟨ac, lc, cc, hvc⟩ : ∃ a l c, vc = .slice a l c := by obtain ⟨a, c, h, -⟩ := HOC.out.out; exact ⟨a, _, c, h⟩
 subst hvc
 go_wp2_with fail
 replace HVD := Aside.mk (HVD.out.below HAL.out)
 replace HS := Aside.mk (HS.out.below HAL.out)
 replace HB := Aside.mk (HB.out.trans (HAL.out.mono HB.out.size))
 replace HOC := Aside.mk (HOC.out.below HAL.out)
 clear HAL
 generalize w5.alloc (.cells #[.int .i64 3, .int .i64 0, .int .i64 0, .int .i64 0] 79) = W5 at HVD HS HB HOC HOT ⊢
 refine (rUnary_any W5 5 _ [⟨3, 0, 0, 0⟩] HOT.out (by simp) (by decide)).mono ?_
 rintro e w6 ⟨vu, rfl, hou, hb6⟩
 have HOU := Aside.mk hou.rd
 replace HVD := Aside.mk (HVD.out.below hb6)
 replace HOC := Aside.mk (HOC.out.below hb6)
 replace HS := Aside.mk (HS.out.below hb6)
 replace HB := Aside.mk (HB.out.trans (hb6.mono HB.out.size))
 clear hb6
 clear hou HOT
 obtain ⟨au, lu, cu, hvu⟩ : ∃ a l c, vu = .slice a l c := by obtain ⟨a, c, h, -⟩ := HOU.out.out; exact ⟨a, _, c, h⟩
 subst hvu
 go_wp2_with fail
 refine (rBinary_any w6 8 _ _ [⟨1, 0, 98304, 98304⟩] [⟨5, 0, 0, 0⟩, ⟨3, 0, 0, 0⟩] HOC.out (by simp) HOU.out (by simp) (by decide)).mono ?_
 rintro e w7 ⟨vg, rfl, hog, hb7⟩
 have hgt : RdN w7 vg (flat tg) := hog.rdN (by decide)
 obtain ⟨ag, cg, hvg⟩ := hgt.slice
 have hvg' : vg = .slice ag 4 cg := hvg
 subst hvg'
 have HT := Aside.mk (San2.mk (HS.out.below hb7) (HVD.out.below hb7) hgt)
 replace HB := Aside.mk (HB.out.trans (hb7.mono HB.out.size))
 clear hb7 hog hgt hvg HS HVD HOC HOU
 have hal : Below w7.heap.size w7 (w7.alloc (.cells #[.string ⟨#[120]⟩] 9)) := (Below.refl _ _).alloc (Nat.le_refl _) _
 have HS1 := Aside.mk (strs_one (heap_alloc_last w7 (.cells #[.string ⟨#[120]⟩] 9)))
 have HAL := Aside.mk hal
 clear hal
 go_wp2_with fail
 replace HT := Aside.mk (HT.out.below HAL.out)
 replace HB := Aside.mk (HB.out.trans (HAL.out.mono HB.out.size))
 clear HAL
 generalize w7.alloc (.cells #[.string ⟨#[120]⟩] 9) = W7 at HT HB HS1 ⊢
 refine (ParseExpr_bad ⟨#[120, 32, 43, 32, 121]⟩ (by decide) _ [⟨#[120]⟩] 4 72 (by kernel_rfl) W7 HS1.out HT.out.san.lb).mono ?_
 rintro e W8 ⟨rfl, hb8⟩
 replace HT := Aside.mk (HT.out.below hb8)
 replace HB := Aside.mk (HB.out.trans (hb8.mono HB.out.size))
 clear hb8
 clear HS1
 go_wp2_with fail
 obtain ⟨c0, c1, d0, d1, f0, f1⟩ := HT.out.san.cells
 have hl1 := heap_lt HT.out.san.r1
 have hl4 := heap_lt HT.out.san.r4
 have hl5 := heap_lt HT.out.san.r5
 have hcg : (3 : Int) ≤ (cg : Int) := by
  rcases HT.out.gt.out with ⟨h0, -⟩ | ⟨b, o, c, hv, hcp, -⟩
  ·exact absurd h0 (flat_ne tg)
  ·injection hv with q1 q2 q3
   subst q3
   have : (flat tg).length = 4 := by decide
   omega
 refine region_list (T := tabx [
   Sx.val (.slice ad 2 cd), Sx.val (.agg #[.int .i64 (-65536), .int .i64 131072]), Sx.val (.agg #[.int .i64 (-65536), .int .i64 (-65536)]), Sx.row W8.heap.size #[.int .i64 (-65536), .int .i64 131072, .int .i64 (-65536), .int .i64 (-65536)] 29 2 2, Sx.val (.bool true), Sx.val (.bool true), Sx.val (.agg #[.slice an 2 cn, .slice af 2 cf]), Sx.val (.string (⟨#[120, 39, 32, 61, 32, 118, 10, 118, 39, 32, 61, 32, 40, 45, 120, 41, 10]⟩ : ByteArray)), Sx.val (.bool true), Sx.val (.bool true), Sx.val (.bool true), Sx.val (.agg #[.slice an 2 cn, .slice af 2 cf]), Sx.val (.bool true), Sx.val (.bool true), Sx.val (.bool true), Sx.val (.agg #[.slice none 0 0, .slice none 0 0]), Sx.val (.bool false), Sx.val (.bool true), Sx.val (.bool true), Sx.val (.bool true), Sx.val (.slice ag 4 cg), Sx.val (.string (⟨#[40, 49, 46, 53, 32, 45, 32, 115, 113, 114, 40, 116, 41, 41]⟩ : ByteArray)), Sx.val (.bool true), Sx.val (.bool true), Sx.val (.bool true), Sx.val (.slice ag 4 cg), Sx.val (.bool true), Sx.val (.bool true), Sx.val (.bool true), Sx.val (.slice ag 4 cg), Sx.val (.slice ag 3 cg), Sx.val (.bool false), Sx.val (.bool true), Sx.val (.bool true), Sx.val (.bool true), Sx.val (.bool false), Sx.val (.bool true), Sx.val (.bool true), Sx.val (.bool true), Sx.val (.slice ag 4 cg), Sx.len 2, Sx.val (.int .i64 2), Sx.val (.bool true), Sx.val (.bool true), Sx.val (.bool true), Sx.val (.slice ag 4 cg), Sx.val (.agg #[.int .i64 (-65536), .int .i64 131072]), Sx.val (.agg #[.int .i64 (-163840), .int .i64 98304]), Sx.val (.agg #[.int .i64 (-163840), .int .i64 98304]), Sx.val (.bool true), Sx.val (.bool true), Sx.val (.bool true), Sx.val (.agg #[.int .i64 (-65536), .int .i64 131072]), Sx.nodes [⟨1, 0, -65536, 131072⟩], Sx.nodes [⟨6, 0, 0, 0⟩, ⟨1, 0, -65536, 131072⟩], Sx.val (.agg #[.int .i64 65536, .int .i64 65536]), Sx.val (.agg #[.int .i64 (-2147483648), .int .i64 2147483648]), Sx.val (.bool true), Sx.val (.bool true), Sx.val (.bool true), Sx.val (.bool true), Sx.val (.bool true), Sx.val (.bool true), Sx.val (.bool true), Sx.val (.bool true), Sx.val (.bool true), Sx.val (.bool true), Sx.val (.bool true), Sx.val (.bool true), Sx.val (.bool true), Sx.val (.bool true), Sx.val (.bool true), Sx.val (.bool true), Sx.val (.bool true), Sx.val (.bool true), Sx.val (.bool true), Sx.val (.bool true), Sx.val (.bool true), Sx.val (.bool true), Sx.val (.bool true), Sx.val (.bool true), Sx.val (.bool true), Sx.val (.bool true), Sx.val (.bool true), Sx.val (.bool true), Sx.val (.bool true), Sx.val (.bool true), Sx.val (.bool true), Sx.val (.bool true), Sx.val (.bool true), Sx.val (.bool true), Sx.val (.bool true), Sx.val (.bool true), Sx.val (.int .i64 4), Sx.val (.bool true), Sx.val (.bool true), Sx.val (.bool true), Sx.val (.int .i64 72), Sx.val (.bool true), Sx.val (.bool true)]) 100
  [_, _, _, _, _, _, _, _, _, _, _, _, _, _, _, _, _, _, _, _, _, _, _, _, _, _, _, _, _, _, _, _, _, _, _, _, _, _, _, _, _, _, _, _, _, _, _, _, _, _, _, _, _, _, _, _, _, _, _, _, _, _, _, _, _, _, _, _, _, _, _, _, _, _, _, _, _, _, _, _, _, _, _, _, _, _, _, _, _, _, _, _, _, _, _, _, _, _, _, _, _] (by kernel_rfl) (by kernel_rfl) (by kernel_rfl) (by kernel_rfl) (by kernel_rfl) (by kernel_rfl) rfl ?_ ?_
 ·refine AllIn.cons ?_ ?_
  ·intro a w hz hb ho hg
   have e6 : a.tmps.getD 6 undef = .slice ad 2 cd := ho 6 (by kernel_rfl)
   have f6 := Rg.gd e6
   exact wv hb rfl (by simp [execOp, Act.eval, e6, f6, go_sem]) rfl
  refine AllIn.cons ?_ ?_
  ·intro a w hz hb ho hg
   have e5 : a.tmps.getD 5 undef = .pointer (some ⟨g4 + 1, 0, none⟩) := ho 5 (by kernel_rfl)
   have f5 := Rg.gd e5
   have q := (hb.cell (p := ⟨g4 + 1, 0, none⟩) hl5).trans f0
   have q' := (hb.cell (p := ⟨g4 + 1, 1, none⟩) hl5).trans f1
   exact wv hb rfl (by simp [execOp, Act.eval, e5, f5, q, q', go_sem]) rfl
  refine AllIn.cons ?_ ?_
  ·intro a w hz hb ho hg
   exact Or.inl ⟨wanted_none rfl, wp_calls hb.size (run_call (args := #[.int .i64 (-65536)]) enters_pt (by simp [Act.eval])) ((rPoint_any (-65536) w).mono (by rintro e w' ⟨rfl, hb2⟩; exact ⟨_, rfl, hb2, rfl⟩))⟩
  refine AllIn.cons ?_ ?_
  ·intro a w hz hb ho hg
   have e50 : a.tmps.getD 50 undef = .agg #[.int .i64 (-65536), .int .i64 131072] := got_of hg (j := 1) rfl rfl rfl
   have e51 : a.tmps.getD 51 undef = .agg #[.int .i64 (-65536), .int .i64 (-65536)] := got_of hg (j := 2) rfl rfl rfl
   have f50 := Rg.gd e50
   have f51 := Rg.gd e51
   exact Or.inl ⟨wanted_none rfl, wp_value hb.size (by simp [execOp, Act.eval, e50, e51, f50, f51, go_sem]) ((Below.refl _ _).alloc (Nat.le_refl _) _) ⟨_, hb.size, rfl, heap_alloc_last _ _⟩⟩
  refine AllIn.cons ?_ ?_
  ·intro a w hz hb ho hg
   have e49 : a.tmps.getD 49 undef = .slice ad 2 cd := got_of hg (j := 0) rfl rfl rfl
   have e52 := (got_of hg (j := 3) rfl rfl rfl : Rg.Tab.S _ _ (a.tmps.getD 52 undef) w)
   have f49 := Rg.gd e49
   obtain ⟨gq, Gq, eq, Rq⟩ := e52; have f52 := Rg.gd eq; exact Or.inl ⟨wanted_none rfl, wp_calls hb.size (run_call (args := #[.slice ad 2 cd, .slice (some ⟨gq, 0, none⟩) 2 2]) enters_bs (by simp [Act.eval, f49, f52])) ((rBoxSame_any _ _ _ w (HT.out.below hb).dv (ivs_row Rq)).mono (by rintro e w' ⟨rfl, hb2⟩; exact ⟨_, rfl, hb2, rfl⟩))⟩
  refine AllIn.cons ?_ ?_
  ·intro a w hz hb ho hg
   have e53 : a.tmps.getD 53 undef = .bool true := got_of hg (j := 4) rfl rfl rfl
   have f53 := Rg.gd e53
   exact wv hb rfl (by simp [execOp, Act.eval, e53, f53, go_sem]) rfl
  refine AllIn.cons ?_ ?_
  ·intro a w hz hb ho hg
   have e1 : a.tmps.getD 1 undef = .pointer (some ⟨g1, 0, none⟩) := ho 1 (by kernel_rfl)
   have f1 := Rg.gd e1
   have q := (hb.cell (p := ⟨g1, 0, none⟩) hl1).trans c0
   have q' := (hb.cell (p := ⟨g1, 1, none⟩) hl1).trans c1
   exact Or.inl ⟨by rw [wanted_of (j := 5) rfl rfl rfl (show a.tmps.getD 54 undef = .bool true from got_of hg (j := 5) rfl rfl rfl)]; rfl, wp_value hb.size (by simp [execOp, Act.eval, e1, f1, q, q', go_sem]) (Below.refl _ _) rfl⟩
  refine AllIn.cons ?_ ?_
  ·intro a w hz hb ho hg
   have e55 : a.tmps.getD 55 undef = .agg #[.slice an 2 cn, .slice af 2 cf] := got_of hg (j := 6) rfl rfl rfl
   have f55 := Rg.gd e55
   exact Or.inl ⟨by rw [wanted_of (j := 5) rfl rfl rfl (show a.tmps.getD 54 undef = .bool true from got_of hg (j := 5) rfl rfl rfl)]; rfl, wp_calls hb.size (run_call (args := #[.agg #[.slice an 2 cn, .slice af 2 cf]]) enters_fm (by simp [Act.eval, f55])) ((Format_is (names := [⟨#[120]⟩, ⟨#[118]⟩]) ts0 (by decide) rfl ts0_ok (by decide) _ _ w (HT.out.below hb).san.sn (HT.out.below hb).san.fs (HT.out.below hb).san.lb.tabs (⟨#[120, 39, 32, 61, 32, 118, 10, 118, 39, 32, 61, 32, 40, 45, 120, 41, 10]⟩ : ByteArray) (by kernel_rfl)).mono (by rintro e w' ⟨rfl, hb2⟩; exact ⟨_, rfl, hb2, rfl⟩))⟩
  refine AllIn.cons ?_ ?_
  ·intro a w hz hb ho hg
   have e56 : a.tmps.getD 56 undef = .string (⟨#[120, 39, 32, 61, 32, 118, 10, 118, 39, 32, 61, 32, 40, 45, 120, 41, 10]⟩ : ByteArray) := got_of hg (j := 7) rfl rfl rfl
   have f56 := Rg.gd e56
   exact Or.inl ⟨by rw [wanted_of (j := 5) rfl rfl rfl (show a.tmps.getD 54 undef = .bool true from got_of hg (j := 5) rfl rfl rfl)]; rfl, wp_value hb.size (by simp [execOp, Act.eval, e56, f56, eqg_s, eq_ss, go_sem]) (Below.refl _ _) rfl⟩
  refine AllIn.cons ?_ ?_
  ·intro a w hz hb ho hg
   have e54 : a.tmps.getD 54 undef = .bool true := got_of hg (j := 5) rfl rfl rfl
   have e57 : a.tmps.getD 57 undef = .bool true := got_of hg (j := 8) rfl rfl rfl
   have f54 := Rg.gd e54
   have f57 := Rg.gd e57
   exact wv hb rfl (by simp [execOp, Act.eval, e54, e57, f54, f57, go_sem]) rfl
  refine AllIn.cons ?_ ?_
  ·intro a w hz hb ho hg
   have e58 : a.tmps.getD 58 undef = .bool true := got_of hg (j := 9) rfl rfl rfl
   have f58 := Rg.gd e58
   exact wv hb rfl (by simp [execOp, Act.eval, e58, f58, go_sem]) rfl
  refine AllIn.cons ?_ ?_
  ·intro a w hz hb ho hg
   have e1 : a.tmps.getD 1 undef = .pointer (some ⟨g1, 0, none⟩) := ho 1 (by kernel_rfl)
   have f1 := Rg.gd e1
   have q := (hb.cell (p := ⟨g1, 0, none⟩) hl1).trans c0
   have q' := (hb.cell (p := ⟨g1, 1, none⟩) hl1).trans c1
   exact Or.inl ⟨by rw [wanted_of (j := 10) rfl rfl rfl (show a.tmps.getD 59 undef = .bool true from got_of hg (j := 10) rfl rfl rfl)]; rfl, wp_value hb.size (by simp [execOp, Act.eval, e1, f1, q, q', go_sem]) (Below.refl _ _) rfl⟩
  refine AllIn.cons ?_ ?_
  ·intro a w hz hb ho hg
   have e60 : a.tmps.getD 60 undef = .agg #[.slice an 2 cn, .slice af 2 cf] := got_of hg (j := 11) rfl rfl rfl
   have f60 := Rg.gd e60
   exact Or.inl ⟨by rw [wanted_of (j := 10) rfl rfl rfl (show a.tmps.getD 59 undef = .bool true from got_of hg (j := 10) rfl rfl rfl)]; rfl, wp_calls hb.size (run_call (args := #[.agg #[.slice an 2 cn, .slice af 2 cf]]) enters_va (by simp [Act.eval, f60])) ((Valid_any _ _ _ _ w (HT.out.below hb).san.sn (HT.out.below hb).san.fs).mono (by rintro e w' ⟨rfl, hb2⟩; exact ⟨_, rfl, hb2, rfl⟩))⟩
  refine AllIn.cons ?_ ?_
  ·intro a w hz hb ho hg
   have e59 : a.tmps.getD 59 undef = .bool true := got_of hg (j := 10) rfl rfl rfl
   have e61 : a.tmps.getD 61 undef = .bool true := got_of hg (j := 12) rfl rfl rfl
   have f59 := Rg.gd e59
   have f61 := Rg.gd e61
   exact wv hb rfl (by simp [execOp, Act.eval, e59, e61, f59, f61, go_sem]) rfl
  refine AllIn.cons ?_ ?_
  ·intro a w hz hb ho hg
   have e62 : a.tmps.getD 62 undef = .bool true := got_of hg (j := 13) rfl rfl rfl
   have f62 := Rg.gd e62
   exact wv hb rfl (by simp [execOp, Act.eval, e62, f62, go_sem]) rfl
  refine AllIn.cons ?_ ?_
  ·intro a w hz hb ho hg
   exact Or.inl ⟨by rw [wanted_of (j := 14) rfl rfl rfl (show a.tmps.getD 63 undef = .bool true from got_of hg (j := 14) rfl rfl rfl)]; rfl, wp_value hb.size (by simp [execOp, Act.eval, go_sem]) (Below.refl _ _) rfl⟩
  refine AllIn.cons ?_ ?_
  ·intro a w hz hb ho hg
   have e64 : a.tmps.getD 64 undef = .agg #[.slice none 0 0, .slice none 0 0] := got_of hg (j := 15) rfl rfl rfl
   have f64 := Rg.gd e64
   exact Or.inl ⟨by rw [wanted_of (j := 14) rfl rfl rfl (show a.tmps.getD 63 undef = .bool true from got_of hg (j := 14) rfl rfl rfl)]; rfl, wp_calls hb.size (run_call (args := #[.agg #[.slice none 0 0, .slice none 0 0]]) enters_va (by simp [Act.eval, f64])) ((Valid_any _ _ _ _ w (strs_nil w) (fs_nil w)).mono (by rintro e w' ⟨rfl, hb2⟩; exact ⟨_, rfl, hb2, rfl⟩))⟩
  refine AllIn.cons ?_ ?_
  ·intro a w hz hb ho hg
   have e65 : a.tmps.getD 65 undef = .bool false := got_of hg (j := 16) rfl rfl rfl
   have f65 := Rg.gd e65
   exact Or.inl ⟨by rw [wanted_of (j := 14) rfl rfl rfl (show a.tmps.getD 63 undef = .bool true from got_of hg (j := 14) rfl rfl rfl)]; rfl, wp_value hb.size (by simp [execOp, Act.eval, e65, f65, go_sem]) (Below.refl _ _) rfl⟩
  refine AllIn.cons ?_ ?_
  ·intro a w hz hb ho hg
   have e63 : a.tmps.getD 63 undef = .bool true := got_of hg (j := 14) rfl rfl rfl
   have e66 : a.tmps.getD 66 undef = .bool true := got_of hg (j := 17) rfl rfl rfl
   have f63 := Rg.gd e63
   have f66 := Rg.gd e66
   exact wv hb rfl (by simp [execOp, Act.eval, e63, e66, f63, f66, go_sem]) rfl
  refine AllIn.cons ?_ ?_
  ·intro a w hz hb ho hg
   have e67 : a.tmps.getD 67 undef = .bool true := got_of hg (j := 18) rfl rfl rfl
   have f67 := Rg.gd e67
   exact wv hb rfl (by simp [execOp, Act.eval, e67, f67, go_sem]) rfl
  refine AllIn.cons ?_ ?_
  ·intro a w hz hb ho hg
   have e7 : a.tmps.getD 7 undef = .slice ag 4 cg := ho 7 (by kernel_rfl)
   have f7 := Rg.gd e7
   exact Or.inl ⟨by rw [wanted_of (j := 19) rfl rfl rfl (show a.tmps.getD 68 undef = .bool true from got_of hg (j := 19) rfl rfl rfl)]; rfl, wp_value hb.size (by simp [execOp, Act.eval, e7, f7, go_sem]) (Below.refl _ _) rfl⟩
  refine AllIn.cons ?_ ?_
  ·intro a w hz hb ho hg
   have e69 : a.tmps.getD 69 undef = .slice ag 4 cg := got_of hg (j := 20) rfl rfl rfl
   have f69 := Rg.gd e69
   exact Or.inl ⟨by rw [wanted_of (j := 19) rfl rfl rfl (show a.tmps.getD 68 undef = .bool true from got_of hg (j := 19) rfl rfl rfl)]; rfl, wp_calls hb.size (run_call (args := #[.slice ag 4 cg, .slice none 0 0]) enters_fe (by simp [Act.eval, f69])) ((FE_any (vars := []) (by decide) tg (tg_ok _) _ _ w (HT.out.below hb).gt (strs_nil w) (HT.out.below hb).san.lb.tabs (⟨#[40, 49, 46, 53, 32, 45, 32, 115, 113, 114, 40, 116, 41, 41]⟩ : ByteArray) (by kernel_rfl)).mono (by rintro e w' ⟨rfl, hb2⟩; exact ⟨_, rfl, hb2, rfl⟩))⟩
  refine AllIn.cons ?_ ?_
  ·intro a w hz hb ho hg
   have e70 : a.tmps.getD 70 undef = .string (⟨#[40, 49, 46, 53, 32, 45, 32, 115, 113, 114, 40, 116, 41, 41]⟩ : ByteArray) := got_of hg (j := 21) rfl rfl rfl
   have f70 := Rg.gd e70
   exact Or.inl ⟨by rw [wanted_of (j := 19) rfl rfl rfl (show a.tmps.getD 68 undef = .bool true from got_of hg (j := 19) rfl rfl rfl)]; rfl, wp_value hb.size (by simp [execOp, Act.eval, e70, f70, eqg_s, eq_ss, go_sem]) (Below.refl _ _) rfl⟩
  refine AllIn.cons ?_ ?_
  ·intro a w hz hb ho hg
   have e68 : a.tmps.getD 68 undef = .bool true := got_of hg (j := 19) rfl rfl rfl
   have e71 : a.tmps.getD 71 undef = .bool true := got_of hg (j := 22) rfl rfl rfl
   have f68 := Rg.gd e68
   have f71 := Rg.gd e71
   exact wv hb rfl (by simp [execOp, Act.eval, e68, e71, f68, f71, go_sem]) rfl
  refine AllIn.cons ?_ ?_
  ·intro a w hz hb ho hg
   have e72 : a.tmps.getD 72 undef = .bool true := got_of hg (j := 23) rfl rfl rfl
   have f72 := Rg.gd e72
   exact wv hb rfl (by simp [execOp, Act.eval, e72, f72, go_sem]) rfl
  refine AllIn.cons ?_ ?_
  ·intro a w hz hb ho hg
   have e7 : a.tmps.getD 7 undef = .slice ag 4 cg := ho 7 (by kernel_rfl)
   have f7 := Rg.gd e7
   exact Or.inl ⟨by rw [wanted_of (j := 24) rfl rfl rfl (show a.tmps.getD 73 undef = .bool true from got_of hg (j := 24) rfl rfl rfl)]; rfl, wp_value hb.size (by simp [execOp, Act.eval, e7, f7, go_sem]) (Below.refl _ _) rfl⟩
  refine AllIn.cons ?_ ?_
  ·intro a w hz hb ho hg
   have e74 : a.tmps.getD 74 undef = .slice ag 4 cg := got_of hg (j := 25) rfl rfl rfl
   have f74 := Rg.gd e74
   exact Or.inl ⟨by rw [wanted_of (j := 24) rfl rfl rfl (show a.tmps.getD 73 undef = .bool true from got_of hg (j := 24) rfl rfl rfl)]; rfl, wp_calls hb.size (run_call (args := #[.slice ag 4 cg, .int .i64 0]) enters_vx (by simp [Act.eval, f74])) ((validExpr_any _ _ 0 w (HT.out.below hb).gt).mono (by rintro e w' ⟨rfl, hb2⟩; exact ⟨_, rfl, hb2, rfl⟩))⟩
  refine AllIn.cons ?_ ?_
  ·intro a w hz hb ho hg
   have e73 : a.tmps.getD 73 undef = .bool true := got_of hg (j := 24) rfl rfl rfl
   have e75 : a.tmps.getD 75 undef = .bool true := got_of hg (j := 26) rfl rfl rfl
   have f73 := Rg.gd e73
   have f75 := Rg.gd e75
   exact wv hb rfl (by simp [execOp, Act.eval, e73, e75, f73, f75, go_sem]) rfl
  refine AllIn.cons ?_ ?_
  ·intro a w hz hb ho hg
   have e76 : a.tmps.getD 76 undef = .bool true := got_of hg (j := 27) rfl rfl rfl
   have f76 := Rg.gd e76
   exact wv hb rfl (by simp [execOp, Act.eval, e76, f76, go_sem]) rfl
  refine AllIn.cons ?_ ?_
  ·intro a w hz hb ho hg
   have e7 : a.tmps.getD 7 undef = .slice ag 4 cg := ho 7 (by kernel_rfl)
   have f7 := Rg.gd e7
   exact Or.inl ⟨by rw [wanted_of (j := 28) rfl rfl rfl (show a.tmps.getD 77 undef = .bool true from got_of hg (j := 28) rfl rfl rfl)]; rfl, wp_value hb.size (by simp [execOp, Act.eval, e7, f7, go_sem]) (Below.refl _ _) rfl⟩
  refine AllIn.cons ?_ ?_
  ·intro a w hz hb ho hg
   have e78 : a.tmps.getD 78 undef = .slice ag 4 cg := got_of hg (j := 29) rfl rfl rfl
   have f78 := Rg.gd e78
   exact Or.inl ⟨by rw [wanted_of (j := 28) rfl rfl rfl (show a.tmps.getD 77 undef = .bool true from got_of hg (j := 28) rfl rfl rfl)]; rfl, wp_value hb.size (by simp [execOp, Act.eval, e78, f78, hcg, go_sem]) (Below.refl _ _) rfl⟩
  refine AllIn.cons ?_ ?_
  ·intro a w hz hb ho hg
   have e79 : a.tmps.getD 79 undef = .slice ag 3 cg := got_of hg (j := 30) rfl rfl rfl
   have f79 := Rg.gd e79
   exact Or.inl ⟨by rw [wanted_of (j := 28) rfl rfl rfl (show a.tmps.getD 77 undef = .bool true from got_of hg (j := 28) rfl rfl rfl)]; rfl, wp_calls hb.size (run_call (args := #[.slice ag 3 cg, .int .i64 0]) enters_vx (by simp [Act.eval, f79])) ((validExpr_any _ _ 0 w (RdN.cut (e := flat tg) (HT.out.below hb).gt 3 (by decide) (flat_ne tg))).mono (by rintro e w' ⟨rfl, hb2⟩; exact ⟨_, rfl, hb2, rfl⟩))⟩
  refine AllIn.cons ?_ ?_
  ·intro a w hz hb ho hg
   have e80 : a.tmps.getD 80 undef = .bool false := got_of hg (j := 31) rfl rfl rfl
   have f80 := Rg.gd e80
   exact Or.inl ⟨by rw [wanted_of (j := 28) rfl rfl rfl (show a.tmps.getD 77 undef = .bool true from got_of hg (j := 28) rfl rfl rfl)]; rfl, wp_value hb.size (by simp [execOp, Act.eval, e80, f80, go_sem]) (Below.refl _ _) rfl⟩
  refine AllIn.cons ?_ ?_
  ·intro a w hz hb ho hg
   have e77 : a.tmps.getD 77 undef = .bool true := got_of hg (j := 28) rfl rfl rfl
   have e81 : a.tmps.getD 81 undef = .bool true := got_of hg (j := 32) rfl rfl rfl
   have f77 := Rg.gd e77
   have f81 := Rg.gd e81
   exact wv hb rfl (by simp [execOp, Act.eval, e77, e81, f77, f81, go_sem]) rfl
  refine AllIn.cons ?_ ?_
  ·intro a w hz hb ho hg
   have e82 : a.tmps.getD 82 undef = .bool true := got_of hg (j := 33) rfl rfl rfl
   have f82 := Rg.gd e82
   exact wv hb rfl (by simp [execOp, Act.eval, e82, f82, go_sem]) rfl
  refine AllIn.cons ?_ ?_
  ·intro a w hz hb ho hg
   exact Or.inl ⟨by rw [wanted_of (j := 34) rfl rfl rfl (show a.tmps.getD 83 undef = .bool true from got_of hg (j := 34) rfl rfl rfl)]; rfl, wp_calls hb.size (run_call (args := #[.slice none 0 0, .int .i64 1]) enters_vx (by simp [Act.eval])) ((validExpr_any _ _ 1 w (rdn_nil w)).mono (by rintro e w' ⟨rfl, hb2⟩; exact ⟨_, rfl, hb2, rfl⟩))⟩
  refine AllIn.cons ?_ ?_
  ·intro a w hz hb ho hg
   have e84 : a.tmps.getD 84 undef = .bool false := got_of hg (j := 35) rfl rfl rfl
   have f84 := Rg.gd e84
   exact Or.inl ⟨by rw [wanted_of (j := 34) rfl rfl rfl (show a.tmps.getD 83 undef = .bool true from got_of hg (j := 34) rfl rfl rfl)]; rfl, wp_value hb.size (by simp [execOp, Act.eval, e84, f84, go_sem]) (Below.refl _ _) rfl⟩
  refine AllIn.cons ?_ ?_
  ·intro a w hz hb ho hg
   have e83 : a.tmps.getD 83 undef = .bool true := got_of hg (j := 34) rfl rfl rfl
   have e85 : a.tmps.getD 85 undef = .bool true := got_of hg (j := 36) rfl rfl rfl
   have f83 := Rg.gd e83
   have f85 := Rg.gd e85
   exact wv hb rfl (by simp [execOp, Act.eval, e83, e85, f83, f85, go_sem]) rfl
  refine AllIn.cons ?_ ?_
  ·intro a w hz hb ho hg
   have e86 : a.tmps.getD 86 undef = .bool true := got_of hg (j := 37) rfl rfl rfl
   have f86 := Rg.gd e86
   exact wv hb rfl (by simp [execOp, Act.eval, e86, f86, go_sem]) rfl
  refine AllIn.cons ?_ ?_
  ·intro a w hz hb ho hg
   have e7 : a.tmps.getD 7 undef = .slice ag 4 cg := ho 7 (by kernel_rfl)
   have f7 := Rg.gd e7
   exact Or.inl ⟨by rw [wanted_of (j := 38) rfl rfl rfl (show a.tmps.getD 87 undef = .bool true from got_of hg (j := 38) rfl rfl rfl)]; rfl, wp_value hb.size (by simp [execOp, Act.eval, e7, f7, go_sem]) (Below.refl _ _) rfl⟩
  refine AllIn.cons ?_ ?_
  ·intro a w hz hb ho hg
   have e88 : a.tmps.getD 88 undef = .slice ag 4 cg := got_of hg (j := 39) rfl rfl rfl
   have f88 := Rg.gd e88
   exact Or.inl ⟨by rw [wanted_of (j := 38) rfl rfl rfl (show a.tmps.getD 87 undef = .bool true from got_of hg (j := 38) rfl rfl rfl)]; rfl, wp_calls hb.size (run_call (args := #[.slice ag 4 cg]) enters_os (by simp [Act.eval, f88])) ((Operands_any tg (tg_ok []) _ w (HT.out.below hb).gt).mono (by rintro e w' ⟨vo, rfl, hfo, hb2⟩; obtain ⟨ao, co, hvo⟩ := hfo.slice; exact ⟨_, rfl, hb2, ao, co, hvo⟩))⟩
  refine AllIn.cons ?_ ?_
  ·intro a w hz hb ho hg
   have e89 := (got_of hg (j := 40) rfl rfl rfl : Rg.Tab.S _ _ (a.tmps.getD 89 undef) w)
   obtain ⟨aq, cq, eq⟩ := e89; have f89 := Rg.gd eq; exact Or.inl ⟨by rw [wanted_of (j := 38) rfl rfl rfl (show a.tmps.getD 87 undef = .bool true from got_of hg (j := 38) rfl rfl rfl)]; rfl, wp_value hb.size (by simp [execOp, Act.eval, eq, f89, go_sem]) (Below.refl _ _) rfl⟩
  refine AllIn.cons ?_ ?_
  ·intro a w hz hb ho hg
   have e90 : a.tmps.getD 90 undef = .int .i64 2 := got_of hg (j := 41) rfl rfl rfl
   have f90 := Rg.gd e90
   exact Or.inl ⟨by rw [wanted_of (j := 38) rfl rfl rfl (show a.tmps.getD 87 undef = .bool true from got_of hg (j := 38) rfl rfl rfl)]; rfl, wp_value hb.size (by simp [execOp, Act.eval, e90, f90, go_sem]) (Below.refl _ _) rfl⟩
  refine AllIn.cons ?_ ?_
  ·intro a w hz hb ho hg
   have e87 : a.tmps.getD 87 undef = .bool true := got_of hg (j := 38) rfl rfl rfl
   have e91 : a.tmps.getD 91 undef = .bool true := got_of hg (j := 42) rfl rfl rfl
   have f87 := Rg.gd e87
   have f91 := Rg.gd e91
   exact wv hb rfl (by simp [execOp, Act.eval, e87, e91, f87, f91, go_sem]) rfl
  refine AllIn.cons ?_ ?_
  ·intro a w hz hb ho hg
   have e92 : a.tmps.getD 92 undef = .bool true := got_of hg (j := 43) rfl rfl rfl
   have f92 := Rg.gd e92
   exact wv hb rfl (by simp [execOp, Act.eval, e92, f92, go_sem]) rfl
  refine AllIn.cons ?_ ?_
  ·intro a w hz hb ho hg
   have e7 : a.tmps.getD 7 undef = .slice ag 4 cg := ho 7 (by kernel_rfl)
   have f7 := Rg.gd e7
   exact Or.inl ⟨by rw [wanted_of (j := 44) rfl rfl rfl (show a.tmps.getD 93 undef = .bool true from got_of hg (j := 44) rfl rfl rfl)]; rfl, wp_value hb.size (by simp [execOp, Act.eval, e7, f7, go_sem]) (Below.refl _ _) rfl⟩
  refine AllIn.cons ?_ ?_
  ·intro a w hz hb ho hg
   have e5 : a.tmps.getD 5 undef = .pointer (some ⟨g4 + 1, 0, none⟩) := ho 5 (by kernel_rfl)
   have f5 := Rg.gd e5
   have q := (hb.cell (p := ⟨g4 + 1, 0, none⟩) hl5).trans f0
   have q' := (hb.cell (p := ⟨g4 + 1, 1, none⟩) hl5).trans f1
   exact Or.inl ⟨by rw [wanted_of (j := 44) rfl rfl rfl (show a.tmps.getD 93 undef = .bool true from got_of hg (j := 44) rfl rfl rfl)]; rfl, wp_value hb.size (by simp [execOp, Act.eval, e5, f5, q, q', go_sem]) (Below.refl _ _) rfl⟩
  refine AllIn.cons ?_ ?_
  ·intro a w hz hb ho hg
   have e94 : a.tmps.getD 94 undef = .slice ag 4 cg := got_of hg (j := 45) rfl rfl rfl
   have e95 : a.tmps.getD 95 undef = .agg #[.int .i64 (-65536), .int .i64 131072] := got_of hg (j := 46) rfl rfl rfl
   have f94 := Rg.gd e94
   have f95 := Rg.gd e95
   exact Or.inl ⟨by rw [wanted_of (j := 44) rfl rfl rfl (show a.tmps.getD 93 undef = .bool true from got_of hg (j := 44) rfl rfl rfl)]; rfl, wp_calls hb.size (run_call (args := #[.slice ag 4 cg, .slice none 0 0, .agg #[.int .i64 (-65536), .int .i64 131072]]) enters_evl (by simp [Act.eval, f94, f95])) ((Eval_any (vars := []) tg (tg_ok []) [] (-65536, 131072) (by decide) (fun a ha => by cases ha) (okI_mk (by kernel_rfl)) _ _ w (HT.out.below hb).gt (ivs_nil w) (HT.out.below hb).san.lb.ends).mono (by rintro e w' ⟨rfl, hb2⟩; exact ⟨_, rfl, hb2, rfl⟩))⟩
  refine AllIn.cons ?_ ?_
  ·intro a w hz hb ho hg
   exact Or.inl ⟨by rw [wanted_of (j := 44) rfl rfl rfl (show a.tmps.getD 93 undef = .bool true from got_of hg (j := 44) rfl rfl rfl)]; rfl, wp_value hb.size (by simp [execOp, Act.eval, go_sem]) (Below.refl _ _) rfl⟩
  refine AllIn.cons ?_ ?_
  ·intro a w hz hb ho hg
   have e96 : a.tmps.getD 96 undef = .agg #[.int .i64 (-163840), .int .i64 98304] := got_of hg (j := 47) rfl rfl rfl
   have e97 : a.tmps.getD 97 undef = .agg #[.int .i64 (-163840), .int .i64 98304] := got_of hg (j := 48) rfl rfl rfl
   have f96 := Rg.gd e96
   have f97 := Rg.gd e97
   exact Or.inl ⟨by rw [wanted_of (j := 44) rfl rfl rfl (show a.tmps.getD 93 undef = .bool true from got_of hg (j := 44) rfl rfl rfl)]; rfl, wp_value hb.size (by simp [execOp, Act.eval, e96, f96, e97, f97, eqg_iv, eq_iv2, go_sem]) (Below.refl _ _) rfl⟩
  refine AllIn.cons ?_ ?_
  ·intro a w hz hb ho hg
   have e93 : a.tmps.getD 93 undef = .bool true := got_of hg (j := 44) rfl rfl rfl
   have e98 : a.tmps.getD 98 undef = .bool true := got_of hg (j := 49) rfl rfl rfl
   have f93 := Rg.gd e93
   have f98 := Rg.gd e98
   exact wv hb rfl (by simp [execOp, Act.eval, e93, e98, f93, f98, go_sem]) rfl
  refine AllIn.cons ?_ ?_
  ·intro a w hz hb ho hg
   have e99 : a.tmps.getD 99 undef = .bool true := got_of hg (j := 50) rfl rfl rfl
   have f99 := Rg.gd e99
   exact wv hb rfl (by simp [execOp, Act.eval, e99, f99, go_sem]) rfl
  refine AllIn.cons ?_ ?_
  ·intro a w hz hb ho hg
   have e5 : a.tmps.getD 5 undef = .pointer (some ⟨g4 + 1, 0, none⟩) := ho 5 (by kernel_rfl)
   have f5 := Rg.gd e5
   have q := (hb.cell (p := ⟨g4 + 1, 0, none⟩) hl5).trans f0
   have q' := (hb.cell (p := ⟨g4 + 1, 1, none⟩) hl5).trans f1
   exact Or.inl ⟨by rw [wanted_of (j := 51) rfl rfl rfl (show a.tmps.getD 100 undef = .bool true from got_of hg (j := 51) rfl rfl rfl)]; rfl, wp_value hb.size (by simp [execOp, Act.eval, e5, f5, q, q', go_sem]) (Below.refl _ _) rfl⟩
  refine AllIn.cons ?_ ?_
  ·intro a w hz hb ho hg
   have e101 : a.tmps.getD 101 undef = .agg #[.int .i64 (-65536), .int .i64 131072] := got_of hg (j := 52) rfl rfl rfl
   have f101 := Rg.gd e101
   exact Or.inl ⟨by rw [wanted_of (j := 51) rfl rfl rfl (show a.tmps.getD 100 undef = .bool true from got_of hg (j := 51) rfl rfl rfl)]; rfl, wp_calls hb.size (run_call (args := #[.agg #[.int .i64 (-65536), .int .i64 131072]]) enters_rct (by simp [Act.eval, f101])) ((rConst_any (-65536, 131072) w).mono (by rintro e w' ⟨vo, rfl, ho, hb2⟩; exact ⟨_, rfl, hb2, ho.rdN (by decide), ho.rd⟩))⟩
  refine AllIn.cons ?_ ?_
  ·intro a w hz hb ho hg
   have e102 := (got_of hg (j := 53) rfl rfl rfl : Rg.Tab.S _ _ (a.tmps.getD 102 undef) w)
   exact Or.inl ⟨by rw [wanted_of (j := 51) rfl rfl rfl (show a.tmps.getD 100 undef = .bool true from got_of hg (j := 51) rfl rfl rfl)]; rfl, wp_calls hb.size (run_call (args := #[.int .i64 6, a.tmps.getD 102 undef]) enters_un (by simp [Act.eval])) ((rUnary_any w 6 _ [⟨1, 0, -65536, 131072⟩] e102.2 (by simp) (by decide)).mono (by rintro e w' ⟨vo, rfl, ho, hb2⟩; exact ⟨_, rfl, hb2, ho.rdN (by decide), ho.rd⟩))⟩
  refine AllIn.cons ?_ ?_
  ·intro a w hz hb ho hg
   have e4 : a.tmps.getD 4 undef = .pointer (some ⟨g4, 0, none⟩) := ho 4 (by kernel_rfl)
   have f4 := Rg.gd e4
   have q := (hb.cell (p := ⟨g4, 0, none⟩) hl4).trans d0
   have q' := (hb.cell (p := ⟨g4, 1, none⟩) hl4).trans d1
   exact Or.inl ⟨by rw [wanted_of (j := 51) rfl rfl rfl (show a.tmps.getD 100 undef = .bool true from got_of hg (j := 51) rfl rfl rfl)]; rfl, wp_value hb.size (by simp [execOp, Act.eval, e4, f4, q, q', go_sem]) (Below.refl _ _) rfl⟩
  refine AllIn.cons ?_ ?_
  ·intro a w hz hb ho hg
   have e103 := (got_of hg (j := 54) rfl rfl rfl : Rg.Tab.S _ _ (a.tmps.getD 103 undef) w)
   have e104 : a.tmps.getD 104 undef = .agg #[.int .i64 65536, .int .i64 65536] := got_of hg (j := 55) rfl rfl rfl
   have f104 := Rg.gd e104
   exact Or.inl ⟨by rw [wanted_of (j := 51) rfl rfl rfl (show a.tmps.getD 100 undef = .bool true from got_of hg (j := 51) rfl rfl rfl)]; rfl, wp_calls hb.size (run_call (args := #[a.tmps.getD 103 undef, .slice none 0 0, .agg #[.int .i64 65536, .int .i64 65536]]) enters_evl (by simp [Act.eval, f104])) ((Eval_any (vars := []) (.un 6 (.num (-65536) 131072)) ⟨by decide, by show okIv (-65536) 131072 = true; kernel_rfl⟩ [] (65536, 65536) (by decide) (fun a ha => by cases ha) (okI_mk (by kernel_rfl)) _ _ w e103.1 (ivs_nil w) (HT.out.below hb).san.lb.ends).mono (by rintro e w' ⟨rfl, hb2⟩; exact ⟨_, rfl, hb2, rfl⟩))⟩
  refine AllIn.cons ?_ ?_
  ·intro a w hz hb ho hg
   have e105 : a.tmps.getD 105 undef = .agg #[.int .i64 (-2147483648), .int .i64 2147483648] := got_of hg (j := 56) rfl rfl rfl
   have f105 := Rg.gd e105
   exact Or.inl ⟨by rw [wanted_of (j := 51) rfl rfl rfl (show a.tmps.getD 100 undef = .bool true from got_of hg (j := 51) rfl rfl rfl)]; rfl, wp_calls hb.size (run_call (args := #[.agg #[.int .i64 (-2147483648), .int .i64 2147483648]]) enters_ie (by simp [Act.eval, f105])) ((rIsEntire_any (-2147483648) 2147483648 w).mono (by rintro e w' ⟨rfl, hb2⟩; exact ⟨_, rfl, hb2, rfl⟩))⟩
  refine AllIn.cons ?_ ?_
  ·intro a w hz hb ho hg
   have e100 : a.tmps.getD 100 undef = .bool true := got_of hg (j := 51) rfl rfl rfl
   have e106 : a.tmps.getD 106 undef = .bool true := got_of hg (j := 57) rfl rfl rfl
   have f100 := Rg.gd e100
   have f106 := Rg.gd e106
   exact wv hb rfl (by simp [execOp, Act.eval, e100, e106, f100, f106, go_sem]) rfl
  refine AllIn.cons ?_ ?_
  ·intro a w hz hb ho hg
   have e107 : a.tmps.getD 107 undef = .bool true := got_of hg (j := 58) rfl rfl rfl
   have f107 := Rg.gd e107
   exact wv hb rfl (by simp [execOp, Act.eval, e107, f107, go_sem]) rfl
  refine AllIn.cons ?_ ?_
  ·intro a w hz hb ho hg
   exact Or.inl ⟨by rw [wanted_of (j := 59) rfl rfl rfl (show a.tmps.getD 108 undef = .bool true from got_of hg (j := 59) rfl rfl rfl)]; rfl, wp_calls hb.size (run_call (args := #[.string (⟨#[120, 39, 32, 61, 32, 121]⟩ : ByteArray), .int .i64 5, .int .i64 72]) enters_pf (by simp [Act.eval])) ((parseFails_any (⟨#[120, 39, 32, 61, 32, 121]⟩ : ByteArray) (by decide) 5 72 (by kernel_rfl) w (HT.out.below hb).san.lb).mono (by rintro e w' ⟨rfl, hb2⟩; exact ⟨_, rfl, hb2, rfl⟩))⟩
  refine AllIn.cons ?_ ?_
  ·intro a w hz hb ho hg
   have e108 : a.tmps.getD 108 undef = .bool true := got_of hg (j := 59) rfl rfl rfl
   have e109 : a.tmps.getD 109 undef = .bool true := got_of hg (j := 60) rfl rfl rfl
   have f108 := Rg.gd e108
   have f109 := Rg.gd e109
   exact wv hb rfl (by simp [execOp, Act.eval, e108, e109, f108, f109, go_sem]) rfl
  refine AllIn.cons ?_ ?_
  ·intro a w hz hb ho hg
   have e110 : a.tmps.getD 110 undef = .bool true := got_of hg (j := 61) rfl rfl rfl
   have f110 := Rg.gd e110
   exact wv hb rfl (by simp [execOp, Act.eval, e110, f110, go_sem]) rfl
  refine AllIn.cons ?_ ?_
  ·intro a w hz hb ho hg
   exact Or.inl ⟨by rw [wanted_of (j := 62) rfl rfl rfl (show a.tmps.getD 111 undef = .bool true from got_of hg (j := 62) rfl rfl rfl)]; rfl, wp_calls hb.size (run_call (args := #[.string (⟨#[120, 39, 32, 61, 32, 40, 120]⟩ : ByteArray), .int .i64 7, .int .i64 71]) enters_pf (by simp [Act.eval])) ((parseFails_any (⟨#[120, 39, 32, 61, 32, 40, 120]⟩ : ByteArray) (by decide) 7 71 (by kernel_rfl) w (HT.out.below hb).san.lb).mono (by rintro e w' ⟨rfl, hb2⟩; exact ⟨_, rfl, hb2, rfl⟩))⟩
  refine AllIn.cons ?_ ?_
  ·intro a w hz hb ho hg
   have e111 : a.tmps.getD 111 undef = .bool true := got_of hg (j := 62) rfl rfl rfl
   have e112 : a.tmps.getD 112 undef = .bool true := got_of hg (j := 63) rfl rfl rfl
   have f111 := Rg.gd e111
   have f112 := Rg.gd e112
   exact wv hb rfl (by simp [execOp, Act.eval, e111, e112, f111, f112, go_sem]) rfl
  refine AllIn.cons ?_ ?_
  ·intro a w hz hb ho hg
   have e113 : a.tmps.getD 113 undef = .bool true := got_of hg (j := 64) rfl rfl rfl
   have f113 := Rg.gd e113
   exact wv hb rfl (by simp [execOp, Act.eval, e113, f113, go_sem]) rfl
  refine AllIn.cons ?_ ?_
  ·intro a w hz hb ho hg
   exact Or.inl ⟨by rw [wanted_of (j := 65) rfl rfl rfl (show a.tmps.getD 114 undef = .bool true from got_of hg (j := 65) rfl rfl rfl)]; rfl, wp_calls hb.size (run_call (args := #[.string (⟨#[120, 32, 61, 32, 49]⟩ : ByteArray), .int .i64 2, .int .i64 70]) enters_pf (by simp [Act.eval])) ((parseFails_any (⟨#[120, 32, 61, 32, 49]⟩ : ByteArray) (by decide) 2 70 (by kernel_rfl) w (HT.out.below hb).san.lb).mono (by rintro e w' ⟨rfl, hb2⟩; exact ⟨_, rfl, hb2, rfl⟩))⟩
  refine AllIn.cons ?_ ?_
  ·intro a w hz hb ho hg
   have e114 : a.tmps.getD 114 undef = .bool true := got_of hg (j := 65) rfl rfl rfl
   have e115 : a.tmps.getD 115 undef = .bool true := got_of hg (j := 66) rfl rfl rfl
   have f114 := Rg.gd e114
   have f115 := Rg.gd e115
   exact wv hb rfl (by simp [execOp, Act.eval, e114, e115, f114, f115, go_sem]) rfl
  refine AllIn.cons ?_ ?_
  ·intro a w hz hb ho hg
   have e116 : a.tmps.getD 116 undef = .bool true := got_of hg (j := 67) rfl rfl rfl
   have f116 := Rg.gd e116
   exact wv hb rfl (by simp [execOp, Act.eval, e116, f116, go_sem]) rfl
  refine AllIn.cons ?_ ?_
  ·intro a w hz hb ho hg
   exact Or.inl ⟨by rw [wanted_of (j := 68) rfl rfl rfl (show a.tmps.getD 117 undef = .bool true from got_of hg (j := 68) rfl rfl rfl)]; rfl, wp_calls hb.size (run_call (args := #[.string (⟨#[120, 39, 32, 61, 32, 120, 32, 120, 39, 32, 61, 32, 49]⟩ : ByteArray), .int .i64 7, .int .i64 70]) enters_pf (by simp [Act.eval])) ((parseFails_any (⟨#[120, 39, 32, 61, 32, 120, 32, 120, 39, 32, 61, 32, 49]⟩ : ByteArray) (by decide) 7 70 (by kernel_rfl) w (HT.out.below hb).san.lb).mono (by rintro e w' ⟨rfl, hb2⟩; exact ⟨_, rfl, hb2, rfl⟩))⟩
  refine AllIn.cons ?_ ?_
  ·intro a w hz hb ho hg
   have e117 : a.tmps.getD 117 undef = .bool true := got_of hg (j := 68) rfl rfl rfl
   have e118 : a.tmps.getD 118 undef = .bool true := got_of hg (j := 69) rfl rfl rfl
   have f117 := Rg.gd e117
   have f118 := Rg.gd e118
   exact wv hb rfl (by simp [execOp, Act.eval, e117, e118, f117, f118, go_sem]) rfl
  refine AllIn.cons ?_ ?_
  ·intro a w hz hb ho hg
   have e119 : a.tmps.getD 119 undef = .bool true := got_of hg (j := 70) rfl rfl rfl
   have f119 := Rg.gd e119
   exact wv hb rfl (by simp [execOp, Act.eval, e119, f119, go_sem]) rfl
  refine AllIn.cons ?_ ?_
  ·intro a w hz hb ho hg
   exact Or.inl ⟨by rw [wanted_of (j := 71) rfl rfl rfl (show a.tmps.getD 120 undef = .bool true from got_of hg (j := 71) rfl rfl rfl)]; rfl, wp_calls hb.size (run_call (args := #[.string (⟨#[120, 39, 32, 61, 32, 49, 10, 120, 39, 32, 61, 32, 50]⟩ : ByteArray), .int .i64 7, .int .i64 72]) enters_pf (by simp [Act.eval])) ((parseFails_any (⟨#[120, 39, 32, 61, 32, 49, 10, 120, 39, 32, 61, 32, 50]⟩ : ByteArray) (by decide) 7 72 (by kernel_rfl) w (HT.out.below hb).san.lb).mono (by rintro e w' ⟨rfl, hb2⟩; exact ⟨_, rfl, hb2, rfl⟩))⟩
  refine AllIn.cons ?_ ?_
  ·intro a w hz hb ho hg
   have e120 : a.tmps.getD 120 undef = .bool true := got_of hg (j := 71) rfl rfl rfl
   have e121 : a.tmps.getD 121 undef = .bool true := got_of hg (j := 72) rfl rfl rfl
   have f120 := Rg.gd e120
   have f121 := Rg.gd e121
   exact wv hb rfl (by simp [execOp, Act.eval, e120, e121, f120, f121, go_sem]) rfl
  refine AllIn.cons ?_ ?_
  ·intro a w hz hb ho hg
   have e122 : a.tmps.getD 122 undef = .bool true := got_of hg (j := 73) rfl rfl rfl
   have f122 := Rg.gd e122
   exact wv hb rfl (by simp [execOp, Act.eval, e122, f122, go_sem]) rfl
  refine AllIn.cons ?_ ?_
  ·intro a w hz hb ho hg
   exact Or.inl ⟨by rw [wanted_of (j := 74) rfl rfl rfl (show a.tmps.getD 123 undef = .bool true from got_of hg (j := 74) rfl rfl rfl)]; rfl, wp_calls hb.size (run_call (args := #[.string (⟨#[116, 39, 32, 61, 32, 49]⟩ : ByteArray), .int .i64 0, .int .i64 70]) enters_pf (by simp [Act.eval])) ((parseFails_any (⟨#[116, 39, 32, 61, 32, 49]⟩ : ByteArray) (by decide) 0 70 (by kernel_rfl) w (HT.out.below hb).san.lb).mono (by rintro e w' ⟨rfl, hb2⟩; exact ⟨_, rfl, hb2, rfl⟩))⟩
  refine AllIn.cons ?_ ?_
  ·intro a w hz hb ho hg
   have e123 : a.tmps.getD 123 undef = .bool true := got_of hg (j := 74) rfl rfl rfl
   have e124 : a.tmps.getD 124 undef = .bool true := got_of hg (j := 75) rfl rfl rfl
   have f123 := Rg.gd e123
   have f124 := Rg.gd e124
   exact wv hb rfl (by simp [execOp, Act.eval, e123, e124, f123, f124, go_sem]) rfl
  refine AllIn.cons ?_ ?_
  ·intro a w hz hb ho hg
   have e125 : a.tmps.getD 125 undef = .bool true := got_of hg (j := 76) rfl rfl rfl
   have f125 := Rg.gd e125
   exact wv hb rfl (by simp [execOp, Act.eval, e125, f125, go_sem]) rfl
  refine AllIn.cons ?_ ?_
  ·intro a w hz hb ho hg
   exact Or.inl ⟨by rw [wanted_of (j := 77) rfl rfl rfl (show a.tmps.getD 126 undef = .bool true from got_of hg (j := 77) rfl rfl rfl)]; rfl, wp_calls hb.size (run_call (args := #[.string (⟨#[]⟩ : ByteArray), .int .i64 0, .int .i64 71]) enters_pf (by simp [Act.eval])) ((parseFails_any (⟨#[]⟩ : ByteArray) (by decide) 0 71 (by kernel_rfl) w (HT.out.below hb).san.lb).mono (by rintro e w' ⟨rfl, hb2⟩; exact ⟨_, rfl, hb2, rfl⟩))⟩
  refine AllIn.cons ?_ ?_
  ·intro a w hz hb ho hg
   have e126 : a.tmps.getD 126 undef = .bool true := got_of hg (j := 77) rfl rfl rfl
   have e127 : a.tmps.getD 127 undef = .bool true := got_of hg (j := 78) rfl rfl rfl
   have f126 := Rg.gd e126
   have f127 := Rg.gd e127
   exact wv hb rfl (by simp [execOp, Act.eval, e126, e127, f126, f127, go_sem]) rfl
  refine AllIn.cons ?_ ?_
  ·intro a w hz hb ho hg
   have e128 : a.tmps.getD 128 undef = .bool true := got_of hg (j := 79) rfl rfl rfl
   have f128 := Rg.gd e128
   exact wv hb rfl (by simp [execOp, Act.eval, e128, f128, go_sem]) rfl
  refine AllIn.cons ?_ ?_
  ·intro a w hz hb ho hg
   exact Or.inl ⟨by rw [wanted_of (j := 80) rfl rfl rfl (show a.tmps.getD 129 undef = .bool true from got_of hg (j := 80) rfl rfl rfl)]; rfl, wp_calls hb.size (run_call (args := #[.string (⟨#[120, 39, 32, 61, 32, 52, 48, 48, 48, 48]⟩ : ByteArray), .int .i64 0, .int .i64 2]) enters_pf (by simp [Act.eval])) ((parseFails_any (⟨#[120, 39, 32, 61, 32, 52, 48, 48, 48, 48]⟩ : ByteArray) (by decide) 0 2 (by kernel_rfl) w (HT.out.below hb).san.lb).mono (by rintro e w' ⟨rfl, hb2⟩; exact ⟨_, rfl, hb2, rfl⟩))⟩
  refine AllIn.cons ?_ ?_
  ·intro a w hz hb ho hg
   have e129 : a.tmps.getD 129 undef = .bool true := got_of hg (j := 80) rfl rfl rfl
   have e130 : a.tmps.getD 130 undef = .bool true := got_of hg (j := 81) rfl rfl rfl
   have f129 := Rg.gd e129
   have f130 := Rg.gd e130
   exact wv hb rfl (by simp [execOp, Act.eval, e129, e130, f129, f130, go_sem]) rfl
  refine AllIn.cons ?_ ?_
  ·intro a w hz hb ho hg
   have e131 : a.tmps.getD 131 undef = .bool true := got_of hg (j := 82) rfl rfl rfl
   have f131 := Rg.gd e131
   exact wv hb rfl (by simp [execOp, Act.eval, e131, f131, go_sem]) rfl
  refine AllIn.cons ?_ ?_
  ·intro a w hz hb ho hg
   exact Or.inl ⟨by rw [wanted_of (j := 83) rfl rfl rfl (show a.tmps.getD 132 undef = .bool true from got_of hg (j := 83) rfl rfl rfl)]; rfl, wp_calls hb.size (run_call (args := #[.string (⟨#[120, 39, 32, 61, 32, 91, 50, 44, 32, 49, 93]⟩ : ByteArray), .int .i64 0, .int .i64 2]) enters_pf (by simp [Act.eval])) ((parseFails_any (⟨#[120, 39, 32, 61, 32, 91, 50, 44, 32, 49, 93]⟩ : ByteArray) (by decide) 0 2 (by kernel_rfl) w (HT.out.below hb).san.lb).mono (by rintro e w' ⟨rfl, hb2⟩; exact ⟨_, rfl, hb2, rfl⟩))⟩
  refine AllIn.cons ?_ ?_
  ·intro a w hz hb ho hg
   have e132 : a.tmps.getD 132 undef = .bool true := got_of hg (j := 83) rfl rfl rfl
   have e133 : a.tmps.getD 133 undef = .bool true := got_of hg (j := 84) rfl rfl rfl
   have f132 := Rg.gd e132
   have f133 := Rg.gd e133
   exact wv hb rfl (by simp [execOp, Act.eval, e132, e133, f132, f133, go_sem]) rfl
  refine AllIn.cons ?_ ?_
  ·intro a w hz hb ho hg
   have e134 : a.tmps.getD 134 undef = .bool true := got_of hg (j := 85) rfl rfl rfl
   have f134 := Rg.gd e134
   exact wv hb rfl (by simp [execOp, Act.eval, e134, f134, go_sem]) rfl
  refine AllIn.cons ?_ ?_
  ·intro a w hz hb ho hg
   exact Or.inl ⟨by rw [wanted_of (j := 86) rfl rfl rfl (show a.tmps.getD 135 undef = .bool true from got_of hg (j := 86) rfl rfl rfl)]; rfl, wp_calls hb.size (run_call (args := #[.string (⟨#[120, 45, 118, 45, 49, 42, 45, 50]⟩ : ByteArray), .string (⟨#[40, 40, 120, 32, 45, 32, 118, 41, 32, 45, 32, 40, 49, 32, 42, 32, 40, 45, 50, 41, 41, 41]⟩ : ByteArray)]) enters_rf (by simp [Act.eval])) ((reformats_any (⟨#[120, 45, 118, 45, 49, 42, 45, 50]⟩ : ByteArray) (⟨#[40, 40, 120, 32, 45, 32, 118, 41, 32, 45, 32, 40, 49, 32, 42, 32, 40, 45, 50, 41, 41, 41]⟩ : ByteArray) (by decide) (.bin 8 (.bin 8 (.var 0) (.var 1)) (.bin 9 (.num 65536 65536) (.un 4 (.num 131072 131072)))) (by kernel_rfl) ⟨by decide, ⟨by decide, by show 0 < 2; decide, by show 1 < 2; decide⟩, ⟨by decide, by show okIv 65536 65536 = true; kernel_rfl, ⟨by decide, by show okIv 131072 131072 = true; kernel_rfl⟩⟩⟩ (by kernel_rfl) (by decide) w (HT.out.below hb).san.lb).mono (by rintro e w' ⟨rfl, hb2⟩; exact ⟨_, rfl, hb2, rfl⟩))⟩
  refine AllIn.cons ?_ ?_
  ·intro a w hz hb ho hg
   have e135 : a.tmps.getD 135 undef = .bool true := got_of hg (j := 86) rfl rfl rfl
   have e136 : a.tmps.getD 136 undef = .bool true := got_of hg (j := 87) rfl rfl rfl
   have f135 := Rg.gd e135
   have f136 := Rg.gd e136
   exact wv hb rfl (by simp [execOp, Act.eval, e135, e136, f135, f136, go_sem]) rfl
  refine AllIn.cons ?_ ?_
  ·intro a w hz hb ho hg
   have e137 : a.tmps.getD 137 undef = .bool true := got_of hg (j := 88) rfl rfl rfl
   have f137 := Rg.gd e137
   exact wv hb rfl (by simp [execOp, Act.eval, e137, f137, go_sem]) rfl
  refine AllIn.cons ?_ ?_
  ·intro a w hz hb ho hg
   exact Or.inl ⟨by rw [wanted_of (j := 89) rfl rfl rfl (show a.tmps.getD 138 undef = .bool true from got_of hg (j := 89) rfl rfl rfl)]; rfl, wp_calls hb.size (run_call (args := #[.string (⟨#[115, 113, 114, 116, 40, 97, 108, 108, 41, 47, 91, 45, 49, 44, 48, 46, 49, 93]⟩ : ByteArray), .string (⟨#[40, 115, 113, 114, 116, 40, 97, 108, 108, 41, 32, 47, 32, 91, 45, 49, 44, 32, 48, 46, 49, 48, 48, 48, 48, 54, 49, 48, 51, 53, 49, 53, 54, 50, 53, 93, 41]⟩ : ByteArray)]) enters_rf (by simp [Act.eval])) ((reformats_any (⟨#[115, 113, 114, 116, 40, 97, 108, 108, 41, 47, 91, 45, 49, 44, 48, 46, 49, 93]⟩ : ByteArray) (⟨#[40, 115, 113, 114, 116, 40, 97, 108, 108, 41, 32, 47, 32, 91, 45, 49, 44, 32, 48, 46, 49, 48, 48, 48, 48, 54, 49, 48, 51, 53, 49, 53, 54, 50, 53, 93, 41]⟩ : ByteArray) (by decide) (.bin 10 (.un 6 (.num (-2147483648) 2147483648)) (.num (-65536) 6554)) (by kernel_rfl) ⟨by decide, ⟨by decide, by show okIv (-2147483648) 2147483648 = true; kernel_rfl⟩, by show okIv (-65536) 6554 = true; kernel_rfl⟩ (by kernel_rfl) (by decide) w (HT.out.below hb).san.lb).mono (by rintro e w' ⟨rfl, hb2⟩; exact ⟨_, rfl, hb2, rfl⟩))⟩
  refine AllIn.cons ?_ ?_
  ·intro a w hz hb ho hg
   have e138 : a.tmps.getD 138 undef = .bool true := got_of hg (j := 89) rfl rfl rfl
   have e139 : a.tmps.getD 139 undef = .bool true := got_of hg (j := 90) rfl rfl rfl
   have f138 := Rg.gd e138
   have f139 := Rg.gd e139
   exact wv hb rfl (by simp [execOp, Act.eval, e138, e139, f138, f139, go_sem]) rfl
  refine AllIn.cons ?_ ?_
  ·intro a w hz hb ho hg
   have e140 : a.tmps.getD 140 undef = .bool true := got_of hg (j := 91) rfl rfl rfl
   have f140 := Rg.gd e140
   exact wv hb rfl (by simp [execOp, Act.eval, e140, f140, go_sem]) rfl
  refine AllIn.cons ?_ ?_
  ·intro a w hz hb ho hg
   have e9 : a.tmps.getD 9 undef = .int .i64 4 := ho 9 (by kernel_rfl)
   have f9 := Rg.gd e9
   exact Or.inl ⟨by rw [wanted_of (j := 92) rfl rfl rfl (show a.tmps.getD 141 undef = .bool true from got_of hg (j := 92) rfl rfl rfl)]; rfl, wp_value hb.size (by simp [execOp, Act.eval, e9, f9, go_sem]) (Below.refl _ _) rfl⟩
  refine AllIn.cons ?_ ?_
  ·intro a w hz hb ho hg
   have e142 : a.tmps.getD 142 undef = .int .i64 4 := got_of hg (j := 93) rfl rfl rfl
   have f142 := Rg.gd e142
   exact Or.inl ⟨by rw [wanted_of (j := 92) rfl rfl rfl (show a.tmps.getD 141 undef = .bool true from got_of hg (j := 92) rfl rfl rfl)]; rfl, wp_value hb.size (by simp [execOp, Act.eval, e142, f142, go_sem]) (Below.refl _ _) rfl⟩
  refine AllIn.cons ?_ ?_
  ·intro a w hz hb ho hg
   have e141 : a.tmps.getD 141 undef = .bool true := got_of hg (j := 92) rfl rfl rfl
   have e143 : a.tmps.getD 143 undef = .bool true := got_of hg (j := 94) rfl rfl rfl
   have f141 := Rg.gd e141
   have f143 := Rg.gd e143
   exact wv hb rfl (by simp [execOp, Act.eval, e141, e143, f141, f143, go_sem]) rfl
  refine AllIn.cons ?_ ?_
  ·intro a w hz hb ho hg
   have e144 : a.tmps.getD 144 undef = .bool true := got_of hg (j := 95) rfl rfl rfl
   have f144 := Rg.gd e144
   exact wv hb rfl (by simp [execOp, Act.eval, e144, f144, go_sem]) rfl
  refine AllIn.cons ?_ ?_
  ·intro a w hz hb ho hg
   have e10 : a.tmps.getD 10 undef = .int .i64 72 := ho 10 (by kernel_rfl)
   have f10 := Rg.gd e10
   exact Or.inl ⟨by rw [wanted_of (j := 96) rfl rfl rfl (show a.tmps.getD 145 undef = .bool true from got_of hg (j := 96) rfl rfl rfl)]; rfl, wp_value hb.size (by simp [execOp, Act.eval, e10, f10, go_sem]) (Below.refl _ _) rfl⟩
  refine AllIn.cons ?_ ?_
  ·intro a w hz hb ho hg
   have e146 : a.tmps.getD 146 undef = .int .i64 72 := got_of hg (j := 97) rfl rfl rfl
   have f146 := Rg.gd e146
   exact Or.inl ⟨by rw [wanted_of (j := 96) rfl rfl rfl (show a.tmps.getD 145 undef = .bool true from got_of hg (j := 96) rfl rfl rfl)]; rfl, wp_value hb.size (by simp [execOp, Act.eval, e146, f146, go_sem]) (Below.refl _ _) rfl⟩
  refine AllIn.cons ?_ ?_
  ·intro a w hz hb ho hg
   have e145 : a.tmps.getD 145 undef = .bool true := got_of hg (j := 96) rfl rfl rfl
   have e147 : a.tmps.getD 147 undef = .bool true := got_of hg (j := 98) rfl rfl rfl
   have f145 := Rg.gd e145
   have f147 := Rg.gd e147
   exact wv hb rfl (by simp [execOp, Act.eval, e145, e147, f145, f147, go_sem]) rfl
  exact AllIn.nil
 intro a W9 hd hz hb ho hg
 have e49 : a.tmps.getD 49 undef = .slice ad 2 cd := hg 0 (by decide) _ _ rfl rfl
 have e50 : a.tmps.getD 50 undef = .agg #[.int .i64 (-65536), .int .i64 131072] := hg 1 (by decide) _ _ rfl rfl
 have e51 : a.tmps.getD 51 undef = .agg #[.int .i64 (-65536), .int .i64 (-65536)] := hg 2 (by decide) _ _ rfl rfl
 have E52 := hg 3 (by decide) _ _ rfl rfl
 have e53 : a.tmps.getD 53 undef = .bool true := hg 4 (by decide) _ _ rfl rfl
 have e54 : a.tmps.getD 54 undef = .bool true := hg 5 (by decide) _ _ rfl rfl
 have e55 : a.tmps.getD 55 undef = .agg #[.slice an 2 cn, .slice af 2 cf] := hg 6 (by decide) _ _ rfl rfl
 have e56 : a.tmps.getD 56 undef = .string (⟨#[120, 39, 32, 61, 32, 118, 10, 118, 39, 32, 61, 32, 40, 45, 120, 41, 10]⟩ : ByteArray) := hg 7 (by decide) _ _ rfl rfl
 have e57 : a.tmps.getD 57 undef = .bool true := hg 8 (by decide) _ _ rfl rfl
 have e58 : a.tmps.getD 58 undef = .bool true := hg 9 (by decide) _ _ rfl rfl
 have e59 : a.tmps.getD 59 undef = .bool true := hg 10 (by decide) _ _ rfl rfl
 have e60 : a.tmps.getD 60 undef = .agg #[.slice an 2 cn, .slice af 2 cf] := hg 11 (by decide) _ _ rfl rfl
 have e61 : a.tmps.getD 61 undef = .bool true := hg 12 (by decide) _ _ rfl rfl
 have e62 : a.tmps.getD 62 undef = .bool true := hg 13 (by decide) _ _ rfl rfl
 have e63 : a.tmps.getD 63 undef = .bool true := hg 14 (by decide) _ _ rfl rfl
 have e64 : a.tmps.getD 64 undef = .agg #[.slice none 0 0, .slice none 0 0] := hg 15 (by decide) _ _ rfl rfl
 have e65 : a.tmps.getD 65 undef = .bool false := hg 16 (by decide) _ _ rfl rfl
 have e66 : a.tmps.getD 66 undef = .bool true := hg 17 (by decide) _ _ rfl rfl
 have e67 : a.tmps.getD 67 undef = .bool true := hg 18 (by decide) _ _ rfl rfl
 have e68 : a.tmps.getD 68 undef = .bool true := hg 19 (by decide) _ _ rfl rfl
 have e69 : a.tmps.getD 69 undef = .slice ag 4 cg := hg 20 (by decide) _ _ rfl rfl
 have e70 : a.tmps.getD 70 undef = .string (⟨#[40, 49, 46, 53, 32, 45, 32, 115, 113, 114, 40, 116, 41, 41]⟩ : ByteArray) := hg 21 (by decide) _ _ rfl rfl
 have e71 : a.tmps.getD 71 undef = .bool true := hg 22 (by decide) _ _ rfl rfl
 have e72 : a.tmps.getD 72 undef = .bool true := hg 23 (by decide) _ _ rfl rfl
 have e73 : a.tmps.getD 73 undef = .bool true := hg 24 (by decide) _ _ rfl rfl
 have e74 : a.tmps.getD 74 undef = .slice ag 4 cg := hg 25 (by decide) _ _ rfl rfl
 have e75 : a.tmps.getD 75 undef = .bool true := hg 26 (by decide) _ _ rfl rfl
 have e76 : a.tmps.getD 76 undef = .bool true := hg 27 (by decide) _ _ rfl rfl
 have e77 : a.tmps.getD 77 undef = .bool true := hg 28 (by decide) _ _ rfl rfl
 have e78 : a.tmps.getD 78 undef = .slice ag 4 cg := hg 29 (by decide) _ _ rfl rfl
 have e79 : a.tmps.getD 79 undef = .slice ag 3 cg := hg 30 (by decide) _ _ rfl rfl
 have e80 : a.tmps.getD 80 undef = .bool false := hg 31 (by decide) _ _ rfl rfl
 have e81 : a.tmps.getD 81 undef = .bool true := hg 32 (by decide) _ _ rfl rfl
 have e82 : a.tmps.getD 82 undef = .bool true := hg 33 (by decide) _ _ rfl rfl
 have e83 : a.tmps.getD 83 undef = .bool true := hg 34 (by decide) _ _ rfl rfl
 have e84 : a.tmps.getD 84 undef = .bool false := hg 35 (by decide) _ _ rfl rfl
 have e85 : a.tmps.getD 85 undef = .bool true := hg 36 (by decide) _ _ rfl rfl
 have e86 : a.tmps.getD 86 undef = .bool true := hg 37 (by decide) _ _ rfl rfl
 have e87 : a.tmps.getD 87 undef = .bool true := hg 38 (by decide) _ _ rfl rfl
 have e88 : a.tmps.getD 88 undef = .slice ag 4 cg := hg 39 (by decide) _ _ rfl rfl
 have E89 := hg 40 (by decide) _ _ rfl rfl
 have e90 : a.tmps.getD 90 undef = .int .i64 2 := hg 41 (by decide) _ _ rfl rfl
 have e91 : a.tmps.getD 91 undef = .bool true := hg 42 (by decide) _ _ rfl rfl
 have e92 : a.tmps.getD 92 undef = .bool true := hg 43 (by decide) _ _ rfl rfl
 have e93 : a.tmps.getD 93 undef = .bool true := hg 44 (by decide) _ _ rfl rfl
 have e94 : a.tmps.getD 94 undef = .slice ag 4 cg := hg 45 (by decide) _ _ rfl rfl
 have e95 : a.tmps.getD 95 undef = .agg #[.int .i64 (-65536), .int .i64 131072] := hg 46 (by decide) _ _ rfl rfl
 have e96 : a.tmps.getD 96 undef = .agg #[.int .i64 (-163840), .int .i64 98304] := hg 47 (by decide) _ _ rfl rfl
 have e97 : a.tmps.getD 97 undef = .agg #[.int .i64 (-163840), .int .i64 98304] := hg 48 (by decide) _ _ rfl rfl
 have e98 : a.tmps.getD 98 undef = .bool true := hg 49 (by decide) _ _ rfl rfl
 have e99 : a.tmps.getD 99 undef = .bool true := hg 50 (by decide) _ _ rfl rfl
 have e100 : a.tmps.getD 100 undef = .bool true := hg 51 (by decide) _ _ rfl rfl
 have e101 : a.tmps.getD 101 undef = .agg #[.int .i64 (-65536), .int .i64 131072] := hg 52 (by decide) _ _ rfl rfl
 have E102 := hg 53 (by decide) _ _ rfl rfl
 have E103 := hg 54 (by decide) _ _ rfl rfl
 have e104 : a.tmps.getD 104 undef = .agg #[.int .i64 65536, .int .i64 65536] := hg 55 (by decide) _ _ rfl rfl
 have e105 : a.tmps.getD 105 undef = .agg #[.int .i64 (-2147483648), .int .i64 2147483648] := hg 56 (by decide) _ _ rfl rfl
 have e106 : a.tmps.getD 106 undef = .bool true := hg 57 (by decide) _ _ rfl rfl
 have e107 : a.tmps.getD 107 undef = .bool true := hg 58 (by decide) _ _ rfl rfl
 have e108 : a.tmps.getD 108 undef = .bool true := hg 59 (by decide) _ _ rfl rfl
 have e109 : a.tmps.getD 109 undef = .bool true := hg 60 (by decide) _ _ rfl rfl
 have e110 : a.tmps.getD 110 undef = .bool true := hg 61 (by decide) _ _ rfl rfl
 have e111 : a.tmps.getD 111 undef = .bool true := hg 62 (by decide) _ _ rfl rfl
 have e112 : a.tmps.getD 112 undef = .bool true := hg 63 (by decide) _ _ rfl rfl
 have e113 : a.tmps.getD 113 undef = .bool true := hg 64 (by decide) _ _ rfl rfl
 have e114 : a.tmps.getD 114 undef = .bool true := hg 65 (by decide) _ _ rfl rfl
 have e115 : a.tmps.getD 115 undef = .bool true := hg 66 (by decide) _ _ rfl rfl
 have e116 : a.tmps.getD 116 undef = .bool true := hg 67 (by decide) _ _ rfl rfl
 have e117 : a.tmps.getD 117 undef = .bool true := hg 68 (by decide) _ _ rfl rfl
 have e118 : a.tmps.getD 118 undef = .bool true := hg 69 (by decide) _ _ rfl rfl
 have e119 : a.tmps.getD 119 undef = .bool true := hg 70 (by decide) _ _ rfl rfl
 have e120 : a.tmps.getD 120 undef = .bool true := hg 71 (by decide) _ _ rfl rfl
 have e121 : a.tmps.getD 121 undef = .bool true := hg 72 (by decide) _ _ rfl rfl
 have e122 : a.tmps.getD 122 undef = .bool true := hg 73 (by decide) _ _ rfl rfl
 have e123 : a.tmps.getD 123 undef = .bool true := hg 74 (by decide) _ _ rfl rfl
 have e124 : a.tmps.getD 124 undef = .bool true := hg 75 (by decide) _ _ rfl rfl
 have e125 : a.tmps.getD 125 undef = .bool true := hg 76 (by decide) _ _ rfl rfl
 have e126 : a.tmps.getD 126 undef = .bool true := hg 77 (by decide) _ _ rfl rfl
 have e127 : a.tmps.getD 127 undef = .bool true := hg 78 (by decide) _ _ rfl rfl
 have e128 : a.tmps.getD 128 undef = .bool true := hg 79 (by decide) _ _ rfl rfl
 have e129 : a.tmps.getD 129 undef = .bool true := hg 80 (by decide) _ _ rfl rfl
 have e130 : a.tmps.getD 130 undef = .bool true := hg 81 (by decide) _ _ rfl rfl
 have e131 : a.tmps.getD 131 undef = .bool true := hg 82 (by decide) _ _ rfl rfl
 have e132 : a.tmps.getD 132 undef = .bool true := hg 83 (by decide) _ _ rfl rfl
 have e133 : a.tmps.getD 133 undef = .bool true := hg 84 (by decide) _ _ rfl rfl
 have e134 : a.tmps.getD 134 undef = .bool true := hg 85 (by decide) _ _ rfl rfl
 have e135 : a.tmps.getD 135 undef = .bool true := hg 86 (by decide) _ _ rfl rfl
 have e136 : a.tmps.getD 136 undef = .bool true := hg 87 (by decide) _ _ rfl rfl
 have e137 : a.tmps.getD 137 undef = .bool true := hg 88 (by decide) _ _ rfl rfl
 have e138 : a.tmps.getD 138 undef = .bool true := hg 89 (by decide) _ _ rfl rfl
 have e139 : a.tmps.getD 139 undef = .bool true := hg 90 (by decide) _ _ rfl rfl
 have e140 : a.tmps.getD 140 undef = .bool true := hg 91 (by decide) _ _ rfl rfl
 have e141 : a.tmps.getD 141 undef = .bool true := hg 92 (by decide) _ _ rfl rfl
 have e142 : a.tmps.getD 142 undef = .int .i64 4 := hg 93 (by decide) _ _ rfl rfl
 have e143 : a.tmps.getD 143 undef = .bool true := hg 94 (by decide) _ _ rfl rfl
 have e144 : a.tmps.getD 144 undef = .bool true := hg 95 (by decide) _ _ rfl rfl
 have e145 : a.tmps.getD 145 undef = .bool true := hg 96 (by decide) _ _ rfl rfl
 have e146 : a.tmps.getD 146 undef = .int .i64 72 := hg 97 (by decide) _ _ rfl rfl
 have e147 : a.tmps.getD 147 undef = .bool true := hg 98 (by decide) _ _ rfl rfl
 have e148 : a.tmps.getD 148 undef = .bool true := hg 99 (by decide) _ _ rfl rfl
 obtain ⟨g52, G52, e52, R52⟩ := E52
 obtain ⟨u89, e89⟩ : ∃ u, a.tmps.getD 89 undef = u := ⟨_, rfl⟩
 obtain ⟨u102, e102⟩ : ∃ u, a.tmps.getD 102 undef = u := ⟨_, rfl⟩
 obtain ⟨u103, e103⟩ : ∃ u, a.tmps.getD 103 undef = u := ⟨_, rfl⟩
 have hA := ho.frame hz
 simp only [List.take_succ_cons, List.take_zero, List.filterMap_cons, List.filterMap_nil, List.foldl_cons, List.foldl_nil, e49, e50, e51, e52, e53, e54, e55, e56, e57, e58, e59, e60, e61, e62, e63, e64, e65, e66, e67, e68, e69, e70, e71, e72, e73, e74, e75, e76, e77, e78, e79, e80, e81, e82, e83, e84, e85, e86, e87, e88, e89, e90, e91, e92, e93, e94, e95, e96, e97, e98, e99, e100, e101, e102, e103, e104, e105, e106, e107, e108, e109, e110, e111, e112, e113, e114, e115, e116, e117, e118, e119, e120, e121, e122, e123, e124, e125, e126, e127, e128, e129, e130, e131, e132, e133, e134, e135, e136, e137, e138, e139, e140, e141, e142, e143, e144, e145, e146, e147, e148, List.setIfInBounds_toArray, List.set_cons_zero, List.set_cons_succ] at hA
 obtain ⟨tm, df⟩ := a
 simp only at hd hA
 subst hd
 subst hA
 simp only [List.drop_succ_cons, List.drop_zero]
 have HH3 := Aside.mk hb
 clear hz ho hg hb e49 e50 e51 e52 e53 e54 e55 e56 e57 e58 e59 e60 e61 e62 e63 e64 e65 e66 e67 e68 e69 e70 e71 e72 e73 e74 e75 e76 e77 e78 e79 e80 e81 e82 e83 e84 e85 e86 e87 e88 e89 e90 e91 e92 e93 e94 e95 e96 e97 e98 e99 e100 e101 e102 e103 e104 e105 e106 e107 e108 e109 e110 e111 e112 e113 e114 e115 e116 e117 e118 e119 e120 e121 e122 e123 e124 e125 e126 e127 e128 e129 e130 e131 e132 e133 e134 e135 e136 e137 e138 e139 e140 e141 e142 e143 e144 e145 e146 e147 e148
 go_wp2_with fail
 go_ret
 exact ⟨rfl, HB.out.trans (HH3.out.mono HB.out.size)⟩
end Go.Proofs.YthcidkidpiaomaaGreatDoor.Od
end
