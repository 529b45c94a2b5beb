/- OgB OhF0 OhH -/
import Derived.Test.YthcidkidpiaomaaGreatDoorKf23
import Derived.Test.YthcidkidpiaomaaGreatDoorKf21
import Derived.Test.YthcidkidpiaomaaGreatDoorKf08
section
set_option linter.unusedVariables false
set_option linter.unusedSimpArgs false
namespace Go.Proofs.YthcidkidpiaomaaGreatDoor.Od
open Go.RowKit Rg
theorem strL_is : ∀ (xs : List ByteArray) (l : List (List UInt8)), strL xs = l → xs = l.map fun y => (⟨y.toArray⟩ : ByteArray)
 | [], l, h => by subst h; rfl
 | x :: xs, l, h => by
  subst h
  have := strL_is xs (strL xs) rfl
  unfold strL at *
  rw [List.map_cons, List.map_cons, ← this]
def s1 : ByteArray := ⟨#[120, 39, 32, 61, 32, 118, 10, 118, 39, 32, 61, 32, 45, 120, 10]⟩
theorem s1_parse : parseSys s1.data.toList = .ok ([[120], [118]], [[⟨2, 1, 0, 0⟩], [⟨4, 0, 0, 0⟩, ⟨2, 0, 0, 0⟩]]) := by kernel_rfl
structure San (g1 g4 g5 : Nat) (an af : Option Addr) (cn cf : Nat) (W : World) : Prop where
 r1 : W.heap[g1]? = some (.cells #[.slice an 2 cn, .slice af 2 cf] 25 (0, 0))
 r4 : W.heap[g4]? = some (.cells #[.int .i64 65536, .int .i64 65536] 29 (0, 0))
 r5 : W.heap[g5]? = some (.cells #[.int .i64 (-65536), .int .i64 131072] 29 (0, 0))
 sn : Strs W (.slice an 2 cn) [⟨#[120]⟩, ⟨#[118]⟩]
 fs : Fs W (.slice af 2 cf) [[⟨2, 1, 0, 0⟩], [⟨4, 0, 0, 0⟩, ⟨2, 0, 0, 0⟩]]
 lb : Lb W
theorem San.below {g1 g4 g5 : Nat} {an af : Option Addr} {cn cf : Nat} {W W' : World} (h : San g1 g4 g5 an af cn cf W) (hb : Below W.heap.size W W') : San g1 g4 g5 an af cn cf W' :=
 ⟨(hb.block _ (heap_lt h.r1)).trans h.r1, (hb.block _ (heap_lt h.r4)).trans h.r4, (hb.block _ (heap_lt h.r5)).trans h.r5, h.sn.below hb, h.fs.below hb, h.lb.below hb⟩
theorem San.cells {g1 g4 g5 : Nat} {an af : Option Addr} {cn cf : Nat} {W : World} (h : San g1 g4 g5 an af cn cf W) :
  W.cell? ⟨g1, 0, none⟩ = some (.slice an 2 cn) ∧ W.cell? ⟨g1, 1, none⟩ = some (.slice af 2 cf) ∧ W.cell? ⟨g4, 0, none⟩ = some (.int .i64 65536) ∧ W.cell? ⟨g4, 1, none⟩ = some (.int .i64 65536) ∧ W.cell? ⟨g5, 0, none⟩ = some (.int .i64 (-65536)) ∧ W.cell? ⟨g5, 1, none⟩ = some (.int .i64 131072) :=
 ⟨by rw [cell_of_row _ _ 0 _ _ _ h.r1]; rfl, by rw [cell_of_row _ _ 1 _ _ _ h.r1]; rfl, by rw [cell_of_row _ _ 0 _ _ _ h.r4]; rfl, by rw [cell_of_row _ _ 1 _ _ _ h.r4]; rfl, by rw [cell_of_row _ _ 0 _ _ _ h.r5]; rfl, by rw [cell_of_row _ _ 1 _ _ _ h.r5]; rfl⟩
theorem enters_pt : ∀ args w, (callFunc 51 args).run Tryz.prog w = .ok (.enter 51 args) w := fun args w => by kernel_rfl
def xs0 : List Iv := [(65536, 65536), (-65536, 131072)]
def ts0 : List Tr := [.var 1, .un 4 (.var 0)]
theorem ts0_ok : ∀ t ∈ ts0, okT [[120], [118]] t := by
 intro t ht
 simp only [ts0, List.mem_cons, List.not_mem_nil, or_false] at ht
 rcases ht with rfl | rfl
 ·show 1 < 2; decide
 ·exact ⟨⟨by decide, by decide⟩, by show 0 < 2; decide⟩
theorem okI_mk {l h : Int} (h1 : okIv l h = true) : okI (l, h) := h1
theorem xs0_ok : ∀ a ∈ xs0, okI a := by
 intro a ha
 simp only [xs0, List.mem_cons, List.not_mem_nil, or_false] at ha
 rcases ha with rfl | rfl
 ·exact okI_mk (by kernel_rfl)
 ·exact okI_mk (by kernel_rfl)
theorem der0 : ts0.map (ev xs0 (0, 0)) = [(-65536, 131072), (-65536, -65536)] := by kernel_rfl
def tg : Tr := .bin 8 (.num 98304 98304) (.un 5 .time)
theorem tg_ok (vars : List (List UInt8)) : okT vars tg := ⟨⟨by decide, by decide⟩, by show okIv 98304 98304 = true; kernel_rfl, ⟨by decide, by decide⟩, trivial⟩
structure San2 (g1 g4 g5 : Nat) (an af : Option Addr) (cn cf : Nat) (vd : Value) (ag : Option Addr) (cg : Nat) (W : World) : Prop where
 san : San g1 g4 g5 an af cn cf W
 dv : Ivs W vd [(-65536, 131072), (-65536, -65536)]
 gt : RdN W (.slice ag 4 cg) (flat tg)
theorem San2.below {g1 g4 g5 : Nat} {an af : Option Addr} {cn cf : Nat} {vd : Value} {ag : Option Addr} {cg : Nat} {W W' : World} (h : San2 g1 g4 g5 an af cn cf vd ag cg W) (hb : Below W.heap.size W W') : San2 g1 g4 g5 an af cn cf vd ag cg W' :=
 ⟨h.san.below hb, h.dv.below hb, h.gt.below hb⟩
theorem ivs_row {w : World} {g : Nat} {a b c d : Int} (h : w.heap[g]? = some (.cells #[.int .i64 a, .int .i64 b, .int .i64 c, .int .i64 d] 29 (0, 0))) : Ivs w (.slice (some ⟨g, 0, none⟩) 2 2) [(a, b), (c, d)] := by
 refine ⟨⟨_, 2, rfl, fun j x hx => ⟨g, 0, rfl, ?_⟩⟩, by simp⟩
 rcases j with _ | _ | j
 ·obtain rfl := Option.some.inj hx
  exact ⟨by rw [cell_of_row _ _ _ _ _ _ h]; rfl, by rw [cell_of_row _ _ _ _ _ _ h]; rfl⟩
 ·obtain rfl := Option.some.inj hx
  exact ⟨by rw [cell_of_row _ _ _ _ _ _ h]; rfl, by rw [cell_of_row _ _ _ _ _ _ h]; rfl⟩
 ·simp at hx
theorem strs_one {w : World} {g : Nat} {x : ByteArray} (h : w.heap[g]? = some (.cells #[.string x] 9 (0, 0))) : Strs w (.slice (some ⟨g, 0, none⟩) 1 1) [x] :=
 ⟨Or.inr ⟨_, 0, 1, rfl, Nat.le_refl _, fun j hj => by
  rw [cell_of_row _ _ (0 + j) _ _ _ h]
  simp only [List.length_cons, List.length_nil] at hj
  obtain rfl : j = 0 := by omega
  rfl⟩, by simp⟩
inductive Sx
 | val (v : Value)
 | row (n : Nat) (z : Array Value) (T : TypeId) (k c : Nat)
 | len (k : Nat)
 | nodes (e : List Nd)
def Sx.ok : Sx → Value → World → Prop
 | .val v, u, _ => u = v
 | .row n z T k c, u, w => ∃ g, n ≤ g ∧ u = .slice (some ⟨g, 0, none⟩) k c ∧ w.heap[g]? = some (.cells z T (0, 0))
 | .len k, u, _ => ∃ a c, u = .slice a k c
 | .nodes e, u, w => RdN w u e ∧ Rd w u e
def tabx (l : List Sx) : Tab := ⟨fun i v w => ((l[i]?).getD (.val .nilFunc)).ok v w, true, fun i v w w' h hb hs => by
 revert h
 generalize (l[i]?).getD (.val .nilFunc) = s
 intro h
 cases s with
 | val u => exact h
 | row n z T k c =>
  obtain ⟨g, hn, hv, hh⟩ := h
  exact ⟨g, hn, hv, by rw [(hs rfl).block _ (heap_lt hh)]; exact hh⟩
 | len k => exact h
 | nodes e => exact ⟨h.1.below (hs rfl), h.2.below (hs rfl)⟩⟩
def Sx.told : Sx → Option Value
 | .val v => some v
 | _ => none
theorem tells_x (L : List Sx) : Rg.Tells (tabx L) (L.map Sx.told) := tells_of Sx.ok Sx.told (.val .nilFunc) (fun s v h u w => by cases s <;> simp_all [Sx.told, Sx.ok]) L _ (fun _ _ _ => rfl)
theorem eq_ss (s : ByteArray) (w : World) : (binOp .eql 9 (.string s) (.string s)).run Tryz.prog w = .ok (.bool true) w := by simp [go_sem]
theorem eq_iv2 (a b : Int) (w : World) : (binOp .eql 29 (.agg #[.int .i64 a, .int .i64 b]) (.agg #[.int .i64 a, .int .i64 b])).run Tryz.prog w = .ok (.bool true) w := by
 rw [eq_iv]; simp
theorem enters_bs : ∀ args w, (callFunc 27 args).run Tryz.prog w = .ok (.enter 27 args) w := fun args w => by kernel_rfl
theorem enters_fm : ∀ args w, (callFunc 36 args).run Tryz.prog w = .ok (.enter 36 args) w := fun args w => by kernel_rfl
theorem enters_va : ∀ args w, (callFunc 16 args).run Tryz.prog w = .ok (.enter 16 args) w := fun args w => by kernel_rfl
theorem enters_vx : ∀ args w, (callFunc 14 args).run Tryz.prog w = .ok (.enter 14 args) w := fun args w => by kernel_rfl
theorem enters_os : ∀ args w, (callFunc 22 args).run Tryz.prog w = .ok (.enter 22 args) w := fun args w => by kernel_rfl
theorem enters_evl : ∀ args w, (callFunc 25 args).run Tryz.prog w = .ok (.enter 25 args) w := fun args w => by kernel_rfl
theorem enters_rct : ∀ args w, (callFunc 52 args).run Tryz.prog w = .ok (.enter 52 args) w := fun args w => by kernel_rfl
theorem enters_un : ∀ args w, (callFunc 41 args).run Tryz.prog w = .ok (.enter 41 args) w := fun args w => by kernel_rfl
theorem enters_ie : ∀ args w, (callFunc 53 args).run Tryz.prog w = .ok (.enter 53 args) w := fun args w => by kernel_rfl
theorem enters_pf : ∀ args w, (callFunc 54 args).run Tryz.prog w = .ok (.enter 54 args) w := fun args w => by kernel_rfl
theorem enters_rf : ∀ args w, (callFunc 55 args).run Tryz.prog w = .ok (.enter 55 args) w := fun args w => by kernel_rfl
theorem Format_is {names : List ByteArray} (ts : List Tr) (hnm : ∀ x ∈ strL names, okName x = true) (hl : names.length = ts.length) (hok : ∀ t ∈ ts, okT (strL names) t) (h6 : names.length ≤ 6) (vn vf : Value) (w : World) (hn : Strs w vn names) (hf : Fs w vf (ts.map flat)) (ht : Fx.Tabs w) (S : ByteArray) (hS : S.data.toList = fmtS (strL names) (strL names) ts) :
  Calls Tryz.prog 36 #[.agg #[vn, vf]] w fun e w' => e = .returned (.string S) ∧ Below w.heap.size w w' := by
 refine (Format_any ts hnm hl hok h6 vn vf w hn hf ht).mono ?_
 rintro e w' ⟨⟨s, rfl, hs⟩, hb⟩
 refine ⟨?_, hb⟩
 rw [mk_str hs, mk_str hS]
theorem strs_nil (w : World) : Strs w (.slice none 0 0) [] := ⟨Or.inl ⟨rfl, none, 0, rfl⟩, by simp⟩
theorem fs_nil (w : World) : Fs w (.slice none 0 0) [] := ⟨Or.inl ⟨rfl, none, 0, rfl⟩, by simp⟩
theorem rdn_nil (w : World) : RdN w (.slice none 0 0) [] := ⟨Or.inl ⟨rfl, none, 0, rfl⟩, by simp⟩
theorem ivs_nil (w : World) : Ivs w (.slice none 0 0) [] := ⟨⟨none, 0, rfl, fun j a ha => by simp at ha⟩, by simp⟩
theorem RdN.cut {w : World} {ag : Option Addr} {cg : Nat} {e : List Nd} (h : RdN w (.slice ag e.length cg) e) (k : Nat) (hk : k ≤ e.length) (hne : e ≠ []) : RdN w (.slice ag k cg) (e.take k) := by
 have hl : (e.take k).length = k := by rw [List.length_take]; omega
 rcases h.out with ⟨h0, -⟩ | ⟨b, o, c, hv, hcp, hc⟩
 ·exact absurd h0 hne
 ·injection hv with q1 q2 q3
  subst q1 q3
  refine ⟨Or.inr ⟨b, o, cg, by rw [hl], by rw [hl]; omega, fun j u hu => hc j u ?_⟩, by rw [hl]; have := h.few; omega⟩
  have : nds e = nds (e.take k) ++ nds (e.drop k) := by rw [← nds_app, List.take_append_drop]
  rw [this, List.getElem?_append_left (List.getElem?_eq_some_iff.1 hu).1]; exact hu
theorem eqg_s (x y : Operand) (u v : ByteArray) (w : World) : (eqGuard .eql 9 x y (.string u) (.string v)).run Tryz.prog w = .ok () w := rfl
theorem eqg_iv (x y : Operand) (a b c d : Int) (w : World) : (eqGuard .eql 29 x y (.agg #[.int .i64 a, .int .i64 b]) (.agg #[.int .i64 c, .int .i64 d])).run Tryz.prog w = .ok () w := by first | kernel_rfl | simp [eqGuard, go_sem]
set_option maxRecDepth 100000 in
set_option maxHeartbeats 32000000 in
theorem sanity_any (w : World) (hL : Lb w) : Calls Tryz.prog 12 #[] w fun e w' => e = .returned (.bool true) ∧ Below w.heap.size w w' := by
 have HL := Aside.mk hL
 clear hL
 go_enter Tryz.func12, Tryz.ntmps12
 go_wp2_with fail
 refine (Parse_good s1 (by decide) _ _ s1_parse w HL.out).mono ?_
 rintro e w1 ⟨vn, vf, xs, rfl, hxs, hsn, hfs, hb1⟩
 obtain rfl := strL_is xs _ hxs
 obtain ⟨an, cn, rfl⟩ := hsn.slice
 obtain ⟨af, cf, rfl⟩ := hfs.slice
 have hal : Below w1.heap.size w1 (w1.alloc (.cells #[.slice an 2 cn, .slice af 2 cf] 25)) := (Below.refl _ _).alloc (Nat.le_refl _) _
 have HR1 := Aside.mk (heap_alloc_last w1 (.cells #[.slice an 2 cn, .slice af 2 cf] 25))
 have HB1 := Aside.mk (hb1.trans (hal.mono hb1.size))
 have HSN := Aside.mk (hsn.below hal)
 have HFS := Aside.mk (hfs.below hal)
 obtain ⟨g1, hg1⟩ : ∃ g1, w1.heap.size = g1 := ⟨_, rfl⟩
 rw [hg1] at HR1
 clear hxs hsn hfs hb1 hal
 simp only [List.length_cons, List.length_nil, List.map_cons, List.map_nil] at *
 go_wp2_with fail
 try simp only [hg1]
 generalize w1.alloc (.cells #[.slice an 2 cn, .slice af 2 cf] 25) = W1 at HR1 HB1 HSN HFS ⊢
 refine (rValid_any _ _ _ _ W1 HSN.out HFS.out (fun x hx => by simp only [List.mem_cons, List.not_mem_nil, or_false] at hx; rcases hx with rfl | rfl <;> decide)).mono ?_
 rintro e w2 ⟨rfl, hb2⟩
 rw [show okSys (strL [⟨#[120]⟩, ⟨#[118]⟩]) [[⟨2, 1, 0, 0⟩], [⟨4, 0, 0, 0⟩, ⟨2, 0, 0, 0⟩]] = true from by kernel_rfl]
 have HR2 := Aside.mk ((hb2.block _ (heap_lt HR1.out)).trans HR1.out)
 have HB2 := Aside.mk (HB1.out.trans (hb2.mono HB1.out.size))
 have HSN2 := Aside.mk (HSN.out.below hb2)
 have HFS2 := Aside.mk (HFS.out.below hb2)
 clear hb2 HR1 HB1 HSN HFS hg1
 go_wp2_with fail
 refine (rPoint_any 65536 w2).mono ?_
 rintro e w3 ⟨rfl, hb3⟩
 rw [show newI 65536 65536 = (65536, 65536) from by kernel_rfl]
 have HR3 := Aside.mk ((hb3.block _ (heap_lt HR2.out)).trans HR2.out)
 have HB3 := Aside.mk (HB2.out.trans (hb3.mono HB2.out.size))
 have HSN3 := Aside.mk (HSN2.out.below hb3)
 have HFS3 := Aside.mk (HFS2.out.below hb3)
 clear hb3 HR2 HB2 HSN2 HFS2
 have hal : Below w3.heap.size w3 ((w3.alloc (.cells #[.int .i64 65536, .int .i64 65536] 29)).alloc (.cells #[.int .i64 (-65536), .int .i64 131072] 29)) := ((Below.refl _ _).alloc (Nat.le_refl _) _).alloc (by simp) _
 have e4 : (w3.alloc (.cells #[.int .i64 65536, .int .i64 65536] 29)).heap.size = w3.heap.size + 1 := World.size_alloc ..
 have r4 := heap_alloc_last w3 (.cells #[.int .i64 65536, .int .i64 65536] 29)
 have r5 := heap_alloc_last (w3.alloc (.cells #[.int .i64 65536, .int .i64 65536] 29)) (.cells #[.int .i64 (-65536), .int .i64 131072] 29)
 have b5 : Below (w3.heap.size + 1) (w3.alloc (.cells #[.int .i64 65536, .int .i64 65536] 29)) ((w3.alloc (.cells #[.int .i64 65536, .int .i64 65536] 29)).alloc (.cells #[.int .i64 (-65536), .int .i64 131072] 29)) := (Below.refl _ _).alloc (by omega) _
 rw [e4] at r5
 have r4' := (b5.block w3.heap.size (by omega)).trans r4
 obtain ⟨g4, hg4⟩ : ∃ g4, w3.heap.size = g4 := ⟨_, rfl⟩
 rw [hg4] at r4' r5
 have HS := Aside.mk (San.mk ((hal.block _ (heap_lt HR3.out)).trans HR3.out) r4' r5 (HSN3.out.below hal) (HFS3.out.below hal) (HL.out.below (HB3.out.trans (hal.mono HB3.out.size))))
 have HB := Aside.mk (HB3.out.trans (hal.mono HB3.out.size))
 clear hal e4 r4 r5 b5 r4' HR3 HB3 HSN3 HFS3 HL
 unfold ivV
 simp only
 go_wp2_with fail
 try simp only [hg4]
 clear hg4
 generalize (w3.alloc (.cells #[.int .i64 65536, .int .i64 65536] 29)).alloc (.cells #[.int .i64 (-65536), .int .i64 131072] 29) = W at HS HB ⊢
 obtain ⟨c0, c1, d0, d1, f0, f1⟩ := HS.out.cells
 have hl1 := heap_lt HS.out.r1
 have hl4 := heap_lt HS.out.r4
 have hl5 := heap_lt HS.out.r5
 refine region_u (T := tab2 [Sq.val (.agg #[.slice an 2 cn, .slice af 2 cf]), Sq.val (.agg #[.int .i64 65536, .int .i64 65536]), Sq.val (.agg #[.int .i64 (-65536), .int .i64 131072]), Sq.row W.heap.size #[.int .i64 65536, .int .i64 65536, .int .i64 (-65536), .int .i64 131072] 29 2 2, Sq.val (.agg #[.int .i64 0, .int .i64 0])]) [31, 32, 33, 34, 35] 5 (tells_q _) rfl rfl ?_ ?_
 ·iterate 3 (refine AllV.val rfl (fun w hb => by simp [execOp, Act.eval, kp hb c0, kp hb c1, kp hb d0, kp hb d1, kp hb f0, kp hb f1, go_sem]) ?_)
  refine AllV.make (fun w hb => ⟨_, _, by simp [execOp, Act.eval, go_sem], ((Below.refl _ _).alloc (Nat.le_refl _) _), ⟨_, hb.size, rfl, heap_alloc_last _ _⟩⟩) ?_
  refine AllV.cons ?_ ?_
  ·intro a w hz hb ho hg
   exact Or.inl ⟨wanted_none rfl, wp_calls hb.size (run_call (args := #[.int .i64 0]) enters_pt (by simp [Act.eval])) ((rPoint_any 0 w).mono (by rintro e w' ⟨rfl, hb2⟩; exact ⟨_, rfl, hb2, rfl⟩))⟩
  exact AllV.nil
 intro us W2 hb hus fu hfu
 obtain ⟨g34, G34, e34, R34⟩ := hus 3 (by decide)
 rw [mrg_of (by kernel_rfl)] at hfu
 simp only [mrg, List.map_cons, List.map_nil, Sq.told, Option.getD_some, Option.getD_none, Nat.reduceAdd, Nat.reduceEqDiff, ↓reduceIte, e34] at hfu
 subst hfu
 clear hus e34
 simp only [List.drop_succ_cons, List.drop_zero]
 have HH2 := Aside.mk hb
 clear hb
 have HIV := Aside.mk (ivs_row R34)
 have HS2 := Aside.mk (HS.out.below HH2.out)
 have HB2 := Aside.mk (HB.out.trans (HH2.out.mono HB.out.size))
 clear c0 c1 d0 d1 f0 f1 hl1 hl4 hl5 HS HB HH2 R34
 go_wp2_with fail
 refine (Derivatives_any (vars := [[120], [118]]) ts0 ts0_ok (by decide) xs0 (0, 0) (by decide) xs0_ok (okI_mk (by kernel_rfl)) _ _ _ W2 HS2.out.fs HIV.out HS2.out.lb.ends).mono ?_
 rintro e w3 ⟨⟨vd, rfl, hvd⟩, hb3⟩
 rw [der0] at hvd
 have HVD := Aside.mk hvd
 have HS := Aside.mk (HS2.out.below hb3)
 have HB := Aside.mk (HB2.out.trans (hb3.mono HB2.out.size))
 obtain ⟨ad, cd, hvde, -⟩ := hvd.out
 subst hvde
 clear hvd hb3 HS2 HB2 HIV G34
 go_wp2_with fail
 refine (rPoint_any 98304 w3).mono ?_
 rintro e w4 ⟨rfl, hb4⟩
 rw [show newI 98304 98304 = (98304, 98304) from by kernel_rfl]
 replace HVD := Aside.mk (HVD.out.below hb4)
 replace HS := Aside.mk (HS.out.below hb4)
 replace HB := Aside.mk (HB.out.trans (hb4.mono HB.out.size))
 clear hb4
 go_wp2_with fail
 refine (rConst_any (98304, 98304) w4).mono ?_
 rintro e w5 ⟨vc, rfl, hoc, hb5⟩
 have HOC := Aside.mk hoc.rd
 replace HVD := Aside.mk (HVD.out.below hb5)
 replace HS := Aside.mk (HS.out.below hb5)
 replace HB := Aside.mk (HB.out.trans (hb5.mono HB.out.size))
 clear hb5
 clear hoc
 have hal : Below w5.heap.size w5 (w5.alloc (.cells #[.int .i64 3, .int .i64 0, .int .i64 0, .int .i64 0] 79)) := (Below.refl _ _).alloc (Nat.le_refl _) _
 have HOT : Aside (Rd (w5.alloc (.cells #[.int .i64 3, .int .i64 0, .int .i64 0, .int .i64 0] 79)) (.slice (some ⟨w5.heap.size, 0, none⟩) 1 1) [⟨3, 0, 0, 0⟩]) := ⟨(own_one (B := 0) (x := ⟨3, 0, 0, 0⟩) (heap_alloc_last w5 _) (Nat.zero_le _) rfl).rd⟩
 have HAL := Aside.mk hal
 clear hal
 obtain ⟨ac, lc, cc, hvc⟩ : ∃ a l c, vc = .slice a l c := by obtain ⟨a, c, h, -⟩ := HOC.out.out; exact ⟨a, _, c, h⟩
 subst hvc
 go_wp2_with fail
 replace HVD := Aside.mk (HVD.out.below HAL.out)
 replace HS := Aside.mk (HS.out.below HAL.out)
 replace HB := Aside.mk (HB.out.trans (HAL.out.mono HB.out.size))
 replace HOC := Aside.mk (HOC.out.below HAL.out)
 clear HAL
 generalize w5.alloc (.cells #[.int .i64 3, .int .i64 0, .int .i64 0, .int .i64 0] 79) = W5 at HVD HS HB HOC HOT ⊢
 refine (rUnary_any W5 5 _ [⟨3, 0, 0, 0⟩] HOT.out (by simp) (by decide)).mono ?_
 rintro e w6 ⟨vu, rfl, hou, hb6⟩
 have HOU := Aside.mk hou.rd
 replace HVD := Aside.mk (HVD.out.below hb6)
 replace HOC := Aside.mk (HOC.out.below hb6)
 replace HS := Aside.mk (HS.out.below hb6)
 replace HB := Aside.mk (HB.out.trans (hb6.mono HB.out.size))
 clear hb6
 clear hou HOT
 obtain ⟨au, lu, cu, hvu⟩ : ∃ a l c, vu = .slice a l c := by obtain ⟨a, c, h, -⟩ := HOU.out.out; exact ⟨a, _, c, h⟩
 subst hvu
 go_wp2_with fail
 refine (rBinary_any w6 8 _ _ [⟨1, 0, 98304, 98304⟩] [⟨5, 0, 0, 0⟩, ⟨3, 0, 0, 0⟩] HOC.out (by simp) HOU.out (by simp) (by decide)).mono ?_
 rintro e w7 ⟨vg, rfl, hog, hb7⟩
 have hgt : RdN w7 vg (flat tg) := hog.rdN (by decide)
 obtain ⟨ag, cg, hvg⟩ := hgt.slice
 have hvg' : vg = .slice ag 4 cg := hvg
 subst hvg'
 have HT := Aside.mk (San2.mk (HS.out.below hb7) (HVD.out.below hb7) hgt)
 replace HB := Aside.mk (HB.out.trans (hb7.mono HB.out.size))
 clear hb7 hog hgt hvg HS HVD HOC HOU
 have hal : Below w7.heap.size w7 (w7.alloc (.cells #[.string ⟨#[120]⟩] 9)) := (Below.refl _ _).alloc (Nat.le_refl _) _
 have HS1 := Aside.mk (strs_one (heap_alloc_last w7 (.cells #[.string ⟨#[120]⟩] 9)))
 have HAL := Aside.mk hal
 clear hal
 go_wp2_with fail
 replace HT := Aside.mk (HT.out.below HAL.out)
 replace HB := Aside.mk (HB.out.trans (HAL.out.mono HB.out.size))
 clear HAL
 generalize w7.alloc (.cells #[.string ⟨#[120]⟩] 9) = W7 at HT HB HS1 ⊢
 refine (ParseExpr_bad ⟨#[120, 32, 43, 32, 121]⟩ (by decide) _ [⟨#[120]⟩] 4 72 (by kernel_rfl) W7 HS1.out HT.out.san.lb).mono ?_
 rintro e W8 ⟨rfl, hb8⟩
 replace HT := Aside.mk (HT.out.below hb8)
 replace HB := Aside.mk (HB.out.trans (hb8.mono HB.out.size))
 clear hb8
 clear HS1
 go_wp2_with fail
 obtain ⟨c0, c1, d0, d1, f0, f1⟩ := HT.out.san.cells
 have hl1 := heap_lt HT.out.san.r1
 have hl4 := heap_lt HT.out.san.r4
 have hl5 := heap_lt HT.out.san.r5
 have hcg : (3 : Int) ≤ (cg : Int) := by
  rcases HT.out.gt.out with ⟨h0, -⟩ | ⟨b, o, c, hv, hcp, -⟩
  ·exact absurd h0 (flat_ne tg)
  ·injection hv with q1 q2 q3
   subst q3
   have : (flat tg).length = 4 := by decide
   omega
 refine region_u (T := tabx [Sx.val (.slice ad 2 cd), Sx.val (.agg #[.int .i64 (-65536), .int .i64 131072]), Sx.val (.agg #[.int .i64 (-65536), .int .i64 (-65536)]), Sx.row W8.heap.size #[.int .i64 (-65536), .int .i64 131072, .int .i64 (-65536), .int .i64 (-65536)] 29 2 2, Sx.val (.bool true), Sx.val (.bool true), Sx.val (.agg #[.slice an 2 cn, .slice af 2 cf]), Sx.val (.string (⟨#[120, 39, 32, 61, 32, 118, 10, 118, 39, 32, 61, 32, 40, 45, 120, 41, 10]⟩ : ByteArray)), Sx.val (.bool true), Sx.val (.bool true), Sx.val (.bool true), Sx.val (.agg #[.slice an 2 cn, .slice af 2 cf]), Sx.val (.bool true), Sx.val (.bool true), Sx.val (.bool true), Sx.val (.agg #[.slice none 0 0, .slice none 0 0]), Sx.val (.bool false), Sx.val (.bool true), Sx.val (.bool true), Sx.val (.bool true), Sx.val (.slice ag 4 cg), Sx.val (.string (⟨#[40, 49, 46, 53, 32, 45, 32, 115, 113, 114, 40, 116, 41, 41]⟩ : ByteArray)), Sx.val (.bool true), Sx.val (.bool true), Sx.val (.bool true), Sx.val (.slice ag 4 cg), Sx.val (.bool true), Sx.val (.bool true), Sx.val (.bool true), Sx.val (.slice ag 4 cg), Sx.val (.slice ag 3 cg), Sx.val (.bool false), Sx.val (.bool true), Sx.val (.bool true), Sx.val (.bool true), Sx.val (.bool false), Sx.val (.bool true), Sx.val (.bool true), Sx.val (.bool true), Sx.val (.slice ag 4 cg), Sx.len 2, Sx.val (.int .i64 2), Sx.val (.bool true), Sx.val (.bool true), Sx.val (.bool true), Sx.val (.slice ag 4 cg), Sx.val (.agg #[.int .i64 (-65536), .int .i64 131072]), Sx.val (.agg #[.int .i64 (-163840), .int .i64 98304]), Sx.val (.agg #[.int .i64 (-163840), .int .i64 98304]), Sx.val (.bool true), Sx.val (.bool true), Sx.val (.bool true), Sx.val (.agg #[.int .i64 (-65536), .int .i64 131072]), Sx.nodes [⟨1, 0, -65536, 131072⟩], Sx.nodes [⟨6, 0, 0, 0⟩, ⟨1, 0, -65536, 131072⟩], Sx.val (.agg #[.int .i64 65536, .int .i64 65536]), Sx.val (.agg #[.int .i64 (-2147483648), .int .i64 2147483648]), Sx.val (.bool true), Sx.val (.bool true), Sx.val (.bool true), Sx.val (.bool true), Sx.val (.bool true), Sx.val (.bool true), Sx.val (.bool true), Sx.val (.bool true), Sx.val (.bool true), Sx.val (.bool true), Sx.val (.bool true), Sx.val (.bool true), Sx.val (.bool true), Sx.val (.bool true), Sx.val (.bool true), Sx.val (.bool true), Sx.val (.bool true), Sx.val (.bool true), Sx.val (.bool true), Sx.val (.bool true), Sx.val (.bool true), Sx.val (.bool true), Sx.val (.bool true), Sx.val (.bool true), Sx.val (.bool true), Sx.val (.bool true), Sx.val (.bool true), Sx.val (.bool true), Sx.val (.bool true), Sx.val (.bool true), Sx.val (.bool true), Sx.val (.bool true), Sx.val (.bool true), Sx.val (.bool true), Sx.val (.bool true), Sx.val (.bool true), Sx.val (.int .i64 4), Sx.val (.bool true), Sx.val (.bool true), Sx.val (.bool true), Sx.val (.int .i64 72), Sx.val (.bool true), Sx.val (.bool true)]) [49, 50, 51, 52, 53, 54, 55, 56, 57, 58, 59, 60, 61, 62, 63, 64, 65, 66, 67, 68, 69, 70, 71, 72, 73, 74, 75, 76, 77, 78, 79, 80, 81, 82, 83, 84, 85, 86, 87, 88, 89, 90, 91, 92, 93, 94, 95, 96, 97, 98, 99, 100, 101, 102, 103, 104, 105, 106, 107, 108, 109, 110, 111, 112, 113, 114, 115, 116, 117, 118, 119, 120, 121, 122, 123, 124, 125, 126, 127, 128, 129, 130, 131, 132, 133, 134, 135, 136, 137, 138, 139, 140, 141, 142, 143, 144, 145, 146, 147, 148] 100 (tells_x _) rfl rfl ?_ ?_ (hF := by rewrite [mrg_of (by kernel_rfl)]; simp only [mrg, List.map_cons, List.map_nil, Sx.told, Option.getD_some, Option.getD_none, Nat.reduceAdd, Nat.reduceEqDiff, ↓reduceIte] <;> exact rfl)
 ·iterate 2 (refine AllV.val rfl (fun w hb => by simp [execOp, Act.eval, kp hb f0, kp hb f1, kp hb c0, kp hb c1, hcg, kp hb d0, kp hb d1, go_sem]) ?_)
  refine AllV.cons ?_ ?_
  ·intro a w hz hb ho hg
   exact Or.inl ⟨wanted_none rfl, wp_calls hb.size (run_call (args := #[.int .i64 (-65536)]) enters_pt (by simp [Act.eval])) ((rPoint_any (-65536) w).mono (by rintro e w' ⟨rfl, hb2⟩; exact ⟨_, rfl, hb2, rfl⟩))⟩
  refine AllV.make (fun w hb => ⟨_, _, by simp [execOp, Act.eval, go_sem], ((Below.refl _ _).alloc (Nat.le_refl _) _), ⟨_, hb.size, rfl, heap_alloc_last _ _⟩⟩) ?_
  refine AllV.cons ?_ ?_
  ·intro a w hz hb ho hg
   have e49 : a.tmps.getD 49 undef = .slice ad 2 cd := got_of hg (j := 0) rfl rfl rfl
   have e52 := (got_of hg (j := 3) rfl rfl rfl : Rg.Tab.S _ _ (a.tmps.getD 52 undef) w)
   have f49 := Rg.gd e49
   obtain ⟨gq, Gq, eq, Rq⟩ := e52; have f52 := Rg.gd eq; exact Or.inl ⟨wanted_none rfl, wp_calls hb.size (run_call (args := #[.slice ad 2 cd, .slice (some ⟨gq, 0, none⟩) 2 2]) enters_bs (by simp [Act.eval, f49, f52])) ((rBoxSame_any _ _ _ w (HT.out.below hb).dv (ivs_row Rq)).mono (by rintro e w' ⟨rfl, hb2⟩; exact ⟨_, rfl, hb2, rfl⟩))⟩
  iterate 2 (refine AllV.val rfl (fun w hb => by simp [execOp, Act.eval, kp hb f0, kp hb f1, kp hb c0, kp hb c1, hcg, kp hb d0, kp hb d1, go_sem]) ?_)
  refine AllV.call (fun w => run_call (args := #[.agg #[.slice an 2 cn, .slice af 2 cf]]) enters_fm (by simp [Act.eval])) (fun w hb => (Format_is (names := [⟨#[120]⟩, ⟨#[118]⟩]) ts0 (by decide) rfl ts0_ok (by decide) _ _ w (HT.out.below hb).san.sn (HT.out.below hb).san.fs (HT.out.below hb).san.lb.tabs (⟨#[120, 39, 32, 61, 32, 118, 10, 118, 39, 32, 61, 32, 40, 45, 120, 41, 10]⟩ : ByteArray) (by kernel_rfl)).mono (by rintro e w' ⟨rfl, hb2⟩; exact ⟨_, rfl, hb2, rfl⟩)) ?_
  refine AllV.val rfl (fun w hb => by simp [execOp, Act.eval, eqg_s, eq_ss, go_sem]) ?_
  iterate 3 (refine AllV.val rfl (fun w hb => by simp [execOp, Act.eval, kp hb f0, kp hb f1, kp hb c0, kp hb c1, hcg, kp hb d0, kp hb d1, go_sem]) ?_)
  refine AllV.call (fun w => run_call (args := #[.agg #[.slice an 2 cn, .slice af 2 cf]]) enters_va (by simp [Act.eval])) (fun w hb => (Valid_any _ _ _ _ w (HT.out.below hb).san.sn (HT.out.below hb).san.fs).mono (by rintro e w' ⟨rfl, hb2⟩; exact ⟨_, rfl, hb2, rfl⟩)) ?_
  iterate 3 (refine AllV.val rfl (fun w hb => by simp [execOp, Act.eval, kp hb f0, kp hb f1, kp hb c0, kp hb c1, hcg, kp hb d0, kp hb d1, go_sem]) ?_)
  refine AllV.call (fun w => run_call (args := #[.agg #[.slice none 0 0, .slice none 0 0]]) enters_va (by simp [Act.eval])) (fun w hb => (Valid_any _ _ _ _ w (strs_nil w) (fs_nil w)).mono (by rintro e w' ⟨rfl, hb2⟩; exact ⟨_, rfl, hb2, rfl⟩)) ?_
  iterate 4 (refine AllV.val rfl (fun w hb => by simp [execOp, Act.eval, kp hb f0, kp hb f1, kp hb c0, kp hb c1, hcg, kp hb d0, kp hb d1, go_sem]) ?_)
  refine AllV.call (fun w => run_call (args := #[.slice ag 4 cg, .slice none 0 0]) enters_fe (by simp [Act.eval])) (fun w hb => (FE_any (vars := []) (by decide) tg (tg_ok _) _ _ w (HT.out.below hb).gt (strs_nil w) (HT.out.below hb).san.lb.tabs (⟨#[40, 49, 46, 53, 32, 45, 32, 115, 113, 114, 40, 116, 41, 41]⟩ : ByteArray) (by kernel_rfl)).mono (by rintro e w' ⟨rfl, hb2⟩; exact ⟨_, rfl, hb2, rfl⟩)) ?_
  refine AllV.val rfl (fun w hb => by simp [execOp, Act.eval, eqg_s, eq_ss, go_sem]) ?_
  iterate 3 (refine AllV.val rfl (fun w hb => by simp [execOp, Act.eval, kp hb f0, kp hb f1, kp hb c0, kp hb c1, hcg, kp hb d0, kp hb d1, go_sem]) ?_)
  refine AllV.call (fun w => run_call (args := #[.slice ag 4 cg, .int .i64 0]) enters_vx (by simp [Act.eval])) (fun w hb => (validExpr_any _ _ 0 w (HT.out.below hb).gt).mono (by rintro e w' ⟨rfl, hb2⟩; exact ⟨_, rfl, hb2, rfl⟩)) ?_
  iterate 4 (refine AllV.val rfl (fun w hb => by simp [execOp, Act.eval, kp hb f0, kp hb f1, kp hb c0, kp hb c1, hcg, kp hb d0, kp hb d1, go_sem]) ?_)
  refine AllV.call (fun w => run_call (args := #[.slice ag 3 cg, .int .i64 0]) enters_vx (by simp [Act.eval])) (fun w hb => (validExpr_any _ _ 0 w (RdN.cut (e := flat tg) (HT.out.below hb).gt 3 (by decide) (flat_ne tg))).mono (by rintro e w' ⟨rfl, hb2⟩; exact ⟨_, rfl, hb2, rfl⟩)) ?_
  iterate 3 (refine AllV.val rfl (fun w hb => by simp [execOp, Act.eval, kp hb f0, kp hb f1, kp hb c0, kp hb c1, hcg, kp hb d0, kp hb d1, go_sem]) ?_)
  refine AllV.call (fun w => run_call (args := #[.slice none 0 0, .int .i64 1]) enters_vx (by simp [Act.eval])) (fun w hb => (validExpr_any _ _ 1 w (rdn_nil w)).mono (by rintro e w' ⟨rfl, hb2⟩; exact ⟨_, rfl, hb2, rfl⟩)) ?_
  iterate 4 (refine AllV.val rfl (fun w hb => by simp [execOp, Act.eval, kp hb f0, kp hb f1, kp hb c0, kp hb c1, hcg, kp hb d0, kp hb d1, go_sem]) ?_)
  refine AllV.call (fun w => run_call (args := #[.slice ag 4 cg]) enters_os (by simp [Act.eval])) (fun w hb => (Operands_any tg (tg_ok []) _ w (HT.out.below hb).gt).mono (by rintro e w' ⟨vo, rfl, hfo, hb2⟩; obtain ⟨ao, co, hvo⟩ := hfo.slice; exact ⟨_, rfl, hb2, ao, co, hvo⟩)) ?_
  refine AllV.cons ?_ ?_
  ·intro a w hz hb ho hg
   have e89 := (got_of hg (j := 40) rfl rfl rfl : Rg.Tab.S _ _ (a.tmps.getD 89 undef) w)
   obtain ⟨aq, cq, eq⟩ := e89; have f89 := Rg.gd eq; exact Or.inl ⟨by rw [wanted_of (j := 38) rfl rfl rfl (show a.tmps.getD 87 undef = .bool true from got_of hg (j := 38) rfl rfl rfl)]; rfl, wp_value hb.size (by simp [execOp, Act.eval, eq, f89, go_sem]) (Below.refl _ _) rfl⟩
  iterate 5 (refine AllV.val rfl (fun w hb => by simp [execOp, Act.eval, kp hb f0, kp hb f1, kp hb c0, kp hb c1, hcg, kp hb d0, kp hb d1, go_sem]) ?_)
  refine AllV.call (fun w => run_call (args := #[.slice ag 4 cg, .slice none 0 0, .agg #[.int .i64 (-65536), .int .i64 131072]]) enters_evl (by simp [Act.eval])) (fun w hb => (Eval_any (vars := []) tg (tg_ok []) [] (-65536, 131072) (by decide) (fun a ha => by cases ha) (okI_mk (by kernel_rfl)) _ _ w (HT.out.below hb).gt (ivs_nil w) (HT.out.below hb).san.lb.ends).mono (by rintro e w' ⟨rfl, hb2⟩; exact ⟨_, rfl, hb2, rfl⟩)) ?_
  refine AllV.val rfl (fun w hb => by simp [execOp, Act.eval, kp hb f0, kp hb f1, kp hb c0, kp hb c1, hcg, kp hb d0, kp hb d1, go_sem]) ?_
  refine AllV.val rfl (fun w hb => by simp [execOp, Act.eval, eqg_iv, eq_iv2, go_sem]) ?_
  iterate 3 (refine AllV.val rfl (fun w hb => by simp [execOp, Act.eval, kp hb f0, kp hb f1, kp hb c0, kp hb c1, hcg, kp hb d0, kp hb d1, go_sem]) ?_)
  refine AllV.call (fun w => run_call (args := #[.agg #[.int .i64 (-65536), .int .i64 131072]]) enters_rct (by simp [Act.eval])) (fun w hb => (rConst_any (-65536, 131072) w).mono (by rintro e w' ⟨vo, rfl, ho, hb2⟩; exact ⟨_, rfl, hb2, ho.rdN (by decide), ho.rd⟩)) ?_
  refine AllV.cons ?_ ?_
  ·intro a w hz hb ho hg
   have e102 := (got_of hg (j := 53) rfl rfl rfl : Rg.Tab.S _ _ (a.tmps.getD 102 undef) w)
   exact Or.inl ⟨by rw [wanted_of (j := 51) rfl rfl rfl (show a.tmps.getD 100 undef = .bool true from got_of hg (j := 51) rfl rfl rfl)]; rfl, wp_calls hb.size (run_call (args := #[.int .i64 6, a.tmps.getD 102 undef]) enters_un (by simp [Act.eval])) ((rUnary_any w 6 _ [⟨1, 0, -65536, 131072⟩] e102.2 (by simp) (by decide)).mono (by rintro e w' ⟨vo, rfl, ho, hb2⟩; exact ⟨_, rfl, hb2, ho.rdN (by decide), ho.rd⟩))⟩
  refine AllV.val rfl (fun w hb => by simp [execOp, Act.eval, kp hb f0, kp hb f1, kp hb c0, kp hb c1, hcg, kp hb d0, kp hb d1, go_sem]) ?_
  refine AllV.cons ?_ ?_
  ·intro a w hz hb ho hg
   have e103 := (got_of hg (j := 54) rfl rfl rfl : Rg.Tab.S _ _ (a.tmps.getD 103 undef) w)
   have e104 : a.tmps.getD 104 undef = .agg #[.int .i64 65536, .int .i64 65536] := got_of hg (j := 55) rfl rfl rfl
   have f104 := Rg.gd e104
   exact Or.inl ⟨by rw [wanted_of (j := 51) rfl rfl rfl (show a.tmps.getD 100 undef = .bool true from got_of hg (j := 51) rfl rfl rfl)]; rfl, wp_calls hb.size (run_call (args := #[a.tmps.getD 103 undef, .slice none 0 0, .agg #[.int .i64 65536, .int .i64 65536]]) enters_evl (by simp [Act.eval, f104])) ((Eval_any (vars := []) (.un 6 (.num (-65536) 131072)) ⟨by decide, by show okIv (-65536) 131072 = true; kernel_rfl⟩ [] (65536, 65536) (by decide) (fun a ha => by cases ha) (okI_mk (by kernel_rfl)) _ _ w e103.1 (ivs_nil w) (HT.out.below hb).san.lb.ends).mono (by rintro e w' ⟨rfl, hb2⟩; exact ⟨_, rfl, hb2, rfl⟩))⟩
  refine AllV.call (fun w => run_call (args := #[.agg #[.int .i64 (-2147483648), .int .i64 2147483648]]) enters_ie (by simp [Act.eval])) (fun w hb => (rIsEntire_any (-2147483648) 2147483648 w).mono (by rintro e w' ⟨rfl, hb2⟩; exact ⟨_, rfl, hb2, rfl⟩)) ?_
  iterate 2 (refine AllV.val rfl (fun w hb => by simp [execOp, Act.eval, kp hb f0, kp hb f1, kp hb c0, kp hb c1, hcg, kp hb d0, kp hb d1, go_sem]) ?_)
  refine AllV.call (fun w => run_call (args := #[.string (⟨#[120, 39, 32, 61, 32, 121]⟩ : ByteArray), .int .i64 5, .int .i64 72]) enters_pf (by simp [Act.eval])) (fun w hb => (parseFails_any (⟨#[120, 39, 32, 61, 32, 121]⟩ : ByteArray) (by decide) 5 72 (by kernel_rfl) w (HT.out.below hb).san.lb).mono (by rintro e w' ⟨rfl, hb2⟩; exact ⟨_, rfl, hb2, rfl⟩)) ?_
  iterate 2 (refine AllV.val rfl (fun w hb => by simp [execOp, Act.eval, kp hb f0, kp hb f1, kp hb c0, kp hb c1, hcg, kp hb d0, kp hb d1, go_sem]) ?_)
  refine AllV.call (fun w => run_call (args := #[.string (⟨#[120, 39, 32, 61, 32, 40, 120]⟩ : ByteArray), .int .i64 7, .int .i64 71]) enters_pf (by simp [Act.eval])) (fun w hb => (parseFails_any (⟨#[120, 39, 32, 61, 32, 40, 120]⟩ : ByteArray) (by decide) 7 71 (by kernel_rfl) w (HT.out.below hb).san.lb).mono (by rintro e w' ⟨rfl, hb2⟩; exact ⟨_, rfl, hb2, rfl⟩)) ?_
  iterate 2 (refine AllV.val rfl (fun w hb => by simp [execOp, Act.eval, kp hb f0, kp hb f1, kp hb c0, kp hb c1, hcg, kp hb d0, kp hb d1, go_sem]) ?_)
  refine AllV.call (fun w => run_call (args := #[.string (⟨#[120, 32, 61, 32, 49]⟩ : ByteArray), .int .i64 2, .int .i64 70]) enters_pf (by simp [Act.eval])) (fun w hb => (parseFails_any (⟨#[120, 32, 61, 32, 49]⟩ : ByteArray) (by decide) 2 70 (by kernel_rfl) w (HT.out.below hb).san.lb).mono (by rintro e w' ⟨rfl, hb2⟩; exact ⟨_, rfl, hb2, rfl⟩)) ?_
  iterate 2 (refine AllV.val rfl (fun w hb => by simp [execOp, Act.eval, kp hb f0, kp hb f1, kp hb c0, kp hb c1, hcg, kp hb d0, kp hb d1, go_sem]) ?_)
  refine AllV.call (fun w => run_call (args := #[.string (⟨#[120, 39, 32, 61, 32, 120, 32, 120, 39, 32, 61, 32, 49]⟩ : ByteArray), .int .i64 7, .int .i64 70]) enters_pf (by simp [Act.eval])) (fun w hb => (parseFails_any (⟨#[120, 39, 32, 61, 32, 120, 32, 120, 39, 32, 61, 32, 49]⟩ : ByteArray) (by decide) 7 70 (by kernel_rfl) w (HT.out.below hb).san.lb).mono (by rintro e w' ⟨rfl, hb2⟩; exact ⟨_, rfl, hb2, rfl⟩)) ?_
  iterate 2 (refine AllV.val rfl (fun w hb => by simp [execOp, Act.eval, kp hb f0, kp hb f1, kp hb c0, kp hb c1, hcg, kp hb d0, kp hb d1, go_sem]) ?_)
  refine AllV.call (fun w => run_call (args := #[.string (⟨#[120, 39, 32, 61, 32, 49, 10, 120, 39, 32, 61, 32, 50]⟩ : ByteArray), .int .i64 7, .int .i64 72]) enters_pf (by simp [Act.eval])) (fun w hb => (parseFails_any (⟨#[120, 39, 32, 61, 32, 49, 10, 120, 39, 32, 61, 32, 50]⟩ : ByteArray) (by decide) 7 72 (by kernel_rfl) w (HT.out.below hb).san.lb).mono (by rintro e w' ⟨rfl, hb2⟩; exact ⟨_, rfl, hb2, rfl⟩)) ?_
  iterate 2 (refine AllV.val rfl (fun w hb => by simp [execOp, Act.eval, kp hb f0, kp hb f1, kp hb c0, kp hb c1, hcg, kp hb d0, kp hb d1, go_sem]) ?_)
  refine AllV.call (fun w => run_call (args := #[.string (⟨#[116, 39, 32, 61, 32, 49]⟩ : ByteArray), .int .i64 0, .int .i64 70]) enters_pf (by simp [Act.eval])) (fun w hb => (parseFails_any (⟨#[116, 39, 32, 61, 32, 49]⟩ : ByteArray) (by decide) 0 70 (by kernel_rfl) w (HT.out.below hb).san.lb).mono (by rintro e w' ⟨rfl, hb2⟩; exact ⟨_, rfl, hb2, rfl⟩)) ?_
  iterate 2 (refine AllV.val rfl (fun w hb => by simp [execOp, Act.eval, kp hb f0, kp hb f1, kp hb c0, kp hb c1, hcg, kp hb d0, kp hb d1, go_sem]) ?_)
  refine AllV.call (fun w => run_call (args := #[.string (⟨#[]⟩ : ByteArray), .int .i64 0, .int .i64 71]) enters_pf (by simp [Act.eval])) (fun w hb => (parseFails_any (⟨#[]⟩ : ByteArray) (by decide) 0 71 (by kernel_rfl) w (HT.out.below hb).san.lb).mono (by rintro e w' ⟨rfl, hb2⟩; exact ⟨_, rfl, hb2, rfl⟩)) ?_
  iterate 2 (refine AllV.val rfl (fun w hb => by simp [execOp, Act.eval, kp hb f0, kp hb f1, kp hb c0, kp hb c1, hcg, kp hb d0, kp hb d1, go_sem]) ?_)
  refine AllV.call (fun w => run_call (args := #[.string (⟨#[120, 39, 32, 61, 32, 52, 48, 48, 48, 48]⟩ : ByteArray), .int .i64 0, .int .i64 2]) enters_pf (by simp [Act.eval])) (fun w hb => (parseFails_any (⟨#[120, 39, 32, 61, 32, 52, 48, 48, 48, 48]⟩ : ByteArray) (by decide) 0 2 (by kernel_rfl) w (HT.out.below hb).san.lb).mono (by rintro e w' ⟨rfl, hb2⟩; exact ⟨_, rfl, hb2, rfl⟩)) ?_
  iterate 2 (refine AllV.val rfl (fun w hb => by simp [execOp, Act.eval, kp hb f0, kp hb f1, kp hb c0, kp hb c1, hcg, kp hb d0, kp hb d1, go_sem]) ?_)
  refine AllV.call (fun w => run_call (args := #[.string (⟨#[120, 39, 32, 61, 32, 91, 50, 44, 32, 49, 93]⟩ : ByteArray), .int .i64 0, .int .i64 2]) enters_pf (by simp [Act.eval])) (fun w hb => (parseFails_any (⟨#[120, 39, 32, 61, 32, 91, 50, 44, 32, 49, 93]⟩ : ByteArray) (by decide) 0 2 (by kernel_rfl) w (HT.out.below hb).san.lb).mono (by rintro e w' ⟨rfl, hb2⟩; exact ⟨_, rfl, hb2, rfl⟩)) ?_
  iterate 2 (refine AllV.val rfl (fun w hb => by simp [execOp, Act.eval, kp hb f0, kp hb f1, kp hb c0, kp hb c1, hcg, kp hb d0, kp hb d1, go_sem]) ?_)
  refine AllV.call (fun w => run_call (args := #[.string (⟨#[120, 45, 118, 45, 49, 42, 45, 50]⟩ : ByteArray), .string (⟨#[40, 40, 120, 32, 45, 32, 118, 41, 32, 45, 32, 40, 49, 32, 42, 32, 40, 45, 50, 41, 41, 41]⟩ : ByteArray)]) enters_rf (by simp [Act.eval])) (fun w hb => (reformats_any (⟨#[120, 45, 118, 45, 49, 42, 45, 50]⟩ : ByteArray) (⟨#[40, 40, 120, 32, 45, 32, 118, 41, 32, 45, 32, 40, 49, 32, 42, 32, 40, 45, 50, 41, 41, 41]⟩ : ByteArray) (by decide) (.bin 8 (.bin 8 (.var 0) (.var 1)) (.bin 9 (.num 65536 65536) (.un 4 (.num 131072 131072)))) (by kernel_rfl) ⟨by decide, ⟨by decide, by show 0 < 2; decide, by show 1 < 2; decide⟩, ⟨by decide, by show okIv 65536 65536 = true; kernel_rfl, ⟨by decide, by show okIv 131072 131072 = true; kernel_rfl⟩⟩⟩ (by kernel_rfl) (by decide) w (HT.out.below hb).san.lb).mono (by rintro e w' ⟨rfl, hb2⟩; exact ⟨_, rfl, hb2, rfl⟩)) ?_
  iterate 2 (refine AllV.val rfl (fun w hb => by simp [execOp, Act.eval, kp hb f0, kp hb f1, kp hb c0, kp hb c1, hcg, kp hb d0, kp hb d1, go_sem]) ?_)
  refine AllV.call (fun w => run_call (args := #[.string (⟨#[115, 113, 114, 116, 40, 97, 108, 108, 41, 47, 91, 45, 49, 44, 48, 46, 49, 93]⟩ : ByteArray), .string (⟨#[40, 115, 113, 114, 116, 40, 97, 108, 108, 41, 32, 47, 32, 91, 45, 49, 44, 32, 48, 46, 49, 48, 48, 48, 48, 54, 49, 48, 51, 53, 49, 53, 54, 50, 53, 93, 41]⟩ : ByteArray)]) enters_rf (by simp [Act.eval])) (fun w hb => (reformats_any (⟨#[115, 113, 114, 116, 40, 97, 108, 108, 41, 47, 91, 45, 49, 44, 48, 46, 49, 93]⟩ : ByteArray) (⟨#[40, 115, 113, 114, 116, 40, 97, 108, 108, 41, 32, 47, 32, 91, 45, 49, 44, 32, 48, 46, 49, 48, 48, 48, 48, 54, 49, 48, 51, 53, 49, 53, 54, 50, 53, 93, 41]⟩ : ByteArray) (by decide) (.bin 10 (.un 6 (.num (-2147483648) 2147483648)) (.num (-65536) 6554)) (by kernel_rfl) ⟨by decide, ⟨by decide, by show okIv (-2147483648) 2147483648 = true; kernel_rfl⟩, by show okIv (-65536) 6554 = true; kernel_rfl⟩ (by kernel_rfl) (by decide) w (HT.out.below hb).san.lb).mono (by rintro e w' ⟨rfl, hb2⟩; exact ⟨_, rfl, hb2, rfl⟩)) ?_
  iterate 9 (refine AllV.val rfl (fun w hb => by simp [execOp, Act.eval, kp hb f0, kp hb f1, kp hb c0, kp hb c1, hcg, kp hb d0, kp hb d1, go_sem]) ?_)
  exact AllV.nil
 intro us W9 hb hus fu hfu
 obtain ⟨g52, G52, e52, R52⟩ := hus 3 (by decide)
 have E89 := hus 40 (by decide)
 generalize us 40 = u89 at E89 hfu
 have E102 := hus 53 (by decide)
 generalize us 53 = u102 at E102 hfu
 have E103 := hus 54 (by decide)
 generalize us 54 = u103 at E103 hfu
 rw [mrg_of (by kernel_rfl)] at hfu
 simp only [mrg, List.map_cons, List.map_nil, Sx.told, Option.getD_some, Option.getD_none, Nat.reduceAdd, Nat.reduceEqDiff, ↓reduceIte, e52] at hfu
 subst hfu
 clear hus e52
 simp only [List.drop_succ_cons, List.drop_zero]
 have HH3 := Aside.mk hb
 clear hb
 go_wp2_with fail
 go_ret
 exact ⟨rfl, HB.out.trans (HH3.out.mono HB.out.size)⟩
end Go.Proofs.YthcidkidpiaomaaGreatDoor.Od
end
section
set_option linter.unusedVariables false
set_option linter.unusedSimpArgs false
namespace Go.Proofs.YthcidkidpiaomaaGreatDoor.Od
open Go.RowKit Rg
structure Ex (w : World) (v : Value) (t : Tr) : Prop where
  rd : Rd w v (flat t)
  rdn : RdN w v (flat t)
theorem Ex.below {w w' : World} {v : Value} {t : Tr} (h : Ex w v t) (hb : Below w.heap.size w w') : Ex w' v t := ⟨h.rd.below hb, h.rdn.below hb⟩
theorem Ex.of {w : World} {B : Nat} {v : Value} {t : Tr} (h : OwnN B w v (flat t)) (hl : (flat t).length ≤ 9000) : Ex w v t := ⟨h.rd, h.rdN hl⟩
structure Pk5 (w0 : World) (vn : Value) (xs : List ByteArray) (L : List (Value × Tr)) (w : World) : Prop where
  fr : Below w0.heap.size w0 w
  lb : Lb w
  nm : Strs w vn xs
  ex : ∀ v t, (v, t) ∈ L → Ex w v t
theorem Pk5.below {w0 w w' : World} {vn : Value} {xs : List ByteArray} {L : List (Value × Tr)} (h : Pk5 w0 vn xs L w) (hb : Below w.heap.size w w') : Pk5 w0 vn xs L w' :=
  ⟨h.fr.trans (hb.mono h.fr.size), h.lb.below hb, h.nm.below hb, fun v t hm => (h.ex v t hm).below hb⟩
theorem Pk5.add {w0 w : World} {vn : Value} {xs : List ByteArray} {L : List (Value × Tr)} {v : Value} {t : Tr} (h : Pk5 w0 vn xs L w) (hx : Ex w v t) : Pk5 w0 vn xs ((v, t) :: L) w :=
  ⟨h.fr, h.lb, h.nm, fun v' t' hm => by
    rcases List.mem_cons.1 hm with e | hm
    · injection e with e1 e2; subst e1; subst e2; exact hx
    · exact h.ex v' t' hm⟩
end Go.Proofs.YthcidkidpiaomaaGreatDoor.Od
end
section
set_option linter.unusedVariables false
set_option linter.unusedSimpArgs false
namespace Go.Proofs.YthcidkidpiaomaaGreatDoor.Od
open Go.RowKit Rg
def KeepR (V : Value) (base : Nat) (w w' : World) : Prop := Below base w w' ∧ ∀ k o, V.ownBlock ≠ some k → w.heap[k]? = some o → w'.heap[k]? = some o
theorem KeepR.of {V : Value} {base : Nat} {w w' : World} (hb : base ≤ w.heap.size) (h : Below w.heap.size w w') : KeepR V base w w' := ⟨h.mono hb, fun k o _ ho => by rw [h.block k (heap_lt ho)]; exact ho⟩
theorem KeepR.trans {V : Value} {base : Nat} {w w1 w2 : World} (h : KeepR V base w w1) (k : KeepR V base w1 w2) : KeepR V base w w2 := ⟨h.1.trans k.1, fun i o hi ho => k.2 i o hi (h.2 i o hi ho)⟩
theorem run_app_str (w : World) {o : Oper} {a : Act} (p x : Operand) (hop : o.op = Op.call { callee := Callee.builtin Builtin.append, args := #[p, x], argTypes := #[22, 22] })
  (base : Nat) (v : Value) (us : List Value) (n : Nat) (hn : us.length = n) (hs : a.eval p = v) (h : w.ownsRow base 9 1 v n us) (u : Value) (hu1 : u.oneCell' = true) (gk : Nat) (hx : a.eval x = .slice (some ⟨gk, 0, none⟩) 1 1)
  (hr : w.heap[gk]? = some (.cells #[u] 9 (0, 0))) (hbd : n ≤ 9000) (hbase : base ≤ w.heap.size) :
  ∃ ao cap w', (execOp a.eval o).run Tryz.prog w = .ok (.value (.slice ao (n + 1) cap)) w' ∧ w'.ownsRow base 9 1 (.slice ao (n + 1) cap) (n + 1) (us ++ [u]) ∧ KeepR v base w w' := by
 subst hn
 obtain ⟨i0, hi, hz0, hz1, hz2⟩ := info_parts' info_str
 have hcell : ∀ (j : Nat) (z : Value), [u][j]? = some z → w.cell? ((⟨gk, 0, none⟩ : Addr).add j) = some z := by
  intro j z hz
  cases j with
  | zero =>
   obtain rfl := Option.some.inj hz
   have := cell_of_row w gk 0 _ _ _ hr
   simpa [Addr.add] using this
  | succ j => cases hz
 have hone : ∀ z ∈ [u], z.oneCell' = true := by
  intro z hz
  obtain rfl := List.mem_singleton.1 hz
  exact hu1
 obtain ⟨v', w', hrun, hown', hgr, -, -⟩ := run_append_own_at (P := Tryz.prog) w base 22 o.type 9 i0 _ 1 16 Tryz.underlying22 hi hz0 hz1 hz2 rfl (by omega) v us.length _ h ⟨gk, 0, none⟩ 1 1 [u] rfl hcell hone (by simp only [maxLen]; omega) (by omega) hbase
 have hv : ∃ ao cap, v' = .slice ao (us.length + 1) cap := by
  obtain ⟨-, h2⟩ := hown'
  rcases h2 with ⟨rfl, hn⟩ | ⟨g', cap, cur, rfl, -⟩
  ·omega
  ·exact ⟨_, _, rfl⟩
 obtain ⟨ao, cap, rfl⟩ := hv
 refine ⟨ao, cap, w', ?_, by simpa using hown', (Below.refl base w).grown hgr hbase (fun k hk => (World.ownsRow.lt h k hk).1), fun k o hk ho => ?_⟩
 ·unfold execOp
  simp only [hop, Go.resolve, invoke, builtin, Sem.run_bind, Sem.run_pure, Result.andThen_ok, List.map_toArray, List.map_cons, List.map_nil, hs, hx, hrun]
 ·rw [hgr.block k (heap_lt ho) (fun e => hk e.symm)]; exact ho
theorem run_app_sl (w : World) {o : Oper} {a : Act} (p x : Operand) (hop : o.op = Op.call { callee := Callee.builtin Builtin.append, args := #[p, x], argTypes := #[23, 23] })
  (base : Nat) (v : Value) (us : List Value) (n : Nat) (hn : us.length = n) (hs : a.eval p = v) (h : w.ownsRow base 26 1 v n us) (u : Value) (hu1 : u.oneCell' = true) (gk : Nat) (hx : a.eval x = .slice (some ⟨gk, 0, none⟩) 1 1)
  (hr : w.heap[gk]? = some (.cells #[u] 26 (0, 0))) (hbd : n ≤ 9000) (hbase : base ≤ w.heap.size) :
  ∃ ao cap w', (execOp a.eval o).run Tryz.prog w = .ok (.value (.slice ao (n + 1) cap)) w' ∧ w'.ownsRow base 26 1 (.slice ao (n + 1) cap) (n + 1) (us ++ [u]) ∧ KeepR v base w w' := by
 subst hn
 obtain ⟨i0, hi, hz0, hz1, hz2⟩ := info_parts' info_sums
 have hcell : ∀ (j : Nat) (z : Value), [u][j]? = some z → w.cell? ((⟨gk, 0, none⟩ : Addr).add j) = some z := by
  intro j z hz
  cases j with
  | zero =>
   obtain rfl := Option.some.inj hz
   have := cell_of_row w gk 0 _ _ _ hr
   simpa [Addr.add] using this
  | succ j => cases hz
 have hone : ∀ z ∈ [u], z.oneCell' = true := by
  intro z hz
  obtain rfl := List.mem_singleton.1 hz
  exact hu1
 obtain ⟨v', w', hrun, hown', hgr, -, -⟩ := run_append_own_at (P := Tryz.prog) w base 23 o.type 26 i0 _ 1 24 Tryz.underlying23 hi hz0 hz1 hz2 rfl (by omega) v us.length _ h ⟨gk, 0, none⟩ 1 1 [u] rfl hcell hone (by simp only [maxLen]; omega) (by omega) hbase
 have hv : ∃ ao cap, v' = .slice ao (us.length + 1) cap := by
  obtain ⟨-, h2⟩ := hown'
  rcases h2 with ⟨rfl, hn⟩ | ⟨g', cap, cur, rfl, -⟩
  ·omega
  ·exact ⟨_, _, rfl⟩
 obtain ⟨ao, cap, rfl⟩ := hv
 refine ⟨ao, cap, w', ?_, by simpa using hown', (Below.refl base w).grown hgr hbase (fun k hk => (World.ownsRow.lt h k hk).1), fun k o hk ho => ?_⟩
 ·unfold execOp
  simp only [hop, Go.resolve, invoke, builtin, Sem.run_bind, Sem.run_pure, Result.andThen_ok, List.map_toArray, List.map_cons, List.map_nil, hs, hx, hrun]
 ·rw [hgr.block k (heap_lt ho) (fun e => hk e.symm)]; exact ho
end Go.Proofs.YthcidkidpiaomaaGreatDoor.Od
end
