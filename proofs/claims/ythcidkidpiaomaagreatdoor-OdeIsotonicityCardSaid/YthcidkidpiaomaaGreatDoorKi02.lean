/- OiG RegY OiH OhA OhG -/
import Derived.Laws.AppendOwn
import Derived.Test.YthcidkidpiaomaaGreatDoorKf25
import Derived.Test.YthcidkidpiaomaaGreatDoorKi01
import Derived.Test.YthcidkidpiaomaaGreatDoorKf05
import Derived.Test.YthcidkidpiaomaaGreatDoorKf11
import Derived.Test.YthcidkidpiaomaaGreatDoorKf24
import Derived.Test.YthcidkidpiaomaaGreatDoorKf14
import Derived.Test.YthcidkidpiaomaaGreatDoorKf20
section
set_option linter.unusedVariables false
set_option linter.unusedSimpArgs false
namespace Go.Proofs.YthcidkidpiaomaaGreatDoor.Od
open Go.RowKit Rg
structure KP where
  P : Value → World → Prop
  keep : ∀ u w w', P u w → Below w.heap.size w w' → P u w'
inductive Sy
  | val (v : Value)
  | pr (p : KP)
def Sy.ok : Sy → Value → World → Prop
  | .val v, u, _ => u = v
  | .pr p, u, w => p.P u w
def taby (l : List Sy) : Tab := ⟨fun i v w => ((l[i]?).getD (.val .nilFunc)).ok v w, true, fun i v w w' h hb hs => by
  revert h
  generalize (l[i]?).getD (.val .nilFunc) = s
  intro h
  cases s with
  | val u => exact h
  | pr p => exact p.keep _ _ _ h (hs rfl)⟩
def Sy.told : Sy → Option Value
  | .val v => some v
  | _ => none
theorem tells_y (L : List Sy) : Rg.Tells (taby L) (L.map Sy.told) := tells_of Sy.ok Sy.told (.val .nilFunc) (fun s v h u w => by cases s <;> simp_all [Sy.told, Sy.ok]) L _ (fun _ _ _ => rfl)
def kNew (z : Array Value) (T : TypeId) (N : Nat) : KP := ⟨fun u w => ∃ g, N ≤ g ∧ u = .pointer (some ⟨g, 0, none⟩) ∧ w.heap[g]? = some (.cells z T (0, 0)), fun u w w' ⟨g, h1, h2, h3⟩ hb => ⟨g, h1, h2, (hb.block g (heap_lt h3)).trans h3⟩⟩
def kTree (n : Nat) : KP := ⟨fun u w => ∃ t, okN n t ∧ (flat t).length ≤ 31 ∧ Ex w u t, fun u w w' ⟨t, h1, h2, h3⟩ hb => ⟨t, h1, h2, h3.below hb⟩⟩
structure Sys3 (n : Nat) (w : World) (vn vs : Value) (ts : List Tr) : Prop where
  nm : Strs w vn (n6.take n)
  fs : Fs w vs (ts.map flat)
  len : ts.length = n
  ok : ∀ t ∈ ts, okN n t
  l31 : ∀ t ∈ ts, (flat t).length ≤ 31
theorem Sys3.below {n : Nat} {w w' : World} {vn vs : Value} {ts : List Tr} (h : Sys3 n w vn vs ts) (hb : Below w.heap.size w w') : Sys3 n w' vn vs ts := ⟨h.nm.below hb, h.fs.below hb, h.len, h.ok, h.l31⟩
def kSys (n : Nat) : KP := ⟨fun u w => ∃ vn vs ts, u = .agg #[vn, vs] ∧ Sys3 n w vn vs ts, fun u w w' ⟨vn, vs, ts, h1, h2⟩ hb => ⟨vn, vs, ts, h1, h2.below hb⟩⟩
def kBox (n : Nat) : KP := ⟨fun u w => ∃ xs, Ivs w u xs ∧ xs.length = n ∧ ∀ a ∈ xs, okI a, fun u w w' ⟨xs, h1, h2⟩ hb => ⟨xs, h1.below hb, h2⟩⟩
def kIvs (xs : List Iv) : KP := ⟨fun u w => Ivs w u xs, fun u w w' h hb => h.below hb⟩
def kHull (xs : List Iv) : KP := ⟨fun u w => ∃ ys, Ivs w u ys ∧ SubB xs ys ∧ ∀ a ∈ ys, okI a, fun u w w' ⟨ys, h1, h2⟩ hb => ⟨ys, h1.below hb, h2⟩⟩
theorem enters_msys : ∀ args w, (callFunc 18 args).run Tryz.prog w = .ok (.enter 18 args) w := fun args w => by kernel_rfl
theorem rMadeSys_k (af : Option Addr) (lf cf : Nat) (fs : List (List Nd)) (most n : Nat) (hn : 1 ≤ n ∧ n ≤ 6) (w : World) (G : Nat) (hG : G ≤ w.heap.size) (h : RawF G w (.slice af lf cf) fs) :
    Calls Tryz.prog 18 #[.slice af lf cf, .int .i64 (most : Nat), .int .i64 (n : Nat)] w fun e w' => ∃ v, e = .returned v ∧ Below w.heap.size w w' ∧ (kSys n).P v w' := by
  refine (rMadeSys_any _ fs most n hn w G hG h).mono ?_
  rintro e w' ⟨vn, vs, ts, rfl, h1, h2, h3, h4, h5, hb⟩
  exact ⟨_, rfl, hb, vn, vs, ts, rfl, h1, h2, h3, h4, h5⟩
theorem rMade_k (ae : Option Addr) (le ce : Nat) (e : List Nd) (most n : Nat) (hn : 1 ≤ n ∧ n ≤ 6) (w : World) (G : Nat) (hG : G ≤ w.heap.size) (h : RawN G w (.slice ae le ce) e) :
    Calls Tryz.prog 19 #[.slice ae le ce, .int .i64 (most : Nat), .int .i64 (n : Nat)] w fun e w' => ∃ v, e = .returned v ∧ Below w.heap.size w w' ∧ (kTree n).P v w' := by
  refine (rMade_any _ e most n hn w G hG h).mono ?_
  rintro e w' ⟨t, v', rfl, h1, h2, h3, hb⟩
  exact ⟨_, rfl, hb, t, h1, h2, Ex.of h3 (by omega)⟩
theorem n6_take_len {n : Nat} (hn : n ≤ 6) : (n6.take n).length = n ∧ (strL (n6.take n)).length = n := by
  have : n6.length = 6 := rfl
  constructor
  · rw [List.length_take]; omega
  · unfold strL; rw [List.length_map, List.length_take]; omega
theorem cell_keepz {w w' : World} {g : Nat} {p : Addr} {v : Value} (hr : w.heap[g]? = some (.cells #[.slice none 0 0, .slice none 0 0] 25 (0, 0))) (hk : ∀ k, k ≠ g → w'.heap[k]? = w.heap[k]?) (hc : w.cell? p = some v) (hv : v ≠ .slice none 0 0) : w'.cell? p = some v := by
  by_cases hp : p.block = g
  · exfalso
    obtain ⟨b, o, s⟩ := p
    simp only at hp
    subst hp
    cases s with
    | some s => unfold World.cell? at hc; rw [hr] at hc; simp at hc
    | none =>
      rw [cell_of_row _ _ _ _ _ _ hr] at hc
      rcases o with _ | _ | o
      · exact hv (Option.some.inj hc).symm
      · exact hv (Option.some.inj hc).symm
      · simp at hc
  · rw [World.cell?_of_block (w := w) (hk _ hp)]; exact hc
section
variable {w w' : World} {g : Nat}
theorem Strs.keepz {v : Value} {xs : List ByteArray} (h : Strs w v xs) (hr : w.heap[g]? = some (.cells #[.slice none 0 0, .slice none 0 0] 25 (0, 0))) (hk : ∀ k, k ≠ g → w'.heap[k]? = w.heap[k]?) : Strs w' v xs := by
  refine ⟨?_, h.few⟩
  rcases h.out with h0 | ⟨b, off, c, hv, hcp, hc⟩
  · exact Or.inl h0
  · exact Or.inr ⟨b, off, c, hv, hcp, fun j hj => cell_keepz hr hk (hc j hj) (fun e => by cases e)⟩
theorem nd_int {e : List Nd} {j : Nat} {u : Value} (h : (nds e)[j]? = some u) : u ≠ .slice none 0 0 := by
  obtain ⟨x, -, hx⟩ := nds_inv e j u h
  intro e
  subst e
  unfold nd4 at hx
  have hj : j % 4 < 4 := Nat.mod_lt _ (by decide)
  rcases (show j % 4 = 0 ∨ j % 4 = 1 ∨ j % 4 = 2 ∨ j % 4 = 3 by omega) with q | q | q | q <;> rw [q] at hx <;> cases hx
theorem RdN.keepz {v : Value} {e : List Nd} (h : RdN w v e) (hr : w.heap[g]? = some (.cells #[.slice none 0 0, .slice none 0 0] 25 (0, 0))) (hk : ∀ k, k ≠ g → w'.heap[k]? = w.heap[k]?) : RdN w' v e := by
  refine ⟨?_, h.few⟩
  rcases h.out with h0 | ⟨b, o, c, hv, hcp, hc⟩
  · exact Or.inl h0
  · exact Or.inr ⟨b, o, c, hv, hcp, fun j u hu => cell_keepz hr hk (hc j u hu) (nd_int hu)⟩
theorem Rd.keepz {v : Value} {e : List Nd} (h : Rd w v e) (hr : w.heap[g]? = some (.cells #[.slice none 0 0, .slice none 0 0] 25 (0, 0))) (hk : ∀ k, k ≠ g → w'.heap[k]? = w.heap[k]?) : Rd w' v e := by
  obtain ⟨ao, cap, h1, h2, h3, h4, h5⟩ := h.out
  exact ⟨ao, cap, h1, h2, h3, h4, fun b hb j u hu => cell_keepz hr hk (h5 b hb j u hu) (nd_int hu)⟩
theorem Ex.keepz {v : Value} {t : Tr} (h : Ex w v t) (hr : w.heap[g]? = some (.cells #[.slice none 0 0, .slice none 0 0] 25 (0, 0))) (hk : ∀ k, k ≠ g → w'.heap[k]? = w.heap[k]?) : Ex w' v t := ⟨h.rd.keepz hr hk, h.rdn.keepz hr hk⟩
theorem Fs.keepz {v : Value} {ts : List Tr} (h : Fs w v (ts.map flat)) (hr : w.heap[g]? = some (.cells #[.slice none 0 0, .slice none 0 0] 25 (0, 0))) (hk : ∀ k, k ≠ g → w'.heap[k]? = w.heap[k]?) : Fs w' v (ts.map flat) := by
  refine ⟨?_, h.few⟩
  rcases h.out with h0 | ⟨b, o, c, us, hv, hl, hc, hd⟩
  · exact Or.inl h0
  · refine Or.inr ⟨b, o, c, us, hv, hl, fun j u hu => cell_keepz hr hk (hc j u hu) (fun e => ?_), fun j u e hu he => (hd j u e hu he).keepz hr hk⟩
    have hj : j < (ts.map flat).length := by rw [← hl]; exact (List.getElem?_eq_some_iff.1 hu).1
    have he : (ts.map flat)[j]? = some (ts.map flat)[j] := List.getElem?_eq_getElem hj
    have hrd := hd j u _ hu he
    rw [List.getElem?_map, Option.map_eq_some_iff] at he
    obtain ⟨t, -, ht⟩ := he
    rcases hrd.out with ⟨h0, -⟩ | ⟨b', o', c', hv', -⟩
    · rw [← ht] at h0; exact flat_ne t h0
    · rw [e] at hv'; cases hv'
theorem Sys3.keepz {n : Nat} {vn vs : Value} {ts : List Tr} (h : Sys3 n w vn vs ts) (hr : w.heap[g]? = some (.cells #[.slice none 0 0, .slice none 0 0] 25 (0, 0))) (hk : ∀ k, k ≠ g → w'.heap[k]? = w.heap[k]?) : Sys3 n w' vn vs ts := ⟨h.nm.keepz hr hk, h.fs.keepz hr hk, h.len, h.ok, h.l31⟩
end
end Go.Proofs.YthcidkidpiaomaaGreatDoor.Od
end
section
set_option linter.unusedVariables false
namespace Go.Proofs.YthcidkidpiaomaaGreatDoor.Rg
open Go.RowKit
def blk : Value → Option Nat
  | .pointer (some p) => some p.block
  | .slice (some p) _ _ => some p.block
  | _ => none
structure XB (D : List (Nat × Tmp)) (listed : Array Bool) (a : Act) (w : World) : Prop where
  hp : ∀ x ∈ D, listed.getD x.1 false = true → ∃ g, blk (a.tmps.getD x.2 undef) = some g ∧ g < w.heap.size
  ne : ∀ x ∈ D, ∀ y ∈ D, x ≠ y → listed.getD x.1 false = true → listed.getD y.1 false = true → blk (a.tmps.getD x.2 undef) ≠ blk (a.tmps.getD y.2 undef)
def inD (D : List (Nat × Tmp)) (k : Nat) : Bool := D.any fun x => x.1 == k
def okD (D : List (Nat × Tmp)) (l : List Oper) (m : Nat) : Bool := D.all fun x => Nat.blt x.1 m && (match l[x.1]? with | some o => o.dst == some x.2 | none => false)
def Fresh (w : World) (v : Value) (w' : World) : Prop := ∃ g, blk v = some g ∧ w.heap.size ≤ g ∧ g < w'.heap.size
def StepD (P : Program) (T : Tab) (ops us : Array Oper) (Q : Exit → Act → World → Prop) (a0 : Act) (w0 : World) (i : Nat) (o : Oper) : Prop :=
  ∀ (a : Act) (w : World), a.tmps.size = a0.tmps.size → Below w0.heap.size w0 w → Old us a0 a → (∀ e ∈ o.after.toList, Region.binds .any e = true → Got T ops e.on a w) →
    Region.wanted o (yielded ops a.tmps) = true ∧ o.wp P a w (fun a' w' => ∃ v, a' = a.put o.dst v ∧ Stp w0.heap.size w w' ∧ (T.strict = true → Below w.heap.size w w') ∧ T.S i v w' ∧ Fresh w v w') Q
def AllF (P : Program) (T : Tab) (ops us : Array Oper) (Q : Exit → Act → World → Prop) (a0 : Act) (w0 : World) (D : List (Nat × Tmp)) : Nat → Nat → List Oper → Prop
  | _, 0, _ => True
  | _, _ + 1, [] => True
  | k, n + 1, o :: r => (if inD D k then StepD P T ops us Q a0 w0 k o else StepOk P T ops us Q a0 w0 k o) ∧ AllF P T ops us Q a0 w0 D (k + 1) n r
section
variable {P : Program} {T : Tab} {Q : Exit → Act → World → Prop} {a0 : Act} {w0 : World} {D : List (Nat × Tmp)}
theorem AllF.at {ops us : Array Oper} {l : List Oper} : ∀ {k n : Nat}, AllF P T ops us Q a0 w0 D k n l → ∀ i o, i < n → l[i]? = some o → if inD D (k + i) then StepD P T ops us Q a0 w0 (k + i) o else StepOk P T ops us Q a0 w0 (k + i) o := by
  induction l with
  | nil => intro k n _ i o _ h; simp at h
  | cons x r ih =>
    intro k n h i o hi ho
    cases n with
    | zero => omega
    | succ n =>
      cases i with
      | zero => obtain rfl := Option.some.inj ho; exact h.1
      | succ i =>
        have := ih h.2 i o (by omega) (by simpa using ho)
        rwa [show k + 1 + i = k + (i + 1) by omega] at this
theorem XB.start {listed : Array Bool} {a : Act} {w : World} (h : ∀ i, listed.getD i false = false) : XB D listed a w :=
  ⟨fun x _ e => (by rw [h x.1] at e; cases e), fun x _ y _ _ e => (by rw [h x.1] at e; cases e)⟩
theorem XB.keep {listed : Array Bool} {a : Act} {w w' : World} {i : Nat} {d : Option Tmp} {v : Value} (h : XB D listed a w) (h1 : ∀ x ∈ D, ¬ i = x.1) (h3 : ∀ x ∈ D, d ≠ some x.2) (hs : w.heap.size ≤ w'.heap.size) :
    XB D (listed.setIfInBounds i true) (a.put d v) w' := by
  have e1 : ∀ x ∈ D, (a.put d v).tmps.getD x.2 undef = a.tmps.getD x.2 undef := fun x hx => put_other a d v x.2 (h3 x hx)
  refine ⟨fun x hx e => ?_, fun x hx y hy hn e e' => ?_⟩
  · rw [listed_off (fun z => h1 x hx z.symm)] at e
    obtain ⟨g, hg, hl⟩ := h.hp x hx e
    exact ⟨g, by rw [e1 x hx]; exact hg, by omega⟩
  · rw [listed_off (fun z => h1 x hx z.symm)] at e
    rw [listed_off (fun z => h1 y hy z.symm)] at e'
    rw [e1 x hx, e1 y hy]; exact h.ne x hx y hy hn e e'
theorem XB.add {listed : Array Bool} {a : Act} {w w' : World} {v : Value} (h : XB D listed a w) {z : Nat × Tmp} (hz : z ∈ D) (hf : Fresh w v w') (hd : z.2 < a.tmps.size) (hD : ∀ x ∈ D, x ≠ z → x.1 ≠ z.1 ∧ x.2 ≠ z.2) :
    XB D (listed.setIfInBounds z.1 true) (a.put (some z.2) v) w' := by
  obtain ⟨G, hG, hG1, hG2⟩ := hf
  have e0 := put_same a z.2 v hd
  have e1 : ∀ x ∈ D, x ≠ z → (a.put (some z.2) v).tmps.getD x.2 undef = a.tmps.getD x.2 undef := fun x hx hn => put_other a _ _ x.2 (fun e => (hD x hx hn).2 (Option.some.inj e).symm)
  have key : ∀ x ∈ D, x ≠ z → (listed.setIfInBounds z.1 true).getD x.1 false = true → ∃ g, blk ((a.put (some z.2) v).tmps.getD x.2 undef) = some g ∧ g < w.heap.size := fun x hx hn e => by
    rw [listed_off (hD x hx hn).1] at e
    obtain ⟨g, hg, hl⟩ := h.hp x hx e
    exact ⟨g, by rw [e1 x hx hn]; exact hg, hl⟩
  refine ⟨fun x hx e => ?_, fun x hx y hy hn e e' => ?_⟩
  · by_cases hxz : x = z
    · subst hxz; exact ⟨G, by rw [e0]; exact hG, hG2⟩
    · obtain ⟨g, hg, hl⟩ := key x hx hxz e
      exact ⟨g, hg, by omega⟩
  · by_cases hxz : x = z
    · subst hxz
      obtain ⟨g, hg, hl⟩ := key y hy (fun e => hn e.symm) e'
      rw [e0, hg, hG]; intro e; have := Option.some.inj e; omega
    · by_cases hyz : y = z
      · subst hyz
        obtain ⟨g, hg, hl⟩ := key x hx hn e
        rw [e0, hg, hG]; intro e; have := Option.some.inj e; omega
      · rw [e1 x hx hxz, e1 y hy hyz]
        rw [listed_off (hD x hx hxz).1] at e
        rw [listed_off (hD y hy hyz).1] at e'
        exact h.ne x hx y hy hn e e'
theorem any_of_listB {l : List Oper} {m : Nat} (hD : ∀ x ∈ D, x.1 < m ∧ ∃ o, l[x.1]? = some o ∧ o.dst = some x.2) (hm : m < l.length) (hs : succUpTo l m = true) (hes : edgesOk 0 l = true) (hch : chainOk l m = true)
    (hdst : ∀ (i j : Nat) (o o' : Oper) (d : Tmp), l.toArray[i]? = some o → l.toArray[j]? = some o' → o.dst = some d → o'.dst = some d → i = j) (hsz : ∀ (i : Nat) (o : Oper) (d : Tmp), l.toArray[i]? = some o → o.dst = some d → d < a0.tmps.size)
    (hstep : ∀ (i : Nat) (o : Oper), i < m → l[i]? = some o → if inD D i then StepD P T l.toArray (l.take m).toArray Q a0 w0 i o else StepOk P T l.toArray (l.take m).toArray Q a0 w0 i o)
    (hend : ∀ listed a w, Good T l.toArray (l.take m).toArray a0 w0 listed a w → (∀ i, i < m → listed.getD i false = true) → XB D listed a w → wpList P l.toArray Q (l.drop m) a w) :
    ∀ (fuel : Nat) (listed : Array Bool) (a : Act) (w : World), (listed.toList.count false) ≤ fuel → Good T l.toArray (l.take m).toArray a0 w0 listed a w → XB D listed a w → Closed l.toArray listed → (∀ i, m ≤ i → listed.getD i false = false) → wpAny P .any l.toArray Q fuel listed a w := by
  obtain ⟨om, hom⟩ : ∃ om, l[m]? = some om := ⟨l[m], List.getElem?_eq_getElem hm⟩
  intro fuel
  induction fuel with
  | zero =>
    intro listed a w hc hg hx hcl hl
    exfalso
    have hlt : m < listed.size := by rw [hg.len]; simpa using hm
    have := hl m (Nat.le_refl _)
    rw [Array.getD_eq_getD_getElem?, Array.getElem?_eq_getElem hlt] at this
    simp at this
    have h0 : listed.toList.count false = 0 := by omega
    rw [List.count_eq_zero] at h0
    exact h0 (by rw [← this]; exact Array.mem_toList_iff.2 (Array.getElem_mem hlt))
  | succ fuel ih =>
    intro listed a w hc hg hx hcl hl
    have hlsz : listed.size = l.length := by rw [hg.len]; simp
    refine ⟨fun hr => ?_, fun i hi => ?_⟩
    · exfalso
      have := all_listed hes hg.len hr m (by simpa using hm)
      rw [hl m (Nat.le_refl _)] at this; cases this
    obtain ⟨o, ho, hli, he⟩ := mem_ready hi
    have ho' : l[i]? = some o := by simpa using ho
    have hil : i < l.length := (List.getElem?_eq_some_iff.1 ho').1
    have hcount := count_next hc hli
    by_cases hqm : i < m
    · unfold wpOp
      simp only [ho]
      have hcl' : Closed l.toArray (listed.setIfInBounds i true) := by
        intro j oj hoj hj e hem hb
        rcases listed_next hj with rfl | hj
        · rw [ho] at hoj; cases hoj
          exact listed_keep (he e hem hb)
        · exact listed_keep (hcl j oj hoj hj e hem hb)
      have hl' : ∀ j, m ≤ j → (listed.setIfInBounds i true).getD j false = false := fun j hj => by rw [listed_off (by omega)]; exact hl j hj
      have hmem : o ∈ (l.take m).toArray := by simp only [List.mem_toArray]; exact List.mem_take_iff_getElem.2 ⟨i, by omega, by rw [List.getElem?_eq_getElem hil] at ho'; exact Option.some.inj ho'⟩
      have hst := hstep i o hqm ho'
      cases hin : inD D i with
      | true =>
        rw [hin, if_pos rfl] at hst
        obtain ⟨z, hz, hzi⟩ := List.any_eq_true.1 hin
        obtain rfl : z.1 = i := by simpa using hzi
        obtain ⟨-, op, hp, hpd⟩ := hD z hz
        rw [hp] at ho'; cases ho'
        obtain ⟨hw, hst⟩ := hst a w hg.size hg.below hg.old (fun e hem hb => hg.got e.on (he e hem hb))
        rw [if_pos hw]
        refine Or.inl (Oper.wp_mono ?_ hst)
        rintro a' w' ⟨v, rfl, hb, hbs, hv, hf⟩
        have hx' := hx.add hz hf (by rw [hg.size]; exact hsz z.1 o z.2 ho hpd) (fun x hx hn => by
          obtain ⟨-, ox, hox, hxd⟩ := hD x hx
          have h2 : x.2 = z.2 → x.1 = z.1 := fun e => hdst x.1 z.1 ox o z.2 (by simpa using hox) ho (by rw [hxd, e]) hpd
          have h1 : x.1 ≠ z.1 := fun e => hn (by
            rw [e, hp] at hox; cases hox
            rw [hpd] at hxd
            exact Prod.ext e (Option.some.inj hxd).symm)
          exact ⟨h1, fun e => h1 (h2 e)⟩)
        rw [← hpd] at hx'
        exact ih _ _ _ hcount (hg.next ho hmem hdst hsz hb hbs hv) hx' hcl' hl'
      | false =>
        rw [hin] at hst
        have hst : StepOk P T l.toArray (l.take m).toArray Q a0 w0 i o := by simpa using hst
        have hst := hst a w hg.size hg.below hg.old (fun e hem hb => hg.got e.on (he e hem hb))
        have h1 : ∀ x ∈ D, ¬ i = x.1 := fun x hx e => by
          have : inD D i = true := List.any_eq_true.2 ⟨x, hx, by simp [e]⟩
          rw [hin] at this; cases this
        have h2 : ∀ x ∈ D, o.dst ≠ some x.2 := fun x hx e => by
          obtain ⟨-, ox, hox, hxd⟩ := hD x hx
          exact h1 x hx (hdst i x.1 o ox x.2 ho (by simpa using hox) e hxd)
        rcases hst with ⟨hw, hst⟩ | ⟨hw, hst⟩
        · rw [if_pos hw]
          refine Or.inl (Oper.wp_mono ?_ hst)
          rintro a' w' ⟨v, rfl, hb, hbs, hv⟩
          exact ih _ _ _ hcount (hg.next ho hmem hdst hsz hb hbs hv) (hx.keep h1 h2 hb.low.size) hcl' hl'
        · rw [if_neg (by rw [hw]; simp)]
          exact ih _ _ _ hcount (hg.next ho hmem hdst hsz (Stp.refl _ _) (fun _ => Below.refl _ _) hst) (hx.keep h1 h2 (Nat.le_refl _)) hcl' hl'
    · have him : i = m := by
        rcases Nat.lt_or_ge m i with h | h
        · have := chain_prev hch h ho' he
          rw [hl (i - 1) (by omega)] at this; cases this
        · omega
      subst him
      rw [hom] at ho'; cases ho'
      have hall : ∀ j, j < i → listed.getD j false = true := fun j hj => upto_all hs hcl hom he _ j (Nat.le_refl _) hj
      have hw := hend listed a w hg hall hx
      have hdr : l.drop i = om :: l.drop (i + 1) := by
        rw [List.drop_eq_getElem_cons hil]
        rw [List.getElem?_eq_getElem hil] at hom
        rw [Option.some.inj hom]
      rw [hdr] at hw
      have hnext : ∀ a' w', wpList P l.toArray Q (l.drop (i + 1)) a' w' → wpAny P .any l.toArray Q fuel (listed.setIfInBounds i true) a' w' := fun a' w' hh =>
        any_of_chain hes hch _ (i + 1) fuel _ a' w' (by omega) rfl (by simpa using hlsz) hcount
          (fun j hj => by
            by_cases hji : j = i
            · subst hji; exact listed_at (by omega)
            · rw [listed_off hji]; exact hall j (by omega))
          (fun j hj => by rw [listed_off (by omega)]; exact hl j (by omega)) hh
      unfold wpOp
      simp only [ho]
      unfold wpList at hw
      by_cases hwt : Region.wanted om (yielded l.toArray a.tmps) = true
      · rw [if_pos hwt] at hw ⊢
        rcases hw with hw | hw
        · exact Or.inl (Oper.wp_mono (fun a' w' => hnext a' w') hw)
        · exact Or.inr hw
      · rw [if_neg hwt] at hw ⊢
        exact hnext _ _ hw
theorem region_listB {id : Nat} {ops : Array Oper} (D : List (Nat × Tmp)) (m : Nat) (l : List Oper) (hD : ∀ x ∈ D, x.1 < m ∧ ∃ o, l[x.1]? = some o ∧ o.dst = some x.2) (hm : P.follows .mixedOrders = true) (hs : slotsOk l a0.tmps.size = true) (hes : edgesOk 0 l = true) (hsu : succUpTo l m = true) (hch : chainOk l m = true) (hml : Nat.blt m l.length = true) (hops : ops = l.toArray) (h : AllF P T ops (l.take m).toArray Q a0 w0 D 0 m l)
    (hend : ∀ a w, a.defers = a0.defers → a.tmps.size = a0.tmps.size → Below w0.heap.size w0 w → Old (l.take m).toArray a0 a → (∀ i, i < m → Got T ops i a w) → (∀ x ∈ D, ∀ y ∈ D, x ≠ y → blk (a.tmps.getD x.2 undef) ≠ blk (a.tmps.getD y.2 undef)) → wpList P ops Q (l.drop m) a w) : (Code.region id ops true).wp P Q a0 w0 := by
  subst hops
  refine wp_region_any hm ?_
  have hb : Below w0.heap.size w0 { w0 with drawn := w0.drawn + 1 } := ⟨rfl, rfl, rfl, Nat.le_refl _, fun _ _ => rfl⟩
  have hml' : m < l.length := by simpa [Nat.blt_eq] using hml
  refine any_of_listB (a0 := a0) (w0 := w0) hD hml' hsu hes hch (fun i j o o' d hi hj => slots_ne hs i j o o' d (by simpa using hi) (by simpa using hj)) (fun i o d hi => slots_lt hs i o d (by simpa using hi))
    (fun i o hi ho => by have := h.at i o hi ho; rwa [Nat.zero_add] at this) (fun listed a w hg hall hx => hend a w hg.defs hg.size hg.below hg.old (fun i hi => hg.got i (hall i hi)) (fun x h1 y h2 hn => hx.ne x h1 y h2 hn (hall _ (hD x h1).1) (hall _ (hD y h2).1))) _ _ _ _ ?_ ⟨rfl, rfl, by simp, hb, fun _ _ => rfl, fun i hi => ?_⟩ (XB.start fun i => ?_) (fun j o _ hj => ?_) (fun j hj => ?_)
  · simp
  · rw [Array.getD_eq_getD_getElem?, Array.getElem?_replicate] at hi
    split at hi <;> simp at hi
  · rw [Array.getD_eq_getD_getElem?, Array.getElem?_replicate]
    split <;> rfl
  · rw [Array.getD_eq_getD_getElem?, Array.getElem?_replicate] at hj
    split at hj <;> simp at hj
  · rw [Array.getD_eq_getD_getElem?, Array.getElem?_replicate]
    split <;> rfl
theorem got_usB {l : List Oper} {m : Nat} {a : Act} {w : World} {us : Nat → Value} (hml : Nat.blt m l.length = true) (hds : ((l.take m).all fun o => o.dst.isSome) = true) (hg : ∀ i, i < m → Got T l.toArray i a w) (hus : ∀ i, us i = match l[i]? with | some o => a.tmps.getD (o.dst.getD 0) undef | none => undef) : ∀ i, i < m → T.S i (us i) w := fun i hi => by
  have hml' : m < l.length := by simpa [Nat.blt_eq] using hml
  have hli : l[i]? = some l[i] := List.getElem?_eq_getElem (by omega)
  have hsome := List.all_eq_true.1 hds l[i] (List.mem_iff_getElem.2 ⟨i, by rw [List.length_take]; omega, by simp⟩)
  obtain ⟨d, hd⟩ := Option.isSome_iff_exists.1 hsome
  have := hg i hi l[i] d (by simp) hd
  rw [hus, hli]
  simp only [hd]
  exact this
theorem put_usB {V : List (Option Value)} {l : List Oper} {m : Nat} {a : Act} {w : World} {us : Nat → Value} (hT : Tells T V) (hs : slotsOk l a0.tmps.size = true) (hml : Nat.blt m l.length = true) (hVl : Nat.beq V.length m = true) (hds : ((l.take m).all fun o => o.dst.isSome) = true) (hd : a.defers = a0.defers) (hz : a.tmps.size = a0.tmps.size) (ho : Old (l.take m).toArray a0 a)
    (hg : ∀ i, i < m → Got T l.toArray i a w) (hus : ∀ i, us i = match l[i]? with | some o => a.tmps.getD (o.dst.getD 0) undef | none => undef) : a = ⟨putu 0 (l.take m) V us a0.tmps, a0.defers⟩ := by
  have hml' : m < l.length := by simpa [Nat.blt_eq] using hml
  have hVl' : V.length = m := Nat.eq_of_beq_eq_true hVl
  have hS := got_usB hml hds hg hus
  have hfr := putv_all us hz ho hs (fun i o d hi hl hd => by rw [hus, hl]; simp only [hd]; rfl)
  rw [← putu_eq us 0 (l.take m) V a0.tmps (by rw [List.length_take, hVl']; omega) (fun i v hi => by
    rw [Nat.zero_add]
    have him : i < m := by have := (List.getElem?_eq_some_iff.1 hi).1; omega
    exact (hT _ _ _ _ hi).1 (hS i him))] at hfr
  obtain ⟨tm, df⟩ := a
  simp only at hd hfr
  rw [hd, hfr]
theorem okD_mem {l : List Oper} {m : Nat} (h : okD D l m = true) : ∀ x ∈ D, x.1 < m ∧ ∃ o, l[x.1]? = some o ∧ o.dst = some x.2 := fun x hx => by
  have := List.all_eq_true.1 h x hx
  simp only [Bool.and_eq_true] at this
  obtain ⟨h1, h2⟩ := this
  refine ⟨by simpa [Nat.blt_eq] using h1, ?_⟩
  cases hl : l[x.1]? with
  | none => rw [hl] at h2; cases h2
  | some o => rw [hl] at h2; exact ⟨o, rfl, by simpa using h2⟩
theorem wp_callsD {n i : Nat} {o : Oper} {a : Act} {w : World} {f : Nat} {args : Array Value} (hn : n ≤ w.heap.size) (hr : (execOp a.eval o).run P w = .ok (.enter f args) w)
    (hc : Calls P f args w fun e w' => ∃ v, e = .returned v ∧ Below w.heap.size w w' ∧ T.S i v w' ∧ Fresh w v w') :
    o.wp P a w (fun a' w' => ∃ v, a' = a.put o.dst v ∧ Stp n w w' ∧ (T.strict = true → Below w.heap.size w w') ∧ T.S i v w' ∧ Fresh w v w') Q := by
  unfold Oper.wp
  rw [hr, Oper.upon_enter]
  refine hc.mono ?_
  rintro e w' ⟨v, rfl, hb, hv, hf⟩
  exact ⟨v, rfl, .of hn hb, fun _ => hb, hv, hf⟩
section
variable {V : List (Option Value)} {l : List Oper} {m : Nat} {fa : Array Value}
def AllG (P : Program) (T : Tab) (V : List (Option Value)) (D : List (Nat × Tmp)) (l : List Oper) (Q : Exit → Act → World → Prop) (a0 : Act) (w0 : World) (m : Nat) (fa : Array Value) (k n : Nat) (r : List Oper) : Prop :=
  Tells T V → slotsOk l a0.tmps.size = true → putv (l.take m) V a0.tmps = fa → AllF P T l.toArray (l.take m).toArray Q a0 w0 D k n r
theorem AllG.nil {k : Nat} {r : List Oper} : AllG P T V D l Q a0 w0 m fa k 0 r := fun _ _ _ => by cases r <;> trivial
theorem AllG.ok {k n : Nat} {o : Oper} {r : List Oper} (hk : inD D k = false) (h : AllV P T V l Q a0 w0 m fa k 1 (o :: r)) (t : AllG P T V D l Q a0 w0 m fa (k + 1) n r) : AllG P T V D l Q a0 w0 m fa k (n + 1) (o :: r) := fun a b c => by
  refine ⟨?_, t a b c⟩
  rw [hk]
  have := (h a b c).1
  simpa using this
theorem AllG.step {k n : Nat} {o : Oper} {r : List Oper} (hk : inD D k = true) (h : StepD P T l.toArray (l.take m).toArray Q a0 w0 k o) (t : AllG P T V D l Q a0 w0 m fa (k + 1) n r) : AllG P T V D l Q a0 w0 m fa k (n + 1) (o :: r) := fun hT hs hf => by
  refine ⟨?_, t hT hs hf⟩
  rw [if_pos hk]; exact h
theorem AllG.make {k n : Nat} {o : Oper} {r : List Oper} (hk : inD D k = true)
    (h : ∀ w, Below w0.heap.size w0 w → ∃ v w', (execOp (Act.eval ⟨fa, a0.defers⟩) o).run P w = .ok (.value v) w' ∧ Below w.heap.size w w' ∧ T.S k v w' ∧ Fresh w v w') (t : AllG P T V D l Q a0 w0 m fa (k + 1) n r) (hr : readsOk l V m o = true := by kernel_rfl) (hg : guardV l V o = some true := by kernel_rfl) : AllG P T V D l Q a0 w0 m fa k (n + 1) (o :: r) := fun hT hs hf => by
  refine ⟨?_, t hT hs hf⟩
  rw [if_pos hk]
  intro a w hz hb ho hgot
  obtain ⟨v, w', h1, h2, h3, h4⟩ := h w hb
  refine ⟨guard_eq hT hg hgot, ?_⟩
  unfold Oper.wp
  rw [eval_eq hT hs hf hr ho hgot, h1, Oper.upon_value]
  exact ⟨v, rfl, .of hb.size h2, fun _ => h2, h3, h4⟩
theorem AllG.call {k n : Nat} {o : Oper} {r : List Oper} {f : Nat} {args : Array Value} (hk : inD D k = true)
    (he : ∀ w, (execOp (Act.eval ⟨fa, a0.defers⟩) o).run P w = .ok (.enter f args) w)
    (h : ∀ w, Below w0.heap.size w0 w → Calls P f args w fun e w' => ∃ v, e = .returned v ∧ Below w.heap.size w w' ∧ T.S k v w' ∧ Fresh w v w') (t : AllG P T V D l Q a0 w0 m fa (k + 1) n r) (hr : readsOk l V m o = true := by kernel_rfl) (hg : guardV l V o = some true := by kernel_rfl) : AllG P T V D l Q a0 w0 m fa k (n + 1) (o :: r) := fun hT hs hf => by
  refine ⟨?_, t hT hs hf⟩
  rw [if_pos hk]
  intro a w hz hb ho hgot
  refine ⟨guard_eq hT hg hgot, ?_⟩
  unfold Oper.wp
  rw [eval_eq hT hs hf hr ho hgot, he w, Oper.upon_enter]
  refine (h w hb).mono ?_
  rintro e w' ⟨v, rfl, h2, h3, h4⟩
  exact ⟨v, rfl, .of hb.size h2, fun _ => h2, h3, h4⟩
end
theorem region_uB {V : List (Option Value)} {l : List Oper} {id : Nat} {ops : Array Oper} {t0 f : List Value} (D : List (Nat × Tmp)) (ds : List Tmp) (m : Nat) (hT : Tells T V) (hops : ops = l.toArray) (ht : a0.tmps = t0.toArray) (hD : okD D l m = true)
    (h : AllG P T V D l Q a0 w0 m f.toArray 0 m l)
    (hend : ∀ (us : Nat → Value) w, Below w0.heap.size w0 w → (∀ i, i < m → T.S i (us i) w) → (∀ x ∈ D, ∀ y ∈ D, x ≠ y → blk (us x.1) ≠ blk (us y.1)) → ∀ fu, setl 0 ds V us t0 = fu → wpList P ops Q (l.drop m) ⟨fu.toArray, a0.defers⟩ w)
    (hm : P.follows .mixedOrders = true := by kernel_rfl) (hs : slotsOk l a0.tmps.size = true := by kernel_rfl) (hes : edgesOk 0 l = true := by kernel_rfl) (hsu : succUpTo l m = true := by kernel_rfl) (hch : chainOk l m = true := by kernel_rfl) (hml : Nat.blt m l.length = true := by kernel_rfl) (hVl : Nat.beq V.length m = true := by kernel_rfl) (hds : (l.take m).map (·.dst) = ds.map some := by kernel_rfl)
    (hF : setl 0 ds V (fun _ => undef) t0 = f := by first | (rw [mrg_of (by kernel_rfl)]; simp only [mrg, List.map_cons, List.map_nil, Sq.told, Option.getD_some, Option.getD_none, Nat.reduceAdd, Nat.reduceEqDiff, ↓reduceIte]; exact rfl) | (simp only [setl, List.map_cons, List.map_nil, Sq.told, Option.getD_some, Option.getD_none, List.set_cons_zero, List.set_cons_succ]; exact rfl)) : (Code.region id ops true).wp P Q a0 w0 := by
  subst hops
  have hD' := okD_mem hD
  refine region_listB (T := T) D m l hD' hm hs hes hsu hch hml rfl (h hT hs (by rw [ht, putv_setl _ ds V 0 t0 hds, hF])) ?_
  intro a w hd hz hb ho hg hne
  obtain ⟨us, hus⟩ : ∃ us : Nat → Value, ∀ i, us i = match l[i]? with | some o => a.tmps.getD (o.dst.getD 0) undef | none => undef := ⟨_, fun _ => rfl⟩
  have hsm := some_of hds
  have := hend us w hb (got_usB hml hsm hg hus) (fun x hx y hy hn => by
    obtain ⟨-, ox, hox, hxd⟩ := hD' x hx
    obtain ⟨-, oy, hoy, hyd⟩ := hD' y hy
    rw [hus, hus, hox, hoy]
    simp only [hxd, hyd, Option.getD_some]
    exact hne x hx y hy hn) _ rfl
  rw [put_usB hT hs hml hVl hsm hd hz ho hg hus, ht, putu_setl us _ ds V 0 t0 hds]
  exact this
end
end Go.Proofs.YthcidkidpiaomaaGreatDoor.Rg
end
section
set_option linter.unusedVariables false
set_option linter.unusedSimpArgs false
namespace Go.Proofs.YthcidkidpiaomaaGreatDoor.Od
open Go.RowKit Rg
theorem fresh_own {w wr : World} {T : TypeId} {sz n : Nat} {v : Value} {us : List Value} (h : wr.ownsRow w.heap.size T sz v n us) (hn : 1 ≤ n) : Fresh w v wr := by
  rcases h.2 with ⟨-, h0⟩ | ⟨g, cap, cur, rfl, hb, hg, -⟩
  · omega
  · exact ⟨g, rfl, hb, heap_lt hg⟩
theorem Ivs.keepb {w w' : World} {g : Nat} {v : Value} {xs : List Iv} (h : Ivs w v xs) (hv : blk v ≠ some g) (hk : ∀ k, k ≠ g → w'.heap[k]? = w.heap[k]?) : Ivs w' v xs := by
  obtain ⟨ax, cx, rfl, hc⟩ := h.out
  refine ⟨⟨ax, cx, rfl, fun j a ha => ?_⟩, h.few⟩
  obtain ⟨bx, ox, rfl, h2, h3⟩ := hc j a ha
  have hne : bx ≠ g := fun e => hv (by rw [← e]; rfl)
  exact ⟨bx, ox, rfl, by rw [World.cell?_of_block (w := w) (hk _ hne)]; exact h2, by rw [World.cell?_of_block (w := w) (hk _ hne)]; exact h3⟩
theorem new_iv_d (w : World) : Fresh w (.pointer (some ⟨w.heap.size, 0, none⟩)) (w.alloc (.cells #[.int .i64 0, .int .i64 0] 29)) := ⟨w.heap.size, rfl, Nat.le_refl _, by rw [World.size_alloc]; omega⟩
theorem enters_mb : ∀ args w, (callFunc 20 args).run Tryz.prog w = .ok (.enter 20 args) w := fun args w => by kernel_rfl
theorem enters_hb : ∀ args w, (callFunc 42 args).run Tryz.prog w = .ok (.enter 42 args) w := fun args w => by kernel_rfl
theorem sub_hull {a b : Iv} : SubI a (hullI a b) := by unfold SubI hullI; simp only; omega
theorem ok_hull {a b : Iv} (h : okI a) (k : okI b) : okI (hullI a b) := by
  obtain ⟨a1, a2⟩ := a
  obtain ⟨b1, b2⟩ := b
  unfold okI okIv maxV hullI at *
  simp only [Bool.or_eq_true, Bool.and_eq_true, decide_eq_true_eq, beq_iff_eq] at *
  omega
theorem sub_zip {xs ys : List Iv} (hl : xs.length = ys.length) : SubB xs (List.zipWith hullI xs ys) := by
  refine ⟨by rw [List.length_zipWith]; omega, fun i a b ha hb => ?_⟩
  rw [List.getElem?_zipWith] at hb
  rw [ha] at hb
  cases hy : ys[i]? with
  | none => rw [hy] at hb; cases hb
  | some y => rw [hy] at hb; obtain rfl := Option.some.inj hb; exact sub_hull
theorem ok_zip {xs ys : List Iv} (h : ∀ a ∈ xs, okI a) (k : ∀ a ∈ ys, okI a) : ∀ a ∈ List.zipWith hullI xs ys, okI a := fun a ha => by
  obtain ⟨i, hi⟩ := List.mem_iff_getElem?.1 ha
  rw [List.getElem?_zipWith] at hi
  cases hx : xs[i]? with
  | none => rw [hx] at hi; cases hi
  | some x =>
    cases hy : ys[i]? with
    | none => rw [hx, hy] at hi; cases hi
    | some y => rw [hx, hy] at hi; obtain rfl := Option.some.inj hi; exact ok_hull (h _ (List.mem_of_getElem? hx)) (k _ (List.mem_of_getElem? hy))
set_option maxRecDepth 100000 in
set_option maxHeartbeats 16000000 in
theorem rMadeB_own (v : Value) (e : List Iv) (n : Nat) (hn : 1 ≤ n ∧ n ≤ 6) (w : World) (G : Nat) (hG : G ≤ w.heap.size) (h : RawI G w v e) : Calls Tryz.prog 20 #[v, .int .i64 (n : Nat)] w fun e w' => ∃ vo, e = .returned vo ∧ Below w.heap.size w w' ∧ (kBox n).P vo w' ∧ Fresh w vo w' := by
  have HRW := Aside.mk h
  have HN := Aside.mk hn
  obtain ⟨ao, c, rfl, -⟩ := h
  obtain ⟨L, hL⟩ : ∃ L, e.length = L := ⟨_, rfl⟩
  rw [hL] at HRW ⊢
  clear hn hL hG
  go_enter Tryz.func20, Tryz.ntmps20
  go_wp2_with fail
  have HB0 : Aside (Below w.heap.size w (w.alloc (.cells #[] 29))) := ⟨(Below.refl _ _).alloc (Nat.le_refl _) _⟩
  have HO0 := Aside.mk (row_zero w)
  generalize w.alloc (.cells #[] 29) = W at HB0 HO0 ⊢
  go_loopg [5, 6, 7] n (fun m v5 v6 v7 wr => ∃ (i : Nat) (zs : List Iv) (vz : Value), v5 = vz ∧ v6 = .int .i64 (i : Nat) ∧ Aside (i ≤ n ∧ n - i ≤ m) ∧ Aside (wr.ownsRow w.heap.size 29 2 vz i (ivc zs)) ∧ Aside (zs.length = i ∧ ∀ a ∈ zs, okI a) ∧ Aside (Below w.heap.size w wr))
  case atStart => exact ⟨0, [], _, rfl, rfl, ⟨by simp⟩, HO0, ⟨rfl, fun a ha => by cases ha⟩, HB0⟩
  case round =>
    clear HO0 HB0
    obtain ⟨i, zs, vz, rfl, rfl, HI, HO, HZ, HB⟩ := hrel
    obtain ⟨va, vl, vc, rfl⟩ := row_slice HO.out
    by_cases hi : i < n
    · have hi' : (i : Int) < (n : Int) := by omega
      have hi6 : (i : Int) < 9223372036854775807 := by have := HN.out; omega
      have hal : Below wr.heap.size wr (wr.alloc (.cells #[.int .i64 0, .int .i64 0] 29)) := (Below.refl _ _).alloc (Nat.le_refl _) _
      have HR := Aside.mk (heap_alloc_last wr (.cells #[.int .i64 0, .int .i64 0] 29))
      have HO1 := Aside.mk (owns_below HO.out hal)
      have HB1 := Aside.mk (HB.out.trans (hal.mono HB.out.size))
      obtain ⟨g7, hg7⟩ : ∃ g, wr.heap.size = g := ⟨_, rfl⟩
      have HIG : Aside ((Value.slice va vl vc).ownBlock ≠ some g7) := ⟨by rw [← hg7]; exact own_lt HO.out⟩
      have HG7 : Aside (w.heap.size ≤ g7) := ⟨by rw [← hg7]; exact HB.out.size⟩
      rw [hg7] at HR
      by_cases hL : i < L
      · have hL' : (i : Int) < (L : Int) := by omega
        obtain ⟨b, o, x, rfl, -, p0, p1⟩ := (HRW.out.below HB1.out).at hL
        obtain ⟨xl, xh⟩ := x
        simp only at p0 p1
        obtain ⟨⟨al, ah⟩, hok, hc⟩ := rMadeI_ex xl xh
        have HOK := Aside.mk hok
        have HC := Aside.mk hc
        clear hi hL hal hok hc
        go_wp2_with fail
        generalize wr.alloc (.cells #[.int .i64 0, .int .i64 0] 29) = W1 at HR HO1 HB1 p0 p1 ⊢
        refine (HC.out W1).mono ?_
        rintro e w2 ⟨rfl, hb2⟩
        replace HR := Aside.mk ((hb2.block _ (heap_lt HR.out)).trans HR.out)
        replace HO1 := Aside.mk (owns_below HO1.out hb2)
        replace HB1 := Aside.mk (HB1.out.trans (hb2.mono HB1.out.size))
        unfold ivV
        simp only
        clear hb2 p0 p1
        go_wp2_with (first | (guard_target =~ wpList _ _ _ _ _ w2; (refine wpList_store_iv rfl (.tmp 7) (.tmp 23) rfl g7 _ _ rfl rfl _ _ HR.out ?_; intro w3 hr3 hb3 hk3 hs3; have HB4 := Aside.mk ((HB1.out.trans (hb3.mono HG7.out)).trans (((Below.refl _ _).alloc (Nat.le_refl _) (.cells #[.int .i64 al, .int .i64 ah] 29)).mono (Nat.le_trans HB1.out.size (Nat.le_of_eq hs3.symm)))); have HO4 := Aside.mk (owns_below (own_ex HO1.out HIG.out hk3) ((Below.refl _ _).alloc (Nat.le_refl _) (.cells #[.int .i64 al, .int .i64 ah] 29))); have HRK := Aside.mk (heap_alloc_last w3 (.cells #[.int .i64 al, .int .i64 ah] 29)); have k0 : w3.cell? ⟨g7, 0, none⟩ = some (.int .i64 al) := (by rw [cell_of_row _ _ 0 _ _ _ hr3]; rfl); have k1 : w3.cell? ⟨g7, 1, none⟩ = some (.int .i64 ah) := (by rw [cell_of_row _ _ 1 _ _ _ hr3]; rfl); clear hr3 hb3 hk3 hs3)) | (at_builtin; refine wpList_append_iv _ rfl (.tmp 24) (.tmp 26) rfl w.heap.size _ zs i HZ.out.1 rfl HO4.out _ _ _ rfl HRK.out (by have := HN.out; have := HI.out; omega) HB4.out.size ?_; intro ao2 cap w5 ho5 hb5; have HO5 := Aside.mk ho5; have HB5 := Aside.mk (HB4.out.trans hb5); clear ho5 hb5))
        obtain ⟨go, hgo⟩ : ∃ go, gk = go + 1 := ⟨gk - 1, by have := HI.out; omega⟩
        go_roundg go
        case measure => omega
        case rel => exact ⟨i + 1, zs ++ [(al, ah)], _, rfl, rfl, ⟨by have := HI.out; omega⟩, HO5, ⟨by rw [List.length_append, HZ.out.1]; rfl, fun a ha => (List.mem_append.1 ha).elim (HZ.out.2 a) (fun h => by rw [List.mem_singleton.1 h]; exact HOK.out)⟩, HB5⟩
      · have hL' : ¬ (i : Int) < (L : Int) := by omega
        have hal2 : Below (wr.alloc (.cells #[.int .i64 0, .int .i64 0] 29)).heap.size (wr.alloc (.cells #[.int .i64 0, .int .i64 0] 29)) ((wr.alloc (.cells #[.int .i64 0, .int .i64 0] 29)).alloc (.cells #[.int .i64 0, .int .i64 0] 29)) := (Below.refl _ _).alloc (Nat.le_refl _) _
        have HO4 := Aside.mk (owns_below HO1.out hal2)
        have HB4 := Aside.mk (HB1.out.trans (hal2.mono HB1.out.size))
        have HRK := Aside.mk (heap_alloc_last (wr.alloc (.cells #[.int .i64 0, .int .i64 0] 29)) (.cells #[.int .i64 0, .int .i64 0] 29))
        rw [World.size_alloc] at HRK
        clear hi hL hal hal2 HR HIG HG7 hg7
        go_wp2_with (first | (at_builtin; refine wpList_append_iv _ rfl (.tmp 24) (.tmp 26) rfl w.heap.size _ zs i HZ.out.1 rfl HO4.out _ _ _ rfl HRK.out (by have := HN.out; have := HI.out; omega) HB4.out.size ?_; intro ao2 cap w5 ho5 hb5; have HO5 := Aside.mk ho5; have HB5 := Aside.mk (HB4.out.trans hb5); clear ho5 hb5))
        obtain ⟨go, hgo⟩ : ∃ go, gk = go + 1 := ⟨gk - 1, by have := HI.out; omega⟩
        go_roundg go
        case measure => omega
        case rel => exact ⟨i + 1, zs ++ [(0, 0)], _, rfl, rfl, ⟨by have := HI.out; omega⟩, HO5, ⟨by rw [List.length_append, HZ.out.1]; rfl, fun a ha => (List.mem_append.1 ha).elim (HZ.out.2 a) (fun h => by rw [List.mem_singleton.1 h]; show okIv _ _ = true; decide)⟩, HB5⟩
    · have hi' : ¬ ((i : Int) < (n : Int)) := by omega
      have him : i = n := by have := HI.out; omega
      subst him
      have HIV : Aside (Ivs wr (.slice va vl vc) zs) := ⟨ivs_own (by rw [HZ.out.1]; exact HO.out) (by rw [HZ.out.1]; have := HN.out; omega)⟩
      clear hi
      go_wp2_with fail
      go_ret
      exact ⟨_, rfl, HB.out, ⟨_, HIV.out, HZ.out.1, HZ.out.2⟩, fresh_own HO.out (by have := HN.out; omega)⟩
set_option maxRecDepth 100000 in
set_option maxHeartbeats 16000000 in
theorem rHull_own (v v' : Value) (xs ys : List Iv) (hl : xs.length = ys.length) (h1 : 1 ≤ xs.length) (w : World) (h : Ivs w v xs) (h' : Ivs w v' ys) : Calls Tryz.prog 42 #[v, v'] w fun e w' => ∃ vo, e = .returned vo ∧ Below w.heap.size w w' ∧ (kIvs (List.zipWith hullI xs ys)).P vo w' ∧ Fresh w vo w' := by
  obtain ⟨a1, c1, rfl, -⟩ := h.out
  obtain ⟨a2, c2, rfl, -⟩ := h'.out
  have H1 := Aside.mk h
  have H2 := Aside.mk h'
  have hfew := h.few
  have H11 := Aside.mk h1
  clear h1
  obtain ⟨N, hN⟩ : ∃ N, xs.length = N := ⟨_, rfl⟩
  have HN := Aside.mk (And.intro hN (hN ▸ hfew))
  have HLY : Aside (ys.length = N) := ⟨by omega⟩
  have hN9 : (N : Int) ≤ 9000 := by omega
  rw [hN, ← hl, hN]
  clear h h' hfew hN hl
  go_enter Tryz.func42, Tryz.ntmps42
  go_wp2_with fail
  have HB0 : Aside (Below w.heap.size w (w.alloc (.cells #[] 29))) := ⟨(Below.refl _ _).alloc (Nat.le_refl _) _⟩
  have HO0 : Aside ((w.alloc (.cells #[] 29)).ownsRow w.heap.size 29 2 (.slice (some ⟨w.heap.size, 0, none⟩) 0 0) 0 (ivc [])) := ⟨⟨rfl, Or.inr ⟨w.heap.size, 0, #[], rfl, Nat.le_refl _, heap_alloc_last _ _, Nat.le_refl _, by simp [maxLen], rfl, by simp [ivc]⟩⟩⟩
  generalize w.alloc (.cells #[] 29) = W at HB0 HO0 ⊢
  go_loopg [5, 6] N (fun m v5 v6 wr => ∃ (i : Nat) (vz : Value), v5 = vz ∧ v6 = .int .i64 (i : Nat) ∧ Aside (i ≤ N ∧ N - i ≤ m) ∧ Aside (wr.ownsRow w.heap.size 29 2 vz i (ivc ((List.zipWith hullI xs ys).take i))) ∧ Aside (Below w.heap.size w wr))
  case atStart => exact ⟨0, _, rfl, rfl, ⟨by simp⟩, HO0, HB0⟩
  case round =>
    clear HO0 HB0
    obtain ⟨i, vz, rfl, rfl, HI, HO, HB⟩ := hrel
    obtain ⟨va, vl, vc, rfl⟩ := row_slice HO.out
    by_cases hi : i < N
    · have hi' : (i : Int) < (N : Int) := by omega
      obtain ⟨x, hx⟩ : ∃ x, xs[i]? = some x := ⟨_, List.getElem?_eq_getElem (by rw [HN.out.1]; exact hi)⟩
      obtain ⟨y, hy⟩ : ∃ y, ys[i]? = some y := ⟨_, List.getElem?_eq_getElem (by rw [HLY.out]; exact hi)⟩
      have HTK := Aside.mk (zip_take_succ hullI hx hy)
      obtain ⟨b, o, c, hv, p0, p1⟩ := (H1.out.below HB.out).at hx
      injection hv with q1 q2 q3
      subst q1 q3
      obtain ⟨b', o', c', hv, r0, r1⟩ := (H2.out.below HB.out).at hy
      injection hv with q1 q2 q3
      subst q1 q3
      obtain ⟨xl, xh⟩ := x
      obtain ⟨yl, yh⟩ := y
      simp only at p0 p1 r0 r1
      have HLN : Aside (((List.zipWith hullI xs ys).take i).length = i) := ⟨by rw [List.length_take, List.length_zipWith, HN.out.1, HLY.out]; omega⟩
      have hi6 : (i : Int) < 9223372036854775807 := by omega
      clear hx hy hi
      go_wp2_with fail
      refine region_u (T := tab2 [Sq.val (.slice va vl vc), Sq.val (.slice (some ⟨b, o, none⟩) N c1), Sq.val (.int .i64 (i : Nat)), Sq.val (.pointer (some ⟨b, o + i * 2, none⟩)), Sq.val (.agg #[.int .i64 (xl), .int .i64 (xh)]), Sq.val (.slice (some ⟨b', o', none⟩) N c2), Sq.val (.int .i64 (i : Nat)), Sq.val (.pointer (some ⟨b', o' + i * 2, none⟩)), Sq.val (.agg #[.int .i64 (yl), .int .i64 (yh)]), Sq.val (.agg #[.int .i64 (min xl yl), .int .i64 (max xh yh)]), Sq.row wr.heap.size #[.int .i64 (min xl yl), .int .i64 (max xh yh)] 29 1 1]) [14, 15, 16, 17, 18, 19, 20, 21, 22, 23, 24] 11 (tells_q _) rfl rfl ?_ ?_
      · iterate 9 (refine AllV.val rfl (fun w hb => by simp [execOp, Act.eval, hi', kp hb p0, kp hb p1, kp hb r0, kp hb r1, go_sem]) ?_)
        refine AllV.call (fun w => run_call (args := #[.agg #[.int .i64 (xl), .int .i64 (xh)], .agg #[.int .i64 (yl), .int .i64 (yh)]]) enters_hull (by simp [Act.eval])) (fun w hb => (rHullI_any (xl, xh) (yl, yh) w).mono (by rintro e w' ⟨rfl, hb2⟩; exact ⟨_, rfl, hb2, rfl⟩)) ?_
        refine AllV.make (fun w hb => ⟨_, _, by simp [execOp, Act.eval, go_sem], ((Below.refl _ _).alloc (Nat.le_refl _) _), ⟨_, hb.size, rfl, heap_alloc_last _ _⟩⟩) ?_
        exact AllV.nil
      intro us W2 hb hus fu hfu
      obtain ⟨g24, G24, e24, R24⟩ := hus 10 (by decide)
      rw [mrg_of (by kernel_rfl)] at hfu
      simp only [mrg, List.map_cons, List.map_nil, Sq.told, Option.getD_some, Option.getD_none, Nat.reduceAdd, Nat.reduceEqDiff, ↓reduceIte, e24] at hfu
      subst hfu
      clear hus e24
      simp only [List.drop_succ_cons, List.drop_zero]
      have HH2 := Aside.mk hb
      clear hb
      have HO2 := Aside.mk (owns_below HO.out HH2.out)
      have HB2 := Aside.mk (HB.out.trans (HH2.out.mono HB.out.size))
      have HR2 := Aside.mk R24
      clear p0 p1 r0 r1 R24 G24
      refine wpList_append_iv _ rfl (.tmp 14) (.tmp 24) rfl w.heap.size _ _ i HLN.out rfl HO2.out _ _ g24 rfl HR2.out (by have := HN.out.2; omega) HB2.out.size ?_
      intro ao2 cap w2 ho2 hb2
      have HO3 := Aside.mk ho2
      have HB3 := Aside.mk (HB2.out.trans hb2)
      clear ho2 hb2
      go_wp2_with fail
      obtain ⟨go, hgo⟩ : ∃ go, gk = go + 1 := ⟨gk - 1, by have := HI.out; omega⟩
      go_roundg go
      case measure => omega
      case rel => exact ⟨i + 1, _, rfl, rfl, ⟨by have := HI.out; omega⟩, ⟨by rw [HTK.out]; exact HO3.out⟩, HB3⟩
    · have hi' : ¬ ((i : Int) < (N : Int)) := by omega
      have him : i = N := by have := HI.out; omega
      subst him
      have hz : (List.zipWith hullI xs ys).length = i := by rw [List.length_zipWith, HN.out.1, HLY.out]; omega
      have HFR := Aside.mk (fresh_own HO.out (by have := HN.out.1; have := H11.out; omega))
      have ho := HO.out
      rw [List.take_of_length_le (by omega)] at ho
      have HIV : Aside (Ivs wr (.slice va vl vc) (List.zipWith hullI xs ys)) := ⟨ivs_own (by rw [hz]; exact ho) (by rw [hz]; exact HN.out.2)⟩
      clear hz ho hi
      go_wp2_with fail
      go_ret
      exact ⟨_, rfl, HB.out, HIV.out, HFR.out⟩
end Go.Proofs.YthcidkidpiaomaaGreatDoor.Od
end
section
set_option linter.unusedVariables false
namespace Go.Proofs.YthcidkidpiaomaaGreatDoor.Od
section
variable {nl : Bool} {L : List UInt8} {vars : List (List UInt8)} {p q q' r s s' : Nat} {R : List UInt8}
variable {S : Pr Tr} {k : Nat} {a b c : Tr}
theorem P1 (h : Reads L vars (Od.factor nl L S (k + 1)) p q a) (hq : skp isWs L q = q') (h1 : NotCh nl L q' 42) (h2 : NotCh nl L q' 47) : Reads L vars (Od.product nl L S (k + 1)) p q' a :=
  Reads.chain h (by rw [hq]; exact ReadsC.stop h1 h2)
theorem P2 (h : Reads L vars (Od.factor nl L S (k + 1 + 1)) p q a) (hq : skp isWs L q = q') (h1 : IsCh nl L q' 42) (hr : skp isWs L (q' + 1) = r) (h' : Reads L vars (Od.factor nl L S (k + 1 + 1)) r s b) (hs : skp isWs L s = s') (h2 : NotCh nl L s' 42) (h3 : NotCh nl L s' 47) :
    Reads L vars (Od.product nl L S (k + 1 + 1)) p s' (.bin 9 a b) :=
  Reads.chain h (by rw [hq]; exact ReadsC.first h1 (by rw [hr]; exact h') (by rw [hs]; exact ReadsC.stop h2 h3))
end
end Go.Proofs.YthcidkidpiaomaaGreatDoor.Od
end
section
set_option linter.unusedVariables false
set_option linter.unusedSimpArgs false
namespace Go.Proofs.YthcidkidpiaomaaGreatDoor.Od
open Go.RowKit Rg
theorem enters_mi : ∀ args w, (callFunc 21 args).run Tryz.prog w = .ok (.enter 21 args) w := fun args w => by kernel_rfl
end Go.Proofs.YthcidkidpiaomaaGreatDoor.Od
end
