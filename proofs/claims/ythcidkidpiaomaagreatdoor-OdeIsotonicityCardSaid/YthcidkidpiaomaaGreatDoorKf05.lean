/- RegV -/
import Derived.Orders
import Derived.Test.YthcidkidpiaomaaGreatDoorKf04
section
set_option linter.unusedVariables false
namespace Go.Proofs.YthcidkidpiaomaaGreatDoor.Rg
open Go.RowKit
theorem kp {w0 w : World} {p : Addr} {v : Value} (hb : Below w0.heap.size w0 w) (h : w0.cell? p = some v) : w.cell? p = some v := (hb.cell (World.block_lt_of_cell? w0 _ h)).trans h
def putv : List Oper → List (Option Value) → Array Value → Array Value
  | o :: r, s :: L, t => putv r L (match o.dst with | some d => t.setIfInBounds d (s.getD undef) | none => t)
  | _, _, t => t
theorem putv_old {d : Tmp} : ∀ (l : List Oper) (V : List (Option Value)) (t : Array Value), (l.all fun o => o.dst != some d) = true → (putv l V t).getD d undef = t.getD d undef
  | [], _, _, _ => rfl
  | o :: r, [], _, _ => rfl
  | o :: r, s :: V, t, h => by
    simp only [List.all_cons, Bool.and_eq_true, bne_iff_ne, ne_eq] at h
    rw [putv, putv_old r V _ h.2]
    cases hd : o.dst with
    | none => rfl
    | some e =>
      have hne : e ≠ d := fun x => h.1 (by rw [hd, x])
      simp [Array.getD_eq_getD_getElem?, hne]
theorem putv_size : ∀ (l : List Oper) (V : List (Option Value)) (t : Array Value), (putv l V t).size = t.size
  | [], _, _ => rfl
  | o :: r, [], _ => rfl
  | o :: r, s :: V, t => by
    rw [putv, putv_size r V]
    cases o.dst <;> simp
theorem putv_at {d : Tmp} {o : Oper} {v : Value} (hd : o.dst = some d) : ∀ (l : List Oper) (V : List (Option Value)) (t : Array Value) (j : Nat), (l.filterMap (·.dst)).Nodup → d < t.size → l[j]? = some o → V[j]? = some (some v) → (putv l V t).getD d undef = v
  | [], _, _, _, _, _, h, _ => by simp at h
  | x :: r, [], _, _, _, _, _, h => by simp at h
  | x :: r, s :: V, t, 0, hn, hs, h, hv => by
    simp only [List.getElem?_cons_zero, Option.some.injEq] at h hv
    subst h; subst hv
    rw [List.filterMap_cons, hd] at hn
    have hn1 := (List.nodup_cons.1 hn).1
    rw [putv, putv_old r V _ (by
      rw [List.all_eq_true]; intro y hy
      simp only [bne_iff_ne, ne_eq]
      exact fun e => hn1 (List.mem_filterMap.2 ⟨y, hy, e⟩)), hd]
    simp [Array.getD_eq_getD_getElem?, hs]
  | x :: r, s :: V, t, j + 1, hn, hs, h, hv => by
    simp only [List.getElem?_cons_succ] at h hv
    rw [putv]
    refine putv_at hd r V _ j ?_ ?_ h hv
    · cases hx : x.dst with
      | none => simpa [List.filterMap_cons, hx] using hn
      | some y => rw [List.filterMap_cons, hx] at hn; exact (List.nodup_cons.1 hn).2
    · cases x.dst <;> simpa using hs
def seen (l : List Oper) (V : List (Option Value)) (m : Nat) (o : Oper) (t : Tmp) : Bool :=
  ((l.take m).all fun x => x.dst != some t) || (o.after.toList.any fun e => Region.binds .any e && Nat.blt e.on m && (match l[e.on]? with | some x => x.dst == some t | none => false) && (match V[e.on]? with | some (some _) => true | _ => false))
def notSel : Op → Bool
  | .select _ _ => false
  | _ => true
def readsOk (l : List Oper) (V : List (Option Value)) (m : Nat) (o : Oper) : Bool := notSel o.op && (o.op.operands.toList.all fun x => match x with | .tmp t => seen l V m o t | _ => true)
def edgeTo (o : Oper) (j : Nat) : Bool := o.after.toList.any fun e => e.on == j && Region.binds .any e
def dstAt (l : List Oper) (j : Nat) : Bool := match l[j]? with | some x => x.dst.isSome | none => false
def guardV (l : List Oper) (V : List (Option Value)) (o : Oper) : Option Bool :=
  match o.guard with
  | none => some true
  | some (j, b) => match edgeTo o j, dstAt l j, V[j]? with
    | true, true, some (some (.bool c)) => some (c == b)
    | _, _, _ => none
def Sq.told : Sq → Option Value
  | .val v => some v
  | _ => none
section
variable {P : Program} {T : Tab} {V : List (Option Value)} {l : List Oper} {Q : Exit → Act → World → Prop} {a0 : Act} {w0 : World} {m : Nat} {fa : Array Value}
def Tells (T : Tab) (V : List (Option Value)) : Prop := ∀ i v u w, V[i]? = some (some v) → (T.S i u w ↔ u = v)
def AllV (P : Program) (T : Tab) (V : List (Option Value)) (l : List Oper) (Q : Exit → Act → World → Prop) (a0 : Act) (w0 : World) (m : Nat) (fa : Array Value) (k n : Nat) (r : List Oper) : Prop :=
  Tells T V → slotsOk l a0.tmps.size = true → putv (l.take m) V a0.tmps = fa → AllIn P T l.toArray (l.take m).toArray Q a0 w0 k n r
theorem AllV.nil {k : Nat} {r : List Oper} : AllV P T V l Q a0 w0 m fa k 0 r := fun _ _ _ => AllIn.nil
theorem AllV.cons {k n : Nat} {o : Oper} {r : List Oper} (h : StepOk P T l.toArray (l.take m).toArray Q a0 w0 k o) (t : AllV P T V l Q a0 w0 m fa (k + 1) n r) : AllV P T V l Q a0 w0 m fa k (n + 1) (o :: r) := fun a b c => AllIn.cons h (t a b c)
theorem take_nodup {n : Nat} (hs : slotsOk l n = true) : (((l.take m)).filterMap (·.dst)).Nodup := by
  simp only [slotsOk, Bool.and_eq_true] at hs
  exact (nodup_of hs.2).sublist ((List.take_sublist _ _).filterMap _)
theorem eval_eq {o : Oper} {a : Act} {w : World} (hT : Tells T V) (hs : slotsOk l a0.tmps.size = true) (hf : putv (l.take m) V a0.tmps = fa) (hr : readsOk l V m o = true) (ho : Old (l.take m).toArray a0 a)
    (hg : ∀ e ∈ o.after.toList, Region.binds .any e = true → Got T l.toArray e.on a w) : execOp a.eval o = execOp (Act.eval ⟨fa, a0.defers⟩) o := by
  simp only [readsOk, Bool.and_eq_true] at hr
  refine execOp_congr o (fun cs b e => ?_) (fun x hx => ?_)
  · have := hr.1; rw [e] at this; cases this
  · have h1 := List.all_eq_true.1 hr.2 x (by simpa using hx)
    cases x with
    | tmp t =>
      show a.tmps.getD t undef = fa.getD t undef
      simp only [seen, Bool.or_eq_true] at h1
      rcases h1 with h1 | h1
      · rw [ho t (by rw [← Array.all_toList]; exact h1), ← hf, putv_old _ _ _ h1]
      · obtain ⟨e, he, h2⟩ := List.any_eq_true.1 h1
        simp only [Bool.and_eq_true] at h2
        obtain ⟨⟨⟨hb, hm⟩, hx⟩, hv⟩ := h2
        have hm' : e.on < m := by simpa [Nat.blt_eq] using hm
        cases hl : l[e.on]? with
        | none => rw [hl] at hx; cases hx
        | some x =>
          rw [hl] at hx
          have hx : x.dst = some t := by simpa using hx
          cases hve : V[e.on]? with
          | none => rw [hve] at hv; cases hv
          | some v =>
            cases v with
            | none => rw [hve] at hv; cases hv
            | some v =>
              have h3 := hg e he hb x t (by simpa using hl) hx
              rw [(hT _ _ _ _ hve).1 h3, ← hf]
              refine (putv_at hx _ _ _ e.on (take_nodup hs) (slots_lt hs _ _ _ hl hx) ?_ hve).symm
              rw [List.getElem?_take, if_pos hm']; exact hl
    | const v => rfl
    | global g => rfl
    | func f => rfl
theorem guard_eq {o : Oper} {a : Act} {w : World} {b : Bool} (hT : Tells T V) (hg : guardV l V o = some b) (hgot : ∀ e ∈ o.after.toList, Region.binds .any e = true → Got T l.toArray e.on a w) : Region.wanted o (yielded l.toArray a.tmps) = b := by
  unfold guardV at hg
  cases h : o.guard with
  | none => rw [h] at hg; simp only [Option.some.injEq] at hg; rw [← hg]; exact wanted_none h
  | some jb =>
    obtain ⟨j, c⟩ := jb
    rw [h] at hg
    simp only at hg
    split at hg
    · rename_i c2 h1 h2 hv
      unfold dstAt at h2
      cases hl : l[j]? with
      | none => rw [hl] at h2; cases h2
      | some x =>
        rw [hl] at h2
        obtain ⟨d, hd⟩ := Option.isSome_iff_exists.1 h2
        have h3 := got_of hgot (j := j) (by simpa using hl) hd h1
        rw [wanted_of h (by simpa using hl) hd ((hT _ _ _ _ hv).1 h3)]
        simpa using hg
    · cases hg
theorem AllV.val {k n : Nat} {o : Oper} {r : List Oper} {v : Value} (hv : V[k]? = some (some v))
    (h : ∀ w, Below w0.heap.size w0 w → (execOp (Act.eval ⟨fa, a0.defers⟩) o).run P w = .ok (.value v) w) (t : AllV P T V l Q a0 w0 m fa (k + 1) n r) (hr : readsOk l V m o = true := by kernel_rfl) (hg : guardV l V o = some true := by kernel_rfl) : AllV P T V l Q a0 w0 m fa k (n + 1) (o :: r) := fun hT hs hf => by
  refine AllIn.cons ?_ (t hT hs hf)
  intro a w hz hb ho hgot
  refine Or.inl ⟨guard_eq hT hg hgot, wp_value hb.size ?_ (Below.refl _ _) ((hT _ _ _ _ hv).2 rfl)⟩
  rw [eval_eq hT hs hf hr ho hgot]
  exact h w hb
theorem AllV.off {k n : Nat} {o : Oper} {r : List Oper} (hv : V[k]? = some (some undef)) (t : AllV P T V l Q a0 w0 m fa (k + 1) n r) (hg : guardV l V o = some false := by kernel_rfl) : AllV P T V l Q a0 w0 m fa k (n + 1) (o :: r) := fun hT hs hf => by
  refine AllIn.cons ?_ (t hT hs hf)
  intro a w hz hb ho hgot
  exact Or.inr ⟨guard_eq hT hg hgot, (hT _ _ _ _ hv).2 rfl⟩
theorem AllV.make {k n : Nat} {o : Oper} {r : List Oper}
    (h : ∀ w, Below w0.heap.size w0 w → ∃ v w', (execOp (Act.eval ⟨fa, a0.defers⟩) o).run P w = .ok (.value v) w' ∧ Below w.heap.size w w' ∧ T.S k v w') (t : AllV P T V l Q a0 w0 m fa (k + 1) n r) (hr : readsOk l V m o = true := by kernel_rfl) (hg : guardV l V o = some true := by kernel_rfl) : AllV P T V l Q a0 w0 m fa k (n + 1) (o :: r) := fun hT hs hf => by
  refine AllIn.cons ?_ (t hT hs hf)
  intro a w hz hb ho hgot
  obtain ⟨v, w', h1, h2, h3⟩ := h w hb
  refine Or.inl ⟨guard_eq hT hg hgot, wp_value hb.size ?_ h2 h3⟩
  rw [eval_eq hT hs hf hr ho hgot]
  exact h1
theorem AllV.call {k n : Nat} {o : Oper} {r : List Oper} {f : Nat} {args : Array Value}
    (he : ∀ w, (execOp (Act.eval ⟨fa, a0.defers⟩) o).run P w = .ok (.enter f args) w)
    (h : ∀ w, Below w0.heap.size w0 w → Calls P f args w fun e w' => ∃ v, e = .returned v ∧ Below w.heap.size w w' ∧ T.S k v w') (t : AllV P T V l Q a0 w0 m fa (k + 1) n r) (hr : readsOk l V m o = true := by kernel_rfl) (hg : guardV l V o = some true := by kernel_rfl) : AllV P T V l Q a0 w0 m fa k (n + 1) (o :: r) := fun hT hs hf => by
  refine AllIn.cons ?_ (t hT hs hf)
  intro a w hz hb ho hgot
  refine Or.inl ⟨guard_eq hT hg hgot, wp_calls hb.size ?_ (h w hb)⟩
  rw [eval_eq hT hs hf hr ho hgot]
  exact he w
def putu : Nat → List Oper → List (Option Value) → (Nat → Value) → Array Value → Array Value
  | k, o :: r, s :: L, us, t => putu (k + 1) r L us (match o.dst with | some d => t.setIfInBounds d (s.getD (us k)) | none => t)
  | _, _, _, _, t => t
theorem putu_eq (us : Nat → Value) : ∀ (k : Nat) (r : List Oper) (L : List (Option Value)) (t : Array Value), r.length = L.length → (∀ i v, L[i]? = some (some v) → us (k + i) = v) →
    putu k r L us t = putv r ((List.range r.length).map fun i => some (us (k + i))) t
  | k, [], L, t, _, _ => rfl
  | k, o :: r, [], t, h, _ => by simp at h
  | k, o :: r, s :: L, t, h, hv => by
    have ih := putu_eq us (k + 1) r L (match o.dst with | some d => t.setIfInBounds d (s.getD (us k)) | none => t) (by simpa using h) (fun i v hi => by have := hv (i + 1) v (by simpa using hi); rwa [show k + 1 + i = k + (i + 1) by omega])
    rw [putu, ih, List.length_cons, List.range_succ_eq_map, List.map_cons, putv, List.map_map]
    congr 1
    · apply List.map_congr_left
      intro i _
      show some (us (k + 1 + i)) = some (us (k + (i + 1)))
      rw [show k + 1 + i = k + (i + 1) by omega]
    · cases o.dst with
      | none => rfl
      | some d =>
        cases s with
        | none => rfl
        | some v => simp only [Option.getD_some]; rw [show us (k + 0) = v from hv 0 v rfl]
theorem putv_all {a : Act} (us : Nat → Value) (hz : a.tmps.size = a0.tmps.size) (ho : Old (l.take m).toArray a0 a) (hs : slotsOk l a0.tmps.size = true) (hu : ∀ i o d, i < m → l[i]? = some o → o.dst = some d → a.tmps.getD d undef = us i) :
    a.tmps = putv (l.take m) ((List.range (l.take m).length).map fun i => some (us (0 + i))) a0.tmps := by
  have hsz := putv_size (l.take m) ((List.range (l.take m).length).map fun i => some (us (0 + i))) a0.tmps
  have key : ∀ d, a.tmps.getD d undef = (putv (l.take m) ((List.range (l.take m).length).map fun i => some (us (0 + i))) a0.tmps).getD d undef := by
    intro d
    by_cases hd : ((l.take m).all fun x => x.dst != some d) = true
    · rw [ho d (by rw [← Array.all_toList]; exact hd), putv_old _ _ _ hd]
    · have hd' : ¬ ∀ x ∈ l.take m, (x.dst != some d) = true := fun h => hd (List.all_eq_true.2 h)
      have : ∃ x ∈ l.take m, x.dst = some d := Classical.byContradiction fun hc => hd' fun x hx => by
        rw [bne_iff_ne]; exact fun e => hc ⟨x, hx, e⟩
      obtain ⟨x, hx, hxd⟩ := this
      obtain ⟨i, hi, hxi⟩ := List.mem_iff_getElem.1 hx
      have hxi' : (l.take m)[i]? = some x := by rw [List.getElem?_eq_getElem hi, hxi]
      have him : i < m := by rw [List.length_take] at hi; omega
      have hli : l[i]? = some x := by rw [List.getElem?_take, if_pos him] at hxi'; exact hxi'
      rw [hu i x d him hli hxd]
      refine (putv_at hxd _ _ _ i (take_nodup hs) (slots_lt hs _ _ _ hli hxd) hxi' ?_).symm
      rw [List.getElem?_map, List.getElem?_range hi]
      simp
  apply Array.ext
  · rw [hz, hsz]
  · intro i h1 h2
    have := key i
    rw [Array.getD_eq_getD_getElem?, Array.getD_eq_getD_getElem?, Array.getElem?_eq_getElem h1, Array.getElem?_eq_getElem h2] at this
    exact this
def setl : Nat → List Tmp → List (Option Value) → (Nat → Value) → List Value → List Value
  | j, d :: ds, s :: V, us, t => setl (j + 1) ds V us (t.set d (s.getD (us j)))
  | _, _, _, _, t => t
def mrg : Nat → Nat → List Tmp → List (Option Value) → (Nat → Value) → List Value → List Value
  | k, j, d :: ds, s :: V, us, x :: t => if d = k then s.getD (us j) :: mrg (k + 1) (j + 1) ds V us t else x :: mrg (k + 1) j (d :: ds) (s :: V) us t
  | _, _, _, _, _, t => t
def asc : Nat → List Tmp → Bool
  | _, [] => true
  | k, d :: ds => Nat.ble k d && asc (d + 1) ds
theorem asc_le : ∀ {ds : List Tmp} {k k' : Nat}, asc k ds = true → k' ≤ k → asc k' ds = true
  | [], _, _, _, _ => rfl
  | d :: ds, k, k', h, hk => by
    simp only [asc, Bool.and_eq_true, Nat.ble_eq] at h ⊢
    exact ⟨by omega, h.2⟩
theorem set_mrg (us : Nat → Value) : ∀ (t pre : List Value) (j : Nat) (ds : List Tmp) (V : List (Option Value)), asc pre.length ds = true → setl j ds V us (pre ++ t) = pre ++ mrg pre.length j ds V us t
  | t, pre, j, [], V, _ => by cases t <;> simp [setl, mrg]
  | t, pre, j, d :: ds, [], _ => by cases t <;> simp [setl, mrg]
  | [], pre, j, d :: ds, s :: V, h => by
    simp only [asc, Bool.and_eq_true, Nat.ble_eq] at h
    have ih := set_mrg us [] pre (j + 1) ds V (asc_le h.2 (by omega))
    rw [setl, List.append_nil, List.set_eq_of_length_le (by omega)]
    rw [List.append_nil] at ih
    rw [ih]
    cases ds <;> cases V <;> simp [mrg]
  | x :: t, pre, j, d :: ds, s :: V, h => by
    have h0 := h
    simp only [asc, Bool.and_eq_true, Nat.ble_eq] at h
    by_cases hd : d = pre.length
    · have ih := set_mrg us t (pre ++ [s.getD (us j)]) (j + 1) ds V (by rw [List.length_append]; exact hd ▸ h.2)
      rw [setl, mrg, if_pos hd]
      have e : (pre ++ x :: t).set d (s.getD (us j)) = pre ++ [s.getD (us j)] ++ t := by rw [hd, List.set_append, if_neg (Nat.lt_irrefl _), Nat.sub_self]; simp
      rw [e, ih]; simp
    · have h1 : asc (pre ++ [x]).length (d :: ds) = true := by
        simp only [asc, Bool.and_eq_true, Nat.ble_eq, List.length_append, List.length_singleton]
        exact ⟨Nat.lt_of_le_of_ne h.1 (fun e => hd e.symm), h.2⟩
      have ih := set_mrg us t (pre ++ [x]) j (d :: ds) (s :: V) h1
      rw [mrg, if_neg hd]
      have e : pre ++ x :: t = pre ++ [x] ++ t := by simp
      rw [e, ih]; simp
theorem mrg_of {us : Nat → Value} {ds : List Tmp} {V : List (Option Value)} {t r : List Value} (h : asc 0 ds = true) : (setl 0 ds V us t = r) = (mrg 0 0 ds V us t = r) := by
  have := set_mrg us t [] 0 ds V h
  rw [List.nil_append, List.nil_append] at this
  rw [this]; rfl
theorem putv_setl : ∀ (r : List Oper) (ds : List Tmp) (V : List (Option Value)) (j : Nat) (t : List Value), r.map (·.dst) = ds.map some → putv r V t.toArray = (setl j ds V (fun _ => undef) t).toArray
  | [], ds, V, j, t, h => by
    obtain rfl : ds = [] := by cases ds with
      | nil => rfl
      | cons _ _ => simp at h
    rfl
  | o :: r, [], V, j, t, h => by simp at h
  | o :: r, d :: ds, [], j, t, h => rfl
  | o :: r, d :: ds, s :: V, j, t, h => by
    simp only [List.map_cons, List.cons.injEq] at h
    rw [putv, setl, h.1]
    simp only [List.setIfInBounds_toArray]
    exact putv_setl r ds V (j + 1) _ h.2
theorem putu_setl (us : Nat → Value) : ∀ (r : List Oper) (ds : List Tmp) (V : List (Option Value)) (j : Nat) (t : List Value), r.map (·.dst) = ds.map some → putu j r V us t.toArray = (setl j ds V us t).toArray
  | [], ds, V, j, t, h => by
    obtain rfl : ds = [] := by cases ds with
      | nil => rfl
      | cons _ _ => simp at h
    rfl
  | o :: r, [], V, j, t, h => by simp at h
  | o :: r, d :: ds, [], j, t, h => rfl
  | o :: r, d :: ds, s :: V, j, t, h => by
    simp only [List.map_cons, List.cons.injEq] at h
    rw [putu, setl, h.1]
    simp only [List.setIfInBounds_toArray]
    exact putu_setl us r ds V (j + 1) _ h.2
theorem some_of {r : List Oper} {ds : List Tmp} (h : r.map (·.dst) = ds.map some) : (r.all fun o => o.dst.isSome) = true := by
  rw [List.all_eq_true]
  intro o ho
  have : o.dst ∈ ds.map some := by rw [← h]; exact List.mem_map.2 ⟨o, ho, rfl⟩
  obtain ⟨d, -, hd⟩ := List.mem_map.1 this
  rw [← hd]; rfl
theorem region_u {id : Nat} {ops : Array Oper} {t0 f : List Value} (ds : List Tmp) (m : Nat) (hT : Tells T V) (hops : ops = l.toArray) (ht : a0.tmps = t0.toArray)
    (h : AllV P T V l Q a0 w0 m f.toArray 0 m l)
    (hend : ∀ (us : Nat → Value) w, Below w0.heap.size w0 w → (∀ i, i < m → T.S i (us i) w) → ∀ fu, setl 0 ds V us t0 = fu → wpList P ops Q (l.drop m) ⟨fu.toArray, a0.defers⟩ w)
    (hm : P.follows .mixedOrders = true := by kernel_rfl) (hs : slotsOk l a0.tmps.size = true := by kernel_rfl) (hes : edgesOk 0 l = true := by kernel_rfl) (hsu : succUpTo l m = true := by kernel_rfl) (hch : chainOk l m = true := by kernel_rfl) (hml : Nat.blt m l.length = true := by kernel_rfl) (hVl : Nat.beq V.length m = true := by kernel_rfl) (hds : (l.take m).map (·.dst) = ds.map some := by kernel_rfl)
    (hF : setl 0 ds V (fun _ => undef) t0 = f := by first | (rw [mrg_of (by kernel_rfl)]; simp only [mrg, List.map_cons, List.map_nil, Sq.told, Option.getD_some, Option.getD_none, Nat.reduceAdd, Nat.reduceEqDiff, ↓reduceIte]; exact rfl) | (simp only [setl, List.map_cons, List.map_nil, Sq.told, Option.getD_some, Option.getD_none, List.set_cons_zero, List.set_cons_succ]; exact rfl)) : (Code.region id ops true).wp P Q a0 w0 := by
  subst hops
  refine region_list (T := T) m l hm hs hes hsu hch hml rfl (h hT hs (by rw [ht, putv_setl _ ds V 0 t0 hds, hF])) ?_
  intro a w hd hz hb ho hg
  have hml' : m < l.length := by simpa [Nat.blt_eq] using hml
  have hVl' : V.length = m := Nat.eq_of_beq_eq_true hVl
  obtain ⟨us, hus⟩ : ∃ us : Nat → Value, ∀ i, us i = match l[i]? with | some o => a.tmps.getD (o.dst.getD 0) undef | none => undef := ⟨_, fun _ => rfl⟩
  have hS : ∀ i, i < m → T.S i (us i) w := fun i hi => by
    have hli : l[i]? = some l[i] := List.getElem?_eq_getElem (by omega)
    have hsome := List.all_eq_true.1 (some_of hds) l[i] (List.mem_iff_getElem.2 ⟨i, by rw [List.length_take]; omega, by simp⟩)
    obtain ⟨d, hd⟩ := Option.isSome_iff_exists.1 hsome
    have := hg i hi l[i] d (by simp) hd
    rw [hus, hli]
    simp only [hd]
    exact this
  have hfr := putv_all us hz ho hs (fun i o d hi hl hd => by rw [hus, hl]; simp only [hd]; rfl)
  rw [← putu_eq us 0 (l.take m) V a0.tmps (by rw [List.length_take, hVl']; omega) (fun i v hi => by
    rw [Nat.zero_add]
    have him : i < m := by have := (List.getElem?_eq_some_iff.1 hi).1; omega
    exact (hT _ _ _ _ hi).1 (hS i him))] at hfr
  have := hend us w hb hS _ rfl
  rw [ht, putu_setl us _ ds V 0 t0 hds] at hfr
  obtain ⟨tm, df⟩ := a
  simp only at hd hfr
  subst hd
  rw [hfr]
  exact this
def tabv (L : List Value) : Tab := ⟨fun i v _ => v = (L[i]?).getD undef, true, fun _ _ _ _ h _ _ => h⟩
theorem tells_v (L : List Value) : Tells (tabv L) (L.map some) := by
  intro i v u w h
  rw [List.getElem?_map] at h
  cases hl : L[i]? with
  | none => rw [hl] at h; simp at h
  | some x =>
    rw [hl] at h
    simp only [Option.map_some, Option.some.injEq] at h
    subst h
    simp [tabv, hl]
theorem setl_told (us vs : Nat → Value) : ∀ (ds : List Tmp) (j : Nat) (L : List Value) (t : List Value), setl j ds (L.map some) us t = setl j ds (L.map some) vs t
  | [], _, _, _ => by simp [setl]
  | _ :: _, _, [], _ => rfl
  | d :: ds, j, x :: L, t => by rw [List.map_cons, setl, setl, setl_told us vs ds]; rfl
theorem region_v {id : Nat} {ops : Array Oper} {t0 f : List Value} (ds : List Tmp) (m : Nat) (L : List Value) (hops : ops = l.toArray) (ht : a0.tmps = t0.toArray)
    (h : AllV P (tabv L) (L.map some) l Q a0 w0 m f.toArray 0 m l)
    (hend : ∀ w, Below w0.heap.size w0 w → wpList P ops Q (l.drop m) ⟨f.toArray, a0.defers⟩ w)
    (hm : P.follows .mixedOrders = true := by kernel_rfl) (hs : slotsOk l a0.tmps.size = true := by kernel_rfl) (hes : edgesOk 0 l = true := by kernel_rfl) (hsu : succUpTo l m = true := by kernel_rfl) (hch : chainOk l m = true := by kernel_rfl) (hml : Nat.blt m l.length = true := by kernel_rfl) (hVl : Nat.beq L.length m = true := by kernel_rfl) (hds : (l.take m).map (·.dst) = ds.map some := by kernel_rfl)
    (hF : setl 0 ds (L.map some) (fun _ => undef) t0 = f := by first | (rw [mrg_of (by kernel_rfl)]; simp only [mrg, List.map_cons, List.map_nil, Option.getD_some, Option.getD_none, Nat.reduceAdd, Nat.reduceEqDiff, ↓reduceIte]; exact rfl) | (simp only [setl, List.map_cons, List.map_nil, Option.getD_some, Option.getD_none, List.set_cons_zero, List.set_cons_succ]; exact rfl)) : (Code.region id ops true).wp P Q a0 w0 := by
  refine region_u (T := tabv L) (V := L.map some) ds m (tells_v L) hops ht h (fun us w hb _ fu hfu => ?_) hm hs hes hsu hch hml (by simpa using hVl) hds hF
  rw [setl_told us (fun _ => undef), hF] at hfu
  rw [← hfu]
  exact hend w hb
end
theorem tells_of {α : Type} (ok : α → Value → World → Prop) (told : α → Option Value) (d : α) (h : ∀ s v, told s = some v → ∀ u w, (ok s u w ↔ u = v)) (L : List α) (T : Tab) (hT : ∀ i u w, T.S i u w = ok ((L[i]?).getD d) u w) : Tells T (L.map told) := by
  intro i v u w hv
  rw [List.getElem?_map] at hv
  cases hl : L[i]? with
  | none => rw [hl] at hv; simp at hv
  | some x =>
    rw [hl] at hv
    simp only [Option.map_some, Option.some.injEq] at hv
    rw [hT, hl]
    exact h x v hv u w
theorem tells_q (L : List Sq) : Tells (tab2 L) (L.map Sq.told) := tells_of Sq.ok Sq.told .any (fun s v h u w => by cases s <;> simp_all [Sq.told, Sq.ok]) L _ (fun _ _ _ => rfl)
end Go.Proofs.YthcidkidpiaomaaGreatDoor.Rg
end
