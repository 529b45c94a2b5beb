/- OhF0 OhA OhB OhD OhE -/
import Derived.Carry
import Derived.ChangeSlices
import Derived.ChangeArms
import Derived.ChangeOld
import Derived.OpenShut
import Derived.ShutString
import Derived.Lib.SmallJoins
import Derived.Test.YthcidkidpiaomaaGreatDoorKb33
import Derived.Test.YthcidkidpiaomaaGreatDoorKb09
import Derived.Test.YthcidkidpiaomaaGreatDoorKb23
import Derived.Test.YthcidkidpiaomaaGreatDoorKb27
import Derived.Test.YthcidkidpiaomaaGreatDoorKb29
section
set_option linter.unusedVariables false
set_option linter.unusedSimpArgs false
namespace Go.Proofs.YthcidkidpiaomaaGreatDoor.Od
open Go.RowKit Rg
structure Ex (w : World) (v : Value) (t : Tr) : Prop where
  rd : Rd w v (flat t)
  rdn : RdN w v (flat t)
theorem Ex.below {w w' : World} {v : Value} {t : Tr} (h : Ex w v t) (hb : Below w.heap.size w w') : Ex w' v t := ⟨h.rd.below hb, h.rdn.below hb⟩
theorem Ex.of {w : World} {B : Nat} {v : Value} {t : Tr} (h : OwnN B w v (flat t)) (hl : (flat t).length ≤ 9000) : Ex w v t := ⟨h.rd, h.rdN hl⟩
structure Pk5 (w0 : World) (vn : Value) (xs : List ByteArray) (L : List (Value × Tr)) (w : World) : Prop where
  fr : Below w0.heap.size w0 w
  lb : Lb w
  nm : Strs w vn xs
  ex : ∀ v t, (v, t) ∈ L → Ex w v t
theorem Pk5.below {w0 w w' : World} {vn : Value} {xs : List ByteArray} {L : List (Value × Tr)} (h : Pk5 w0 vn xs L w) (hb : Below w.heap.size w w') : Pk5 w0 vn xs L w' :=
  ⟨h.fr.trans (hb.mono h.fr.size), h.lb.below hb, h.nm.below hb, fun v t hm => (h.ex v t hm).below hb⟩
theorem Pk5.add {w0 w : World} {vn : Value} {xs : List ByteArray} {L : List (Value × Tr)} {v : Value} {t : Tr} (h : Pk5 w0 vn xs L w) (hx : Ex w v t) : Pk5 w0 vn xs ((v, t) :: L) w :=
  ⟨h.fr, h.lb, h.nm, fun v' t' hm => by
    rcases List.mem_cons.1 hm with e | hm
    · injection e with e1 e2; subst e1; subst e2; exact hx
    · exact h.ex v' t' hm⟩
theorem bts {a b : ByteArray} : (a ++ b).data.toList = a.data.toList ++ b.data.toList := by simp [ByteArray.data_append]
end Go.Proofs.YthcidkidpiaomaaGreatDoor.Od
end
section
set_option linter.unusedVariables false
namespace Go.Proofs.YthcidkidpiaomaaGreatDoor.Od
section
variable {nl : Bool} {L : List UInt8} {vars : List (List UInt8)} {p q q' r s s' : Nat} {R : List UInt8}
theorem sum_eq (n : Nat) : Od.sum nl L (n + 1) = (Od.product nl L (Od.sum nl L n) (L.length + 1)).bind fun e => Od.chain nl L (Od.product nl L (Od.sum nl L n) (L.length + 1)) [43] [45] 7 8 (L.length + 1) e := rfl
theorem opnd (hv : ∀ x ∈ vars, okName x = true) {t : Tr} (ht : okT vars t) (ha : At L p (fmtT vars t ++ R)) (hR : Stop R) :
    skp isWs L p = p ∧ At L (p + (fmtT vars t).length) R ∧ ∀ k, Reads L vars (Od.factor nl L (Od.sum nl L L.length) (k + 1)) p (p + (fmtT vars t).length) t := by
  obtain ⟨c, r, ec, hcw, hc45⟩ := fmt_first hv t ht
  have hd := dep_le hv t ht
  have hl := ha.len
  rw [List.length_append] at hl
  have a0 : At L p (c :: (r ++ R)) := by rw [ec] at ha; exact ha
  exact ⟨ws_at a0 hcw, ha.next, fun k => Reads.factor (NotCh.at a0 hc45) (atom_reads hv t ht L.length p R (by omega) ha hR)⟩
variable {S : Pr Tr} {k : Nat} {a b c : Tr}
theorem P1 (h : Reads L vars (Od.factor nl L S (k + 1)) p q a) (hq : skp isWs L q = q') (h1 : NotCh nl L q' 42) (h2 : NotCh nl L q' 47) : Reads L vars (Od.product nl L S (k + 1)) p q' a :=
  Reads.chain h (by rw [hq]; exact ReadsC.stop h1 h2)
theorem P2 (h : Reads L vars (Od.factor nl L S (k + 1 + 1)) p q a) (hq : skp isWs L q = q') (h1 : IsCh nl L q' 42) (hr : skp isWs L (q' + 1) = r) (h' : Reads L vars (Od.factor nl L S (k + 1 + 1)) r s b) (hs : skp isWs L s = s') (h2 : NotCh nl L s' 42) (h3 : NotCh nl L s' 47) :
    Reads L vars (Od.product nl L S (k + 1 + 1)) p s' (.bin 9 a b) :=
  Reads.chain h (by rw [hq]; exact ReadsC.first h1 (by rw [hr]; exact h') (by rw [hs]; exact ReadsC.stop h2 h3))
theorem P3 {u u' v : Nat} (h : Reads L vars (Od.factor nl L S (k + 1 + 1 + 1)) p q a) (hq : skp isWs L q = q') (h0 : NotCh nl L q' 42) (h1 : IsCh nl L q' 47) (hr : skp isWs L (q' + 1) = r) (h' : Reads L vars (Od.factor nl L S (k + 1 + 1 + 1)) r s b) (hs : skp isWs L s = s') (h2 : NotCh nl L s' 42) (h3 : IsCh nl L s' 47)
    (hu : skp isWs L (s' + 1) = u) (h'' : Reads L vars (Od.factor nl L S (k + 1 + 1 + 1)) u u' c) (hv : skp isWs L u' = v) (h4 : NotCh nl L v 42) (h5 : NotCh nl L v 47) :
    Reads L vars (Od.product nl L S (k + 1 + 1 + 1)) p v (.bin 10 (.bin 10 a b) c) :=
  Reads.chain h (by rw [hq]; exact ReadsC.second h0 h1 (by rw [hr]; exact h') (by rw [hs]; exact ReadsC.second h2 h3 (by rw [hu]; exact h'') (by rw [hv]; exact ReadsC.stop h4 h5)))
theorem wsp (h : At L p (32 :: R)) : skp isWs L p = skp isWs L (p + 1) := skp_more isWs h.get (by decide)
theorem wsp9 (h : At L p (9 :: R)) : skp isWs L p = skp isWs L (p + 1) := skp_more isWs h.get (by decide)
theorem wfin (h : At L p []) : skp isWs L p = p := skp_end isWs L p (by rw [h.fin]; exact Nat.le_refl _)
theorem prec1 (hv : ∀ x ∈ vars, okName x = true) (ha : okT vars a) (hb : okT vars b) (hc : okT vars c) (hL : L = fmtT vars a ++ 43 :: (fmtT vars b ++ 42 :: fmtT vars c)) :
    Reads L vars (Od.sum false L (L.length + 1)) 0 L.length (.bin 7 a (.bin 9 b c)) ∧ skp isWs L 0 = 0 := by
  have a0 : At L 0 (fmtT vars a ++ 43 :: (fmtT vars b ++ 42 :: (fmtT vars c ++ []))) := by rw [List.append_nil, ← hL]; exact At.zero
  obtain ⟨w0, a1, f0⟩ := opnd (nl := false) hv ha a0 (stop_ch (Or.inl (by decide)))
  have a2 := a1.next1
  obtain ⟨w2, a3, f2⟩ := opnd (nl := false) hv hb a2 (stop_ch (Or.inl (by decide)))
  have a4 := a3.next1
  obtain ⟨w4, a5, f4⟩ := opnd (nl := false) hv hc a4 stop_nil
  obtain ⟨l, hl⟩ : ∃ l, L.length + 1 = l + 1 + 1 := ⟨L.length - 1, by have := a2.len; have := a1.len; simp only [List.length_cons] at this; omega⟩
  have hP := P2 (k := l) (f2 _) (ws_at a3 (by decide)) (IsCh.of a3 (by decide)) w4 (f4 _) (wfin a5) (NotCh.fin a5) (NotCh.fin a5)
  have hA := P1 (k := l + 1) (f0 _) (ws_at a1 (by decide)) (NotCh.at a1 (by decide)) (NotCh.at a1 (by decide))
  refine ⟨?_, w0⟩
  rw [sum_eq, hl]
  refine (congrArg (fun z => Reads L vars _ 0 z _) a5.fin).mp ?_
  refine Reads.chain hA ?_
  rw [ws_at a1 (by decide)]
  exact ReadsC.first (IsCh.of a1 (by decide)) (by rw [w2]; exact hP) (by rw [wfin a5]; exact ReadsC.stop (NotCh.fin a5) (NotCh.fin a5))
theorem prec2 (hv : ∀ x ∈ vars, okName x = true) (ha : okT vars a) (hb : okT vars b) (hc : okT vars c) (hL : L = fmtT vars a ++ 32 :: 42 :: 32 :: (fmtT vars b ++ 45 :: fmtT vars c)) :
    Reads L vars (Od.sum false L (L.length + 1)) 0 L.length (.bin 8 (.bin 9 a b) c) ∧ skp isWs L 0 = 0 := by
  have a0 : At L 0 (fmtT vars a ++ 32 :: 42 :: 32 :: (fmtT vars b ++ 45 :: (fmtT vars c ++ []))) := by rw [List.append_nil, ← hL]; exact At.zero
  obtain ⟨w0, a1, f0⟩ := opnd (nl := false) hv ha a0 (stop_ch (Or.inr (Or.inl rfl)))
  have b1 := a1.next1
  have b2 := b1.next1
  have a2 := b2.next1
  obtain ⟨w2, a3, f2⟩ := opnd (nl := false) hv hb a2 (stop_ch (Or.inl (by decide)))
  have a4 := a3.next1
  obtain ⟨w4, a5, f4⟩ := opnd (nl := false) hv hc a4 stop_nil
  obtain ⟨l, hl⟩ : ∃ l, L.length + 1 = l + 1 + 1 := ⟨L.length - 1, by have := a1.len; simp only [List.length_cons] at this; omega⟩
  have hP := P2 (k := l) (f0 _) ((wsp a1).trans (ws_at b1 (by decide))) (IsCh.of b1 (by decide)) ((wsp b2).trans w2) (f2 _) (ws_at a3 (by decide)) (NotCh.at a3 (by decide)) (NotCh.at a3 (by decide))
  have hC := P1 (k := l + 1) (f4 _) (wfin a5) (NotCh.fin a5) (NotCh.fin a5)
  refine ⟨?_, w0⟩
  rw [sum_eq, hl]
  refine (congrArg (fun z => Reads L vars _ 0 z _) a5.fin).mp ?_
  refine Reads.chain hP ?_
  rw [ws_at a3 (by decide)]
  exact ReadsC.second (NotCh.at a3 (by decide)) (IsCh.of a3 (by decide)) (by rw [w4]; exact hC) (by rw [wfin a5]; exact ReadsC.stop (NotCh.fin a5) (NotCh.fin a5))
theorem prec3 (hv : ∀ x ∈ vars, okName x = true) (ha : okT vars a) (hb : okT vars b) (hc : okT vars c) (hL : L = 45 :: (fmtT vars a ++ 47 :: (fmtT vars b ++ 47 :: 32 :: fmtT vars c))) :
    Reads L vars (Od.sum false L (L.length + 1)) 0 L.length (.bin 10 (.bin 10 (.un 4 a) b) c) ∧ skp isWs L 0 = 0 := by
  have z0 : At L 0 (45 :: (fmtT vars a ++ 47 :: (fmtT vars b ++ 47 :: 32 :: (fmtT vars c ++ [])))) := by rw [List.append_nil, ← hL]; exact At.zero
  have a0 := z0.next1
  obtain ⟨w0, a1, f0⟩ := opnd (nl := false) hv ha a0 (stop_ch (Or.inl (by decide)))
  have a2 := a1.next1
  obtain ⟨w2, a3, f2⟩ := opnd (nl := false) hv hb a2 (stop_ch (Or.inl (by decide)))
  have b3 := a3.next1
  have a4 := b3.next1
  obtain ⟨w4, a5, f4⟩ := opnd (nl := false) hv hc a4 stop_nil
  obtain ⟨l, hl⟩ : ∃ l, L.length + 1 = l + 1 + 1 + 1 := ⟨L.length - 2, by have := a3.len; simp only [List.length_cons] at this; omega⟩
  have hN : ∀ k, Reads L vars (Od.factor false L (Od.sum false L L.length) (k + 1 + 1)) 0 _ (.un 4 a) := fun k => Reads.neg (IsCh.of z0 (by decide)) (by rw [w0]; exact f0 _)
  have hP := P3 (k := l) (hN _) (ws_at a1 (by decide)) (NotCh.at a1 (by decide)) (IsCh.of a1 (by decide)) w2 (f2 _) (ws_at a3 (by decide)) (NotCh.at a3 (by decide)) (IsCh.of a3 (by decide)) ((wsp b3).trans w4) (f4 _) (wfin a5) (NotCh.fin a5) (NotCh.fin a5)
  refine ⟨?_, ws_at z0 (by decide)⟩
  rw [sum_eq, hl]
  refine (congrArg (fun z => Reads L vars _ 0 z _) a5.fin).mp ?_
  refine Reads.chain hP ?_
  rw [wfin a5]
  exact ReadsC.stop (NotCh.fin a5) (NotCh.fin a5)
theorem prec4 (hv : ∀ x ∈ vars, okName x = true) (ha : okT vars a) (hb : okT vars b) (hc : okT vars c) (hL : L = fmtT vars a ++ 45 :: 9 :: (fmtT vars b ++ 32 :: 45 :: 32 :: fmtT vars c)) :
    Reads L vars (Od.sum false L (L.length + 1)) 0 L.length (.bin 8 (.bin 8 a b) c) ∧ skp isWs L 0 = 0 := by
  have a0 : At L 0 (fmtT vars a ++ 45 :: 9 :: (fmtT vars b ++ 32 :: 45 :: 32 :: (fmtT vars c ++ []))) := by rw [List.append_nil, ← hL]; exact At.zero
  obtain ⟨w0, a1, f0⟩ := opnd (nl := false) hv ha a0 (stop_ch (Or.inl (by decide)))
  have b1 := a1.next1
  have a2 := b1.next1
  obtain ⟨w2, a3, f2⟩ := opnd (nl := false) hv hb a2 (stop_ch (Or.inr (Or.inl rfl)))
  have b3 := a3.next1
  have b4 := b3.next1
  have a4 := b4.next1
  obtain ⟨w4, a5, f4⟩ := opnd (nl := false) hv hc a4 stop_nil
  obtain ⟨l, hl⟩ : ∃ l, L.length + 1 = l + 1 + 1 + 1 := ⟨L.length - 2, by have := a3.len; have := a1.len; simp only [List.length_cons] at *; omega⟩
  have hA := P1 (k := l + 1 + 1) (f0 _) (ws_at a1 (by decide)) (NotCh.at a1 (by decide)) (NotCh.at a1 (by decide))
  have hB := P1 (k := l + 1 + 1) (f2 _) ((wsp a3).trans (ws_at b3 (by decide))) (NotCh.at b3 (by decide)) (NotCh.at b3 (by decide))
  have hC := P1 (k := l + 1 + 1) (f4 _) (wfin a5) (NotCh.fin a5) (NotCh.fin a5)
  refine ⟨?_, w0⟩
  rw [sum_eq, hl]
  refine (congrArg (fun z => Reads L vars _ 0 z _) a5.fin).mp ?_
  refine Reads.chain hA ?_
  rw [ws_at a1 (by decide)]
  exact ReadsC.second (NotCh.at a1 (by decide)) (IsCh.of a1 (by decide)) (by rw [(wsp9 b1).trans w2]; exact hB)
    (by rw [ws_at b3 (by decide)]; exact ReadsC.second (NotCh.at b3 (by decide)) (IsCh.of b3 (by decide)) (by rw [(wsp b4).trans w4]; exact hC) (by rw [wfin a5]; exact ReadsC.stop (NotCh.fin a5) (NotCh.fin a5)))
theorem prec5 (hv : ∀ x ∈ vars, okName x = true) (ha : okT vars a) (hb : okT vars b) (hL : L = 45 :: 32 :: 45 :: (fmtT vars a ++ 42 :: 45 :: fmtT vars b)) :
    Reads L vars (Od.sum false L (L.length + 1)) 0 L.length (.bin 9 (.un 4 (.un 4 a)) (.un 4 b)) ∧ skp isWs L 0 = 0 := by
  have z0 : At L 0 (45 :: 32 :: 45 :: (fmtT vars a ++ 42 :: 45 :: (fmtT vars b ++ []))) := by rw [List.append_nil, ← hL]; exact At.zero
  have z1 := z0.next1
  have z2 := z1.next1
  have a0 := z2.next1
  obtain ⟨w0, a1, f0⟩ := opnd (nl := false) hv ha a0 (stop_ch (Or.inl (by decide)))
  have b1 := a1.next1
  have a2 := b1.next1
  obtain ⟨w2, a3, f2⟩ := opnd (nl := false) hv hb a2 stop_nil
  obtain ⟨l, hl⟩ : ∃ l, L.length + 1 = l + 1 + 1 + 1 := ⟨L.length - 2, by have := z0.len; simp only [List.length_cons] at this; omega⟩
  have hN : ∀ k, Reads L vars (Od.factor false L (Od.sum false L L.length) (k + 1 + 1)) (0 + 1 + 1) _ (.un 4 a) := fun k => Reads.neg (IsCh.of z2 (by decide)) (by rw [w0]; exact f0 _)
  have hNN : ∀ k, Reads L vars (Od.factor false L (Od.sum false L L.length) (k + 1 + 1 + 1)) 0 _ (.un 4 (.un 4 a)) := fun k => Reads.neg (IsCh.of z0 (by decide)) (by rw [(wsp z1).trans (ws_at z2 (by decide))]; exact hN _)
  have hB : ∀ k, Reads L vars (Od.factor false L (Od.sum false L L.length) (k + 1 + 1)) _ _ (.un 4 b) := fun k => Reads.neg (IsCh.of b1 (by decide)) (by rw [w2]; exact f2 _)
  have hP := P2 (k := l + 1) (hNN _) (ws_at a1 (by decide)) (IsCh.of a1 (by decide)) (ws_at b1 (by decide)) (hB _) (wfin a3) (NotCh.fin a3) (NotCh.fin a3)
  refine ⟨?_, ws_at z0 (by decide)⟩
  rw [sum_eq, hl]
  refine (congrArg (fun z => Reads L vars _ 0 z _) a3.fin).mp ?_
  refine Reads.chain hP ?_
  rw [wfin a3]
  exact ReadsC.stop (NotCh.fin a3) (NotCh.fin a3)
end
end Go.Proofs.YthcidkidpiaomaaGreatDoor.Od
end
section
set_option linter.unusedVariables false
namespace Go.Proofs.YthcidkidpiaomaaGreatDoor.Od
open Go.RowKit Go.ChangeShapes Go.WideShapes Go.ChangeAt
def RawN (G : Nat) (w : World) (v : Value) (e : List Nd) : Prop :=
  ∃ ao c, v = .slice ao e.length c ∧ e.length ≤ c ∧ c ≤ maxLen ∧ (∀ i x, e[i]? = some x → ∃ b o, ao = some ⟨b, o, none⟩ ∧ b < G ∧ ∀ k u, (nd4 x)[k]? = some u → w.cell? ⟨b, o + (i * 4 + k), none⟩ = some u) ∧ (ao = none → c = 0)
def RawI (G : Nat) (w : World) (v : Value) (e : List Iv) : Prop :=
  ∃ ao c, v = .slice ao e.length c ∧ e.length ≤ c ∧ c ≤ maxLen ∧ (∀ i x, e[i]? = some x → ∃ b o, ao = some ⟨b, o, none⟩ ∧ b < G ∧ w.cell? ⟨b, o + i * 2, none⟩ = some (.int .i64 x.1) ∧ w.cell? ⟨b, o + (i * 2 + 1), none⟩ = some (.int .i64 x.2)) ∧ (ao = none → c = 0)
def RawF (G : Nat) (w : World) (v : Value) (fs : List (List Nd)) : Prop :=
  ∃ ao c, v = .slice ao fs.length c ∧ fs.length ≤ c ∧ c ≤ maxLen ∧ (∀ i e, fs[i]? = some e → ∃ b o u, ao = some ⟨b, o, none⟩ ∧ b < G ∧ w.cell? ⟨b, o + i, none⟩ = some u ∧ RawN G w u e) ∧ (ao = none → c = 0)
theorem RawN.below {G : Nat} {w w' : World} {v : Value} {e : List Nd} (h : RawN G w v e) (hb : Below w.heap.size w w') : RawN G w' v e := by
  obtain ⟨ao, c, hv, h1, h2, h3, h4⟩ := h
  refine ⟨ao, c, hv, h1, h2, fun i x hx => ?_, h4⟩
  obtain ⟨b, o, h5, h6, h7⟩ := h3 i x hx
  exact ⟨b, o, h5, h6, fun k u hu => by have := h7 k u hu; rw [hb.cell (World.block_lt_of_cell? w _ this)]; exact this⟩
theorem RawI.below {G : Nat} {w w' : World} {v : Value} {e : List Iv} (h : RawI G w v e) (hb : Below w.heap.size w w') : RawI G w' v e := by
  obtain ⟨ao, c, hv, h1, h2, h3, h4⟩ := h
  refine ⟨ao, c, hv, h1, h2, fun i x hx => ?_, h4⟩
  obtain ⟨b, o, h5, h6, h7, h8⟩ := h3 i x hx
  exact ⟨b, o, h5, h6, by rw [hb.cell (World.block_lt_of_cell? w _ h7)]; exact h7, by rw [hb.cell (World.block_lt_of_cell? w _ h8)]; exact h8⟩
theorem RawF.below {G : Nat} {w w' : World} {v : Value} {fs : List (List Nd)} (h : RawF G w v fs) (hb : Below w.heap.size w w') : RawF G w' v fs := by
  obtain ⟨ao, c, hv, h1, h2, h3, h4⟩ := h
  refine ⟨ao, c, hv, h1, h2, fun i x hx => ?_, h4⟩
  obtain ⟨b, o, u, h5, h6, h7, h8⟩ := h3 i x hx
  exact ⟨b, o, u, h5, h6, by rw [hb.cell (World.block_lt_of_cell? w _ h7)]; exact h7, h8.below hb⟩
theorem nds_inv : ∀ (e : List Nd) (j : Nat) (u : Value), (nds e)[j]? = some u → ∃ x, e[j / 4]? = some x ∧ (nd4 x)[j % 4]? = some u
  | [], j, u, h => by simp [nds] at h
  | x :: r, j, u, h => by
    have e0 : nds (x :: r) = nd4 x ++ nds r := rfl
    rw [e0] at h
    by_cases hj : j < 4
    · rw [List.getElem?_append_left (by simpa [nd4] using hj)] at h
      rw [Nat.div_eq_of_lt hj, Nat.mod_eq_of_lt hj]
      exact ⟨x, rfl, h⟩
    · rw [List.getElem?_append_right (by simp [nd4]; omega), show (nd4 x).length = 4 from rfl] at h
      obtain ⟨y, h1, h2⟩ := nds_inv r (j - 4) u h
      refine ⟨y, ?_, by rw [← h2]; congr 1; omega⟩
      rw [show j / 4 = (j - 4) / 4 + 1 by omega, List.getElem?_cons_succ]
      exact h1
theorem RawN.rdN {G : Nat} {w : World} {v : Value} {e : List Nd} (h : RawN G w v e) (hf : e.length ≤ 9000) : RdN w v e := by
  obtain ⟨ao, c, hv, h1, h2, h3, h4⟩ := h
  refine ⟨?_, hf⟩
  cases e with
  | nil => exact Or.inl ⟨rfl, ao, c, hv⟩
  | cons x r =>
    obtain ⟨b, o, rfl, h6, h7⟩ := h3 0 x rfl
    refine Or.inr ⟨b, o, c, hv, h1, fun j u hu => ?_⟩
    obtain ⟨y, hy, hyu⟩ := nds_inv _ j u hu
    obtain ⟨b', o', h5, h6', h7'⟩ := h3 _ y hy
    injection h5 with h5
    injection h5 with h5 h5'
    subst h5; subst h5'
    have := h7' _ u hyu
    rw [show j / 4 * 4 + j % 4 = j by omega] at this
    exact this
theorem exists_list {α : Type} {P : Nat → α → Prop} : ∀ n, (∀ i, i < n → ∃ x, P i x) → ∃ l : List α, l.length = n ∧ ∀ i x, l[i]? = some x → P i x
  | 0, _ => ⟨[], rfl, fun i x h => by simp at h⟩
  | n + 1, h => by
    obtain ⟨l, hl, hp⟩ := exists_list n fun i hi => h i (by omega)
    obtain ⟨x, hx⟩ := h n (by omega)
    refine ⟨l ++ [x], by simp [hl], fun i y hy => ?_⟩
    by_cases hi : i < n
    · rw [List.getElem?_append_left (by omega)] at hy
      exact hp i y hy
    · have hi2 := (List.getElem?_eq_some_iff.1 hy).1
      simp only [List.length_append, List.length_cons, List.length_nil] at hi2
      obtain rfl : i = n := by omega
      rw [List.getElem?_append_right (by omega), hl, Nat.sub_self] at hy
      obtain rfl := Option.some.inj hy
      exact hx
section
variable {H : Type} {enc : TypeId × Value → H}
set_option maxRecDepth 100000 in
theorem kept {t : TypeId} (hr : Tryz.prog.readableRec t = true) (ht : t < Tryz.prog.types.size) {W W' : World} {v : Value} {d : DataW H} {p : List MemPlace} (h : DataW.Trod enc Tryz.prog W 0 (fun _ => true) true t v d p) (hb : Below W.heap.size W W') :
    DataW.Trod enc Tryz.prog W' 0 (fun b => decide (b < W.heap.size)) true t v d p :=
  Below.trod (by kernel_rfl) hr ht h hb (by obtain ⟨n, hn⟩ := h; exact DataW.trod_lt n _ _ _ hn)
theorem z_int : Tryz.prog.cellsOf 3 = 1 := by kernel_rfl
theorem z_i64 : Tryz.prog.cellsOf 2 = 1 := by kernel_rfl
theorem z_iv : Tryz.prog.cellsOf 29 = 2 := by kernel_rfl
theorem z_nd : Tryz.prog.cellsOf 79 = 4 := by kernel_rfl
variable {W : World} {n : Nat}
set_option maxRecDepth 100000 in
theorem iv_of {cs : List Value} {x : DataW H × List MemPlace} (h : DataW.trod enc Tryz.prog W 0 (fun _ => true) true n 29 cs = some x) : ∃ a b : Int, cs = [.int .i64 a, .int .i64 b] ∧ (Lit.int .i64 a).wf = true ∧ (Lit.int .i64 b).wf = true := by
  obtain ⟨xs, m, _, _, hl, hn, hx⟩ := DataW.trod_struct Tryz.underlying29 h
  rw [z_iv] at hl
  match cs, hl with
  | [c0, c1], _ =>
    have hn2 : xs.length = 2 := hn
    match xs, hn2 with
    | [y0, y1], _ =>
      have g0 : DataW.trod enc Tryz.prog W 0 (fun _ => true) true m 2 (([c0, c1].drop 0).take (Tryz.prog.cellsOf 2)) = some y0 := hx 0 _ rfl
      have g1 : DataW.trod enc Tryz.prog W 0 (fun _ => true) true m 2 (([c0, c1].drop 1).take (Tryz.prog.cellsOf 2)) = some y1 := hx 1 _ rfl
      rw [z_i64] at g0 g1
      obtain ⟨a, q0, _, w0⟩ := DataW.trod_int (cs := [c0]) Tryz.underlying2 g0
      obtain ⟨b, q1, _, w1⟩ := DataW.trod_int (cs := [c1]) Tryz.underlying2 g1
      cases q0; cases q1
      exact ⟨a, b, rfl, w0, w1⟩
set_option maxRecDepth 100000 in
theorem nd_of {cs : List Value} {x : DataW H × List MemPlace} (h : DataW.trod enc Tryz.prog W 0 (fun _ => true) true n 79 cs = some x) : ∃ y : Nd, cs = nd4 y ∧ (Lit.int .i64 y.op).wf = true ∧ (Lit.int .i64 y.n).wf = true ∧ (Lit.int .i64 y.lo).wf = true ∧ (Lit.int .i64 y.hi).wf = true := by
  obtain ⟨xs, m, _, _, hl, hn, hx⟩ := DataW.trod_struct Tryz.underlying79 h
  rw [z_nd] at hl
  match cs, hl with
  | [c0, c1, c2, c3], _ =>
    have hn2 : xs.length = 3 := hn
    match xs, hn2 with
    | [y0, y1, y2], _ =>
      have g0 : DataW.trod enc Tryz.prog W 0 (fun _ => true) true m 3 (([c0, c1, c2, c3].drop 0).take (Tryz.prog.cellsOf 3)) = some y0 := hx 0 _ rfl
      have g1 : DataW.trod enc Tryz.prog W 0 (fun _ => true) true m 3 (([c0, c1, c2, c3].drop 1).take (Tryz.prog.cellsOf 3)) = some y1 := hx 1 _ rfl
      have g2 : DataW.trod enc Tryz.prog W 0 (fun _ => true) true m 29 (([c0, c1, c2, c3].drop 2).take (Tryz.prog.cellsOf 29)) = some y2 := hx 2 _ rfl
      rw [z_int] at g0 g1
      rw [z_iv] at g2
      obtain ⟨a, q0, _, w0⟩ := DataW.trod_int (cs := [c0]) Tryz.underlying3 g0
      obtain ⟨b, q1, _, w1⟩ := DataW.trod_int (cs := [c1]) Tryz.underlying3 g1
      obtain ⟨l, r, q2, w2, w3⟩ := iv_of g2
      cases q0; cases q1; cases q2
      exact ⟨⟨a, b, l, r⟩, rfl, w0, w1, w2, w3⟩
theorem addr_zero {a : Addr} (h0 : ∃ u0, W.cell? a = some u0) : a = ⟨a.block, a.off, none⟩ := by
  obtain ⟨u0, h0⟩ := h0
  have hs : a.spot = none := by
    unfold World.cell? at h0
    split at h0
    · split at h0
      · cases h0
      · rename_i hh; cases e : a.spot with
        | none => rfl
        | some z => rw [e] at hh; simp at hh
    · cases h0
  obtain ⟨b, o, s⟩ := a
  simp only at hs
  subst hs
  rfl
theorem addr_at {a : Addr} {k : Nat} {u : Value} (h : W.cell? (a.add k) = some u) (h0 : ∃ u0, W.cell? a = some u0) : a.add k = ⟨a.block, a.off + k, none⟩ ∧ a.block < W.heap.size := by
  have hz := addr_zero h0
  obtain ⟨u0, h0⟩ := h0
  refine ⟨?_, World.block_lt_of_cell? W a h0⟩
  unfold Addr.add
  split
  · rename_i e; subst e
    rw [Nat.add_zero]; exact hz
  · rfl
theorem add_add (a : Addr) (i j : Nat) : (a.add i).add j = a.add (i + j) := by
  unfold Addr.add
  by_cases hi : i = 0 <;> by_cases hj : j = 0 <;> simp [hi, hj] <;> omega
theorem slice_of {t e : TypeId} {v : Value} {x : DataW H × List MemPlace} (ht : Tryz.prog.underlying t = some (.slice e)) (h : DataW.trod enc Tryz.prog W 0 (fun _ => true) true n t [v] = some x) :
    ∃ ao len c, v = .slice ao len c ∧ len ≤ c ∧ c ≤ maxLen ∧ (ao = none → len = 0 ∧ c = 0) ∧ ∀ i, i < len → ∃ a cs m y, ao = some a ∧ cs.length = Tryz.prog.cellsOf e ∧ DataW.trod enc Tryz.prog W 0 (fun _ => true) true m e cs = some y ∧ ∀ k u, cs[k]? = some u → W.cell? (a.add (i * Tryz.prog.cellsOf e + k)) = some u := by
  rcases DataW.trod_slice ht h with ⟨hcs, _⟩ | ⟨a, len, cap, elems, rest, m, _, hcs, _, hb, hl, hm, hlen, hel, -, -⟩
  · injection hcs with hcs
    exact ⟨none, 0, 0, hcs, Nat.le_refl _, by simp, fun _ => ⟨rfl, rfl⟩, fun i hi => by omega⟩
  · injection hcs with hcs
    refine ⟨some a, len, cap, hcs, hl, hm, (fun e => by cases e), fun i hi => ?_⟩
    have h1 := hel i hi
    rw [List.getElem?_eq_getElem (by omega), Option.bind_eq_some_iff] at h1
    obtain ⟨cs, h2, h3⟩ := h1
    obtain ⟨_, h4, h5⟩ := World.cells?_some h2
    refine ⟨a, cs, m, _, rfl, h4, h3, fun k u hu => ?_⟩
    have hk := (List.getElem?_eq_some_iff.1 hu).1
    have := h5 k (by omega)
    rw [add_add] at this
    rw [this]; exact hu
set_option maxRecDepth 100000 in
theorem nodes_of {v : Value} {x : DataW H × List MemPlace} (h : DataW.trod enc Tryz.prog W 0 (fun _ => true) true n 26 [v] = some x) : ∃ e, RawN W.heap.size W v e := by
  obtain ⟨ao, len, c, rfl, hl, hm, h0, hel⟩ := slice_of Tryz.underlying26 h
  have key : ∀ i, i < len → ∃ x : Nd, ∃ b o, ao = some ⟨b, o, none⟩ ∧ b < W.heap.size ∧ ∀ k u, (nd4 x)[k]? = some u → W.cell? ⟨b, o + (i * 4 + k), none⟩ = some u := by
    intro i hi
    obtain ⟨a0, cs0, m0, y0, e0, l0, t0, c0⟩ := hel 0 (by omega)
    obtain ⟨a, cs, m, y, e1, l1, t1, c1⟩ := hel i hi
    obtain ⟨y0', rfl, -⟩ := nd_of t0
    obtain ⟨y', rfl, -⟩ := nd_of t1
    rw [e0] at e1
    obtain rfl := Option.some.inj e1
    rw [z_nd] at c0 c1
    have hz : ∃ u0, W.cell? a0 = some u0 := ⟨_, by have := c0 0 _ rfl; simpa [Addr.add] using this⟩
    refine ⟨y', a0.block, a0.off, ?_, (addr_at (c0 0 _ rfl) hz).2, fun k u hu => ?_⟩
    · rw [e0]
      rw [← addr_zero hz]
    · have := c1 k u hu
      rw [(addr_at this hz).1] at this
      exact this
  obtain ⟨e, he, hp⟩ := exists_list len key
  exact ⟨e, ao, c, by rw [he], by rw [he]; exact hl, hm, hp, fun e => (h0 e).2⟩
set_option maxRecDepth 100000 in
theorem open_nodes {r : Reach} {b0 : Nat} {v : Value} {d : DataW H} {p : List MemPlace} (hv : Value.okWide Tryz.prog W r b0 26 v) (h : DataW.Trod enc Tryz.prog W 0 (fun _ => true) true 26 v d p) : ∃ e, RawN W.heap.size W v e := by
  obtain ⟨a, len, cap, rfl⟩ := okWide_slice Tryz.underlying26 hv
  obtain ⟨n, hn⟩ := h
  exact nodes_of (n := n) (x := (d, p)) hn
end
end Go.Proofs.YthcidkidpiaomaaGreatDoor.Od
end
section
set_option linter.unusedVariables false
set_option linter.unusedSimpArgs false
namespace Go.Proofs.YthcidkidpiaomaaGreatDoor.Od
open Go.RowKit Rg
theorem tmod_bd (x y : Int) (h : 0 < y) : -y < x.tmod y ∧ x.tmod y < y := by
  have h1 := Int.tmod_lt_of_pos x h
  refine ⟨?_, h1⟩
  have h2 := Int.tmod_lt_of_pos (-x) h
  rw [Int.neg_tmod] at h2
  omega
set_option maxRecDepth 100000 in
set_option maxHeartbeats 8000000 in
theorem rNear_any (l h wd : Int) (w1 : 1 ≤ wd) (w2 : wd ≤ 256) (w : World) : Calls Tryz.prog 112 #[.agg #[.int .i64 l, .int .i64 h], .int .i64 wd] w fun e w' => ∃ a, e = .returned (ivV a) ∧ okI a ∧ Below w.heap.size w w' := by
  have HW := Aside.mk (And.intro w1 w2)
  have hne : wd ≠ 0 := by omega
  clear w1 w2
  go_enter Tryz.func112, Tryz.ntmps112
  go_wp2_with fail
  have hr0 : ((w.alloc (.cells #[.int .i64 l, .int .i64 h] 29)).alloc (.cells #[.int .i64 0, .int .i64 0] 29)).heap[w.heap.size]? = some (.cells #[.int .i64 l, .int .i64 h] 29 (0, 0)) := by rw [Below.heap_alloc _ _ _ (by simp)]; exact heap_alloc_last _ _
  have hr1 : ((w.alloc (.cells #[.int .i64 l, .int .i64 h] 29)).alloc (.cells #[.int .i64 0, .int .i64 0] 29)).heap[w.heap.size + 1]? = some (.cells #[.int .i64 0, .int .i64 0] 29 (0, 0)) := by
    have := heap_alloc_last (w.alloc (.cells #[.int .i64 l, .int .i64 h] 29)) (.cells #[.int .i64 0, .int .i64 0] 29)
    simpa using this
  have hbl : Below w.heap.size w ((w.alloc (.cells #[.int .i64 l, .int .i64 h] 29)).alloc (.cells #[.int .i64 0, .int .i64 0] 29)) := ((Below.refl _ _).alloc (Nat.le_refl _) _).alloc (by simp) _
  generalize (w.alloc (.cells #[.int .i64 l, .int .i64 h] 29)).alloc (.cells #[.int .i64 0, .int .i64 0] 29) = W at hr0 hr1 hbl ⊢
  have c0 : W.cell? ⟨w.heap.size, 0, none⟩ = some (.int .i64 l) := by rw [cell_of_row _ _ 0 _ _ _ hr0]; rfl
  have c1 : W.cell? ⟨w.heap.size, 1, none⟩ = some (.int .i64 h) := by rw [cell_of_row _ _ 1 _ _ _ hr0]; rfl
  obtain ⟨g, hg⟩ : ∃ g, w.heap.size = g := ⟨_, rfl⟩
  have HG := Aside.mk hg
  have HB := Aside.mk hbl
  rw [hg] at c0 c1 hr1
  have HR1 := Aside.mk hr1
  simp only [hg]
  clear hg hr0 hr1 hbl
  go_region
  obtain ⟨A, hA⟩ : ∃ A, l.tmod 1048576 = A := ⟨_, rfl⟩
  obtain ⟨M, hM⟩ : ∃ M, (wrap64 (h.tmod wd + wd)).tmod wd = M := ⟨_, rfl⟩
  have hA1 : -1048576 < A ∧ A < 1048576 := by rw [← hA]; have := tmod_bd l 1048576 (by omega); omega
  have hM1 : 0 ≤ M ∧ M < wd := by
    have h1 := tmod_bd h wd (by have := HW.out.1; omega)
    have h2 : wrap64 (h.tmod wd + wd) = h.tmod wd + wd := by
      have := HW.out
      first | (rw [← IntKind.wrap_i64]; exact IntKind.wrap_of _ _ (by decide) (by decide)) | (unfold wrap64; omega)
    rw [h2] at hM
    rw [← hM, Int.tmod_eq_emod_of_nonneg (by omega)]
    exact ⟨Int.emod_nonneg _ (by omega), Int.emod_lt_of_pos _ (by omega)⟩
  have HO : Aside (okI (A, A + M)) := ⟨by
    have := HW.out
    show okIv _ _ = true
    unfold okIv maxV
    simp only [Bool.or_eq_true, Bool.and_eq_true, beq_iff_eq, decide_eq_true_eq]
    omega⟩
  have b1 : -9223372036854775808 ≤ A + M := by omega
  have b2 : A + M ≤ 9223372036854775807 := by have := HW.out; omega
  simp only [hA, hM]
  clear hA hM hA1 hM1
  go_wp2_with (first | (refine wpList_store_iv rfl (.tmp 4) (.tmp 22) rfl (g + 1) _ _ rfl rfl _ _ HR1.out ?_; intro w3 hr3 hb3 hk3 hs3))
  exact ret_iv rfl rfl hr3 ⟨(A, A + M), rfl, HO.out, HB.out.drew.trans (hb3.mono (by have := HG.out; omega))⟩
end Go.Proofs.YthcidkidpiaomaaGreatDoor.Od
end
section
set_option linter.unusedVariables false
set_option linter.unusedSimpArgs false
namespace Go.Proofs.YthcidkidpiaomaaGreatDoor.Od
open Go.RowKit Rg
theorem OwnN.kept {B g : Nat} {w w' : World} {v : Value} {e : List Nd} (h : OwnN B w v e) (k : Kept g w w') (hg : g < B) : OwnN B w' v e := by
  obtain ⟨h1, h2⟩ := h
  refine ⟨h1, ?_⟩
  rcases h2 with h2 | ⟨g', cap, cur, hv, hg', hh, r⟩
  · exact Or.inl h2
  · exact Or.inr ⟨g', cap, cur, hv, hg', by rw [k.block g' (lt_of hh) (by omega)]; exact hh, r⟩
theorem RawN.kept {G g : Nat} {w w' : World} {v : Value} {e : List Nd} (h : RawN G w v e) (k : Kept g w w') (hg : G ≤ g) : RawN G w' v e := by
  obtain ⟨ao, c, hv, h1, h2, h3, h4⟩ := h
  refine ⟨ao, c, hv, h1, h2, fun i x hx => ?_, h4⟩
  obtain ⟨b, o, h5, h6, h7⟩ := h3 i x hx
  exact ⟨b, o, h5, h6, fun k' u hu => k.cell (h7 k' u hu) (by show b ≠ g; omega)⟩
theorem RawN.tail {G : Nat} {w : World} {b o K c : Nat} {x : Nd} {r : List Nd} (h : RawN G w (.slice (some ⟨b, o, none⟩) K c) (x :: r)) : RawN G w (.slice (some ⟨b, o + 4, none⟩) (K - 1) (c - 1)) r := by
  obtain ⟨ao, c', hv, h1, h2, h3, h4⟩ := h
  injection hv with e1 e2 e3
  subst e1; subst e2; subst e3
  simp only [List.length_cons] at h1
  refine ⟨some ⟨b, o + 4, none⟩, c - 1, by rw [List.length_cons]; rfl, by omega, by omega, fun i y hy => ?_, fun e => by cases e⟩
  obtain ⟨b', o', h5, h6, h7⟩ := h3 (i + 1) y (by rw [List.getElem?_cons_succ]; exact hy)
  injection h5 with h5
  injection h5 with h5 h5'
  subst h5; subst h5'
  refine ⟨b, o + 4, rfl, h6, fun k u hu => ?_⟩
  rw [show o + 4 + (i * 4 + k) = o + ((i + 1) * 4 + k) by omega]
  exact h7 k u hu
def okN (n : Nat) (t : Tr) : Prop := ∀ vars : List (List UInt8), vars.length = n → okT vars t
def BSpec (n d : Nat) : Prop := ∀ (e : List Nd) (g G : Nat) (v : Value) (w : World), G ≤ g → w.heap[g]? = some (.cells #[v, .int .i64 (n : Nat)] 90 (0, 0)) → RawN G w v e →
  Calls Tryz.prog 65 #[.pointer (some ⟨g, 0, none⟩), .int .i64 (d : Nat)] w fun e' w' => ∃ t v', e' = .returned v' ∧ okN n t ∧ (flat t).length + 1 ≤ 2 ^ (max d 1) ∧ OwnN w.heap.size w' v' (flat t) ∧ Kept g w w' ∧
    ∃ v2 e2, w'.heap[g]? = some (.cells #[v2, .int .i64 (n : Nat)] 90 (0, 0)) ∧ RawN G w' v2 e2
theorem pow_leaf (d : Nat) : 1 + 1 ≤ 2 ^ (max d 1) := by
  have := Nat.pow_le_pow_right (n := 2) (by decide) (show 1 ≤ max d 1 by omega)
  omega
theorem pow_un {k x : Nat} (hk : 1 ≤ k) (h : x + 1 ≤ 2 ^ (max k 1)) : (x + 1) + 1 ≤ 2 ^ (max (k + 1) 1) := by
  rw [show max k 1 = k by omega] at h
  rw [show max (k + 1) 1 = k + 1 by omega, Nat.pow_succ]
  omega
theorem pow_bin {k : Nat} {e f : List Nd} {x : Nd} (hk : 1 ≤ k) (h : e.length + 1 ≤ 2 ^ (max k 1)) (h' : f.length + 1 ≤ 2 ^ (max k 1)) : (x :: (e ++ f)).length + 1 ≤ 2 ^ (max (k + 1) 1) := by
  rw [show max k 1 = k by omega] at h h'
  rw [show max (k + 1) 1 = k + 1 by omega, Nat.pow_succ, List.length_cons, List.length_append]
  omega
theorem pow_un' {k x d : Nat} (hk : d = k + 1 ∧ 1 ≤ k) (h : x + 1 ≤ 2 ^ (max k 1)) : (x + 1) + 1 ≤ 2 ^ (max d 1) := by rw [hk.1]; exact pow_un hk.2 h
theorem pow_bin' {k d : Nat} {e f : List Nd} {x : Nd} (hk : d = k + 1 ∧ 1 ≤ k) (h : e.length + 1 ≤ 2 ^ (max k 1)) (h' : f.length + 1 ≤ 2 ^ (max k 1)) : (x :: (e ++ f)).length + 1 ≤ 2 ^ (max d 1) := by rw [hk.1]; exact pow_bin hk.2 h h'
theorem pow_small {k x : Nat} (hd : k + 1 ≤ 5) (h : x + 1 ≤ 2 ^ (max k 1)) : x ≤ 90000 := by
  have := Nat.pow_le_pow_right (n := 2) (by decide) (show max k 1 ≤ 5 by omega)
  omega
theorem pow_small2 {k x y : Nat} (hd : k + 1 ≤ 5) (h : x + 1 ≤ 2 ^ (max k 1)) (h' : y + 1 ≤ 2 ^ (max k 1)) : x + y ≤ 90000 := by
  have := Nat.pow_le_pow_right (n := 2) (by decide) (show max k 1 ≤ 5 by omega)
  omega
theorem okI_num {n : Nat} {a : Iv} (h : okI a) : okN n (.num a.1 a.2) := fun vars _ => h
theorem andb (k m : Int) (h0 : 0 ≤ m) (hm : m < 9223372036854775808) : ∃ x : Int, bits .and .i64 k m = x ∧ 0 ≤ x ∧ x ≤ m := by
  refine ⟨_, rfl, ?_⟩
  obtain ⟨m, rfl⟩ : ∃ z : Nat, m = z := ⟨m.toNat, by omega⟩
  have e : bits .and .i64 k (m : Int) = IntKind.i64.wrap (((BitVec.ofInt 64 k &&& BitVec.ofInt 64 (m : Int)).toNat : Nat) : Int) := rfl
  have hh : (BitVec.ofInt 64 (m : Int)).toNat = m := by rw [BitVec.ofInt_natCast, BitVec.toNat_ofNat]; omega
  rw [e, BitVec.toNat_and, hh]
  have := Nat.and_le_right (n := (BitVec.ofInt 64 k).toNat) (m := m)
  rw [IntKind.wrap_i64]
  omega
theorem wrap64_in {x : Int} (h : -9223372036854775808 ≤ x) (h' : x ≤ 9223372036854775807) : wrap64 x = x := by unfold wrap64; omega
def BGoal (n d g G : Nat) (w : World) : Prop := Calls Tryz.prog 65 #[.pointer (some ⟨g, 0, none⟩), .int .i64 (d : Nat)] w fun e' w' => ∃ t v', e' = .returned v' ∧ okN n t ∧ (flat t).length + 1 ≤ 2 ^ (max d 1) ∧ OwnN w.heap.size w' v' (flat t) ∧ Kept g w w' ∧
    ∃ v2 e2, w'.heap[g]? = some (.cells #[v2, .int .i64 (n : Nat)] 90 (0, 0)) ∧ RawN G w' v2 e2
structure BMid (w0 W : World) (g G n : Nat) (v : Value) (r : List Nd) (x : Nd) : Prop where
  kept : Kept g w0 W
  row : W.heap[g]? = some (.cells #[v, .int .i64 (n : Nat)] 90 (0, 0))
  raw : RawN G W v r
  nd : W.heap[w0.heap.size]? = some (.cells #[.int .i64 x.op, .int .i64 x.n, .int .i64 x.lo, .int .i64 x.hi] 79 (0, 0))
theorem bmid {w W : World} {g G n : Nat} {v0 v : Value} {r : List Nd} {x : Nd} (hW : W = (w.setCell ⟨g, 0, none⟩ v).alloc (.cells #[.int .i64 x.op, .int .i64 x.n, .int .i64 x.lo, .int .i64 x.hi] 79))
    (hr : w.heap[g]? = some (.cells #[v0, .int .i64 (n : Nat)] 90 (0, 0))) (h : RawN G w v r) (hG : G ≤ g) : BMid w W g G n v r x := by
  subst hW
  have hs : (w.setCell ⟨g, 0, none⟩ v).heap.size = w.heap.size := by simp [World.setCell]
  have h1 : (w.setCell ⟨g, 0, none⟩ v).heap[g]? = some (.cells #[v, .int .i64 (n : Nat)] 90 (0, 0)) := row_cell (i := 0) hr v
  have hk : Kept g w (w.setCell ⟨g, 0, none⟩ v) := Kept.set _
  have hal : Below (w.setCell ⟨g, 0, none⟩ v).heap.size (w.setCell ⟨g, 0, none⟩ v) ((w.setCell ⟨g, 0, none⟩ v).alloc (.cells #[.int .i64 x.op, .int .i64 x.n, .int .i64 x.lo, .int .i64 x.hi] 79)) := (Below.refl _ _).alloc (Nat.le_refl _) _
  have hl := heap_alloc_last (w.setCell ⟨g, 0, none⟩ v) (.cells #[.int .i64 x.op, .int .i64 x.n, .int .i64 x.lo, .int .i64 x.hi] 79)
  rw [hs] at hl
  exact ⟨hk.put (by have := hal; rw [hs] at this; exact this), (hal.block _ (lt_of h1)).trans h1, (h.kept hk hG).below hal, hl⟩
set_option maxRecDepth 100000 in
set_option maxHeartbeats 8000000 in
theorem build_nil (n d : Nat) (g G : Nat) (v : Value) (w : World) (hG : G ≤ g) (hr : w.heap[g]? = some (.cells #[v, .int .i64 (n : Nat)] 90 (0, 0))) (h : RawN G w v []) :
  Calls Tryz.prog 65 #[.pointer (some ⟨g, 0, none⟩), .int .i64 (d : Nat)] w fun e' w' => ∃ t v', e' = .returned v' ∧ okN n t ∧ (flat t).length + 1 ≤ 2 ^ (max d 1) ∧ OwnN w.heap.size w' v' (flat t) ∧ Kept g w w' ∧
    ∃ v2 e2, w'.heap[g]? = some (.cells #[v2, .int .i64 (n : Nat)] 90 (0, 0)) ∧ RawN G w' v2 e2 := by
  have HR := Aside.mk hr
  have HN := Aside.mk h
  have HG := Aside.mk hG
  obtain ⟨ao, c, rfl, -⟩ := h
  have c0 : w.cell? ⟨g, 0, none⟩ = some (.slice ao 0 c) := by rw [cell_of_row _ _ 0 _ _ _ hr]; rfl
  have hp : Aside (2 ≤ 2 ^ (max d 1)) := ⟨by
    have := Nat.pow_le_pow_right (n := 2) (by decide) (show 1 ≤ max d 1 by omega)
    simpa using this⟩
  clear hr hG
  go_enter Tryz.func65, Tryz.ntmps65
  go_wp2_with fail
  refine (rPoint_any 65536 w).mono ?_
  rintro e w1 ⟨rfl, hb1⟩
  have HB1 := Aside.mk hb1
  clear hb1
  go_wp2_with fail
  refine (rConst_any (newI 65536 65536) w1).mono ?_
  rintro e w2 ⟨v', rfl, ho, hb2⟩
  have HO := Aside.mk (ho.mono HB1.out.size)
  have HB2 := Aside.mk (HB1.out.trans (hb2.mono HB1.out.size))
  clear hb2 ho
  obtain ⟨av, cv, rfl, -⟩ := HO.out.rd.out
  go_wp2_with fail
  go_ret
  exact ⟨.num 65536 65536, _, rfl, okI_num (a := (65536, 65536)) (by show okIv _ _ = true; kernel_rfl), hp.out, HO.out, Kept.of HB2.out, _, _, (HB2.out.block _ (heap_lt HR.out)).trans HR.out, HN.out.below HB2.out⟩
end Go.Proofs.YthcidkidpiaomaaGreatDoor.Od
end
