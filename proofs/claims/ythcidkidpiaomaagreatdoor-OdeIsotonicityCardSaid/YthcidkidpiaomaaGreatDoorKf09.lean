/- OdL OdM OdN -/
import Derived.Defers
import Derived.Recover
import Derived.RegionTactic
import Derived.Laws.Pointers
import Derived.Laws.NewBlocks
import Derived.Test.YthcidkidpiaomaaGreatDoorKf08
section
set_option linter.unusedVariables false
set_option linter.unusedSimpArgs false
namespace Go.Proofs.YthcidkidpiaomaaGreatDoor.Od
open Go.RowKit Rg
theorem accept_at {nl : Bool} {L : List UInt8} (t : List UInt8) {σ : PS} {q : Nat} (hq : (peekT nl L σ.pos).lo = q) : Od.accept nl L t { σ with pos := q } = if isTok nl L t σ.pos then .ok true { σ with pos := q + t.length } else .ok false { σ with pos := q } := by
 subst hq
 unfold Od.accept
 simp only [isTok_at, peekT_at]
theorem info_tok : (Tryz.prog.info? 108).map (fun i => (i.zero, i.size, i.bytes)) = some (some (.agg #[.int .i64 0, .string ⟨#[]⟩, .int .i64 0]), 3, 32) := by kernel_rfl
theorem toks_one (s : ByteArray) (e : List (Nat × Nat)) : ∀ u ∈ toks s e, u.oneCell' = true := by
 intro u hu
 simp only [toks, List.mem_flatMap] at hu
 obtain ⟨x, _, hx⟩ := hu
 simp only [tokS, List.mem_cons, List.not_mem_nil, or_false] at hx
 rcases hx with rfl | rfl | rfl <;> rfl
abbrev FrT := Fr 108 108
theorem Fr.wideR {PT TT : TypeId} {B : Nat → Prop} {w w' : World} (h : Fr TT TT B w w') : Fr PT TT B w w' :=
 ⟨h.os, h.tape, h.output, h.size, fun k o ho hk => h.block k o ho (by
  rcases hk with hk | hk
  ·exact Or.inl hk
  ·refine Or.inr ?_
   cases o <;> simp_all [isPT])⟩
theorem toks_app (s : ByteArray) (a b : List (Nat × Nat)) : toks s (a ++ b) = toks s a ++ toks s b := by simp [toks]
def KeepV (V : Value) (B : Nat → Prop) (w w' : World) : Prop := FrT B w w' ∧ ∀ k o, V.ownBlock ≠ some k → w.heap[k]? = some o → w'.heap[k]? = some o
theorem KeepV.of {V : Value} {B : Nat → Prop} {w w' : World} (h : Below w.heap.size w w') : KeepV V B w w' := ⟨Fr.of h, fun k o _ ho => by rw [h.block k (heap_lt ho)]; exact ho⟩
theorem KeepV.trans {V : Value} {B : Nat → Prop} {w w1 w2 : World} (h : KeepV V B w w1) (k : KeepV V B w1 w2) : KeepV V B w w2 := ⟨Fr.trans h.1 k.1, fun i o hi ho => k.2 i o hi (h.2 i o hi ho)⟩
def Own3 (g m : Nat) (w : World) : Prop := ∀ V, w.cell? ⟨g, 3, none⟩ = some V → ∀ k, V.ownBlock = some k → k < m
theorem Own3.same {g m : Nat} {w w' : World} (h : Own3 g m w) (h3 : Same3 g w w') : Own3 g m w' := fun V hV k hk => h V (by rw [← h3]; exact hV) k hk
theorem Own3.mono {g m m' : Nat} {w : World} (h : Own3 g m w) (hm : m ≤ m') : Own3 g m' w := fun V hV k hk => Nat.lt_of_lt_of_le (h V hV k hk) hm
theorem Own3.of {w : World} {g : Nat} {B : Nat → Prop} {s : ByteArray} {nl : Bool} {σ : PS} (h : Par w g B s nl σ) : Own3 g w.heap.size w := fun V hV k hk => by
 obtain ⟨v, hh, ho⟩ := h.here
 rw [cell_of_row w _ 3 _ _ _ hh] at hV
 obtain rfl := Option.some.inj hV
 exact (World.ownsRow.lt ho.1 k hk).2
theorem Same3.below {w w' : World} {g : Nat} {B : Nat → Prop} {s : ByteArray} {nl : Bool} {σ : PS} (h : Par w g B s nl σ) (hb : Below w.heap.size w w') : Same3 g w w' := by
 obtain ⟨v, hh, ho⟩ := h.here
 exact hb.cell (p := ⟨g, 3, none⟩) (lt_of hh)
theorem Same3.set1 {w : World} {g : Nat} {B : Nat → Prop} {s : ByteArray} {nl : Bool} {σ : PS} (h : Par w g B s nl σ) (u : Value) : Same3 g w (w.setCell ⟨g, 1, none⟩ u) := by
 obtain ⟨v, hh, ho⟩ := h.here
 unfold Same3
 rw [cell_of_row w _ 3 _ _ _ hh, cell_of_row _ _ 3 _ _ _ (row_cell (i := 1) hh u)]; rfl
theorem run_append_tok (w : World) {o : Oper} {a : Act} (p x : Operand) (hop : o.op = Op.call { callee := Callee.builtin Builtin.append, args := #[p, x], argTypes := #[102, 102] })
  (base : Nat → Prop) (v : Value) (s : ByteArray) (A : List (Nat × Nat)) (hs : a.eval p = v) (h : OwnT base w v A.length (toks s A)) (r : Nat × Nat) (gk : Nat) (hx : a.eval x = .slice (some ⟨gk, 0, none⟩) 1 1)
  (hr : w.heap[gk]? = some (.cells #[.int .i64 1, .string (s.extract r.1 r.2), .int .i64 (r.1 : Nat)] 108 (0, 0)))
  (hbd : A.length ≤ 9000) (hbase : ∀ k, base k → k < w.heap.size) :
  ∃ ao cap w', (execOp a.eval o).run Tryz.prog w = .ok (.value (.slice ao (A.length + 1) cap)) w' ∧ OwnT base w' (.slice ao (A.length + 1) cap) (A.length + 1) (toks s (A ++ [r])) ∧ KeepV v base w w' ∧ ((Value.slice ao (A.length + 1) cap).ownBlock = v.ownBlock ∨ (Value.slice ao (A.length + 1) cap).ownBlock = some w.heap.size) := by
 obtain ⟨i0, hi, hz0, hz1, hz2⟩ := info_parts' info_tok
 have hcell : ∀ (j : Nat) (u : Value), (toks s [r])[j]? = some u → w.cell? ((⟨gk, 0, none⟩ : Addr).add j) = some u := by
  intro j u hu
  have hj : (#[.int .i64 1, .string (s.extract r.1 r.2), .int .i64 (r.1 : Nat)] : Array Value)[j]? = some u := by
   rw [← hu]; simp [toks, tokS]
  have := cell_of_row w gk j _ _ _ hr
  rw [hj] at this
  have ha : ((⟨gk, 0, none⟩ : Addr).add j) = ⟨gk, j, none⟩ := by cases j <;> simp [Addr.add]
  rw [ha]; exact this
 obtain ⟨h, hout⟩ := h
 obtain ⟨v', w', hrun, hown', hgr, -, hblk⟩ := run_append_own_at (P := Tryz.prog) w 0 102 o.type 108 i0 _ 3 32 Tryz.underlying102 hi hz0 hz1 hz2 rfl (by omega) v A.length _ h ⟨gk, 0, none⟩ 1 1 (toks s [r]) (by simp [toks, tokS]) hcell (toks_one s [r]) (by simp only [maxLen]; omega) (by omega) (Nat.zero_le _)
 have hown2 : w'.ownsRow 0 108 3 v' (A.length + 1) (toks s (A ++ [r])) := by rw [toks_app]; exact hown'
 have hv : ∃ ao cap, v' = .slice ao (A.length + 1) cap := by
  obtain ⟨-, h2⟩ := hown2
  rcases h2 with ⟨rfl, hn⟩ | ⟨g', cap, cur, rfl, -⟩
  ·omega
  ·exact ⟨_, _, rfl⟩
 obtain ⟨ao, cap, rfl⟩ := hv
 have hout2 : ∀ k, (Value.slice ao (A.length + 1) cap).ownBlock = some k → ¬ base k := fun k hk hb => by
  rcases hblk with e | e
  ·rw [e] at hk; exact hout k hk hb
  ·rw [e] at hk
   obtain rfl := Option.some.inj hk
   exact absurd (hbase _ hb) (Nat.lt_irrefl _)
 refine ⟨ao, cap, w', ?_, ⟨hown2, hout2⟩, ⟨Fr.grown hgr fun k hk => ?_, fun k o hk ho => ?_⟩, hblk⟩
 ·unfold execOp
  simp only [hop, Go.resolve, invoke, builtin, Sem.run_bind, Sem.run_pure, Result.andThen_ok, List.map_toArray, List.map_cons, List.map_nil, hs, hx, hrun]
 ·obtain ⟨-, h2⟩ := h
  rcases h2 with ⟨rfl, -⟩ | ⟨g', cap', cur, rfl, hg', hh, -⟩
  ·cases hk
  ·obtain rfl := Option.some.inj hk
   exact ⟨hout _ rfl, _, _, hh⟩
 ·rw [hgr.block k (heap_lt ho) (fun e => hk e.symm)]; exact ho
def tabN (s : ByteArray) (g : Nat) (B : Nat → Prop) (V : Value) (cs : Array Value) (n : Nat) (nm : List (Nat × Nat)) : TabW where
 S := fun i v w => match i with
  | 3 | 9 => v = .pointer (some ⟨g, 3, none⟩)
  | 4 => v = V
  | 5 => v = .agg cs
  | 6 => ∃ gk, V.ownBlock ≠ some gk ∧ v = .slice (some ⟨gk, 0, none⟩) 1 1 ∧ w.heap[gk]? = some (.cells cs 108 (0, 0))
  | 7 => ∃ ao cap, v = .slice ao (n + 1) cap ∧ OwnT B w v (n + 1) (toks s nm)
  | _ => v = .pointer (some ⟨g, 0, none⟩)
 R := fun b w0 w => KeepV V B w0 w ∧ (b = false → Below w0.heap.size w0 w)
 call := 7
 E := fun j w w' => match j with
  | 7 => KeepV V B w w'
  | 6 => Below w.heap.size w w'
  | _ => w' = w
 comp := fun j b w0 w w' h he => by
  match j, he with
  | 7, he => exact ⟨h.1.trans he, fun e => by simp at e⟩
  | 6, he => exact ⟨h.1.trans (KeepV.of he), fun e => (h.2 (by simpa using e)).trans (he.mono h.1.1.size)⟩
  | 0, he | 1, he | 2, he | 3, he | 4, he | 5, he | (_ + 8), he => subst he; exact ⟨h.1, fun e => h.2 (by simpa using e)⟩
 mono := fun i j v w w' hij h he => by
  match i, h with
  | 0, h | 1, h | 2, h | 3, h | 4, h | 5, h | 8, h | 9, h | (_ + 10), h => exact h
  | 6, h =>
   match j, he with
   | 7, he =>
    obtain ⟨gk, h1, h2, h3⟩ := h
    exact ⟨gk, h1, h2, he.2 _ _ h1 h3⟩
   | 6, _ => exact absurd rfl hij
   | 0, he | 1, he | 2, he | 3, he | 4, he | 5, he | (_ + 8), he => exact he ▸ h
  | 7, h =>
   match j, he with
   | 7, _ => exact absurd rfl hij
   | 6, he =>
    obtain ⟨ao, cap, h1, h2⟩ := h
    exact ⟨ao, cap, h1, owns_below h2.1 he, h2.2⟩
   | 0, he | 1, he | 2, he | 3, he | 4, he | 5, he | (_ + 8), he => exact he ▸ h
theorem Par.name {w w' : World} {g : Nat} {B : Nat → Prop} {s : ByteArray} {nl : Bool} {σ : PS} (h : Par w g B s nl σ) (hf : FrT B w w') (v : Value) (r : Nat × Nat) (hfew : σ.names.length + 1 ≤ σ.pos) (ho : OwnT B w' v (σ.names.length + 1) (toks s (σ.names ++ [r]))) :
  Par (w'.setCell ⟨g, 3, none⟩ v) g B s nl { σ with names := σ.names ++ [r] } := by
 obtain ⟨v0, hh, -⟩ := h.here
 have hh' := hf.cell hh (by decide)
 refine ⟨⟨v, row_cell hh' v, ?_⟩, h.le, h.base, h.len, by simpa using hfew, fun k hk => Nat.lt_of_lt_of_le (h.bnd k hk) (by simpa [World.setCell] using hf.size)⟩
 have := owns_set (i := 3) (x := v) ho.1 hh' (by decide)
 exact ⟨by simpa using this, ho.2⟩
set_option maxRecDepth 100000 in
set_option maxHeartbeats 8000000 in
theorem atom_any (s : ByteArray) (nl : Bool) (sum : Pr Tr) (n : Nat) (hgr : Gr s.data.toList 0 sum) (hs : Meets 93 s nl sum n) : Meets 167 s nl (Od.atom nl s.data.toList sum) (n + 1) := by
 intro w g B σ h hT hn
 have HP := Aside.mk h
 have HTB := Aside.mk hT
 have HPAR := Aside.mk (paren_any s nl sum n hs)
 have HGR := Aside.mk hgr
 have HN := Aside.mk hn
 have HPL := Aside.mk h.inL
 clear h hT hs hn hgr
 go_enter Tryz.func167, Tryz.ntmps167
 go_wp2_with fail
 refine (peek_anyQ w g B s nl σ HP.out).mono ?_
 rintro e w1 ⟨rfl, hf, hP, h3⟩
 have HF : Aside (FrP B w w1) := ⟨hf.wide⟩
 have HV1 := Aside.mk (((Own3.of HP.out).mono hf.size).same h3)
 clear h3
 have HP1 := Aside.mk hP
 have HPOS : Aside (σ.pos ≤ (peekT nl s.data.toList σ.pos).lo) := ⟨peekT_ge nl s.data.toList σ.pos⟩
 clear hf hP
 rw [tokV_eq]
 by_cases hk2 : (peekT nl s.data.toList σ.pos).kind = 2
 ·have HA : Aside (Od.atom nl s.data.toList sum σ = ((Od.number nl s.data.toList).map (fun r => Tr.num r.1 r.2)) { σ with pos := (peekT nl s.data.toList σ.pos).lo }) := ⟨by unfold Od.atom; simp only; rw [if_pos hk2]⟩
  rw [hk2]
  clear hk2
  go_wp2_with fail
  have hal : Below w1.heap.size w1 (w1.alloc (Obj.cells #[Value.int IntKind.i64 2, Value.string (tokX s (peekT nl s.data.toList σ.pos)), Value.int IntKind.i64 ((peekT nl s.data.toList σ.pos).lo : Nat)] 108)) := (Below.refl _ _).alloc (Nat.le_refl _) _
  refine (number_any _ g B s nl _ (HP1.out.below hal) (HTB.out.fr (HF.out.trans (Fr.of hal)))).mono ?_
  rintro e w2 hg
  have HF1 := Aside.mk (HF.out.trans (Fr.of hal))
  clear hal
  cases hx : Od.number nl s.data.toList { σ with pos := (peekT nl s.data.toList σ.pos).lo } with
  | err cc o =>
   have HX := Aside.mk hx
   rw [hx] at hg
   clear hx
   obtain ⟨hf, rfl⟩ := hg
   have HF2 := Aside.mk (HF1.out.trans hf)
   clear hf
   go_wp2_with fail
   rw [HA.out]
   unfold Pr.map Pr.bind
   rw [HX.out]
   exact ⟨rfl, HF2.out, rfl⟩
  | ok a σ2 =>
   have HX := Aside.mk hx
   rw [hx] at hg
   clear hx
   obtain ⟨hf, ⟨u, rfl, rfl⟩, hP2⟩ := hg
   have HF2 := Aside.mk (HF1.out.trans hf)
   have HP2 := Aside.mk hP2
   clear hf hP2
   obtain ⟨lo, hi⟩ := a
   go_wp2_with fail
   refine (constant_any lo hi w2).mono ?_
   rintro e w3 ⟨v3, rfl, ho3, hb3⟩
   have HO3 := Aside.mk (OwnN.mono ho3 HF2.out.size)
   have HF3 := Aside.mk (HF2.out.trans (Fr.of hb3))
   have HP3 := Aside.mk (HP2.out.below hb3)
   clear ho3 hb3
   go_wp2_with fail
   go_ret
   rw [HA.out]
   unfold Pr.map Pr.bind
   rw [HX.out]
   exact ⟨HF3.out, ⟨_, rfl, HO3.out⟩, HP3.out⟩
 ·have hK2 : ((peekT nl s.data.toList σ.pos).kind == 2) = false := by rw [beq_eq_false_iff_ne]; exact hk2
  have HK2 := Aside.mk hk2
  obtain ⟨K, hK⟩ : ∃ K, (peekT nl s.data.toList σ.pos).kind = K := ⟨_, rfl⟩
  obtain ⟨x, hx⟩ : ∃ x, tokX s (peekT nl s.data.toList σ.pos) = x := ⟨_, rfl⟩
  obtain ⟨q, hq⟩ : ∃ q, (peekT nl s.data.toList σ.pos).lo = q := ⟨_, rfl⟩
  have HK := Aside.mk hK
  have HX := Aside.mk hx
  have HQ := Aside.mk hq
  rw [hK, hx, hq]
  rw [hK] at hK2
  rw [hq] at HP1 HPOS
  clear hk2 hK hx hq
  go_wp2_with fail
  have hal : Below w1.heap.size w1 (w1.alloc (Obj.cells #[Value.int IntKind.i64 K, Value.string x, Value.int IntKind.i64 (q : Nat)] 108)) := (Below.refl _ _).alloc (Nat.le_refl _) _
  have HROW : Aside ((w1.alloc (Obj.cells #[Value.int IntKind.i64 K, Value.string x, Value.int IntKind.i64 (q : Nat)] 108)).heap[w1.heap.size]? = some (Obj.cells #[Value.int IntKind.i64 K, Value.string x, Value.int IntKind.i64 (q : Nat)] 108 (0, 0))) := ⟨heap_alloc_last _ _⟩
  have HP2 := Aside.mk (HP1.out.below hal)
  have HF2 := Aside.mk (HF.out.trans (Fr.of hal))
  have HV2 := Aside.mk (HV1.out.same (Same3.below HP1.out hal))
  obtain ⟨gt, hgt⟩ : ∃ gt, w1.heap.size = gt := ⟨_, rfl⟩
  generalize (w1.alloc (Obj.cells #[Value.int IntKind.i64 K, Value.string x, Value.int IntKind.i64 (q : Nat)] 108)) = W at HROW HP2 HF2 HV2 ⊢
  rw [hgt] at HROW HV2
  simp only [hgt]
  clear hal hgt HP1 HF HP HV1
  refine (accept_anyQ W g B s nl _ HP2.out ⟨#[91]⟩).mono ?_
  rintro e W1 ⟨hg, h3⟩
  rw [show (⟨#[91]⟩ : ByteArray).data.toList = [91] from rfl, accept_at [91] HQ.out] at hg
  by_cases ht : isTok nl s.data.toList [91] σ.pos = true
  ·rw [if_pos ht] at hg
   obtain ⟨hf, ⟨u, rfl, rfl⟩, hP⟩ := hg
   have HPs : Aside (Par W1 g B s nl { σ with pos := q + 1 }) := ⟨hP⟩
   have HFs := Aside.mk (HF2.out.trans hf.wide)
   have HTs := Aside.mk ht
   clear hf hP ht h3
   have HA : Aside (Od.atom nl s.data.toList sum σ = Od.bounds nl s.data.toList { σ with pos := q + 1 }) := ⟨by unfold Od.atom; simp only; rw [if_neg HK2.out, if_pos HTs.out, HQ.out]⟩
   go_wp2_with fail
   refine (signed_any W1 g B s nl _ HPs.out (HTB.out.fr HFs.out)).mono ?_
   rintro e V0 hg
   cases hx : Od.signed nl s.data.toList { σ with pos := q + 1 } with
   | err cc o =>
    have HXa := Aside.mk hx
    rw [hx] at hg
    clear hx
    obtain ⟨hf, rfl⟩ := hg
    have HFe0 := Aside.mk (HFs.out.trans hf)
    clear hf
    go_wp2_with fail
    rw [HA.out]
    simp only [Od.bounds, Pr.map, Pr.bind, Pr.ret, HXa.out]
    exact ⟨rfl, HFe0.out, rfl⟩
   | ok a σ0 =>
    have HXa := Aside.mk hx
    rw [hx] at hg
    clear hx
    obtain ⟨hf, ⟨u, rfl, rfl⟩, hP⟩ := hg
    have HFb0 := Aside.mk (HFs.out.trans hf)
    have HPb0 := Aside.mk hP
    clear hf hP
    go_wp2_with fail
    refine (expect_any V0 g B s nl _ HPb0.out ⟨#[44]⟩).mono ?_
    rintro e V1 hg
    rw [show (⟨#[44]⟩ : ByteArray).data.toList = [44] from rfl] at hg
    cases hx : Od.expect nl s.data.toList [44] σ0 with
    | err cc o =>
     have HXb := Aside.mk hx
     rw [hx] at hg
     clear hx
     obtain ⟨hf, rfl⟩ := hg
     have HFe1 := Aside.mk (HFb0.out.trans hf)
     clear hf
     go_wp2_with fail
     rw [HA.out]
     simp only [Od.bounds, Pr.map, Pr.bind, Pr.ret, HXa.out, HXb.out]
     exact ⟨rfl, HFe1.out, rfl⟩
    | ok b σ1 =>
     have HXb := Aside.mk hx
     rw [hx] at hg
     clear hx
     obtain ⟨hf, ⟨u, rfl, rfl⟩, hP⟩ := hg
     have HFb1 := Aside.mk (HFb0.out.trans hf)
     have HPb1 := Aside.mk hP
     clear hf hP
     go_wp2_with fail
     refine (signed_any V1 g B s nl _ HPb1.out (HTB.out.fr HFb1.out)).mono ?_
     rintro e V2 hg
     cases hx : Od.signed nl s.data.toList σ1 with
     | err cc o =>
      have HXc := Aside.mk hx
      rw [hx] at hg
      clear hx
      obtain ⟨hf, rfl⟩ := hg
      have HFe2 := Aside.mk (HFb1.out.trans hf)
      clear hf
      go_wp2_with fail
      rw [HA.out]
      simp only [Od.bounds, Pr.map, Pr.bind, Pr.ret, HXa.out, HXb.out, HXc.out]
      exact ⟨rfl, HFe2.out, rfl⟩
     | ok c σ2 =>
      have HXc := Aside.mk hx
      rw [hx] at hg
      clear hx
      obtain ⟨hf, ⟨u, rfl, rfl⟩, hP⟩ := hg
      have HFb2 := Aside.mk (HFb1.out.trans hf)
      have HPb2 := Aside.mk hP
      clear hf hP
      go_wp2_with fail
      refine (expect_any V2 g B s nl _ HPb2.out ⟨#[93]⟩).mono ?_
      rintro e V3 hg
      rw [show (⟨#[93]⟩ : ByteArray).data.toList = [93] from rfl] at hg
      cases hx : Od.expect nl s.data.toList [93] σ2 with
      | err cc o =>
       have HXd := Aside.mk hx
       rw [hx] at hg
       clear hx
       obtain ⟨hf, rfl⟩ := hg
       have HFe3 := Aside.mk (HFb2.out.trans hf)
       clear hf
       go_wp2_with fail
       rw [HA.out]
       simp only [Od.bounds, Pr.map, Pr.bind, Pr.ret, HXa.out, HXb.out, HXc.out, HXd.out]
       exact ⟨rfl, HFe3.out, rfl⟩
      | ok d σ3 =>
       have HXd := Aside.mk hx
       rw [hx] at hg
       clear hx
       obtain ⟨hf, ⟨u, rfl, rfl⟩, hP⟩ := hg
       have HFb3 := Aside.mk (HFb2.out.trans hf)
       have HPb3 := Aside.mk hP
       clear hf hP
       go_wp2_with fail
       refine (constant_any a.1 c.2 _).mono ?_
       rintro e V4 ⟨v3, rfl, ho3, hb3⟩
       have HO3 := Aside.mk (OwnN.mono ho3 HFb3.out.size)
       have HF3 := Aside.mk (HFb3.out.trans (Fr.of hb3))
       have HP3 := Aside.mk (HPb3.out.below hb3)
       clear ho3 hb3
       go_wp2_with fail
       go_ret
       rw [HA.out]
       simp only [Od.bounds, Pr.map, Pr.bind, Pr.ret, HXa.out, HXb.out, HXc.out, HXd.out]
       exact ⟨HF3.out, ⟨_, rfl, HO3.out⟩, HP3.out⟩
  rw [if_neg ht] at hg
  obtain ⟨hf, ⟨u, rfl, rfl⟩, hP⟩ := hg
  have HR0 := Aside.mk (Fr.cell hf HROW.out (by decide))
  have HFk0 := Aside.mk (HF2.out.trans hf.wide)
  have HPk0 := Aside.mk hP
  have HT0 := Aside.mk ht
  have HVk0 := Aside.mk (HV2.out.same h3)
  clear hf hP ht h3
  generalize W1 = U0 at *
  go_wp2_with fail
  refine (accept_anyQ U0 g B s nl _ HPk0.out ⟨#[97, 108, 108]⟩).mono ?_
  rintro e W1 ⟨hg, h3⟩
  rw [show (⟨#[97, 108, 108]⟩ : ByteArray).data.toList = wAll from rfl, accept_at wAll HQ.out] at hg
  by_cases ht : isTok nl s.data.toList wAll σ.pos = true
  ·rw [if_pos ht] at hg
   obtain ⟨hf, ⟨u, rfl, rfl⟩, hP⟩ := hg
   have HPs : Aside (Par W1 g B s nl { σ with pos := q + 3 }) := ⟨hP⟩
   have HFs := Aside.mk (HFk0.out.trans hf.wide)
   have HTs := Aside.mk ht
   clear hf hP ht h3
   have HA : Aside (Od.atom nl s.data.toList sum σ = .ok (Tr.num (-maxV) maxV) { σ with pos := q + 3 }) := ⟨by unfold Od.atom; simp only; rw [if_neg HK2.out, if_neg HT0.out, if_pos HTs.out, HQ.out]⟩
   go_wp2_with fail
   refine (entire_any W1).mono ?_
   rintro e V0 ⟨rfl, hb0⟩
   have HFb := Aside.mk (HFs.out.trans (Fr.of hb0))
   have HPb := Aside.mk (HPs.out.below hb0)
   clear hb0
   go_wp2_with fail
   refine (constant_any (-2147483648) 2147483648 _).mono ?_
   rintro e V1 ⟨v3, rfl, ho3, hb3⟩
   have HO3 := Aside.mk (OwnN.mono ho3 HFb.out.size)
   have HF3 := Aside.mk (HFb.out.trans (Fr.of hb3))
   have HP3 := Aside.mk (HPb.out.below hb3)
   clear ho3 hb3
   go_wp2_with fail
   go_ret
   rw [HA.out]
   exact ⟨HF3.out, ⟨_, rfl, HO3.out⟩, HP3.out⟩
  rw [if_neg ht] at hg
  obtain ⟨hf, ⟨u, rfl, rfl⟩, hP⟩ := hg
  have HR1 := Aside.mk (Fr.cell hf HR0.out (by decide))
  have HFk1 := Aside.mk (HFk0.out.trans hf.wide)
  have HPk1 := Aside.mk hP
  have HT1 := Aside.mk ht
  have HVk1 := Aside.mk (HVk0.out.same h3)
  clear hf hP ht h3
  generalize W1 = U1 at *
  go_wp2_with fail
  refine (accept_anyQ U1 g B s nl _ HPk1.out ⟨#[116]⟩).mono ?_
  rintro e W1 ⟨hg, h3⟩
  rw [show (⟨#[116]⟩ : ByteArray).data.toList = wT from rfl, accept_at wT HQ.out] at hg
  by_cases ht : isTok nl s.data.toList wT σ.pos = true
  ·rw [if_pos ht] at hg
   obtain ⟨hf, ⟨u, rfl, rfl⟩, hP⟩ := hg
   have HPs : Aside (Par W1 g B s nl { σ with pos := q + 1 }) := ⟨hP⟩
   have HFs := Aside.mk (HFk1.out.trans hf.wide)
   have HTs := Aside.mk ht
   clear hf hP ht h3
   have HA : Aside (Od.atom nl s.data.toList sum σ = .ok Tr.time { σ with pos := q + 1 }) := ⟨by unfold Od.atom; simp only; rw [if_neg HK2.out, if_neg HT0.out, if_neg HT1.out, if_pos HTs.out, HQ.out]⟩
   go_wp2_with fail
   refine (apply_nil _ 3).mono ?_
   rintro e V1 ⟨v3, rfl, ho3, hb3⟩
   have HO3 := Aside.mk (OwnN.mono ho3 HFs.out.size)
   have HF3 := Aside.mk (HFs.out.trans (Fr.of hb3))
   have HP3 := Aside.mk (HPs.out.below hb3)
   clear ho3 hb3
   go_wp2_with fail
   go_ret
   rw [HA.out]
   exact ⟨HF3.out, ⟨_, rfl, HO3.out⟩, HP3.out⟩
  rw [if_neg ht] at hg
  obtain ⟨hf, ⟨u, rfl, rfl⟩, hP⟩ := hg
  have HR2 := Aside.mk (Fr.cell hf HR1.out (by decide))
  have HFk2 := Aside.mk (HFk1.out.trans hf.wide)
  have HPk2 := Aside.mk hP
  have HT2 := Aside.mk ht
  have HVk2 := Aside.mk (HVk1.out.same h3)
  clear hf hP ht h3
  generalize W1 = U2 at *
  go_wp2_with fail
  refine (accept_anyQ U2 g B s nl _ HPk2.out ⟨#[115, 113, 114]⟩).mono ?_
  rintro e W1 ⟨hg, h3⟩
  rw [show (⟨#[115, 113, 114]⟩ : ByteArray).data.toList = wSqr from rfl, accept_at wSqr HQ.out] at hg
  by_cases ht : isTok nl s.data.toList wSqr σ.pos = true
  ·rw [if_pos ht] at hg
   obtain ⟨hf, ⟨u, rfl, rfl⟩, hP⟩ := hg
   have HPs : Aside (Par W1 g B s nl { σ with pos := q + 3 }) := ⟨hP⟩
   have HFs := Aside.mk (HFk2.out.trans hf.wide)
   have HTs := Aside.mk ht
   clear hf hP ht h3
   have HA : Aside (Od.atom nl s.data.toList sum σ = ((Od.paren nl s.data.toList sum).map (Tr.un 5)) { σ with pos := q + 3 }) := ⟨by unfold Od.atom; simp only; rw [if_neg HK2.out, if_neg HT0.out, if_neg HT1.out, if_neg HT2.out, if_pos HTs.out, HQ.out]⟩
   go_wp2_with fail
   refine (HPAR.out W1 g B _ HPs.out (HTB.out.fr HFs.out) (by have := HN.out; have := HPOS.out; show s.size < n + 1 + (q + 3); omega)).mono ?_
   rintro e V0 hg
   cases hx : Od.paren nl s.data.toList sum { σ with pos := q + 3 } with
   | err cc o =>
    have HXa := Aside.mk hx
    rw [hx] at hg
    clear hx
    obtain ⟨hf, rfl⟩ := hg
    have HFe := Aside.mk (HFs.out.trans hf)
    clear hf
    go_wp2_with fail
    rw [HA.out]
    simp only [Od.atom, Pr.map, Pr.bind, Pr.ret, HXa.out]
    exact ⟨rfl, HFe.out, rfl⟩
   | ok t σ2 =>
    have HXa := Aside.mk hx
    have hgr := Gr.paren HGR.out _ t σ2 HPs.out.inL hx
    rw [hx] at hg
    clear hx
    obtain ⟨hf, ⟨u, rfl, ho⟩, hP⟩ := hg
    have HFb := Aside.mk (HFs.out.trans hf)
    have HPb := Aside.mk hP
    have HLEN : Aside ((flat t).length ≤ 8000) := ⟨by have h1 := hP.len; have h2 : s.data.toList.length = s.size := rfl; omega⟩
    have HO := Aside.mk (opd_one (T := 26) ho.rd (flat_ne t) (by have := HLEN.out; omega))
    obtain ⟨ao, cap, hu, -⟩ := ho.rd.out
    obtain ⟨l, hl⟩ : ∃ l, (flat t).length = l := ⟨_, rfl⟩
    rw [hl] at hu
    subst hu
    clear hf hP ho hgr hl
    go_wp2_with fail
    refine (apply_any _ 5 V0.heap.size [_] [flat t] 1 rfl (by omega) HO.out (by simp [flat_ne]) (by have := HLEN.out; simp; omega) _ rfl).mono ?_
    rintro e V1 ⟨v3, rfl, ho3, hb3⟩
    have hb4 : Below V0.heap.size V0 V1 := ((Below.refl V0.heap.size V0).alloc (Nat.le_refl _) _).trans (hb3.mono (by simp))
    have HO3 : Aside (OwnN w.heap.size V1 v3 (flat (Tr.un 5 t))) := ⟨by
     have := OwnN.mono ho3 (B := w.heap.size) (Nat.le_trans HFb.out.size ((Below.refl V0.heap.size V0).alloc (Nat.le_refl _) _).size)
     simpa [flat] using this⟩
    have HF3 := Aside.mk (HFb.out.trans (Fr.of hb4))
    have HP3 := Aside.mk (HPb.out.below hb4)
    clear ho3 hb3 hb4
    go_wp2_with fail
    go_ret
    rw [HA.out]
    simp only [Pr.map, Pr.bind, Pr.ret, HXa.out]
    exact ⟨HF3.out, ⟨_, rfl, HO3.out⟩, HP3.out⟩
  rw [if_neg ht] at hg
  obtain ⟨hf, ⟨u, rfl, rfl⟩, hP⟩ := hg
  have HR3 := Aside.mk (Fr.cell hf HR2.out (by decide))
  have HFk3 := Aside.mk (HFk2.out.trans hf.wide)
  have HPk3 := Aside.mk hP
  have HT3 := Aside.mk ht
  have HVk3 := Aside.mk (HVk2.out.same h3)
  clear hf hP ht h3
  generalize W1 = U3 at *
  go_wp2_with fail
  refine (accept_anyQ U3 g B s nl _ HPk3.out ⟨#[115, 113, 114, 116]⟩).mono ?_
  rintro e W1 ⟨hg, h3⟩
  rw [show (⟨#[115, 113, 114, 116]⟩ : ByteArray).data.toList = wSqrt from rfl, accept_at wSqrt HQ.out] at hg
  by_cases ht : isTok nl s.data.toList wSqrt σ.pos = true
  ·rw [if_pos ht] at hg
   obtain ⟨hf, ⟨u, rfl, rfl⟩, hP⟩ := hg
   have HPs : Aside (Par W1 g B s nl { σ with pos := q + 4 }) := ⟨hP⟩
   have HFs := Aside.mk (HFk3.out.trans hf.wide)
   have HTs := Aside.mk ht
   clear hf hP ht h3
   have HA : Aside (Od.atom nl s.data.toList sum σ = ((Od.paren nl s.data.toList sum).map (Tr.un 6)) { σ with pos := q + 4 }) := ⟨by unfold Od.atom; simp only; rw [if_neg HK2.out, if_neg HT0.out, if_neg HT1.out, if_neg HT2.out, if_neg HT3.out, if_pos HTs.out, HQ.out]⟩
   go_wp2_with fail
   refine (HPAR.out W1 g B _ HPs.out (HTB.out.fr HFs.out) (by have := HN.out; have := HPOS.out; show s.size < n + 1 + (q + 4); omega)).mono ?_
   rintro e V0 hg
   cases hx : Od.paren nl s.data.toList sum { σ with pos := q + 4 } with
   | err cc o =>
    have HXa := Aside.mk hx
    rw [hx] at hg
    clear hx
    obtain ⟨hf, rfl⟩ := hg
    have HFe := Aside.mk (HFs.out.trans hf)
    clear hf
    go_wp2_with fail
    rw [HA.out]
    simp only [Od.atom, Pr.map, Pr.bind, Pr.ret, HXa.out]
    exact ⟨rfl, HFe.out, rfl⟩
   | ok t σ2 =>
    have HXa := Aside.mk hx
    have hgr := Gr.paren HGR.out _ t σ2 HPs.out.inL hx
    rw [hx] at hg
    clear hx
    obtain ⟨hf, ⟨u, rfl, ho⟩, hP⟩ := hg
    have HFb := Aside.mk (HFs.out.trans hf)
    have HPb := Aside.mk hP
    have HLEN : Aside ((flat t).length ≤ 8000) := ⟨by have h1 := hP.len; have h2 : s.data.toList.length = s.size := rfl; omega⟩
    have HO := Aside.mk (opd_one (T := 26) ho.rd (flat_ne t) (by have := HLEN.out; omega))
    obtain ⟨ao, cap, hu, -⟩ := ho.rd.out
    obtain ⟨l, hl⟩ : ∃ l, (flat t).length = l := ⟨_, rfl⟩
    rw [hl] at hu
    subst hu
    clear hf hP ho hgr hl
    go_wp2_with fail
    refine (apply_any _ 6 V0.heap.size [_] [flat t] 1 rfl (by omega) HO.out (by simp [flat_ne]) (by have := HLEN.out; simp; omega) _ rfl).mono ?_
    rintro e V1 ⟨v3, rfl, ho3, hb3⟩
    have hb4 : Below V0.heap.size V0 V1 := ((Below.refl V0.heap.size V0).alloc (Nat.le_refl _) _).trans (hb3.mono (by simp))
    have HO3 : Aside (OwnN w.heap.size V1 v3 (flat (Tr.un 6 t))) := ⟨by
     have := OwnN.mono ho3 (B := w.heap.size) (Nat.le_trans HFb.out.size ((Below.refl V0.heap.size V0).alloc (Nat.le_refl _) _).size)
     simpa [flat] using this⟩
    have HF3 := Aside.mk (HFb.out.trans (Fr.of hb4))
    have HP3 := Aside.mk (HPb.out.below hb4)
    clear ho3 hb3 hb4
    go_wp2_with fail
    go_ret
    rw [HA.out]
    simp only [Pr.map, Pr.bind, Pr.ret, HXa.out]
    exact ⟨HF3.out, ⟨_, rfl, HO3.out⟩, HP3.out⟩
  rw [if_neg ht] at hg
  obtain ⟨hf, ⟨u, rfl, rfl⟩, hP⟩ := hg
  have HR4 := Aside.mk (Fr.cell hf HR3.out (by decide))
  have HFk4 := Aside.mk (HFk3.out.trans hf.wide)
  have HPk4 := Aside.mk hP
  have HT4 := Aside.mk ht
  have HVk4 := Aside.mk (HVk3.out.same h3)
  clear hf hP ht h3
  generalize W1 = U4 at *
  obtain ⟨HRW, HFW, HPW, HVW⟩ : Aside _ ∧ Aside _ ∧ Aside _ ∧ Aside _ := ⟨HR4, HFk4, HPk4, HVk4⟩
  clear HR0 HR1 HR2 HR3 HR4 HPk0 HPk1 HPk2 HPk3 HPk4 HFk0 HFk1 HFk2 HFk3 HFk4 HVk0 HVk1 HVk2 HVk3 HVk4 HV2 HP2 HF2 HROW
  generalize U4 = W at *
  have hc0 : W.cell? ⟨gt, 0, none⟩ = some (.int .i64 K) := by rw [cell_of_row _ _ 0 _ _ _ HRW.out]; rfl
  have hcx : W.cell? ⟨gt, 1, none⟩ = some (.string x) := by rw [cell_of_row _ _ 1 _ _ _ HRW.out]; rfl
  have hc2 : W.cell? ⟨gt, 2, none⟩ = some (.int .i64 (q : Nat)) := by rw [cell_of_row _ _ 2 _ _ _ HRW.out]; rfl
  have hgt : gt < W.heap.size := lt_of HRW.out
  by_cases hk1 : K = 1
  ·subst hk1
   have HA : Aside (Od.atom nl s.data.toList sum σ = .ok (Tr.var σ.names.length) ⟨(peekT nl s.data.toList σ.pos).hi, σ.names ++ [(q, (peekT nl s.data.toList σ.pos).hi)], σ.bad⟩) := ⟨by unfold Od.atom; simp only; rw [if_neg HK2.out, if_neg HT0.out, if_neg HT1.out, if_neg HT2.out, if_neg HT3.out, if_neg HT4.out, if_pos HK.out, HQ.out]⟩
   have hok := peekT_ok nl s.data.toList σ.pos HPL.out
   have hxx : s.extract q (peekT nl s.data.toList σ.pos).hi = x := by have := HX.out; unfold tokX at this; rw [if_neg (by rw [HK.out]; decide), HQ.out] at this; exact this
   have hle := hok.le
   have hlen := hok.len
   obtain ⟨E, hE⟩ : ∃ E, (peekT nl s.data.toList σ.pos).hi = E := ⟨_, rfl⟩
   rw [hE] at HA hle hlen hxx
   rw [HQ.out] at hle
   have hsl : s.data.toList.length = s.size := rfl
   have hxs : x.size = E - q := by rw [← hxx, ByteArray.size_extract]; omega
   have HXX := Aside.mk hxx
   have HXS := Aside.mk hxs
   have HQE : Aside (q ≤ E ∧ E ≤ s.size ∧ σ.names.length + 1 ≤ E) := ⟨hle, by omega, by have := HPW.out.few; have := hok.some (Or.inl HK.out); rw [HQ.out, hE] at this; simp only at *; omega⟩
   have h8 := HPW.out.len
   have hw : IntKind.i64.wrap ((q : Int) + (x.size : Int)) = (q : Int) + (x.size : Int) := IntWalk.i64_in _ (by omega)
   obtain ⟨-, c1, -, hlg, -, -, -⟩ := HPW.out.cells
   simp only at c1
   clear hok hxx hle hlen hE hsl hxs h8
   go_wp2_with fail
   refine region_v [73, 74, 75, 76, 77, 78, 79, 80, 81, 82] 10 [.pointer (some ⟨g, 0, none⟩), .pointer (some ⟨g, 0, none⟩), .pointer (some ⟨g, 1, none⟩), .int .i64 (q : Nat), .pointer (some ⟨gt, 1, none⟩), .string x, .int .i64 (x.size : Nat), .int .i64 ((q : Int) + (x.size : Int)), .pointer (some ⟨g, 0, none⟩), .pointer (some ⟨g, 1, none⟩)] rfl rfl ?_ ?_
   ·iterate 10 (refine AllV.val rfl (fun w hb => by simp [execOp, Act.eval, kp hb c1, kp hb hcx, hw, go_sem]) ?_)
    exact AllV.nil
   intro w4 hb
   simp only [List.drop_succ_cons, List.drop_zero]
   have HH4 := Aside.mk hb
   clear hb
   have hxe : (q : Int) + (x.size : Int) = ((E : Nat) : Int) := by have := HXS.out; have := HQE.out; omega
   have HP4 := Aside.mk (HPW.out.below HH4.out)
   have HF4 := Aside.mk (HFW.out.trans (Fr.of HH4.out))
   have HR4 := Aside.mk ((HH4.out.block _ (lt_of HRW.out)).trans HRW.out)
   clear c1 hlg HFW hcx hc0 hc2 hgt HRW
   obtain ⟨-, c1, -, hlg, hz1, -, -⟩ := HP4.out.cells
   simp only at c1
   go_wp2_with fail
   rw [hxe]
   have hgt : gt ≠ g := by
    rintro rfl
    have h1 := HR4.out
    obtain ⟨v, h2, -⟩ := HP4.out.here
    rw [h1] at h2
    injection h2 with h2; injection h2 with _ h2 _; revert h2; decide
   have HV5 := Aside.mk (((HVW.out.same (Same3.below HPW.out HH4.out))).same (Same3.set1 HP4.out (.int .i64 (E : Nat))))
   have HP5 := Aside.mk (HP4.out.set E HQE.out.2.1 HQE.out.1)
   have HF5 := Aside.mk (HF4.out.trans (HP4.out.fr 1 (.int .i64 (E : Nat))))
   have HR5 : Aside ((w4.setCell ⟨g, 1, none⟩ (.int .i64 (E : Nat))).heap[gt]? = _) := ⟨(Below.heap_setCell _ _ _ _ hgt).trans HR4.out⟩
   generalize (w4.setCell ⟨g, 1, none⟩ (.int .i64 (E : Nat))) = W5 at HP5 HF5 HR5 HV5 ⊢
   clear c1 hlg hz1 hxe hw HP4 HF4 HR4 hgt HH4 HPW HVW
   obtain ⟨V, hhere, hown⟩ := HP5.out.here
   have HOWN := Aside.mk hown
   have HH5 := Aside.mk hhere
   have HVK : Aside (∀ k, V.ownBlock = some k → k < gt) := ⟨HV5.out V (by rw [cell_of_row _ _ 3 _ _ _ hhere]; rfl)⟩
   have HVT : Aside (V.ownBlock ≠ some gt) := ⟨fun e => by have := HVK.out _ e; omega⟩
   have HR5 : Aside (W5.heap[gt]? = some (.cells #[.int .i64 1, .string (s.extract (q, E).1 (q, E).2), .int .i64 ((q, E).1 : Nat)] 108 (0, 0))) := ⟨by rw [show s.extract (q, E).1 (q, E).2 = x from HXX.out]; exact HR5.out⟩
   have HLN : Aside (σ.names.length ≤ 9000) := ⟨by have := HQE.out; have := HP5.out.len; omega⟩
   have HBS : Aside (∀ k, B k → k < W5.heap.size) := ⟨HP5.out.bnd⟩
   clear hhere hown
   refine region_listW (T := tabN s g B V #[.int .i64 1, .string (s.extract (q, E).1 (q, E).2), .int .i64 ((q, E).1 : Nat)] σ.names.length (σ.names ++ [(q, E)])) 10
    [_, _, _, _, _, _, _, _, _, _, _] (by kernel_rfl) (by kernel_rfl) (by kernel_rfl) (by kernel_rfl) (by kernel_rfl) (by kernel_rfl) rfl ?_ ?_ ?_
   ·exact ⟨KeepV.of ⟨rfl, rfl, rfl, Nat.le_refl _, fun _ _ => rfl⟩, fun _ => ⟨rfl, rfl, rfl, Nat.le_refl _, fun _ _ => rfl⟩⟩
   ·refine AllW.cons ?_ ?_
    ·intro b a wz hcl hd hz hb ho hg
     have e0 : a.tmps.getD 0 undef = .pointer (some ⟨g, 0, none⟩) := ho 0 (by kernel_rfl)
     have f0 := Rg.gd e0
     exact ⟨wanted_none rfl, wp_valueW (v := .pointer (some ⟨g, 0, none⟩)) (by simp [execOp, Act.eval, e0, f0, go_sem]) rfl rfl⟩
    refine AllW.cons ?_ ?_
    ·intro b a wz hcl hd hz hb ho hg
     have e0 : a.tmps.getD 0 undef = .pointer (some ⟨g, 0, none⟩) := ho 0 (by kernel_rfl)
     have f0 := Rg.gd e0
     exact ⟨wanted_none rfl, wp_valueW (v := .pointer (some ⟨g, 0, none⟩)) (by simp [execOp, Act.eval, e0, f0, go_sem]) rfl rfl⟩
    refine AllW.cons ?_ ?_
    ·intro b a wz hcl hd hz hb ho hg
     have e84 : a.tmps.getD 84 undef = .pointer (some ⟨g, 0, none⟩) := gotW_of hg (j := 1) rfl rfl rfl
     have f84 := Rg.gd e84
     exact ⟨wanted_none rfl, wp_valueW (v := .pointer (some ⟨g, 0, none⟩)) (by simp [execOp, Act.eval, e84, f84, go_sem]) rfl rfl⟩
    refine AllW.cons ?_ ?_
    ·intro b a wz hcl hd hz hb ho hg
     have e85 : a.tmps.getD 85 undef = .pointer (some ⟨g, 0, none⟩) := gotW_of hg (j := 2) rfl rfl rfl
     have f85 := Rg.gd e85
     exact ⟨wanted_none rfl, wp_valueW (v := .pointer (some ⟨g, 3, none⟩)) (by simp [execOp, Act.eval, e85, f85, go_sem]) rfl rfl⟩
    refine AllW.cons ?_ ?_
    ·intro b a wz hcl hd hz hb ho hg
     have e86 : a.tmps.getD 86 undef = .pointer (some ⟨g, 3, none⟩) := gotW_of hg (j := 3) rfl rfl rfl
     have f86 := Rg.gd e86
     have hr := Fr.cell hb.1.1 HH5.out (by decide)
     have q : wz.cell? ⟨g, 3, none⟩ = some V := by rw [cell_of_row _ _ 3 _ _ _ hr]; rfl
     exact ⟨wanted_none rfl, wp_valueW (v := V) (by simp [execOp, Act.eval, e86, f86, q, go_sem]) rfl rfl⟩
    refine AllW.cons ?_ ?_
    ·intro b a wz hcl hd hz hb ho hg
     have e3 : a.tmps.getD 3 undef = .pointer (some ⟨gt, 0, none⟩) := ho 3 (by kernel_rfl)
     have f3 := Rg.gd e3
     have hr := hb.1.2 gt _ HVT.out HR5.out
     have q0 : wz.cell? ⟨gt, 0, none⟩ = some (.int .i64 1) := by rw [cell_of_row _ _ 0 _ _ _ hr]; rfl
     have q1 : wz.cell? ⟨gt, 1, none⟩ = some (.string (s.extract q E)) := by rw [cell_of_row _ _ 1 _ _ _ hr]; rfl
     have q2 : wz.cell? ⟨gt, 2, none⟩ = some (.int .i64 (q : Nat)) := by rw [cell_of_row _ _ 2 _ _ _ hr]; rfl
     exact ⟨wanted_none rfl, wp_valueW (v := .agg #[.int .i64 1, .string (s.extract (q, E).1 (q, E).2), .int .i64 ((q, E).1 : Nat)]) (by simp [execOp, Act.eval, e3, f3, q0, q1, q2, go_sem]) rfl rfl⟩
    refine AllW.cons ?_ ?_
    ·intro b a wz hcl hd hz hb ho hg
     have e88 : a.tmps.getD 88 undef = .agg #[.int .i64 1, .string (s.extract (q, E).1 (q, E).2), .int .i64 ((q, E).1 : Nat)] := gotW_of hg (j := 5) rfl rfl rfl
     have f88 := Rg.gd e88
     exact ⟨wanted_none rfl, wp_newW (v := .slice (some ⟨wz.heap.size, 0, none⟩) 1 1) (w' := wz.alloc (.cells #[.int .i64 1, .string (s.extract (q, E).1 (q, E).2), .int .i64 ((q, E).1 : Nat)] 108)) (by simp [execOp, Act.eval, e88, f88, go_sem]) ((Below.refl wz.heap.size wz).alloc (Nat.le_refl _) _) ⟨wz.heap.size, fun e => by have h1 := HVK.out _ e; have h2 := lt_of HR5.out; have h3 := hb.1.1.size; omega, rfl, heap_alloc_last _ _⟩⟩
    refine AllW.cons ?_ ?_
    ·intro b a wz hcl hd hz hb ho hg
     have e87 : a.tmps.getD 87 undef = V := gotW_of hg (j := 4) rfl rfl rfl
     obtain ⟨gk, hk1, hk2, hk3⟩ := (gotW_of hg (j := 6) rfl rfl rfl : ∃ gk, V.ownBlock ≠ some gk ∧ a.tmps.getD 89 undef = .slice (some ⟨gk, 0, none⟩) 1 1 ∧ wz.heap[gk]? = some (.cells #[.int .i64 1, .string (s.extract (q, E).1 (q, E).2), .int .i64 ((q, E).1 : Nat)] 108 (0, 0)))
     obtain ⟨ao, cap, w', h1, h2, h3, -⟩ := run_append_tok (a := a) (o := { dst := some 90, op := Op.call { callee := Callee.builtin Builtin.append, args := #[Operand.tmp 87, Operand.tmp 89], argTypes := #[102, 102] }, type := 102, pos := "ode.go:289", after := #[{ on := 4, ground := Ground.data }, { on := 6, ground := Ground.data }], guard := none }) wz (.tmp 87) (.tmp 89) rfl B V s σ.names e87 ⟨owns_below HOWN.out.1 (hb.2 (hcl rfl)), HOWN.out.2⟩ (q, E) gk hk2 hk3 HLN.out (fun k hk => Nat.lt_of_lt_of_le (HBS.out k hk) hb.1.1.size)
     exact ⟨wanted_none rfl, wp_newW h1 h3 ⟨ao, cap, rfl, h2⟩⟩
    refine AllW.cons ?_ ?_
    ·intro b a wz hcl hd hz hb ho hg
     have e83 : a.tmps.getD 83 undef = .pointer (some ⟨g, 0, none⟩) := gotW_of hg (j := 0) rfl rfl rfl
     have f83 := Rg.gd e83
     exact ⟨wanted_none rfl, wp_valueW (v := .pointer (some ⟨g, 0, none⟩)) (by simp [execOp, Act.eval, e83, f83, go_sem]) rfl rfl⟩
    refine AllW.cons ?_ ?_
    ·intro b a wz hcl hd hz hb ho hg
     have e91 : a.tmps.getD 91 undef = .pointer (some ⟨g, 0, none⟩) := gotW_of hg (j := 8) rfl rfl rfl
     have f91 := Rg.gd e91
     exact ⟨wanted_none rfl, wp_valueW (v := .pointer (some ⟨g, 3, none⟩)) (by simp [execOp, Act.eval, e91, f91, go_sem]) rfl rfl⟩
    exact AllW.nil
   intro a w7 hd hz hb ho hg
   obtain ⟨b, hb, -⟩ := hb
   have e83 : a.tmps.getD 83 undef = .pointer (some ⟨g, 0, none⟩) := hg 0 (by decide) _ _ rfl rfl
   have e84 : a.tmps.getD 84 undef = .pointer (some ⟨g, 0, none⟩) := hg 1 (by decide) _ _ rfl rfl
   have e85 : a.tmps.getD 85 undef = .pointer (some ⟨g, 0, none⟩) := hg 2 (by decide) _ _ rfl rfl
   have e86 : a.tmps.getD 86 undef = .pointer (some ⟨g, 3, none⟩) := hg 3 (by decide) _ _ rfl rfl
   have e87 : a.tmps.getD 87 undef = V := hg 4 (by decide) _ _ rfl rfl
   have e88 : a.tmps.getD 88 undef = .agg #[.int .i64 1, .string (s.extract (q, E).1 (q, E).2), .int .i64 ((q, E).1 : Nat)] := hg 5 (by decide) _ _ rfl rfl
   obtain ⟨gk, -, e89, -⟩ := (hg 6 (by decide) _ _ rfl rfl : ∃ gk, V.ownBlock ≠ some gk ∧ a.tmps.getD 89 undef = .slice (some ⟨gk, 0, none⟩) 1 1 ∧ w7.heap[gk]? = some (.cells #[.int .i64 1, .string (s.extract (q, E).1 (q, E).2), .int .i64 ((q, E).1 : Nat)] 108 (0, 0)))
   obtain ⟨ao, cap, e90, ho7⟩ := (hg 7 (by decide) _ _ rfl rfl : ∃ ao cap, a.tmps.getD 90 undef = .slice ao (σ.names.length + 1) cap ∧ OwnT B w7 (a.tmps.getD 90 undef) (σ.names.length + 1) (toks s (σ.names ++ [(q, E)])))
   have e91 : a.tmps.getD 91 undef = .pointer (some ⟨g, 0, none⟩) := hg 8 (by decide) _ _ rfl rfl
   have e92 : a.tmps.getD 92 undef = .pointer (some ⟨g, 3, none⟩) := hg 9 (by decide) _ _ rfl rfl
   rw [e90] at ho7
   have hA := ho.frame hz
   simp only [List.take_succ_cons, List.take_zero, List.filterMap_cons, List.filterMap_nil, List.foldl_cons, List.foldl_nil, e83, e84, e85, e86, e87, e88, e89, e90, e91, e92, List.setIfInBounds_toArray, List.set_cons_zero, List.set_cons_succ] at hA
   obtain ⟨tm, df⟩ := a
   simp only at hd hA
   subst hd
   subst hA
   simp only [List.drop_succ_cons, List.drop_zero]
   have hf7 := hb.1
   clear hz ho hg hb e83 e84 e85 e86 e87 e88 e89 e90 e91 e92
   have HF7 := Aside.mk hf7
   have HO7 := Aside.mk ho7
   have hr7 := Fr.cell hf7 HH5.out (by decide)
   have hz7 : w7.frozen? ⟨g, 3, none⟩ = false := by simp [World.frozen?, hr7]
   have hl7 : g < w7.heap.size := lt_of hr7
   have c7 : w7.cell? ⟨g, 3, none⟩ = some V := by rw [cell_of_row _ _ 3 _ _ _ hr7]; rfl
   have c8 : (w7.setCell ⟨g, 3, none⟩ (.slice ao (σ.names.length + 1) cap)).cell? ⟨g, 3, none⟩ = some (.slice ao (σ.names.length + 1) cap) := by rw [cell_of_row _ _ 3 _ _ _ (row_cell (i := 3) hr7 _)]; rfl
   have hl8 : g < (w7.setCell ⟨g, 3, none⟩ (.slice ao (σ.names.length + 1) cap)).heap.size := lt_of (row_cell (i := 3) hr7 _)
   clear hr7 ho7 hf7
   have hwn : wrap64 (σ.names.length : Int) = (σ.names.length : Int) := by have := HLN.out; unfold wrap64; omega
   go_wp2_with fail
   have HP8 := Aside.mk (HP5.out.name HF7.out _ (q, E) HQE.out.2.2 HO7.out)
   have HF8 := Aside.mk ((HF5.out.trans HF7.out.wideR).trans (Fr.set (i := 3) (HF7.out.cell HH5.out (by decide)) HP5.out.base (.slice ao (σ.names.length + 1) cap)))
   have hs8 : (w7.setCell ⟨g, 3, none⟩ (.slice ao (σ.names.length + 1) cap)).heap.size = w7.heap.size := by simp [World.setCell]
   have hal := heap_alloc_last (w7.setCell ⟨g, 3, none⟩ (.slice ao (σ.names.length + 1) cap)) (Obj.cells #[.int .i64 2, .int .i64 (σ.names.length : Nat), .int .i64 0, .int .i64 0] 79)
   have HB8 := (Below.refl _ (w7.setCell ⟨g, 3, none⟩ (.slice ao (σ.names.length + 1) cap))).alloc (Nat.le_refl _) (Obj.cells #[.int .i64 2, .int .i64 (σ.names.length : Nat), .int .i64 0, .int .i64 0] 79)
   rw [hs8] at hal
   have HO9 := own_one (x := ⟨2, σ.names.length, 0, 0⟩) (B := w.heap.size) hal (by have := HF8.out.size; rw [hs8] at this; exact this) (z := 1) rfl
   go_ret
   rw [HA.out]
   exact ⟨HF8.out.trans (Fr.of HB8), ⟨_, rfl, HO9⟩, HP8.out.below HB8⟩
  ·have hK1 : (K == 1) = false := by rw [beq_eq_false_iff_ne]; exact hk1
   have hk1' : ¬ (peekT nl s.data.toList σ.pos).kind = 1 := by rw [HK.out]; exact hk1
   have HNAt : isTok nl s.data.toList [40] σ.pos = true → Od.atom nl s.data.toList sum σ = Od.paren nl s.data.toList sum { σ with pos := q } := fun hb => by
    unfold Od.atom; simp only; rw [if_neg HK2.out, if_neg HT0.out, if_neg HT1.out, if_neg HT2.out, if_neg HT3.out, if_neg HT4.out, if_neg hk1', if_pos hb, HQ.out]
   have HNAf : isTok nl s.data.toList [40] σ.pos = false → Od.atom nl s.data.toList sum σ = Od.fail nl s.data.toList { σ with pos := q } := fun hb => by
    unfold Od.atom; simp only; rw [if_neg HK2.out, if_neg HT0.out, if_neg HT1.out, if_neg HT2.out, if_neg HT3.out, if_neg HT4.out, if_neg hk1', if_neg (by rw [hb]; decide), HQ.out]
   clear hk1'
   have hT := isTok_x nl s ⟨#[40]⟩ σ.pos
   rw [HK.out, HX.out] at hT
   have hT : isTok nl s.data.toList [40] σ.pos = ((K == 3 || K == 1) && (x.toList == [40])) := by
    have e : (⟨#[40]⟩ : ByteArray).toList = [40] := by rw [ByteArray.toList_eq]
    rw [e] at hT
    exact hT
   have HQN := Aside.mk HPOS.out
   by_cases hk3 : K = 3
   ·subst hk3
    cases hxt : (x.toList == [40]) with
    | true =>
     have HA := Aside.mk (HNAt (by rw [hT, hxt]; rfl))
     clear HNAt HNAf hT
     go_wp2_with fail
     refine (HPAR.out W g B _ HPW.out (HTB.out.fr HFW.out) (by have := HN.out; have := HPOS.out; show s.size < n + 1 + q; omega)).mono ?_
     rintro e V0 hg
     cases hx : Od.paren nl s.data.toList sum { σ with pos := q } with
     | err cc o =>
      have HXa := Aside.mk hx
      rw [hx] at hg
      clear hx
      obtain ⟨hf, rfl⟩ := hg
      have HFe := Aside.mk (HFW.out.trans hf)
      clear hf
      go_wp2_with fail
      rw [HA.out, HXa.out]
      exact ⟨rfl, HFe.out, rfl⟩
     | ok t σ2 =>
      have HXa := Aside.mk hx
      rw [hx] at hg
      clear hx
      obtain ⟨hf, ⟨u, rfl, ho⟩, hP⟩ := hg
      have HFb := Aside.mk (HFW.out.trans hf)
      have HPb := Aside.mk hP
      have HO := Aside.mk (OwnN.mono ho HFW.out.size)
      clear hf hP ho
      go_wp2_with fail
      go_ret
      rw [HA.out, HXa.out]
      exact ⟨HFb.out, ⟨_, rfl, HO.out⟩, HPb.out⟩
    | false =>
     have HA := Aside.mk (HNAf (by rw [hT, hxt]; rfl))
     clear HNAt HNAf hT
     go_wp2_with fail
     refine (fail_any (α := Tr) (fun _ _ _ => True) W g B s nl _ HPW.out).mono ?_
     rintro e V0 ⟨hf2, rfl⟩
     have HF2 := Aside.mk (HFW.out.trans hf2)
     clear hf2
     go_wp2_with fail
     rw [HA.out]
     exact ⟨rfl, HF2.out, rfl⟩
   ·have hK3 : (K == 3) = false := by rw [beq_eq_false_iff_ne]; exact hk3
    have HA := Aside.mk (HNAf (by rw [hT, hK3, hK1]; rfl))
    clear HNAt HNAf hT
    go_wp2_with fail
    refine (fail_any (α := Tr) (fun _ _ _ => True) W g B s nl _ HPW.out).mono ?_
    rintro e V0 ⟨hf2, rfl⟩
    have HF2 := Aside.mk (HFW.out.trans hf2)
    clear hf2
    go_wp2_with fail
    rw [HA.out]
    exact ⟨rfl, HF2.out, rfl⟩
end Go.Proofs.YthcidkidpiaomaaGreatDoor.Od
end
section
set_option linter.unusedVariables false
set_option linter.unusedSimpArgs false
namespace Go.Proofs.YthcidkidpiaomaaGreatDoor.Od
open Go.RowKit Rg
theorem opnd_factor (s : ByteArray) (nl : Bool) (n : Nat) (ih : Meets 93 s nl (Od.sum nl s.data.toList n) n) : Opnd 154 s nl (Od.factor nl s.data.toList (Od.sum nl s.data.toList n) (s.data.toList.length + 1)) (n + 1) where
  meets := fun w g B σ h hT hn => factor_any s nl _ (n + 1) (Gr.sum n) (atom_any s nl _ n (Gr.sum n) ih) (s.data.toList.length + 1) w g B σ h hT hn (by have h1 : s.data.toList.length = s.size := rfl; omega)
  gr := Gr.factor (Gr.sum n) _
  goes := (Goes.factor (Goes.sum n) _).mono (Nat.zero_le _)
  enters := enters_factor
theorem opnd_product (s : ByteArray) (nl : Bool) (n : Nat) (ih : Meets 93 s nl (Od.sum nl s.data.toList n) n) : Opnd 132 s nl (Od.product nl s.data.toList (Od.sum nl s.data.toList n) (s.data.toList.length + 1)) (n + 1) where
  meets := product_any s nl _ (n + 1) (s.data.toList.length + 1) (by have h1 : s.data.toList.length = s.size := rfl; omega) (opnd_factor s nl n ih)
  gr := Gr.product (Gr.sum n) _
  goes := (Goes.product (Goes.sum n) _).mono (Nat.zero_le _)
  enters := enters_product
theorem sum_any (s : ByteArray) (nl : Bool) : ∀ n, Meets 93 s nl (Od.sum nl s.data.toList n) n
  | 0 => fun w g B σ h hT hn => by have := h.le; omega
  | n + 1 => sum_over s nl _ (n + 1) (s.data.toList.length + 1) (by have h1 : s.data.toList.length = s.size := rfl; omega) (opnd_product s nl n (sum_any s nl n))
end Go.Proofs.YthcidkidpiaomaaGreatDoor.Od
end
section
set_option linter.unusedVariables false
set_option linter.unusedSimpArgs false
namespace Go.Proofs.YthcidkidpiaomaaGreatDoor.Od
open Go.RowKit Rg
theorem assert_err (o c : Int) (w : World) : (Instr.typeAssert (.iface 148 (.agg #[.int .i64 o, .int .i64 c])) 20 148 true).run Tryz.prog w = .ok (.tuple #[.agg #[.int .i64 o, .int .i64 c], .bool true]) w := by kernel_rfl
theorem assert_nil (w : World) : (Instr.typeAssert .nilIface 20 148 true).run Tryz.prog w = .ok (.tuple #[.agg #[.int .i64 0, .int .i64 0], .bool false]) w := by kernel_rfl
set_option maxRecDepth 100000 in
set_option maxHeartbeats 8000000 in
theorem handle_nil (p1 p2 : Option Addr) (w : World) :
    Calls Tryz.prog 84 #[.nilIface, .pointer p1, .pointer p2] w fun e w' => e = .returned (.tuple #[]) ∧ Below w.heap.size w w' := by
  have hta := assert_nil
  go_enter Tryz.func84, Tryz.ntmps84
  go_wp2_with fail
  go_end0
  exact ⟨rfl, (Below.refl _ _).alloc (Nat.le_refl _) _⟩
set_option maxRecDepth 100000 in
set_option maxHeartbeats 8000000 in
theorem handle_err (o : Nat) (c : Int) (g1 g2 : Nat) (hne : g1 ≠ g2) (w : World) (x1 x2 : Value) (h1 : w.heap[g1]? = some (.cells #[x1] 3 (0, 0))) (h2 : w.heap[g2]? = some (.cells #[x2] 47 (0, 0))) :
    Calls Tryz.prog 84 #[.iface 148 (.agg #[.int .i64 (o : Nat), .int .i64 c]), .pointer (some ⟨g1, 0, none⟩), .pointer (some ⟨g2, 0, none⟩)] w
      fun e w' => e = .returned (.tuple #[]) ∧ Below (min g1 g2) w w' ∧ w'.heap[g1]? = some (.cells #[.int .i64 (o : Nat)] 3 (0, 0)) ∧ w'.heap[g2]? = some (.cells #[.int .i64 c] 47 (0, 0)) := by
  have hta := assert_err (o : Nat) c
  have hl1 := lt_of h1
  have hl2 := lt_of h2
  have HF : Aside (∀ X, X = (((w.setCell ⟨g1, 0, none⟩ (.int .i64 (o : Nat))).setCell ⟨g2, 0, none⟩ (.int .i64 c)).alloc (.cells #[.int .i64 (o : Nat), .int .i64 c] 148)).drew →
      Below (min g1 g2) w X ∧ X.heap[g1]? = some (.cells #[.int .i64 (o : Nat)] 3 (0, 0)) ∧ X.heap[g2]? = some (.cells #[.int .i64 c] 47 (0, 0))) := ⟨by
    rintro X rfl
    have b1 := row_cell (i := 0) h1 (.int .i64 (o : Nat))
    have b2 : (w.setCell ⟨g1, 0, none⟩ (.int .i64 (o : Nat))).heap[g2]? = some (.cells #[x2] 47 (0, 0)) := by rw [Below.heap_setCell _ _ _ _ (fun e => hne e.symm)]; exact h2
    have d1 : ((w.setCell ⟨g1, 0, none⟩ (.int .i64 (o : Nat))).setCell ⟨g2, 0, none⟩ (.int .i64 c)).heap[g1]? = some (.cells #[.int .i64 (o : Nat)] 3 (0, 0)) := by rw [Below.heap_setCell _ _ _ _ hne]; exact b1
    have d2 : ((w.setCell ⟨g1, 0, none⟩ (.int .i64 (o : Nat))).setCell ⟨g2, 0, none⟩ (.int .i64 c)).heap[g2]? = some (.cells #[.int .i64 c] 47 (0, 0)) := row_cell (i := 0) b2 (.int .i64 c)
    refine ⟨((((Below.refl _ _).setCell (by show min g1 g2 ≤ g1; omega) _).setCell (by show min g1 g2 ≤ g2; omega) _).alloc (by simp only [World.setCell]; simp; omega) _).drew, ?_, ?_⟩
    · show (World.alloc _ _).heap[g1]? = _
      rw [Below.heap_alloc _ _ _ (lt_of d1)]; exact d1
    · show (World.alloc _ _).heap[g2]? = _
      rw [Below.heap_alloc _ _ _ (lt_of d2)]; exact d2⟩
  have e1 : (w.alloc (.cells #[.int .i64 (o : Nat), .int .i64 c] 148)).cell? ⟨g1, 0, none⟩ = some x1 := by rw [World.cell?_alloc_past _ _ _ hl1, cell_of_row _ _ 0 _ _ _ h1]; rfl
  have e2 : (w.alloc (.cells #[.int .i64 (o : Nat), .int .i64 c] 148)).cell? ⟨g2, 0, none⟩ = some x2 := by rw [World.cell?_alloc_past _ _ _ hl2, cell_of_row _ _ 0 _ _ _ h2]; rfl
  have e3 : (w.alloc (.cells #[.int .i64 (o : Nat), .int .i64 c] 148)).cell? ⟨w.heap.size, 0, none⟩ = some (.int .i64 (o : Nat)) := by rw [cell_of_row _ _ 0 _ _ _ (heap_alloc_last w _)]; rfl
  have e4 : (w.alloc (.cells #[.int .i64 (o : Nat), .int .i64 c] 148)).cell? ⟨w.heap.size, 1, none⟩ = some (.int .i64 c) := by rw [cell_of_row _ _ 1 _ _ _ (heap_alloc_last w _)]; rfl
  have c1 : w.cell? ⟨g1, 0, none⟩ = some x1 := by rw [cell_of_row _ _ 0 _ _ _ h1]; rfl
  have c2 : w.cell? ⟨g2, 0, none⟩ = some x2 := by rw [cell_of_row _ _ 0 _ _ _ h2]; rfl
  have hne' : g2 ≠ g1 := fun e => hne e.symm
  have z1 : w.frozen? ⟨g1, 0, none⟩ = false := by simp [World.frozen?, h1]
  have z2 : w.frozen? ⟨g2, 0, none⟩ = false := by simp [World.frozen?, h2]
  clear h1 h2
  go_enter Tryz.func84, Tryz.ntmps84
  go_wp2_with fail
  go_region
  all_goals
    go_wp2_with fail
    go_end0
    exact ⟨rfl, HF.out _ rfl⟩
def CloMode (F : Nat) (g1 g2 : Nat) (x1 x2 : Value) : Prop :=
  (∀ w, CallsD Tryz.prog F #[.pointer (some ⟨g1, 0, none⟩), .pointer (some ⟨g2, 0, none⟩)] .returning w fun e u' w' => e = .returned (.tuple #[]) ∧ u' = .returning ∧ Below w.heap.size w w') ∧
  (∀ (o : Nat) (c : Int) (older : List PanicEntry) w, w.heap[g1]? = some (.cells #[x1] 3 (0, 0)) → w.heap[g2]? = some (.cells #[x2] 47 (0, 0)) →
    CallsD Tryz.prog F #[.pointer (some ⟨g1, 0, none⟩), .pointer (some ⟨g2, 0, none⟩)] (.panicking ({ v := .iface 148 (.agg #[.int .i64 (o : Nat), .int .i64 c]), recovered := false } :: older)) w fun e u' w' =>
      e = .returned (.tuple #[]) ∧ u' = .panicking ({ v := .iface 148 (.agg #[.int .i64 (o : Nat), .int .i64 c]), recovered := true } :: older) ∧
        Below (min g1 g2) w w' ∧ w'.heap[g1]? = some (.cells #[.int .i64 (o : Nat)] 3 (0, 0)) ∧ w'.heap[g2]? = some (.cells #[.int .i64 c] 47 (0, 0)))
set_option maxRecDepth 100000 in
theorem clo_expr (g1 g2 : Nat) (hne : g1 ≠ g2) (x1 x2 : Value) : CloMode 92 g1 g2 x1 x2 := by
  refine ⟨fun w => ?_, fun o c older w h1 h2 => ?_⟩
  · refine callsD_of_wpS Tryz.func92 rfl fun c₀ cs hu => ?_
    apply wpS_region
    simp [wpOpsS, go_sem, recoverD, hu, Tryz.ntmps92, Exit.thenS]
    refine (handle_nil _ _ w).mono ?_
    rintro e w' ⟨rfl, hb⟩
    cases c₀
    simp_all [bodyPostS, results, Tryz.results92]
  · refine callsD_of_wpS Tryz.func92 rfl fun c₀ cs hu => ?_
    apply wpS_region
    simp [wpOpsS, go_sem, recoverD, hu, Tryz.ntmps92, Exit.thenS]
    refine (handle_err o c g1 g2 hne w x1 x2 h1 h2).mono ?_
    rintro e w' ⟨rfl, hb, k1, k2⟩
    simp [bodyPostS, results, Tryz.results92, hb, k1, k2]
set_option maxRecDepth 100000 in
theorem clo_sys (g1 g2 : Nat) (hne : g1 ≠ g2) (x1 x2 : Value) : CloMode 83 g1 g2 x1 x2 := by
  refine ⟨fun w => ?_, fun o c older w h1 h2 => ?_⟩
  · refine callsD_of_wpS Tryz.func83 rfl fun c₀ cs hu => ?_
    apply wpS_region
    simp [wpOpsS, go_sem, recoverD, hu, Tryz.ntmps83, Exit.thenS]
    refine (handle_nil _ _ w).mono ?_
    rintro e w' ⟨rfl, hb⟩
    cases c₀
    simp_all [bodyPostS, results, Tryz.results83]
  · refine callsD_of_wpS Tryz.func83 rfl fun c₀ cs hu => ?_
    apply wpS_region
    simp [wpOpsS, go_sem, recoverD, hu, Tryz.ntmps83, Exit.thenS]
    refine (handle_err o c g1 g2 hne w x1 x2 h1 h2).mono ?_
    rintro e w' ⟨rfl, hb, k1, k2⟩
    simp [bodyPostS, results, Tryz.results83, hb, k1, k2]
end Go.Proofs.YthcidkidpiaomaaGreatDoor.Od
end
