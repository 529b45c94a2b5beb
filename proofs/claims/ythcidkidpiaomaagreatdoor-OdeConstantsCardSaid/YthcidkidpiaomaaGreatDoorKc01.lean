/- OhB OhD OgZ OhC -/
import Derived.Carry
import Derived.ChangeSlices
import Derived.ChangeArms
import Derived.ChangeOld
import Derived.OpenShut
import Derived.ShutString
import Derived.Lib.SmallJoins
import Derived.Test.YthcidkidpiaomaaGreatDoorRows
import Derived.Stop.LaidErr
import Derived.Lib.LaidTab
import Derived.LaidMore
import Derived.Lay
import Derived.Test.YthcidkidpiaomaaGreatDoorKb34
import Derived.Test.YthcidkidpiaomaaGreatDoorKb23
import Derived.Test.YthcidkidpiaomaaGreatDoorKb27
import Derived.Test.YthcidkidpiaomaaGreatDoorKb29
import Derived.Test.YthcidkidpiaomaaGreatDoorKb33
import Derived.Test.YthcidkidpiaomaaGreatDoorKb10
section
set_option linter.unusedVariables false
namespace Go.Proofs.YthcidkidpiaomaaGreatDoor.Od
open Go.RowKit Go.ChangeShapes Go.WideShapes Go.ChangeAt
section
variable {H : Type} {enc : TypeId × Value → H}
variable {W : World} {n : Nat}
set_option maxRecDepth 100000 in
theorem open_iv {r : Reach} {b0 : Nat} {v : Value} {d : DataW H} {p : List MemPlace} (hv : Value.okWide Tryz.prog W r b0 29 v) (h : DataW.Trod enc Tryz.prog W 0 (fun _ => true) true 29 v d p) : ∃ a b : Int, v = .agg #[.int .i64 a, .int .i64 b] ∧ (Lit.int .i64 a).wf = true ∧ (Lit.int .i64 b).wf = true := by
  obtain ⟨cs, rfl, hsz⟩ := okWide_struct Tryz.underlying29 hv
  obtain ⟨n, hn⟩ := h
  obtain ⟨a, b, e, w0, w1⟩ := iv_of (n := n) (cs := cs.toList) (x := (d, p)) hn
  refine ⟨a, b, ?_, w0, w1⟩
  congr 1
  exact Array.toList_inj.1 e
end
end Go.Proofs.YthcidkidpiaomaaGreatDoor.Od
end
section
set_option linter.unusedVariables false
set_option linter.unusedSimpArgs false
namespace Go.Proofs.YthcidkidpiaomaaGreatDoor.Od
open Go.RowKit Rg
set_option maxRecDepth 100000 in
set_option maxHeartbeats 8000000 in
theorem rSmall_ex (l h : Int) : ∃ a, okI a ∧ ∀ w, Calls Tryz.prog 67 #[.agg #[.int .i64 l, .int .i64 h]] w fun e w' => e = .returned (ivV a) ∧ Below w.heap.size w w' := by
  obtain ⟨A, hA⟩ : ∃ A, l.tmod 16777216 = A := ⟨_, rfl⟩
  obtain ⟨M, hM⟩ : ∃ M, h.tmod 16777216 = M := ⟨_, rfl⟩
  have hA1 : -16777216 < A ∧ A < 16777216 := by rw [← hA]; exact tmod_bd l 16777216 (by omega)
  have hM1 : -16777216 < M ∧ M < 16777216 := by rw [← hM]; exact tmod_bd h 16777216 (by omega)
  refine ⟨(min A M, max A M), by
    show okIv _ _ = true
    unfold okIv maxV
    simp only [Bool.or_eq_true, Bool.and_eq_true, beq_iff_eq, decide_eq_true_eq]
    omega, fun w => ?_⟩
  have HA := Aside.mk (And.intro hA hM)
  clear hA hM hA1 hM1
  go_enter Tryz.func67, Tryz.ntmps67
  go_wp2_with fail
  have hr0 : ((w.alloc (.cells #[.int .i64 l, .int .i64 h] 29)).alloc (.cells #[.int .i64 0, .int .i64 0] 29)).heap[w.heap.size]? = some (.cells #[.int .i64 l, .int .i64 h] 29 (0, 0)) := by rw [Below.heap_alloc _ _ _ (by simp)]; exact heap_alloc_last _ _
  have hr1 : ((w.alloc (.cells #[.int .i64 l, .int .i64 h] 29)).alloc (.cells #[.int .i64 0, .int .i64 0] 29)).heap[w.heap.size + 1]? = some (.cells #[.int .i64 0, .int .i64 0] 29 (0, 0)) := by
    have := heap_alloc_last (w.alloc (.cells #[.int .i64 l, .int .i64 h] 29)) (.cells #[.int .i64 0, .int .i64 0] 29)
    simpa using this
  have hbl : Below w.heap.size w ((w.alloc (.cells #[.int .i64 l, .int .i64 h] 29)).alloc (.cells #[.int .i64 0, .int .i64 0] 29)) := ((Below.refl _ _).alloc (Nat.le_refl _) _).alloc (by simp) _
  generalize (w.alloc (.cells #[.int .i64 l, .int .i64 h] 29)).alloc (.cells #[.int .i64 0, .int .i64 0] 29) = W at hr0 hr1 hbl ⊢
  have c0 : W.cell? ⟨w.heap.size, 0, none⟩ = some (.int .i64 l) := by rw [cell_of_row _ _ 0 _ _ _ hr0]; rfl
  have c1 : W.cell? ⟨w.heap.size, 1, none⟩ = some (.int .i64 h) := by rw [cell_of_row _ _ 1 _ _ _ hr0]; rfl
  obtain ⟨g, hg⟩ : ∃ g, w.heap.size = g := ⟨_, rfl⟩
  have HG := Aside.mk hg
  have HB := Aside.mk hbl
  rw [hg] at c0 c1 hr1
  have HR1 := Aside.mk hr1
  simp only [hg]
  clear hg hr0 hr1 hbl
  go_region
  simp only [HA.out.1, HA.out.2]
  go_wp2_with (first | (refine wpList_store_iv rfl (.tmp 2) (.tmp 17) rfl (g + 1) _ _ rfl rfl _ _ HR1.out ?_; intro w3 hr3 hb3 hk3 hs3))
  exact ret_iv rfl rfl hr3 ⟨rfl, HB.out.drew.trans (hb3.mono (by have := HG.out; omega))⟩
set_option maxRecDepth 100000 in
set_option maxHeartbeats 8000000 in
theorem rMadeI_ex (l h : Int) : ∃ a, okI a ∧ ∀ w, Calls Tryz.prog 21 #[.agg #[.int .i64 l, .int .i64 h]] w fun e w' => e = .returned (ivV a) ∧ Below w.heap.size w w' := by
  obtain ⟨s, hs, hsm⟩ := rSmall_ex l h
  have HSM := Aside.mk hsm
  obtain ⟨X, hX⟩ : ∃ X, bits .and .i64 l 31 = X := ⟨_, rfl⟩
  have key : ∀ (a : Iv), okI a → (okIv l h = true → a = (l, h)) → (okIv l h = false → X = 7 → a = ent) → (okIv l h = false → X ≠ 7 → a = s) →
      ∀ w, Calls Tryz.prog 21 #[.agg #[.int .i64 l, .int .i64 h]] w fun e w' => e = .returned (ivV a) ∧ Below w.heap.size w w' := by
    intro a ha e1 e2 e3 w
    have hr0 : ((w.alloc (.cells #[.int .i64 l, .int .i64 h] 29)).alloc (.cells #[.int .i64 0, .int .i64 0] 29)).heap[w.heap.size]? = some (.cells #[.int .i64 l, .int .i64 h] 29 (0, 0)) := by rw [Below.heap_alloc _ _ _ (by simp)]; exact heap_alloc_last _ _
    have hr1 : ((w.alloc (.cells #[.int .i64 l, .int .i64 h] 29)).alloc (.cells #[.int .i64 0, .int .i64 0] 29)).heap[w.heap.size + 1]? = some (.cells #[.int .i64 0, .int .i64 0] 29 (0, 0)) := by
      have := heap_alloc_last (w.alloc (.cells #[.int .i64 l, .int .i64 h] 29)) (.cells #[.int .i64 0, .int .i64 0] 29)
      simpa using this
    have hbl : Below w.heap.size w ((w.alloc (.cells #[.int .i64 l, .int .i64 h] 29)).alloc (.cells #[.int .i64 0, .int .i64 0] 29)) := ((Below.refl _ _).alloc (Nat.le_refl _) _).alloc (by simp) _
    go_enter Tryz.func21, Tryz.ntmps21
    go_wp2_with fail
    generalize (w.alloc (.cells #[.int .i64 l, .int .i64 h] 29)).alloc (.cells #[.int .i64 0, .int .i64 0] 29) = W at hr0 hr1 hbl ⊢
    obtain ⟨g, hg⟩ : ∃ g, w.heap.size = g := ⟨_, rfl⟩
    have HG := Aside.mk hg
    rw [hg] at hr0 hr1
    simp only [hg]
    clear hg
    refine (rIvValid_any l h W).mono ?_
    rintro e w2 ⟨rfl, hb2⟩
    have HR1 := Aside.mk ((hb2.block _ (heap_lt hr1)).trans hr1)
    have hr02 := (hb2.block _ (heap_lt hr0)).trans hr0
    have HB := Aside.mk (hbl.trans (hb2.mono hbl.size))
    have c0 : w2.cell? ⟨g, 0, none⟩ = some (.int .i64 l) := by rw [cell_of_row _ _ 0 _ _ _ hr02]; rfl
    have c1 : w2.cell? ⟨g, 1, none⟩ = some (.int .i64 h) := by rw [cell_of_row _ _ 1 _ _ _ hr02]; rfl
    clear hr0 hr1 hbl hb2 hr02
    cases hv : okIv l h with
    | true =>
      obtain rfl := e1 hv
      clear e1 e2 e3 hv hX
      go_wp2_with (first | (refine wpList_store_iv rfl (.tmp 2) (.tmp 5) rfl (g + 1) _ _ rfl rfl _ _ HR1.out ?_; intro w3 hr3 hb3 hk3 hs3))
      exact ret_iv rfl rfl hr3 ⟨rfl, HB.out.trans (hb3.mono (by have := HG.out; omega))⟩
    | false =>
      by_cases h7 : X = 7
      · obtain rfl := e2 hv h7
        have h7' : (X == 7) = true := by simpa using h7
        clear e1 e2 e3 hv h7
        go_wp2_with fail
        refine (rEntire_any w2).mono ?_
        rintro e w4 ⟨rfl, hb4⟩
        have HR4 := Aside.mk ((hb4.block _ (heap_lt HR1.out)).trans HR1.out)
        have HB4 := Aside.mk (HB.out.trans (hb4.mono HB.out.size))
        clear hb4 c0 c1
        unfold ivV ent
        go_wp2_with (first | (refine wpList_store_iv rfl (.tmp 2) (.tmp 10) rfl (g + 1) _ _ rfl rfl _ _ HR4.out ?_; intro w3 hr3 hb3 hk3 hs3))
        exact ret_iv rfl rfl hr3 ⟨rfl, HB4.out.trans (hb3.mono (by have := HG.out; omega))⟩
      · obtain rfl := e3 hv h7
        have h7' : (X == 7) = false := by simpa using h7
        clear e1 e2 e3 hv h7
        go_wp2_with fail
        refine (HSM.out w2).mono ?_
        rintro e w4 ⟨rfl, hb4⟩
        have HR4 := Aside.mk ((hb4.block _ (heap_lt HR1.out)).trans HR1.out)
        have HB4 := Aside.mk (HB.out.trans (hb4.mono HB.out.size))
        clear hb4 c0 c1
        unfold ivV
        go_wp2_with (first | (refine wpList_store_iv rfl (.tmp 2) (.tmp 12) rfl (g + 1) _ _ rfl rfl _ _ HR4.out ?_; intro w3 hr3 hb3 hk3 hs3))
        exact ret_iv rfl rfl hr3 ⟨rfl, HB4.out.trans (hb3.mono (by have := HG.out; omega))⟩
  cases hv : okIv l h with
  | true => exact ⟨(l, h), hv, key (l, h) hv (fun _ => rfl) (fun e => by rw [hv] at e; cases e) (fun e => by rw [hv] at e; cases e)⟩
  | false =>
    by_cases h7 : X = 7
    · exact ⟨ent, by show okIv _ _ = true; decide, key ent (by show okIv _ _ = true; decide) (fun e => by rw [hv] at e; cases e) (fun _ _ => rfl) (fun _ e => absurd h7 e)⟩
    · exact ⟨s, hs, key s hs (fun e => by rw [hv] at e; cases e) (fun _ e => absurd e h7) (fun _ _ => rfl)⟩
end Go.Proofs.YthcidkidpiaomaaGreatDoor.Od
end
section
set_option linter.unusedVariables false
namespace Go.Proofs.YthcidkidpiaomaaGreatDoor.Od
open Go.RowKit
theorem star : "*" ++ "errors.errorString" = "*errors.errorString" := by decide
theorem rowErr (u : TypeId) (h : Tryz.prog.typeName? 3 u = some "*errors.errorString") : u = 234 :=
  typeName_ptr_named (nm := "errors.errorString") (by rw [star]; kernel_rfl) (by kernel_rfl) (by decide) u (by rw [star]; exact h)
def plainL : List (String × DataW Unit) := (Rows.odeParseResultRow.laid).filter fun x => x.2.handleName?.isNone
theorem plainL_is : plainL = [("math/bits.deBruijn32tab", Rows.laid_math_bits_deBruijn32tab), ("math/bits.deBruijn64tab", Rows.laid_math_bits_deBruijn64tab), ("internal/strconv.uint64pow10", Rows.laid_internal_strconv_uint64pow10), ("unicode/utf8.acceptRanges", Rows.laid_unicode_utf8_acceptRanges), ("strconv.ErrRange", Rows.laid_strconv_ErrRange), ("strconv.ErrSyntax", Rows.laid_strconv_ErrSyntax), ("unicode/utf8.first", Rows.laid_unicode_utf8_first)] := by kernel_rfl
theorem of_laidH {W : World} (h : laidMetH Tryz.prog Rows.odeParseResultRow.laid W) : laidMet Tryz.prog plainL W := by
  unfold laidMetH at h
  cases hf : (Rows.odeParseResultRow.laid.filter fun x => x.2.handleName?.isSome) with
  | nil =>
    have : ((Rows.odeParseResultRow.laid.filter fun x => x.2.handleName?.isSome).length == 2) = true := by kernel_rfl
    rw [hf] at this
    cases this
  | cons a r => rw [hf] at h; exact h.1
theorem tabs_of {W : World} (h : laidMet Tryz.prog plainL W) : Fx.Tabs W := by
  rw [plainL_is] at h
  have h3 := h.tail.tail
  refine ⟨Lib.tabIs_of_head (t := 204) (e := 176) (n := 20) Fx.gPow (by kernel_rfl) Tryz.underlying204 Tryz.underlying176 (by kernel_rfl) (by kernel_rfl) h3, ?_⟩
  obtain ⟨a, s, hv, _⟩ := laid_sentinel (tp := 234) (te := 236) (ts := 9) h3.tail.tail Fx.gRange (by kernel_rfl) Tryz.underlying127 rowErr Tryz.underlying234 Tryz.underlying236 rfl rfl Tryz.underlying9 (by kernel_rfl) (by kernel_rfl)
  exact ⟨_, _, hv⟩
noncomputable def nmF (F : Nat) : List UInt8 := ((Tryz.prog.funcs[F]?).map fun f => f.name.toUTF8.data.toList).getD []
def subD (d : DataW (List UInt8)) (i : Nat) : Option (DataW (List UInt8)) := match d with | .agg ds => ds[i]? | _ => none
def Uniq (F : Nat) : Prop := (nmF F).isEmpty = false ∧ ((List.range Tryz.prog.funcs.size).filter fun f => (Tryz.prog.funcs[f]?).any (·.name.toUTF8.data.toList == nmF F)) = [F]
theorem uniq_hh : Uniq 246 := ⟨by kernel_rfl, by kernel_rfl⟩
theorem uniq_ll : Uniq 247 := ⟨by kernel_rfl, by kernel_rfl⟩
theorem uniq_lh : Uniq 248 := ⟨by kernel_rfl, by kernel_rfl⟩
theorem uniq_hl : Uniq 249 := ⟨by kernel_rfl, by kernel_rfl⟩
theorem len_two {α : Type} {l : List α} (h : l.length = 2) : ∃ a b, l = [a, b] := by
  match l, h with
  | [a, b], _ => exact ⟨a, b, rfl⟩
section
variable {W : World} {fuel : Nat} {p : List MemPlace}
theorem func_at {F : Nat} {v : Value} {q : List MemPlace} (hF : Uniq F) (h : DataW.trod (funcToken Tryz.prog) Tryz.prog W 0 (fun _ => true) true fuel 164 [v] = some (.held (nmF F), q)) : v = .func (.func F) #[] #[] := by
  obtain ⟨h1, h2⟩ := hF
  cases hn : nmF F with
  | nil => rw [hn] at h1; cases h1
  | cons b r =>
    rw [hn] at h h2
    exact func_of_trod Tryz.underlying164 h2 h
theorem pair_at {cs : List Value} {F1 F2 : Nat} (h1 : Uniq F1) (h2 : Uniq F2)
    (h : DataW.trod (funcToken Tryz.prog) Tryz.prog W 0 (fun _ => true) true fuel 166 cs = some (.agg [.held (nmF F1), .held (nmF F2)], p)) : cs = [.func (.func F1) #[] #[], .func (.func F2) #[] #[]] := by
  obtain ⟨xs, n, rfl, hx, hl, hn, hel⟩ := DataW.trod_struct Tryz.underlying166 h
  have hl2 : cs.length = 2 := hl.trans (by kernel_rfl)
  have hn2 : xs.length = 2 := hn
  have e0 := hel 0 _ rfl
  have e1 := hel 1 _ rfl
  clear hl hn hel h
  obtain ⟨c0, c1, rfl⟩ := len_two hl2
  obtain ⟨⟨y0, q0⟩, ⟨y1, q1⟩, rfl⟩ := len_two hn2
  simp only [List.map_cons, List.map_nil, Prod.mk.injEq, DataW.agg.injEq, List.cons.injEq, and_true] at hx
  obtain ⟨⟨rfl, rfl⟩, -⟩ := hx
  have e0' : DataW.trod (funcToken Tryz.prog) Tryz.prog W 0 (fun _ => true) true n 164 [c0] = some (.held (nmF F1), q0) := by simpa [show Tryz.prog.cellsOf 164 = 1 from by kernel_rfl] using e0
  have e1' : DataW.trod (funcToken Tryz.prog) Tryz.prog W 0 (fun _ => true) true n 164 [c1] = some (.held (nmF F2), q1) := by simpa [show Tryz.prog.cellsOf 164 = 1 from by kernel_rfl] using e1
  rw [func_at h1 e0', func_at h2 e1']
theorem arr_at {n : Nat} {t e : TypeId} {cs : List Value} {D d : DataW (List UInt8)} (ht : Tryz.prog.underlying t = some (.array n e)) (h : DataW.trod (funcToken Tryz.prog) Tryz.prog W 0 (fun _ => true) true fuel t cs = some (D, p)) (i : Nat) (hd : subD D i = some d) :
    ∃ m q, DataW.trod (funcToken Tryz.prog) Tryz.prog W 0 (fun _ => true) true m e ((cs.drop (i * Tryz.prog.cellsOf e)).take (Tryz.prog.cellsOf e)) = some (d, q) := by
  obtain ⟨xs, m, rfl, hx, hl, hn, hel⟩ := DataW.trod_array ht h
  simp only [Prod.mk.injEq] at hx
  obtain ⟨rfl, -⟩ := hx
  have hd' : (xs.map (·.1))[i]? = some d := hd
  rw [List.getElem?_map] at hd'
  have hi : i < n := by
    rcases Nat.lt_or_ge i n with h | h
    · exact h
    · rw [List.getElem?_eq_none (by omega)] at hd'; cases hd'
  have := hel i hi
  cases hx : xs[i]? with
  | none => rw [hx] at hd'; cases hd'
  | some x =>
    rw [hx] at hd' this
    obtain ⟨y, q⟩ := x
    cases hd'
    exact ⟨m, q, this⟩
theorem table_at {n m : Nat} {t e : TypeId} {cs : List Value} {D : DataW (List UInt8)} (ht : Tryz.prog.underlying t = some (.array n e)) (he : Tryz.prog.underlying e = some (.array m 166))
    (C : Nat) (hc : Tryz.prog.cellsOf e = C) (hC : m * 2 = C) (h : DataW.trod (funcToken Tryz.prog) Tryz.prog W 0 (fun _ => true) true fuel t cs = some (D, p)) (i k F1 F2 : Nat) (h1 : Uniq F1) (h2 : Uniq F2) (hk : k < m)
    (hd : ((subD D i).bind (subD · k)) = some (.agg [.held (nmF F1), .held (nmF F2)])) :
    cs[i * C + k * 2]? = some (.func (.func F1) #[] #[]) ∧ cs[i * C + k * 2 + 1]? = some (.func (.func F2) #[] #[]) := by
  rw [Option.bind_eq_some_iff] at hd
  obtain ⟨d1, hd1, hd2⟩ := hd
  obtain ⟨m1, q1, r1⟩ := arr_at ht h i hd1
  obtain ⟨m2, q2, r2⟩ := arr_at he r1 k hd2
  have h2' := pair_at h1 h2 r2
  rw [show Tryz.prog.cellsOf 166 = 2 from by kernel_rfl, hc] at h2'
  have a0 := congrArg (·[0]?) h2'
  have a1 := congrArg (·[1]?) h2'
  simp only [List.getElem?_take, List.getElem?_drop, List.getElem?_cons_zero, List.getElem?_cons_succ, show (0:Nat) < 2 from by omega, show (1:Nat) < 2 from by omega, if_true] at a0 a1
  rw [if_pos (by omega)] at a0 a1
  exact ⟨by rw [← a0]; congr 1, by rw [← a1]; congr 1⟩
end
def prodD : DataW Unit := match Rows.laid_armillary_interval_products (H := Unit) with | .iface _ d => d | d => d
def quotD : DataW Unit := match Rows.laid_armillary_interval_quotients (H := Unit) with | .iface _ d => d | d => d
theorem ends_of {W : World} (h : laidMetH Tryz.prog Rows.odeParseResultRow.laid W) : Ends W := by
  have p1 := h.funcs (n := "armillary/interval.products") (d := prodD) (by
    show _ ∈ [_, _, _, _, _, _, _, _, _]
    simp only [List.mem_cons]
    exact Or.inr (Or.inr (Or.inr (Or.inr (Or.inr (Or.inr (Or.inl rfl)))))))
  have p2 := h.funcs (n := "armillary/interval.quotients") (d := quotD) (by
    show _ ∈ [_, _, _, _, _, _, _, _, _]
    simp only [List.mem_cons]
    exact Or.inr (Or.inr (Or.inr (Or.inr (Or.inr (Or.inr (Or.inr (Or.inl rfl))))))))
  obtain ⟨g, t, cs, fuel, p, hg, ht, hv, hd⟩ := p1
  obtain rfl := Option.some.inj ((show Tryz.prog.globalNamed "armillary/interval.products" = some 0 by kernel_rfl).symm.trans hg)
  obtain rfl := Option.some.inj ((show (Tryz.prog.globals[0]?).map (·.type) = some 168 by kernel_rfl).symm.trans ht)
  obtain ⟨g', t', cs', fuel', p', hg', ht', hv', hd'⟩ := p2
  obtain rfl := Option.some.inj ((show Tryz.prog.globalNamed "armillary/interval.quotients" = some 1 by kernel_rfl).symm.trans hg')
  obtain rfl := Option.some.inj ((show (Tryz.prog.globals[1]?).map (·.type) = some 171 by kernel_rfl).symm.trans ht')
  have P := fun i k F1 F2 h1 h2 hk hd2 => table_at (n := 3) (m := 3) Tryz.underlying168 Tryz.underlying167 6 (by kernel_rfl) rfl hd i k F1 F2 h1 h2 hk hd2
  have Q := fun i k F1 F2 h1 h2 hk hd2 => table_at (n := 3) (m := 2) Tryz.underlying171 Tryz.underlying170 4 (by kernel_rfl) rfl hd' i k F1 F2 h1 h2 hk hd2
  have c1 : ∀ j, W.cell? ⟨0, j, none⟩ = cs.toList[j]? := fun j => by
    have := World.var?_cell hg hv j
    rw [this]; simp
  have c2 : ∀ j, W.cell? ⟨1, j, none⟩ = cs'.toList[j]? := fun j => by
    have := World.var?_cell hg' hv' j
    rw [this]; simp
  have a00 := P 0 0 _ _ uniq_hh uniq_ll (by decide) (by kernel_rfl)
  have a01 := P 0 1 _ _ uniq_lh uniq_ll (by decide) (by kernel_rfl)
  have a02 := P 0 2 _ _ uniq_lh uniq_hl (by decide) (by kernel_rfl)
  have a10 := P 1 0 _ _ uniq_hl uniq_ll (by decide) (by kernel_rfl)
  have a12 := P 1 2 _ _ uniq_lh uniq_hh (by decide) (by kernel_rfl)
  have a20 := P 2 0 _ _ uniq_hl uniq_lh (by decide) (by kernel_rfl)
  have a21 := P 2 1 _ _ uniq_hl uniq_hh (by decide) (by kernel_rfl)
  have a22 := P 2 2 _ _ uniq_ll uniq_hh (by decide) (by kernel_rfl)
  have b00 := Q 0 0 _ _ uniq_hl uniq_lh (by decide) (by kernel_rfl)
  have b01 := Q 0 1 _ _ uniq_ll uniq_hh (by decide) (by kernel_rfl)
  have b10 := Q 1 0 _ _ uniq_hh uniq_lh (by decide) (by kernel_rfl)
  have b11 := Q 1 1 _ _ uniq_ll uniq_hl (by decide) (by kernel_rfl)
  have b20 := Q 2 0 _ _ uniq_hh uniq_ll (by decide) (by kernel_rfl)
  have b21 := Q 2 1 _ _ uniq_lh uniq_hl (by decide) (by kernel_rfl)
  constructor
  · intro j F hm
    rw [c1 j]
    simp only [prodL, List.mem_cons, List.not_mem_nil, or_false, Prod.mk.injEq] at hm
    rcases hm with ⟨rfl, rfl⟩ | ⟨rfl, rfl⟩ | ⟨rfl, rfl⟩ | ⟨rfl, rfl⟩ | ⟨rfl, rfl⟩ | ⟨rfl, rfl⟩ | ⟨rfl, rfl⟩ | ⟨rfl, rfl⟩ | ⟨rfl, rfl⟩ | ⟨rfl, rfl⟩ | ⟨rfl, rfl⟩ | ⟨rfl, rfl⟩ | ⟨rfl, rfl⟩ | ⟨rfl, rfl⟩ | ⟨rfl, rfl⟩ | ⟨rfl, rfl⟩
    · exact a00.1
    · exact a00.2
    · exact a01.1
    · exact a01.2
    · exact a02.1
    · exact a02.2
    · exact a10.1
    · exact a10.2
    · exact a12.1
    · exact a12.2
    · exact a20.1
    · exact a20.2
    · exact a21.1
    · exact a21.2
    · exact a22.1
    · exact a22.2
  · intro j F hm
    rw [c2 j]
    simp only [quotL, List.mem_cons, List.not_mem_nil, or_false, Prod.mk.injEq] at hm
    rcases hm with ⟨rfl, rfl⟩ | ⟨rfl, rfl⟩ | ⟨rfl, rfl⟩ | ⟨rfl, rfl⟩ | ⟨rfl, rfl⟩ | ⟨rfl, rfl⟩ | ⟨rfl, rfl⟩ | ⟨rfl, rfl⟩ | ⟨rfl, rfl⟩ | ⟨rfl, rfl⟩ | ⟨rfl, rfl⟩ | ⟨rfl, rfl⟩
    · exact b00.1
    · exact b00.2
    · exact b01.1
    · exact b01.2
    · exact b10.1
    · exact b10.2
    · exact b11.1
    · exact b11.2
    · exact b20.1
    · exact b20.2
    · exact b21.1
    · exact b21.2
theorem lb_of_laid {W : World} (h : laidMetH Tryz.prog Rows.odeParseResultRow.laid W) : Lb W := ⟨tabs_of (of_laidH h), ends_of h⟩
def fcell (F : Nat) : Value := .func (.func F) #[] #[]
def prodCells : Array Value := ((List.range 18).map fun j => match prodL.find? (·.1 == j) with | some x => fcell x.2 | none => .nilFunc).toArray
def quotCells : Array Value := ((List.range 12).map fun j => match quotL.find? (·.1 == j) with | some x => fcell x.2 | none => .nilFunc).toArray
noncomputable def start0 (os : Os) : World :=
  let w := World.holding Tryz.prog os ⟨#[], #[], []⟩
  { w with heap := ⟨Lay.setRows w.heap.toList [(0, prodCells.toList), (1, quotCells.toList)]⟩ }
noncomputable def start (os : Os) : World := (start0 os).layVars Tryz.prog plainL
theorem start_os (os : Os) : (start os).os = os := by
  unfold start
  rw [World.layVars_os]
  rfl
theorem start_plain (os : Os) (args : Array Value) : laidMet Tryz.prog plainL ((start os).forCall (fun _ _ => 0) ⟨#[], args, []⟩).memory := by
  have e1 : (plainL.filter fun x => (plainL.map (·.1)).contains x.1) = plainL := List.filter_eq_self.2 fun x hx => List.contains_iff_mem.2 (List.mem_map.2 ⟨x, hx, rfl⟩)
  have e2 : (plainL.filter fun x => !(plainL.map (·.1)).contains x.1) = [] := List.filter_eq_nil_iff.2 fun x hx => by rw [List.contains_iff_mem.2 (List.mem_map.2 ⟨x, hx, rfl⟩)]; simp
  have h : laidMet Tryz.prog plainL (start os) := laidMet_layVars (w0 := start0 os) (plainL.map (·.1)) [] (by rw [e1]; rfl) (by rw [e1]; kernel_rfl) (by rw [e1]; kernel_rfl) (by rw [e2]; exact LaidIn.none)
  exact h.of_heap (by simp [World.memory, World.forCall, Input.heap])
theorem start_met (os : Os) (args : Array Value) : laidMetH Tryz.prog Rows.odeParseResultRow.laid ((start os).forCall (fun _ _ => 0) ⟨#[], args, []⟩).memory :=
  laidMetH_of_parts3 (fuel := 8) (start_plain os args) (by kernel_rfl) (by kernel_rfl)
theorem start_shaped (os : Os) : (start os).Shaped Tryz.prog := World.shaped_of_ZipB (by kernel_rfl) (by kernel_rfl)
#print axioms lb_of_laid
#print axioms start_met
#print axioms start_shaped
end Go.Proofs.YthcidkidpiaomaaGreatDoor.Od
end
section
set_option linter.unusedVariables false
namespace Go.Proofs.YthcidkidpiaomaaGreatDoor.Od
open Fx (dn up)
def dec2 (n : Nat) : List UInt8 := [UInt8.ofNat (48 + n / 100 / 100 % 10), UInt8.ofNat (48 + n / 100 / 10 % 10), UInt8.ofNat (48 + n / 100 % 10), 46, UInt8.ofNat (48 + n / 10 % 10), UInt8.ofNat (48 + n % 10)]
def loD (n : Nat) : Int := dn ((n : Int) * 65536) 100
def hiD (n : Nat) : Int := up ((n : Int) * 65536) 100
theorem isDg48 (u : Nat) (h : u < 10) : isDg (UInt8.ofNat (48 + u)) = true := by
  have e := Fx.toNat48 u h
  unfold isDg
  simp only [Bool.and_eq_true, decide_eq_true_eq, UInt8.le_iff_toNat_le, e]
  exact ⟨by show 48 ≤ 48 + u; omega, by show 48 + u ≤ 57; omega⟩
theorem dig48 (u : Nat) (h : u < 10) : Fx.dig (UInt8.ofNat (48 + u)) = true := by
  have := isDg48 u h
  unfold isDg at this
  unfold Fx.dig
  simpa [UInt8.le_iff_toNat_le] using this
theorem loD_bd (n : Nat) : loD n * 100 ≤ n * 65536 ∧ n * 65536 < loD n * 100 + 100 ∧ (n : Int) * 65536 ≤ hiD n * 100 ∧ hiD n * 100 < n * 65536 + 100 ∧ loD n ≤ hiD n ∧ hiD n ≤ loD n + 1 := by
  unfold loD hiD dn up
  split <;> omega
theorem dec2_txt (n : Nat) : dec2 n = Fx.txt false [UInt8.ofNat (48 + n / 100 / 100 % 10), UInt8.ofNat (48 + n / 100 / 10 % 10), UInt8.ofNat (48 + n / 100 % 10)] [UInt8.ofNat (48 + n / 10 % 10), UInt8.ofNat (48 + n % 10)] := by
  unfold Fx.txt dec2
  simp
theorem dec2_parse {n : Nat} (h : n < 100000) : ∃ x, Fx.parseL (dec2 n) = (loD n, hiD n, x, 0) := by
  have b1 := Fx.toNat48 (n / 100 / 100 % 10) (by omega)
  have b2 := Fx.toNat48 (n / 100 / 10 % 10) (by omega)
  have b3 := Fx.toNat48 (n / 100 % 10) (by omega)
  have b4 := Fx.toNat48 (n / 10 % 10) (by omega)
  have b5 := Fx.toNat48 (n % 10) (by omega)
  have hD : ∀ c ∈ [UInt8.ofNat (48 + n / 100 / 100 % 10), UInt8.ofNat (48 + n / 100 / 10 % 10), UInt8.ofNat (48 + n / 100 % 10)], Fx.dig c = true := by
    intro c hc
    simp only [List.mem_cons, List.not_mem_nil, or_false] at hc
    rcases hc with rfl | rfl | rfl <;> exact dig48 _ (by omega)
  have hF : ∀ c ∈ [UInt8.ofNat (48 + n / 10 % 10), UInt8.ofNat (48 + n % 10)], Fx.dig c = true := by
    intro c hc
    simp only [List.mem_cons, List.not_mem_nil, or_false] at hc
    rcases hc with rfl | rfl <;> exact dig48 _ (by omega)
  have hN : Fx.decN [UInt8.ofNat (48 + n / 100 / 100 % 10), UInt8.ofNat (48 + n / 100 / 10 % 10), UInt8.ofNat (48 + n / 100 % 10)] 0 = n / 100 := by
    simp only [Fx.decN, b1, b2, b3]
    omega
  have hV : Fx.val ([UInt8.ofNat (48 + n / 10 % 10), UInt8.ofNat (48 + n % 10)].map fun b => (b.toNat : Int) - 48) = ((n % 100 : Nat) : Int) := by
    simp only [List.map_cons, List.map_nil, Fx.val, b4, b5, List.length_cons, List.length_nil]
    omega
  have hlo : Fx.txtLo (n / 100) [UInt8.ofNat (48 + n / 10 % 10), UInt8.ofNat (48 + n % 10)] = loD n := by
    unfold Fx.txtLo loD dn
    rw [hV]
    simp only [List.length_cons, List.length_nil]
    omega
  have hhi : Fx.txtHi (n / 100) [UInt8.ofNat (48 + n / 10 % 10), UInt8.ofNat (48 + n % 10)] = hiD n := by
    unfold Fx.txtHi hiD up
    rw [hV]
    simp only [List.length_cons, List.length_nil]
    clear b1 b2 b3 b4 b5 hV hD hF hN hlo
    split <;> split <;> omega
  have hb := loD_bd n
  clear b1 b2 b3 b4 b5 hV
  have key : ∀ (D F : List UInt8), dec2 n = Fx.txt false D F → (∀ c ∈ D, Fx.dig c = true) → D ≠ [] → (∀ c ∈ F, Fx.dig c = true) → Fx.decN D 0 = n / 100 → Fx.txtLo (n / 100) F = loD n → Fx.txtHi (n / 100) F = hiD n → ∃ x, Fx.parseL (dec2 n) = (loD n, hiD n, x, 0) := by
    intro D F e h1 h2 h3 h4 h5 h6
    have hp := Fx.parse_txt (neg := false) (D := D) (F := F) h1 h2 h3 (by rw [h4]; omega) (by rw [h4, h6]; omega)
    rw [h4, h5, h6, if_neg (by decide), ← e] at hp
    exact ⟨0, hp⟩
  exact key [UInt8.ofNat (48 + n / 100 / 100 % 10), UInt8.ofNat (48 + n / 100 / 10 % 10), UInt8.ofNat (48 + n / 100 % 10)] [UInt8.ofNat (48 + n / 10 % 10), UInt8.ofNat (48 + n % 10)] (dec2_txt n) hD (List.cons_ne_nil _ _) hF hN hlo hhi
section
variable {nl : Bool} {L : List UInt8} {vars : List (List UInt8)} {p q : Nat} {R : List UInt8}
theorem tok_dec (n : Nat) (h : At L p (dec2 n ++ R)) (hR : Stop R) : tokAt nl L p = ⟨2, p, p + 6⟩ := by
  have := tok_num (nl := nl) (q := p) (D := [UInt8.ofNat (48 + n / 100 / 100 % 10), UInt8.ofNat (48 + n / 100 / 10 % 10), UInt8.ofNat (48 + n / 100 % 10)]) (F := [UInt8.ofNat (48 + n / 10 % 10), UInt8.ofNat (48 + n % 10)]) (L := L) (R := R) (by simpa [dec2] using h)
    (by intro c hc
        simp only [List.mem_cons, List.not_mem_nil, or_false] at hc
        rcases hc with rfl | rfl | rfl <;> exact isDg48 _ (by omega)) (by simp)
    (by intro c hc
        simp only [List.mem_cons, List.not_mem_nil, or_false] at hc
        rcases hc with rfl | rfl <;> exact isDg48 _ (by omega)) hR
  simpa using this
theorem ws_dec (n : Nat) (h : At L p (dec2 n ++ R)) : skp isWs L p = p := ws_at (c := UInt8.ofNat (48 + n / 100 / 100 % 10)) h (dg_kind (isDg48 _ (by omega))).2.1
theorem not_dec (n : Nat) (h : At L p (dec2 n ++ R)) : NotCh nl L p 45 := NotCh.at (c := UInt8.ofNat (48 + n / 100 / 100 % 10)) h (by
  intro e
  have := isDg48 (n / 100 / 100 % 10) (by omega)
  rw [e] at this
  revert this; decide)
theorem number_dec {n : Nat} (hn : n < 100000) (h : At L p (dec2 n ++ R)) (hR : Stop R) (σ : PS) (hp : skp isWs L σ.pos = p) : Od.number nl L σ = .ok (loD n, hiD n) ⟨p + 6, σ.names, σ.bad⟩ := by
  obtain ⟨x, hx⟩ := dec2_parse hn
  unfold Od.number peekT
  simp only
  rw [hp, tok_dec n h hR]
  simp only [if_true]
  rw [show sub L p (p + 6) = dec2 n from sub_at (x := dec2 n) h, hx]
  simp
theorem signed_dec {n : Nat} (hn : n < 100000) (h : At L p (dec2 n ++ R)) (hR : Stop R) (σ : PS) (hp : skp isWs L σ.pos = p) : Od.signed nl L σ = .ok (loD n, hiD n) ⟨p + 6, σ.names, σ.bad⟩ := by
  have hpp : skp isWs L p = p := by rw [← hp]; exact skp_idem isWs L _
  unfold Od.signed
  rw [bind_ok (not_dec n h σ hp), if_neg (by decide)]
  exact number_dec hn h hR { σ with pos := p } hpp
theorem dec_reads {S : Pr Tr} {n : Nat} (hn : n < 100000) (h : At L p (dec2 n ++ R)) (hR : Stop R) : Reads L vars (Od.atom nl L S) p (p + 6) (.num (loD n) (hiD n)) := by
  intro σ hp
  refine ⟨[], ?_, rfl⟩
  have hpp : skp isWs L p = p := by rw [← hp]; exact skp_idem isWs L _
  have hpk : peekT nl L σ.pos = ⟨2, p, p + 6⟩ := by unfold peekT; rw [hp, tok_dec n h hR]
  unfold Od.atom
  rw [hpk]
  simp only [if_true]
  rw [map_ok (number_dec hn h hR { σ with pos := p } hpp), List.append_nil]
  rfl
theorem bounds_reads {S : Pr Tr} {n m : Nat} (hn : n < 100000) (hm : m < 100000) (h : At L p (91 :: (dec2 n ++ 44 :: (dec2 m ++ 93 :: R)))) : Reads L vars (Od.atom nl L S) p (p + 15) (.num (loD n) (hiD m)) := by
  intro σ hp
  refine ⟨[], ?_, rfl⟩
  have a1 := h.next1
  have a2 := a1.next
  have a3 := a2.next1
  have a4 := a3.next
  rw [atom_ch h (Or.inr rfl) σ hp, if_pos rfl, List.append_nil]
  unfold Od.bounds
  rw [bind_ok (signed_dec hn a1 (stop_ch (Or.inl (by decide))) { σ with pos := p + 1 } (ws_dec n a1)), bind_ok (expect_ch (IsCh.of a2 (by decide)) _ (ws_at a2 (by decide))), bind_ok (signed_dec hm a3 (stop_ch (Or.inl (by decide))) _ (ws_dec m a3)), bind_ok (expect_ch (IsCh.of a4 (by decide)) _ (ws_at a4 (by decide)))]
  rfl
theorem const1 {n m : Nat} (hn : n < 100000) (hm : m < 100000) (hnm : n ≤ m) : parseExpr (91 :: (dec2 n ++ 44 :: (dec2 m ++ [93]))) [] = .ok (flat (.num (loD n) (hiD m))) ∧ okT [] (.num (loD n) (hiD m)) := by
  have b1 := loD_bd n
  have b2 := loD_bd m
  have hok : okT [] (.num (loD n) (hiD m)) := by
    show okIv _ _ = true
    unfold okIv maxV
    simp only [Bool.or_eq_true, Bool.and_eq_true, beq_iff_eq, decide_eq_true_eq]
    omega
  refine ⟨?_, hok⟩
  obtain ⟨L, hL⟩ : ∃ L, 91 :: (dec2 n ++ 44 :: (dec2 m ++ [93])) = L := ⟨_, rfl⟩
  rw [hL]
  have a0 : At L 0 (91 :: (dec2 n ++ 44 :: (dec2 m ++ 93 :: []))) := by rw [hL]; exact At.zero
  have hlen : L.length = 15 := by rw [← hL]; rfl
  have hr := bounds_reads (nl := false) (vars := []) (S := Od.sum false L L.length) hn hm a0
  have hend : At L 15 [] := by rw [← hlen]; exact ⟨by simp, Nat.le_refl _⟩
  refine parseExpr_reads (p := 0) (by omega) List.nodup_nil (ws_at a0 (by decide)) ?_ hok (by simp [flat])
  rw [sum_eq, hlen]
  refine Reads.chain (P1 (Reads.factor (NotCh.at a0 (by decide)) (by rw [hlen] at hr; exact hr)) (wfin hend) (NotCh.fin hend) (NotCh.fin hend)) ?_
  rw [wfin hend]
  exact ReadsC.stop (NotCh.fin hend) (NotCh.fin hend)
theorem const2 {n m : Nat} (hn : n < 100000) (hm : m < 100000) : parseExpr (dec2 n ++ 43 :: dec2 m) [] = .ok (flat (.bin 7 (.num (loD n) (hiD n)) (.num (loD m) (hiD m)))) ∧ okT [] (.bin 7 (.num (loD n) (hiD n)) (.num (loD m) (hiD m))) := by
  have b1 := loD_bd n
  have b2 := loD_bd m
  have hok : okT [] (.bin 7 (.num (loD n) (hiD n)) (.num (loD m) (hiD m))) := by
    refine ⟨by omega, ?_, ?_⟩ <;>
    · show okIv _ _ = true
      unfold okIv maxV
      simp only [Bool.or_eq_true, Bool.and_eq_true, beq_iff_eq, decide_eq_true_eq]
      omega
  refine ⟨?_, hok⟩
  obtain ⟨L, hL⟩ : ∃ L, dec2 n ++ 43 :: dec2 m = L := ⟨_, rfl⟩
  rw [hL]
  have a0 : At L 0 (dec2 n ++ 43 :: (dec2 m ++ [])) := by rw [List.append_nil, hL]; exact At.zero
  have hlen : L.length = 13 := by rw [← hL]; rfl
  have a1 : At L 6 (43 :: (dec2 m ++ [])) := by have := a0.next; exact this
  have a2 : At L 7 (dec2 m ++ []) := a1.next1
  have hend : At L 13 [] := by have := a2.next; exact this
  have h1 := dec_reads (nl := false) (vars := []) (S := Od.sum false L L.length) hn a0 (stop_ch (Or.inl (by decide)))
  have h2 := dec_reads (nl := false) (vars := []) (S := Od.sum false L L.length) hm a2 stop_nil
  refine parseExpr_reads (p := 0) (by omega) List.nodup_nil (ws_dec n a0) ?_ hok (by simp [flat])
  rw [sum_eq, hlen]
  rw [hlen] at h1 h2
  have hA := P1 (k := 13) (Reads.factor (not_dec n a0) h1) (ws_at a1 (by decide)) (NotCh.at a1 (by decide)) (NotCh.at a1 (by decide))
  have hB := P1 (k := 13) (Reads.factor (not_dec m a2) h2) (wfin hend) (NotCh.fin hend) (NotCh.fin hend)
  refine Reads.chain hA ?_
  rw [ws_at a1 (by decide)]
  exact ReadsC.first (k := 13) (IsCh.of a1 (by decide)) (by rw [ws_dec m a2]; exact hB) (by rw [wfin hend]; exact ReadsC.stop (k := 12) (NotCh.fin hend) (NotCh.fin hend))
end
theorem ev_const2 (n m : Nat) (hn : n < 100000) (hm : m < 100000) (x : List Iv) (t : Iv) : ev x t (.bin 7 (.num (loD n) (hiD n)) (.num (loD m) (hiD m))) = (loD n + loD m, hiD n + hiD m) := by
  have b1 := loD_bd n
  have b2 := loD_bd m
  have h1 : isE (loD n, hiD n) = false := by unfold isE maxV; simp only [Bool.and_eq_false_iff, beq_eq_false_iff_ne]; left; show loD n ≠ -2147483648; omega
  have h2 : isE (loD m, hiD m) = false := by unfold isE maxV; simp only [Bool.and_eq_false_iff, beq_eq_false_iff_ne]; left; show loD m ≠ -2147483648; omega
  show binI 7 (loD n, hiD n) (loD m, hiD m) = _
  unfold binI
  rw [if_pos rfl]
  unfold addI
  rw [h1, h2, if_neg (by decide)]
  unfold newI maxV
  rw [if_pos ⟨by show -2147483648 < loD n + loD m; omega, by show loD n + loD m < 2147483648; omega, by show -2147483648 < hiD n + hiD m; omega, by show hiD n + hiD m < 2147483648; omega⟩]
end Go.Proofs.YthcidkidpiaomaaGreatDoor.Od
end
