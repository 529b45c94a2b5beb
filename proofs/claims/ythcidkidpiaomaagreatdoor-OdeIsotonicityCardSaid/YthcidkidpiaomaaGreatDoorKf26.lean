/- OgZ -/
import Derived.Test.YthcidkidpiaomaaGreatDoorRows
import Derived.Stop.LaidErr
import Derived.Lib.LaidTab
import Derived.OpenShut
import Derived.LaidMore
import Derived.Lay
import Derived.Test.YthcidkidpiaomaaGreatDoorKf24
section
set_option linter.unusedVariables false
namespace Go.Proofs.YthcidkidpiaomaaGreatDoor.Od
open Go.RowKit
theorem star : "*" ++ "errors.errorString" = "*errors.errorString" := by decide
theorem rowErr (u : TypeId) (h : Tryz.prog.typeName? 3 u = some "*errors.errorString") : u = 234 :=
  typeName_ptr_named (nm := "errors.errorString") (by rw [star]; kernel_rfl) (by kernel_rfl) (by decide) u (by rw [star]; exact h)
def plainL : List (String × DataW Unit) := (Rows.odeParseResultRow.laid).filter fun x => x.2.handleName?.isNone
theorem plainL_is : plainL = [("math/bits.deBruijn32tab", Rows.laid_math_bits_deBruijn32tab), ("math/bits.deBruijn64tab", Rows.laid_math_bits_deBruijn64tab), ("internal/strconv.uint64pow10", Rows.laid_internal_strconv_uint64pow10), ("unicode/utf8.acceptRanges", Rows.laid_unicode_utf8_acceptRanges), ("strconv.ErrRange", Rows.laid_strconv_ErrRange), ("strconv.ErrSyntax", Rows.laid_strconv_ErrSyntax), ("unicode/utf8.first", Rows.laid_unicode_utf8_first)] := by kernel_rfl
theorem of_laidH {W : World} (h : laidMetH Tryz.prog Rows.odeParseResultRow.laid W) : laidMet Tryz.prog plainL W := by
  unfold laidMetH at h
  cases hf : (Rows.odeParseResultRow.laid.filter fun x => x.2.handleName?.isSome) with
  | nil =>
    have : ((Rows.odeParseResultRow.laid.filter fun x => x.2.handleName?.isSome).length == 2) = true := by kernel_rfl
    rw [hf] at this
    cases this
  | cons a r => rw [hf] at h; exact h.1
theorem tabs_of {W : World} (h : laidMet Tryz.prog plainL W) : Fx.Tabs W := by
  rw [plainL_is] at h
  have h3 := h.tail.tail
  refine ⟨Lib.tabIs_of_head (t := 204) (e := 176) (n := 20) Fx.gPow (by kernel_rfl) Tryz.underlying204 Tryz.underlying176 (by kernel_rfl) (by kernel_rfl) h3, ?_⟩
  obtain ⟨a, s, hv, _⟩ := laid_sentinel (tp := 234) (te := 236) (ts := 9) h3.tail.tail Fx.gRange (by kernel_rfl) Tryz.underlying127 rowErr Tryz.underlying234 Tryz.underlying236 rfl rfl Tryz.underlying9 (by kernel_rfl) (by kernel_rfl)
  exact ⟨_, _, hv⟩
noncomputable def nmF (F : Nat) : List UInt8 := ((Tryz.prog.funcs[F]?).map fun f => f.name.toUTF8.data.toList).getD []
def subD (d : DataW (List UInt8)) (i : Nat) : Option (DataW (List UInt8)) := match d with | .agg ds => ds[i]? | _ => none
def Uniq (F : Nat) : Prop := (nmF F).isEmpty = false ∧ ((List.range Tryz.prog.funcs.size).filter fun f => (Tryz.prog.funcs[f]?).any (·.name.toUTF8.data.toList == nmF F)) = [F]
theorem uniq_hh : Uniq 246 := ⟨by kernel_rfl, by kernel_rfl⟩
theorem uniq_ll : Uniq 247 := ⟨by kernel_rfl, by kernel_rfl⟩
theorem uniq_lh : Uniq 248 := ⟨by kernel_rfl, by kernel_rfl⟩
theorem uniq_hl : Uniq 249 := ⟨by kernel_rfl, by kernel_rfl⟩
theorem len_two {α : Type} {l : List α} (h : l.length = 2) : ∃ a b, l = [a, b] := by
  match l, h with
  | [a, b], _ => exact ⟨a, b, rfl⟩
section
variable {W : World} {fuel : Nat} {p : List MemPlace}
theorem func_at {F : Nat} {v : Value} {q : List MemPlace} (hF : Uniq F) (h : DataW.trod (funcToken Tryz.prog) Tryz.prog W 0 (fun _ => true) true fuel 164 [v] = some (.held (nmF F), q)) : v = .func (.func F) #[] #[] := by
  obtain ⟨h1, h2⟩ := hF
  cases hn : nmF F with
  | nil => rw [hn] at h1; cases h1
  | cons b r =>
    rw [hn] at h h2
    exact func_of_trod Tryz.underlying164 h2 h
theorem pair_at {cs : List Value} {F1 F2 : Nat} (h1 : Uniq F1) (h2 : Uniq F2)
    (h : DataW.trod (funcToken Tryz.prog) Tryz.prog W 0 (fun _ => true) true fuel 166 cs = some (.agg [.held (nmF F1), .held (nmF F2)], p)) : cs = [.func (.func F1) #[] #[], .func (.func F2) #[] #[]] := by
  obtain ⟨xs, n, rfl, hx, hl, hn, hel⟩ := DataW.trod_struct Tryz.underlying166 h
  have hl2 : cs.length = 2 := hl.trans (by kernel_rfl)
  have hn2 : xs.length = 2 := hn
  have e0 := hel 0 _ rfl
  have e1 := hel 1 _ rfl
  clear hl hn hel h
  obtain ⟨c0, c1, rfl⟩ := len_two hl2
  obtain ⟨⟨y0, q0⟩, ⟨y1, q1⟩, rfl⟩ := len_two hn2
  simp only [List.map_cons, List.map_nil, Prod.mk.injEq, DataW.agg.injEq, List.cons.injEq, and_true] at hx
  obtain ⟨⟨rfl, rfl⟩, -⟩ := hx
  have e0' : DataW.trod (funcToken Tryz.prog) Tryz.prog W 0 (fun _ => true) true n 164 [c0] = some (.held (nmF F1), q0) := by simpa [show Tryz.prog.cellsOf 164 = 1 from by kernel_rfl] using e0
  have e1' : DataW.trod (funcToken Tryz.prog) Tryz.prog W 0 (fun _ => true) true n 164 [c1] = some (.held (nmF F2), q1) := by simpa [show Tryz.prog.cellsOf 164 = 1 from by kernel_rfl] using e1
  rw [func_at h1 e0', func_at h2 e1']
theorem arr_at {n : Nat} {t e : TypeId} {cs : List Value} {D d : DataW (List UInt8)} (ht : Tryz.prog.underlying t = some (.array n e)) (h : DataW.trod (funcToken Tryz.prog) Tryz.prog W 0 (fun _ => true) true fuel t cs = some (D, p)) (i : Nat) (hd : subD D i = some d) :
    ∃ m q, DataW.trod (funcToken Tryz.prog) Tryz.prog W 0 (fun _ => true) true m e ((cs.drop (i * Tryz.prog.cellsOf e)).take (Tryz.prog.cellsOf e)) = some (d, q) := by
  obtain ⟨xs, m, rfl, hx, hl, hn, hel⟩ := DataW.trod_array ht h
  simp only [Prod.mk.injEq] at hx
  obtain ⟨rfl, -⟩ := hx
  have hd' : (xs.map (·.1))[i]? = some d := hd
  rw [List.getElem?_map] at hd'
  have hi : i < n := by
    rcases Nat.lt_or_ge i n with h | h
    · exact h
    · rw [List.getElem?_eq_none (by omega)] at hd'; cases hd'
  have := hel i hi
  cases hx : xs[i]? with
  | none => rw [hx] at hd'; cases hd'
  | some x =>
    rw [hx] at hd' this
    obtain ⟨y, q⟩ := x
    cases hd'
    exact ⟨m, q, this⟩
theorem table_at {n m : Nat} {t e : TypeId} {cs : List Value} {D : DataW (List UInt8)} (ht : Tryz.prog.underlying t = some (.array n e)) (he : Tryz.prog.underlying e = some (.array m 166))
    (C : Nat) (hc : Tryz.prog.cellsOf e = C) (hC : m * 2 = C) (h : DataW.trod (funcToken Tryz.prog) Tryz.prog W 0 (fun _ => true) true fuel t cs = some (D, p)) (i k F1 F2 : Nat) (h1 : Uniq F1) (h2 : Uniq F2) (hk : k < m)
    (hd : ((subD D i).bind (subD · k)) = some (.agg [.held (nmF F1), .held (nmF F2)])) :
    cs[i * C + k * 2]? = some (.func (.func F1) #[] #[]) ∧ cs[i * C + k * 2 + 1]? = some (.func (.func F2) #[] #[]) := by
  rw [Option.bind_eq_some_iff] at hd
  obtain ⟨d1, hd1, hd2⟩ := hd
  obtain ⟨m1, q1, r1⟩ := arr_at ht h i hd1
  obtain ⟨m2, q2, r2⟩ := arr_at he r1 k hd2
  have h2' := pair_at h1 h2 r2
  rw [show Tryz.prog.cellsOf 166 = 2 from by kernel_rfl, hc] at h2'
  have a0 := congrArg (·[0]?) h2'
  have a1 := congrArg (·[1]?) h2'
  simp only [List.getElem?_take, List.getElem?_drop, List.getElem?_cons_zero, List.getElem?_cons_succ, show (0:Nat) < 2 from by omega, show (1:Nat) < 2 from by omega, if_true] at a0 a1
  rw [if_pos (by omega)] at a0 a1
  exact ⟨by rw [← a0]; congr 1, by rw [← a1]; congr 1⟩
end
def prodD : DataW Unit := match Rows.laid_armillary_interval_products (H := Unit) with | .iface _ d => d | d => d
def quotD : DataW Unit := match Rows.laid_armillary_interval_quotients (H := Unit) with | .iface _ d => d | d => d
theorem ends_of {W : World} (h : laidMetH Tryz.prog Rows.odeParseResultRow.laid W) : Ends W := by
  have p1 := h.funcs (n := "armillary/interval.products") (d := prodD) (by
    show _ ∈ [_, _, _, _, _, _, _, _, _]
    simp only [List.mem_cons]
    exact Or.inr (Or.inr (Or.inr (Or.inr (Or.inr (Or.inr (Or.inl rfl)))))))
  have p2 := h.funcs (n := "armillary/interval.quotients") (d := quotD) (by
    show _ ∈ [_, _, _, _, _, _, _, _, _]
    simp only [List.mem_cons]
    exact Or.inr (Or.inr (Or.inr (Or.inr (Or.inr (Or.inr (Or.inr (Or.inl rfl))))))))
  obtain ⟨g, t, cs, fuel, p, hg, ht, hv, hd⟩ := p1
  obtain rfl := Option.some.inj ((show Tryz.prog.globalNamed "armillary/interval.products" = some 0 by kernel_rfl).symm.trans hg)
  obtain rfl := Option.some.inj ((show (Tryz.prog.globals[0]?).map (·.type) = some 168 by kernel_rfl).symm.trans ht)
  obtain ⟨g', t', cs', fuel', p', hg', ht', hv', hd'⟩ := p2
  obtain rfl := Option.some.inj ((show Tryz.prog.globalNamed "armillary/interval.quotients" = some 1 by kernel_rfl).symm.trans hg')
  obtain rfl := Option.some.inj ((show (Tryz.prog.globals[1]?).map (·.type) = some 171 by kernel_rfl).symm.trans ht')
  have P := fun i k F1 F2 h1 h2 hk hd2 => table_at (n := 3) (m := 3) Tryz.underlying168 Tryz.underlying167 6 (by kernel_rfl) rfl hd i k F1 F2 h1 h2 hk hd2
  have Q := fun i k F1 F2 h1 h2 hk hd2 => table_at (n := 3) (m := 2) Tryz.underlying171 Tryz.underlying170 4 (by kernel_rfl) rfl hd' i k F1 F2 h1 h2 hk hd2
  have c1 : ∀ j, W.cell? ⟨0, j, none⟩ = cs.toList[j]? := fun j => by
    have := World.var?_cell hg hv j
    rw [this]; simp
  have c2 : ∀ j, W.cell? ⟨1, j, none⟩ = cs'.toList[j]? := fun j => by
    have := World.var?_cell hg' hv' j
    rw [this]; simp
  have a00 := P 0 0 _ _ uniq_hh uniq_ll (by decide) (by kernel_rfl)
  have a01 := P 0 1 _ _ uniq_lh uniq_ll (by decide) (by kernel_rfl)
  have a02 := P 0 2 _ _ uniq_lh uniq_hl (by decide) (by kernel_rfl)
  have a10 := P 1 0 _ _ uniq_hl uniq_ll (by decide) (by kernel_rfl)
  have a12 := P 1 2 _ _ uniq_lh uniq_hh (by decide) (by kernel_rfl)
  have a20 := P 2 0 _ _ uniq_hl uniq_lh (by decide) (by kernel_rfl)
  have a21 := P 2 1 _ _ uniq_hl uniq_hh (by decide) (by kernel_rfl)
  have a22 := P 2 2 _ _ uniq_ll uniq_hh (by decide) (by kernel_rfl)
  have b00 := Q 0 0 _ _ uniq_hl uniq_lh (by decide) (by kernel_rfl)
  have b01 := Q 0 1 _ _ uniq_ll uniq_hh (by decide) (by kernel_rfl)
  have b10 := Q 1 0 _ _ uniq_hh uniq_lh (by decide) (by kernel_rfl)
  have b11 := Q 1 1 _ _ uniq_ll uniq_hl (by decide) (by kernel_rfl)
  have b20 := Q 2 0 _ _ uniq_hh uniq_ll (by decide) (by kernel_rfl)
  have b21 := Q 2 1 _ _ uniq_lh uniq_hl (by decide) (by kernel_rfl)
  constructor
  · intro j F hm
    rw [c1 j]
    simp only [prodL, List.mem_cons, List.not_mem_nil, or_false, Prod.mk.injEq] at hm
    rcases hm with ⟨rfl, rfl⟩ | ⟨rfl, rfl⟩ | ⟨rfl, rfl⟩ | ⟨rfl, rfl⟩ | ⟨rfl, rfl⟩ | ⟨rfl, rfl⟩ | ⟨rfl, rfl⟩ | ⟨rfl, rfl⟩ | ⟨rfl, rfl⟩ | ⟨rfl, rfl⟩ | ⟨rfl, rfl⟩ | ⟨rfl, rfl⟩ | ⟨rfl, rfl⟩ | ⟨rfl, rfl⟩ | ⟨rfl, rfl⟩ | ⟨rfl, rfl⟩
    · exact a00.1
    · exact a00.2
    · exact a01.1
    · exact a01.2
    · exact a02.1
    · exact a02.2
    · exact a10.1
    · exact a10.2
    · exact a12.1
    · exact a12.2
    · exact a20.1
    · exact a20.2
    · exact a21.1
    · exact a21.2
    · exact a22.1
    · exact a22.2
  · intro j F hm
    rw [c2 j]
    simp only [quotL, List.mem_cons, List.not_mem_nil, or_false, Prod.mk.injEq] at hm
    rcases hm with ⟨rfl, rfl⟩ | ⟨rfl, rfl⟩ | ⟨rfl, rfl⟩ | ⟨rfl, rfl⟩ | ⟨rfl, rfl⟩ | ⟨rfl, rfl⟩ | ⟨rfl, rfl⟩ | ⟨rfl, rfl⟩ | ⟨rfl, rfl⟩ | ⟨rfl, rfl⟩ | ⟨rfl, rfl⟩ | ⟨rfl, rfl⟩
    · exact b00.1
    · exact b00.2
    · exact b01.1
    · exact b01.2
    · exact b10.1
    · exact b10.2
    · exact b11.1
    · exact b11.2
    · exact b20.1
    · exact b20.2
    · exact b21.1
    · exact b21.2
theorem lb_of_laid {W : World} (h : laidMetH Tryz.prog Rows.odeParseResultRow.laid W) : Lb W := ⟨tabs_of (of_laidH h), ends_of h⟩
def fcell (F : Nat) : Value := .func (.func F) #[] #[]
def prodCells : Array Value := ((List.range 18).map fun j => match prodL.find? (·.1 == j) with | some x => fcell x.2 | none => .nilFunc).toArray
def quotCells : Array Value := ((List.range 12).map fun j => match quotL.find? (·.1 == j) with | some x => fcell x.2 | none => .nilFunc).toArray
noncomputable def start0 (os : Os) : World :=
  let w := World.holding Tryz.prog os ⟨#[], #[], []⟩
  { w with heap := ⟨Lay.setRows w.heap.toList [(0, prodCells.toList), (1, quotCells.toList)]⟩ }
noncomputable def start (os : Os) : World := (start0 os).layVars Tryz.prog plainL
theorem start_os (os : Os) : (start os).os = os := by
  unfold start
  rw [World.layVars_os]
  rfl
theorem start_plain (os : Os) (args : Array Value) : laidMet Tryz.prog plainL ((start os).forCall (fun _ _ => 0) ⟨#[], args, []⟩).memory := by
  have e1 : (plainL.filter fun x => (plainL.map (·.1)).contains x.1) = plainL := List.filter_eq_self.2 fun x hx => List.contains_iff_mem.2 (List.mem_map.2 ⟨x, hx, rfl⟩)
  have e2 : (plainL.filter fun x => !(plainL.map (·.1)).contains x.1) = [] := List.filter_eq_nil_iff.2 fun x hx => by rw [List.contains_iff_mem.2 (List.mem_map.2 ⟨x, hx, rfl⟩)]; simp
  have h : laidMet Tryz.prog plainL (start os) := laidMet_layVars (w0 := start0 os) (plainL.map (·.1)) [] (by rw [e1]; rfl) (by rw [e1]; kernel_rfl) (by rw [e1]; kernel_rfl) (by rw [e2]; exact LaidIn.none)
  exact h.of_heap (by simp [World.memory, World.forCall, Input.heap])
theorem start_met (os : Os) (args : Array Value) : laidMetH Tryz.prog Rows.odeParseResultRow.laid ((start os).forCall (fun _ _ => 0) ⟨#[], args, []⟩).memory :=
  laidMetH_of_parts3 (fuel := 8) (start_plain os args) (by kernel_rfl) (by kernel_rfl)
theorem start_shaped (os : Os) : (start os).Shaped Tryz.prog := World.shaped_of_ZipB (by kernel_rfl) (by kernel_rfl)
#print axioms lb_of_laid
#print axioms start_met
#print axioms start_shaped
end Go.Proofs.YthcidkidpiaomaaGreatDoor.Od
end
