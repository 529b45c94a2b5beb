/- OdC OdD LayTwo OdE OdG OdH OdR -/
import Derived.Shelf.Spec.SlicesGrow
import Derived.Shelf.Strings.SlTrimAscii
import Derived.Test.YthcidkidpiaomaaGreatDoorProg
import Derived.Maps.AppendAt
import Derived.Test.YthcidkidpiaomaaGreatDoorKf06
import Derived.Test.YthcidkidpiaomaaGreatDoorKf04
section
set_option linter.unusedVariables false
set_option linter.unusedSimpArgs false
namespace Go.Proofs.YthcidkidpiaomaaGreatDoor.Od
open Go.RowKit Rg
theorem sub_extract (s : ByteArray) (a b : Nat) : (s.extract a b).data.toList = sub s.data.toList a b := by
  rw [ByteArray.data_extract, Array.toList_extract, List.extract_eq_take_drop]; rfl
def tokX (s : ByteArray) (t : Tok) : ByteArray := if t.kind = 0 ∨ t.kind = 4 then ⟨#[]⟩ else s.extract t.lo t.hi
theorem tokX_list (s : ByteArray) (t : Tok) : (tokX s t).data.toList = t.txt s.data.toList := by
  unfold tokX Tok.txt
  split
  · rfl
  · exact sub_extract _ _ _
theorem tokV_eq (s : ByteArray) (t : Tok) : tokV s t = .agg #[.int .i64 t.kind, .string (tokX s t), .int .i64 (t.lo : Nat)] := rfl
theorem isTok_x (nl : Bool) (s t : ByteArray) (p : Nat) : isTok nl s.data.toList t.data.toList p = (((peekT nl s.data.toList p).kind == 3 || (peekT nl s.data.toList p).kind == 1) && ((tokX s (peekT nl s.data.toList p)).toList == t.toList)) := by
  unfold isTok
  simp only
  rw [← tokX_list, ByteArray.toList_eq, ByteArray.toList_eq]
theorem got_no {α : Type} {w w1 : World} {g : Nat} {B : Nat → Prop} {s : ByteArray} {nl : Bool} {σ' : PS} {a : α} {u : Value} {val : α → Value → World → Prop} (o : Obj) (hf : FrQ B w w1) (hP : Par w1 g B s nl σ') (h3 : Same3 g w w1) (hv : val a u (w1.alloc o)) :
    GotQ w g B s nl (.ok a σ') val (.returned u) (w1.alloc o) ∧ Same3 g w (w1.alloc o) :=
  ⟨⟨hf.trans (Fr.of ((Below.refl _ _).alloc (Nat.le_refl _) _)), ⟨u, rfl, hv⟩, hP.below ((Below.refl _ _).alloc (Nat.le_refl _) _)⟩, by
    obtain ⟨v, hh, -⟩ := hP.here
    unfold Same3 at *
    rw [← h3, ((Below.refl w1.heap.size w1).alloc (Nat.le_refl _) o).cell (p := ⟨g, 3, none⟩) (lt_of hh)]⟩
theorem got_yes {α : Type} {w w1 : World} {g : Nat} {B : Nat → Prop} {s : ByteArray} {nl : Bool} {σ' : PS} {a : α} {u : Value} {val : α → Value → World → Prop} (o : Obj) (q : Nat) (x : Int) (hx : x = (q : Nat)) (hq : q ≤ s.size) (hge : σ'.pos ≤ q) (hf : FrQ B w w1) (hP : Par w1 g B s nl σ') (h3 : Same3 g w w1) (hv : val a u ((w1.setCell ⟨g, 1, none⟩ (.int .i64 x)).alloc o)) :
    GotQ w g B s nl (.ok a { σ' with pos := q }) val (.returned u) ((w1.setCell ⟨g, 1, none⟩ (.int .i64 x)).alloc o) ∧ Same3 g w ((w1.setCell ⟨g, 1, none⟩ (.int .i64 x)).alloc o) := by
  subst hx
  obtain ⟨v, hh, -⟩ := hP.here
  refine ⟨⟨(hf.trans (hP.frQ 1 _)).trans (Fr.of ((Below.refl _ _).alloc (Nat.le_refl _) _)), ⟨u, rfl, hv⟩, (hP.set q hq hge).below ((Below.refl _ _).alloc (Nat.le_refl _) _)⟩, ?_⟩
  have hr := row_cell (i := 1) hh (.int .i64 (q : Nat))
  unfold Same3 at *
  rw [← h3, cell_of_row w1 _ 3 _ _ _ hh, ((Below.refl _ (w1.setCell ⟨g, 1, none⟩ (.int .i64 (q : Nat)))).alloc (Nat.le_refl _) o).cell (p := ⟨g, 3, none⟩) (lt_of hr), cell_of_row _ _ 3 _ _ _ hr]; rfl
theorem Par.cells {w : World} {g : Nat} {B : Nat → Prop} {s : ByteArray} {nl : Bool} {σ : PS} (h : Par w g B s nl σ) : w.cell? ⟨g, 0, none⟩ = some (.string s) ∧ w.cell? ⟨g, 1, none⟩ = some (.int .i64 (σ.pos : Nat)) ∧ w.cell? ⟨g, 4, none⟩ = some (.bool σ.bad) ∧ g < w.heap.size ∧ w.frozen? ⟨g, 1, none⟩ = false ∧ w.frozen? ⟨g, 3, none⟩ = false ∧ w.frozen? ⟨g, 4, none⟩ = false := by
  obtain ⟨v, hh, ho⟩ := h.here
  exact ⟨by rw [cell_of_row w _ 0 _ _ _ hh]; rfl, by rw [cell_of_row w _ 1 _ _ _ hh]; rfl, by rw [cell_of_row w _ 4 _ _ _ hh]; rfl, lt_of hh, by simp [World.frozen?, hh], by simp [World.frozen?, hh], by simp [World.frozen?, hh]⟩
set_option maxRecDepth 100000 in
set_option maxHeartbeats 8000000 in
theorem accept_anyQ (w : World) (g : Nat) (B : Nat → Prop) (s : ByteArray) (nl : Bool) (σ : PS) (h : Par w g B s nl σ) (t : ByteArray) :
    Calls Tryz.prog 126 #[.pointer (some ⟨g, 0, none⟩), .string t] w fun e w' => GotQ w g B s nl (Od.accept nl s.data.toList t.data.toList σ) (fun b u _ => u = .bool b) e w' ∧ Same3 g w w' := by
  have HP := Aside.mk h
  clear h
  go_enter Tryz.func126, Tryz.ntmps126
  go_wp2_with fail
  refine (peek_anyQ w g B s nl σ HP.out).mono ?_
  rintro e w1 ⟨rfl, hf, hP, h3⟩
  have HF := Aside.mk hf
  have HP1 := Aside.mk hP
  have HS3 := Aside.mk h3
  clear hf hP h3
  have HT := Aside.mk (isTok_x nl s t σ.pos)
  have HHI := Aside.mk (fun h => (⟨(isTok_hi (nl := nl) (t := t.data.toList) (show σ.pos ≤ s.data.toList.length from HP.out.le) h).1, (peekT_ok nl s.data.toList σ.pos HP.out.le).len⟩ : (peekT nl s.data.toList σ.pos).lo + t.data.toList.length = (peekT nl s.data.toList σ.pos).hi ∧ (peekT nl s.data.toList σ.pos).hi ≤ s.data.toList.length))
  have HA : Aside (Od.accept nl s.data.toList t.data.toList σ = if isTok nl s.data.toList t.data.toList σ.pos then .ok true { σ with pos := (peekT nl s.data.toList σ.pos).lo + t.data.toList.length } else .ok false { σ with pos := (peekT nl s.data.toList σ.pos).lo }) := ⟨rfl⟩
  rw [tokV_eq]
  obtain ⟨K, hK⟩ : ∃ K, (peekT nl s.data.toList σ.pos).kind = K := ⟨_, rfl⟩
  obtain ⟨x, hx⟩ : ∃ x, tokX s (peekT nl s.data.toList σ.pos) = x := ⟨_, rfl⟩
  obtain ⟨q, hq⟩ : ∃ q, (peekT nl s.data.toList σ.pos).lo = q := ⟨_, rfl⟩
  rw [hK, hx] at HT
  rw [hq] at HP1 HHI HA
  rw [hK, hx, hq]
  clear hK hx hq
  obtain ⟨-, c1, -, hlg, hfz, -, -⟩ := HP1.out.cells
  simp only at c1
  have hcases : (K = 3 ∨ K = 1) ∨ (K ≠ 3 ∧ K ≠ 1) := by omega
  rcases hcases with hk | ⟨h3, h1⟩
  · cases hxt : (x.toList == t.toList) with
    | true =>
      have HY : Aside (isTok nl s.data.toList t.data.toList σ.pos = true) := ⟨by rw [HT.out, hxt]; rcases hk with rfl | rfl <;> rfl⟩
      have hb := HHI.out HY.out
      have hqt : (q : Int) + (t.size : Int) ≤ (s.size : Int) := by have h1 : t.data.toList.length = t.size := rfl; have h2 : s.data.toList.length = s.size := rfl; omega
      have hs8 : (s.size : Int) ≤ 8000 := by have := HP1.out.len; omega
      have HQ : Aside (q + t.data.toList.length ≤ s.size) := ⟨by have h1 : t.data.toList.length = t.size := rfl; omega⟩
      clear hb HT
      rcases hk with rfl | rfl
      all_goals
        go_wp2_with fail
        go_ret
        rw [HA.out, if_pos HY.out]
        exact got_yes (val := fun b u _ => u = .bool b) (a := true) (u := .bool true) (σ' := { σ with pos := q }) _ (q + t.data.toList.length) _ (by show (q : Int) + (t.size : Int) = ((q + t.size : Nat) : Int); omega) HQ.out (by show q ≤ q + t.data.toList.length; omega) HF.out HP1.out HS3.out rfl
    | false =>
      have HY : Aside (isTok nl s.data.toList t.data.toList σ.pos = false) := ⟨by rw [HT.out, hxt]; simp⟩
      clear HT
      rcases hk with rfl | rfl
      all_goals
        go_wp2_with fail
        go_ret
        rw [HA.out, if_neg (by rw [HY.out]; simp)]
        exact got_no _ HF.out HP1.out HS3.out rfl
  · have b3 : (K == 3) = false := by rw [beq_eq_false_iff_ne]; exact h3
    have b1 : (K == 1) = false := by rw [beq_eq_false_iff_ne]; exact h1
    have HY : Aside (isTok nl s.data.toList t.data.toList σ.pos = false) := ⟨by rw [HT.out, b3, b1]; rfl⟩
    clear HT
    go_wp2_with fail
    go_ret
    rw [HA.out, if_neg (by rw [HY.out]; simp)]
    exact got_no _ HF.out HP1.out HS3.out rfl
theorem accept_any (w : World) (g : Nat) (B : Nat → Prop) (s : ByteArray) (nl : Bool) (σ : PS) (h : Par w g B s nl σ) (t : ByteArray) :
    Calls Tryz.prog 126 #[.pointer (some ⟨g, 0, none⟩), .string t] w fun e w' => Got w g B s nl (Od.accept nl s.data.toList t.data.toList σ) (fun b u _ => u = .bool b) e w' :=
  (accept_anyQ w g B s nl σ h t).mono fun e w' h => h.1.got
set_option maxRecDepth 100000 in
set_option maxHeartbeats 8000000 in
theorem fail_any {α : Type} (val : α → Value → World → Prop) (w : World) (g : Nat) (B : Nat → Prop) (s : ByteArray) (nl : Bool) (σ : PS) (h : Par w g B s nl σ) :
    Calls Tryz.prog 95 #[.pointer (some ⟨g, 0, none⟩)] w fun e w' => Got w g B s nl (Od.fail nl s.data.toList σ : Res α) val e w' := by
  have HP := Aside.mk h
  clear h
  go_enter Tryz.func95, Tryz.ntmps95
  go_wp2_with fail
  refine (peek_any w g B s nl σ HP.out).mono ?_
  rintro e w1 ⟨rfl, hf, hP⟩
  have HF := Aside.mk hf
  clear hf hP
  have HA : Aside ((Od.fail nl s.data.toList σ : Res α) = .err (if (peekT nl s.data.toList σ.pos).kind = 0 then 71 else 70) (peekT nl s.data.toList σ.pos).lo) := ⟨rfl⟩
  rw [tokV_eq]
  obtain ⟨K, hK⟩ : ∃ K, (peekT nl s.data.toList σ.pos).kind = K := ⟨_, rfl⟩
  obtain ⟨x, hx⟩ : ∃ x, tokX s (peekT nl s.data.toList σ.pos) = x := ⟨_, rfl⟩
  obtain ⟨q, hq⟩ : ∃ q, (peekT nl s.data.toList σ.pos).lo = q := ⟨_, rfl⟩
  rw [hK, hq] at HA
  rw [hK, hx, hq]
  clear hK hx hq
  by_cases h0 : K = 0
  · subst h0
    go_wp2_with fail
    rw [HA.out]
    exact ⟨rfl, HF.out.trans (Fr.of ((Below.refl _ _).alloc (Nat.le_refl _) _)), rfl⟩
  · have b0 : (K == 0) = false := by rw [beq_eq_false_iff_ne]; exact h0
    have HN := Aside.mk h0
    clear h0
    go_wp2_with fail
    rw [HA.out, if_neg HN.out]
    exact ⟨rfl, HF.out.trans (Fr.of ((Below.refl _ _).alloc (Nat.le_refl _) _)), rfl⟩
theorem accept_eq (nl : Bool) (L t : List UInt8) (σ : PS) : ∃ b σ', Od.accept nl L t σ = .ok b σ' := by
  unfold Od.accept
  split
  · exact ⟨_, _, rfl⟩
  · exact ⟨_, _, rfl⟩
set_option maxRecDepth 100000 in
set_option maxHeartbeats 8000000 in
theorem expect_any (w : World) (g : Nat) (B : Nat → Prop) (s : ByteArray) (nl : Bool) (σ : PS) (h : Par w g B s nl σ) (t : ByteArray) :
    Calls Tryz.prog 152 #[.pointer (some ⟨g, 0, none⟩), .string t] w fun e w' => Got w g B s nl (Od.expect nl s.data.toList t.data.toList σ) (fun _ u _ => u = .tuple #[]) e w' := by
  have HP := Aside.mk h
  clear h
  obtain ⟨b, σ', ha⟩ := accept_eq nl s.data.toList t.data.toList σ
  have HA := Aside.mk ha
  clear ha
  go_enter Tryz.func152, Tryz.ntmps152
  go_wp2_with fail
  refine (accept_any w g B s nl σ HP.out t).mono ?_
  rintro e w1 hg
  rw [HA.out] at hg
  obtain ⟨hf, ⟨u, rfl, rfl⟩, hP1⟩ := hg
  have HF := Aside.mk hf
  have HP1 := Aside.mk hP1
  clear hf hP1
  cases b with
  | true =>
    have HE : Aside (Od.expect nl s.data.toList t.data.toList σ = .ok () σ') := ⟨by unfold Od.expect Pr.bind; rw [HA.out]; rfl⟩
    go_wp2_with fail
    rw [HE.out]
    go_end0
    exact ⟨HF.out, ⟨_, rfl, rfl⟩, HP1.out⟩
  | false =>
    have HE : Aside (Od.expect nl s.data.toList t.data.toList σ = Od.fail nl s.data.toList σ') := ⟨by unfold Od.expect Pr.bind; rw [HA.out]; rfl⟩
    go_wp2_with fail
    refine (fail_any (α := Unit) (fun _ _ _ => True) w1 g B s nl σ' HP1.out).mono ?_
    rintro e w2 ⟨hf2, rfl⟩
    have HF2 := Aside.mk hf2
    clear hf2
    go_wp2_with fail
    rw [HE.out]
    exact ⟨rfl, HF.out.trans HF2.out, rfl⟩
end Go.Proofs.YthcidkidpiaomaaGreatDoor.Od
end
section
set_option linter.unusedVariables false
set_option linter.unusedSimpArgs false
namespace Go.Proofs.YthcidkidpiaomaaGreatDoor.Od
open Go.RowKit Rg
structure TB (B : Nat → Prop) (w : World) : Prop where
  tabs : Fx.Tabs w
  pow : B 5
  rng : B 9
theorem var?_keep {P : Program} {g : Nat} {W W' : World} {n : String} {cs : Array Value} (h : W'.heap[g]? = W.heap[g]?) (hg : P.globalNamed n = some g) (hv : W.var? P n = some cs) : W'.var? P n = some cs := by
  unfold World.var? at hv ⊢
  simp only [hg, Option.bind_some] at hv ⊢
  rw [h]; exact hv
theorem TB.fr {B : Nat → Prop} {w w1 : World} (h : TB B w) (hf : FrP B w w1) : TB B w1 := by
  obtain ⟨⟨hp, tp, p, hr⟩, h1, h2⟩ := h
  have keep : ∀ g, B g → g < w.heap.size → w1.heap[g]? = w.heap[g]? := fun g hg hlt => by
    rw [Array.getElem?_eq_getElem hlt]
    exact hf.block g _ (Array.getElem?_eq_getElem hlt) (Or.inl hg)
  exact ⟨⟨var?_keep (keep _ h1 (Fx.var_lt Fx.gPow hp)) Fx.gPow hp, tp, p, var?_keep (keep _ h2 (Fx.var_lt Fx.gRange hr)) Fx.gRange hr⟩, h1, h2⟩
theorem TB.of {w : World} (h : Fx.Tabs w) : TB (fun k => k < w.heap.size) w := ⟨h, Fx.var_lt Fx.gPow h.pow, (by obtain ⟨-, tp, p, hr⟩ := h; exact Fx.var_lt Fx.gRange hr)⟩
theorem Par.set4 {w : World} {g : Nat} {B : Nat → Prop} {s : ByteArray} {nl : Bool} {σ : PS} (h : Par w g B s nl σ) (b : Bool) : Par (w.setCell ⟨g, 4, none⟩ (.bool b)) g B s nl { σ with bad := b } := by
  obtain ⟨v, hh, ho⟩ := h.here
  exact ⟨⟨v, row_cell hh _, ⟨owns_set ho.1 hh (by decide), ho.2⟩⟩, h.le, h.base, h.len, h.few, fun k hk => by simpa [World.setCell] using h.bnd k hk⟩
set_option maxRecDepth 100000 in
set_option maxHeartbeats 8000000 in
theorem number_any (w : World) (g : Nat) (B : Nat → Prop) (s : ByteArray) (nl : Bool) (σ : PS) (h : Par w g B s nl σ) (hT : TB B w) :
    Calls Tryz.prog 174 #[.pointer (some ⟨g, 0, none⟩)] w fun e w' => Got w g B s nl (Od.number nl s.data.toList σ) (fun a u _ => u = .tuple #[.int .i64 a.1, .int .i64 a.2]) e w' := by
  have HP := Aside.mk h
  have HTB := Aside.mk hT
  clear h hT
  go_enter Tryz.func174, Tryz.ntmps174
  go_wp2_with fail
  refine (peek_any w g B s nl σ HP.out).mono ?_
  rintro e w1 ⟨rfl, hf, hP⟩
  have HF := Aside.mk hf
  have HP1 := Aside.mk hP
  clear hf hP
  have hok := peekT_ok nl s.data.toList σ.pos HP.out.le
  by_cases hk2 : (peekT nl s.data.toList σ.pos).kind = 2
  · have HA : Aside (Od.number nl s.data.toList σ = .ok ((Fx.parseL (sub s.data.toList (peekT nl s.data.toList σ.pos).lo (peekT nl s.data.toList σ.pos).hi)).1, (Fx.parseL (sub s.data.toList (peekT nl s.data.toList σ.pos).lo (peekT nl s.data.toList σ.pos).hi)).2.1) ⟨(peekT nl s.data.toList σ.pos).hi, σ.names, σ.bad || decide ((Fx.parseL (sub s.data.toList (peekT nl s.data.toList σ.pos).lo (peekT nl s.data.toList σ.pos).hi)).2.2.2 ≠ 0)⟩) := ⟨by unfold Od.number; simp only; rw [if_pos hk2]⟩
    have hxx : tokX s (peekT nl s.data.toList σ.pos) = s.extract (peekT nl s.data.toList σ.pos).lo (peekT nl s.data.toList σ.pos).hi := by unfold tokX; rw [if_neg (by rw [hk2]; decide)]
    rw [tokV_eq, hk2, hxx]
    have hle := hok.le
    have hlen := hok.len
    obtain ⟨q, hq⟩ : ∃ q, (peekT nl s.data.toList σ.pos).lo = q := ⟨_, rfl⟩
    obtain ⟨E, hE⟩ : ∃ E, (peekT nl s.data.toList σ.pos).hi = E := ⟨_, rfl⟩
    rw [hq, hE] at HA hle
    rw [hE] at hlen
    rw [hq] at HP1
    rw [hq, hE]
    have hsl : s.data.toList.length = s.size := rfl
    obtain ⟨x, hx⟩ : ∃ x, s.extract q E = x := ⟨_, rfl⟩
    have hxl : sub s.data.toList q E = x.data.toList := by rw [← hx, sub_extract]
    have hxs : x.size = E - q := by rw [← hx, ByteArray.size_extract]; omega
    rw [hxl] at HA
    rw [hx]
    have HX := Aside.mk hxs
    have HQE := Aside.mk (And.intro hle (show E ≤ s.size by omega))
    have h8 := HP1.out.len
    have hw : IntKind.i64.wrap ((q : Int) + (x.size : Int)) = (q : Int) + (x.size : Int) := IntWalk.i64_in _ (by omega)
    obtain ⟨R, hR⟩ : ∃ R, Fx.parseL x.data.toList = R := ⟨_, rfl⟩
    rw [hR] at HA
    have HR := Aside.mk hR
    obtain ⟨r1, r2, r3, r4⟩ := R
    clear hok hk2 hxx hle hlen hq hE hsl hx hxl hxs h8 hR
    have hlt1 := HP1.out.cells.2.2.2.1
    go_wp2_with fail
    have hal : Below w1.heap.size w1 (w1.alloc (Obj.cells #[Value.int IntKind.i64 2, Value.string x, Value.int IntKind.i64 (q : Nat)] 108)) := (Below.refl _ _).alloc (Nat.le_refl _) _
    have HPW := Aside.mk (HP1.out.below hal)
    have HFW := Aside.mk (HF.out.trans (Fr.of hal))
    have hcx : (w1.alloc (Obj.cells #[Value.int IntKind.i64 2, Value.string x, Value.int IntKind.i64 (q : Nat)] 108)).cell? ⟨w1.heap.size, 1, none⟩ = some (.string x) := by rw [cell_of_row _ _ 1 _ _ _ (heap_alloc_last _ _)]; rfl
    have hgt : w1.heap.size < (w1.alloc (Obj.cells #[Value.int IntKind.i64 2, Value.string x, Value.int IntKind.i64 (q : Nat)] 108)).heap.size := by simp
    generalize (w1.alloc (Obj.cells #[Value.int IntKind.i64 2, Value.string x, Value.int IntKind.i64 (q : Nat)] 108)) = W at HPW HFW hcx hgt ⊢
    obtain ⟨gt, hgte⟩ : ∃ gt, w1.heap.size = gt := ⟨_, rfl⟩
    rw [hgte] at hcx hgt hlt1
    simp only [hgte]
    have hne : g ≠ gt := by omega
    have hne' : gt ≠ g := by omega
    obtain ⟨-, c1, -, hlg, -, -, -⟩ := HPW.out.cells
    simp only at c1
    clear hal hgte hlt1 HP1 HF
    refine region_v [16, 17, 18, 19, 20, 21, 22, 23, 24, 25] 10 [.pointer (some ⟨g, 0, none⟩), .pointer (some ⟨g, 0, none⟩), .pointer (some ⟨g, 1, none⟩), .int .i64 (q : Nat), .pointer (some ⟨gt, 1, none⟩), .string x, .int .i64 (x.size : Nat), .int .i64 ((q : Int) + (x.size : Int)), .pointer (some ⟨g, 0, none⟩), .pointer (some ⟨g, 1, none⟩)] rfl rfl ?_ ?_
    · iterate 10 (refine AllV.val rfl (fun w hb => by simp [execOp, Act.eval, kp hb c1, kp hb hcx, hw, go_sem]) ?_)
      exact AllV.nil
    intro w4 hb
    simp only [List.drop_succ_cons, List.drop_zero]
    have HH4 := Aside.mk hb
    clear hb
    have HP4 := Aside.mk (HPW.out.below HH4.out)
    have HF4 := Aside.mk (HFW.out.trans (Fr.of HH4.out))
    have hcx := (HH4.out.cell (p := ⟨gt, 1, none⟩) hgt).trans hcx
    have hgt := Nat.lt_of_lt_of_le hgt HH4.out.size
    clear c1 hlg HH4 HPW HFW
    obtain ⟨-, c1, -, hlg, hz1, -, -⟩ := HP4.out.cells
    simp only at c1
    go_wp2_with fail
    have hxe : (q : Int) + (x.size : Int) = ((E : Nat) : Int) := by have := HX.out; have := HQE.out; omega
    rw [hxe]
    have HP5 := Aside.mk (HP4.out.set E HQE.out.2 HQE.out.1)
    have HF5 := Aside.mk (HF4.out.trans (HP4.out.fr 1 (.int .i64 (E : Nat))))
    generalize (w4.setCell ⟨g, 1, none⟩ (.int .i64 (E : Nat))) = W5 at HP5 HF5 ⊢
    refine (Fx.Parse_any x _ (by have := HX.out; have := HQE.out; have := HP4.out.len; omega) (HTB.out.fr HF5.out).tabs).mono ?_
    rw [HR.out]
    rintro e w6 ⟨rfl, hb6⟩
    have HP6 := Aside.mk (HP5.out.below hb6)
    have HF6 := Aside.mk (HF5.out.trans (Fr.of hb6))
    unfold Fx.tup4
    simp only
    clear hb6 c1 hlg hz1 hcx hgt hxe hw
    obtain ⟨-, -, c4, hlg, -, -, hz4⟩ := HP6.out.cells
    simp only at c4
    obtain ⟨bd, hbd⟩ : ∃ b, σ.bad = b := ⟨_, rfl⟩
    rw [hbd] at c4 HA
    have HBD := Aside.mk hbd
    clear hbd
    cases bd with
    | true =>
      go_wp2_with fail
      go_ret2
      rw [HA.out]
      exact ⟨HF6.out.trans (HP6.out.fr 4 _), ⟨_, rfl, rfl⟩, HP6.out.set4 true⟩
    | false =>
      go_wp2_with fail
      go_ret2
      rw [HA.out]
      have hd : decide (r4 ≠ 0) = !(r4 == 0) := by by_cases h : r4 = 0 <;> simp [h]
      show Got _ _ _ _ _ (.ok (r1, r2) ⟨E, σ.names, decide (r4 ≠ 0)⟩) _ _ _
      rw [hd]
      exact ⟨HF6.out.trans (HP6.out.fr 4 _), ⟨_, rfl, rfl⟩, HP6.out.set4 (!(r4 == 0))⟩
  · have HA : Aside (Od.number nl s.data.toList σ = Od.fail nl s.data.toList { σ with pos := (peekT nl s.data.toList σ.pos).lo }) := ⟨by unfold Od.number; simp only; rw [if_neg hk2]⟩
    rw [tokV_eq]
    obtain ⟨K, hK⟩ : ∃ K, (peekT nl s.data.toList σ.pos).kind = K := ⟨_, rfl⟩
    rw [hK] at hk2
    have hK2 : (K == 2) = false := by rw [beq_eq_false_iff_ne]; exact hk2
    obtain ⟨x, hx⟩ : ∃ x, tokX s (peekT nl s.data.toList σ.pos) = x := ⟨_, rfl⟩
    obtain ⟨q, hq⟩ : ∃ q, (peekT nl s.data.toList σ.pos).lo = q := ⟨_, rfl⟩
    rw [hK, hx, hq]
    rw [hq] at HA HP1
    clear hk2 hok hK hx hq
    go_wp2_with fail
    refine (fail_any (α := Int × Int) (fun _ _ _ => True) _ g B s nl _ (HP1.out.below ((Below.refl _ _).alloc (Nat.le_refl _) _))).mono ?_
    rintro e w2 ⟨hf2, rfl⟩
    have HF2 := Aside.mk ((HF.out.trans (Fr.of ((Below.refl _ _).alloc (Nat.le_refl _) _))).trans hf2)
    clear hf2
    go_wp2_with fail
    rw [HA.out]
    exact ⟨rfl, HF2.out, rfl⟩
theorem parseL_bd (l : List UInt8) : -2147483648 < (Fx.parseL l).1 ∧ (Fx.parseL l).1 < 2147483648 ∧ -2147483648 < (Fx.parseL l).2.1 ∧ (Fx.parseL l).2.1 < 2147483648 := by
  have hb := Fx.sf_bound 16 (Fx.frN l) 0 (Fx.dig_digs (Fx.frL_dig l)) (by omega)
  have h0 : 0 ≤ Fx.loN l := by unfold Fx.loN; omega
  have h1 : Fx.loN l ≤ Fx.hiN l := by unfold Fx.hiN; split <;> omega
  have h3 : Fx.parseL l = (0, 0, ((Fx.enN l : Nat) : Int), 10) ∨ Fx.parseL l = (0, 0, 0, 2) ∨ (Fx.hiN l < 2147483648 ∧ (Fx.parseL l = (-Fx.hiN l, -Fx.loN l, 0, 0) ∨ Fx.parseL l = (Fx.loN l, Fx.hiN l, 0, 0))) := by
    unfold Fx.parseL
    split
    · exact Or.inl rfl
    · split
      · exact Or.inr (Or.inl rfl)
      · rename_i h
        refine Or.inr (Or.inr ⟨by omega, ?_⟩)
        split
        · exact Or.inl rfl
        · exact Or.inr rfl
  obtain ⟨lo, hlo⟩ : ∃ x, Fx.loN l = x := ⟨_, rfl⟩
  obtain ⟨hi, hhi⟩ : ∃ x, Fx.hiN l = x := ⟨_, rfl⟩
  rw [hlo] at h0 h1 h3
  rw [hhi] at h1 h3
  rcases h3 with h | h | ⟨h2, h | h⟩ <;> rw [h] <;> simp only <;> omega
theorem number_small {nl : Bool} {L : List UInt8} {σ σ' : PS} {a b : Int} (h : Od.number nl L σ = .ok (a, b) σ') : IntKind.i64.wrap (-a) = -a ∧ IntKind.i64.wrap (-b) = -b := by
  unfold Od.number at h
  simp only at h
  split at h
  · injection h with h1 h2
    injection h1 with h3 h4
    have := parseL_bd (sub L (peekT nl L σ.pos).lo (peekT nl L σ.pos).hi)
    exact ⟨IntWalk.i64_in _ (by omega), IntWalk.i64_in _ (by omega)⟩
  · cases h
set_option maxRecDepth 100000 in
set_option maxHeartbeats 8000000 in
theorem signed_any (w : World) (g : Nat) (B : Nat → Prop) (s : ByteArray) (nl : Bool) (σ : PS) (h : Par w g B s nl σ) (hT : TB B w) :
    Calls Tryz.prog 176 #[.pointer (some ⟨g, 0, none⟩)] w fun e w' => Got w g B s nl (Od.signed nl s.data.toList σ) (fun a u _ => u = .tuple #[.int .i64 a.1, .int .i64 a.2]) e w' := by
  have HP := Aside.mk h
  have HTB := Aside.mk hT
  clear h hT
  obtain ⟨b, σ', ha⟩ := accept_eq nl s.data.toList [45] σ
  have HA := Aside.mk ha
  clear ha
  go_enter Tryz.func176, Tryz.ntmps176
  go_wp2_with fail
  refine (accept_any w g B s nl σ HP.out ⟨#[45]⟩).mono ?_
  rintro e w1 hg
  rw [show (⟨#[45]⟩ : ByteArray).data.toList = [45] from rfl, HA.out] at hg
  obtain ⟨hf, ⟨u, rfl, rfl⟩, hP1⟩ := hg
  have HF := Aside.mk hf
  have HP1 := Aside.mk hP1
  clear hf hP1
  cases b with
  | true =>
    have HE : Aside (Od.signed nl s.data.toList σ = ((Od.number nl s.data.toList).map fun r => (-r.2, -r.1)) σ') := ⟨by unfold Od.signed Pr.bind; rw [HA.out]; rfl⟩
    go_wp2_with fail
    refine (number_any w1 g B s nl σ' HP1.out (HTB.out.fr HF.out)).mono ?_
    rintro e w2 hg
    cases hn : Od.number nl s.data.toList σ' with
    | ok a σ2 =>
      have HN := Aside.mk hn
      rw [hn] at hg
      clear hn
      obtain ⟨hf2, ⟨u, rfl, rfl⟩, hP2⟩ := hg
      have HF2 := Aside.mk (HF.out.trans hf2)
      have HP2 := Aside.mk hP2
      clear hf2 hP2
      obtain ⟨lo, hi⟩ := a
      have HNE := Aside.mk (number_small HN.out)
      have n1 := HNE.out.1
      have n2 := HNE.out.2
      go_wp2_with fail
      go_ret2
      rw [HE.out]
      unfold Pr.map Pr.bind
      rw [HN.out]
      exact ⟨HF2.out, ⟨_, rfl, rfl⟩, HP2.out⟩
    | err c o =>
      have HN := Aside.mk hn
      rw [hn] at hg
      clear hn
      obtain ⟨hf2, rfl⟩ := hg
      have HF2 := Aside.mk (HF.out.trans hf2)
      clear hf2
      go_wp2_with fail
      rw [HE.out]
      unfold Pr.map Pr.bind
      rw [HN.out]
      exact ⟨rfl, HF2.out, rfl⟩
  | false =>
    have HE : Aside (Od.signed nl s.data.toList σ = Od.number nl s.data.toList σ') := ⟨by unfold Od.signed Pr.bind; rw [HA.out]; rfl⟩
    go_wp2_with fail
    refine (number_any w1 g B s nl σ' HP1.out (HTB.out.fr HF.out)).mono ?_
    rintro e w2 hg
    cases hn : Od.number nl s.data.toList σ' with
    | ok a σ2 =>
      have HN := Aside.mk hn
      rw [hn] at hg
      clear hn
      obtain ⟨hf2, ⟨u, rfl, rfl⟩, hP2⟩ := hg
      have HF2 := Aside.mk (HF.out.trans hf2)
      have HP2 := Aside.mk hP2
      clear hf2 hP2
      go_wp2_with fail
      go_ret2
      rw [HE.out, HN.out]
      exact ⟨HF2.out, ⟨_, rfl, rfl⟩, HP2.out⟩
    | err c o =>
      have HN := Aside.mk hn
      rw [hn] at hg
      clear hn
      obtain ⟨hf2, rfl⟩ := hg
      have HF2 := Aside.mk (HF.out.trans hf2)
      clear hf2
      go_wp2_with fail
      rw [HE.out, HN.out]
      exact ⟨rfl, HF2.out, rfl⟩
end Go.Proofs.YthcidkidpiaomaaGreatDoor.Od
end
section
namespace Go.Proofs
open Go.Shelf
def Tryz.growNode_ren : Go.Shelf.Ren := ⟨fun | 4 => 173 | n => n, fun | 22 => 26 | 25 => 79 | 3 => 3 | 4 => 4 | 9 => 9 | 20 => 20 | 0 => 0 | n => n, fun | n => n⟩
theorem Tryz.growNode : Go.Proofs.Lays8.n4 Tryz.prog Tryz.growNode_ren := {
  mixed := by kernel_rfl
  f4 := ⟨Tryz.f173.name, by decide, Tryz.func173.trans (congrArg some (by kernel_rfl))⟩
  t0 := Tryz.underlying0
  a0 := Tryz.isAgg0
  z0 := Tryz.sizeOf0
  v0 := Tryz.zeroValue0
  t3 := Tryz.underlying3
  a3 := Tryz.isAgg3
  z3 := Tryz.sizeOf3
  v3 := Tryz.zeroValue3
  t4 := Tryz.underlying4
  a4 := Tryz.isAgg4
  z4 := Tryz.sizeOf4
  v4 := Tryz.zeroValue4
  t9 := Tryz.underlying9
  a9 := Tryz.isAgg9
  z9 := Tryz.sizeOf9
  v9 := Tryz.zeroValue9
  t20 := Tryz.underlying20
  a20 := Tryz.isAgg20
  z20 := Tryz.sizeOf20
  v20 := Tryz.zeroValue20
  t22 := Tryz.underlying26
  a22 := Tryz.isAgg26
  z22 := Tryz.sizeOf26
  v22 := Tryz.zeroValue26 }
def Tryz.trimLeft_ren : Go.Shelf.Ren := ⟨fun | 161 => 107 | 231 => 142 | 227 => 143 | 233 => 144 | 235 => 145 | 228 => 161 | 197 => 162 | 151 => 163 | 260 => 171 | 152 => 172 | 137 => 133 | 119 => 185 | 224 => 186 | 225 => 187 | 217 => 155 | 266 => 168 | n => n, fun | 9 => 9 | 4 => 4 | 3 => 3 | 5 => 5 | 117 => 159 | 116 => 158 | 0 => 0 | 124 => 162 | 105 => 182 | 21 => 21 | 119 => 195 | 46 => 174 | 139 => 198 | 138 => 197 | n => n, fun | 3 => 3 | 4 => 4 | n => n⟩
theorem Tryz.trimLeft : Go.Proofs.Lays.n161 Tryz.prog Tryz.trimLeft_ren := {
  mixed := by kernel_rfl
  f119 := Tryz.func185.trans (congrArg some (by kernel_rfl))
  f137 := Tryz.func133.trans (congrArg some (by kernel_rfl))
  f151 := Tryz.func163.trans (congrArg some (by kernel_rfl))
  f152 := Tryz.func172.trans (congrArg some (by kernel_rfl))
  f161 := Tryz.func107.trans (congrArg some (by kernel_rfl))
  f197 := Tryz.func162.trans (congrArg some (by kernel_rfl))
  f217 := Tryz.func155.trans (congrArg some (by kernel_rfl))
  f224 := Tryz.func186.trans (congrArg some (by kernel_rfl))
  f225 := Tryz.func187.trans (congrArg some (by kernel_rfl))
  f227 := Tryz.func143.trans (congrArg some (by kernel_rfl))
  f228 := Tryz.func161.trans (congrArg some (by kernel_rfl))
  f231 := Tryz.func142.trans (congrArg some (by kernel_rfl))
  f233 := Tryz.func144.trans (congrArg some (by kernel_rfl))
  f235 := Tryz.func145.trans (congrArg some (by kernel_rfl))
  f260 := Tryz.func171.trans (congrArg some (by kernel_rfl))
  f266 := Tryz.func168.trans (congrArg some (by kernel_rfl))
  t0 := Tryz.underlying0
  a0 := Tryz.isAgg0
  z0 := Tryz.sizeOf0
  v0 := Tryz.zeroValue0
  t3 := Tryz.underlying3
  a3 := Tryz.isAgg3
  z3 := Tryz.sizeOf3
  v3 := Tryz.zeroValue3
  t4 := Tryz.underlying4
  a4 := Tryz.isAgg4
  z4 := Tryz.sizeOf4
  v4 := Tryz.zeroValue4
  t5 := Tryz.underlying5
  a5 := Tryz.isAgg5
  z5 := Tryz.sizeOf5
  v5 := Tryz.zeroValue5
  t9 := Tryz.underlying9
  a9 := Tryz.isAgg9
  z9 := Tryz.sizeOf9
  v9 := Tryz.zeroValue9
  t21 := Tryz.underlying21
  a21 := Tryz.isAgg21
  z21 := Tryz.sizeOf21
  v21 := Tryz.zeroValue21
  t46 := Tryz.underlying174
  a46 := Tryz.isAgg174
  z46 := Tryz.sizeOf174
  v46 := Tryz.zeroValue174
  t105 := Tryz.underlying182
  a105 := Tryz.isAgg182
  z105 := Tryz.sizeOf182
  v105 := Tryz.zeroValue182
  t116 := Tryz.underlying158
  a116 := Tryz.isAgg158
  z116 := Tryz.sizeOf158
  t117 := Tryz.underlying159
  a117 := Tryz.isAgg159
  z117 := Tryz.sizeOf159
  v117 := Tryz.zeroValue159
  t119 := Tryz.underlying195
  a119 := Tryz.isAgg195
  z119 := Tryz.sizeOf195
  t124 := Tryz.underlying162
  a124 := Tryz.isAgg162
  z124 := Tryz.sizeOf162
  v124 := Tryz.zeroValue162
  t138 := Tryz.underlying197
  a138 := Tryz.isAgg197
  z138 := Tryz.sizeOf197
  v138 := Tryz.zeroValue197
  t139 := Tryz.underlying198
  a139 := Tryz.isAgg198
  z139 := Tryz.sizeOf198
  v139 := Tryz.zeroValue198
  g3 := by kernel_rfl
  g4 := by kernel_rfl }
end Go.Proofs
end
section
set_option linter.unusedVariables false
set_option linter.unusedSimpArgs false
namespace Go.Proofs.YthcidkidpiaomaaGreatDoor.Od
open Go.RowKit Rg
theorem own_one {w : World} {B k : Nat} {x : Nd} {z : Nat} (hh : w.heap[k]? = some (.cells #[.int .i64 x.op, .int .i64 x.n, .int .i64 x.lo, .int .i64 x.hi] 79 (0, 0))) (hB : B ≤ k) (hz : z = 1) : OwnN B w (.slice (some ⟨k, 0, none⟩) z z) [x] := by
  subst hz
  exact ⟨by simp [nds, nd4], Or.inr ⟨k, 1, _, rfl, hB, hh, Nat.le_refl _, by simp [maxLen], rfl, by simp [nds, nd4]⟩⟩
set_option maxRecDepth 100000 in
set_option maxHeartbeats 8000000 in
theorem constant_any (lo hi : Int) (w : World) : Calls Tryz.prog 175 #[.agg #[.int .i64 lo, .int .i64 hi]] w fun e w' => ∃ v, e = .returned v ∧ OwnN w.heap.size w' v [⟨1, 0, lo, hi⟩] ∧ Below w.heap.size w w' := by
  go_enter Tryz.func175, Tryz.ntmps175
  go_wp2_with fail
  go_ret
  refine ⟨_, rfl, ?_, ?_⟩
  · refine own_one ?_ ?_ rfl
    · have := heap_alloc_last (w.alloc (.cells #[.int .i64 lo, .int .i64 hi] 29)) (.cells #[.int .i64 1, .int .i64 0, .int .i64 lo, .int .i64 hi] 79)
      simpa using this
    · simp
  · exact ((Below.refl _ _).alloc (Nat.le_refl _) _).alloc (by simp) _
theorem info_node : (Tryz.prog.info? 79).map (fun i => (i.zero, i.size, i.bytes)) = some (some (.agg #[.int .i64 0, .int .i64 0, .int .i64 0, .int .i64 0]), 4, 32) := by kernel_rfl
theorem info_parts' {P : Program} {t : TypeId} {z : Value} {a b : Nat} (h : (P.info? t).map (fun i => (i.zero, i.size, i.bytes)) = some (some z, a, b)) : ∃ i, P.info? t = some i ∧ i.zero = some z ∧ i.size = a ∧ i.bytes = b := by
  cases hi : P.info? t with
  | none => rw [hi] at h; cases h
  | some i =>
    rw [hi] at h
    simp only [Option.map_some, Option.some.injEq, Prod.mk.injEq] at h
    exact ⟨i, rfl, h.1, h.2.1, h.2.2⟩
theorem nds_one (e : List Nd) : ∀ u ∈ nds e, u.oneCell' = true := by
  intro u hu
  simp only [nds, List.mem_flatMap] at hu
  obtain ⟨x, _, hx⟩ := hu
  simp only [nd4, List.mem_cons, List.not_mem_nil, or_false] at hx
  rcases hx with rfl | rfl | rfl | rfl <;> rfl
theorem grow_any (n : Nat) (w : World) (hn : n ≤ 100000) : Calls Tryz.prog 173 #[.slice none 0 0, .int .i64 n] w fun e w' => ∃ v, e = .returned v ∧ OwnN w.heap.size w' v [] ∧ Below w.heap.size w w' := by
  obtain ⟨i0, hi, hz0, hz1, hz2⟩ := info_parts' info_node
  by_cases h0 : n = 0
  · subst h0
    refine (Any8.slices_Grow_room Tryz.growNode none 0 0 0 w (Nat.le_refl _) (by omega) (by omega) (by omega)).mono ?_
    rintro e w' ⟨rfl, rfl⟩
    exact ⟨_, rfl, ⟨rfl, Or.inl ⟨rfl, rfl⟩⟩, Below.refl _ _⟩
  · refine (Any8.slices_Grow_grow Tryz.growNode i0 _ hi hz0 (by omega) none 0 0 n [] w (Nat.le_refl _) (by omega) (by rw [hz2]; omega) (by omega) (by simp) (fun _ => rfl) (fun a ha => by cases ha)).mono ?_
    rintro e w' ⟨rfl, rfl⟩
    have hge := grownCap_ge w (0 + n) 0 79
    have hle := grownCap_le_maxLen w (0 + n) 0 79 (by unfold maxLen; omega)
    refine ⟨_, rfl, ⟨rfl, Or.inr ⟨w.heap.size, _, _, rfl, Nat.le_refl _, heap_alloc_last _ _, Nat.zero_le _, hle, ?_, by simp [nds]⟩⟩, ?_⟩
    · have hge' : 0 + n ≤ grownCap w (0 + n) 0 (Tryz.growNode_ren.t 25) := hge
      rw [Array.size_append, Array.size_append, size_zeroCells, size_zeroCells]
      show 0 + (0 + n - 0) * 4 + (grownCap w (0 + n) 0 (Tryz.growNode_ren.t 25) - (0 + n)) * 4 = _
      omega
    · exact ((Below.refl w.heap.size w).drew).alloc (Nat.le_refl _) _
theorem wpList_append_nodes (w : World) {ops : Array Oper} {rest : List Oper} {o : Oper} {a : Act} {Q : Exit → Act → World → Prop}
    (hg : o.guard = none) (s x : Operand) (hop : o.op = Op.call { callee := Callee.builtin Builtin.append, args := #[s, x], argTypes := #[26, 26] })
    (base : Nat) (v : Value) (A : List Nd) (hs : a.eval s = v) (h : OwnN base w v A) (u : Value) (E : List Nd) (hx : a.eval x = u) (hr : Rd w u E) (hne : E ≠ [])
    (hbd : A.length + E.length ≤ 100000) (hbase : base ≤ w.heap.size)
    (hK : ∀ v' w', OwnN base w' v' (A ++ E) → Below base w w' → wpList Tryz.prog ops Q rest (a.put o.dst v') w') :
    wpList Tryz.prog ops Q (o :: rest) a w := by
  obtain ⟨i0, hi, hz0, hz1, hz2⟩ := info_parts' info_node
  obtain ⟨ao, cap, rfl, h0, h1, h2, hc⟩ := hr.out
  cases ao with
  | none => exact absurd (List.length_eq_zero_iff.1 (h0 rfl).1) hne
  | some ad =>
    refine wpList_append_own_at w hg s x _ hop base 79 i0 _ 4 32 Tryz.underlying26 hi hz0 hz1 hz2 rfl (by omega) v A.length _ hs h ad E.length cap (nds E) hx (nds_len E) (hc ad rfl) (nds_one E) (by simp only [maxLen]; omega) (by omega) hbase ?_
    intro v' w' hown' hgr _ hat
    refine hK v' w' ?_ ((Below.refl base w).grown hgr hbase (fun k hk => (World.ownsRow.lt h k hk).1))
    unfold OwnN
    rw [List.length_append, nds_app]
    exact hown'
structure Opd (w : World) (g : Nat) (vs : List Value) (es : List (List Nd)) : Prop where
  len : vs.length = es.length
  cell : ∀ (j : Nat) (u : Value), vs[j]? = some u → w.cell? ⟨g, j, none⟩ = some u
  rd : ∀ (j : Nat) (u : Value) (e : List Nd), vs[j]? = some u → es[j]? = some e → Rd w u e ∧ e ≠ []
  few : (es.map List.length).sum ≤ 100000
def tot (es : List (List Nd)) (i : Nat) : Nat := ((es.take i).map List.length).sum
theorem tot_succ {es : List (List Nd)} {i : Nat} {e : List Nd} (h : es[i]? = some e) : tot es (i + 1) = tot es i + e.length := by
  unfold tot
  rw [List.take_add_one, h]
  simp
theorem tot_le (es : List (List Nd)) (i : Nat) : tot es i ≤ (es.map List.length).sum := by
  unfold tot
  conv => rhs; rw [← List.take_append_drop i es]
  rw [List.map_append, List.sum_append]
  omega
theorem tot_all (es : List (List Nd)) : tot es es.length = (es.map List.length).sum := by unfold tot; rw [List.take_length]
set_option maxRecDepth 100000 in
set_option maxHeartbeats 8000000 in
theorem concat_any (w : World) (g : Nat) (vs : List Value) (es : List (List Nd)) (n : Nat) (hn : es.length = n) (hn9 : n ≤ 9000) (h : Opd w g vs es) (ao : Option Addr) (hao : ao = some ⟨g, 0, none⟩) :
    Calls Tryz.prog 166 #[.slice ao n n] w fun e w' => ∃ v, e = .returned v ∧ OwnN w.heap.size w' v es.flatten ∧ Below w.heap.size w w' := by
  subst hao
  have HO := Aside.mk h
  have HN := Aside.mk hn
  clear h hn
  go_enter Tryz.func166, Tryz.ntmps166
  go_wp2_with fail
  go_loopg [3, 11] n (fun m v3 v11 wr => ∃ i : Nat, v3 = .int .i64 (tot es i : Nat) ∧ v11 = .int .i64 (i : Nat) ∧ Aside (i ≤ n ∧ n - i ≤ m) ∧ wr = w)
  case atStart => exact ⟨0, rfl, rfl, ⟨by omega⟩, rfl⟩
  case round =>
    obtain ⟨i, rfl, rfl, HI, hwr⟩ := hrel
    have hwr' := hwr.symm
    subst hwr'
    by_cases hi : i < n
    · obtain ⟨e, he⟩ : ∃ e, es[i]? = some e := ⟨_, List.getElem?_eq_getElem (by rw [HN.out]; exact hi)⟩
      obtain ⟨u, hu⟩ : ∃ u, vs[i]? = some u := ⟨_, List.getElem?_eq_getElem (by rw [HO.out.len, HN.out]; exact hi)⟩
      have hc := HO.out.cell i u hu
      obtain ⟨ao, cap, rfl, -, -, -, -⟩ := (HO.out.rd i u e hu he).1.out
      have HS := Aside.mk (tot_succ he)
      have HL := Aside.mk (And.intro (tot_le es (i + 1)) HO.out.few)
      obtain ⟨T, hT⟩ : ∃ T, tot es i = T := ⟨_, rfl⟩
      obtain ⟨l, hl⟩ : ∃ l, e.length = l := ⟨_, rfl⟩
      rw [hT, hl] at HS
      simp only [hT, hl] at hc ⊢
      have hw1 : IntKind.i64.wrap ((T : Int) + (l : Int)) = (T : Int) + (l : Int) := IntWalk.i64_in _ (by have := HS.out; have := HL.out; omega)
      have hw2 : IntKind.i64.wrap ((i : Int) + 1) = (i : Int) + 1 := IntWalk.i64_in _ (by omega)
      have hT0 : ¬ ((T : Int) + (l : Int) < 0) := by omega
      clear he hu hT hl
      go_wp2_with fail
      obtain ⟨go, hgo⟩ : ∃ go, gk = go + 1 := ⟨gk - 1, by have := HI.out; omega⟩
      go_roundg go
      case measure => omega
      case rel => exact ⟨i + 1, by rw [HS.out]; rfl, rfl, ⟨by have := HI.out; omega⟩, rfl⟩
    · have HIE : Aside (tot es i = (es.map List.length).sum) := ⟨by rw [← tot_all, HN.out]; congr 1; have := HI.out; omega⟩
      have hi' : ¬ ((i : Int) < (n : Int)) := by omega
      obtain ⟨T, hT⟩ : ∃ T, tot es i = T := ⟨_, rfl⟩
      have HT : Aside (T ≤ 100000) := ⟨by rw [← hT, HIE.out]; exact HO.out.few⟩
      rw [hT]
      clear hi HIE hT
      go_wp2_with fail
      refine (grow_any T _ HT.out).mono ?_
      rintro e w1 ⟨v1, rfl, ho1, hb1⟩
      have HO1 := Aside.mk ho1
      have HB1 := Aside.mk hb1
      clear ho1 hb1 HI hi'
      go_wp2_with fail
      go_loopg [6, 27] n (fun m v6 v27 w2 => ∃ j : Nat, Aside (OwnN w.heap.size w2 v6 (es.take j).flatten) ∧ v27 = .int .i64 (j : Nat) ∧ Aside (j ≤ n ∧ n - j ≤ m) ∧ Aside (Below w.heap.size w w2))
      case atStart => exact ⟨0, HO1, rfl, ⟨by omega⟩, HB1⟩
      case round =>
        obtain ⟨j, HOJ, rfl, HJ, HBJ⟩ := hrel
        by_cases hj : j < n
        · obtain ⟨e, he⟩ : ∃ e, es[j]? = some e := ⟨_, List.getElem?_eq_getElem (by rw [HN.out]; exact hj)⟩
          obtain ⟨u, hu⟩ : ∃ u, vs[j]? = some u := ⟨_, List.getElem?_eq_getElem (by rw [HO.out.len, HN.out]; exact hj)⟩
          have hc0 := HO.out.cell j u hu
          have hc := (HBJ.out.cell (World.block_lt_of_cell? w _ hc0)).trans hc0
          have HRD := Aside.mk (HO.out.rd j u e hu he)
          have HE := Aside.mk he
          have HFL : Aside ((es.take (j + 1)).flatten = (es.take j).flatten ++ e) := ⟨by rw [List.take_add_one, he]; simp⟩
          have HLN : Aside ((es.take j).flatten.length + e.length ≤ 100000) := ⟨by
            rw [← List.length_append, ← HFL.out, List.length_flatten]
            have := tot_le es (j + 1)
            have := HO.out.few
            unfold tot at *
            omega⟩
          have hw2 : IntKind.i64.wrap ((j : Int) + 1) = (j : Int) + 1 := IntWalk.i64_in _ (by omega)
          clear he hu
          go_wp2_with (first | (at_builtin; refine wpList_append_nodes _ rfl (.tmp 31) (.tmp 32) rfl w.heap.size _ (es.take j).flatten rfl HOJ.out _ e rfl (HRD.out.1.below HBJ.out) HRD.out.2 HLN.out HBJ.out.size ?_; intro v3 w3 ho3 hb3))
          obtain ⟨go, hgo⟩ : ∃ go, gk = go + 1 := ⟨gk - 1, by have := HJ.out; omega⟩
          go_roundg go
          case measure => omega
          case rel => exact ⟨j + 1, ⟨by rw [HFL.out]; exact ho3⟩, rfl, ⟨by have := HJ.out; omega⟩, ⟨HBJ.out.trans hb3⟩⟩
        · have HFL : Aside ((es.take j).flatten = es.flatten) := ⟨by rw [List.take_of_length_le (by rw [HN.out]; omega)]⟩
          have hj' : ¬ ((j : Int) < (n : Int)) := by omega
          go_wp2_with fail
          go_ret
          exact ⟨_, rfl, by rw [← HFL.out]; exact HOJ.out, HBJ.out⟩
theorem Opd.below {w w' : World} {g : Nat} {vs : List Value} {es : List (List Nd)} (h : Opd w g vs es) (hb : Below w.heap.size w w') : Opd w' g vs es :=
  ⟨h.len, fun j u hu => by have := h.cell j u hu; rw [hb.cell (World.block_lt_of_cell? w _ this)]; exact this, fun j u e hu he => ⟨(h.rd j u e hu he).1.below hb, (h.rd j u e hu he).2⟩, h.few⟩
set_option maxRecDepth 100000 in
set_option maxHeartbeats 8000000 in
theorem apply_any (w : World) (op : Int) (g : Nat) (vs : List Value) (es : List (List Nd)) (n : Nat) (hn : es.length = n) (hn9 : n ≤ 9000) (h : Opd w g vs es) (hne : es.flatten ≠ []) (hfew : (es.map List.length).sum + 1 ≤ 100000) (ao : Option Addr) (hao : ao = some ⟨g, 0, none⟩) :
    Calls Tryz.prog 153 #[.int .i64 op, .slice ao n n] w fun e w' => ∃ v, e = .returned v ∧ OwnN w.heap.size w' v (⟨op, 0, 0, 0⟩ :: es.flatten) ∧ Below w.heap.size w w' := by
  subst hao
  have HO := Aside.mk h
  have HN := Aside.mk hn
  have HNE := Aside.mk hne
  have HF : Aside ([(⟨op, 0, 0, 0⟩ : Nd)].length + es.flatten.length ≤ 100000) := ⟨by rw [List.length_flatten]; simp only [List.length_cons, List.length_nil]; omega⟩
  clear h hn hne hfew
  go_enter Tryz.func153, Tryz.ntmps153
  go_wp2_with fail
  have hal : Below w.heap.size w (w.alloc (.cells #[.int .i64 op, .int .i64 0, .int .i64 0, .int .i64 0] 79)) := (Below.refl _ _).alloc (Nat.le_refl _) _
  have HAL := Aside.mk hal
  refine (concat_any _ g vs es n HN.out hn9 (HO.out.below HAL.out) _ rfl).mono ?_
  rintro e w1 ⟨v1, rfl, ho1, hb1⟩
  have HO1 := Aside.mk ho1
  have HB1 := Aside.mk hb1
  have HOW : Aside (OwnN w.heap.size w1 (.slice (some ⟨w.heap.size, 0, none⟩) 1 1) [⟨op, 0, 0, 0⟩]) := ⟨by
    refine own_one ?_ (Nat.le_refl _) rfl
    rw [hb1.block _ (lt_of (heap_alloc_last _ _))]
    exact heap_alloc_last _ _⟩
  have HB2 : Aside (Below w.heap.size w w1) := ⟨hal.trans (hb1.mono hal.size)⟩
  clear ho1 hb1 hal
  go_wp2_with (first | (at_builtin; refine wpList_append_nodes _ rfl (.tmp 7) (.tmp 9) rfl w.heap.size _ [⟨op, 0, 0, 0⟩] rfl HOW.out _ es.flatten rfl HO1.out.rd HNE.out HF.out HB2.out.size ?_; intro v3 w3 ho3 hb3))
  go_ret
  exact ⟨_, rfl, ho3, HB2.out.trans hb3⟩
end Go.Proofs.YthcidkidpiaomaaGreatDoor.Od
end
section
set_option linter.unusedVariables false
set_option linter.unusedSimpArgs false
namespace Go.Proofs.YthcidkidpiaomaaGreatDoor.Od
open Go.RowKit Rg
set_option maxRecDepth 100000 in
set_option maxHeartbeats 8000000 in
theorem concat_nil (w : World) : Calls Tryz.prog 166 #[.slice none 0 0] w fun e w' => e = .returned (.slice none 0 0) ∧ w = w' := by
  go_enter Tryz.func166, Tryz.ntmps166
  go_wp2_with fail
  go_loopg [3, 11] 0 (fun m v3 v11 w2 => v3 = .int .i64 0 ∧ v11 = .int .i64 0 ∧ w2 = w)
  case atStart => exact ⟨rfl, rfl, rfl⟩
  case round =>
    obtain ⟨rfl, rfl, hwr⟩ := hrel
    have hwr' := hwr.symm
    subst hwr'
    go_wp2_with fail
    refine (Any8.slices_Grow_room Tryz.growNode none 0 0 0 _ (Nat.le_refl _) (by omega) (by omega) (by omega)).mono ?_
    rintro e w1 ⟨rfl, hw1⟩
    have hw1' := hw1.symm
    subst hw1'
    go_wp2_with fail
    go_loopg [6, 27] 0 (fun m v6 v27 w2 => v6 = .slice none 0 0 ∧ v27 = .int .i64 0 ∧ w2 = w)
    case atStart => exact ⟨rfl, rfl, rfl⟩
    case round =>
      obtain ⟨rfl, rfl, hwr⟩ := hrel
      have hwr' := hwr.symm
      subst hwr'
      go_wp2_with fail
      go_ret
      exact ⟨rfl, rfl⟩
set_option maxRecDepth 100000 in
set_option maxHeartbeats 8000000 in
theorem apply_nil (w : World) (op : Int) :
    Calls Tryz.prog 153 #[.int .i64 op, .slice none 0 0] w fun e w' => ∃ v, e = .returned v ∧ OwnN w.heap.size w' v [⟨op, 0, 0, 0⟩] ∧ Below w.heap.size w w' := by
  go_enter Tryz.func153, Tryz.ntmps153
  go_wp2_with fail
  refine (concat_nil _).mono ?_
  rintro e w1 ⟨rfl, rfl⟩
  go_wp2_with fail
  go_ret
  refine ⟨_, rfl, own_one ?_ (Nat.le_refl _) rfl, (Below.refl _ _).alloc (Nat.le_refl _) _⟩
  exact heap_alloc_last _ _
end Go.Proofs.YthcidkidpiaomaaGreatDoor.Od
end
section
set_option linter.unusedVariables false
set_option linter.unusedSimpArgs false
namespace Go.Proofs.YthcidkidpiaomaaGreatDoor.Od
open Go.RowKit Rg
def GotT (w : World) (g : Nat) (B : Nat → Prop) (s : ByteArray) (nl : Bool) (r : Res Tr) (e : Ending) (w' : World) : Prop := Got w g B s nl r (fun t u w' => OwnN w.heap.size w' u (flat t)) e w'
def Meets (f : Nat) (s : ByteArray) (nl : Bool) (m : Pr Tr) (n : Nat) : Prop :=
  ∀ (w : World) (g : Nat) (B : Nat → Prop) (σ : PS), Par w g B s nl σ → TB B w → s.size < n + σ.pos → Calls Tryz.prog f #[.pointer (some ⟨g, 0, none⟩)] w fun e w' => GotT w g B s nl (m σ) e w'
theorem OwnN.frP {B : Nat → Prop} {B' : Nat} {w w1 : World} {v : Value} {e : List Nd} (h : OwnN B' w v e) (hf : FrP B w w1) : OwnN B' w1 v e := h.fr hf (by decide)
set_option maxRecDepth 100000 in
set_option maxHeartbeats 8000000 in
theorem paren_any (s : ByteArray) (nl : Bool) (sum : Pr Tr) (n : Nat) (hs : Meets 93 s nl sum n) : Meets 177 s nl (Od.paren nl s.data.toList sum) (n + 1) := by
  intro w g B σ h hT hn
  have HP := Aside.mk h
  have HTB := Aside.mk hT
  have HS := Aside.mk hs
  have HN := Aside.mk hn
  clear h hT hs hn
  go_enter Tryz.func177, Tryz.ntmps177
  go_wp2_with fail
  refine (expect_any w g B s nl σ HP.out ⟨#[40]⟩).mono ?_
  rintro e w1 hg
  rw [show (⟨#[40]⟩ : ByteArray).data.toList = [40] from rfl] at hg
  cases hx : Od.expect nl s.data.toList [40] σ with
  | err c o =>
    have HX := Aside.mk hx
    rw [hx] at hg
    clear hx
    obtain ⟨hf, rfl⟩ := hg
    have HF := Aside.mk hf
    clear hf
    go_wp2_with fail
    unfold Od.paren Pr.bind
    rw [HX.out]
    exact ⟨rfl, HF.out, rfl⟩
  | ok a σ1 =>
    have HX := Aside.mk hx
    rw [hx] at hg
    obtain ⟨hf, ⟨u, rfl, rfl⟩, hP1⟩ := hg
    have HF := Aside.mk hf
    have HP1 := Aside.mk hP1
    have HG := Aside.mk (Goes.expect (nl := nl) (L := s.data.toList) [40] σ a σ1 HP.out.le hx)
    clear hf hP1 hx
    go_wp2_with fail
    refine (HS.out w1 g B σ1 HP1.out (HTB.out.fr HF.out) (by have := HG.out.1; have := HN.out; omega)).mono ?_
    rintro e w2 hg
    cases hy : sum σ1 with
    | err c o =>
      have HY := Aside.mk hy
      rw [hy] at hg
      clear hy
      obtain ⟨hf, rfl⟩ := hg
      have HF2 := Aside.mk (HF.out.trans hf)
      clear hf
      go_wp2_with fail
      unfold Od.paren Pr.bind
      rw [HX.out]
      simp only
      rw [HY.out]
      exact ⟨rfl, HF2.out, rfl⟩
    | ok t σ2 =>
      have HY := Aside.mk hy
      rw [hy] at hg
      clear hy
      obtain ⟨hf, ⟨u, rfl, ho⟩, hP2⟩ := hg
      have HF2 := Aside.mk (HF.out.trans hf)
      have HP2 := Aside.mk hP2
      have HO := Aside.mk (OwnN.mono ho HF.out.size)
      clear hf hP2 ho
      go_wp2_with fail
      refine (expect_any w2 g B s nl σ2 HP2.out ⟨#[41]⟩).mono ?_
      rintro e w3 hg
      rw [show (⟨#[41]⟩ : ByteArray).data.toList = [41] from rfl] at hg
      cases hz : Od.expect nl s.data.toList [41] σ2 with
      | err c o =>
        have HZ := Aside.mk hz
        rw [hz] at hg
        clear hz
        obtain ⟨hf, rfl⟩ := hg
        have HF3 := Aside.mk (HF2.out.trans hf)
        clear hf
        go_wp2_with fail
        unfold Od.paren Pr.bind
        rw [HX.out]
        simp only
        rw [HY.out]
        simp only
        rw [HZ.out]
        exact ⟨rfl, HF3.out, rfl⟩
      | ok a3 σ3 =>
        have HZ := Aside.mk hz
        rw [hz] at hg
        clear hz
        obtain ⟨hf, ⟨u3, rfl, rfl⟩, hP3⟩ := hg
        have HF3 := Aside.mk (HF2.out.trans hf)
        have HO3 := Aside.mk (HO.out.frP hf)
        have HP3 := Aside.mk hP3
        clear hf hP3
        go_wp2_with fail
        go_ret
        unfold Od.paren Pr.bind
        rw [HX.out]
        simp only
        rw [HY.out]
        simp only
        rw [HZ.out]
        exact ⟨HF3.out, ⟨_, rfl, HO3.out⟩, HP3.out⟩
end Go.Proofs.YthcidkidpiaomaaGreatDoor.Od
end
section
set_option linter.unusedVariables false
namespace Go.Proofs.YthcidkidpiaomaaGreatDoor.Od
section
variable {nl : Bool} {L : List UInt8}
theorem flat_ne (t : Tr) : flat t ≠ [] := by cases t <;> simp [flat]
def Gr (L : List UInt8) (c : Nat) (m : Pr Tr) : Prop := ∀ s t s', s.pos ≤ L.length → m s = .ok t s' → s.pos + (flat t).length ≤ s'.pos + c ∧ s'.pos ≤ L.length
theorem Gr.ret (e : Tr) : Gr L (flat e).length (Pr.ret e) := fun s t s' hs hm => by cases hm; exact ⟨Nat.le_refl _, hs⟩
theorem Gr.fail (c : Nat) : Gr L c (fail nl L : Pr Tr) := fun s t s' _ hm => by cases hm
theorem Gr.bindG {α : Type} {d c : Nat} {m : Pr α} (h : Goes L d m) {f : α → Pr Tr} (k : ∀ a, Gr L (c + d) (f a)) : Gr L c (m.bind f) := fun s t s' hs hm => by
  unfold Pr.bind at hm
  cases hc : m s with
  | err c o => rw [hc] at hm; cases hm
  | ok a s1 =>
    rw [hc] at hm
    have h1 := h s a s1 hs hc
    have h2 := k a s1 t s' h1.2 hm
    omega
theorem Gr.bindT {c : Nat} {m : Pr Tr} (h : Gr L 0 m) {f : Tr → Pr Tr} (k : ∀ a, Gr L (c + (flat a).length) (f a)) : Gr L c (m.bind f) := fun s t s' hs hm => by
  unfold Pr.bind at hm
  cases hc : m s with
  | err c o => rw [hc] at hm; cases hm
  | ok a s1 =>
    rw [hc] at hm
    have h1 := h s a s1 hs hc
    have h2 := k a s1 t s' h1.2 hm
    omega
theorem Gr.mono {c c' : Nat} {m : Pr Tr} (h : Gr L c m) (hc : c ≤ c') : Gr L c' m := fun s t s' hs hm => by have := h s t s' hs hm; omega
theorem Gr.paren {sum : Pr Tr} (h : Gr L 0 sum) : Gr L 0 (Od.paren nl L sum) :=
  Gr.bindG ((Goes.expect [40]).mono (Nat.zero_le _)) fun _ => Gr.bindT h fun e => Gr.bindG ((Goes.expect [41]).mono (Nat.zero_le _)) fun _ => (Gr.ret e).mono (by omega)
theorem Gr.bounds : Gr L 0 (Od.bounds nl L) :=
  Gr.bindG Goes.signed fun a => Gr.bindG ((Goes.expect [44]).mono (Nat.zero_le _)) fun _ => Gr.bindG (Goes.signed.mono (Nat.zero_le _)) fun b => Gr.bindG ((Goes.expect [93]).mono (Nat.zero_le _)) fun _ => (Gr.ret (Tr.num a.1 b.2)).mono (by simp [flat])
theorem Gr.un {sum : Pr Tr} (op : Int) (h : Gr L 0 sum) (s : PS) (t : Tr) (s' : PS) (hs : s.pos ≤ L.length) (hm : (sum.map (Tr.un op)) s = .ok t s') : s.pos + (flat t).length ≤ s'.pos + 1 ∧ s'.pos ≤ L.length := by
  unfold Pr.map Pr.bind at hm
  cases hc : sum s with
  | err c o => rw [hc] at hm; cases hm
  | ok a s1 =>
    rw [hc] at hm
    have h1 := h s a s1 hs hc
    cases hm
    simp only [flat, List.length_cons]
    omega
theorem Gr.atom {sum : Pr Tr} (h : Gr L 0 sum) : Gr L 0 (Od.atom nl L sum) := fun s b s' hs hm => by
  have hg := peekT_ge nl L s.pos
  have ho := peekT_ok nl L s.pos hs
  have hlo : (peekT nl L s.pos).lo ≤ L.length := by have := ho.le; have := ho.len; omega
  have hln := ho.len
  unfold Od.atom at hm
  simp only at hm
  split at hm
  · unfold Pr.map Pr.bind at hm
    cases hc : Od.number nl L { s with pos := (peekT nl L s.pos).lo } with
    | err c o => rw [hc] at hm; cases hm
    | ok a s1 =>
      rw [hc] at hm
      have h1 := Goes.number _ _ _ (by exact hlo) hc
      cases hm
      simp only [flat, List.length_cons, List.length_nil] at h1 ⊢
      omega
  split at hm
  · rename_i ht
    have h1 := isTok_hi hs ht
    simp only [List.length_cons, List.length_nil] at h1
    have := Gr.bounds _ _ _ (by show (peekT nl L s.pos).lo + 1 ≤ L.length; omega) hm
    simp only at this
    omega
  split at hm
  · rename_i ht
    have h1 := isTok_hi hs ht
    cases hm
    simp only [wAll, flat, List.length_cons, List.length_nil] at h1 ⊢
    omega
  split at hm
  · rename_i ht
    have h1 := isTok_hi hs ht
    cases hm
    simp only [wT, flat, List.length_cons, List.length_nil] at h1 ⊢
    omega
  split at hm
  · rename_i ht
    have h1 := isTok_hi hs ht
    simp only [wSqr, List.length_cons, List.length_nil] at h1
    have := Gr.un 5 (Gr.paren h) _ _ _ (by show (peekT nl L s.pos).lo + 3 ≤ L.length; omega) hm
    simp only at this
    omega
  split at hm
  · rename_i ht
    have h1 := isTok_hi hs ht
    simp only [wSqrt, List.length_cons, List.length_nil] at h1
    have := Gr.un 6 (Gr.paren h) _ _ _ (by show (peekT nl L s.pos).lo + 4 ≤ L.length; omega) hm
    simp only at this
    omega
  split at hm
  · rename_i hk
    cases hm
    have := ho.some (Or.inl hk)
    simp only [flat, List.length_cons, List.length_nil]
    omega
  split at hm
  · have := (Gr.paren h) _ _ _ (by exact hlo) hm
    simp only at this
    omega
  · cases hm
theorem Gr.factor {sum : Pr Tr} (h : Gr L 0 sum) : ∀ k, Gr L 0 (Od.factor nl L sum k)
  | 0 => Gr.fail _
  | k + 1 => fun s t s' hs hm => by
    unfold Od.factor Pr.bind at hm
    cases hc : Od.accept nl L [45] s with
    | err c o => rw [hc] at hm; cases hm
    | ok a s1 =>
      rw [hc] at hm
      cases a with
      | true =>
        have h1 := accept_true hs hc
        have h2 := Gr.un 4 (Gr.factor h k) s1 t s' h1.2 hm
        omega
      | false =>
        have h1 := Goes.accept [45] s false s1 hs hc
        have h2 := Gr.atom h s1 t s' h1.2 hm
        omega
theorem Gr.chain {op : Pr Tr} (h : Gr L 0 op) (c e : List UInt8) (f g : Int) : ∀ k t, Gr L (flat t).length (Od.chain nl L op c e f g k t)
  | 0, t => Gr.fail _
  | k + 1, t => fun s u s' hs hm => by
    have go : ∀ (o : Int) (s1 : PS), s.pos + 1 ≤ s1.pos → s1.pos ≤ L.length → (op.bind fun r => Od.chain nl L op c e f g k (Tr.bin o t r)) s1 = .ok u s' → s.pos + (flat u).length ≤ s'.pos + (flat t).length ∧ s'.pos ≤ L.length := fun o s1 h1 h2 hm => by
      unfold Pr.bind at hm
      cases hc : op s1 with
      | err c o => rw [hc] at hm; cases hm
      | ok r s2 =>
        rw [hc] at hm
        have h3 := h s1 r s2 h2 hc
        have h4 := Gr.chain h c e f g k (Tr.bin o t r) s2 u s' h3.2 hm
        simp only [flat, List.length_cons, List.length_append] at h4
        omega
    unfold Od.chain at hm
    simp only [Pr.bind] at hm
    cases hc : Od.accept nl L c s with
    | err c o => simp only [hc] at hm; cases hm
    | ok a s1 =>
      simp only [hc] at hm
      cases a with
      | true => have h1 := accept_true hs hc; exact go f s1 h1.1 h1.2 hm
      | false =>
        have h1 := Goes.accept c s false s1 hs hc
        simp only [Bool.false_eq_true, if_false] at hm
        simp only [Pr.bind] at hm
        cases hd : Od.accept nl L e s1 with
        | err c o => simp only [hd] at hm; cases hm
        | ok b s2 =>
          simp only [hd] at hm
          cases b with
          | true => have h2 := accept_true h1.2 hd; exact go g s2 (by omega) h2.2 hm
          | false =>
            have h2 := Goes.accept e s1 false s2 h1.2 hd
            simp only [Bool.false_eq_true, if_false] at hm
            cases hm
            omega
theorem Gr.product {sum : Pr Tr} (h : Gr L 0 sum) (k : Nat) : Gr L 0 (Od.product nl L sum k) :=
  Gr.bindT (Gr.factor h k) fun e => (Gr.chain (Gr.factor h k) [42] [47] 9 10 k e).mono (by omega)
theorem Gr.sum : ∀ n, Gr L 0 (Od.sum nl L n)
  | 0 => Gr.fail _
  | n + 1 => Gr.bindT (Gr.product (Gr.sum n) (L.length + 1)) fun e => (Gr.chain (Gr.product (Gr.sum n) (L.length + 1)) [43] [45] 7 8 (L.length + 1) e).mono (by omega)
end
end Go.Proofs.YthcidkidpiaomaaGreatDoor.Od
end
