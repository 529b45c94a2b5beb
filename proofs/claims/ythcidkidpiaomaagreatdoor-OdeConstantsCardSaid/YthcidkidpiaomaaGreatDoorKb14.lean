/- OdC OdD LayTwo -/
import Derived.Shelf.Spec.SlicesGrow
import Derived.Shelf.Strings.SlTrimAscii
import Derived.Test.YthcidkidpiaomaaGreatDoorProg
import Derived.Test.YthcidkidpiaomaaGreatDoorKb11
section
set_option linter.unusedVariables false
set_option linter.unusedSimpArgs false
namespace Go.Proofs.YthcidkidpiaomaaGreatDoor.Od
open Go.RowKit Rg
theorem sub_extract (s : ByteArray) (a b : Nat) : (s.extract a b).data.toList = sub s.data.toList a b := by
  rw [ByteArray.data_extract, Array.toList_extract, List.extract_eq_take_drop]; rfl
def tokX (s : ByteArray) (t : Tok) : ByteArray := if t.kind = 0 ∨ t.kind = 4 then ⟨#[]⟩ else s.extract t.lo t.hi
theorem tokX_list (s : ByteArray) (t : Tok) : (tokX s t).data.toList = t.txt s.data.toList := by
  unfold tokX Tok.txt
  split
  · rfl
  · exact sub_extract _ _ _
theorem tokV_eq (s : ByteArray) (t : Tok) : tokV s t = .agg #[.int .i64 t.kind, .string (tokX s t), .int .i64 (t.lo : Nat)] := rfl
theorem isTok_x (nl : Bool) (s t : ByteArray) (p : Nat) : isTok nl s.data.toList t.data.toList p = (((peekT nl s.data.toList p).kind == 3 || (peekT nl s.data.toList p).kind == 1) && ((tokX s (peekT nl s.data.toList p)).toList == t.toList)) := by
  unfold isTok
  simp only
  rw [← tokX_list, ByteArray.toList_eq, ByteArray.toList_eq]
theorem got_no {α : Type} {w w1 : World} {g : Nat} {B : Nat → Prop} {s : ByteArray} {nl : Bool} {σ' : PS} {a : α} {u : Value} {val : α → Value → World → Prop} (o : Obj) (hf : FrQ B w w1) (hP : Par w1 g B s nl σ') (h3 : Same3 g w w1) (hv : val a u (w1.alloc o)) :
    GotQ w g B s nl (.ok a σ') val (.returned u) (w1.alloc o) ∧ Same3 g w (w1.alloc o) :=
  ⟨⟨hf.trans (Fr.of ((Below.refl _ _).alloc (Nat.le_refl _) _)), ⟨u, rfl, hv⟩, hP.below ((Below.refl _ _).alloc (Nat.le_refl _) _)⟩, by
    obtain ⟨v, hh, -⟩ := hP.here
    unfold Same3 at *
    rw [← h3, ((Below.refl w1.heap.size w1).alloc (Nat.le_refl _) o).cell (p := ⟨g, 3, none⟩) (lt_of hh)]⟩
theorem got_yes {α : Type} {w w1 : World} {g : Nat} {B : Nat → Prop} {s : ByteArray} {nl : Bool} {σ' : PS} {a : α} {u : Value} {val : α → Value → World → Prop} (o : Obj) (q : Nat) (x : Int) (hx : x = (q : Nat)) (hq : q ≤ s.size) (hge : σ'.pos ≤ q) (hf : FrQ B w w1) (hP : Par w1 g B s nl σ') (h3 : Same3 g w w1) (hv : val a u ((w1.setCell ⟨g, 1, none⟩ (.int .i64 x)).alloc o)) :
    GotQ w g B s nl (.ok a { σ' with pos := q }) val (.returned u) ((w1.setCell ⟨g, 1, none⟩ (.int .i64 x)).alloc o) ∧ Same3 g w ((w1.setCell ⟨g, 1, none⟩ (.int .i64 x)).alloc o) := by
  subst hx
  obtain ⟨v, hh, -⟩ := hP.here
  refine ⟨⟨(hf.trans (hP.frQ 1 _)).trans (Fr.of ((Below.refl _ _).alloc (Nat.le_refl _) _)), ⟨u, rfl, hv⟩, (hP.set q hq hge).below ((Below.refl _ _).alloc (Nat.le_refl _) _)⟩, ?_⟩
  have hr := row_cell (i := 1) hh (.int .i64 (q : Nat))
  unfold Same3 at *
  rw [← h3, cell_of_row w1 _ 3 _ _ _ hh, ((Below.refl _ (w1.setCell ⟨g, 1, none⟩ (.int .i64 (q : Nat)))).alloc (Nat.le_refl _) o).cell (p := ⟨g, 3, none⟩) (lt_of hr), cell_of_row _ _ 3 _ _ _ hr]; rfl
theorem Par.cells {w : World} {g : Nat} {B : Nat → Prop} {s : ByteArray} {nl : Bool} {σ : PS} (h : Par w g B s nl σ) : w.cell? ⟨g, 0, none⟩ = some (.string s) ∧ w.cell? ⟨g, 1, none⟩ = some (.int .i64 (σ.pos : Nat)) ∧ w.cell? ⟨g, 4, none⟩ = some (.bool σ.bad) ∧ g < w.heap.size ∧ w.frozen? ⟨g, 1, none⟩ = false ∧ w.frozen? ⟨g, 3, none⟩ = false ∧ w.frozen? ⟨g, 4, none⟩ = false := by
  obtain ⟨v, hh, ho⟩ := h.here
  exact ⟨by rw [cell_of_row w _ 0 _ _ _ hh]; rfl, by rw [cell_of_row w _ 1 _ _ _ hh]; rfl, by rw [cell_of_row w _ 4 _ _ _ hh]; rfl, lt_of hh, by simp [World.frozen?, hh], by simp [World.frozen?, hh], by simp [World.frozen?, hh]⟩
set_option maxRecDepth 100000 in
set_option maxHeartbeats 8000000 in
theorem accept_anyQ (w : World) (g : Nat) (B : Nat → Prop) (s : ByteArray) (nl : Bool) (σ : PS) (h : Par w g B s nl σ) (t : ByteArray) :
    Calls Tryz.prog 126 #[.pointer (some ⟨g, 0, none⟩), .string t] w fun e w' => GotQ w g B s nl (Od.accept nl s.data.toList t.data.toList σ) (fun b u _ => u = .bool b) e w' ∧ Same3 g w w' := by
  have HP := Aside.mk h
  clear h
  go_enter Tryz.func126, Tryz.ntmps126
  go_wp2_with fail
  refine (peek_anyQ w g B s nl σ HP.out).mono ?_
  rintro e w1 ⟨rfl, hf, hP, h3⟩
  have HF := Aside.mk hf
  have HP1 := Aside.mk hP
  have HS3 := Aside.mk h3
  clear hf hP h3
  have HT := Aside.mk (isTok_x nl s t σ.pos)
  have HHI := Aside.mk (fun h => (⟨(isTok_hi (nl := nl) (t := t.data.toList) (show σ.pos ≤ s.data.toList.length from HP.out.le) h).1, (peekT_ok nl s.data.toList σ.pos HP.out.le).len⟩ : (peekT nl s.data.toList σ.pos).lo + t.data.toList.length = (peekT nl s.data.toList σ.pos).hi ∧ (peekT nl s.data.toList σ.pos).hi ≤ s.data.toList.length))
  have HA : Aside (Od.accept nl s.data.toList t.data.toList σ = if isTok nl s.data.toList t.data.toList σ.pos then .ok true { σ with pos := (peekT nl s.data.toList σ.pos).lo + t.data.toList.length } else .ok false { σ with pos := (peekT nl s.data.toList σ.pos).lo }) := ⟨rfl⟩
  rw [tokV_eq]
  obtain ⟨K, hK⟩ : ∃ K, (peekT nl s.data.toList σ.pos).kind = K := ⟨_, rfl⟩
  obtain ⟨x, hx⟩ : ∃ x, tokX s (peekT nl s.data.toList σ.pos) = x := ⟨_, rfl⟩
  obtain ⟨q, hq⟩ : ∃ q, (peekT nl s.data.toList σ.pos).lo = q := ⟨_, rfl⟩
  rw [hK, hx] at HT
  rw [hq] at HP1 HHI HA
  rw [hK, hx, hq]
  clear hK hx hq
  obtain ⟨-, c1, -, hlg, hfz, -, -⟩ := HP1.out.cells
  simp only at c1
  have hcases : (K = 3 ∨ K = 1) ∨ (K ≠ 3 ∧ K ≠ 1) := by omega
  rcases hcases with hk | ⟨h3, h1⟩
  · cases hxt : (x.toList == t.toList) with
    | true =>
      have HY : Aside (isTok nl s.data.toList t.data.toList σ.pos = true) := ⟨by rw [HT.out, hxt]; rcases hk with rfl | rfl <;> rfl⟩
      have hb := HHI.out HY.out
      have hqt : (q : Int) + (t.size : Int) ≤ (s.size : Int) := by have h1 : t.data.toList.length = t.size := rfl; have h2 : s.data.toList.length = s.size := rfl; omega
      have hs8 : (s.size : Int) ≤ 8000 := by have := HP1.out.len; omega
      have HQ : Aside (q + t.data.toList.length ≤ s.size) := ⟨by have h1 : t.data.toList.length = t.size := rfl; omega⟩
      clear hb HT
      rcases hk with rfl | rfl
      all_goals
        go_wp2_with fail
        go_ret
        rw [HA.out, if_pos HY.out]
        exact got_yes (val := fun b u _ => u = .bool b) (a := true) (u := .bool true) (σ' := { σ with pos := q }) _ (q + t.data.toList.length) _ (by show (q : Int) + (t.size : Int) = ((q + t.size : Nat) : Int); omega) HQ.out (by show q ≤ q + t.data.toList.length; omega) HF.out HP1.out HS3.out rfl
    | false =>
      have HY : Aside (isTok nl s.data.toList t.data.toList σ.pos = false) := ⟨by rw [HT.out, hxt]; simp⟩
      clear HT
      rcases hk with rfl | rfl
      all_goals
        go_wp2_with fail
        go_ret
        rw [HA.out, if_neg (by rw [HY.out]; simp)]
        exact got_no _ HF.out HP1.out HS3.out rfl
  · have b3 : (K == 3) = false := by rw [beq_eq_false_iff_ne]; exact h3
    have b1 : (K == 1) = false := by rw [beq_eq_false_iff_ne]; exact h1
    have HY : Aside (isTok nl s.data.toList t.data.toList σ.pos = false) := ⟨by rw [HT.out, b3, b1]; rfl⟩
    clear HT
    go_wp2_with fail
    go_ret
    rw [HA.out, if_neg (by rw [HY.out]; simp)]
    exact got_no _ HF.out HP1.out HS3.out rfl
theorem accept_any (w : World) (g : Nat) (B : Nat → Prop) (s : ByteArray) (nl : Bool) (σ : PS) (h : Par w g B s nl σ) (t : ByteArray) :
    Calls Tryz.prog 126 #[.pointer (some ⟨g, 0, none⟩), .string t] w fun e w' => Got w g B s nl (Od.accept nl s.data.toList t.data.toList σ) (fun b u _ => u = .bool b) e w' :=
  (accept_anyQ w g B s nl σ h t).mono fun e w' h => h.1.got
set_option maxRecDepth 100000 in
set_option maxHeartbeats 8000000 in
theorem fail_any {α : Type} (val : α → Value → World → Prop) (w : World) (g : Nat) (B : Nat → Prop) (s : ByteArray) (nl : Bool) (σ : PS) (h : Par w g B s nl σ) :
    Calls Tryz.prog 95 #[.pointer (some ⟨g, 0, none⟩)] w fun e w' => Got w g B s nl (Od.fail nl s.data.toList σ : Res α) val e w' := by
  have HP := Aside.mk h
  clear h
  go_enter Tryz.func95, Tryz.ntmps95
  go_wp2_with fail
  refine (peek_any w g B s nl σ HP.out).mono ?_
  rintro e w1 ⟨rfl, hf, hP⟩
  have HF := Aside.mk hf
  clear hf hP
  have HA : Aside ((Od.fail nl s.data.toList σ : Res α) = .err (if (peekT nl s.data.toList σ.pos).kind = 0 then 71 else 70) (peekT nl s.data.toList σ.pos).lo) := ⟨rfl⟩
  rw [tokV_eq]
  obtain ⟨K, hK⟩ : ∃ K, (peekT nl s.data.toList σ.pos).kind = K := ⟨_, rfl⟩
  obtain ⟨x, hx⟩ : ∃ x, tokX s (peekT nl s.data.toList σ.pos) = x := ⟨_, rfl⟩
  obtain ⟨q, hq⟩ : ∃ q, (peekT nl s.data.toList σ.pos).lo = q := ⟨_, rfl⟩
  rw [hK, hq] at HA
  rw [hK, hx, hq]
  clear hK hx hq
  by_cases h0 : K = 0
  · subst h0
    go_wp2_with fail
    rw [HA.out]
    exact ⟨rfl, HF.out.trans (Fr.of ((Below.refl _ _).alloc (Nat.le_refl _) _)), rfl⟩
  · have b0 : (K == 0) = false := by rw [beq_eq_false_iff_ne]; exact h0
    have HN := Aside.mk h0
    clear h0
    go_wp2_with fail
    rw [HA.out, if_neg HN.out]
    exact ⟨rfl, HF.out.trans (Fr.of ((Below.refl _ _).alloc (Nat.le_refl _) _)), rfl⟩
theorem accept_eq (nl : Bool) (L t : List UInt8) (σ : PS) : ∃ b σ', Od.accept nl L t σ = .ok b σ' := by
  unfold Od.accept
  split
  · exact ⟨_, _, rfl⟩
  · exact ⟨_, _, rfl⟩
set_option maxRecDepth 100000 in
set_option maxHeartbeats 8000000 in
theorem expect_any (w : World) (g : Nat) (B : Nat → Prop) (s : ByteArray) (nl : Bool) (σ : PS) (h : Par w g B s nl σ) (t : ByteArray) :
    Calls Tryz.prog 152 #[.pointer (some ⟨g, 0, none⟩), .string t] w fun e w' => Got w g B s nl (Od.expect nl s.data.toList t.data.toList σ) (fun _ u _ => u = .tuple #[]) e w' := by
  have HP := Aside.mk h
  clear h
  obtain ⟨b, σ', ha⟩ := accept_eq nl s.data.toList t.data.toList σ
  have HA := Aside.mk ha
  clear ha
  go_enter Tryz.func152, Tryz.ntmps152
  go_wp2_with fail
  refine (accept_any w g B s nl σ HP.out t).mono ?_
  rintro e w1 hg
  rw [HA.out] at hg
  obtain ⟨hf, ⟨u, rfl, rfl⟩, hP1⟩ := hg
  have HF := Aside.mk hf
  have HP1 := Aside.mk hP1
  clear hf hP1
  cases b with
  | true =>
    have HE : Aside (Od.expect nl s.data.toList t.data.toList σ = .ok () σ') := ⟨by unfold Od.expect Pr.bind; rw [HA.out]; rfl⟩
    go_wp2_with fail
    rw [HE.out]
    go_end0
    exact ⟨HF.out, ⟨_, rfl, rfl⟩, HP1.out⟩
  | false =>
    have HE : Aside (Od.expect nl s.data.toList t.data.toList σ = Od.fail nl s.data.toList σ') := ⟨by unfold Od.expect Pr.bind; rw [HA.out]; rfl⟩
    go_wp2_with fail
    refine (fail_any (α := Unit) (fun _ _ _ => True) w1 g B s nl σ' HP1.out).mono ?_
    rintro e w2 ⟨hf2, rfl⟩
    have HF2 := Aside.mk hf2
    clear hf2
    go_wp2_with fail
    rw [HE.out]
    exact ⟨rfl, HF.out.trans HF2.out, rfl⟩
end Go.Proofs.YthcidkidpiaomaaGreatDoor.Od
end
section
set_option linter.unusedVariables false
set_option linter.unusedSimpArgs false
namespace Go.Proofs.YthcidkidpiaomaaGreatDoor.Od
open Go.RowKit Rg
structure TB (B : Nat → Prop) (w : World) : Prop where
  tabs : Fx.Tabs w
  pow : B 5
  rng : B 9
theorem var?_keep {P : Program} {g : Nat} {W W' : World} {n : String} {cs : Array Value} (h : W'.heap[g]? = W.heap[g]?) (hg : P.globalNamed n = some g) (hv : W.var? P n = some cs) : W'.var? P n = some cs := by
  unfold World.var? at hv ⊢
  simp only [hg, Option.bind_some] at hv ⊢
  rw [h]; exact hv
theorem TB.fr {B : Nat → Prop} {w w1 : World} (h : TB B w) (hf : FrP B w w1) : TB B w1 := by
  obtain ⟨⟨hp, tp, p, hr⟩, h1, h2⟩ := h
  have keep : ∀ g, B g → g < w.heap.size → w1.heap[g]? = w.heap[g]? := fun g hg hlt => by
    rw [Array.getElem?_eq_getElem hlt]
    exact hf.block g _ (Array.getElem?_eq_getElem hlt) (Or.inl hg)
  exact ⟨⟨var?_keep (keep _ h1 (Fx.var_lt Fx.gPow hp)) Fx.gPow hp, tp, p, var?_keep (keep _ h2 (Fx.var_lt Fx.gRange hr)) Fx.gRange hr⟩, h1, h2⟩
theorem TB.of {w : World} (h : Fx.Tabs w) : TB (fun k => k < w.heap.size) w := ⟨h, Fx.var_lt Fx.gPow h.pow, (by obtain ⟨-, tp, p, hr⟩ := h; exact Fx.var_lt Fx.gRange hr)⟩
theorem Par.set4 {w : World} {g : Nat} {B : Nat → Prop} {s : ByteArray} {nl : Bool} {σ : PS} (h : Par w g B s nl σ) (b : Bool) : Par (w.setCell ⟨g, 4, none⟩ (.bool b)) g B s nl { σ with bad := b } := by
  obtain ⟨v, hh, ho⟩ := h.here
  exact ⟨⟨v, row_cell hh _, ⟨owns_set ho.1 hh (by decide), ho.2⟩⟩, h.le, h.base, h.len, h.few, fun k hk => by simpa [World.setCell] using h.bnd k hk⟩
set_option maxRecDepth 100000 in
set_option maxHeartbeats 8000000 in
theorem number_any (w : World) (g : Nat) (B : Nat → Prop) (s : ByteArray) (nl : Bool) (σ : PS) (h : Par w g B s nl σ) (hT : TB B w) :
    Calls Tryz.prog 174 #[.pointer (some ⟨g, 0, none⟩)] w fun e w' => Got w g B s nl (Od.number nl s.data.toList σ) (fun a u _ => u = .tuple #[.int .i64 a.1, .int .i64 a.2]) e w' := by
  have HP := Aside.mk h
  have HTB := Aside.mk hT
  clear h hT
  go_enter Tryz.func174, Tryz.ntmps174
  go_wp2_with fail
  refine (peek_any w g B s nl σ HP.out).mono ?_
  rintro e w1 ⟨rfl, hf, hP⟩
  have HF := Aside.mk hf
  have HP1 := Aside.mk hP
  clear hf hP
  have hok := peekT_ok nl s.data.toList σ.pos HP.out.le
  by_cases hk2 : (peekT nl s.data.toList σ.pos).kind = 2
  · have HA : Aside (Od.number nl s.data.toList σ = .ok ((Fx.parseL (sub s.data.toList (peekT nl s.data.toList σ.pos).lo (peekT nl s.data.toList σ.pos).hi)).1, (Fx.parseL (sub s.data.toList (peekT nl s.data.toList σ.pos).lo (peekT nl s.data.toList σ.pos).hi)).2.1) ⟨(peekT nl s.data.toList σ.pos).hi, σ.names, σ.bad || decide ((Fx.parseL (sub s.data.toList (peekT nl s.data.toList σ.pos).lo (peekT nl s.data.toList σ.pos).hi)).2.2.2 ≠ 0)⟩) := ⟨by unfold Od.number; simp only; rw [if_pos hk2]⟩
    have hxx : tokX s (peekT nl s.data.toList σ.pos) = s.extract (peekT nl s.data.toList σ.pos).lo (peekT nl s.data.toList σ.pos).hi := by unfold tokX; rw [if_neg (by rw [hk2]; decide)]
    rw [tokV_eq, hk2, hxx]
    have hle := hok.le
    have hlen := hok.len
    obtain ⟨q, hq⟩ : ∃ q, (peekT nl s.data.toList σ.pos).lo = q := ⟨_, rfl⟩
    obtain ⟨E, hE⟩ : ∃ E, (peekT nl s.data.toList σ.pos).hi = E := ⟨_, rfl⟩
    rw [hq, hE] at HA hle
    rw [hE] at hlen
    rw [hq] at HP1
    rw [hq, hE]
    have hsl : s.data.toList.length = s.size := rfl
    obtain ⟨x, hx⟩ : ∃ x, s.extract q E = x := ⟨_, rfl⟩
    have hxl : sub s.data.toList q E = x.data.toList := by rw [← hx, sub_extract]
    have hxs : x.size = E - q := by rw [← hx, ByteArray.size_extract]; omega
    rw [hxl] at HA
    rw [hx]
    have HX := Aside.mk hxs
    have HQE := Aside.mk (And.intro hle (show E ≤ s.size by omega))
    have h8 := HP1.out.len
    have hw : IntKind.i64.wrap ((q : Int) + (x.size : Int)) = (q : Int) + (x.size : Int) := IntWalk.i64_in _ (by omega)
    obtain ⟨R, hR⟩ : ∃ R, Fx.parseL x.data.toList = R := ⟨_, rfl⟩
    rw [hR] at HA
    have HR := Aside.mk hR
    obtain ⟨r1, r2, r3, r4⟩ := R
    clear hok hk2 hxx hle hlen hq hE hsl hx hxl hxs h8 hR
    have hlt1 := HP1.out.cells.2.2.2.1
    go_wp2_with fail
    have hal : Below w1.heap.size w1 (w1.alloc (Obj.cells #[Value.int IntKind.i64 2, Value.string x, Value.int IntKind.i64 (q : Nat)] 108)) := (Below.refl _ _).alloc (Nat.le_refl _) _
    have HPW := Aside.mk (HP1.out.below hal)
    have HFW := Aside.mk (HF.out.trans (Fr.of hal))
    have hcx : (w1.alloc (Obj.cells #[Value.int IntKind.i64 2, Value.string x, Value.int IntKind.i64 (q : Nat)] 108)).cell? ⟨w1.heap.size, 1, none⟩ = some (.string x) := by rw [cell_of_row _ _ 1 _ _ _ (heap_alloc_last _ _)]; rfl
    have hgt : w1.heap.size < (w1.alloc (Obj.cells #[Value.int IntKind.i64 2, Value.string x, Value.int IntKind.i64 (q : Nat)] 108)).heap.size := by simp
    generalize (w1.alloc (Obj.cells #[Value.int IntKind.i64 2, Value.string x, Value.int IntKind.i64 (q : Nat)] 108)) = W at HPW HFW hcx hgt ⊢
    obtain ⟨gt, hgte⟩ : ∃ gt, w1.heap.size = gt := ⟨_, rfl⟩
    rw [hgte] at hcx hgt hlt1
    simp only [hgte]
    have hne : g ≠ gt := by omega
    have hne' : gt ≠ g := by omega
    obtain ⟨-, c1, -, hlg, -, -, -⟩ := HPW.out.cells
    simp only at c1
    clear hal hgte hlt1 HP1 HF
    refine region_list (T := tab2 [
        Sq.val (.pointer (some ⟨g, 0, none⟩)), Sq.val (.pointer (some ⟨g, 0, none⟩)), Sq.val (.pointer (some ⟨g, 1, none⟩)), Sq.val (.int .i64 (q : Nat)), Sq.val (.pointer (some ⟨gt, 1, none⟩)), Sq.val (.string x), Sq.val (.int .i64 (x.size : Nat)), Sq.val (.int .i64 ((q : Int) + (x.size : Int))), Sq.val (.pointer (some ⟨g, 0, none⟩)), Sq.val (.pointer (some ⟨g, 1, none⟩))]) 10
      [_, _, _, _, _, _, _, _, _, _, _] (by kernel_rfl) (by kernel_rfl) (by kernel_rfl) (by kernel_rfl) (by kernel_rfl) (by kernel_rfl) rfl ?_ ?_
    · refine AllIn.cons ?_ ?_
      · intro a w hz hb ho hg
        have e0 : a.tmps.getD 0 undef = .pointer (some ⟨g, 0, none⟩) := ho 0 (by kernel_rfl)
        have f0 := Rg.gd e0
        exact wv hb rfl (by simp [execOp, Act.eval, e0, f0, go_sem]) rfl
      refine AllIn.cons ?_ ?_
      · intro a w hz hb ho hg
        have e16 : a.tmps.getD 16 undef = .pointer (some ⟨g, 0, none⟩) := got_of hg (j := 0) rfl rfl rfl
        have f16 := Rg.gd e16
        exact wv hb rfl (by simp [execOp, Act.eval, e16, f16, go_sem]) rfl
      refine AllIn.cons ?_ ?_
      · intro a w hz hb ho hg
        have e17 : a.tmps.getD 17 undef = .pointer (some ⟨g, 0, none⟩) := got_of hg (j := 1) rfl rfl rfl
        have f17 := Rg.gd e17
        exact wv hb rfl (by simp [execOp, Act.eval, e17, f17, go_sem]) rfl
      refine AllIn.cons ?_ ?_
      · intro a w hz hb ho hg
        have e18 : a.tmps.getD 18 undef = .pointer (some ⟨g, 1, none⟩) := got_of hg (j := 2) rfl rfl rfl
        have f18 := Rg.gd e18
        have q := (hb.cell (p := ⟨g, 1, none⟩) hlg).trans c1
        exact wv hb rfl (by simp [execOp, Act.eval, e18, f18, q, go_sem]) rfl
      refine AllIn.cons ?_ ?_
      · intro a w hz hb ho hg
        have e4 : a.tmps.getD 4 undef = .pointer (some ⟨gt, 0, none⟩) := ho 4 (by kernel_rfl)
        have f4 := Rg.gd e4
        exact wv hb rfl (by simp [execOp, Act.eval, e4, f4, go_sem]) rfl
      refine AllIn.cons ?_ ?_
      · intro a w hz hb ho hg
        have e20 : a.tmps.getD 20 undef = .pointer (some ⟨gt, 1, none⟩) := got_of hg (j := 4) rfl rfl rfl
        have f20 := Rg.gd e20
        have q := (hb.cell (p := ⟨gt, 1, none⟩) hgt).trans hcx
        exact wv hb rfl (by simp [execOp, Act.eval, e20, f20, q, go_sem]) rfl
      refine AllIn.cons ?_ ?_
      · intro a w hz hb ho hg
        have e21 : a.tmps.getD 21 undef = .string x := got_of hg (j := 5) rfl rfl rfl
        have f21 := Rg.gd e21
        exact wv hb rfl (by simp [execOp, Act.eval, e21, f21, go_sem]) rfl
      refine AllIn.cons ?_ ?_
      · intro a w hz hb ho hg
        have e19 : a.tmps.getD 19 undef = .int .i64 (q : Nat) := got_of hg (j := 3) rfl rfl rfl
        have e22 : a.tmps.getD 22 undef = .int .i64 (x.size : Nat) := got_of hg (j := 6) rfl rfl rfl
        have f19 := Rg.gd e19
        have f22 := Rg.gd e22
        exact wv hb rfl (by simp [execOp, Act.eval, e19, e22, f19, f22, hw, go_sem]) rfl
      refine AllIn.cons ?_ ?_
      · intro a w hz hb ho hg
        have e16 : a.tmps.getD 16 undef = .pointer (some ⟨g, 0, none⟩) := got_of hg (j := 0) rfl rfl rfl
        have f16 := Rg.gd e16
        exact wv hb rfl (by simp [execOp, Act.eval, e16, f16, go_sem]) rfl
      refine AllIn.cons ?_ ?_
      · intro a w hz hb ho hg
        have e24 : a.tmps.getD 24 undef = .pointer (some ⟨g, 0, none⟩) := got_of hg (j := 8) rfl rfl rfl
        have f24 := Rg.gd e24
        exact wv hb rfl (by simp [execOp, Act.eval, e24, f24, go_sem]) rfl
      exact AllIn.nil
    intro a w4 hd hz hb ho hg
    have e16 : a.tmps.getD 16 undef = .pointer (some ⟨g, 0, none⟩) := hg 0 (by decide) _ _ rfl rfl
    have e17 : a.tmps.getD 17 undef = .pointer (some ⟨g, 0, none⟩) := hg 1 (by decide) _ _ rfl rfl
    have e18 : a.tmps.getD 18 undef = .pointer (some ⟨g, 1, none⟩) := hg 2 (by decide) _ _ rfl rfl
    have e19 : a.tmps.getD 19 undef = .int .i64 (q : Nat) := hg 3 (by decide) _ _ rfl rfl
    have e20 : a.tmps.getD 20 undef = .pointer (some ⟨gt, 1, none⟩) := hg 4 (by decide) _ _ rfl rfl
    have e21 : a.tmps.getD 21 undef = .string x := hg 5 (by decide) _ _ rfl rfl
    have e22 : a.tmps.getD 22 undef = .int .i64 (x.size : Nat) := hg 6 (by decide) _ _ rfl rfl
    have e23 : a.tmps.getD 23 undef = .int .i64 ((q : Int) + (x.size : Int)) := hg 7 (by decide) _ _ rfl rfl
    have e24 : a.tmps.getD 24 undef = .pointer (some ⟨g, 0, none⟩) := hg 8 (by decide) _ _ rfl rfl
    have e25 : a.tmps.getD 25 undef = .pointer (some ⟨g, 1, none⟩) := hg 9 (by decide) _ _ rfl rfl
    have hA := ho.frame hz
    simp only [List.take_succ_cons, List.take_zero, List.filterMap_cons, List.filterMap_nil, List.foldl_cons, List.foldl_nil, e16, e17, e18, e19, e20, e21, e22, e23, e24, e25, List.setIfInBounds_toArray, List.set_cons_zero, List.set_cons_succ] at hA
    obtain ⟨tm, df⟩ := a
    simp only at hd hA
    subst hd
    subst hA
    simp only [List.drop_succ_cons, List.drop_zero]
    have HH4 := Aside.mk hb
    clear hz ho hg hb e16 e17 e18 e19 e20 e21 e22 e23 e24 e25
    have HP4 := Aside.mk (HPW.out.below HH4.out)
    have HF4 := Aside.mk (HFW.out.trans (Fr.of HH4.out))
    have hcx := (HH4.out.cell (p := ⟨gt, 1, none⟩) hgt).trans hcx
    have hgt := Nat.lt_of_lt_of_le hgt HH4.out.size
    clear c1 hlg HH4 HPW HFW
    obtain ⟨-, c1, -, hlg, hz1, -, -⟩ := HP4.out.cells
    simp only at c1
    go_wp2_with fail
    have hxe : (q : Int) + (x.size : Int) = ((E : Nat) : Int) := by have := HX.out; have := HQE.out; omega
    rw [hxe]
    have HP5 := Aside.mk (HP4.out.set E HQE.out.2 HQE.out.1)
    have HF5 := Aside.mk (HF4.out.trans (HP4.out.fr 1 (.int .i64 (E : Nat))))
    generalize (w4.setCell ⟨g, 1, none⟩ (.int .i64 (E : Nat))) = W5 at HP5 HF5 ⊢
    refine (Fx.Parse_any x _ (by have := HX.out; have := HQE.out; have := HP4.out.len; omega) (HTB.out.fr HF5.out).tabs).mono ?_
    rw [HR.out]
    rintro e w6 ⟨rfl, hb6⟩
    have HP6 := Aside.mk (HP5.out.below hb6)
    have HF6 := Aside.mk (HF5.out.trans (Fr.of hb6))
    unfold Fx.tup4
    simp only
    clear hb6 c1 hlg hz1 hcx hgt hxe hw
    obtain ⟨-, -, c4, hlg, -, -, hz4⟩ := HP6.out.cells
    simp only at c4
    obtain ⟨bd, hbd⟩ : ∃ b, σ.bad = b := ⟨_, rfl⟩
    rw [hbd] at c4 HA
    have HBD := Aside.mk hbd
    clear hbd
    cases bd with
    | true =>
      go_wp2_with fail
      go_ret2
      rw [HA.out]
      exact ⟨HF6.out.trans (HP6.out.fr 4 _), ⟨_, rfl, rfl⟩, HP6.out.set4 true⟩
    | false =>
      go_wp2_with fail
      go_ret2
      rw [HA.out]
      have hd : decide (r4 ≠ 0) = !(r4 == 0) := by by_cases h : r4 = 0 <;> simp [h]
      show Got _ _ _ _ _ (.ok (r1, r2) ⟨E, σ.names, decide (r4 ≠ 0)⟩) _ _ _
      rw [hd]
      exact ⟨HF6.out.trans (HP6.out.fr 4 _), ⟨_, rfl, rfl⟩, HP6.out.set4 (!(r4 == 0))⟩
  · have HA : Aside (Od.number nl s.data.toList σ = Od.fail nl s.data.toList { σ with pos := (peekT nl s.data.toList σ.pos).lo }) := ⟨by unfold Od.number; simp only; rw [if_neg hk2]⟩
    rw [tokV_eq]
    obtain ⟨K, hK⟩ : ∃ K, (peekT nl s.data.toList σ.pos).kind = K := ⟨_, rfl⟩
    rw [hK] at hk2
    have hK2 : (K == 2) = false := by rw [beq_eq_false_iff_ne]; exact hk2
    obtain ⟨x, hx⟩ : ∃ x, tokX s (peekT nl s.data.toList σ.pos) = x := ⟨_, rfl⟩
    obtain ⟨q, hq⟩ : ∃ q, (peekT nl s.data.toList σ.pos).lo = q := ⟨_, rfl⟩
    rw [hK, hx, hq]
    rw [hq] at HA HP1
    clear hk2 hok hK hx hq
    go_wp2_with fail
    refine (fail_any (α := Int × Int) (fun _ _ _ => True) _ g B s nl _ (HP1.out.below ((Below.refl _ _).alloc (Nat.le_refl _) _))).mono ?_
    rintro e w2 ⟨hf2, rfl⟩
    have HF2 := Aside.mk ((HF.out.trans (Fr.of ((Below.refl _ _).alloc (Nat.le_refl _) _))).trans hf2)
    clear hf2
    go_wp2_with fail
    rw [HA.out]
    exact ⟨rfl, HF2.out, rfl⟩
theorem parseL_bd (l : List UInt8) : -2147483648 < (Fx.parseL l).1 ∧ (Fx.parseL l).1 < 2147483648 ∧ -2147483648 < (Fx.parseL l).2.1 ∧ (Fx.parseL l).2.1 < 2147483648 := by
  have hb := Fx.sf_bound 16 (Fx.frN l) 0 (Fx.dig_digs (Fx.frL_dig l)) (by omega)
  have h0 : 0 ≤ Fx.loN l := by unfold Fx.loN; omega
  have h1 : Fx.loN l ≤ Fx.hiN l := by unfold Fx.hiN; split <;> omega
  have h3 : Fx.parseL l = (0, 0, ((Fx.enN l : Nat) : Int), 10) ∨ Fx.parseL l = (0, 0, 0, 2) ∨ (Fx.hiN l < 2147483648 ∧ (Fx.parseL l = (-Fx.hiN l, -Fx.loN l, 0, 0) ∨ Fx.parseL l = (Fx.loN l, Fx.hiN l, 0, 0))) := by
    unfold Fx.parseL
    split
    · exact Or.inl rfl
    · split
      · exact Or.inr (Or.inl rfl)
      · rename_i h
        refine Or.inr (Or.inr ⟨by omega, ?_⟩)
        split
        · exact Or.inl rfl
        · exact Or.inr rfl
  obtain ⟨lo, hlo⟩ : ∃ x, Fx.loN l = x := ⟨_, rfl⟩
  obtain ⟨hi, hhi⟩ : ∃ x, Fx.hiN l = x := ⟨_, rfl⟩
  rw [hlo] at h0 h1 h3
  rw [hhi] at h1 h3
  rcases h3 with h | h | ⟨h2, h | h⟩ <;> rw [h] <;> simp only <;> omega
theorem number_small {nl : Bool} {L : List UInt8} {σ σ' : PS} {a b : Int} (h : Od.number nl L σ = .ok (a, b) σ') : IntKind.i64.wrap (-a) = -a ∧ IntKind.i64.wrap (-b) = -b := by
  unfold Od.number at h
  simp only at h
  split at h
  · injection h with h1 h2
    injection h1 with h3 h4
    have := parseL_bd (sub L (peekT nl L σ.pos).lo (peekT nl L σ.pos).hi)
    exact ⟨IntWalk.i64_in _ (by omega), IntWalk.i64_in _ (by omega)⟩
  · cases h
set_option maxRecDepth 100000 in
set_option maxHeartbeats 8000000 in
theorem signed_any (w : World) (g : Nat) (B : Nat → Prop) (s : ByteArray) (nl : Bool) (σ : PS) (h : Par w g B s nl σ) (hT : TB B w) :
    Calls Tryz.prog 176 #[.pointer (some ⟨g, 0, none⟩)] w fun e w' => Got w g B s nl (Od.signed nl s.data.toList σ) (fun a u _ => u = .tuple #[.int .i64 a.1, .int .i64 a.2]) e w' := by
  have HP := Aside.mk h
  have HTB := Aside.mk hT
  clear h hT
  obtain ⟨b, σ', ha⟩ := accept_eq nl s.data.toList [45] σ
  have HA := Aside.mk ha
  clear ha
  go_enter Tryz.func176, Tryz.ntmps176
  go_wp2_with fail
  refine (accept_any w g B s nl σ HP.out ⟨#[45]⟩).mono ?_
  rintro e w1 hg
  rw [show (⟨#[45]⟩ : ByteArray).data.toList = [45] from rfl, HA.out] at hg
  obtain ⟨hf, ⟨u, rfl, rfl⟩, hP1⟩ := hg
  have HF := Aside.mk hf
  have HP1 := Aside.mk hP1
  clear hf hP1
  cases b with
  | true =>
    have HE : Aside (Od.signed nl s.data.toList σ = ((Od.number nl s.data.toList).map fun r => (-r.2, -r.1)) σ') := ⟨by unfold Od.signed Pr.bind; rw [HA.out]; rfl⟩
    go_wp2_with fail
    refine (number_any w1 g B s nl σ' HP1.out (HTB.out.fr HF.out)).mono ?_
    rintro e w2 hg
    cases hn : Od.number nl s.data.toList σ' with
    | ok a σ2 =>
      have HN := Aside.mk hn
      rw [hn] at hg
      clear hn
      obtain ⟨hf2, ⟨u, rfl, rfl⟩, hP2⟩ := hg
      have HF2 := Aside.mk (HF.out.trans hf2)
      have HP2 := Aside.mk hP2
      clear hf2 hP2
      obtain ⟨lo, hi⟩ := a
      have HNE := Aside.mk (number_small HN.out)
      have n1 := HNE.out.1
      have n2 := HNE.out.2
      go_wp2_with fail
      go_ret2
      rw [HE.out]
      unfold Pr.map Pr.bind
      rw [HN.out]
      exact ⟨HF2.out, ⟨_, rfl, rfl⟩, HP2.out⟩
    | err c o =>
      have HN := Aside.mk hn
      rw [hn] at hg
      clear hn
      obtain ⟨hf2, rfl⟩ := hg
      have HF2 := Aside.mk (HF.out.trans hf2)
      clear hf2
      go_wp2_with fail
      rw [HE.out]
      unfold Pr.map Pr.bind
      rw [HN.out]
      exact ⟨rfl, HF2.out, rfl⟩
  | false =>
    have HE : Aside (Od.signed nl s.data.toList σ = Od.number nl s.data.toList σ') := ⟨by unfold Od.signed Pr.bind; rw [HA.out]; rfl⟩
    go_wp2_with fail
    refine (number_any w1 g B s nl σ' HP1.out (HTB.out.fr HF.out)).mono ?_
    rintro e w2 hg
    cases hn : Od.number nl s.data.toList σ' with
    | ok a σ2 =>
      have HN := Aside.mk hn
      rw [hn] at hg
      clear hn
      obtain ⟨hf2, ⟨u, rfl, rfl⟩, hP2⟩ := hg
      have HF2 := Aside.mk (HF.out.trans hf2)
      have HP2 := Aside.mk hP2
      clear hf2 hP2
      go_wp2_with fail
      go_ret2
      rw [HE.out, HN.out]
      exact ⟨HF2.out, ⟨_, rfl, rfl⟩, HP2.out⟩
    | err c o =>
      have HN := Aside.mk hn
      rw [hn] at hg
      clear hn
      obtain ⟨hf2, rfl⟩ := hg
      have HF2 := Aside.mk (HF.out.trans hf2)
      clear hf2
      go_wp2_with fail
      rw [HE.out, HN.out]
      exact ⟨rfl, HF2.out, rfl⟩
end Go.Proofs.YthcidkidpiaomaaGreatDoor.Od
end
section
namespace Go.Proofs
open Go.Shelf
def Tryz.growNode_ren : Go.Shelf.Ren := ⟨fun | 4 => 173 | n => n, fun | 22 => 26 | 25 => 79 | 3 => 3 | 4 => 4 | 9 => 9 | 20 => 20 | 0 => 0 | n => n, fun | n => n⟩
theorem Tryz.growNode : Go.Proofs.Lays8.n4 Tryz.prog Tryz.growNode_ren := {
  mixed := by kernel_rfl
  f4 := ⟨Tryz.f173.name, by decide, Tryz.func173.trans (congrArg some (by kernel_rfl))⟩
  t0 := Tryz.underlying0
  a0 := Tryz.isAgg0
  z0 := Tryz.sizeOf0
  v0 := Tryz.zeroValue0
  t3 := Tryz.underlying3
  a3 := Tryz.isAgg3
  z3 := Tryz.sizeOf3
  v3 := Tryz.zeroValue3
  t4 := Tryz.underlying4
  a4 := Tryz.isAgg4
  z4 := Tryz.sizeOf4
  v4 := Tryz.zeroValue4
  t9 := Tryz.underlying9
  a9 := Tryz.isAgg9
  z9 := Tryz.sizeOf9
  v9 := Tryz.zeroValue9
  t20 := Tryz.underlying20
  a20 := Tryz.isAgg20
  z20 := Tryz.sizeOf20
  v20 := Tryz.zeroValue20
  t22 := Tryz.underlying26
  a22 := Tryz.isAgg26
  z22 := Tryz.sizeOf26
  v22 := Tryz.zeroValue26 }
def Tryz.trimLeft_ren : Go.Shelf.Ren := ⟨fun | 161 => 107 | 231 => 142 | 227 => 143 | 233 => 144 | 235 => 145 | 228 => 161 | 197 => 162 | 151 => 163 | 260 => 171 | 152 => 172 | 137 => 133 | 119 => 185 | 224 => 186 | 225 => 187 | 217 => 155 | 266 => 168 | n => n, fun | 9 => 9 | 4 => 4 | 3 => 3 | 5 => 5 | 117 => 159 | 116 => 158 | 0 => 0 | 124 => 162 | 105 => 182 | 21 => 21 | 119 => 195 | 46 => 174 | 139 => 198 | 138 => 197 | n => n, fun | 3 => 3 | 4 => 4 | n => n⟩
theorem Tryz.trimLeft : Go.Proofs.Lays.n161 Tryz.prog Tryz.trimLeft_ren := {
  mixed := by kernel_rfl
  f119 := Tryz.func185.trans (congrArg some (by kernel_rfl))
  f137 := Tryz.func133.trans (congrArg some (by kernel_rfl))
  f151 := Tryz.func163.trans (congrArg some (by kernel_rfl))
  f152 := Tryz.func172.trans (congrArg some (by kernel_rfl))
  f161 := Tryz.func107.trans (congrArg some (by kernel_rfl))
  f197 := Tryz.func162.trans (congrArg some (by kernel_rfl))
  f217 := Tryz.func155.trans (congrArg some (by kernel_rfl))
  f224 := Tryz.func186.trans (congrArg some (by kernel_rfl))
  f225 := Tryz.func187.trans (congrArg some (by kernel_rfl))
  f227 := Tryz.func143.trans (congrArg some (by kernel_rfl))
  f228 := Tryz.func161.trans (congrArg some (by kernel_rfl))
  f231 := Tryz.func142.trans (congrArg some (by kernel_rfl))
  f233 := Tryz.func144.trans (congrArg some (by kernel_rfl))
  f235 := Tryz.func145.trans (congrArg some (by kernel_rfl))
  f260 := Tryz.func171.trans (congrArg some (by kernel_rfl))
  f266 := Tryz.func168.trans (congrArg some (by kernel_rfl))
  t0 := Tryz.underlying0
  a0 := Tryz.isAgg0
  z0 := Tryz.sizeOf0
  v0 := Tryz.zeroValue0
  t3 := Tryz.underlying3
  a3 := Tryz.isAgg3
  z3 := Tryz.sizeOf3
  v3 := Tryz.zeroValue3
  t4 := Tryz.underlying4
  a4 := Tryz.isAgg4
  z4 := Tryz.sizeOf4
  v4 := Tryz.zeroValue4
  t5 := Tryz.underlying5
  a5 := Tryz.isAgg5
  z5 := Tryz.sizeOf5
  v5 := Tryz.zeroValue5
  t9 := Tryz.underlying9
  a9 := Tryz.isAgg9
  z9 := Tryz.sizeOf9
  v9 := Tryz.zeroValue9
  t21 := Tryz.underlying21
  a21 := Tryz.isAgg21
  z21 := Tryz.sizeOf21
  v21 := Tryz.zeroValue21
  t46 := Tryz.underlying174
  a46 := Tryz.isAgg174
  z46 := Tryz.sizeOf174
  v46 := Tryz.zeroValue174
  t105 := Tryz.underlying182
  a105 := Tryz.isAgg182
  z105 := Tryz.sizeOf182
  v105 := Tryz.zeroValue182
  t116 := Tryz.underlying158
  a116 := Tryz.isAgg158
  z116 := Tryz.sizeOf158
  t117 := Tryz.underlying159
  a117 := Tryz.isAgg159
  z117 := Tryz.sizeOf159
  v117 := Tryz.zeroValue159
  t119 := Tryz.underlying195
  a119 := Tryz.isAgg195
  z119 := Tryz.sizeOf195
  t124 := Tryz.underlying162
  a124 := Tryz.isAgg162
  z124 := Tryz.sizeOf162
  v124 := Tryz.zeroValue162
  t138 := Tryz.underlying197
  a138 := Tryz.isAgg197
  z138 := Tryz.sizeOf197
  v138 := Tryz.zeroValue197
  t139 := Tryz.underlying198
  a139 := Tryz.isAgg198
  z139 := Tryz.sizeOf198
  v139 := Tryz.zeroValue198
  g3 := by kernel_rfl
  g4 := by kernel_rfl }
end Go.Proofs
end
