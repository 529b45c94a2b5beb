/- The operations of a drawn region, one by one: what each yields. -/
import Derived.Test.YteljhjljigbcjaaGreatDoorReg
import Derived.Test.YteljhjljigbcjaaGreatDoorCvQ
set_option linter.unusedVariables false
namespace Go.Proofs.YteljhjljigbcjaaGreatDoor.Cv
open Go.RowKit Rg

theorem Txt.cells {w w' : World} {v : Value} {L : List UInt8} (h : Txt w v L) (hb : ∀ a v, w.cell? a = some v → w'.cell? a = some v) : Txt w' v L := by
  obtain ⟨ao, cap, hv, h0, h1, h2, hc⟩ := h
  exact ⟨ao, cap, hv, h0, h1, h2, fun b hb' j u hu => hb _ _ (hc b hb' j u hu)⟩
/-- what a slot holds: a value, a text, or whatever -/
inductive Sp
  | val (v : Value)
  | txt (L : List UInt8)
  | own (n : Nat) (L : List UInt8)
  | any
def Sp.ok : Sp → Value → World → Prop
  | .val v, u, _ => u = v
  | .txt L, u, w => Txt w u L
  | .own n L, u, w => Txt w u L ∧ ∃ ad k c, u = .slice (some ad) k c ∧ n ≤ ad.block
  | .any, _, _ => True
def tab (l : List Sp) : Tab := ⟨fun i v w => ((l[i]?).getD .any).ok v w, false, fun i v w w' h hb _ => by
  revert h
  generalize (l[i]?).getD .any = s
  intro h
  cases s with
  | val u => exact h
  | txt L => exact Txt.cells h hb
  | own n L => exact ⟨Txt.cells h.1 hb, h.2⟩
  | any => trivial⟩

section
variable {dst : Option Tmp} {type : TypeId} {pos : String} {after : Array Edge} {guard : Option (Nat × Bool)} {a : Act} {w : World}
theorem run_conv {t : Tmp} {L : List UInt8} (h : Txt w (a.tmps.getD t undef) L) : (execOp a.eval { dst, op := .convert 22 9 (.tmp t), type, pos, after, guard }).run Tryz.prog w = .ok (.value (.string (str L))) w := by
  have := conv_txt h
  simp only [execOp, Act.eval, this, Sem.run_bind, Sem.run_pure, Result.andThen_ok]
theorem run_move {x : Operand} {v : Value} (h : a.eval x = v) : (execOp a.eval { dst, op := .move x, type, pos, after, guard }).run Tryz.prog w = .ok (.value v) w := by
  subst h; rfl
theorem run_assign {x : Operand} {v : Value} (h : a.eval x = v) : (execOp a.eval { dst, op := .assign x, type, pos, after, guard }).run Tryz.prog w = .ok (.value v) w := by
  subst h; rfl
theorem run_pick {c x y : Operand} {v : Value} (hc : a.eval c = .bool true) (h : a.eval x = v) : (execOp a.eval { dst, op := .pick c x y, type, pos, after, guard }).run Tryz.prog w = .ok (.value v) w := by
  subst h
  simp only [execOp, hc]
  rfl
theorem run_not {x : Operand} {b : Bool} (h : a.eval x = .bool b) : (execOp a.eval { dst, op := .unOp .not 4 x, type, pos, after, guard }).run Tryz.prog w = .ok (.value (.bool (!b))) w := by
  simp only [execOp, h]
  rfl
theorem run_call {f : Nat} {xs : Array Operand} {ats : Array TypeId} {args : Array Value} (hf : ∀ args w, (callFunc f args).run Tryz.prog w = .ok (.enter f args) w) (h : #[] ++ xs.map a.eval ++ #[] = args) :
    (execOp a.eval { dst, op := .call { callee := .value (.func f), args := xs, argTypes := ats }, type, pos, after, guard }).run Tryz.prog w = .ok (.enter f args) w := by
  subst h
  exact hf _ _
theorem run_bin {op : BinOp} {T : TypeId} {x y : Operand} {u v r : Value} (hx : a.eval x = u) (hy : a.eval y = v) (hg : ∀ w, (eqGuard op T x y u v).run Tryz.prog w = .ok () w) (h : ∀ w, (binOp op T u v).run Tryz.prog w = .ok r w) :
    (execOp a.eval { dst, op := .binOp op T x y T, type, pos, after, guard }).run Tryz.prog w = .ok (.value r) w := by
  simp only [execOp, hx, hy, Sem.run_bind, hg, h, Result.andThen_ok, Sem.run_pure]
theorem run_field {T i : Nat} {x : Operand} {ad ad' : Addr} (hx : a.eval x = .pointer (some ad)) (h : (Instr.fieldAt T (.pointer (some ad)) i).run Tryz.prog w = .ok (.pointer (some ad')) w) : (execOp a.eval { dst, op := .fieldAddr T x i, type, pos, after, guard }).run Tryz.prog w = .ok (.value (.pointer (some ad'))) w := by
  simp only [execOp, hx, Sem.run_bind, h, Result.andThen_ok, Sem.run_pure]
theorem run_load {T : TypeId} {x : Operand} {ad : Addr} {v : Value} (hx : a.eval x = .pointer (some ad)) (h : (Instr.loadAt T (.pointer (some ad))).run Tryz.prog w = .ok v w) : (execOp a.eval { dst, op := .load T x, type, pos, after, guard }).run Tryz.prog w = .ok (.value v) w := by
  simp only [execOp, hx, Sem.run_bind, h, Result.andThen_ok, Sem.run_pure]
theorem run_lit {n : Nat} {parts : Array (Nat × Operand)} {L : List UInt8} (h : (Instr.buildSlice 22 n (parts.map fun x => (x.1, a.eval x.2))).run Tryz.prog w = .ok (.slice (some ⟨w.heap.size, 0, none⟩) n n) (w.alloc (.cells (Lib.byteCells L).toArray 5))) :
    (execOp a.eval { dst, op := .buildSlice 22 n parts, type, pos, after, guard }).run Tryz.prog w = .ok (.value (.slice (some ⟨w.heap.size, 0, none⟩) n n)) (w.alloc (.cells (Lib.byteCells L).toArray 5)) := by
  simp only [execOp, Sem.run_bind, h, Result.andThen_ok, Sem.run_pure]
theorem eq_int (k : IntKind) (T : TypeId) (x y : Operand) (u v : Int) (w : World) : (eqGuard .eql T x y (.int k u) (.int k v)).run Tryz.prog w = .ok () w := rfl
theorem eq_str (T : TypeId) (x y : Operand) (u v : ByteArray) (w : World) : (eqGuard .eql T x y (.string u) (.string v)).run Tryz.prog w = .ok () w := rfl
theorem bin_str (u : ByteArray) (w : World) : (binOp .eql 9 (.string u) (.string u)).run Tryz.prog w = .ok (.bool true) w := by
  simp [binOp, go_sem, Op.stringOp]
theorem bin_int (u : Int) (w : World) : (binOp .eql 3 (.int .i64 u) (.int .i64 u)).run Tryz.prog w = .ok (.bool true) w := by
  simp [binOp, go_sem]
theorem bin_err (u : Int) (w : World) : (binOp .eql 31 (.int .i64 u) (.int .i64 u)).run Tryz.prog w = .ok (.bool true) w := by
  simp [binOp, go_sem]
theorem bin_u32 (u : Int) (w : World) : (binOp .eql 25 (.int .u32 u) (.int .u32 u)).run Tryz.prog w = .ok (.bool true) w := by
  simp [binOp, go_sem]
theorem ld_int {w : World} {ad : Addr} {u : Int} (h : w.cell? ad = some (.int .i64 u)) : (Instr.loadAt 3 (.pointer (some ad))).run Tryz.prog w = .ok (.int .i64 u) w := by
  simp [go_sem, h]
theorem ld_str {w : World} {ad : Addr} {u : ByteArray} (h : w.cell? ad = some (.string u)) : (Instr.loadAt 9 (.pointer (some ad))).run Tryz.prog w = .ok (.string u) w := by
  simp [go_sem, h]
example (w : World) : (Instr.buildSlice 22 2 #[(0, .int .u8 3), (1, .int .u8 4)]).run Tryz.prog w = .ok (.slice (some ⟨w.heap.size, 0, none⟩) 2 2) (w.alloc (.cells (Lib.byteCells [3, 4]).toArray 5)) := by kernel_rfl
example (w : World) (g : Nat) : (Instr.fieldAt 27 (.pointer (some ⟨g, 0, none⟩)) 2).run Tryz.prog w = .ok (.pointer (some ⟨g, 2, none⟩)) w := by kernel_rfl
end
end Go.Proofs.YteljhjljigbcjaaGreatDoor.Cv
