/- The append of one byte to a slice of bytes that is either full (its capacity is its length) or a row of the call's own: it is a row of the call's own afterwards. -/
import Derived.ProofKit
import Derived.WalkKit
import Derived.ArgAppend
import Derived.Laws.AppendOwn
import Derived.Below
set_option linter.unusedVariables false
namespace Go.Proofs.YteljhjljigbcjaaGreatDoor.Cv
open Go.RowKit

theorem ownsRow_mono {w : World} {base base' : Nat} {e : TypeId} {size : Nat} {v : Value} {n : Nat} {xs : List Value} (h : w.ownsRow base' e size v n xs) (hb : base ≤ base') : w.ownsRow base e size v n xs := by
  obtain ⟨h1, h2⟩ := h
  refine ⟨h1, ?_⟩
  rcases h2 with h2 | ⟨g, cap, cur, hv, hg, r⟩
  · exact Or.inl h2
  · exact Or.inr ⟨g, cap, cur, hv, by omega, r⟩

/-- v reads as the cells xs, and an append to it leaves what lies below 'base' as it is -/
def Held (base : Nat) (e : TypeId) (w : World) (v : Value) (xs : List Value) : Prop :=
  (∃ ao n, v = .slice ao n n ∧ (ao = none → n = 0) ∧ xs.length = n ∧ ∀ b, ao = some b → ∀ j u, xs[j]? = some u → w.cell? (b.add j) = some u) ∨ w.ownsRow base e 1 v xs.length xs

theorem Held.below {base : Nat} {e : TypeId} {w w' : World} {v : Value} {xs : List Value} (h : Held base e w v xs) (hb : Below w.heap.size w w') : Held base e w' v xs := by
  rcases h with ⟨ao, n, hv, h0, hn, hc⟩ | ⟨h1, h2⟩
  · refine Or.inl ⟨ao, n, hv, h0, hn, fun b hb' j u hu => ?_⟩
    have h3 := hc b hb' j u hu
    have h4 := World.block_lt_of_cell? w _ h3
    rw [hb.cell h4]; exact h3
  · refine Or.inr ⟨h1, ?_⟩
    rcases h2 with h2 | ⟨g, cap, cur, hv, hg, hh, r⟩
    · exact Or.inl h2
    · have hlt : g < w.heap.size := by
        rcases Nat.lt_or_ge g w.heap.size with h | h
        · exact h
        · rw [Array.getElem?_eq_none h] at hh; exact absurd hh (by simp)
      exact Or.inr ⟨g, cap, cur, hv, hg, by rw [hb.block g hlt]; exact hh, r⟩

theorem wpList_append_held {P : Program} (w : World) {ops : Array Oper} {rest : List Oper} {o : Oper} {a : Act} {Q : Exit → Act → World → Prop}
    (hg : o.guard = none) (s x : Operand) (t : TypeId) (hop : o.op = Op.call { callee := Callee.builtin Builtin.append, args := #[s, x], argTypes := #[t, t] })
    (base : Nat) (e : TypeId) (i : TypeInfo) (z : Value) (bytes : Nat) (h1 : P.underlying t = some (.slice e)) (h2 : P.info? e = some i) (h3 : i.zero = some z) (h4 : i.size = 1) (h5 : i.bytes = bytes) (h6 : z.cells.size = 1)
    (v : Value) (xs : List Value) (hs : a.eval s = v) (hh : Held base e w v xs)
    (ad : Addr) (m c : Nat) (news : List Value) (hx : a.eval x = .slice (some ad) m c) (hm : 0 < m) (hn : news.length = m) (hc : ∀ j u, news[j]? = some u → w.cell? (ad.add j) = some u) (h1c : ∀ u ∈ news, u.oneCell' = true)
    (b1 : xs.length + m ≤ maxLen) (b2 : (xs.length + m) * bytes ≤ 140737488355328) (hbase : base ≤ w.heap.size)
    (hK : ∀ v' w', w'.ownsRow base e 1 v' (xs.length + m) (xs ++ news) → Below base w w' → wpList P ops Q rest (a.put o.dst v') w') :
    wpList P ops Q (o :: rest) a w := by
  rcases hh with ⟨ao, n, rfl, h0, rfl, hcells⟩ | hown
  · refine wpList_append_grows w hg s x t hop e i z 1 bytes h1 h2 h3 h4 h5 h6 (by omega) ao xs.length xs.length xs hs (fun h => ⟨h0 h, h0 h⟩) (by omega) (fun b hb j u hj => hcells b hb j u hj) ad m c news hx (by omega) hc h1c (by omega) b1 b2 ?_
    intro v' w' hown' hgr
    exact hK v' w' (ownsRow_mono hown' hbase) ((Below.refl base w).grown hgr hbase (fun k hk => by cases hk))
  · refine wpList_append_own w hg s x t hop base e i z 1 bytes h1 h2 h3 h4 h5 h6 (by omega) v xs.length xs hs hown ad m c news hx (by omega) hc h1c b1 b2 hbase ?_
    intro v' w' hown' hgr _
    exact hK v' w' hown' ((Below.refl base w).grown hgr hbase (fun k hk => (hown.lt k hk).1))
end Go.Proofs.YteljhjljigbcjaaGreatDoor.Cv
