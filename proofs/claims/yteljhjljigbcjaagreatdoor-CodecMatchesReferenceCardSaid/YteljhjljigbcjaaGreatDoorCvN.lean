/- Plain laws of the codec: what the decoding of numbers, texts, entries and messages answers, and that it undoes the encoding. -/
import Derived.ProofKit
import Derived.Test.YteljhjljigbcjaaGreatDoorCvM
set_option linter.unusedVariables false
namespace Go.Proofs.YteljhjljigbcjaaGreatDoor.Cv

/-- what a decoding answers: a datum and the place behind it, or the error -/
inductive Out (α : Type)
  | ok (a : α) (p : Nat)
  | bad (e : Int)
/-- a decoding: the whole text and the place in it -/
def Dc (α : Type) : Type := List UInt8 → Nat → Out α
def Dc.bind {α β : Type} (m : Dc α) (f : α → Dc β) : Dc β := fun L p =>
  match m L p with
  | .ok a q => f a L q
  | .bad e => .bad e
def Dc.ret {α : Type} (a : α) : Dc α := fun _ p => .ok a p

def rdV : Dc Int := fun L p =>
  match dec (L.drop p) 0 0 with
  | .ok u k => .ok (zag u) (p + k)
  | .bad e => .bad e
def rdN (lo hi : Int) : Dc Int := rdV.bind fun n _ p => if n < lo ∨ hi < n then .bad 272 else .ok n p
def rdT (n : Nat) : Dc (List UInt8) := fun L p => if L.length - p < n then .bad 271 else .ok ((L.drop p).take n) (p + n)
def rdB (lo hi : Int) : Dc (List UInt8) := (rdN lo hi).bind fun n => rdT n.toNat

structure Ent where
  kind : Int
  key : List UInt8
  body : List UInt8
def rdE : Dc Ent := (rdN 1 4).bind fun k => (rdB 1 40).bind fun s => (rdB 0 20000).bind fun b => Dc.ret ⟨k, s, b⟩
def rdEnd : Dc Unit := fun L p => if p < L.length then .bad 272 else .ok () p

structure Msg where
  kind : Int
  src : Int
  view : Int
  seq : Int
  sum : Int
  e : Ent
def zeroE : Ent := ⟨0, [], []⟩
def rdO (n : Int) : Dc Ent := if n = 1 then rdE else Dc.ret zeroE
def rdM : Dc Msg := (rdN 1 4).bind fun k => (rdN 0 2147483647).bind fun a => (rdN 0 2147483647).bind fun b => (rdN 0 2147483647).bind fun c =>
  (rdN 0 4294967295).bind fun s => (rdN 0 1).bind fun o => (rdO o).bind fun e => rdEnd.bind fun _ => Dc.ret ⟨k, a, b, c, s, e⟩

def bytesOf (s : List UInt8) : List UInt8 := vint s.length ++ s
def encE (x : Ent) : List UInt8 := vint x.kind ++ bytesOf x.key ++ bytesOf x.body
def okE (x : Ent) : Prop := (1 ≤ x.kind ∧ x.kind ≤ 4) ∧ (1 ≤ x.key.length ∧ x.key.length ≤ 40) ∧ x.body.length ≤ 20000
def isZ (x : Ent) : Prop := x.kind = 0 ∧ x.key.length = 0 ∧ x.body.length = 0
instance (x : Ent) : Decidable (okE x) := by unfold okE; infer_instance
instance (x : Ent) : Decidable (isZ x) := by unfold isZ; infer_instance
def encO (x : Ent) : List UInt8 := if isZ x then vint 0 else vint 1 ++ encE x
def encM (m : Msg) : List UInt8 := vint m.kind ++ vint m.src ++ vint m.view ++ vint m.seq ++ vint m.sum ++ encO m.e
def idx (n : Int) : Prop := 0 ≤ n ∧ n ≤ 2147483647
instance (n : Int) : Decidable (idx n) := by unfold idx; infer_instance
def okM (m : Msg) : Prop := (1 ≤ m.kind ∧ m.kind ≤ 4) ∧ idx m.src ∧ idx m.view ∧ idx m.seq ∧ (isZ m.e ∨ okE m.e)
instance (m : Msg) : Decidable (okM m) := by unfold okM; infer_instance

/-- m reads a behind the text s -/
def Reads {α : Type} (m : Dc α) (s : List UInt8) (a : α) : Prop := ∀ pre rest, m (pre ++ (s ++ rest)) pre.length = .ok a (pre.length + s.length)
/-- m is cut at each proper prefix of s -/
def Cuts {α : Type} (m : Dc α) (s : List UInt8) : Prop := ∀ pre k, k < s.length → m (pre ++ s.take k) pre.length = .bad 271

theorem Reads.bind {α β : Type} {m : Dc α} {f : α → Dc β} {s t : List UInt8} {a : α} {b : β} (h : Reads m s a) (k : Reads (f a) t b) : Reads (m.bind f) (s ++ t) b := by
  intro pre rest
  have h1 := h pre (t ++ rest)
  have h2 := k (pre ++ s) rest
  simp only [Dc.bind, List.append_assoc] at *
  rw [h1]
  simp only [List.length_append] at *
  rw [h2, Nat.add_assoc]
theorem Reads.ret {α : Type} (a : α) : Reads (Dc.ret a) [] a := by intro pre rest; simp [Dc.ret]
theorem Reads.bind_ret {α β : Type} {m : Dc α} {s : List UInt8} {a : α} {f : α → β} (h : Reads m s a) : Reads (m.bind fun x => Dc.ret (f x)) s (f a) := by
  have := h.bind (f := fun x => Dc.ret (f x)) (Reads.ret (f a))
  rwa [List.append_nil] at this
theorem Cuts.bind {α β : Type} {m : Dc α} {f : α → Dc β} {s t : List UInt8} {a : α} (h : Reads m s a) (c : Cuts m s) (k : Cuts (f a) t) : Cuts (m.bind f) (s ++ t) := by
  intro pre n hn
  by_cases hs : n < s.length
  · have := c pre n hs
    rw [List.take_append_of_le_length (by omega)]
    simp only [Dc.bind, this]
  · have h1 := h pre (t.take (n - s.length))
    have h2 := k (pre ++ s) (n - s.length) (by simp at hn; omega)
    rw [List.take_append, List.take_of_length_le (by omega)]
    simp only [Dc.bind, h1]
    simp only [List.append_assoc, List.length_append] at *
    exact h2
theorem Cuts.nil {α : Type} (m : Dc α) : Cuts m [] := by intro pre k h; simp at h
theorem Cuts.bind_ret {α β : Type} {m : Dc α} {s : List UInt8} {a : α} {f : α → Dc β} (h : Reads m s a) (c : Cuts m s) : Cuts (m.bind f) s := by
  have := c.bind (f := f) h (Cuts.nil (f a))
  rwa [List.append_nil] at this

def in64 (n : Int) : Prop := -9223372036854775808 ≤ n ∧ n ≤ 9223372036854775807
theorem rdV_reads (n : Int) (h : in64 n) : Reads rdV (vint n) n := by
  intro pre rest
  have := dec_enc rest (zig n) 0 0 (by rw [Nat.pow_zero, Nat.mul_one]; exact zig_lt n h.1 h.2) (by omega) (by omega)
  simp only [rdV, List.drop_left, vint, this, Nat.pow_zero, Nat.mul_one, Nat.zero_add, zag_zig]
theorem rdV_cuts (n : Int) (h : in64 n) : Cuts rdV (vint n) := by
  intro pre k hk
  have := dec_cut (zig n) 0 0 k (by rw [Nat.pow_zero, Nat.mul_one]; exact zig_lt n h.1 h.2) (by omega) (by omega) hk
  simp only [rdV, List.drop_left, vint, this]
theorem rdN_reads (lo hi n : Int) (h : in64 n) (h0 : lo ≤ n) (h1 : n ≤ hi) : Reads (rdN lo hi) (vint n) n := by
  have := (rdV_reads n h).bind (f := fun n _ p => if n < lo ∨ hi < n then .bad 272 else .ok n p) (t := []) (b := n) (by
    intro pre rest
    simp only [List.length_nil, Nat.add_zero]
    rw [if_neg (by omega)])
  rwa [List.append_nil] at this
theorem rdN_cuts (lo hi n : Int) (h : in64 n) : Cuts (rdN lo hi) (vint n) := (rdV_cuts n h).bind_ret (rdV_reads n h)
theorem rdT_reads (s : List UInt8) : Reads (rdT s.length) s s := by
  intro pre rest
  simp only [rdT]
  rw [if_neg (by simp), List.drop_left, List.take_left]
theorem rdT_cuts (s : List UInt8) : Cuts (rdT s.length) s := by
  intro pre k hk
  simp only [rdT]
  rw [if_pos (by simp; omega)]
theorem rdB_reads (lo hi : Int) (s : List UInt8) (h : s.length ≤ 1000000) (h0 : lo ≤ s.length) (h1 : (s.length : Int) ≤ hi) : Reads (rdB lo hi) (bytesOf s) s :=
  (rdN_reads lo hi s.length ⟨by omega, by omega⟩ h0 h1).bind (by simpa using rdT_reads s)
theorem rdB_cuts (lo hi : Int) (s : List UInt8) (h : s.length ≤ 1000000) (h0 : lo ≤ s.length) (h1 : (s.length : Int) ≤ hi) : Cuts (rdB lo hi) (bytesOf s) :=
  Cuts.bind (rdN_reads lo hi s.length ⟨by omega, by omega⟩ h0 h1) (rdN_cuts _ _ _ ⟨by omega, by omega⟩) (by simpa using rdT_cuts s)
theorem rdE_reads (x : Ent) (h : okE x) : Reads rdE (encE x) x := by
  obtain ⟨⟨a, b⟩, ⟨c, d⟩, e⟩ := h
  unfold encE
  rw [List.append_assoc]
  exact (rdN_reads 1 4 x.kind ⟨by omega, by omega⟩ a b).bind ((rdB_reads 1 40 x.key (by omega) (by omega) (by omega)).bind ((rdB_reads 0 20000 x.body (by omega) (by omega) (by omega)).bind_ret))
theorem rdE_cuts (x : Ent) (h : okE x) : Cuts rdE (encE x) := by
  obtain ⟨⟨a, b⟩, ⟨c, d⟩, e⟩ := h
  unfold encE
  rw [List.append_assoc]
  have i1 : in64 x.kind := ⟨by omega, by omega⟩
  have r1 := rdN_reads 1 4 x.kind i1 a b
  have r2 := rdB_reads 1 40 x.key (by omega) (by omega) (by omega)
  have r3 := rdB_reads 0 20000 x.body (by omega) (by omega) (by omega)
  exact Cuts.bind r1 (rdN_cuts 1 4 x.kind i1) (Cuts.bind r2 (rdB_cuts 1 40 x.key (by omega) (by omega) (by omega)) (Cuts.bind_ret r3 (rdB_cuts 0 20000 x.body (by omega) (by omega) (by omega))))
/-- an entry as it reads back: the empty one is the zero one -/
theorem zero_of {x : Ent} (h : isZ x) : x = zeroE := by
  obtain ⟨k, s, b⟩ := x
  obtain ⟨h1, h2, h3⟩ := h
  simp only [List.length_eq_zero_iff] at h1 h2 h3
  subst h1; subst h2; subst h3; rfl
theorem not_zero_of {x : Ent} (h : okE x) : ¬ isZ x := fun k => by have := h.1.1; have := k.1; omega
/-- the six numbers and the entry of a message, in one decoding -/
def rdM0 : Dc Msg := (rdN 1 4).bind fun k => (rdN 0 2147483647).bind fun a => (rdN 0 2147483647).bind fun b => (rdN 0 2147483647).bind fun c =>
  (rdN 0 4294967295).bind fun s => (rdN 0 1).bind fun o => (rdO o).bind fun e => Dc.ret ⟨k, a, b, c, s, e⟩
theorem rdM_eq (L : List UInt8) (p : Nat) : rdM L p = (rdM0.bind fun m => rdEnd.bind fun _ => Dc.ret m) L p := by
  unfold rdM rdM0
  simp only [Dc.bind]
  cases rdN 1 4 L p with
  | bad e => rfl
  | ok k p1 =>
    simp only
    cases rdN 0 2147483647 L p1 with
    | bad e => rfl
    | ok a p2 =>
      simp only
      cases rdN 0 2147483647 L p2 with
      | bad e => rfl
      | ok b p3 =>
        simp only
        cases rdN 0 2147483647 L p3 with
        | bad e => rfl
        | ok c p4 =>
          simp only
          cases rdN 0 4294967295 L p4 with
          | bad e => rfl
          | ok s p5 =>
            simp only
            cases rdN 0 1 L p5 with
            | bad e => rfl
            | ok o p6 =>
              simp only
              cases rdO o L p6 with
              | bad e => rfl
              | ok e p7 => simp only [Dc.ret]
theorem rdM0_reads (m : Msg) (h : okM m) (hs : 0 ≤ m.sum ∧ m.sum ≤ 4294967295) : Reads rdM0 (encM m) m := by
  obtain ⟨⟨a, b⟩, ⟨c0, c1⟩, ⟨d0, d1⟩, ⟨e0, e1⟩, hz⟩ := h
  obtain ⟨s0, s1⟩ := hs
  unfold encM
  simp only [List.append_assoc]
  refine (rdN_reads 1 4 m.kind ⟨by omega, by omega⟩ a b).bind ((rdN_reads 0 2147483647 m.src ⟨by omega, by omega⟩ c0 c1).bind ((rdN_reads 0 2147483647 m.view ⟨by omega, by omega⟩ d0 d1).bind ((rdN_reads 0 2147483647 m.seq ⟨by omega, by omega⟩ e0 e1).bind ((rdN_reads 0 4294967295 m.sum ⟨by omega, by omega⟩ s0 s1).bind ?_))))
  unfold encO
  by_cases hq : isZ m.e
  · rw [if_pos hq, ← List.append_nil (vint 0)]
    have hm : m = ⟨m.kind, m.src, m.view, m.seq, m.sum, zeroE⟩ := by rw [← zero_of hq]
    refine (rdN_reads 0 1 0 ⟨by omega, by omega⟩ (by omega) (by omega)).bind ?_
    have := (Reads.ret zeroE).bind_ret (f := fun e => (⟨m.kind, m.src, m.view, m.seq, m.sum, e⟩ : Msg))
    rw [hm]; exact this
  · rw [if_neg hq]
    have hv : okE m.e := by rcases hz with h | h; exact absurd h hq; exact h
    exact (rdN_reads 0 1 1 ⟨by omega, by omega⟩ (by omega) (by omega)).bind ((rdE_reads m.e hv).bind_ret (f := fun e => (⟨m.kind, m.src, m.view, m.seq, m.sum, e⟩ : Msg)))
/-- a message reads back from its own text -/
theorem rdM_whole (m : Msg) (h : okM m) (hs : 0 ≤ m.sum ∧ m.sum ≤ 4294967295) : rdM (encM m) 0 = .ok m (encM m).length := by
  have := rdM0_reads m h hs [] []
  simp only [List.nil_append, List.append_nil, List.length_nil, Nat.zero_add] at this
  rw [rdM_eq]
  simp only [Dc.bind, this, rdEnd, Dc.ret]
  rw [if_neg (by omega)]
/-- with one byte more it is malformed -/
theorem rdM_more (m : Msg) (h : okM m) (hs : 0 ≤ m.sum ∧ m.sum ≤ 4294967295) (x : UInt8) : rdM (encM m ++ [x]) 0 = .bad 272 := by
  have := rdM0_reads m h hs [] [x]
  simp only [List.nil_append, List.length_nil, Nat.zero_add] at this
  rw [rdM_eq]
  simp only [Dc.bind, this, rdEnd, Dc.ret]
  rw [if_pos (by simp)]
/-- the errors: cut or malformed -/
def Errs {α : Type} (m : Dc α) : Prop := ∀ L p k, m L p = .bad k → k = 271 ∨ k = 272
theorem Errs.bind {α β : Type} {m : Dc α} {f : α → Dc β} (h : Errs m) (k : ∀ a, Errs (f a)) : Errs (m.bind f) := by
  intro L p e he
  simp only [Dc.bind] at he
  cases hm : m L p with
  | bad e' => rw [hm] at he; cases he; exact h L p e hm
  | ok a q => rw [hm] at he; exact k a L q e he
theorem Errs.ret {α : Type} (a : α) : Errs (Dc.ret a) := by intro L p k h; cases h
theorem dec_bad : ∀ (L : List UInt8) (i acc : Nat) (k : Int), dec L i acc = .bad k → k = 271 ∨ k = 272 := by
  intro L
  induction L with
  | nil => intro i acc k h; cases h; exact Or.inl rfl
  | cons x r ih =>
    intro i acc k h
    simp only [dec] at h
    split at h
    · cases h; exact Or.inr rfl
    · split at h
      · cases h
      · exact ih _ _ _ h
theorem rdV_errs : Errs rdV := by
  intro L p k h
  simp only [rdV] at h
  cases hd : dec (L.drop p) 0 0 with
  | ok u q => rw [hd] at h; cases h
  | bad e => rw [hd] at h; cases h; exact dec_bad _ _ _ _ hd
theorem rdN_errs (lo hi : Int) : Errs (rdN lo hi) := rdV_errs.bind fun n L p k h => by
  split at h
  · cases h; exact Or.inr rfl
  · cases h
theorem rdT_errs (n : Nat) : Errs (rdT n) := by
  intro L p k h
  simp only [rdT] at h
  split at h
  · cases h; exact Or.inl rfl
  · cases h
theorem rdB_errs (lo hi : Int) : Errs (rdB lo hi) := (rdN_errs lo hi).bind fun _ => rdT_errs _
theorem rdE_errs : Errs rdE := (rdN_errs _ _).bind fun _ => (rdB_errs _ _).bind fun _ => (rdB_errs _ _).bind fun _ => Errs.ret _
theorem rdEnd_errs : Errs rdEnd := by
  intro L p k h
  simp only [rdEnd] at h
  split at h
  · cases h; exact Or.inr rfl
  · cases h
theorem rdO_errs (n : Int) : Errs (rdO n) := by unfold rdO; split; exact rdE_errs; exact Errs.ret _
theorem rdM_errs : Errs rdM := (rdN_errs _ _).bind fun _ => (rdN_errs _ _).bind fun _ => (rdN_errs _ _).bind fun _ => (rdN_errs _ _).bind fun _ => (rdN_errs _ _).bind fun _ => (rdN_errs _ _).bind fun _ =>
  (rdO_errs _).bind fun _ => rdEnd_errs.bind fun _ => Errs.ret _
end Go.Proofs.YteljhjljigbcjaaGreatDoor.Cv
