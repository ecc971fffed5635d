/- Lists of commitments, as cells of memory: three cells each. -/
import Derived.Test.YtpfpokjaeffbjabMem
namespace Go.Proofs.Ytpfpokjaeffbjab.Mem
open Go.RowKit Go.Proofs.Ytpfpokjaeffbjab.Pl

/-- A commitment: a signer's number, D and E. -/
structure Cm where
  id : Int
  d : Int
  e : Int
deriving Inhabited
def Cm.cells (c : Cm) : List Value := [.int .i64 c.id, .int .u64 c.d, .int .u64 c.e]
def comCells (l : List Cm) : List Value := l.flatMap Cm.cells
def Cm.zero : Cm := ⟨0, 0, 0⟩
theorem comCells_length (l : List Cm) : (comCells l).length = l.length * 3 := by
  induction l with
  | nil => rfl
  | cons c l ih =>
    show (Cm.cells c ++ comCells l).length = _
    rw [List.length_append, ih, List.length_cons]
    simp [Cm.cells]; omega
theorem comCells_append (a b : List Cm) : comCells (a ++ b) = comCells a ++ comCells b := by simp [comCells]
theorem comCells_one (c : Cm) : comCells [c] = [.int .i64 c.id, .int .u64 c.d, .int .u64 c.e] := by simp [comCells, Cm.cells]
theorem comCells_at (l : List Cm) (i : Nat) (h : i < l.length) :
    (comCells l)[i * 3]? = some (.int .i64 (l.getD i .zero).id) ∧ (comCells l)[i * 3 + 1]? = some (.int .u64 (l.getD i .zero).d) ∧ (comCells l)[i * 3 + 2]? = some (.int .u64 (l.getD i .zero).e) := by
  induction l generalizing i with
  | nil => simp at h
  | cons c l ih =>
    have e : comCells (c :: l) = .int .i64 c.id :: .int .u64 c.d :: .int .u64 c.e :: comCells l := rfl
    rw [e]
    cases i with
    | zero => exact ⟨rfl, rfl, rfl⟩
    | succ i =>
      have := ih i (by simpa using h)
      have e1 : (i + 1) * 3 = i * 3 + 1 + 1 + 1 := by omega
      rw [e1, List.getD_cons_succ]
      simpa using this
theorem oneCell_coms (l : List Cm) : ∀ u ∈ comCells l, u.oneCell' = true := by
  intro u hu
  simp only [comCells, List.mem_flatMap] at hu
  obtain ⟨c, _, hu⟩ := hu
  simp only [Cm.cells, List.mem_cons, List.not_mem_nil, or_false] at hu
  rcases hu with rfl | rfl | rfl <;> rfl
/-- The slice value v reads as the commitments l. -/
def Coms (w : World) (B : Nat) (v : Value) (l : List Cm) : Prop := Row w B 3 v l.length (comCells l)
theorem Coms.later {w w' : World} {v : Value} {l : List Cm} (h : Coms w w.heap.size v l) (hb : Below w.heap.size w w') : Coms w' w'.heap.size v l := Row.later h hb
theorem Coms.below {w w' : World} {B : Nat} {v : Value} {l : List Cm} (h : Coms w B v l) (hb : Below B w w') : Coms w' B v l := Row.below h hb
theorem Coms.more {w : World} {B B' : Nat} {v : Value} {l : List Cm} (h : Coms w B v l) (hb : B ≤ B') : Coms w B' v l := Row.more h hb
theorem Coms.own {w : World} {base : Nat} {e : TypeId} {v : Value} {l : List Cm} (h : w.ownsRow base e 3 v l.length (comCells l)) : Coms w w.heap.size v l := Row.own h
theorem Coms.shape {w : World} {B : Nat} {v : Value} {l : List Cm} (h : Coms w B v l) : ∃ A c, v = .slice A l.length c := by
  obtain ⟨_, A, c, rfl, _⟩ := h
  exact ⟨A, c, rfl⟩
/-- Where there is one: the block, and the three cells of each. -/
theorem Coms.at_ {w : World} {B : Nat} {A : Option Addr} {n c : Nat} {l : List Cm} (h : Coms w B (.slice A n c) l) (hp : 0 < l.length) :
    ∃ b off, A = some ⟨b, off, none⟩ ∧ b < B ∧ ∀ i, i < l.length → w.cell? ⟨b, off + i * 3, none⟩ = some (.int .i64 (l.getD i .zero).id) ∧
      w.cell? ⟨b, off + i * 3 + 1, none⟩ = some (.int .u64 (l.getD i .zero).d) ∧ w.cell? ⟨b, off + i * 3 + 2, none⟩ = some (.int .u64 (l.getD i .zero).e) := by
  obtain ⟨_, A', c', hv, _, h⟩ := h
  obtain ⟨b, off, hA, hB, h⟩ := h hp
  have : A = A' := by injection hv
  refine ⟨b, off, by rw [this, hA], hB, fun i hi => ?_⟩
  obtain ⟨h1, h2, h3⟩ := comCells_at l i hi
  exact ⟨h _ _ h1, by rw [Nat.add_assoc]; exact h _ _ h2, by rw [Nat.add_assoc]; exact h _ _ h3⟩
end Go.Proofs.Ytpfpokjaeffbjab.Mem
