/- Words for memory: slices that read as lists, worlds that have grown, draws. No function of the program is named. -/
import Derived.Test.YtpfpokjaeffbjaaPlain
import Derived.Lib.Hide
import Derived.Deep.QuietTactic
import Derived.BigQuiet
import Derived.Deep.LoopGhost
import Derived.Deep.Draws
import Derived.Deep.AppendLies
import Derived.Deep.Onto
import Derived.OneCell
namespace Go.Proofs.Ytpfpokjaeffbjaa.Mem
open Go.RowKit Go.Proofs.Ytpfpokjaeffbjaa.Pl

/-- The slice value v reads as the numbers l, in blocks below B. -/
def Nums (k : IntKind) (w : World) (B : Nat) (v : Value) (l : List Int) : Prop :=
  ∃ (A : Option Addr) (c : Nat), v = .slice A l.length c ∧ l.length ≤ c ∧
    (0 < l.length → ∃ b off, A = some ⟨b, off, none⟩ ∧ b < B ∧ ∀ i, i < l.length → w.cell? ⟨b, off + i, none⟩ = some (.int k (l.getD i 0)))

theorem quiet_left {P : Program} {f : FuncId} {args : Array Value} {w : World} {n : Nat} {v : Value}
    (h : Calls P f args (w.drewN n) fun e w' => e = .returned v ∧ w.drewN n = w') : Calls P f args (w.drewN n) fun e w'' => e = .returned v ∧ ∃ m, w'' = w.drewN m :=
  h.mono fun _ _ ⟨he, hm⟩ => ⟨he, n, hm.symm⟩
theorem quiet_add_left {P : Program} {f : FuncId} {args : Array Value} {w : World} {a n : Nat} {v : Value}
    (h : Calls P f args (w.drewN (a + n)) fun e w' => e = .returned v ∧ w.drewN (a + n) = w') :
    Calls P f args (w.drewN (a + n)) fun e w'' => e = .returned v ∧ ∃ m, w'' = w.drewN (a + m) :=
  h.mono fun _ _ ⟨he, hm⟩ => ⟨he, n, hm.symm⟩



theorem below_drewN {B : Nat} {a w : World} (h : Below B a w) (n : Nat) : Below B a (w.drewN n) := ⟨h.os, h.tape, h.output, h.size, h.block⟩
/-- What the walk uses of 'Below': old cells and old marks read as before. -/
theorem bcell {W w1 : World} (hb : Below W.heap.size W w1) : (∀ b o, b < W.heap.size → w1.cell? ⟨b, o, none⟩ = W.cell? ⟨b, o, none⟩) ∧ (∀ b o, b < W.heap.size → w1.frozen? ⟨b, o, none⟩ = W.frozen? ⟨b, o, none⟩) :=
  ⟨fun b o h => hb.cell (p := ⟨b, o, none⟩) h, fun b o h => hb.frozen (p := ⟨b, o, none⟩) h⟩
theorem Nums.below {k : IntKind} {w w' : World} {B : Nat} {v : Value} {l : List Int} (h : Nums k w B v l) (hb : Below B w w') : Nums k w' B v l := by
  obtain ⟨A, c, rfl, hc, h⟩ := h
  refine ⟨A, c, rfl, hc, fun hl => ?_⟩
  obtain ⟨b, off, rfl, hB, h⟩ := h hl
  exact ⟨b, off, rfl, hB, fun i hi => (hb.cell (p := ⟨b, off + i, none⟩) hB).trans (h i hi)⟩
theorem Nums.more {k : IntKind} {w : World} {B B' : Nat} {v : Value} {l : List Int} (h : Nums k w B v l) (hb : B ≤ B') : Nums k w B' v l := by
  obtain ⟨A, c, rfl, hc, h⟩ := h
  refine ⟨A, c, rfl, hc, fun hl => ?_⟩
  obtain ⟨b, off, rfl, hB, h⟩ := h hl
  exact ⟨b, off, rfl, by omega, h⟩
/-- From one world to a later one, each with its own bound. -/
theorem Nums.later {k : IntKind} {w w' : World} {v : Value} {l : List Int} (h : Nums k w w.heap.size v l) (hb : Below w.heap.size w w') : Nums k w' w'.heap.size v l :=
  (h.below hb).more hb.size
/-- What the call owns reads as a list. -/
theorem Nums.own {k : IntKind} {w : World} {base : Nat} {e : TypeId} {v : Value} {l : List Int} (h : w.ownsRow base e 1 v l.length (l.map (Value.int k))) : Nums k w w.heap.size v l := by
  rcases h.2 with ⟨rfl, h0⟩ | ⟨g, cap, cur, rfl, hbg, hg, hnc, hcm, hcs, htake⟩
  · exact ⟨none, 0, by rw [h0], by omega, fun hp => absurd hp (by omega)⟩
  · refine ⟨some ⟨g, 0, none⟩, cap, rfl, hnc, fun hp => ⟨g, 0, rfl, (Array.getElem?_eq_some_iff.1 hg).1, fun i hi => ?_⟩⟩
    have h1 := h.cellAt i (by omega)
    rw [Nat.zero_add, h1, List.getElem?_map, List.getElem?_eq_getElem hi, List.getD_eq_getElem?_getD, List.getElem?_eq_getElem hi]
    rfl
theorem ownsRow_drewN {w : World} {base : Nat} {e : TypeId} {size : Nat} {v : Value} {n : Nat} {xs : List Value} (h : w.ownsRow base e size v n xs) (k : Nat) : (w.drewN k).ownsRow base e size v n xs := h
/-- A literal slice reads as its list. -/
theorem Nums.lit {k : IntKind} (w : World) (l : List Int) (t : TypeId) : Nums k (w.alloc (.cells (l.map (Value.int k)).toArray t)) (w.heap.size + 1) (.slice (some ⟨w.heap.size, 0, none⟩) l.length l.length) l := by
  refine ⟨some ⟨w.heap.size, 0, none⟩, l.length, rfl, Nat.le_refl _, fun hp => ⟨w.heap.size, 0, rfl, by omega, fun i hi => ?_⟩⟩
  rw [Nat.zero_add, World.cell?_alloc_new, List.getElem?_toArray, List.getElem?_map, List.getElem?_eq_getElem hi, List.getD_eq_getElem?_getD, List.getElem?_eq_getElem hi]
  rfl
end Go.Proofs.Ytpfpokjaeffbjaa.Mem
