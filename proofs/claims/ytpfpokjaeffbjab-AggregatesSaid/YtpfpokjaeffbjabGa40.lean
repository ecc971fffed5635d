/- Part of the proof: OpenGroup, AggOpen. -/
import Derived.Test.YtpfpokjaeffbjabRows
import Derived.Test.YtpfpokjaeffbjabGa37
import Derived.Test.YtpfpokjaeffbjabGa19
import Derived.Lib.SmallJoins
import Derived.Deep.Slices
import Derived.Deep.Strs
import Derived.ProofKit
import Derived.Test.YtpfpokjaeffbjabGa39
namespace Go.Proofs.Ytpfpokjaeffbjab.Lev
open Go.RowKit Go.Joins Go.ChangeShapes Go.WideShapes Go.Deep Go.Proofs.Ytpfpokjaeffbjab.Mem
theorem cells_group : Try.prog.cellsOf 28 = 3 := by kernel_rfl
theorem cells_com : Try.prog.cellsOf 37 = 3 := by kernel_rfl
section
variable {H : Type} {enc : TypeId × Value → H} {w : World} {base : Nat} {spare : Nat → Bool} {held : Bool}
theorem row_of_trod {fuel : Nat} {v : Value} {x : DataW H × List MemPlace} (h : DataW.trod enc Try.prog w base spare held fuel 26 [v] = some x) (hs : spare = fun _ => true) :
    ∃ a len cap zs, v = .slice a len cap ∧ IsRow .u64 w a len cap zs := by
  subst hs
  rcases open_ints Try.underlying26 Try.underlying25 (by kernel_rfl) h with ⟨hcs, _⟩ | ⟨x, l, c, zs, hcs, _, hl, hm, hz, _, hcell, hwz⟩
  · simp at hcs
    subst hcs
    exact ⟨none, 0, 0, [], rfl, .inl ⟨rfl, rfl, rfl, rfl⟩⟩
  · simp at hcs
    subst hcs
    exact ⟨_, _, _, zs, rfl, .inr ⟨_, rfl, hl, hm, by simpa using hz, hcell, hwz⟩⟩
set_option maxRecDepth 100000 in
theorem open_group {r : Reach} {b0 : Nat} {v : Value} {d : DataW H} {p : List MemPlace}
    (hv : Value.okWide Try.prog w r b0 28 v) (h : DataW.Trod enc Try.prog w base (fun _ => true) held 28 v d p) :
    ∃ (t n : Int) (a : Option Addr) (len cap : Nat) (zs : List Int), v = .agg #[.int .i64 t, .int .i64 n, .slice a len cap] ∧ IsRow .u64 w a len cap zs ∧
      (-9223372036854775808 ≤ t ∧ t ≤ 9223372036854775807) ∧ (-9223372036854775808 ≤ n ∧ n ≤ 9223372036854775807) := by
  obtain ⟨c0, c1, c2, y0, y1, y2, m, rfl, rfl, rfl, hy0, hy1, hy2⟩ := open_agg3 Try.underlying28 (by kernel_rfl) cells_group hv h
  obtain ⟨t, e0, rfl, wt⟩ := DataW.trod_int Try.underlying3 hy0
  obtain ⟨n, e1, rfl, wn⟩ := DataW.trod_int Try.underlying3 hy1
  obtain ⟨a, len, cap, zs, rfl, hr⟩ := row_of_trod hy2 rfl
  simp at e0 e1
  subst e0 e1
  exact ⟨t, n, a, len, cap, zs, rfl, hr, wf_i64 wt, wf_i64 wn⟩
def IsComs (w : World) (v : Value) (l : List Cm) : Prop :=
  Coms w w.heap.size v l ∧ l.length ≤ maxLen ∧ ∀ i, i < l.length → (-9223372036854775808 ≤ (l.getD i .zero).id ∧ (l.getD i .zero).id ≤ 9223372036854775807) ∧
    (0 ≤ (l.getD i .zero).d ∧ (l.getD i .zero).d < 18446744073709551616) ∧ (0 ≤ (l.getD i .zero).e ∧ (l.getD i .zero).e < 18446744073709551616)
set_option maxRecDepth 100000 in
theorem one_com {n : Nat} {cs : List Value} {y : DataW H × List MemPlace} (h : DataW.trod enc Try.prog w base spare held n 37 cs = some y) (hl : cs.length = 3) :
    ∃ c : Cm, cs = [.int .i64 c.id, .int .u64 c.d, .int .u64 c.e] ∧ (-9223372036854775808 ≤ c.id ∧ c.id ≤ 9223372036854775807) ∧ (0 ≤ c.d ∧ c.d < 18446744073709551616) ∧ (0 ≤ c.e ∧ c.e < 18446744073709551616) := by
  obtain ⟨y0, y1, y2, m, rfl, _, h0, h1, h2⟩ := trod_struct3 Try.underlying37 h
  match cs, hl with
  | [u0, u1, u2], _ =>
    have k1 : Try.prog.cellsOf 3 = 1 := by kernel_rfl
    have k2 : Try.prog.cellsOf 25 = 1 := by kernel_rfl
    simp only [k1, k2, List.drop_zero, List.take_succ_cons, List.take_zero, List.drop_succ_cons] at h0 h1 h2
    obtain ⟨x0, e0, _, w0⟩ := DataW.trod_int Try.underlying3 h0
    obtain ⟨x1, e1, _, w1⟩ := DataW.trod_int Try.underlying25 h1
    obtain ⟨x2, e2, _, w2⟩ := DataW.trod_int Try.underlying25 h2
    simp at e0 e1 e2
    subst e0 e1 e2
    exact ⟨⟨x0, x1, x2⟩, rfl, wf_i64 w0, wf_u64 w1, wf_u64 w2⟩
set_option maxRecDepth 100000 in
theorem coms_of_trod {fuel : Nat} {v : Value} {x : DataW H × List MemPlace} (h : DataW.trod enc Try.prog w base (fun _ => true) held fuel 40 [v] = some x) :
    ∃ l : List Cm, IsComs w v l := by
  rcases open_slice Try.underlying40 h with ⟨hcs, _⟩ | ⟨a, len, cap, m, n, D, Pl, hcs, hb, hl, hm, hmm, _, hx⟩
  · simp at hcs
    subst hcs
    exact ⟨[], ⟨by simp [comCells], none, 0, rfl, Nat.le_refl _, fun h => absurd h (by simp)⟩, by simp, fun i hi => absurd hi (by simp)⟩
  · simp at hcs hmm
    subst hcs hmm
    rw [cells_com] at hx
    obtain ⟨f, hf⟩ := choose_lt (α := Cm) (n := m) (p := fun i c => (w.cell? (a.add (i * 3)) = some (.int .i64 c.id) ∧ w.cell? ((a.add (i * 3)).add 1) = some (.int .u64 c.d) ∧ w.cell? ((a.add (i * 3)).add 2) = some (.int .u64 c.e)) ∧
        (-9223372036854775808 ≤ c.id ∧ c.id ≤ 9223372036854775807) ∧ (0 ≤ c.d ∧ c.d < 18446744073709551616) ∧ (0 ≤ c.e ∧ c.e < 18446744073709551616)) (fun i hi => by
      obtain ⟨cs', h1, h2⟩ := hx i hi
      obtain ⟨_, hlen, hcell⟩ := World.cells?_some h1
      obtain ⟨c, rfl, b1, b2, b3⟩ := one_com h2 hlen
      have q0 := hcell 0 (by omega)
      rw [show (a.add (i * 3)).add 0 = a.add (i * 3) by simp [Addr.add]] at q0
      exact ⟨c, ⟨q0, hcell 1 (by omega), hcell 2 (by omega)⟩, b1, b2, b3⟩)
    refine ⟨(List.range len).map f, ?_, by simp; omega, ?_⟩
    · refine ⟨by rw [comCells_length, List.length_map, List.length_range], some a, m, by simp, by simp; omega, fun hp => ?_⟩
      simp at hp
      have p0 := (hf 0 (by omega)).1.1
      rw [Nat.zero_mul, show a.add 0 = a by simp [Addr.add]] at p0
      obtain ⟨b, off, spot⟩ := a
      obtain rfl : spot = none := cell_plain p0
      refine ⟨b, off, rfl, World.block_lt_of_cell? w _ p0, fun j u hu => ?_⟩
      have hj : j < len * 3 := by
        have := (List.getElem?_eq_some_iff.1 hu).1
        rw [comCells_length, List.length_map, List.length_range] at this
        exact this
      obtain ⟨i, hij⟩ : ∃ i, i = j / 3 := ⟨_, rfl⟩
      have hq := hf i (by omega)
      obtain ⟨⟨q0, q1, q2⟩, _⟩ := hq
      simp only [add_plain] at q0 q1 q2
      have hat := comCells_at ((List.range len).map f) i (by simp; omega)
      have hg : ((List.range len).map f).getD i .zero = f i := by
        rw [List.getD_eq_getElem?_getD, List.getElem?_map, List.getElem?_range (by omega)]
        rfl
      rw [hg] at hat
      obtain ⟨t0, t1, t2⟩ := hat
      have hm3 : j = i * 3 ∨ j = i * 3 + 1 ∨ j = i * 3 + 2 := by omega
      clear hij
      rcases hm3 with h | h | h
      · subst h
        rw [t0] at hu
        injection hu with hu
        subst hu
        exact q0
      · subst h
        rw [t1] at hu
        injection hu with hu
        subst hu
        rw [← Nat.add_assoc]; exact q1
      · subst h
        rw [t2] at hu
        injection hu with hu
        subst hu
        rw [← Nat.add_assoc]; exact q2
    · intro i hi
      simp at hi
      have hg : ((List.range len).map f).getD i .zero = f i := by
        rw [List.getD_eq_getElem?_getD, List.getElem?_map, List.getElem?_range (by omega)]
        rfl
      rw [hg]
      exact (hf i (by omega)).2
set_option maxRecDepth 100000 in
theorem open_commits {r : Reach} {b0 : Nat} {v : Value} {d : DataW H} {p : List MemPlace}
    (hv : Value.okWide Try.prog w r b0 40 v) (h : DataW.Trod enc Try.prog w base (fun _ => true) held 40 v d p) : ∃ l : List Cm, IsComs w v l := by
  obtain ⟨a, len, cap, rfl⟩ := okWide_slice Try.underlying40 hv
  obtain ⟨fuel, hf⟩ := h
  exact coms_of_trod (v := .slice a len cap) (by simpa [Value.cells] using hf)
end
end Go.Proofs.Ytpfpokjaeffbjab.Lev
namespace Go.Proofs.Ytpfpokjaeffbjab.AggregatesW
open Go.Conc Go.ConcN Go.RowKit Go.Proofs.Ytpfpokjaeffbjab.Cc
open Go.Proofs.Ytpfpokjaeffbjab.Pl Go.Proofs.Ytpfpokjaeffbjab.Mem Go.Proofs.Ytpfpokjaeffbjab.Lev
set_option linter.unusedVariables false
theorem cell_block {w : World} {b off : Nat} {v : Value} (h : w.cell? ⟨b, off, none⟩ = some v) : ∃ C e fz, w.heap[b]? = some (.cells C e fz) ∧ C[off]? = some v := by
  have hlt := World.block_lt_of_cell? w _ h
  have hb : w.heap[b]? = some w.heap[b] := Array.getElem?_eq_getElem hlt
  unfold World.cell? at h
  rw [hb] at h
  generalize w.heap[b] = ob at hb h
  cases ob with
  | cells C e fz => exact ⟨C, e, fz, hb, by simpa using h⟩
  | _ => simp at h
theorem numsK_of {k : IntKind} {W : World} {A : Option Addr} {c : Nat} {l : List Int} (h : Nums k W W.heap.size (.slice A l.length c) l) (hs : SlK (allK W) A) : NumsK (allK W) k A c l := by
  obtain ⟨A', c', hv, hc, h⟩ := h
  cases hv
  refine ⟨hc, hs, fun hl => ?_⟩
  obtain ⟨b, off, rfl, hb, hcell⟩ := h hl
  obtain ⟨C, e, fz, h1, h2⟩ := cell_block (hcell 0 hl)
  refine ⟨b, off, rfl, C, e, fz, mem_allK.2 h1, fun i hi => ?_⟩
  obtain ⟨C', e', fz', h3, h4⟩ := cell_block (hcell i hi)
  rw [h1] at h3
  cases h3
  exact h4
theorem comsK_of {W : World} {A : Option Addr} {c : Nat} {l : List Cm} (h : Coms W W.heap.size (.slice A l.length c) l) (hs : SlK (allK W) A) : ComsK (allK W) A c l := by
  obtain ⟨hlen, A', c', hv, hc, h⟩ := h
  cases hv
  refine ⟨hc, hs, fun hl => ?_⟩
  obtain ⟨b, off, rfl, hb, hcell⟩ := h hl
  have h0 := comCells_at l 0 hl
  obtain ⟨C, e, fz, h1, h2⟩ := cell_block (hcell _ _ h0.1)
  refine ⟨b, off, rfl, C, e, fz, mem_allK.2 h1, fun j u hu => ?_⟩
  obtain ⟨C', e', fz', h3, h4⟩ := cell_block (hcell j u hu)
  rw [h1] at h3
  cases h3
  exact h4
theorem slK_has {P : Program} {W : World} {base : Nat} {a : Addr} {e : TypeId} {n : Nat} (h : World.has P W .any base a e n) : SlK (allK W) (some a) := by
  obtain ⟨-, h1, row, cells, h2, -⟩ := h
  obtain ⟨b, off, sp⟩ := a
  obtain rfl : sp = none := h1
  unfold World.shape? at h2
  split at h2
  · rename_i C el fz hb
    exact .inr ⟨b, off, rfl, C, el, fz, mem_allK.2 hb⟩
  · cases h2
theorem slK_ok {P : Program} {W : World} {base : Nat} {t e : TypeId} {a : Option Addr} {len cap : Nat} (hu : P.underlying t = some (.slice e)) (h : Value.okWide P W .any base t (.slice a len cap)) : SlK (allK W) a := by
  cases a with
  | none => exact .inl rfl
  | some a =>
    unfold Value.okWide at h
    rw [hu] at h
    simp only [] at h
    unfold Cell.okWide at h
    rw [hu] at h
    simp only [] at h
    unfold Cell.ok at h
    rw [hu] at h
    exact slK_has h.2.2
theorem ct_grp : Try.prog.cellTypes Try.prog.depth 28 = some [3, 3, 26] := by kernel_rfl
set_option maxRecDepth 100000 in
theorem slK_grp {W : World} {base : Nat} {t n : Value} {a : Option Addr} {len cap : Nat} (h : Value.okWide Try.prog W .any base 28 (.agg #[t, n, .slice a len cap])) : SlK (allK W) a := by
  unfold Value.okWide at h
  rw [Try.underlying28] at h
  simp only [] at h
  obtain ⟨cs, hv, -, ts, h1, -, h2⟩ := h
  cases hv
  have e1 := ct_grp
  rw [h1] at e1
  cases e1
  obtain ⟨u, h3, h4⟩ := h2 2 _ rfl
  simp at h3
  subst h3
  cases a with
  | none => exact .inl rfl
  | some a =>
    unfold Cell.okWide at h4
    rw [Try.underlying26] at h4
    simp only [] at h4
    unfold Cell.ok at h4
    rw [Try.underlying26] at h4
    exact slK_has h4.2.2
end Go.Proofs.Ytpfpokjaeffbjab.AggregatesW
