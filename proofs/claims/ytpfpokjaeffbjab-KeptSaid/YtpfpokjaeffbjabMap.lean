/- A signer's map: from commitments to pairs of nonces. What the map's operations leave, entry by entry. -/
import Derived.Test.YtpfpokjaeffbjabComs
import Derived.Test.YtpfpokjaeffbjabRows
import Derived.Test.YtpfpokjaeffbjabOrder
import Derived.Maps.Keyed
import Derived.DeepKeys4
import Derived.MapKept
import Derived.ChangeMaps5
import Derived.WideLaws
import Derived.WideMake
import Derived.WalkKit
namespace Go.Proofs.Ytpfpokjaeffbjab.Mpp
open Go.RowKit Go.Maps Go.Proofs.Ytpfpokjaeffbjab.Pl Go.Proofs.Ytpfpokjaeffbjab.Mem Go.Proofs.Ytpfpokjaeffbjab.Ord
set_option linter.unusedVariables false

/-- A commitment as a key. -/
def keyV (c : Cm) : Value := .agg #[.int .i64 c.id, .int .u64 c.d, .int .u64 c.e]
/-- A pair of nonces as a value. -/
def valV (q : Int × Int) : Value := .agg #[.int .u64 q.1, .int .u64 q.2]
/-- What a signer of number id commits to with a pair. -/
def cmOf (id : Int) (q : Int × Int) : Cm := ⟨id, pw 4 q.1.toNat 2147483579, pw 4 q.2.toNat 2147483579⟩
theorem keyV_inj {a b : Cm} (h : keyV a = keyV b) : a = b := by
  obtain ⟨a1, a2, a3⟩ := a
  obtain ⟨b1, b2, b3⟩ := b
  simp only [keyV] at h
  simp at h
  obtain ⟨rfl, rfl, rfl⟩ := h
  rfl
theorem laidOut : laidOutB Try.prog = true := by kernel_rfl
theorem keyed : Keyed Try.prog 37 :=
  Keyed.of_law (deep_law_laid laidOut (m := 2) (by omega) (of_decide_eq_true (by kernel_rfl)) (by kernel_rfl) (by rw [Try.underlying37]))
theorem cells_com : Try.prog.cellsOf 37 = 3 := by kernel_rfl
/-- The numbers are in their kinds' bounds. -/
def Fits (c : Cm) : Prop := (-9223372036854775808 ≤ c.id ∧ c.id ≤ 9223372036854775807) ∧ (0 ≤ c.d ∧ c.d < 18446744073709551616) ∧ (0 ≤ c.e ∧ c.e < 18446744073709551616)
theorem key_of {c : Cm} (h : Fits c) : ∃ lk, keyOf Try.prog 37 (keyV c) = some lk := by
  obtain ⟨⟨h1, h2⟩, ⟨h3, h4⟩, h5, h6⟩ := h
  have hk : Try.prog.keyType 37 = true := by kernel_rfl
  have hf : (keyV c).formed Try.prog 37 = true := by simp [keyV, Value.formed, Try.underlying37, cells_com]
  have w1 : (Lit.int .i64 c.id).wf = true := WalkArith.wf_i64 ⟨h1, h2⟩
  have w2 : (Lit.int .u64 c.d).wf = true := WalkArith.wf_u64 ⟨h3, by omega⟩
  have w3 : (Lit.int .u64 c.e).wf = true := WalkArith.wf_u64 ⟨h5, by omega⟩
  have k1 : Try.prog.cellsOf 3 = 1 := by kernel_rfl
  have k2 : Try.prog.cellsOf 25 = 1 := by kernel_rfl
  obtain ⟨N, hN⟩ : ∃ N, Try.prog.types.size + 1 = N + 1 + 1 := ⟨Try.prog.types.size - 1, by
    have : 1 ≤ Try.prog.types.size := of_decide_eq_true (by kernel_rfl)
    omega⟩
  have hl : Try.prog.keyLits (Try.prog.types.size + 1) 37 (keyV c).cells.toList = some [.int .i64 c.id, .int .u64 c.d, .int .u64 c.e] := by
    rw [hN]
    simp [Program.keyLits, keyV, Value.cells, Try.underlying37, cells_com, Try.underlying3, Try.underlying25, k1, k2, w1, w2, w3]
  refine ⟨.string (keyBytes [.int .i64 c.id, .int .u64 c.d, .int .u64 c.e]), ?_⟩
  unfold keyOf
  rw [Try.underlying37]
  simp only [hk, hf, Bool.and_self, if_true, hl, Option.map_some]
/-- Block M is the map of the pairs pl, in this order. -/
def MapAt (w : World) (M : Nat) (id : Int) (pl : List (Int × Int)) : Prop :=
  ∃ (es : Array MapEntry) (clock : Nat), w.heap[M]? = some (.map es clock) ∧ es.toList.map (fun e => (e.key, e.val)) = pl.map fun q => (keyV (cmOf id q), valV q)
/-- Pairs of scalars, a signer's number. -/
def Scs (id : Int) (pl : List (Int × Int)) : Prop := (1 ≤ id ∧ id ≤ 9) ∧ ∀ q ∈ pl, (0 ≤ q.1 ∧ q.1 < 1073741789) ∧ (0 ≤ q.2 ∧ q.2 < 1073741789)
theorem fits_of {id : Int} (h : 1 ≤ id ∧ id ≤ 9) (q : Int × Int) : Fits (cmOf id q) := by
  have h1 := pw_bd 4 q.1.toNat (m := 2147483579) (by omega)
  have h2 := pw_bd 4 q.2.toNat (m := 2147483579) (by omega)
  exact ⟨⟨by show _ ≤ id; omega, by show id ≤ _; omega⟩, ⟨h1.1, by show pw 4 q.1.toNat 2147483579 < _; omega⟩, h2.1, by show pw 4 q.2.toNat 2147483579 < _; omega⟩
section
variable {w : World} {M : Nat} {id : Int} {pl : List (Int × Int)}
theorem MapAt.lt (h : MapAt w M id pl) : M < w.heap.size := by
  obtain ⟨es, clock, h, _⟩ := h
  exact (Array.getElem?_eq_some_iff.1 h).1
theorem MapAt.of_block {w' : World} (h : MapAt w M id pl) (hb : w'.heap[M]? = w.heap[M]?) : MapAt w' M id pl := by
  obtain ⟨es, clock, h1, h2⟩ := h
  exact ⟨es, clock, hb.trans h1, h2⟩
theorem MapAt.new (w : World) (id : Int) : MapAt (w.alloc (.map #[] 0)) w.heap.size id [] := ⟨#[], 0, heap_alloc_new w _, rfl⟩
theorem entry_at {es : Array MapEntry} (h : es.toList.map (fun e => (e.key, e.val)) = pl.map fun q => (keyV (cmOf id q), valV q)) (j : Nat) : es.toList[j]?.map (fun e => (e.key, e.val)) = pl[j]?.map fun q => (keyV (cmOf id q), valV q) := by
  have := congrArg (fun l => l[j]?) h
  simpa [List.getElem?_map] using this
/-- The search for a key. -/
theorem find_pl (hid : 1 ≤ id ∧ id ≤ 9) {es : Array MapEntry} (h : es.toList.map (fun e => (e.key, e.val)) = pl.map fun q => (keyV (cmOf id q), valV q)) {c : Cm} (hc : Fits c) (w : World) :
    ((Instr.findKey 37 (keyV c) es.toList).run Try.prog w = .ok none w ∧ ∀ q ∈ pl, cmOf id q ≠ c) ∨
    ∃ j q, (Instr.findKey 37 (keyV c) es.toList).run Try.prog w = .ok (some (j, valV q)) w ∧ pl[j]? = some q ∧ cmOf id q = c := by
  obtain ⟨lk, hlk⟩ := key_of hc
  have hall : ∀ e ∈ es.toList, ∃ l, keyOf Try.prog 37 e.key = some l := by
    intro e he
    obtain ⟨j, hj, rfl⟩ := List.mem_iff_getElem.1 he
    have := entry_at h j
    rw [List.getElem?_eq_getElem hj] at this
    cases hq : pl[j]? with
    | none => rw [hq] at this; cases this
    | some q =>
      rw [hq] at this
      simp only [Option.map_some, Option.some.injEq, Prod.mk.injEq] at this
      rw [this.1]
      exact key_of (fits_of hid q)
  rcases keyed.find w hlk es.toList hall with ⟨h1, h2⟩ | ⟨j, e, h1, h2, h3⟩
  · refine .inl ⟨h1, fun q hq hqc => ?_⟩
    obtain ⟨j, hj, rfl⟩ := List.mem_iff_getElem.1 hq
    have := entry_at h j
    rw [List.getElem?_eq_getElem hj] at this
    cases he : es.toList[j]? with
    | none => rw [he] at this; cases this
    | some e =>
      rw [he] at this
      simp only [Option.map_some, Option.some.injEq, Prod.mk.injEq] at this
      exact h2 e (List.mem_of_getElem? he) (by rw [this.1, hqc])
  · have := entry_at h j
    rw [h2] at this
    cases hq : pl[j]? with
    | none => rw [hq] at this; cases this
    | some q =>
      rw [hq] at this
      simp only [Option.map_some, Option.some.injEq, Prod.mk.injEq] at this
      exact .inr ⟨j, q, by rw [h1, this.2], hq, keyV_inj (by rw [← this.1, h3])⟩
theorem und_map : Try.prog.underlying 73 = some (.map 37 88) := Try.underlying73
theorem zero_pair (w : World) : (zeroValue 88).run Try.prog w = .ok (valV (0, 0)) w := by kernel_rfl
theorem und_mapOf : Try.prog.underlying 73 = some (.map (Try.prog.mapKeyOf 73) (Try.prog.mapElemOf 73)) := by
  simp [Program.mapKeyOf, Program.mapElemOf]
/-- 'len(m)'. -/
theorem run_len (h : MapAt w M id pl) (ty : TypeId) : (Builtin.len_ #[73] ty #[.map (some M)]).run Try.prog w = .ok (goInt pl.length) w := by
  obtain ⟨es, clock, h1, h2⟩ := h
  have hl := congrArg List.length h2
  simp at hl
  rw [run_len_map w 73 ty M es clock und_mapOf h1, hl]
/-- 'v, ok := m[c]': there. -/
theorem run_look_yes (h : MapAt w M id pl) (hid : 1 ≤ id ∧ id ≤ 9) (hinj : ∀ q ∈ pl, ∀ q' ∈ pl, cmOf id q = cmOf id q' → q = q') {c : Cm} (hc : Fits c) {q : Int × Int} (hq : q ∈ pl) (hqc : cmOf id q = c) :
    (Instr.lookup 73 (.map (some M)) (keyV c) true).run Try.prog w = .ok (.tuple #[valV q, .bool true]) w := by
  obtain ⟨es, clock, h1, h2⟩ := h
  obtain ⟨lk, hlk⟩ := key_of hc
  have hck := keyed.check w es.isEmpty hlk
  rcases find_pl hid h2 hc w with ⟨h3, h4⟩ | ⟨j, q', h3, h4, h5⟩
  · exact absurd hqc (h4 q hq)
  · have e : q' = q := hinj q' (List.mem_of_getElem? h4) q hq (h5.trans hqc.symm)
    rw [e] at h3
    simp [Instr.lookup, run_underlying und_map, MapKept.run_getObj_map h1, hck, h3]
/-- 'v, ok := m[c]': not there. -/
theorem run_look_no (h : MapAt w M id pl) (hid : 1 ≤ id ∧ id ≤ 9) {c : Cm} (hc : Fits c) (hq : ∀ q ∈ pl, cmOf id q ≠ c) :
    (Instr.lookup 73 (.map (some M)) (keyV c) true).run Try.prog w = .ok (.tuple #[valV (0, 0), .bool false]) w := by
  obtain ⟨es, clock, h1, h2⟩ := h
  obtain ⟨lk, hlk⟩ := key_of hc
  have hck := keyed.check w es.isEmpty hlk
  rcases find_pl hid h2 hc w with ⟨h3, h4⟩ | ⟨j, q', h3, h4, h5⟩
  · simp [Instr.lookup, run_underlying und_map, MapKept.run_getObj_map h1, hck, h3]
    rfl
  · exact absurd h5 (hq q' (List.mem_of_getElem? h4))
theorem eraseIdx_mapped {α β : Type} (f : α → β) : ∀ (l : List α) (j : Nat), (l.eraseIdx j).map f = (l.map f).eraseIdx j
  | [], j => by simp
  | a :: l, 0 => by simp
  | a :: l, j + 1 => by simp [eraseIdx_mapped f l j]
/-- Only block M is another. -/
def Turned (w w' : World) (M : Nat) : Prop := w.grownBy w' (some M)
theorem turned_set {es : Array MapEntry} {clock : Nat} (h : w.heap[M]? = some (.map es clock)) (o : Obj) : w.grownBy { w with heap := w.heap.setIfInBounds M o } (some M) ∧ ({ w with heap := w.heap.setIfInBounds M o } : World).heap[M]? = some o := by
  have hlt : M < w.heap.size := (Array.getElem?_eq_some_iff.1 h).1
  refine ⟨⟨rfl, rfl, rfl, by simp, fun k hk hne => ?_⟩, ?_⟩
  · show (w.heap.setIfInBounds M o)[k]? = w.heap[k]?
    rw [Array.getElem?_setIfInBounds_ne (fun e => hne (by rw [e]))]
  · show (w.heap.setIfInBounds M o)[M]? = some o
    rw [Array.getElem?_setIfInBounds_self_of_lt hlt]
/-- 'm[c] = v', c not there yet. -/
theorem run_store_new (h : MapAt w M id pl) (hid : 1 ≤ id ∧ id ≤ 9) (q : Int × Int) (hq : ∀ q' ∈ pl, cmOf id q' ≠ cmOf id q) :
    ∃ w', (Instr.mapUpdate 73 (.map (some M)) (keyV (cmOf id q)) (valV q)).run Try.prog w = .ok () w' ∧ MapAt w' M id (pl ++ [q]) ∧ w.grownBy w' (some M) := by
  obtain ⟨es, clock, h1, h2⟩ := h
  obtain ⟨lk, hlk⟩ := key_of (fits_of hid q)
  have hck := keyed.check w false hlk
  rcases find_pl hid h2 (fits_of hid q) w with ⟨h3, h4⟩ | ⟨j, q', h3, h4, h5⟩
  · obtain ⟨g1, g2⟩ := turned_set h1 (.map (es.push { key := keyV (cmOf id q), val := valV q, born := clock }) (clock + 1))
    refine ⟨_, ?_, ⟨_, _, g2, ?_⟩, g1⟩
    · simp [Instr.mapUpdate, run_underlying und_map, MapKept.run_getObj_map h1, hck, h3, MapKept.run_setObj_map _ h1]
    · simp [h2]
  · exact absurd h5 (hq q' (List.mem_of_getElem? h4))
/-- 'delete(m, c)', c there. -/
theorem run_strike (h : MapAt w M id pl) (hid : 1 ≤ id ∧ id ≤ 9) {j : Nat} {q : Int × Int} (hj : pl[j]? = some q) (hinj : ∀ i q', pl[i]? = some q' → cmOf id q' = cmOf id q → i = j) (ty : TypeId) :
    ∃ w', (Builtin.delete_ #[73, 37] ty #[.map (some M), keyV (cmOf id q)]).run Try.prog w = .ok (.tuple #[]) w' ∧ MapAt w' M id (pl.eraseIdx j) ∧ w.grownBy w' (some M) := by
  obtain ⟨es, clock, h1, h2⟩ := h
  obtain ⟨lk, hlk⟩ := key_of (fits_of hid q)
  have hck := keyed.check w es.isEmpty hlk
  rcases find_pl hid h2 (fits_of hid q) w with ⟨h3, h4⟩ | ⟨i, q', h3, h4, h5⟩
  · exact absurd rfl (h4 q (List.mem_of_getElem? hj))
  · have e : i = j := hinj i q' h4 h5
    subst e
    obtain ⟨g1, g2⟩ := turned_set h1 (.map (es.eraseIdxIfInBounds i) clock)
    refine ⟨_, ?_, ⟨_, _, g2, ?_⟩, g1⟩
    · simp [Builtin.delete_, run_underlying und_map, MapKept.run_getObj_map h1, hck, h3, MapKept.run_setObj_map _ h1]
    · have hlen := congrArg List.length h2
      simp at hlen
      have hi : i < es.size := by rw [hlen]; exact (List.getElem?_eq_some_iff.1 h4).1
      rw [Array.eraseIdxIfInBounds, dif_pos hi, Array.toList_eraseIdx, eraseIdx_mapped, h2, eraseIdx_mapped]
end
end Go.Proofs.Ytpfpokjaeffbjab.Mpp
