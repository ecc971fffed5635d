/- Arguments of the type []Op, opened; what their sizes are. -/
import Derived.Test.YtpfpokjaeffbjabOpenGroup
import Derived.Test.YtpfpokjaeffbjabScript
import Derived.Conc.HoldsTime
namespace Go.Proofs.Ytpfpokjaeffbjab.Lev
open Go.RowKit Go.Joins Go.ChangeShapes Go.WideShapes Go.Deep Go.Conc Go.Proofs.Ytpfpokjaeffbjab.Mem Go.Proofs.Ytpfpokjaeffbjab.Scr
set_option linter.unusedVariables false

/-- What is known of a step that came in. -/
structure OpIn (w : World) (o : OpP) : Prop where
  ok : OpOk w o
  db : -9223372036854775808 ≤ o.d ∧ o.d ≤ 9223372036854775807
  gs : o.cs.length ≤ reachBytes
  ls : o.L.length ≤ reachBytes
  ss : o.S.size ≤ reachBytes
section
variable {H : Type} {enc : TypeId × Value → H} {w : World} {base : Nat} {spare : Nat → Bool} {held : Bool}
theorem cells_op : Try.prog.cellsOf 58 = 12 := by kernel_rfl
/-- How long a slice is, by its weight. -/
theorem slice_weight {P : Program} {t e : TypeId} {fuel : Nat} {a : Option Addr} {len cap : Nat} {x : DataW H × List MemPlace} (ht : P.underlying t = some (.slice e)) (h : DataW.trod enc P w base spare held fuel t [.slice a len cap] = some x) (hb : 1 ≤ P.bytesOf e) (hw : ∀ n ∈ x.1.weights P t, n ≤ reachBytes) : len ≤ reachBytes := by
  rcases open_slice ht h with ⟨hcs, _⟩ | ⟨a', len', cap', m, n, D, Pl, hcs, _, _, _, _, hx, _⟩
  · simp at hcs
    omega
  · simp at hcs
    obtain ⟨_, rfl, _⟩ := hcs
    subst hx
    have h1 := hw _ (by unfold DataW.weights; rw [ht]; exact List.mem_cons_self)
    rw [List.length_map, List.length_range] at h1
    exact Nat.le_trans (Nat.le_trans (Nat.le_add_right _ _) (Nat.le_mul_of_pos_right _ hb)) h1
theorem weightsAll_mem {P : Program} {e : TypeId} {l : List (DataW H)} {d : DataW H} (hd : d ∈ l) {n : Nat} (hn : n ∈ d.weights P e) : n ∈ DataW.weightsAll P e l := by
  induction l with
  | nil => cases hd
  | cons c l ih =>
    unfold DataW.weightsAll
    rcases List.mem_cons.1 hd with rfl | hd
    · exact List.mem_append_left _ hn
    · exact List.mem_append_right _ (ih hd)
/-- A struct of ten fields. -/
theorem trod_struct10 {P : Program} {t : TypeId} {f0 f1 f2 f3 f4 f5 f6 f7 f8 f9 : Field} {fuel : Nat} {cs : List Value} {x : DataW H × List MemPlace} (ht : P.underlying t = some (.struct #[f0, f1, f2, f3, f4, f5, f6, f7, f8, f9])) (h : DataW.trod enc P w base spare held fuel t cs = some x) :
    ∃ y0 y1 y2 y3 y4 y5 y6 y7 y8 y9 m, x.1 = .agg [y0.1, y1.1, y2.1, y3.1, y4.1, y5.1, y6.1, y7.1, y8.1, y9.1] ∧ DataW.trod enc P w base spare held m f0.type ((cs.drop f0.offset).take (P.cellsOf f0.type)) = some y0 ∧
      DataW.trod enc P w base spare held m f1.type ((cs.drop f1.offset).take (P.cellsOf f1.type)) = some y1 ∧
      DataW.trod enc P w base spare held m f2.type ((cs.drop f2.offset).take (P.cellsOf f2.type)) = some y2 ∧
      DataW.trod enc P w base spare held m f3.type ((cs.drop f3.offset).take (P.cellsOf f3.type)) = some y3 ∧
      DataW.trod enc P w base spare held m f4.type ((cs.drop f4.offset).take (P.cellsOf f4.type)) = some y4 ∧
      DataW.trod enc P w base spare held m f5.type ((cs.drop f5.offset).take (P.cellsOf f5.type)) = some y5 ∧
      DataW.trod enc P w base spare held m f6.type ((cs.drop f6.offset).take (P.cellsOf f6.type)) = some y6 ∧
      DataW.trod enc P w base spare held m f7.type ((cs.drop f7.offset).take (P.cellsOf f7.type)) = some y7 ∧
      DataW.trod enc P w base spare held m f8.type ((cs.drop f8.offset).take (P.cellsOf f8.type)) = some y8 ∧
      DataW.trod enc P w base spare held m f9.type ((cs.drop f9.offset).take (P.cellsOf f9.type)) = some y9 := by
  obtain ⟨xs, n, _, rfl, hl, hlen, hf⟩ := DataW.trod_struct ht h
  match xs, hlen with
  | [y0, y1, y2, y3, y4, y5, y6, y7, y8, y9], _ => exact ⟨y0, y1, y2, y3, y4, y5, y6, y7, y8, y9, n, rfl, by simpa using hf 0 f0 rfl, by simpa using hf 1 f1 rfl, by simpa using hf 2 f2 rfl, by simpa using hf 3 f3 rfl, by simpa using hf 4 f4 rfl, by simpa using hf 5 f5 rfl, by simpa using hf 6 f6 rfl, by simpa using hf 7 f7 rfl, by simpa using hf 8 f8 rfl, by simpa using hf 9 f9 rfl⟩
theorem row_nums {a : Option Addr} {len cap : Nat} {zs : List Int} (h : IsRow .u64 w a len cap zs) : ∃ cs : List Int, Nums .u64 w w.heap.size (.slice a len cap) cs ∧ (∀ i, i < cs.length → 0 ≤ cs.getD i 0) ∧ cs.length = len := by
  obtain ⟨n0, e0, f0⟩ := h.nums
  exact ⟨_, n0, fun i hi => (wf_u64 (getD_wf f0 hi)).1, e0⟩
set_option maxRecDepth 100000 in
set_option maxHeartbeats 1000000 in
theorem one_op {n : Nat} {cs : List Value} {y : DataW H × List MemPlace} (h : DataW.trod enc Try.prog w base (fun _ => true) held n 58 cs = some y) (hl : cs.length = 12) (hw : ∀ n ∈ y.1.weights Try.prog 58, n ≤ reachBytes) : ∃ o : OpP, cs = o.cells ∧ OpIn w o := by
  obtain ⟨y0, y1, y2, y3, y4, y5, y6, y7, y8, y9, m, hy, h0, h1, h2, h3, h4, h5, h6, h7, h8, h9⟩ := trod_struct10 Try.underlying58 h
  have hu := Try.underlying58
  rw [hy] at hw
  unfold DataW.weights at hw
  rw [hu] at hw
  simp only [List.map_cons, List.map_nil, DataW.weightsEach, List.mem_append, List.not_mem_nil, or_false] at hw
  match cs, hl with
  | [u0, u1, u2, u3, u4, u5, u6, u7, u8, u9, u10, u11], _ =>
    have k1 : Try.prog.cellsOf 3 = 1 := by kernel_rfl
    have k2 : Try.prog.cellsOf 25 = 1 := by kernel_rfl
    have k3 : Try.prog.cellsOf 9 = 1 := by kernel_rfl
    have k4 : Try.prog.cellsOf 40 = 1 := by kernel_rfl
    have k5 : Try.prog.cellsOf 26 = 1 := by kernel_rfl
    have b1 : 1 ≤ Try.prog.bytesOf 25 := of_decide_eq_true (by kernel_rfl)
    have b2 : 1 ≤ Try.prog.bytesOf 37 := of_decide_eq_true (by kernel_rfl)
    simp only [k1, k2, k3, k4, cells_group, List.drop_zero, List.take_succ_cons, List.take_zero, List.drop_succ_cons] at h0 h1 h2 h3 h4 h5 h6 h7 h8 h9
    obtain ⟨x0, e0, _, w0⟩ := DataW.trod_int Try.underlying3 h0
    obtain ⟨x1, e1, _, w1⟩ := DataW.trod_int Try.underlying3 h1
    obtain ⟨x2, e2, _, w2⟩ := DataW.trod_int Try.underlying3 h2
    obtain ⟨x3, e3, _, w3⟩ := DataW.trod_int Try.underlying3 h3
    obtain ⟨x4, e4, _, w4⟩ := DataW.trod_int Try.underlying3 h4
    obtain ⟨x6, e6, _, w6⟩ := DataW.trod_int Try.underlying25 h6
    obtain ⟨x7, e7, _, w7⟩ := DataW.trod_int Try.underlying25 h7
    obtain ⟨x8, e8, d8, w8⟩ := DataW.trod_string Try.underlying9 h8
    obtain ⟨l, hcm, hlm, hlb⟩ := coms_of_trod h9
    obtain ⟨A9, c9, rfl⟩ := hcm.shape
    have s9 := slice_weight Try.underlying40 h9 b2 (fun n hn => hw n (by simp only [hn, or_true]))
    have s8 : x8.size ≤ reachBytes := hw x8.size (by
      have : x8.size ∈ y8.1.weights Try.prog 9 := by rw [d8]; unfold DataW.weights; rw [List.mem_singleton]; exact (Array.length_toList).symm
      simp only [this, true_or, or_true])
    obtain ⟨z0, z1, z2, m5, hz, _, g0, g1, g2⟩ := trod_struct3 Try.underlying28 h5
    simp only [k1, k5, List.drop_zero, List.take_succ_cons, List.take_zero, List.drop_succ_cons] at g0 g1 g2
    obtain ⟨t, et, _, wt⟩ := DataW.trod_int Try.underlying3 g0
    obtain ⟨nn, en, _, wn⟩ := DataW.trod_int Try.underlying3 g1
    obtain ⟨a, len, cap, zs, rfl, hr⟩ := row_of_trod g2 rfl
    obtain ⟨gcs, hg1, hg2, hg3⟩ := row_nums hr
    have s5 := slice_weight Try.underlying26 g2 b1 (fun n hn => hw n (by
      have : n ∈ y5.1.weights Try.prog 28 := by
        rw [hz]
        unfold DataW.weights
        rw [Try.underlying28]
        simp only [List.map_cons, List.map_nil, DataW.weightsEach, List.mem_append, List.not_mem_nil, or_false, hn, or_true]
      simp only [this, true_or, or_true]))
    simp at e0 e1 e2 e3 e4 e6 e7 e8 et en
    subst e0 e1 e2 e3 e4 e6 e7 e8 et en
    exact ⟨⟨x0, x1, x2, x3, x4, t, nn, .slice a len cap, gcs, x6, x7, x8, .slice A9 l.length c9, l⟩, rfl, ⟨hg1, hg2, hcm, hlb, wf_i64 w1, wf_i64 w3, wf_u64 w6, wf_u64 w7⟩, wf_i64 w4, by show gcs.length ≤ _; omega, s9, s8⟩
/-- What is known of a script that came in. -/
structure IsOps (w : World) (v : Value) (l : List OpP) : Prop where
  row : Row w w.heap.size 12 v l.length (opsCells l)
  len : l.length ≤ reachBytes
  ok : ∀ (i : Nat) (o : OpP), l[i]? = some o → OpIn w o
instance : Inhabited OpP := ⟨⟨0, 0, 0, 0, 0, 0, 0, .bool false, [], 0, 0, ⟨#[]⟩, .bool false, []⟩⟩
theorem IsOps.later {w w' : World} {v : Value} {l : List OpP} (h : IsOps w v l) (hb : Below w.heap.size w w') : IsOps w' v l :=
  ⟨h.row.later hb, h.len, fun i o hi => ⟨(h.ok i o hi).ok.later hb, (h.ok i o hi).db, (h.ok i o hi).gs, (h.ok i o hi).ls, (h.ok i o hi).ss⟩⟩
theorem opCells_length (o : OpP) : o.cells.length = 12 := rfl
theorem opsCells_length (l : List OpP) : (opsCells l).length = l.length * 12 := by
  induction l with
  | nil => rfl
  | cons o l ih =>
    show (o.cells ++ opsCells l).length = _
    rw [List.length_append, ih, List.length_cons, opCells_length]
    omega
theorem opsCells_at (l : List OpP) (i : Nat) (o : OpP) (h : l[i]? = some o) (k : Nat) (hk : k < 12) : (opsCells l)[i * 12 + k]? = o.cells[k]? := by
  induction l generalizing i with
  | nil => simp at h
  | cons q l ih =>
    show (q.cells ++ opsCells l)[i * 12 + k]? = _
    cases i with
    | zero =>
      injection h with h
      subst h
      rw [Nat.zero_mul, Nat.zero_add, List.getElem?_append_left (by rw [opCells_length]; exact hk)]
    | succ i =>
      rw [List.getElem?_append_right (by rw [opCells_length]; omega), opCells_length, show (i + 1) * 12 + k - 12 = i * 12 + k by omega]
      exact ih i (by simpa using h)
set_option maxRecDepth 100000 in
theorem ops_of_trod {fuel : Nat} {v : Value} {x : DataW H × List MemPlace} (h : DataW.trod enc Try.prog w base (fun _ => true) held fuel 22 [v] = some x) (hw : ∀ n ∈ x.1.weights Try.prog 22, n ≤ reachBytes) :
    ∃ l : List OpP, IsOps w v l := by
  have hb : 1 ≤ Try.prog.bytesOf 58 := of_decide_eq_true (by kernel_rfl)
  rcases open_slice Try.underlying22 h with ⟨hcs, _⟩ | ⟨a, len, cap, m, n, D, Pl, hcs, _, hl, hm, hmm, hx, hel⟩
  · simp at hcs
    subst hcs
    exact ⟨[], ⟨by simp [opsCells], none, 0, rfl, Nat.le_refl _, fun h => absurd h (by simp)⟩, by simp, fun i o ho => by simp at ho⟩
  · simp at hcs hmm
    subst hcs hmm
    have hlen := slice_weight Try.underlying22 h hb hw
    rw [cells_op] at hel
    have hwe : ∀ i, i < len → ∀ k ∈ (D i).weights Try.prog 58, k ≤ reachBytes := fun i hi k hk => hw k (by
      rw [hx]
      unfold DataW.weights
      rw [Try.underlying22]
      refine List.mem_cons_of_mem _ (List.mem_append_left _ (weightsAll_mem (d := D i) (List.mem_map.2 ⟨i, List.mem_range.2 hi, rfl⟩) hk)))
    obtain ⟨f, hf⟩ := choose_lt (α := OpP) (n := len) (p := fun i o => (∀ k, k < 12 → w.cell? ((a.add (i * 12)).add k) = o.cells[k]?) ∧ OpIn w o) (fun i hi => by
      obtain ⟨cs', h1, h2⟩ := hel i (by omega)
      obtain ⟨_, hlen', hcell⟩ := World.cells?_some h1
      obtain ⟨o, rfl, ho⟩ := one_op h2 hlen' (hwe i hi)
      exact ⟨o, fun k hk => hcell k hk, ho⟩)
    have hat : ∀ i, i < len → ((List.range len).map f)[i]? = some (f i) := fun i hi => by rw [List.getElem?_map, List.getElem?_range hi]; rfl
    refine ⟨(List.range len).map f, ⟨by rw [opsCells_length], some a, m, by simp, by simp; omega, fun hp => ?_⟩, by simp; exact hlen, fun i o ho => ?_⟩
    · simp at hp
      have p0 := (hf 0 hp).1 0 (by omega)
      rw [Nat.zero_mul, show (a.add 0).add 0 = a by simp [Addr.add]] at p0
      obtain ⟨b, off, spot⟩ := a
      obtain rfl : spot = none := cell_plain p0
      refine ⟨b, off, rfl, World.block_lt_of_cell? w _ p0, fun j u hu => ?_⟩
      have hj : j < len * 12 := by
        have := (List.getElem?_eq_some_iff.1 hu).1
        rw [opsCells_length, List.length_map, List.length_range] at this
        exact this
      obtain ⟨i, k, hi, hk, rfl⟩ : ∃ i k, i < len ∧ k < 12 ∧ j = i * 12 + k := ⟨j / 12, j % 12, by omega, by omega, by omega⟩
      rw [opsCells_at _ i (f i) (hat i hi) k hk] at hu
      have q := (hf i hi).1 k hk
      simp only [add_plain] at q
      rw [← Nat.add_assoc, q, hu]
    · have hi : i < len := by
        have := (List.getElem?_eq_some_iff.1 ho).1
        simpa using this
      rw [hat i hi] at ho
      injection ho with ho
      exact ho ▸ (hf i hi).2
set_option maxRecDepth 100000 in
theorem open_ops {r : Reach} {b0 : Nat} {v : Value} {d : DataW H} {p : List MemPlace}
    (hv : Value.okWide Try.prog w r b0 22 v) (h : DataW.Trod enc Try.prog w base (fun _ => true) held 22 v d p) (hw : ∀ n ∈ d.weights Try.prog 22, n ≤ reachBytes) : ∃ l : List OpP, IsOps w v l := by
  obtain ⟨a, len, cap, rfl⟩ := okWide_slice Try.underlying22 hv
  obtain ⟨fuel, hf⟩ := h
  exact ops_of_trod (v := .slice a len cap) (x := (d, p)) (by simpa [Value.cells] using hf) hw
end
section
variable {H : Type} {enc : TypeId × Value → H}
/-- A lone contract turned into the row with the clock; the sizes that came in are told. -/
theorem leavingTime_of_calls_sized {a : Assume} {C : Checked} {os : Os} {f : FuncId} {fn : Func} {s : ChangeSpec} {F : Stop.Interp} {conds : List PathCond} {apart fresh handsOn : Bool}
    (own : ownKnob C.prog.godebug = none) (started : os.Started) (hi : C.prog.inits.idxOf? f = none) (hfn : C.prog.funcs[f]? = some fn)
    (witness : ∃ (w : World) (tape : Tape) (i : Input), w.os = os ∧ (w.forCall tape i).Shaped C.prog ∧ i.vars = [] ∧ Input.okWide C.prog (w.forCall tape i) .any w.heap.size f i ∧
      s.pre6 enc C.prog fn conds apart (w.forCall tape i).memory i.args ∧ a.holds C.prog (lone (Frame.enter C.prog f i.args .normal) [] (w.forCall tape i)))
    (contract : ∀ (W : World) (base : Nat) (args : Array Value) (ds gs : List (DataW H)) (before : List MemPlace),
      (∀ (j : Nat) t v, fn.params[j]? = some t → args[j]? = some v → Value.okWide C.prog W .any base t v) →
      DataW.Whole enc C.prog fn.params.toList s.vars apart W args.toList ds gs before →
      (DataW.weightsEach C.prog (fn.params.toList ++ s.plain.varTypes C.prog) (ds ++ gs)).all (· ≤ reachBytes) = true →
      Calls C.prog f args W fun e W' => ∃ v, e = .returned v ∧ s.post enc C.prog fn apart fresh handsOn false W args v W' ∧ W'.os = W.os) :
    ReturnsInLeavingWide a C os f .any (s.pre6 enc C.prog fn conds apart) ((OpenSpec.ofChange s).postWith enc C.prog fn F (outsideKept [.timePasses]) apart fresh handsOn) :=
  returnsInLeavingWide_of_change_time own started hfn witness fun W base args ds gs before h1 h2 _ h4 _ =>
    runs_of_calls hi ((contract W base args ds gs before h1 h2 h4).mono fun e W' ⟨v, he, hp, ho⟩ => ⟨v, he, by
      have e1 : { W' with os := W.os } = W' := by rw [← ho]
      rw [e1]
      exact ⟨hp, ⟨0, by rw [ho]; rfl⟩⟩⟩)
end
end Go.Proofs.Ytpfpokjaeffbjab.Lev
