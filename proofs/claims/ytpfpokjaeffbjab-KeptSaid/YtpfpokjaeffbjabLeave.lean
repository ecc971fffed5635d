/- From a lone walk to the rows that say 'leaving' (with or without the clock), and from an argument's reading to the words of the walks. Nothing of the program's functions is named. -/
import Derived.Test.YtpfpokjaeffbjabMem
import Derived.Conc.LeavingOf
import Derived.Conc.HoldsTime
import Derived.Lib.SmallJoins
import Derived.OpenShut
namespace Go.Proofs.Ytpfpokjaeffbjab.Lev
open Go.RowKit Go.Conc Go.Proofs.Ytpfpokjaeffbjab.Pl Go.Proofs.Ytpfpokjaeffbjab.Mem

/-- One lone contract is one good run. -/
theorem runs_of_calls {P : Program} {f : FuncId} {args : Array Value} {w : World} {R : Value → World → Prop} (hi : P.inits.idxOf? f = none)
    (h : Calls P f args w fun e w' => ∃ v, e = .returned v ∧ R v w') :
    ∃ M last o w' t', runNT P (M + 1) (solo (G (Frame.enter P f args .normal) []) w) #[] = (.ended o w', t') ∧ runN P M (solo (G (Frame.enter P f args .normal) []) w) = .next last ∧
      step P last = .ended o w' ∧ Conc.Good P R last o w' t' := by
  have h' : Calls P f args w fun | .returned v, w' => R v w' | _, _ => False := h.mono fun e w' ⟨v, he, hr⟩ => by subst he; exact hr
  obtain ⟨n, v, w', fr, hn, hend, hp⟩ := h'.done_lone hi
  have hc := (clean_of_lone hn).2
  have ha := alone_of_lone (w' := w') hn
  refine ⟨n, lone fr [] w', .done v, w', (runNT P (n + 1) (lone (Frame.enter P f args .normal) [] w) #[]).2, ?_, hn, step_of_runs hn hend, v, rfl, hp, ?_, ha.2.1, ?_, ha.2.2⟩
  · exact Prod.ext (by rw [runNT_fst]; exact hend) rfl
  · intro said
    have h1 : (lone fr [] w').gs.size ≤ 1 := by simp [lone]
    exact (no_race_of_lone (said := said) P n _ _ hn h1 rfl).2
  · exact ⟨by simp [lone], rfl⟩

section
variable {H : Type} {enc : TypeId × Value → H}

/-- The row's step for 'leaving', from a lone contract. -/
theorem leaving_of_calls {a : Assume} {C : Checked} {os : Os} {f : FuncId} {fn : Func} {s : ChangeSpec} {conds : List PathCond} {apart fresh handsOn again : Bool}
    (own : ownKnob C.prog.godebug = none) (started : os.Started) (hi : C.prog.inits.idxOf? f = none) (hfn : C.prog.funcs[f]? = some fn)
    (witness : ∃ (w : World) (tape : Tape) (i : Input), w.os = os ∧ (w.forCall tape i).Shaped C.prog ∧ i.vars = [] ∧ Input.okWide C.prog (w.forCall tape i) .any w.heap.size f i ∧
      s.pre6 enc C.prog fn conds apart (w.forCall tape i).memory i.args ∧ a.holds C.prog (lone (Frame.enter C.prog f i.args .normal) [] (w.forCall tape i)))
    (contract : ∀ (W : World) (base : Nat) (args : Array Value) (ds gs : List (DataW H)) (before : List MemPlace),
      (∀ (j : Nat) t v, fn.params[j]? = some t → args[j]? = some v → Value.okWide C.prog W .any base t v) →
      DataW.Whole enc C.prog fn.params.toList s.vars apart W args.toList ds gs before →
      conds.all (PathCond.test C.prog ⟨fn.params.toList, ds, s.plain.varTypes C.prog, gs⟩) = true →
      a.holds C.prog (lone (Frame.enter C.prog f args .normal) [] W) →
      Calls C.prog f args W fun e W' => ∃ v, e = .returned v ∧ s.post enc C.prog fn apart fresh handsOn again W args v W') :
    ReturnsInLeavingWide a C os f .any (s.pre6 enc C.prog fn conds apart) (s.post enc C.prog fn apart fresh handsOn again) :=
  returnsInLeavingWide_of_change_sized own started hfn witness fun W base args ds gs before h1 h2 h3 _ h5 =>
    runs_of_calls hi (contract W base args ds gs before h1 h2 h3 h5)

/-- The same for the rows with the clock: a lone walk never looks at it. -/
theorem leavingTime_of_calls {a : Assume} {C : Checked} {os : Os} {f : FuncId} {fn : Func} {s : ChangeSpec} {F : Stop.Interp} {conds : List PathCond} {apart fresh handsOn : Bool}
    (own : ownKnob C.prog.godebug = none) (started : os.Started) (hi : C.prog.inits.idxOf? f = none) (hfn : C.prog.funcs[f]? = some fn)
    (witness : ∃ (w : World) (tape : Tape) (i : Input), w.os = os ∧ (w.forCall tape i).Shaped C.prog ∧ i.vars = [] ∧ Input.okWide C.prog (w.forCall tape i) .any w.heap.size f i ∧
      s.pre6 enc C.prog fn conds apart (w.forCall tape i).memory i.args ∧ a.holds C.prog (lone (Frame.enter C.prog f i.args .normal) [] (w.forCall tape i)))
    (contract : ∀ (W : World) (base : Nat) (args : Array Value) (ds gs : List (DataW H)) (before : List MemPlace),
      (∀ (j : Nat) t v, fn.params[j]? = some t → args[j]? = some v → Value.okWide C.prog W .any base t v) →
      DataW.Whole enc C.prog fn.params.toList s.vars apart W args.toList ds gs before →
      conds.all (PathCond.test C.prog ⟨fn.params.toList, ds, s.plain.varTypes C.prog, gs⟩) = true →
      a.holds C.prog (lone (Frame.enter C.prog f args .normal) [] W) →
      Calls C.prog f args W fun e W' => ∃ v, e = .returned v ∧ s.post enc C.prog fn apart fresh handsOn false W args v W' ∧ W'.os = W.os) :
    ReturnsInLeavingWide a C os f .any (s.pre6 enc C.prog fn conds apart) ((OpenSpec.ofChange s).postWith enc C.prog fn F (outsideKept [.timePasses]) apart fresh handsOn) :=
  returnsInLeavingWide_of_change_time own started hfn witness fun W base args ds gs before h1 h2 h3 _ h5 =>
    runs_of_calls hi ((contract W base args ds gs before h1 h2 h3 h5).mono fun e W' ⟨v, he, hp, ho⟩ => ⟨v, he, by
      have e1 : { W' with os := W.os } = W' := by rw [← ho]
      rw [e1]
      exact ⟨hp, ⟨0, by rw [ho]; rfl⟩⟩⟩)
end

/-- What is known of a slice of integers that came in: nil, or a row of cells. -/
def IsRow (k : IntKind) (w : World) (a : Option Addr) (len cap : Nat) (zs : List Int) : Prop :=
  (a = none ∧ len = 0 ∧ cap = 0 ∧ zs = []) ∨
  ∃ x, a = some x ∧ len ≤ cap ∧ cap ≤ maxLen ∧ zs.length = cap ∧ (∀ i, i < zs.length → w.cell? (x.add i) = some (.int k (zs.getD i 0))) ∧ ∀ n ∈ zs, (Lit.int k n).wf = true

theorem cell_plain {w : World} {x : Addr} {v : Value} (h : w.cell? x = some v) : x.spot = none := by
  unfold World.cell? at h
  split at h
  · split at h
    · cases h
    · rename_i hs
      cases hx : x.spot with
      | none => rfl
      | some n => rw [hx] at hs; simp at hs
  · cases h
theorem add_plain (b off : Nat) (i : Nat) : (⟨b, off, none⟩ : Addr).add i = ⟨b, off + i, none⟩ := by
  unfold Addr.add
  split
  · rename_i h; subst h; rfl
  · rfl
theorem IsRow.nums {k : IntKind} {w : World} {a : Option Addr} {len cap : Nat} {zs : List Int} (h : IsRow k w a len cap zs) :
    Nums k w w.heap.size (.slice a len cap) (zs.take len) ∧ (zs.take len).length = len ∧ ∀ n ∈ zs.take len, (Lit.int k n).wf = true := by
  rcases h with ⟨rfl, rfl, rfl, rfl⟩ | ⟨x, rfl, hl, hm, hz, hcell, hwf⟩
  · exact ⟨⟨none, 0, by simp, by simp, fun h => absurd h (by simp)⟩, rfl, by simp⟩
  · have hlen : (zs.take len).length = len := by rw [List.length_take]; omega
    refine ⟨⟨some x, cap, by rw [hlen], by omega, fun hp => ?_⟩, hlen, fun n hn => hwf n (List.mem_of_mem_take hn)⟩
    rw [hlen] at hp
    have h0 := hcell 0 (by omega)
    rw [show x.add 0 = x from by simp [Addr.add]] at h0
    obtain ⟨b, off, spot⟩ := x
    obtain rfl : spot = none := cell_plain h0
    refine ⟨b, off, rfl, World.block_lt_of_cell? w _ h0, fun i hi => ?_⟩
    rw [hlen] at hi
    have h1 := hcell i (by omega)
    rw [add_plain] at h1
    rw [h1, List.getD_eq_getElem?_getD, List.getD_eq_getElem?_getD, List.getElem?_take, if_pos hi]
theorem IsRow.len {k : IntKind} {w : World} {a : Option Addr} {len cap : Nat} {zs : List Int} (h : IsRow k w a len cap zs) : len ≤ 9223372036854775807 := by
  rcases h with ⟨_, rfl, _⟩ | ⟨x, _, hl, hm, _⟩
  · omega
  · unfold maxLen at hm; omega
theorem nums_shape {k : IntKind} {w : World} {B : Nat} {v : Value} {l : List Int} (h : Nums k w B v l) : ∃ A c, v = .slice A l.length c := by
  obtain ⟨A, c, rfl, _⟩ := h
  exact ⟨A, c, rfl⟩
theorem wf_u64 {n : Int} (h : (Lit.int .u64 n).wf = true) : 0 ≤ n ∧ n < 18446744073709551616 := by
  have := bounds_u64 h; omega
theorem wf_i64 {n : Int} (h : (Lit.int .i64 n).wf = true) : -9223372036854775808 ≤ n ∧ n ≤ 9223372036854775807 := bounds_i64 h
theorem getD_wf {k : IntKind} {l : List Int} (h : ∀ n ∈ l, (Lit.int k n).wf = true) {i : Nat} (hi : i < l.length) : (Lit.int k (l.getD i 0)).wf = true := by
  rw [List.getD_eq_getElem?_getD, List.getElem?_eq_getElem hi]
  exact h _ (List.getElem_mem hi)
end Go.Proofs.Ytpfpokjaeffbjab.Lev
