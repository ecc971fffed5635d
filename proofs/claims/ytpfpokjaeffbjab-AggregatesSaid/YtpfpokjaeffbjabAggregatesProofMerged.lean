/- Proves Rows.AggregatesSaid: for every input threshold/thresholdlaw.Aggregates returns true and each argument reads as it did. Condition: those of the row itself. -/
import Derived.Test.YtpfpokjaeffbjabRows
import Derived.Test.YtpfpokjaeffbjabGa40
import Derived.ProofKit
import Derived.OpenShut
import Derived.ShutString
import Derived.ChangeOld
namespace Go.Proofs.Ytpfpokjaeffbjab.aggregates
open Go.ChangeShapes Go.WideShapes Go.ChangeAt Go.RowKit Go.Proofs.Ytpfpokjaeffbjab.Lev
open Go.ChangeMaps (open_string shut_string)
set_option linter.unusedVariables false

theorem own : ownKnob Try.prog.godebug = none := by kernel_rfl
theorem laidOut : laidOutB Try.prog = true := by kernel_rfl
set_option maxRecDepth 100000 in
theorem lifted (os : Os) (started : os.Started) (H : Type) (enc : TypeId × Value → H) (Fi : Stop.Interp) :
    ReturnsInLeavingWide { calm := true } Try.checked os 7 .any (Rows.aggregatesSpec.pre6 enc Try.prog Try.f7 Rows.aggregatesRow.domain false) ((OpenSpec.ofChange Rows.aggregatesSpec).postWith enc Try.prog Try.f7 Fi (outsideKept [.timePasses]) false true false) := by
  refine returnsInLeavingWide_of_change_time (C := Try.checked) own started Try.func7
    (ChangeSpec.witness6c (enc := enc) (C := Try.checked) (s := Rows.aggregatesSpec) (conds := Rows.aggregatesRow.domain) (apart := false) (f := 7) (fn := Try.f7) ⟨#[], #[.agg #[.int .i64 0, .int .i64 0, .slice none 0 0], .string ⟨#[]⟩, .slice none 0 0, .slice none 0 0], []⟩ 8 (by kernel_rfl) (by kernel_rfl) (by kernel_rfl) (by kernel_rfl)) ?_
  intro W base args ds gs before hval0 hW hcnd _ _
  have hval : ∀ (j : Nat) t v, Try.f7.params[j]? = some t → args[j]? = some v → Value.okWide Try.prog W .any base t v := hval0
  have hW' := hW
  obtain ⟨p, q, hA0, hV, rfl, hfz, hnd⟩ := hW
  have hA : DataW.TrodAll enc Try.prog W 0 (fun _ => true) true Try.f7.params.toList args.toList ds p := hA0
  rw [Try.params7] at hA hval
  obtain ⟨v0, vs0, d0, ds0, p0, q0, hargs, rfl, rfl, h0, r0⟩ := trodAll_cons hA
  obtain ⟨v1, vs1, d1, ds1, p1, q1, rfl, rfl, rfl, h1, r1⟩ := trodAll_cons r0
  obtain ⟨v2, vs2, d2, ds2, p2, q2, rfl, rfl, rfl, h2, r2⟩ := trodAll_cons r1
  obtain ⟨v3, vs3, d3, ds3, p3, q3, rfl, rfl, rfl, h3, r3⟩ := trodAll_cons r2
  obtain ⟨rfl, rfl, rfl⟩ := trodAll_nil r3
  obtain rfl : args = #[v0, v1, v2, v3] := by cases args; simp_all
  obtain ⟨rfl, rfl⟩ := trodVars_none hV
  have k0 := h0
  have lt0 : ∀ x ∈ p0, x.block < W.heap.size := by obtain ⟨m, hm⟩ := k0; exact DataW.trod_lt m _ _ _ hm
  obtain ⟨t0, n0, a0, len0, cap0, z0, rfl, w0, bt0, bn0⟩ := open_group (hval 0 28 v0 rfl rfl) h0
  have k1 := h1
  have lt1 : ∀ x ∈ p1, x.block < W.heap.size := by obtain ⟨m, hm⟩ := k1; exact DataW.trod_lt m _ _ _ hm
  obtain ⟨s1, rfl, rfl, rfl, ws1⟩ := open_string Try.underlying9 (hval 1 9 v1 rfl rfl) h1
  have k2 := h2
  have lt2 : ∀ x ∈ p2, x.block < W.heap.size := by obtain ⟨m, hm⟩ := k2; exact DataW.trod_lt m _ _ _ hm
  obtain ⟨c2, wc2⟩ := open_commits (hval 2 40 v2 rfl rfl) h2
  have k3 := h3
  have lt3 : ∀ x ∈ p3, x.block < W.heap.size := by obtain ⟨m, hm⟩ := k3; exact DataW.trod_lt m _ _ _ hm
  obtain ⟨a3, len3, cap3, rfl⟩ := okWide_slice Try.underlying26 (hval 3 26 v3 rfl rfl)
  obtain ⟨z3, w3⟩ : ∃ zs, IsRow .u64 W a3 len3 cap3 zs := by
    obtain ⟨fuel, hf⟩ := h3
    rcases open_ints Try.underlying26 Try.underlying25 (by kernel_rfl) hf with ⟨hcs, _⟩ | ⟨x, l, c, zs, hcs, _, hl, hm, hz, _, hcell, hwz⟩
    · simp [Value.cells] at hcs
      obtain ⟨rfl, rfl, rfl⟩ := hcs
      exact ⟨[], .inl ⟨rfl, rfl, rfl, rfl⟩⟩
    · simp [Value.cells] at hcs
      obtain ⟨rfl, rfl, rfl⟩ := hcs
      exact ⟨zs, .inr ⟨_, rfl, hl, hm, by simpa using hz, hcell, hwz⟩⟩
  clear hA0 hval0
  obtain ⟨wc, -, wb⟩ := wc2
  obtain ⟨A2, k2', rfl⟩ := wc.shape
  have hs0 := AggregatesW.slK_grp (hval 0 28 _ rfl rfl)
  have hs2 := AggregatesW.slK_ok (W := W) Try.underlying40 (hval 2 40 _ rfl rfl)
  have hs3 := AggregatesW.slK_ok (W := W) Try.underlying26 (hval 3 26 _ rfl rfl)
  obtain ⟨n0', e0, f0⟩ := w0.nums
  obtain ⟨n3', e3, f3⟩ := w3.nums
  generalize z0.take len0 = cs at n0' e0 f0
  generalize z3.take len3 = zs at n3' e3 f3
  subst e0 e3
  obtain ⟨M, last, o, w', t', r1, r2, r3, r4⟩ := AggregatesW.runs (W := W) (t := t0) (n := n0) (msg := s1) (AggregatesW.numsK_of n0' hs0) (AggregatesW.comsK_of wc hs2) (AggregatesW.numsK_of n3' hs3) (fun i hi => (wf_u64 (getD_wf f0 hi)).1) (fun i hi => ⟨(wb i hi).2.1.1, (wb i hi).2.2.1⟩) (fun k hk => wf_u64 (getD_wf f3 hk))
  refine ⟨M, last, o, w', t', r1, r2, r3, ?_⟩
  obtain ⟨v, ev, ⟨rfl, kp⟩, r5⟩ := r4
  refine ⟨_, ev, ?_, r5⟩
  have bel : Below W.heap.size W { w' with os := W.os, tape := W.tape } := ⟨rfl, rfl, kp.output, kp.size, kp.block⟩
  have same : ∀ {p : MemPlace}, p.block < W.heap.size → W.sameAt { w' with os := W.os } p := fun hp => bel.same hp
  refine ⟨⟨_, _, _, [], _, [], hW', trodAll_mk1 (shut_bool Try.underlying4 _), (trodAll_cons_mk (Go.WideElems.Trod_stays laidOut (by kernel_rfl) (of_decide_eq_true (by kernel_rfl)) k0 (fun x hx => same (lt0 x hx)) fun x hx => by simpa using lt0 x hx) (trodAll_cons_mk (Go.WideElems.Trod_stays laidOut (by kernel_rfl) (of_decide_eq_true (by kernel_rfl)) k1 (fun x hx => same (lt1 x hx)) fun x hx => by simpa using lt1 x hx) (trodAll_cons_mk (Go.WideElems.Trod_stays laidOut (by kernel_rfl) (of_decide_eq_true (by kernel_rfl)) k2 (fun x hx => same (lt2 x hx)) fun x hx => by simpa using lt2 x hx) (trodAll_cons_mk (Go.WideElems.Trod_stays laidOut (by kernel_rfl) (of_decide_eq_true (by kernel_rfl)) k3 (fun x hx => same (lt3 x hx)) fun x hx => by simpa using lt3 x hx) trodAll_mk0)))), rfl, ⟨rfl, kp.output, fun i hi => by rw [show ({ w' with os := W.os } : World).heap[i]? = W.heap[i]? from kp.block i hi]; split <;> simp_all⟩, fun h => by cases h⟩, kp.os⟩

theorem over : Rows.aggregatesRow.holds Try.pinned (OpenSpec.ofChange Rows.aggregatesSpec) :=
  OpenClaim.holds_of_wide_leaving_time 7 Try.f7 rfl rfl rfl rfl rfl rfl rfl ⟨rfl, rfl, rfl, rfl, rfl⟩ rfl rfl rfl rfl rfl (by kernel_rfl) Try.func7 (by kernel_rfl)
    (of_decide_eq_true (by kernel_rfl)) (by unfold Func.isWrapper; first | (rw [if_pos (by decide +kernel)]; kernel_rfl) | (rw [if_neg (by decide +kernel)]; exact ⟨rfl, rfl⟩))
    (fun os started H enc _ Fi => lifted os started H enc Fi)

/-- THE STATEMENT. -/
theorem proved : Rows.AggregatesSaid := over
#print axioms proved
end Go.Proofs.Ytpfpokjaeffbjab.aggregates
