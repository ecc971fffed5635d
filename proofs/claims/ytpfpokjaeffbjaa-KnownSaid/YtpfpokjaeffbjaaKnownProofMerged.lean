/- Proves Rows.KnownSaid: for every input threshold/thresholdkeep.Known returns true and each argument reads as it did. Condition: those of the row itself. -/
import Derived.Test.YtpfpokjaeffbjaaRows
import Derived.Test.YtpfpokjaeffbjaaKk15
import Derived.ProofKit
import Derived.OpenShut
import Derived.ShutString
import Derived.ChangeOld
namespace Go.Proofs.Ytpfpokjaeffbjaa.known
open Go.ChangeShapes Go.WideShapes Go.ChangeAt Go.RowKit
open Go.ChangeMaps (open_string shut_string)
set_option linter.unusedVariables false

theorem own : ownKnob Try.prog.godebug = none := by kernel_rfl
theorem laidOut : laidOutB Try.prog = true := by kernel_rfl
theorem wf64 {z : Int} (h : (Lit.int .u64 z).wf = true) : 0 ≤ z ∧ z < 18446744073709551616 := by
  have := bounds_u64 h; omega
theorem wfi64 {z : Int} (h : (Lit.int .i64 z).wf = true) : -9223372036854775808 ≤ z ∧ z ≤ 9223372036854775807 := bounds_i64 h
set_option maxRecDepth 100000 in
theorem lifted (os : Os) (started : os.Started) (H : Type) (enc : TypeId × Value → H) (Fi : Stop.Interp) :
    ReturnsInLeavingWide { calm := true } Try.checked os 9 .any (Rows.knownSpec.pre6 enc Try.prog Try.f9 Rows.knownRow.domain false) ((OpenSpec.ofChange Rows.knownSpec).postWith enc Try.prog Try.f9 Fi (outsideKept [.timePasses]) false true false) := by
  refine returnsInLeavingWide_of_change_time (C := Try.checked) own started Try.func9
    (ChangeSpec.witness6c (enc := enc) (C := Try.checked) (s := Rows.knownSpec) (conds := Rows.knownRow.domain) (apart := false) (f := 9) (fn := Try.f9) ⟨#[], #[], []⟩ 8 (by kernel_rfl) (by kernel_rfl) (by kernel_rfl) (by kernel_rfl)) ?_
  intro W base args ds gs before hval0 hW hcnd _ _
  have hval : ∀ (j : Nat) t v, Try.f9.params[j]? = some t → args[j]? = some v → Value.okWide Try.prog W .any base t v := hval0
  have hW' := hW
  obtain ⟨p, q, hA0, hV, rfl, hfz, hnd⟩ := hW
  have hA : DataW.TrodAll enc Try.prog W 0 (fun _ => true) true Try.f9.params.toList args.toList ds p := hA0
  rw [Try.params9] at hA hval
  obtain ⟨hnil, rfl, rfl⟩ := trodAll_nil hA
  obtain rfl : args = #[] := by cases args; simp_all
  obtain ⟨rfl, rfl⟩ := trodVars_none hV
  clear hA0 hval0
  obtain ⟨M, last, o, w', t', r1, r2, r3, r4⟩ := Go.Proofs.Ytpfpokjaeffbjaa.aD5.ca1 (W := W)
  refine ⟨M, last, o, w', t', r1, r2, r3, ?_⟩
  obtain ⟨v, ev, ⟨rfl, kp⟩, r5⟩ := r4
  refine ⟨_, ev, ?_, r5⟩
  have bel : Below W.heap.size W { w' with os := W.os, tape := W.tape } := ⟨rfl, rfl, kp.output, kp.size, kp.block⟩
  have same : ∀ {p : MemPlace}, p.block < W.heap.size → W.sameAt { w' with os := W.os } p := fun hp => bel.same hp
  refine ⟨⟨_, _, _, [], _, [], hW', trodAll_mk1 (shut_bool Try.underlying4 _), trodAll_mk0, rfl, ⟨rfl, kp.output, fun i hi => by rw [show ({ w' with os := W.os } : World).heap[i]? = W.heap[i]? from kp.block i hi]; split <;> simp_all⟩, fun h => by cases h⟩, kp.os⟩

theorem over : Rows.knownRow.holds Try.pinned (OpenSpec.ofChange Rows.knownSpec) :=
  OpenClaim.holds_of_wide_leaving_time 9 Try.f9 rfl rfl rfl rfl rfl rfl rfl ⟨rfl, rfl, rfl, rfl, rfl⟩ rfl rfl rfl rfl rfl (by kernel_rfl) Try.func9 (by kernel_rfl)
    (of_decide_eq_true (by kernel_rfl)) (by unfold Func.isWrapper; first | (rw [if_pos (by decide +kernel)]; kernel_rfl) | (rw [if_neg (by decide +kernel)]; exact ⟨rfl, rfl⟩))
    (fun os started H enc _ Fi => lifted os started H enc Fi)

/-- THE STATEMENT. -/
theorem proved : Rows.KnownSaid := over
#print axioms proved
end Go.Proofs.Ytpfpokjaeffbjaa.known
