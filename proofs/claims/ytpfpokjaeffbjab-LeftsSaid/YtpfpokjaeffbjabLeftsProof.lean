/- Proves Rows.LeftsSaid: for every script Lefts returns true and the script reads as it did. Condition: those of the row itself. -/
import Derived.Test.YtpfpokjaeffbjabRows
import Derived.Test.YtpfpokjaeffbjabLeftsWalk
import Derived.ProofKit
import Derived.OpenShut
import Derived.ShutString
import Derived.ChangeOld
namespace Go.Proofs.Ytpfpokjaeffbjab.lefts
open Go.ChangeShapes Go.WideShapes Go.ChangeAt Go.RowKit Go.Proofs.Ytpfpokjaeffbjab.Lev
set_option linter.unusedVariables false

theorem own : ownKnob Try.prog.godebug = none := by kernel_rfl
theorem laidOut : laidOutB Try.prog = true := by kernel_rfl
set_option maxRecDepth 100000 in
theorem lifted (os : Os) (started : os.Started) (H : Type) (enc : TypeId × Value → H) (Fi : Stop.Interp) :
    ReturnsInLeavingWide { calm := true } Try.checked os 4 .any (Rows.leftsSpec.pre6 enc Try.prog Try.f4 Rows.leftsRow.domain false) ((OpenSpec.ofChange Rows.leftsSpec).postWith enc Try.prog Try.f4 Fi (outsideKept [.timePasses]) false true false) := by
  refine leavingTime_of_calls_sized (C := Try.checked) own started (by kernel_rfl) Try.func4
    (ChangeSpec.witness6c (enc := enc) (C := Try.checked) (s := Rows.leftsSpec) (conds := Rows.leftsRow.domain) (apart := false) (f := 4) (fn := Try.f4) ⟨#[], #[.slice none 0 0], []⟩ 8 (by kernel_rfl) (by kernel_rfl) (by kernel_rfl) (by kernel_rfl)) ?_
  intro W base args ds gs before hval0 hW hwt
  have hval : ∀ (j : Nat) t v, Try.f4.params[j]? = some t → args[j]? = some v → Value.okWide Try.prog W .any base t v := hval0
  have hW' := hW
  obtain ⟨p, q, hA0, hV, rfl, hfz, hnd⟩ := hW
  have hA : DataW.TrodAll enc Try.prog W 0 (fun _ => true) true Try.f4.params.toList args.toList ds p := hA0
  have hwt' : (DataW.weightsEach Try.prog (Try.f4.params.toList ++ Rows.leftsSpec.plain.varTypes Try.prog) (ds ++ gs)).all (· ≤ reachBytes) = true := hwt
  rw [Try.params4] at hA hval hwt'
  obtain ⟨v0, vs0, d0, ds0, p0, q0, hargs, rfl, rfl, h0, r0⟩ := trodAll_cons hA
  obtain ⟨rfl, rfl, rfl⟩ := trodAll_nil r0
  obtain rfl : args = #[v0] := by cases args; simp_all
  obtain ⟨rfl, rfl⟩ := trodVars_none hV
  have k0 := h0
  have lt0 : ∀ x ∈ p0, x.block < W.heap.size := by obtain ⟨m, hm⟩ := k0; exact DataW.trod_lt m _ _ _ hm
  have hw0 : ∀ n ∈ d0.weights Try.prog 22, n ≤ reachBytes := fun n hn => by
    have h1 := List.all_eq_true.1 hwt' n (List.mem_append_left _ hn)
    exact of_decide_eq_true h1
  obtain ⟨o0, wo0⟩ := open_ops (hval 0 22 v0 rfl rfl) h0 hw0
  clear hA0 hval0 hwt hwt'
  refine (Go.Proofs.Ytpfpokjaeffbjab.LeftsW.walk (w := W) v0 o0 wo0).mono fun e W' ⟨he, bel⟩ => ?_
  subst he
  exact ⟨_, rfl, ⟨_, _, _, [], _, [], hW', trodAll_mk1 (shut_bool Try.underlying4 _), (trodAll_cons_mk (Below.trod laidOut (by kernel_rfl) (of_decide_eq_true (by kernel_rfl)) k0 bel lt0) trodAll_mk0), rfl, bel.frame _, fun h => by cases h⟩, bel.os⟩

theorem over : Rows.leftsRow.holds Try.pinned (OpenSpec.ofChange Rows.leftsSpec) :=
  OpenClaim.holds_of_wide_leaving_time 4 Try.f4 rfl rfl rfl rfl rfl rfl rfl ⟨rfl, rfl, rfl, rfl, rfl⟩ rfl rfl rfl rfl rfl (by kernel_rfl) Try.func4 (by kernel_rfl)
    (of_decide_eq_true (by kernel_rfl)) (by unfold Func.isWrapper; first | (rw [if_pos (by decide +kernel)]; kernel_rfl) | (rw [if_neg (by decide +kernel)]; exact ⟨rfl, rfl⟩))
    (fun os started H enc _ Fi => lifted os started H enc Fi)

/-- THE STATEMENT. -/
theorem proved : Rows.LeftsSaid := over
#print axioms proved
end Go.Proofs.Ytpfpokjaeffbjab.lefts
