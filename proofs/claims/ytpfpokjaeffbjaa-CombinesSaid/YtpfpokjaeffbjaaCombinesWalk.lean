/- The walk of the law Combines. -/
import Derived.Test.YtpfpokjaeffbjaaCombine
import Derived.Test.YtpfpokjaeffbjaaCombinesPlain
import Derived.Test.YtpfpokjaeffbjaaLeave
namespace Go.Proofs.Ytpfpokjaeffbjaa.CombinesW
open Go.RowKit Go.Proofs.Ytpfpokjaeffbjaa.Pl Go.Proofs.Ytpfpokjaeffbjaa.Fld Go.Proofs.Ytpfpokjaeffbjaa.Mem Go.Proofs.Ytpfpokjaeffbjaa.Lev Go.Proofs.Ytpfpokjaeffbjaa.Cmb Go.Proofs.Ytpfpokjaeffbjaa.Cpl

set_option maxRecDepth 100000 in
set_option maxHeartbeats 1000000 in
theorem walk {w : World} (a0 : Option Addr) (len0 cap0 : Nat) (z0 : List Int) (w0 : IsRow .i64 w a0 len0 cap0 z0) (a1 : Option Addr) (len1 cap1 : Nat) (z1 : List Int) (w1 : IsRow .u64 w a1 len1 cap1 z1) :
    Calls Try.prog 10 #[.slice a0 len0 cap0, .slice a1 len1 cap1] w fun e w' => e = .returned (.bool true) ∧ Below w.heap.size w w' := by
  have l0 := w0.len
  have l1 := w1.len
  obtain ⟨n0, e0, _⟩ := w0.nums
  obtain ⟨n1, e1, f1⟩ := w1.nums
  generalize z0.take len0 = ids at *
  generalize z1.take len1 = shares at *
  have hsb : ∀ i, i < shares.length → 0 ≤ shares.getD i 0 := fun i hi => (wf_u64 (getD_wf f1 hi)).1
  have HEQ := Lib.hid (comb_eq ids shares hsb)
  have HSB := Lib.hid hsb
  have N0 := Lib.hid n0
  have N1 := Lib.hid n1
  have E0 := Lib.hid e0
  have E1 := Lib.hid e1
  clear w0 w1 n0 n1 e0 e1 f1 hsb
  by_cases h0 : 65536 < len0
  · go_enter Try.func10, Try.ntmps10
    go_wp2_with fail
    go_ret
    exact ⟨rfl, Below.refl _ _⟩
  by_cases h1 : 65536 < len1
  · go_enter Try.func10, Try.ntmps10
    go_wp2_with fail
    go_ret
    exact ⟨rfl, Below.refl _ _⟩
  go_enter Try.func10, Try.ntmps10
  go_wp2_with fail
  refine (combineC ids shares _ _ _ N0.out N1.out (by rw [E0.out]; omega) (by rw [E1.out]; omega)).mono ?_
  rintro e W1 ⟨rfl, hb1⟩
  go_wp2_with fail
  refine (refCombineC ids shares _ _ _ (N0.out.later hb1) (N1.out.later hb1) (by rw [E0.out]; omega) (by rw [E1.out]; omega) HSB.out).mono ?_
  rintro e W2 ⟨rfl, hb2⟩
  rw [← HEQ.out]
  have t1 : (combA ids shares == combA ids shares) = true := by rw [beq_iff_eq]
  have t2 : (combE ids shares == combE ids shares) = true := by rw [beq_iff_eq]
  go_wp2_with fail
  go_ret
  exact ⟨rfl, hb1.trans (hb2.mono hb1.size)⟩
end Go.Proofs.Ytpfpokjaeffbjaa.CombinesW
