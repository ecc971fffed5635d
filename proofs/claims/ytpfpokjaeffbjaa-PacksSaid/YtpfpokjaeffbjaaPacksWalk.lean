/- The walk of the law Packs. -/
import Derived.Test.YtpfpokjaeffbjaaRefPack
import Derived.Test.YtpfpokjaeffbjaaOpenGroup
namespace Go.Proofs.Ytpfpokjaeffbjaa.PacksW
open Go.RowKit Go.Proofs.Ytpfpokjaeffbjaa.Pl Go.Proofs.Ytpfpokjaeffbjaa.Mem Go.Proofs.Ytpfpokjaeffbjaa.Lev Go.Proofs.Ytpfpokjaeffbjaa.Ppl Go.Proofs.Ytpfpokjaeffbjaa.Pak Go.Proofs.Ytpfpokjaeffbjaa.Rpk

set_option maxRecDepth 100000 in
set_option maxHeartbeats 1000000 in
theorem walk {w : World} (v : Value) (l : List Cm) (wl : IsComs w v l) :
    Calls Try.prog 4 #[v] w fun e w' => e = .returned (.bool true) ∧ Below w.heap.size w w' := by
  obtain ⟨hc, hm, hb⟩ := wl
  have hbb : ∀ i, i < l.length → (0 ≤ (l.getD i .zero).d ∧ (l.getD i .zero).d < 18446744073709551616) ∧ (0 ≤ (l.getD i .zero).e ∧ (l.getD i .zero).e < 18446744073709551616) := fun i hi => (hb i hi).2
  have HB := Lib.hid hbb
  have HC := Lib.hid hc
  obtain ⟨A, c, rfl⟩ := hc.shape
  clear hc hb hbb
  by_cases h0 : 65536 < l.length
  · go_enter Try.func4, Try.ntmps4
    go_wp2_with fail
    go_ret
    exact ⟨rfl, Below.refl _ _⟩
  go_enter Try.func4, Try.ntmps4
  go_wp2_with fail
  refine (packC l _ _ HC.out (by omega) HB.out).mono ?_
  rintro e W1 ⟨rfl, hb1⟩
  go_wp2_with fail
  refine (refPackC l _ _ (HC.out.later hb1) (by omega) HB.out).mono ?_
  rintro e W2 ⟨rfl, hb2⟩
  generalize strOfNums (packed l) = S
  go_wp2_with fail
  go_ret
  exact ⟨rfl, hb1.trans (hb2.mono hb1.size)⟩
end Go.Proofs.Ytpfpokjaeffbjaa.PacksW
