/- The walk of the law Unpacks. -/
import Derived.Test.YtpfpokjaeffbjaaRefUnpack
import Derived.Test.YtpfpokjaeffbjaaSameComs
namespace Go.Proofs.Ytpfpokjaeffbjaa.UnpacksW
open Go.RowKit Go.Proofs.Ytpfpokjaeffbjaa.Pl Go.Proofs.Ytpfpokjaeffbjaa.Fld Go.Proofs.Ytpfpokjaeffbjaa.Mem Go.Proofs.Ytpfpokjaeffbjaa.Upl Go.Proofs.Ytpfpokjaeffbjaa.Ver Go.Proofs.Ytpfpokjaeffbjaa.Unp Go.Proofs.Ytpfpokjaeffbjaa.Run

theorem coms_nil (w : World) (B : Nat) : Coms w B (.slice none 0 0) [] := ⟨rfl, none, 0, rfl, Nat.le_refl _, fun h => absurd h (by simp)⟩
theorem upE_small {s : ByteArray} (h : upE s = 0) : s.size ≤ 81 := by
  by_cases hc : s.size % 9 = 0 ∧ s.size ≤ 81
  · exact hc.2
  · rw [upE_len s hc] at h; omega

set_option maxRecDepth 100000 in
set_option maxHeartbeats 1000000 in
theorem walk {w : World} (s : ByteArray) (hs : s.size ≤ maxLen) :
    Calls Try.prog 6 #[.string s] w fun e w' => e = .returned (.bool true) ∧ Below w.heap.size w w' := by
  have HS := Lib.hid hs
  clear hs
  go_enter Try.func6, Try.ntmps6
  go_wp2_with fail
  refine (unpackC s _ HS.out).mono ?_
  rintro e W1 ⟨hb1, hp⟩
  rcases hp with ⟨hne, rfl⟩ | ⟨he0, v, rfl, hc⟩
  · have HNE := Lib.hid hne
    clear hne
    go_wp2_with fail
    refine (refUnpackC s _ HS.out).mono ?_
    rintro e W2 ⟨hb2, hp⟩
    rcases hp with ⟨hne, rfl⟩ | ⟨he0, v, rfl, hc⟩
    case inr => exact absurd he0 HNE.out
    clear hne
    have t1 : (upE s == upE s) = true := by rw [beq_iff_eq]
    go_wp2_with fail
    refine (sameComs [] _ _ _ (coms_nil _ _) (coms_nil _ _) (by simp)).mono ?_
    rintro e W3 ⟨rfl, hb3⟩
    go_wp2_with fail
    go_ret
    exact ⟨rfl, hb1.trans ((hb2.trans (hb3.mono hb2.size)).mono hb1.size)⟩
  · have hlen : (pieces s (s.size / 9)).length ≤ 65536 := by rw [pieces_length]; have := upE_small he0; omega
    have HE0 := Lib.hid he0
    have HC := Lib.hid hc
    clear he0 hc
    go_wp2_with fail
    refine (refUnpackC s _ HS.out).mono ?_
    rintro e W2 ⟨hb2, hp⟩
    rcases hp with ⟨hne, rfl⟩ | ⟨he0, v2, rfl, hc⟩
    case inl => exact absurd HE0.out hne
    have HC2 := Lib.hid hc
    clear he0 hc
    have t1 : ((0 : Int) == 0) = true := rfl
    go_wp2_with fail
    refine (sameComs _ _ _ _ (HC.out.later hb2) HC2.out hlen).mono ?_
    rintro e W3 ⟨rfl, hb3⟩
    go_wp2_with fail
    go_ret
    exact ⟨rfl, hb1.trans ((hb2.trans (hb3.mono hb2.size)).mono hb1.size)⟩
end Go.Proofs.Ytpfpokjaeffbjaa.UnpacksW
