/- The walk of the law Verifies. -/
import Derived.Test.YtpfpokjaeffbjaaVerify
import Derived.Test.YtpfpokjaeffbjaaLeave
namespace Go.Proofs.Ytpfpokjaeffbjaa.VerifiesW
open Go.RowKit Go.Proofs.Ytpfpokjaeffbjaa.Pl Go.Proofs.Ytpfpokjaeffbjaa.Fld Go.Proofs.Ytpfpokjaeffbjaa.Mem Go.Proofs.Ytpfpokjaeffbjaa.Lev Go.Proofs.Ytpfpokjaeffbjaa.Ver
attribute [local go_sem ↓] Go.wp_at_zero Go.wp_at_succ

set_option maxRecDepth 100000 in
set_option maxHeartbeats 1000000 in
theorem walk {w : World} (key : Int) (hk : 0 ≤ key ∧ key < 18446744073709551616) (s : ByteArray) (hs : s.size ≤ maxLen) (r z : Int) (hr : 0 ≤ r ∧ r < 18446744073709551616) (hz : 0 ≤ z ∧ z < 18446744073709551616) :
    Calls Try.prog 8 #[.int .u64 key, .string s, .agg #[.int .u64 r, .int .u64 z]] w fun e w' => e = .returned (.bool true) ∧ Below w.heap.size w w' := by
  unfold maxLen at hs
  by_cases hl : 65536 < s.size
  · have hd : decide ((65536 : Int) < (s.size : Int)) = true := by simp; omega
    go_enter Try.func8, Try.ntmps8
    go_wp2_with fail
    go_quiet (fail)
    go_wp2_with fail
    go_ret
    exact ⟨rfl, below_drewN (below_box _ _) _⟩
  have hd : decide ((65536 : Int) < (s.size : Int)) = false := by simp; omega
  have hs' : s.size ≤ 1000000 := by omega
  have HK := Lib.hid hk
  have HR := Lib.hid hr
  have HZ := Lib.hid hz
  have hv : Hid ((verS key s r z == verS key s r z) = true) := by
    show (verS key s r z == verS key s r z) = true
    rw [beq_iff_eq]
  clear hk hr hz
  go_enter Try.func8, Try.ntmps8
  go_wp2_with fail
  have hbw : Below w.heap.size w (w.alloc (.cells #[.int .u64 r, .int .u64 z] 47)) := below_box _ _
  have hc0 : (w.alloc (.cells #[.int .u64 r, .int .u64 z] 47)).cell? ⟨w.heap.size, 0, none⟩ = some (.int .u64 r) := by simp
  have hc1 : (w.alloc (.cells #[.int .u64 r, .int .u64 z] 47)).cell? ⟨w.heap.size, 1, none⟩ = some (.int .u64 z) := by simp
  have hsz : w.heap.size < (w.alloc (.cells #[.int .u64 r, .int .u64 z] 47)).heap.size := by simp
  generalize w.alloc (.cells #[.int .u64 r, .int .u64 z] 47) = wb at *
  generalize hB : w.heap.size = B at *
  have HB := Lib.hid hB
  have HBW := Lib.hid hbw
  clear hB hbw
  go_region_held3 (fun w' => w'.cell? ⟨B, 0, none⟩ = some (.int .u64 r) ∧ w'.cell? ⟨B, 1, none⟩ = some (.int .u64 z)) (first | go_keep | (exact ⟨(hb2.cell (p := ⟨B, 0, none⟩) (Nat.lt_of_lt_of_le hsz hb1.size)).trans ((hb1.cell (p := ⟨B, 0, none⟩) hsz).trans hc0), (hb2.cell (p := ⟨B, 1, none⟩) (Nat.lt_of_lt_of_le hsz hb1.size)).trans ((hb1.cell (p := ⟨B, 1, none⟩) hsz).trans hc1)⟩) | (exact ⟨(hb1.cell (p := ⟨B, 0, none⟩) hsz).trans hc0, (hb1.cell (p := ⟨B, 1, none⟩) hsz).trans hc1⟩))
    (first | (go_at_call 28; refine (verifyC key s r z _ hs' HK.out HR.out HZ.out).mono ?_; rintro e w1 ⟨rfl, hb1⟩) | (go_at_call 29; refine (refVerifyC key s r z _ hs' HK.out HR.out HZ.out).mono ?_; rintro e w2 ⟨rfl, hb2⟩))
  all_goals
    go_wp2_with fail
    go_ret
    exact ⟨rfl, HB.out ▸ (HBW.out.trans (((Below.refl _ _).drew).trans ((hb1.trans (hb2.mono hb1.size)).mono (Nat.le_of_lt hsz))))⟩
end Go.Proofs.Ytpfpokjaeffbjaa.VerifiesW
