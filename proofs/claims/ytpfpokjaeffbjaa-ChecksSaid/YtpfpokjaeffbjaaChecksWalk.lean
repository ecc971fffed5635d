/- The walk of the law Checks. -/
import Derived.Test.YtpfpokjaeffbjaaRefCheck
import Derived.Test.YtpfpokjaeffbjaaLeave
namespace Go.Proofs.Ytpfpokjaeffbjaa.ChecksW
open Go.RowKit Go.Proofs.Ytpfpokjaeffbjaa.Pl Go.Proofs.Ytpfpokjaeffbjaa.Dpl Go.Proofs.Ytpfpokjaeffbjaa.Gpl Go.Proofs.Ytpfpokjaeffbjaa.Fld Go.Proofs.Ytpfpokjaeffbjaa.Mem Go.Proofs.Ytpfpokjaeffbjaa.Lev Go.Proofs.Ytpfpokjaeffbjaa.Ver Go.Proofs.Ytpfpokjaeffbjaa.Chk Go.Proofs.Ytpfpokjaeffbjaa.Rck
set_option linter.unusedVariables false

set_option maxRecDepth 100000 in
set_option maxHeartbeats 1000000 in
theorem walk {w : World} (t n : Int) (a0 : Option Addr) (len0 cap0 : Nat) (z0 : List Int) (w0 : IsRow .u64 w a0 len0 cap0 z0) (bt : -9223372036854775808 ≤ t ∧ t ≤ 9223372036854775807) (bn : -9223372036854775808 ≤ n ∧ n ≤ 9223372036854775807)
    (id : Int) (wi : -9223372036854775808 ≤ id ∧ id ≤ 9223372036854775807) (share : Int) (ws : 0 ≤ share ∧ share < 18446744073709551616) :
    Calls Try.prog 11 #[.agg #[.int .i64 t, .int .i64 n, .slice a0 len0 cap0], .int .i64 id, .int .u64 share] w fun e w' => e = .returned (.bool true) ∧ Below w.heap.size w w' := by
  have l0 := w0.len
  obtain ⟨n0, e0, f0⟩ := w0.nums
  generalize z0.take len0 = cs at *
  have hcb : ∀ i, i < cs.length → 0 ≤ cs.getD i 0 := fun i hi => (wf_u64 (getD_wf f0 hi)).1
  have HCB := Lib.hid hcb
  have hbw := below_box w (.cells #[.int .i64 t, .int .i64 n, .slice a0 len0 cap0] 31)
  have hblk := Blk.new w 31 #[.int .i64 t, .int .i64 n, .slice a0 len0 cap0]
  have N0 := Lib.hid n0
  have HBW := Lib.hid hbw
  have HBLK := Lib.hid hblk
  have WS := Lib.hid ws
  clear w0 n0 f0 hcb hbw hblk bt bn wi ws
  subst e0
  by_cases h0 : 65536 < cs.length
  · go_enter Try.func11, Try.ntmps11
    go_wp2_with fail
    go_ret
    exact ⟨rfl, HBW.out⟩
  go_enter Try.func11, Try.ntmps11
  go_wp2_with fail
  refine (checkC t n cs _ id share _ (N0.out.later HBW.out) (by omega) HCB.out WS.out).mono ?_
  rintro e W1 ⟨rfl, hb1⟩
  have hblk1 := HBLK.out.below hb1 HBLK.out.lt
  have c0 : W1.cell? ⟨w.heap.size, 0, none⟩ = some (.int .i64 t) := hblk1.cell 0
  have c1 : W1.cell? ⟨w.heap.size, 1, none⟩ = some (.int .i64 n) := hblk1.cell 1
  have c2 : W1.cell? ⟨w.heap.size, 2, none⟩ = some (.slice a0 cs.length cap0) := hblk1.cell 2
  have hbf : Below w.heap.size w W1 := HBW.out.trans (hb1.mono (by simp))
  go_wp2_with fail
  refine (refCheckC t n cs _ id share _ (N0.out.later hbf) (by omega) HCB.out WS.out).mono ?_
  rintro e W2 ⟨rfl, hb2⟩
  have t2 : (checkE t n cs id share == checkE t n cs id share) = true := by rw [beq_iff_eq]
  obtain ⟨b, hbb⟩ : ∃ b, checkB t n cs id share = b := ⟨_, rfl⟩
  rw [hbb]
  have t1 : (b == b) = true := by rw [beq_iff_eq]
  go_wp2_with fail
  go_ret
  exact ⟨rfl, hbf.trans (hb2.mono hbf.size)⟩
end Go.Proofs.Ytpfpokjaeffbjaa.ChecksW
