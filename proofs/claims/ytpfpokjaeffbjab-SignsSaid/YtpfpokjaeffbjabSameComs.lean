/- 'sameCommits' of two slices that read as one list. -/
import Derived.Test.YtpfpokjaeffbjabRows
import Derived.Test.YtpfpokjaeffbjabComs
namespace Go.Proofs.Ytpfpokjaeffbjab.Mem
open Go.RowKit Go.Proofs.Ytpfpokjaeffbjab.Pl

set_option maxRecDepth 100000 in
set_option maxHeartbeats 1000000 in
theorem sameComs (l : List Cm) (u v : Value) (w : World) (hu : Coms w w.heap.size u l) (hv : Coms w w.heap.size v l) (hl : l.length ≤ 65536) :
    Calls Try.prog 67 #[u, v] w fun e w' => e = .returned (.bool true) ∧ Below w.heap.size w w' := by
  obtain ⟨A, c, rfl⟩ := hu.shape
  obtain ⟨A2, c2, rfl⟩ := hv.shape
  have HU := Lib.hid hu
  have HV := Lib.hid hv
  have hne : ((l.length : Int) != (l.length : Int)) = false := by rw [bne_eq_false_iff_eq]
  clear hu hv
  go_enter Try.func67, Try.ntmps67
  go_wp2_with fail
  go_loopw [13] (fun i wr => ∃ k m : Nat, k ≤ l.length ∧ i = .int .i64 k ∧ wr = w.drewN m) (fun i _ => l.length - (intOf i).toNat)
  case atStart => exact ⟨0, 0, by omega, rfl, rfl⟩
  case round =>
    obtain ⟨k, m, hk, rfl, rfl⟩ := hrel
    by_cases hlt : k < l.length
    · obtain ⟨b, off, rfl, hb, hc⟩ := HU.out.at_ (by omega)
      obtain ⟨b2, off2, rfl, hb2, hc2⟩ := HV.out.at_ (by omega)
      obtain ⟨x0, x1, x2⟩ := hc k hlt
      obtain ⟨y0, y1, y2⟩ := hc2 k hlt
      clear hc hc2
      generalize (l.getD k .zero).id = p at *
      generalize (l.getD k .zero).d = q at *
      generalize (l.getD k .zero).e = r at *
      have z0 : (p == p) = true := by rw [beq_iff_eq]
      have z1 : (q == q) = true := by rw [beq_iff_eq]
      have z2 : (r == r) = true := by rw [beq_iff_eq]
      go_wp2_with fail
      go_quiet (fail)
      go_wp2_with fail
      refine ⟨⟨k + 1, _, by omega, by go_num, rfl⟩, ?_⟩
      simp [intOf]; omega
    · obtain rfl : k = l.length := by omega
      go_wp2_with fail
      go_ret
      exact ⟨rfl, below_drewN (Below.refl _ _) m⟩
end Go.Proofs.Ytpfpokjaeffbjab.Mem
