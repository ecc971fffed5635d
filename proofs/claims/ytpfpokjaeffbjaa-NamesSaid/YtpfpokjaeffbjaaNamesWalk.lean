/- thresholdlaw.Names returns true (a closed call): its walk. Condition: none. -/
import Derived.Test.YtpfpokjaeffbjaaRows
import Derived.WalkKit
import Derived.WalkSpells
import Derived.WalkLawsBesides
namespace Go.Proofs.Ytpfpokjaeffbjaa.NamesW
open Go.RowKit

set_option maxHeartbeats 400000 in
theorem num_any (a : Int) (w : World) :
    Calls Try.prog 15 #[.int .i64 a] w fun e w' => e = .returned (.int .i64 a) ∧ w = w' := by
  go_enter Try.func15, Try.ntmps15
  go_wp2
  go_ret
  exact ⟨rfl, rfl⟩

set_option maxHeartbeats 400000 in
theorem walk (w : World) :
    Calls Try.prog 3 #[] w fun e w' => e = .returned (.bool true) ∧ Grown w w' := by
  go_enter Try.func3, Try.ntmps3
  go_wp2
  have hg : Grown w (w.alloc (Obj.cells
    #[Value.int IntKind.i64 0, Value.int IntKind.i64 1, Value.int IntKind.i64 2, Value.int IntKind.i64 3,
      Value.int IntKind.i64 4, Value.int IntKind.i64 5, Value.int IntKind.i64 6, Value.int IntKind.i64 7,
      Value.int IntKind.i64 8, Value.int IntKind.i64 9, Value.int IntKind.i64 10, Value.int IntKind.i64 11,
      Value.int IntKind.i64 12, Value.int IntKind.i64 13, Value.int IntKind.i64 14, Value.int IntKind.i64 15]
    22)) := (Grown.refl w).alloc _ _
  have hc : ∀ k : Nat, k < 16 → (w.alloc (Obj.cells
    #[Value.int IntKind.i64 0, Value.int IntKind.i64 1, Value.int IntKind.i64 2, Value.int IntKind.i64 3,
      Value.int IntKind.i64 4, Value.int IntKind.i64 5, Value.int IntKind.i64 6, Value.int IntKind.i64 7,
      Value.int IntKind.i64 8, Value.int IntKind.i64 9, Value.int IntKind.i64 10, Value.int IntKind.i64 11,
      Value.int IntKind.i64 12, Value.int IntKind.i64 13, Value.int IntKind.i64 14, Value.int IntKind.i64 15]
    22)).cell? ⟨w.heap.size, k, none⟩ = some (.int .i64 k) := by
    intro k hk
    rw [World.cell?_alloc_new]
    have : k = 0 ∨ k = 1 ∨ k = 2 ∨ k = 3 ∨ k = 4 ∨ k = 5 ∨ k = 6 ∨ k = 7 ∨ k = 8 ∨ k = 9 ∨ k = 10 ∨ k = 11 ∨ k = 12 ∨ k = 13 ∨ k = 14 ∨ k = 15 := by omega
    rcases this with rfl | rfl | rfl | rfl | rfl | rfl | rfl | rfl | rfl | rfl | rfl | rfl | rfl | rfl | rfl | rfl <;> rfl
  generalize w.alloc (Obj.cells _ _) = wa at *
  generalize w.heap.size = B at *
  go_loop [7] (fun i => ∃ k : Nat, k ≤ 16 ∧ i = .int .i64 k) (fun i => 16 - (intOf i).toNat)
  case atStart => exact ⟨0, by omega, rfl⟩
  case round =>
    obtain ⟨k, hk, rfl⟩ := hrel
    by_cases hlt : k < 16
    · have hck := hc k hlt
      clear hc
      go_wp2_with (go_at_call 15; refine (num_any _ _).mono ?_; rintro e w' ⟨rfl, rfl⟩)
      go_round
      case rel => exact ⟨k + 1, by omega, by go_num⟩
      case measure => simp [intOf]; omega
    · clear hc
      go_wp2
      go_ret
      exact ⟨rfl, hg⟩
end Go.Proofs.Ytpfpokjaeffbjaa.NamesW
