/- An argument of type api.Sig, opened. -/
import Derived.Test.YtpfpokjaeffbjaaRows
import Derived.Test.YtpfpokjaeffbjaaLeave
import Derived.Lib.SmallJoins
import Derived.ProofKit
namespace Go.Proofs.Ytpfpokjaeffbjaa.Lev
open Go.RowKit Go.Joins Go.ChangeShapes Go.WideShapes

theorem cells_sig : Try.prog.cellsOf 47 = 2 := by kernel_rfl
set_option maxRecDepth 100000 in
theorem open_sig {H : Type} {enc : TypeId × Value → H} {w : World} {base : Nat} {spare : Nat → Bool} {held : Bool} {r : Reach} {b0 : Nat} {v : Value} {d : DataW H} {p : List MemPlace}
    (hv : Value.okWide Try.prog w r b0 47 v) (h : DataW.Trod enc Try.prog w base spare held 47 v d p) :
    ∃ x y : Int, v = .agg #[.int .u64 x, .int .u64 y] ∧ (0 ≤ x ∧ x < 18446744073709551616) ∧ (0 ≤ y ∧ y < 18446744073709551616) := by
  obtain ⟨c0, c1, y0, y1, m, rfl, rfl, rfl, hy0, hy1⟩ := open_agg2 Try.underlying47 (by kernel_rfl) cells_sig hv h
  obtain ⟨x, e0, rfl, wx⟩ := DataW.trod_int Try.underlying40 hy0
  obtain ⟨y, e1, rfl, wy⟩ := DataW.trod_int Try.underlying40 hy1
  simp at e0 e1
  subst e0 e1
  exact ⟨x, y, rfl, wf_u64 wx, wf_u64 wy⟩
end Go.Proofs.Ytpfpokjaeffbjaa.Lev
