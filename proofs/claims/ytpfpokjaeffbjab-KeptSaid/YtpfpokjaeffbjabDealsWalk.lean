/- The walk of the law Deals. -/
import Derived.Test.YtpfpokjaeffbjabDeal
import Derived.Test.YtpfpokjaeffbjabLeave
namespace Go.Proofs.Ytpfpokjaeffbjab.DealsW
open Go.RowKit Go.Proofs.Ytpfpokjaeffbjab.Pl Go.Proofs.Ytpfpokjaeffbjab.Dpl Go.Proofs.Ytpfpokjaeffbjab.Fld Go.Proofs.Ytpfpokjaeffbjab.Mem Go.Proofs.Ytpfpokjaeffbjab.Lev Go.Proofs.Ytpfpokjaeffbjab.Ver Go.Proofs.Ytpfpokjaeffbjab.Dea

/-- both -/
theorem dealC (t n : Int) (coeffs : List Int) (v : Value) (w : World) (hv : Nums .u64 w w.heap.size v coeffs) (hl : coeffs.length ≤ 65536)
    (hcb : ∀ i, i < coeffs.length → 0 ≤ coeffs.getD i 0 ∧ coeffs.getD i 0 < 18446744073709551616) :
    Calls Try.prog 25 #[.int .i64 t, .int .i64 n, v] w (DealPost t n coeffs (sharesP coeffs n.toNat) w) := by
  by_cases h : t < 2 ∨ n < t ∨ 9 < n ∨ (coeffs.length : Int) ≠ t
  · exact dealBad t n coeffs _ v w hv hl h
  · obtain ⟨N, rfl⟩ := Int.eq_ofNat_of_zero_le (show 0 ≤ n by omega)
    exact dealGood t N coeffs v w hv hl hcb (by omega) (by omega) (by omega) (by omega)
end Go.Proofs.Ytpfpokjaeffbjab.DealsW
