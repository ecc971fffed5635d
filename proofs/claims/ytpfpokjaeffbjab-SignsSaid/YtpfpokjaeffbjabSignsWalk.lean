/- The walk of the law Signs. -/
import Derived.Test.YtpfpokjaeffbjabUpTo
namespace Go.Proofs.Ytpfpokjaeffbjab.SignsW
open Go.RowKit Go.Proofs.Ytpfpokjaeffbjab.Mem Go.Proofs.Ytpfpokjaeffbjab.Scr Go.Proofs.Ytpfpokjaeffbjab.Lev
set_option linter.unusedVariables false

set_option maxRecDepth 100000 in
set_option maxHeartbeats 1000000 in
theorem walk {w : World} (v : Value) (l : List OpP) (h : IsOps w v l) :
    Calls Try.prog 3 #[v] w fun e w' => e = .returned (.bool true) ∧ Below w.heap.size w w' := by
  have hsm := Lib.hid (smallC w v l h)
  have H := Lib.hid h
  obtain ⟨A, c, rfl⟩ : ∃ A c, v = .slice A l.length c := by
    obtain ⟨_, A, c, hv, _⟩ := h.row
    exact ⟨A, c, hv⟩
  have hup : ∀ wy, Below w.heap.size w wy → l.length ≤ 65536 → (∀ (i : Nat) (o : OpP), l[i]? = some o → OpSmall o) → Calls Try.prog 10 #[.slice A l.length c, .int .i64 3] wy fun e w' => e = .returned (.int .i64 (-1)) ∧ Below wy.heap.size wy w' :=
    fun wy hb h1 h2 => upToC wy _ l 3 (h.later hb) h1 h2
  have HUP := Lib.hid hup
  clear h hup
  go_enter Try.func3, Try.ntmps3
  go_wp2_with fail
  refine hsm.out.mono ?_
  rintro e w1 ⟨b, rfl, hb, hb1⟩
  cases b
  case false =>
    go_wp2_with fail
    go_ret
    exact ⟨rfl, hb1⟩
  case true =>
    obtain ⟨h1, h2⟩ := hb rfl
    have hu := Lib.hid (HUP.out w1 hb1 h1 h2)
    clear h1 h2 hb HUP
    go_wp2_with fail
    refine hu.out.mono ?_
    rintro e w2 ⟨rfl, hb2⟩
    go_wp2_with fail
    go_ret
    exact ⟨rfl, hb1.trans (hb2.mono hb1.size)⟩
end Go.Proofs.Ytpfpokjaeffbjab.SignsW
