/- What Pack answers, in plain numbers. -/
import Derived.Test.YtpfpokjaeffbjaaComs
import Derived.Laws.BytesArg
namespace Go.Proofs.Ytpfpokjaeffbjaa.Ppl
open Go.RowKit Go.Proofs.Ytpfpokjaeffbjaa.Pl Go.Proofs.Ytpfpokjaeffbjaa.Mem

/-- The j-th of a commitment's nine bytes. -/
def cmByte (c : Cm) (j : Nat) : Int :=
  if j = 0 then IntKind.u8.wrap c.id else if j < 5 then IntKind.u8.wrap (c.d / 2 ^ (8 * (j - 1))) else IntKind.u8.wrap (c.e / 2 ^ (8 * (j - 5)))
def nine (c : Cm) : List Int := (List.range 9).map (cmByte c)
def packed (l : List Cm) : List Int := l.flatMap nine
theorem nine_length (c : Cm) : (nine c).length = 9 := by simp [nine]
theorem packed_length (l : List Cm) : (packed l).length = 9 * l.length := by
  induction l with
  | nil => rfl
  | cons c l ih =>
    show (nine c ++ packed l).length = _
    rw [List.length_append, ih, nine_length, List.length_cons]; omega
theorem nine_at (c : Cm) {j : Nat} (h : j < 9) : (nine c).getD j 0 = cmByte c j := by
  unfold nine
  rw [List.getD_eq_getElem?_getD, List.getElem?_map, List.getElem?_range h]
  rfl
theorem packed_at (l : List Cm) {k j : Nat} (hk : k < l.length) (hj : j < 9) : (packed l).getD (9 * k + j) 0 = cmByte (l.getD k .zero) j := by
  induction l generalizing k with
  | nil => simp at hk
  | cons c l ih =>
    show (nine c ++ packed l).getD _ _ = _
    cases k with
    | zero =>
      rw [List.getD_eq_getElem?_getD, List.getElem?_append_left (by rw [nine_length]; omega), show 9 * 0 + j = j by omega, ← List.getD_eq_getElem?_getD, nine_at c hj]
      rfl
    | succ k =>
      rw [List.getD_eq_getElem?_getD, List.getElem?_append_right (by rw [nine_length]; omega), nine_length, show 9 * (k + 1) + j - 9 = 9 * k + j by omega, ← List.getD_eq_getElem?_getD, ih (by simpa using hk)]
      rfl
theorem packed_step (l : List Cm) {k : Nat} (h : k < l.length) : packed (l.take (k + 1)) = packed (l.take k) ++ nine (l.getD k .zero) := by
  rw [List.take_succ_eq_append_getElem h, List.getD_eq_getElem?_getD, List.getElem?_eq_getElem h]
  unfold packed
  rw [List.flatMap_append]
  simp
theorem strOfNums_append (a b : List Int) : strOfNums (a ++ b) = strOfNums a ++ strOfNums b := by
  apply ByteArray.ext
  apply Array.toList_inj.1
  simp [strOfNums]
theorem nine_eq (c : Cm) : nine c = [IntKind.u8.wrap c.id] ++ [IntKind.u8.wrap (c.d / 2 ^ 0), IntKind.u8.wrap (c.d / 2 ^ 8), IntKind.u8.wrap (c.d / 2 ^ 16), IntKind.u8.wrap (c.d / 2 ^ 24)]
    ++ [IntKind.u8.wrap (c.e / 2 ^ 0), IntKind.u8.wrap (c.e / 2 ^ 8), IntKind.u8.wrap (c.e / 2 ^ 16), IntKind.u8.wrap (c.e / 2 ^ 24)] := by
  rfl
/-- The first p cells are as they are to be. -/
def Pre (l : List Cm) (cs : Array Value) (p : Nat) : Prop := cs.size = 9 * l.length ∧ ∀ i, i < p → cs[i]? = some (.int .u8 ((packed l).getD i 0))
theorem Pre.step {l : List Cm} {cs : Array Value} {p : Nat} (h : Pre l cs p) (hp : p < 9 * l.length) {x : Int} (hx : x = (packed l).getD p 0) : Pre l (cs.setIfInBounds p (.int .u8 x)) (p + 1) := by
  refine ⟨by rw [Array.size_setIfInBounds]; exact h.1, fun i hi => ?_⟩
  rw [Array.getElem?_setIfInBounds]
  by_cases e : p = i
  · subst e
    rw [if_pos rfl, if_pos (by rw [h.1]; exact hp), hx]
  · rw [if_neg e]
    exact h.2 i (by omega)
theorem Pre.zero (l : List Cm) {cs : Array Value} (h : cs.size = 9 * l.length) : Pre l cs 0 := ⟨h, fun i hi => absurd hi (by omega)⟩
end Go.Proofs.Ytpfpokjaeffbjaa.Ppl
