/- What 'dealt' deals: how many signers, which polynomial, which of them are chosen. -/
import Derived.Test.YtpfpokjaeffbjabRecPlain
import Derived.Test.YtpfpokjaeffbjabField
namespace Go.Proofs.Ytpfpokjaeffbjab.Dtp
open Go.Proofs.Ytpfpokjaeffbjab.Pl Go.Proofs.Ytpfpokjaeffbjab.Dpl Go.Proofs.Ytpfpokjaeffbjab.Gpl Go.Proofs.Ytpfpokjaeffbjab.Ord Go.Proofs.Ytpfpokjaeffbjab.Lag Go.Proofs.Ytpfpokjaeffbjab.Rpl Go.Proofs.Ytpfpokjaeffbjab.Fld

def nOf (n : Int) : Nat := (2 + pickI n 8).toNat
def tOf (t n : Int) : Nat := (2 + pickI t ((nOf n : Int) - 1)).toNat
theorem nOf_bd (n : Int) : 2 ≤ nOf n ∧ nOf n ≤ 9 ∧ ((nOf n : Nat) : Int) = 2 + pickI n 8 := by
  have := pickI_bd n (n := 8) (by omega)
  unfold nOf
  omega
theorem tOf_bd (t n : Int) : 2 ≤ tOf t n ∧ tOf t n ≤ nOf n ∧ ((tOf t n : Nat) : Int) = 2 + pickI t ((nOf n : Int) - 1) := by
  have h := nOf_bd n
  have := pickI_bd t (n := (nOf n : Int) - 1) (by omega)
  unfold tOf
  omega
/-- The k-th coefficient. -/
def cf (seed : Int) (k : Nat) : Int := kscalar (IntKind.u64.wrap (IntKind.u64.wrap (seed * (2 * (k : Int) + 1)) + (k : Int) * (k : Int)))
def cfs (seed : Int) (t : Nat) : List Int := (List.range t).map (cf seed)
theorem kscalar_bd {x : Int} : 1 ≤ kscalar x ∧ kscalar x < 1073741789 := by unfold kscalar; omega
theorem cfs_length (seed : Int) (t : Nat) : (cfs seed t).length = t := by simp [cfs]
theorem cfs_step (seed : Int) (t : Nat) : cfs seed (t + 1) = cfs seed t ++ [cf seed t] := by simp [cfs, List.range_succ]
theorem cfs_at (seed : Int) {t k : Nat} (h : k < t) : (cfs seed t).getD k 0 = cf seed k := by
  unfold cfs
  rw [List.getD_eq_getElem?_getD, List.getElem?_map, List.getElem?_range h]
  rfl
theorem cfs_bd (seed : Int) (t : Nat) : ∀ i, i < (cfs seed t).length → 0 ≤ (cfs seed t).getD i 0 ∧ (cfs seed t).getD i 0 < 1073741789 := by
  intro i hi
  rw [cfs_length] at hi
  rw [cfs_at seed hi]
  have := kscalar_bd (x := IntKind.u64.wrap (IntKind.u64.wrap (seed * (2 * (i : Int) + 1)) + (i : Int) * (i : Int)))
  unfold cf
  omega
theorem cf_zero {seed : Int} (h : 0 ≤ seed ∧ seed < 18446744073709551616) : cf seed 0 = kscalar seed := by
  unfold cf
  have e : seed * (2 * ((0 : Nat) : Int) + 1) = seed := by simp
  rw [e, u64_id h.1 h.2]
  have e2 : seed + ((0 : Nat) : Int) * ((0 : Nat) : Int) = seed := by simp
  rw [e2, u64_id h.1 h.2]
theorem okTo_dealt (seed : Int) (t k : Nat) (hk : k ≤ t) : okTo (cfs seed t) k = true := by
  induction k with
  | zero => rfl
  | succ k ih => rw [okTo, ih (by omega), decide_eq_true (cfs_bd seed t k (by rw [cfs_length]; omega)).2]; rfl
theorem dealE_dealt {t n : Int} (seed : Int) : dealE (tOf t n) (nOf n) (cfs seed (tOf t n)) = 0 := by
  have h1 := nOf_bd n
  have h2 := tOf_bd t n
  unfold dealE
  rw [if_neg (by rw [cfs_length]; omega), if_neg]
  rintro (h | h)
  · have := (cfs_bd seed (tOf t n) 0 (by rw [cfs_length]; omega)).1
    rw [cfs_at seed (by omega)] at h
    have h3 : 1 ≤ cf seed 0 := kscalar_bd.1
    omega
  · rw [cfs_length, okTo_dealt seed _ _ (Nat.le_refl _)] at h; cases h
/-- Is a bit of the mask set? -/
def bitAt (mask : Int) (id : Nat) : Bool := bits BinOp.and IntKind.i64 (mask / 2 ^ id) 1 == 1
/-- The chosen ones of the first k of n signers: those whose bit is set, and so many more as the threshold t needs. -/
def idsTo (mask : Int) (t n : Nat) : Nat → List Nat
  | 0 => []
  | k + 1 => if bitAt mask (k + 1) || decide ((idsTo mask t n k).length + n < t + (k + 1)) then idsTo mask t n k ++ [k + 1] else idsTo mask t n k
theorem idsTo_sel (mask : Int) (t n k : Nat) : idsTo mask t n k = sel (fun j => bitAt mask (j + 1) || decide ((idsTo mask t n j).length + n < t + (j + 1))) k := by
  induction k with
  | zero => rfl
  | succ k ih => rw [idsTo, sel, ← ih]
theorem idsTo_enough (mask : Int) (t n k : Nat) (ht : t ≤ n) (hk : k ≤ n) : t + k ≤ (idsTo mask t n k).length + n := by
  induction k with
  | zero => rw [idsTo, List.length_nil]; omega
  | succ k ih =>
    have := ih (by omega)
    rw [idsTo]
    split
    · rw [List.length_append, List.length_singleton]; omega
    · rename_i h
      rw [Bool.or_eq_true, decide_eq_true_iff] at h
      have : ¬ (idsTo mask t n k).length + n < t + (k + 1) := fun h' => h (.inr h')
      omega
theorem idsTo_le (mask : Int) (t n k : Nat) : (idsTo mask t n k).length ≤ k := by
  induction k with
  | zero => rw [idsTo, List.length_nil]; omega
  | succ k ih =>
    rw [idsTo]
    split
    · rw [List.length_append, List.length_singleton]; omega
    · omega
def ids (mask : Int) (t n : Nat) : List Nat := idsTo mask t n n
theorem sharesP_at (coeffs : List Int) {n i : Nat} (h : i < n) : (sharesP coeffs n).getD i 0 = poly coeffs ((i : Int) + 1) := by
  unfold sharesP
  rw [List.getD_eq_getElem?_getD, List.getElem?_map, List.getElem?_range h]
  rfl
end Go.Proofs.Ytpfpokjaeffbjab.Dtp
