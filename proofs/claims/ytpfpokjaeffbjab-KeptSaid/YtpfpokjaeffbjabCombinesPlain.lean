/- The plain law of Combine: the program's weight is the reference's, and so is the sum. -/
import Derived.Test.YtpfpokjaeffbjabPlain
namespace Go.Proofs.Ytpfpokjaeffbjab.Cpl
open Go.Proofs.Ytpfpokjaeffbjab.Pl

theorem pw_mul (a b : Int) (n : Nat) (m : Int) : pw (a * b % m) n m = pw a n m * pw b n m % m := by
  rw [pw_mod]; unfold pw; rw [Int.mul_pow, ← Int.mul_emod]
theorem lag_wt (ids : List Int) (k : Nat) (hb : ∀ i, i < ids.length → 1 ≤ ids.getD i 0 ∧ ids.getD i 0 ≤ 9) (hk : k < ids.length) (j : Nat) (hj : j ≤ ids.length) :
    lagUp ids k j * pw (lagDown ids k j) qm2 1073741789 % 1073741789 = wtS ids k j := by
  induction j with
  | zero =>
    show 1 * pw 1 qm2 1073741789 % 1073741789 = 1
    unfold pw
    rw [Int.one_pow]
    rfl
  | succ j ih =>
    by_cases hjk : j = k
    · subst hjk
      rw [lagUp_skip, lagDown_skip, wtS_skip]
      exact ih (by omega)
    · have hx := hb j (by omega)
      have hy := hb k hk
      have ih := ih (by omega)
      rw [lagUp_step _ hjk, lagDown_step _ hjk, wtS_step _ hjk, ← ih]
      have bu := lagUp_bd ids k j
      have bd := lagDown_bd ids k j
      generalize ids.getD j 0 = x at *
      generalize ids.getD k 0 = y at *
      generalize lagUp ids k j = u at *
      generalize lagDown ids k j = d at *
      have e1 : ssub (IntKind.u64.wrap x) (IntKind.u64.wrap y) = (x + 1073741789 - y) % 1073741789 := by
        unfold ssub
        simp only [IntKind.wrap_u64]
        omega
      rw [e1]
      generalize hbel : (x + 1073741789 - y) % 1073741789 = b
      have hb0 : 0 ≤ b ∧ b < 1073741789 := by omega
      rw [u64_id (by omega) (by omega), smul_eq bu.1 (by omega) (by omega) (by omega), smul_eq bd.1 (by omega) hb0.1 (by omega), pw_mul]
      generalize pw d qm2 1073741789 = p
      generalize pw b qm2 1073741789 = q
      generalize (1073741789 : Int) = m
      rw [emod_mul_right, emod_mul_left (u * x), emod_mul_left (u * p % m * x), Int.mul_assoc (u * p % m) x q, emod_mul_left (u * p) (x * q) m]
      congr 1
      ac_rfl
theorem lagrange_weight (ids : List Int) (k : Nat) (hb : ∀ i, i < ids.length → 1 ≤ ids.getD i 0 ∧ ids.getD i 0 ≤ 9) (hk : k < ids.length) : lagrange ids k = weight ids k := by
  have bu := lagUp_bd ids k ids.length
  have bp := pw_bd (lagDown ids k ids.length) qm2 (m := 1073741789) (by omega)
  unfold lagrange weight
  rw [smul_eq bu.1 (by omega) bp.1 (by omega), lag_wt ids k hb hk _ (Nat.le_refl _)]
theorem comb_eq (ids shares : List Int) (hs : ∀ i, i < shares.length → 0 ≤ shares.getD i 0) : combA ids shares = combR ids shares := by
  unfold combA combR
  by_cases h : combE ids shares = 0
  case neg => rw [if_neg h, if_neg h]
  rw [if_pos h, if_pos h]
  by_cases hl : ids.length = shares.length ∧ 0 < ids.length ∧ ids.length ≤ 9
  case neg => rw [combE_len _ _ hl] at h; omega
  unfold combE at h
  rw [if_pos hl] at h
  have hg := fun i hi => combErr_good ids shares h (k := i) hi
  have hb : ∀ i, i < ids.length → 1 ≤ ids.getD i 0 ∧ ids.getD i 0 ≤ 9 := fun i hi => ⟨(hg i hi).1, (hg i hi).2.1⟩
  have key : ∀ k, k ≤ ids.length → sumS 0 (partsC ids shares ids.length) k = rsum ids shares k := by
    intro k
    induction k with
    | zero => intro _; rfl
    | succ k ih =>
      intro hk
      have e : (partsC ids shares ids.length).getD k 0 = smul (shares.getD k 0) (lagrange ids k) := by
        unfold partsC
        rw [List.getD_eq_getElem?_getD, List.getElem?_map, List.getElem?_range (by omega)]
        rfl
      have b1 := rsum_bd ids shares k
      have b2 := (hg k (by omega)).2.2
      have b3 := hs k (by omega)
      have b4 := wtS_bd ids k ids.length
      rw [show wtS ids k ids.length = weight ids k from rfl] at b4
      rw [sumS, ih (by omega), e, lagrange_weight ids k hb (by omega), rsum, smul_eq b3 (by omega) b4.1 (by omega)]
      generalize rsum ids shares k = s at *
      generalize shares.getD k 0 * weight ids k = z at *
      unfold sadd
      rw [u64_id (by omega) (by omega)]
      omega
  exact key _ (Nat.le_refl _)
end Go.Proofs.Ytpfpokjaeffbjab.Cpl
