/- What a dealt group answers of its shares: each is its signer's, no other number is. -/
import Derived.Test.YtpfpokjaeffbjabLagrange
import Derived.Test.YtpfpokjaeffbjabGroupPlain
namespace Go.Proofs.Ytpfpokjaeffbjab.Rpl
open Go.Proofs.Ytpfpokjaeffbjab.Pl Go.Proofs.Ytpfpokjaeffbjab.Dpl Go.Proofs.Ytpfpokjaeffbjab.Gpl Go.Proofs.Ytpfpokjaeffbjab.Ord Go.Proofs.Ytpfpokjaeffbjab.Lag

theorem four_el (c : Nat) : isEl (pw 4 c 2147483579) = true := by
  have hb := pw_bd 4 c (m := 2147483579) (by omega)
  have h1 : pw (pw 4 c 2147483579) qq 2147483579 = 1 := by
    rw [← pw_mulexp, Nat.mul_comm, pw_mulexp, four_qq, pw_one _ (by omega)]
  have h0 : pw 4 c 2147483579 ≠ 0 := fun h => by
    rw [h] at h1
    have : pw 0 qq 2147483579 = 0 := by
      unfold pw
      rw [show qq = 1073741788 + 1 from rfl, Int.pow_succ, Int.mul_zero]; rfl
    omega
  unfold isEl
  rw [decide_eq_true_iff]
  exact ⟨by omega, hb.2, h1⟩
/-- The exponent of a public share. -/
def expS (l : List Int) (id : Int) : Nat → Int
  | 0 => 0
  | j + 1 => expS l id j + l.getD j 0 * rpA id j
theorem expS_nonneg {l : List Int} (h : ∀ i, i < l.length → 0 ≤ l.getD i 0) (id : Int) (j : Nat) (hj : j ≤ l.length) : 0 ≤ expS l id j := by
  induction j with
  | zero => exact Int.le_refl _
  | succ j ih =>
    have := Int.mul_nonneg (h j (by omega)) (rpA_bd id j).1
    have := ih (by omega)
    rw [expS]; omega
theorem comms_at (l : List Int) {j : Nat} (h : j < l.length) : (comms l l.length).getD j 0 = pw 4 (l.getD j 0).toNat 2147483579 := by
  unfold comms
  rw [List.getD_eq_getElem?_getD, List.getElem?_map, List.take_length, List.getElem?_eq_getElem h, List.getD_eq_getElem?_getD, List.getElem?_eq_getElem h]
  rfl
theorem pub_exp {l : List Int} (h : ∀ i, i < l.length → 0 ≤ l.getD i 0) (id : Int) (j : Nat) (hj : j ≤ l.length) : pubS (comms l l.length) id j = pw 4 (expS l id j).toNat 2147483579 := by
  induction j with
  | zero => exact (pw_zero 4 (by omega)).symm
  | succ j ih =>
    have h1 := expS_nonneg h id j (by omega)
    have h2 := Int.mul_nonneg (h j (by omega)) (rpA_bd id j).1
    rw [pubS, ih (by omega), comms_at l (by omega), ← pw_mulexp, ← pw_add, expS, Int.toNat_add h1 h2, Int.toNat_mul (h j (by omega)) (rpA_bd id j).1]
theorem expS_mod (l : List Int) (id : Int) (j : Nat) : expS l id j % 1073741789 = rpS l id j := by
  induction j with
  | zero => rfl
  | succ j ih =>
    rw [expS, rpS, ← ih]
    generalize l.getD j 0 * rpA id j = B
    omega
theorem pw_mod_q {x : Int} (h : 0 ≤ x) : pw 4 x.toNat 2147483579 = pw 4 (x % 1073741789).toNat 2147483579 := by
  rw [pw_pw_mod (by omega) four_qq x.toNat]
  congr 1
  have e : qq = 1073741789 := rfl
  rw [e]
  omega
/-- The public share of a dealt group is the power of the share. -/
theorem pub_dealt {l : List Int} (h : ∀ i, i < l.length → 0 ≤ l.getD i 0 ∧ l.getD i 0 < 1073741789) {id : Int} (h1 : 0 ≤ id) (h2 : id < 1073741789) :
    pub (comms l l.length) id = pw 4 (poly l id).toNat 2147483579 := by
  have hl : (comms l l.length).length = l.length := comms_length l (Nat.le_refl _)
  unfold pub
  rw [hl, pub_exp (fun i hi => (h i hi).1) id _ (Nat.le_refl _), pw_mod_q (expS_nonneg (fun i hi => (h i hi).1) id _ (Nat.le_refl _)), expS_mod, poly_rps l id h1 h2 h]
theorem els_dealt (l : List Int) (k : Nat) (hk : k ≤ l.length) : elsTo (comms l l.length) k = true := by
  induction k with
  | zero => rfl
  | succ k ih => rw [elsTo, ih (by omega), comms_at l (by omega), four_el]; rfl
theorem group_dealt {t n : Int} {l : List Int} (h1 : 2 ≤ t) (h2 : t ≤ n) (h3 : n ≤ 9) (h4 : (l.length : Int) = t) (h5 : 0 < l.getD 0 0) (h6 : l.getD 0 0 < 1073741789) : groupOk t n (comms l l.length) = true := by
  have hl : (comms l l.length).length = l.length := comms_length l (Nat.le_refl _)
  rw [groupOk_els ⟨h1, h2, h3, by rw [hl]; exact h4, ?_⟩, hl, els_dealt l _ (Nat.le_refl _)]
  rw [comms_at l (by omega)]
  exact four_order (by omega) (by have e : qq = 1073741789 := rfl
                                  omega)
theorem check_yes {t n : Int} {l : List Int} (hg : groupOk t n (comms l l.length) = true) (h : ∀ i, i < l.length → 0 ≤ l.getD i 0 ∧ l.getD i 0 < 1073741789) {id : Int} (h1 : 1 ≤ id) (h2 : id ≤ n) (h3 : n ≤ 9) :
    checkE t n (comms l l.length) id (poly l id) = 0 ∧ checkB t n (comms l l.length) id (poly l id) = true := by
  have hb := poly_bd l id
  have he := checkE_ok (id := id) (share := poly l id) hg (by omega) (by omega)
  refine ⟨he, ?_⟩
  rw [checkB_ok he, beq_iff_eq, pub_dealt h (by omega) (by omega)]
theorem check_no {t n : Int} {l : List Int} (hg : groupOk t n (comms l l.length) = true) (h : ∀ i, i < l.length → 0 ≤ l.getD i 0 ∧ l.getD i 0 < 1073741789) {id s : Int} (h1 : 1 ≤ id) (h2 : id ≤ n) (h3 : n ≤ 9)
    (hs : 0 ≤ s ∧ s < 1073741789) (hne : s ≠ poly l id) : checkE t n (comms l l.length) id s = 0 ∧ checkB t n (comms l l.length) id s = false := by
  have hb := poly_bd l id
  have he := checkE_ok (id := id) (share := s) hg (by omega) (by omega)
  have e : qq = 1073741789 := rfl
  refine ⟨he, ?_⟩
  rw [checkB_ok he, beq_eq_false_iff_ne, pub_dealt h (by omega) (by omega)]
  intro h'
  have := four_inj (a := s.toNat) (b := (poly l id).toNat) (by omega) (by omega) h'
  omega
end Go.Proofs.Ytpfpokjaeffbjab.Rpl
