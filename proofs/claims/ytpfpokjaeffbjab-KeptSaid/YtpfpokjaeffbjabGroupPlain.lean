/- What a group is, its public shares, and what Check answers, in plain numbers. -/
import Derived.Test.YtpfpokjaeffbjabDealPlain
namespace Go.Proofs.Ytpfpokjaeffbjab.Gpl
open Go.Proofs.Ytpfpokjaeffbjab.Pl Go.Proofs.Ytpfpokjaeffbjab.Dpl

/-- The first k numbers are elements. -/
def elsTo (cs : List Int) : Nat → Bool
  | 0 => true
  | k + 1 => elsTo cs k && isEl (cs.getD k 0)
def groupOk (t n : Int) (cs : List Int) : Bool := decide (2 ≤ t ∧ t ≤ n ∧ n ≤ 9 ∧ (cs.length : Int) = t ∧ cs.getD 0 0 ≠ 1) && elsTo cs cs.length
theorem elsTo_le (cs : List Int) {j k : Nat} (h : j ≤ k) (hk : elsTo cs k = true) : elsTo cs j = true := by
  induction k with
  | zero => obtain rfl : j = 0 := by omega
            exact hk
  | succ k ih =>
    rw [elsTo, Bool.and_eq_true] at hk
    rcases Nat.lt_or_ge k j with hj | hj
    · obtain rfl : j = k + 1 := by omega
      rw [elsTo, Bool.and_eq_true]; exact hk
    · exact ih hj hk.1
theorem elsTo_at (cs : List Int) {j k : Nat} (h : j < k) (hk : elsTo cs k = true) : isEl (cs.getD j 0) = true := by
  have h1 := elsTo_le cs (j := j + 1) (by omega) hk
  rw [elsTo, Bool.and_eq_true] at h1
  exact h1.2
theorem elsTo_step (cs : List Int) {k : Nat} (hk : elsTo cs k = true) (h : isEl (cs.getD k 0) = true) : elsTo cs (k + 1) = true := by
  rw [elsTo, hk, h]; rfl
theorem elsTo_bad (cs : List Int) {j k : Nat} (h : j < k) (hj : isEl (cs.getD j 0) = false) : elsTo cs k = false := by
  cases hk : elsTo cs k with
  | false => rfl
  | true => rw [elsTo_at cs h hk] at hj; cases hj
theorem groupOk_spec {t n : Int} {cs : List Int} (h : groupOk t n cs = true) : 2 ≤ t ∧ t ≤ n ∧ n ≤ 9 ∧ (cs.length : Int) = t ∧ cs.getD 0 0 ≠ 1 ∧ elsTo cs cs.length = true := by
  unfold groupOk at h
  rw [Bool.and_eq_true, decide_eq_true_iff] at h
  exact ⟨h.1.1, h.1.2.1, h.1.2.2.1, h.1.2.2.2.1, h.1.2.2.2.2, h.2⟩
theorem groupOk_bad {t n : Int} {cs : List Int} (h : ¬ (2 ≤ t ∧ t ≤ n ∧ n ≤ 9 ∧ (cs.length : Int) = t ∧ cs.getD 0 0 ≠ 1)) : groupOk t n cs = false := by
  unfold groupOk
  rw [decide_eq_false h]; rfl
theorem groupOk_els {t n : Int} {cs : List Int} (h : 2 ≤ t ∧ t ≤ n ∧ n ≤ 9 ∧ (cs.length : Int) = t ∧ cs.getD 0 0 ≠ 1) : groupOk t n cs = elsTo cs cs.length := by
  unfold groupOk
  rw [decide_eq_true h]; rfl
theorem groupOk_at {t n : Int} {cs : List Int} (h : groupOk t n cs = true) {j : Nat} (hj : j < cs.length) : isEl (cs.getD j 0) = true := elsTo_at cs hj (groupOk_spec h).2.2.2.2.2

/-- The public share behind j commitments. -/
def pubS (cs : List Int) (id : Int) : Nat → Int
  | 0 => 1
  | j + 1 => pubS cs id j * pw (cs.getD j 0) (rpA id j).toNat 2147483579 % 2147483579
def pub (cs : List Int) (id : Int) : Int := pubS cs id cs.length
theorem pubS_bd (cs : List Int) (id : Int) (j : Nat) : 0 ≤ pubS cs id j ∧ pubS cs id j < 2147483579 := by
  cases j with
  | zero => unfold pubS; omega
  | succ j => unfold pubS; omega
theorem pub_bd (cs : List Int) (id : Int) : 0 ≤ pub cs id ∧ pub cs id < 2147483579 := pubS_bd _ _ _
theorem rpA_pw (x : Int) (j : Nat) : rpA x j = pw x j 1073741789 := rpA_eq x j
/-- Check's error and its answer. -/
def checkE (t n : Int) (cs : List Int) (id share : Int) : Int :=
  if groupOk t n cs = false then 4 else if id < 1 ∨ n < id then 5 else if 1073741789 ≤ share then 2 else 0
def checkB (t n : Int) (cs : List Int) (id share : Int) : Bool := decide (checkE t n cs id share = 0 ∧ pw 4 share.toNat 2147483579 = pub cs id)
theorem checkB_bad {t n : Int} {cs : List Int} {id share : Int} (h : checkE t n cs id share ≠ 0) : checkB t n cs id share = false := by
  unfold checkB; rw [decide_eq_false (fun h' => h h'.1)]
theorem checkE_group {t n : Int} {cs : List Int} {id share : Int} (h : groupOk t n cs = false) : checkE t n cs id share = 4 := by unfold checkE; rw [if_pos h]
theorem checkE_id {t n : Int} {cs : List Int} {id share : Int} (h : groupOk t n cs = true) (h2 : id < 1 ∨ n < id) : checkE t n cs id share = 5 := by
  unfold checkE; rw [if_neg (by rw [h]; simp), if_pos h2]
theorem checkE_sc {t n : Int} {cs : List Int} {id share : Int} (h : groupOk t n cs = true) (h2 : ¬ (id < 1 ∨ n < id)) (h3 : 1073741789 ≤ share) : checkE t n cs id share = 2 := by
  unfold checkE; rw [if_neg (by rw [h]; simp), if_neg h2, if_pos h3]
theorem checkE_ok {t n : Int} {cs : List Int} {id share : Int} (h : groupOk t n cs = true) (h2 : ¬ (id < 1 ∨ n < id)) (h3 : ¬ 1073741789 ≤ share) : checkE t n cs id share = 0 := by
  unfold checkE; rw [if_neg (by rw [h]; simp), if_neg h2, if_neg h3]
theorem checkB_ok {t n : Int} {cs : List Int} {id share : Int} (h : checkE t n cs id share = 0) : checkB t n cs id share = (pw 4 share.toNat 2147483579 == pub cs id) := by
  unfold checkB
  rw [Bool.eq_iff_iff, decide_eq_true_iff, beq_iff_eq]
  exact ⟨fun h' => h'.2, fun h' => ⟨h, h'⟩⟩
end Go.Proofs.Ytpfpokjaeffbjab.Gpl
