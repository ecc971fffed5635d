/- What a package of commitments is, and what its numbers are. -/
import Derived.Test.YtpfpokjaeffbjabCombinesPlain
import Derived.Test.YtpfpokjaeffbjabGroupPlain
import Derived.Test.YtpfpokjaeffbjabComs
namespace Go.Proofs.Ytpfpokjaeffbjab.Kpl
open Go.RowKit Go.Proofs.Ytpfpokjaeffbjab.Pl Go.Proofs.Ytpfpokjaeffbjab.Dpl Go.Proofs.Ytpfpokjaeffbjab.Gpl Go.Proofs.Ytpfpokjaeffbjab.Mem

/-- What is wrong with the k-th number; with the first k. -/
def riseAt (n : Int) (l : List Cm) (k : Nat) : Int :=
  if (l.getD k .zero).id < 1 ∨ n < (l.getD k .zero).id then 5 else if 0 < k ∧ (l.getD k .zero).id ≤ (l.getD (k - 1) .zero).id then 6 else 0
def riseErr (n : Int) (l : List Cm) : Nat → Int
  | 0 => 0
  | k + 1 => if riseErr n l k = 0 then riseAt n l k else riseErr n l k
/-- The first k have commitments to nonces. -/
def ncsTo (l : List Cm) : Nat → Bool
  | 0 => true
  | k + 1 => ncsTo l k && (isNc (l.getD k .zero).d && isNc (l.getD k .zero).e)
def pkE (t n : Int) (l : List Cm) : Int :=
  if (l.length : Int) < t ∨ n < (l.length : Int) then 7 else if riseErr n l l.length ≠ 0 then riseErr n l l.length else if ncsTo l l.length = true then 0 else 3
theorem riseErr_stays (n : Int) (l : List Cm) {j k : Nat} (h : j ≤ k) (hj : riseErr n l j ≠ 0) : riseErr n l k = riseErr n l j := by
  induction k with
  | zero => obtain rfl : j = 0 := by omega
            rfl
  | succ k ih =>
    rcases Nat.lt_or_ge k j with hlt | hge
    · obtain rfl : j = k + 1 := by omega
      rfl
    · rw [riseErr, ih hge, if_neg hj]
theorem riseErr_le (n : Int) (l : List Cm) {j k : Nat} (h : j ≤ k) (hk : riseErr n l k = 0) : riseErr n l j = 0 := by
  by_cases h0 : riseErr n l j = 0
  · exact h0
  · rw [riseErr_stays n l h h0] at hk; exact absurd hk h0
theorem riseErr_at (n : Int) (l : List Cm) {k m : Nat} {x : Int} (hk : k < m) (h0 : riseErr n l k = 0) (hx : riseAt n l k = x) (hn : x ≠ 0) : riseErr n l m = x := by
  rw [riseErr_stays n l (j := k + 1) (by omega) (by rw [riseErr, if_pos h0, hx]; exact hn), riseErr, if_pos h0, hx]
theorem riseErr_step {n : Int} {l : List Cm} {k : Nat} (h0 : riseErr n l k = 0) (hx : riseAt n l k = 0) : riseErr n l (k + 1) = 0 := by rw [riseErr, if_pos h0, hx]
theorem riseErr_good {n : Int} {l : List Cm} {k m : Nat} (h : riseErr n l m = 0) (hk : k < m) : riseAt n l k = 0 := by
  have h1 := riseErr_le n l (j := k + 1) (by omega) h
  have h2 := riseErr_le n l (j := k) (by omega) h
  rw [riseErr, if_pos h2] at h1
  exact h1
theorem riseAt_good {n : Int} {l : List Cm} {k : Nat} (h : riseAt n l k = 0) : 1 ≤ (l.getD k .zero).id ∧ (l.getD k .zero).id ≤ n ∧ (0 < k → (l.getD (k - 1) .zero).id < (l.getD k .zero).id) := by
  unfold riseAt at h
  by_cases h1 : (l.getD k .zero).id < 1 ∨ n < (l.getD k .zero).id
  · rw [if_pos h1] at h; omega
  rw [if_neg h1] at h
  by_cases h2 : 0 < k ∧ (l.getD k .zero).id ≤ (l.getD (k - 1) .zero).id
  · rw [if_pos h2] at h; omega
  exact ⟨by omega, by omega, fun h0 => by
    have : ¬ (l.getD k .zero).id ≤ (l.getD (k - 1) .zero).id := fun h => h2 ⟨h0, h⟩
    omega⟩
theorem ncsTo_le (l : List Cm) {j k : Nat} (h : j ≤ k) (hk : ncsTo l k = true) : ncsTo l j = true := by
  induction k with
  | zero => obtain rfl : j = 0 := by omega
            exact hk
  | succ k ih =>
    rw [ncsTo, Bool.and_eq_true] at hk
    rcases Nat.lt_or_ge k j with hj | hj
    · obtain rfl : j = k + 1 := by omega
      rw [ncsTo, Bool.and_eq_true]; exact hk
    · exact ih hj hk.1
theorem ncsTo_at (l : List Cm) {j k : Nat} (h : j < k) (hk : ncsTo l k = true) : isNc (l.getD j .zero).d = true ∧ isNc (l.getD j .zero).e = true := by
  have h1 := ncsTo_le l (j := j + 1) (by omega) hk
  rw [ncsTo, Bool.and_eq_true, Bool.and_eq_true] at h1
  exact h1.2
theorem ncsTo_step (l : List Cm) {k : Nat} (hk : ncsTo l k = true) (h1 : isNc (l.getD k .zero).d = true) (h2 : isNc (l.getD k .zero).e = true) : ncsTo l (k + 1) = true := by
  rw [ncsTo, hk, h1, h2]; rfl
theorem ncsTo_bad (l : List Cm) {j k : Nat} (h : j < k) (hj : isNc (l.getD j .zero).d = false ∨ isNc (l.getD j .zero).e = false) : ncsTo l k = false := by
  cases hk : ncsTo l k with
  | false => rfl
  | true =>
    obtain ⟨h1, h2⟩ := ncsTo_at l h hk
    rcases hj with hj | hj
    · rw [h1] at hj; cases hj
    · rw [h2] at hj; cases hj
theorem pkE_few {t n : Int} {l : List Cm} (h : (l.length : Int) < t ∨ n < (l.length : Int)) : pkE t n l = 7 := by unfold pkE; rw [if_pos h]
theorem pkE_rise {t n : Int} {l : List Cm} (h : ¬ ((l.length : Int) < t ∨ n < (l.length : Int))) (h2 : riseErr n l l.length ≠ 0) : pkE t n l = riseErr n l l.length := by unfold pkE; rw [if_neg h, if_pos h2]
theorem pkE_nc {t n : Int} {l : List Cm} (h : ¬ ((l.length : Int) < t ∨ n < (l.length : Int))) (h2 : riseErr n l l.length = 0) (h3 : ncsTo l l.length = false) : pkE t n l = 3 := by
  unfold pkE; rw [if_neg h, if_neg (fun h' => h' h2), if_neg (by rw [h3]; simp)]
theorem pkE_ok {t n : Int} {l : List Cm} (h : ¬ ((l.length : Int) < t ∨ n < (l.length : Int))) (h2 : riseErr n l l.length = 0) (h3 : ncsTo l l.length = true) : pkE t n l = 0 := by
  unfold pkE; rw [if_neg h, if_neg (fun h' => h' h2), if_pos h3]
theorem pkE_spec {t n : Int} {l : List Cm} (h : pkE t n l = 0) : t ≤ (l.length : Int) ∧ (l.length : Int) ≤ n ∧ riseErr n l l.length = 0 ∧ ncsTo l l.length = true := by
  unfold pkE at h
  by_cases h1 : (l.length : Int) < t ∨ n < (l.length : Int)
  · rw [if_pos h1] at h; omega
  rw [if_neg h1] at h
  by_cases h2 : riseErr n l l.length ≠ 0
  · rw [if_pos h2] at h; exact absurd h h2
  rw [if_neg h2] at h
  by_cases h3 : ncsTo l l.length = true
  · exact ⟨by omega, by omega, by omega, h3⟩
  · rw [if_neg h3] at h; omega
/-- What a good package's commitments are. -/
def Good (n : Int) (l : List Cm) : Prop := ∀ k, k < l.length → (1 ≤ (l.getD k .zero).id ∧ (l.getD k .zero).id ≤ n) ∧ (0 < k → (l.getD (k - 1) .zero).id < (l.getD k .zero).id) ∧
  (0 < (l.getD k .zero).d ∧ (l.getD k .zero).d < 2147483579) ∧ (0 < (l.getD k .zero).e ∧ (l.getD k .zero).e < 2147483579)
theorem isNc_bd {x : Int} (h : isNc x = true) : 0 < x ∧ x < 2147483579 := by
  unfold isNc isEl at h
  rw [Bool.and_eq_true, decide_eq_true_iff] at h
  exact ⟨h.1.1, h.1.2.1⟩
theorem good_of {t n : Int} {l : List Cm} (h : pkE t n l = 0) : Good n l := by
  obtain ⟨_, _, h3, h4⟩ := pkE_spec h
  intro k hk
  have h5 := riseAt_good (riseErr_good h3 hk)
  have h6 := ncsTo_at l hk h4
  exact ⟨⟨h5.1, h5.2.1⟩, h5.2.2, isNc_bd h6.1, isNc_bd h6.2⟩
/-- The numbers that the k-th binding factor is hashed of. -/
def flat (l : List Cm) : Nat → List Int
  | 0 => []
  | k + 1 => flat l k ++ [(l.getD k .zero).id, (l.getD k .zero).d, (l.getD k .zero).e]
theorem flat_length (l : List Cm) (k : Nat) : (flat l k).length = 3 * k := by
  induction k with
  | zero => rfl
  | succ k ih => rw [flat, List.length_append, ih]; simp; omega
def bindNums (l : List Cm) (key : Int) (k j : Nat) : List Int := [(l.getD k .zero).id, key] ++ flat l j
theorem bindNums_length (l : List Cm) (key : Int) (k j : Nat) : (bindNums l key k j).length = 2 + 3 * j := by
  rw [bindNums, List.length_append, flat_length]; simp
theorem bindNums_step (l : List Cm) (key : Int) (k j : Nat) : bindNums l key k (j + 1) = bindNums l key k j ++ [(l.getD j .zero).id, (l.getD j .zero).d, (l.getD j .zero).e] := by
  rw [bindNums, flat, bindNums, List.append_assoc]
theorem flat_bd {n : Int} {l : List Cm} (hg : Good n l) (hn : n ≤ 9) (j : Nat) (hj : j ≤ l.length) : ∀ x ∈ flat l j, 0 ≤ x ∧ x < 18446744073709551616 := by
  induction j with
  | zero => intro x hx; cases hx
  | succ j ih =>
    intro x hx
    have h := hg j (by omega)
    rw [flat] at hx
    rcases List.mem_append.1 hx with h1 | h1
    · exact ih (by omega) x h1
    · simp only [List.mem_cons, List.not_mem_nil, or_false] at h1
      rcases h1 with rfl | rfl | rfl
      · omega
      · omega
      · omega
theorem bindNums_bd {n : Int} {l : List Cm} (hg : Good n l) (hn : n ≤ 9) {key : Int} (hk : 0 ≤ key ∧ key < 18446744073709551616) {k : Nat} (h : k < l.length) :
    ∀ i, i < (bindNums l key k l.length).length → 0 ≤ (bindNums l key k l.length).getD i 0 ∧ (bindNums l key k l.length).getD i 0 < 18446744073709551616 := by
  intro i hi
  have hm : (bindNums l key k l.length).getD i 0 ∈ bindNums l key k l.length := by
    rw [List.getD_eq_getElem?_getD, List.getElem?_eq_getElem hi]
    exact List.getElem_mem hi
  generalize (bindNums l key k l.length).getD i 0 = x at hm
  rw [bindNums] at hm
  rcases List.mem_append.1 hm with h1 | h1
  · simp only [List.mem_cons, List.not_mem_nil, or_false] at h1
    have := hg k h
    rcases h1 with rfl | rfl
    · omega
    · exact hk
  · exact flat_bd hg hn _ (Nat.le_refl _) x h1
def bindP (l : List Cm) (key : Int) (msg : ByteArray) (k : Nat) : Int := hashI 1 msg (bindNums l key k l.length)
theorem bindP_bd (l : List Cm) (key : Int) (msg : ByteArray) (k : Nat) : 0 ≤ bindP l key msg k ∧ bindP l key msg k < 1073741789 := hashI_bd _ _ _
def partP (l : List Cm) (key : Int) (msg : ByteArray) (k : Nat) : Int := emul (l.getD k .zero).d (pw (l.getD k .zero).e (bindP l key msg k).toNat 2147483579)
theorem partP_bd (l : List Cm) (key : Int) (msg : ByteArray) (k : Nat) : 0 ≤ partP l key msg k ∧ partP l key msg k < 2147483579 := emul_bd _ _
def partsP (l : List Cm) (key : Int) (msg : ByteArray) (k : Nat) : List Int := (List.range k).map (partP l key msg)
theorem partsP_length (l : List Cm) (key : Int) (msg : ByteArray) (k : Nat) : (partsP l key msg k).length = k := by simp [partsP]
theorem partsP_step (l : List Cm) (key : Int) (msg : ByteArray) (k : Nat) : partsP l key msg (k + 1) = partsP l key msg k ++ [partP l key msg k] := by simp [partsP, List.range_succ]
theorem partsP_at (l : List Cm) (key : Int) (msg : ByteArray) {k i : Nat} (h : i < k) : (partsP l key msg k).getD i 0 = partP l key msg i := by
  unfold partsP
  rw [List.getD_eq_getElem?_getD, List.getElem?_map, List.getElem?_range h]
  rfl
/-- The reference's product of the first k parts. -/
def allR (l : List Cm) (key : Int) (msg : ByteArray) : Nat → Int
  | 0 => 1
  | k + 1 => emul (allR l key msg k) (partP l key msg k)
def allP (l : List Cm) (key : Int) (msg : ByteArray) : Int := prodE 1 (partsP l key msg l.length) l.length
theorem allR_prod (l : List Cm) (key : Int) (msg : ByteArray) (n k : Nat) (h : k ≤ n) : prodE 1 (partsP l key msg n) k = allR l key msg k := by
  induction k with
  | zero => rfl
  | succ k ih => rw [prodE, ih (by omega), partsP_at l key msg (by omega), allR]
theorem allP_eq (l : List Cm) (key : Int) (msg : ByteArray) : allP l key msg = allR l key msg l.length := allR_prod _ _ _ _ _ (Nat.le_refl _)
theorem allR_bd (l : List Cm) (key : Int) (msg : ByteArray) (k : Nat) : 0 ≤ allR l key msg k ∧ allR l key msg k < 2147483579 := by
  cases k with
  | zero => unfold allR; omega
  | succ k => exact emul_bd _ _
def idsOf (l : List Cm) (k : Nat) : List Int := (List.range k).map fun i => (l.getD i .zero).id
theorem idsOf_length (l : List Cm) (k : Nat) : (idsOf l k).length = k := by simp [idsOf]
theorem idsOf_step (l : List Cm) (k : Nat) : idsOf l (k + 1) = idsOf l k ++ [(l.getD k .zero).id] := by simp [idsOf, List.range_succ]
theorem idsOf_at (l : List Cm) {k i : Nat} (h : i < k) : (idsOf l k).getD i 0 = (l.getD i .zero).id := by
  unfold idsOf
  rw [List.getD_eq_getElem?_getD, List.getElem?_map, List.getElem?_range h]
  rfl
/-- A share of a signature: the program's, the reference's. -/
def signP (d e b w s c : Int) : Int := sadd (sadd d (smul e b)) (smul (smul w s) c)
def signR (d e b w s c : Int) : Int := (d + e * b + w * s % 1073741789 * c % 1073741789) % 1073741789
theorem sign_eq {d e b w s c : Int} (hd : 0 ≤ d ∧ d < 1073741789) (he : 0 ≤ e ∧ e < 1073741789) (hb : 0 ≤ b ∧ b < 1073741789) (hw : 0 ≤ w ∧ w < 1073741789) (hs : 0 ≤ s ∧ s < 1073741789) (hc : 0 ≤ c ∧ c < 1073741789) : signP d e b w s c = signR d e b w s c := by
  have b1 := smul_bd e b
  have b2 := smul_bd w s
  have b3 := smul_bd (smul w s) c
  have b4 := sadd_bd d (smul e b)
  unfold signP signR
  have e1 : sadd d (smul e b) = (d + e * b) % 1073741789 := by
    unfold sadd
    rw [u64_id (by omega) (by omega), smul_eq he.1 (by omega) hb.1 (by omega)]
    generalize e * b = x; omega
  have e2 : smul (smul w s) c = w * s % 1073741789 * c % 1073741789 := by
    rw [smul_eq b2.1 (by omega) hc.1 (by omega), smul_eq hw.1 (by omega) hs.1 (by omega)]
  rw [e1] at b4
  rw [e2] at b3
  rw [e1, e2]
  unfold sadd
  rw [u64_id (by omega) (by omega)]
  generalize w * s % 1073741789 * c % 1073741789 = x
  generalize e * b = y
  omega
end Go.Proofs.Ytpfpokjaeffbjab.Kpl
