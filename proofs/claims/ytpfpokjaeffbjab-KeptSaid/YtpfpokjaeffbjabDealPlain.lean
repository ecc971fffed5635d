/- What Deal answers, in plain numbers. -/
import Derived.Test.YtpfpokjaeffbjabPlain
namespace Go.Proofs.Ytpfpokjaeffbjab.Dpl
open Go.Proofs.Ytpfpokjaeffbjab.Pl

def comms (coeffs : List Int) (k : Nat) : List Int := (coeffs.take k).map fun c => pw 4 c.toNat 2147483579
def sharesP (coeffs : List Int) (n : Nat) : List Int := (List.range n).map fun (i : Nat) => poly coeffs ((i : Int) + 1)
def sharesR (coeffs : List Int) (n : Nat) : List Int := (List.range n).map fun (i : Nat) => rpS coeffs ((i : Int) + 1) coeffs.length
/-- All of the first k coefficients are scalars. -/
def okTo (coeffs : List Int) : Nat → Bool
  | 0 => true
  | k + 1 => okTo coeffs k && decide (coeffs.getD k 0 < 1073741789)
def dealE (t n : Int) (coeffs : List Int) : Int :=
  if t < 2 ∨ n < t ∨ 9 < n ∨ (coeffs.length : Int) ≠ t then 1 else if coeffs.getD 0 0 = 0 ∨ okTo coeffs coeffs.length = false then 2 else 0
theorem okTo_le (coeffs : List Int) {j k : Nat} (h : j ≤ k) (hk : okTo coeffs k = true) : okTo coeffs j = true := by
  induction k with
  | zero => obtain rfl : j = 0 := by omega
            exact hk
  | succ k ih =>
    rw [okTo, Bool.and_eq_true] at hk
    rcases Nat.lt_or_ge k j with hj | hj
    · obtain rfl : j = k + 1 := by omega
      rw [okTo, Bool.and_eq_true]; exact hk
    · exact ih hj hk.1
theorem okTo_at (coeffs : List Int) {j k : Nat} (h : j < k) (hk : okTo coeffs k = true) : coeffs.getD j 0 < 1073741789 := by
  have h1 := okTo_le coeffs (j := j + 1) (by omega) hk
  rw [okTo, Bool.and_eq_true, decide_eq_true_iff] at h1
  exact h1.2
theorem okTo_step (coeffs : List Int) {k : Nat} (hk : okTo coeffs k = true) (h : coeffs.getD k 0 < 1073741789) : okTo coeffs (k + 1) = true := by
  rw [okTo, hk, Bool.true_and, decide_eq_true_iff]; exact h
theorem okTo_bad (coeffs : List Int) {j k : Nat} (h : j < k) (hj : ¬ coeffs.getD j 0 < 1073741789) : okTo coeffs k = false := by
  cases hk : okTo coeffs k with
  | false => rfl
  | true => exact absurd (okTo_at coeffs h hk) hj
theorem comms_step (coeffs : List Int) {k : Nat} (h : k < coeffs.length) : comms coeffs (k + 1) = comms coeffs k ++ [pw 4 (coeffs.getD k 0).toNat 2147483579] := by
  unfold comms
  rw [List.take_succ_eq_append_getElem h, List.map_append, List.getD_eq_getElem?_getD, List.getElem?_eq_getElem h]
  rfl
theorem take_step (l : List Int) {k : Nat} (h : k < l.length) : l.take (k + 1) = l.take k ++ [l.getD k 0] := by
  rw [List.take_succ_eq_append_getElem h, List.getD_eq_getElem?_getD, List.getElem?_eq_getElem h]
  rfl
theorem comms_length (coeffs : List Int) {k : Nat} (h : k ≤ coeffs.length) : (comms coeffs k).length = k := by
  unfold comms; rw [List.length_map, List.length_take]; omega
theorem sharesP_step (coeffs : List Int) (n : Nat) : sharesP coeffs (n + 1) = sharesP coeffs n ++ [poly coeffs ((n : Int) + 1)] := by
  simp [sharesP, List.range_succ]
theorem sharesR_step (coeffs : List Int) (n : Nat) : sharesR coeffs (n + 1) = sharesR coeffs n ++ [rpS coeffs ((n : Int) + 1) coeffs.length] := by
  simp [sharesR, List.range_succ]
theorem sharesP_length (coeffs : List Int) (n : Nat) : (sharesP coeffs n).length = n := by simp [sharesP]
theorem sharesR_length (coeffs : List Int) (n : Nat) : (sharesR coeffs n).length = n := by simp [sharesR]

/-- The sum of the powers, without any modulus. -/
def psum (l : List Int) (x : Int) : Nat → Int
  | 0 => 0
  | j + 1 => psum l x j + l.getD j 0 * x ^ j
def horner (x : Int) : List Int → Int
  | [] => 0
  | c :: l => horner x l * x + c
theorem rpA_eq (x : Int) (j : Nat) : rpA x j = x ^ j % 1073741789 := by
  induction j with
  | zero => simp [rpA]
  | succ j ih => rw [rpA, ih, emod_mul_left, Int.pow_succ]
theorem rpS_eq (l : List Int) (x : Int) (j : Nat) : rpS l x j = psum l x j % 1073741789 := by
  induction j with
  | zero => rfl
  | succ j ih =>
    rw [rpS, ih, rpA_eq, psum, Int.add_emod, Int.emod_emod_of_dvd _ (Int.dvd_refl _), emod_mul_right, ← Int.add_emod]
theorem psum_cons (c : Int) (l : List Int) (x : Int) (j : Nat) : psum (c :: l) x (j + 1) = psum l x j * x + c := by
  induction j with
  | zero => simp [psum]
  | succ j ih =>
    rw [psum, ih, psum, List.getD_cons_succ, Int.pow_succ, Int.add_mul, Int.mul_assoc (l.getD j 0)]
    omega
theorem psum_horner (l : List Int) (x : Int) : psum l x l.length = horner x l := by
  induction l with
  | nil => rfl
  | cons c l ih => rw [List.length_cons, psum_cons, ih, horner]
theorem poly_bd (l : List Int) (x : Int) : 0 ≤ poly l x ∧ poly l x < 1073741789 := by
  cases l with
  | nil => unfold poly; exact ⟨by simp, by simp⟩
  | cons c l => exact sadd_bd _ _
theorem poly_horner (l : List Int) (x : Int) (hx : 0 ≤ x) (hx' : x < 1073741789) (hl : ∀ c ∈ l, 0 ≤ c ∧ c < 1073741789) : poly l x = horner x l % 1073741789 := by
  induction l with
  | nil => rfl
  | cons c l ih =>
    have h1 := ih (fun d hd => hl d (List.mem_cons_of_mem _ hd))
    have b := poly_bd l x
    have hc := hl c (List.mem_cons_self ..)
    show sadd (smul (poly l x) x) c = _
    have b2 := smul_bd (poly l x) x
    have e1 : sadd (smul (poly l x) x) c = (smul (poly l x) x + c) % 1073741789 := by
      unfold sadd; rw [u64_id (by omega) (by omega)]
    rw [e1, smul_eq b.1 (by omega) hx (by omega), h1, horner, emod_mul_left, Int.add_emod, Int.emod_emod_of_dvd _ (Int.dvd_refl _), ← Int.add_emod]
theorem mem_of_getD {l : List Int} {P : Int → Prop} (h : ∀ i, i < l.length → P (l.getD i 0)) : ∀ c ∈ l, P c := by
  intro c hc
  obtain ⟨i, hi, rfl⟩ := List.mem_iff_getElem.1 hc
  have := h i hi
  rwa [List.getD_eq_getElem?_getD, List.getElem?_eq_getElem hi] at this
theorem poly_rps (l : List Int) (x : Int) (hx : 0 ≤ x) (hx' : x < 1073741789) (hl : ∀ i, i < l.length → 0 ≤ l.getD i 0 ∧ l.getD i 0 < 1073741789) : poly l x = rpS l x l.length := by
  rw [poly_horner l x hx hx' (mem_of_getD hl), rpS_eq, psum_horner]
theorem dealE_ok {t n : Int} {coeffs : List Int} (h : dealE t n coeffs = 0) : 2 ≤ t ∧ t ≤ n ∧ n ≤ 9 ∧ (coeffs.length : Int) = t ∧ coeffs.getD 0 0 ≠ 0 ∧ okTo coeffs coeffs.length = true := by
  unfold dealE at h
  by_cases h1 : t < 2 ∨ n < t ∨ 9 < n ∨ (coeffs.length : Int) ≠ t
  · rw [if_pos h1] at h; omega
  rw [if_neg h1] at h
  by_cases h2 : coeffs.getD 0 0 = 0 ∨ okTo coeffs coeffs.length = false
  · rw [if_pos h2] at h; omega
  refine ⟨by omega, by omega, by omega, by omega, fun h => h2 (.inl h), ?_⟩
  cases hk : okTo coeffs coeffs.length with
  | true => rfl
  | false => exact absurd (.inr hk) h2
theorem shares_eq {t n : Int} {coeffs : List Int} (h : dealE t n coeffs = 0) (hb : ∀ i, i < coeffs.length → 0 ≤ coeffs.getD i 0) : sharesP coeffs n.toNat = sharesR coeffs n.toNat := by
  obtain ⟨_, _, h3, _, _, h6⟩ := dealE_ok h
  unfold sharesP sharesR
  apply List.map_congr_left
  intro i hi
  have := List.mem_range.1 hi
  exact poly_rps coeffs _ (by omega) (by omega) fun j hj => ⟨hb j hj, okTo_at coeffs hj h6⟩
end Go.Proofs.Ytpfpokjaeffbjab.Dpl
