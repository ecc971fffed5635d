/- Plain laws on numbers, with no program in sight: scalars, elements, powers. Condition: none. -/
import Derived.WalkKit
import Derived.WalkSpells
import Derived.WalkLawsBesides
namespace Go.Proofs.Ytpfpokjaeffbjab.Pl

/-- a to the n, modulo m. -/
def pw (a : Int) (n : Nat) (m : Int) : Int := a ^ n % m
def smul (a b : Int) : Int := IntKind.u64.wrap (a * b) % 1073741789
def sadd (a b : Int) : Int := IntKind.u64.wrap (a + b) % 1073741789
def ssub (a b : Int) : Int := IntKind.u64.wrap (IntKind.u64.wrap (a + 1073741789) - b) % 1073741789
def emul (a b : Int) : Int := IntKind.u64.wrap (a * b) % 2147483579

theorem u64_nonneg (x : Int) : 0 ≤ IntKind.u64.wrap x := by rw [IntKind.wrap_u64]; omega
theorem u64_lt (x : Int) : IntKind.u64.wrap x < 18446744073709551616 := by rw [IntKind.wrap_u64]; omega
theorem u64_id {x : Int} (h : 0 ≤ x) (h' : x < 18446744073709551616) : IntKind.u64.wrap x = x := by rw [IntKind.wrap_u64]; omega

theorem smul_bd (a b : Int) : 0 ≤ smul a b ∧ smul a b < 1073741789 := by unfold smul; omega
theorem sadd_bd (a b : Int) : 0 ≤ sadd a b ∧ sadd a b < 1073741789 := by unfold sadd; omega
theorem ssub_bd (a b : Int) : 0 ≤ ssub a b ∧ ssub a b < 1073741789 := by unfold ssub; omega
theorem emul_bd (a b : Int) : 0 ≤ emul a b ∧ emul a b < 2147483579 := by unfold emul; omega
theorem pw_bd (a : Int) (n : Nat) {m : Int} (h : 0 < m) : 0 ≤ pw a n m ∧ pw a n m < m := by
  unfold pw; exact ⟨Int.emod_nonneg _ (by omega), Int.emod_lt_of_pos _ h⟩

theorem mul_lt {a b A B : Int} (h0 : 0 ≤ a) (h1 : a < A) (h2 : 0 ≤ b) (h3 : b < B) : 0 ≤ a * b ∧ a * b < A * B := by
  refine ⟨Int.mul_nonneg h0 h2, ?_⟩
  have h4 : a * b ≤ a * B := Int.mul_le_mul_of_nonneg_left (by omega) h0
  have h5 : a * B < A * B := Int.mul_lt_mul_of_pos_right h1 (by omega)
  omega
/-- A product of two numbers below 2^32 does not wrap. -/
theorem mul_wrap {a b : Int} (h0 : 0 ≤ a) (h1 : a < 4294967296) (h2 : 0 ≤ b) (h3 : b < 4294967296) : IntKind.u64.wrap (a * b) = a * b := by
  have h := mul_lt h0 h1 h2 h3
  exact u64_id h.1 (by have := h.2; omega)
theorem smul_eq {a b : Int} (h0 : 0 ≤ a) (h1 : a < 4294967296) (h2 : 0 ≤ b) (h3 : b < 4294967296) : smul a b = a * b % 1073741789 := by
  unfold smul; rw [mul_wrap h0 h1 h2 h3]
theorem emul_eq {a b : Int} (h0 : 0 ≤ a) (h1 : a < 4294967296) (h2 : 0 ≤ b) (h3 : b < 4294967296) : emul a b = a * b % 2147483579 := by
  unfold emul; rw [mul_wrap h0 h1 h2 h3]

theorem emod_mul_left (a b m : Int) : a % m * b % m = a * b % m := by
  rw [Int.mul_emod, Int.emod_emod_of_dvd _ (Int.dvd_refl m), ← Int.mul_emod]
theorem emod_mul_right (a b m : Int) : a * (b % m) % m = a * b % m := by
  rw [Int.mul_emod, Int.emod_emod_of_dvd _ (Int.dvd_refl m), ← Int.mul_emod]
theorem pow_mod (a : Int) (n : Nat) (m : Int) : (a % m) ^ n % m = a ^ n % m := by
  induction n with
  | zero => rw [Int.pow_zero, Int.pow_zero]
  | succ n ih => rw [Int.pow_succ, Int.pow_succ, Int.mul_emod, ih, Int.emod_emod_of_dvd _ (Int.dvd_refl m), ← Int.mul_emod]
theorem pw_mod (a : Int) (n : Nat) (m : Int) : pw (a % m) n m = pw a n m := pow_mod a n m
theorem pw_zero (a : Int) {m : Int} (h : 1 < m) : pw a 0 m = 1 := by unfold pw; rw [Int.pow_zero]; exact Int.emod_eq_of_lt (by omega) h
theorem pw_mul_mod (a : Int) (k n : Nat) (m : Int) : pw a k m * pw a n m % m = pw a (k + n) m := by
  unfold pw; rw [← Int.mul_emod, Int.pow_add]
/-- The square of the half, and once more the number where n is odd: the recursion of the reference's power. -/
theorem pw_even (a : Int) (n : Nat) (m : Int) (h : n % 2 = 0) : pw a n m = pw a (n / 2) m * pw a (n / 2) m % m := by
  rw [pw_mul_mod]; congr 1; omega
theorem pw_odd (a : Int) (n : Nat) (m : Int) (h : n % 2 = 1) : pw a n m = pw a (n / 2) m * pw a (n / 2) m % m * a % m := by
  rw [pw_mul_mod]
  have e : n = n / 2 + n / 2 + 1 := by omega
  conv => lhs; rw [e]
  unfold pw
  rw [Int.pow_succ, emod_mul_left]
/-- A round of the program's loop: 'out' times a to the n is kept. -/
theorem loop_even (o a : Int) (n : Nat) (m : Int) (h : n % 2 = 0) : o * (a * a % m) ^ (n / 2) % m = o * a ^ n % m := by
  have e : a ^ n = (a * a) ^ (n / 2) := by
    rw [Int.mul_pow, ← Int.pow_add]; congr 1; omega
  rw [e, Int.mul_emod, pow_mod, ← Int.mul_emod]
theorem loop_odd (o a : Int) (n : Nat) (m : Int) (h : n % 2 = 1) : (o * a % m) * (a * a % m) ^ (n / 2) % m = o * a ^ n % m := by
  have e : a ^ n = a * (a * a) ^ (n / 2) := by
    rw [Int.mul_pow, ← Int.pow_add, Int.mul_comm, ← Int.pow_succ]; congr 1; omega
  rw [emod_mul_left, Int.mul_emod, pow_mod, ← Int.mul_emod, e, Int.mul_assoc]
theorem and_one (k : Nat) (h : k < 18446744073709551616) : bits BinOp.and IntKind.u64 (k : Int) 1 = (k : Int) % 2 :=
  Go.and_one_u64 _ (by omega) (by omega)
theorem ofInt_i64 (a : Nat) (ha : a < 9223372036854775808) : (BitVec.ofInt 64 (a : Int)).toNat = a := by
  rw [BitVec.ofInt_natCast, BitVec.toNat_ofNat]; exact Nat.mod_eq_of_lt (by omega)
theorem i64_and_nat (a b : Nat) (ha : a < 9223372036854775808) (hb : b < 9223372036854775808) : bits .and .i64 (a : Int) (b : Int) = ((a &&& b : Nat) : Int) := by
  have hx : a &&& b < 2 ^ 63 := Nat.and_lt_two_pow _ (by omega)
  show IntKind.i64.wrap ((BitVec.ofInt 64 (a : Int) &&& BitVec.ofInt 64 (b : Int)).toNat : Int) = _
  rw [BitVec.toNat_and, ofInt_i64 a ha, ofInt_i64 b hb, IntKind.wrap_i64]
  omega
theorem and_one_i64 (k : Nat) (h : k < 9223372036854775808) : bits BinOp.and IntKind.i64 (k : Int) 1 = (k : Int) % 2 := by
  have h1 := i64_and_nat k 1 h (by omega)
  rw [Nat.and_one_is_mod] at h1
  exact h1.trans (by omega)
/-- Q and Q - 2 as exponents (behind a name: no tactic is to reckon with them). -/
def qq : Nat := 1073741789
def qm2 : Nat := 1073741787
theorem qq_cast : (qq : Int) = 1073741789 := rfl
theorem qm2_cast : (qm2 : Int) = 1073741787 := rfl
theorem qq_lt : qq < 18446744073709551616 := by unfold qq; omega
theorem qm2_lt : qm2 < 18446744073709551616 := by unfold qm2; omega
/-- Is a number an element? -/
def isEl (n : Int) : Bool := decide (0 < n ∧ n < 2147483579 ∧ pw n qq 2147483579 = 1)
/-- Is a number a commitment to a nonce? -/
def isNc (n : Int) : Bool := isEl n && decide (n ≠ 1)

/-- The polynomial by Horner's rule, from the last coefficient on. -/
def poly (l : List Int) (x : Int) : Int := l.foldr (fun c acc => sadd (smul acc x) c) 0
/-- The reference's sum and power behind j coefficients. -/
def rpA (x : Int) : Nat → Int
  | 0 => 1
  | j + 1 => rpA x j * x % 1073741789
def rpS (l : List Int) (x : Int) : Nat → Int
  | 0 => 0
  | j + 1 => (rpS l x j + l.getD j 0 * rpA x j) % 1073741789
theorem rpA_bd (x : Int) (j : Nat) : 0 ≤ rpA x j ∧ rpA x j < 1073741789 := by
  cases j with
  | zero => unfold rpA; omega
  | succ j => unfold rpA; omega
theorem rpS_bd (l : List Int) (x : Int) (j : Nat) : 0 ≤ rpS l x j ∧ rpS l x j < 1073741789 := by
  cases j with
  | zero => unfold rpS; omega
  | succ j => unfold rpS; omega
/-- The weight's numerator and denominator behind j places. -/
def lagUp (ids : List Int) (k : Nat) : Nat → Int
  | 0 => 1
  | j + 1 => if j = k then lagUp ids k j else smul (lagUp ids k j) (IntKind.u64.wrap (ids.getD j 0))
def lagDown (ids : List Int) (k : Nat) : Nat → Int
  | 0 => 1
  | j + 1 => if j = k then lagDown ids k j else smul (lagDown ids k j) (ssub (IntKind.u64.wrap (ids.getD j 0)) (IntKind.u64.wrap (ids.getD k 0)))
def lagrange (ids : List Int) (k : Nat) : Int := smul (lagUp ids k ids.length) (pw (lagDown ids k ids.length) qm2 1073741789)
theorem lagUp_bd (ids : List Int) (k j : Nat) : 0 ≤ lagUp ids k j ∧ lagUp ids k j < 1073741789 := by
  induction j with
  | zero => unfold lagUp; omega
  | succ j ih =>
    unfold lagUp
    split
    · exact ih
    · exact smul_bd _ _
theorem lagDown_bd (ids : List Int) (k j : Nat) : 0 ≤ lagDown ids k j ∧ lagDown ids k j < 1073741789 := by
  induction j with
  | zero => unfold lagDown; omega
  | succ j ih =>
    unfold lagDown
    split
    · exact ih
    · exact smul_bd _ _
theorem lagUp_skip (ids : List Int) (k : Nat) : lagUp ids k (k + 1) = lagUp ids k k := by rw [lagUp, if_pos rfl]
theorem lagDown_skip (ids : List Int) (k : Nat) : lagDown ids k (k + 1) = lagDown ids k k := by rw [lagDown, if_pos rfl]
theorem lagUp_step (ids : List Int) {k j : Nat} (h : j ≠ k) : lagUp ids k (j + 1) = smul (lagUp ids k j) (IntKind.u64.wrap (ids.getD j 0)) := by rw [lagUp, if_neg h]
theorem lagDown_step (ids : List Int) {k j : Nat} (h : j ≠ k) : lagDown ids k (j + 1) = smul (lagDown ids k j) (ssub (IntKind.u64.wrap (ids.getD j 0)) (IntKind.u64.wrap (ids.getD k 0))) := by rw [lagDown, if_neg h]
/-- The reference's weight behind j places. -/
def wtS (ids : List Int) (k : Nat) : Nat → Int
  | 0 => 1
  | j + 1 => if j = k then wtS ids k j else wtS ids k j * ids.getD j 0 % 1073741789 * pw ((ids.getD j 0 + 1073741789 - ids.getD k 0) % 1073741789) qm2 1073741789 % 1073741789
theorem wtS_bd (ids : List Int) (k j : Nat) : 0 ≤ wtS ids k j ∧ wtS ids k j < 1073741789 := by
  induction j with
  | zero => unfold wtS; omega
  | succ j ih =>
    unfold wtS
    split
    · exact ih
    · omega
theorem wtS_skip (ids : List Int) (k : Nat) : wtS ids k (k + 1) = wtS ids k k := by rw [wtS, if_pos rfl]
theorem wtS_step (ids : List Int) {k j : Nat} (h : j ≠ k) : wtS ids k (j + 1) = wtS ids k j * ids.getD j 0 % 1073741789 * pw ((ids.getD j 0 + 1073741789 - ids.getD k 0) % 1073741789) qm2 1073741789 % 1073741789 := by rw [wtS, if_neg h]
def weight (ids : List Int) (k : Nat) : Int := wtS ids k ids.length
/-- Lists taken together. -/
def sumS (first : Int) (l : List Int) : Nat → Int
  | 0 => first
  | j + 1 => sadd (sumS first l j) (l.getD j 0)
def prodE (first : Int) (l : List Int) : Nat → Int
  | 0 => first
  | j + 1 => emul (prodE first l j) (l.getD j 0)

/-- One byte more into the hash. -/
def mix (h b : Int) : Int := IntKind.u64.wrap (bits BinOp.xor IntKind.u64 h b * 1099511628211)
def dv (n : Int) : Nat → Int
  | 0 => n
  | j + 1 => dv n j / 256
def numH (h n : Int) : Nat → Int
  | 0 => h
  | j + 1 => mix (numH h n j) (dv n j % 256)
def numsH (h : Int) (l : List Int) : Nat → Int
  | 0 => h
  | k + 1 => numH (numsH h l k) (l.getD k 0) 8
def byteAt (s : ByteArray) (k : Nat) : Int := if h : k < s.size then (s[k].toNat : Int) else 0
def textH (h : Int) (s : ByteArray) : Nat → Int
  | 0 => h
  | k + 1 => mix (textH h s k) (byteAt s k)
theorem textH_step (h : Int) (s : ByteArray) {k : Nat} (hk : k < s.size) : textH h s (k + 1) = mix (textH h s k) (s[k].toNat : Int) := by
  show mix (textH h s k) (byteAt s k) = _
  rw [byteAt, dif_pos hk]
def fnv0 : Int := 14695981039346656037
def hashI (tag : Int) (s : ByteArray) (l : List Int) : Int := textH (numsH (mix fnv0 tag) l l.length) s s.size % 1073741789
theorem dv_bd (n : Int) (j : Nat) (h0 : 0 ≤ n) (h1 : n < 18446744073709551616) : 0 ≤ dv n j ∧ dv n j < 18446744073709551616 := by
  induction j with
  | zero => exact ⟨h0, h1⟩
  | succ j ih => unfold dv; omega
theorem mix_nonneg (h b : Int) : 0 ≤ mix h b := u64_nonneg _
theorem numH_nonneg (h n : Int) (j : Nat) (h0 : 0 ≤ h) : 0 ≤ numH h n j := by
  cases j with
  | zero => exact h0
  | succ j => exact mix_nonneg _ _
theorem numsH_nonneg (h : Int) (l : List Int) (j : Nat) (h0 : 0 ≤ h) : 0 ≤ numsH h l j := by
  induction j with
  | zero => exact h0
  | succ j ih => exact numH_nonneg _ _ _ ih
theorem textH_nonneg (h : Int) (s : ByteArray) (j : Nat) (h0 : 0 ≤ h) : 0 ≤ textH h s j := by
  cases j with
  | zero => exact h0
  | succ j => exact mix_nonneg _ _
theorem hashI_bd (tag : Int) (s : ByteArray) (l : List Int) : 0 ≤ hashI tag s l ∧ hashI tag s l < 1073741789 := by unfold hashI; omega

/-- The reference's bytes: of a number, of numbers, of all. -/
def numBytes (n : Int) : Nat → List Int
  | 0 => []
  | j + 1 => numBytes n j ++ [dv n j % 256]
def numsBytes (l : List Int) : Nat → List Int
  | 0 => []
  | k + 1 => numsBytes l k ++ numBytes (l.getD k 0) 8
def textBytes (s : ByteArray) : List Int := s.data.toList.map fun b => (b.toNat : Int)
def mixL (h : Int) (l : List Int) : Nat → Int
  | 0 => h
  | k + 1 => mix (mixL h l k) (l.getD k 0)
theorem numBytes_length (n : Int) (j : Nat) : (numBytes n j).length = j := by
  induction j with
  | zero => rfl
  | succ j ih => simp [numBytes, ih]
theorem numsBytes_length (l : List Int) (k : Nat) : (numsBytes l k).length = 8 * k := by
  induction k with
  | zero => rfl
  | succ k ih => simp [numsBytes, ih, numBytes_length]; omega
theorem dv_eq (n : Int) (j : Nat) : dv n j = n / 2 ^ (8 * j) := by
  induction j with
  | zero => simp [dv]
  | succ j ih =>
    rw [dv, ih, Int.ediv_ediv_of_nonneg (Int.pow_nonneg (by omega))]
    congr 1
    rw [show 8 * (j + 1) = 8 * j + 8 by omega, Int.pow_add, show (2 : Int) ^ 8 = 256 from rfl]

def allBytes (tag : Int) (s : ByteArray) (l : List Int) : List Int := tag :: (numsBytes l l.length ++ textBytes s)
theorem textBytes_length (s : ByteArray) : (textBytes s).length = s.size := by simp [textBytes]
theorem allBytes_length (tag : Int) (s : ByteArray) (l : List Int) : (allBytes tag s l).length = 1 + 8 * l.length + s.size := by
  simp [allBytes, numsBytes_length, textBytes_length]; omega
theorem numBytes_bd (n : Int) (j : Nat) : ∀ x ∈ numBytes n j, 0 ≤ x ∧ x < 256 := by
  induction j with
  | zero => simp [numBytes]
  | succ j ih =>
    intro x hx
    simp only [numBytes, List.mem_append, List.mem_singleton] at hx
    rcases hx with hx | rfl
    · exact ih x hx
    · omega
theorem numsBytes_bd (l : List Int) (k : Nat) : ∀ x ∈ numsBytes l k, 0 ≤ x ∧ x < 256 := by
  induction k with
  | zero => simp [numsBytes]
  | succ k ih =>
    intro x hx
    simp only [numsBytes, List.mem_append] at hx
    rcases hx with hx | hx
    · exact ih x hx
    · exact numBytes_bd _ _ x hx
theorem textBytes_bd (s : ByteArray) : ∀ x ∈ textBytes s, 0 ≤ x ∧ x < 256 := by
  intro x hx
  simp only [textBytes, List.mem_map] at hx
  obtain ⟨b, _, rfl⟩ := hx
  have := b.toNat_lt
  omega
theorem allBytes_bd {tag : Int} (s : ByteArray) (l : List Int) (h0 : 0 ≤ tag) (h1 : tag < 256) : ∀ x ∈ allBytes tag s l, 0 ≤ x ∧ x < 256 := by
  intro x hx
  simp only [allBytes, List.mem_cons, List.mem_append] at hx
  rcases hx with rfl | hx | hx
  · exact ⟨h0, h1⟩
  · exact numsBytes_bd _ _ x hx
  · exact textBytes_bd _ x hx
/-- Mixing in byte by byte is a fold. -/
theorem mixL_fold (h : Int) (l : List Int) (k : Nat) (hk : k ≤ l.length) : mixL h l k = (l.take k).foldl mix h := by
  induction k with
  | zero => simp [mixL]
  | succ k ih =>
    have hlt : k < l.length := by omega
    rw [mixL, ih (by omega), List.take_succ_eq_append_getElem hlt, List.foldl_append, List.getD_eq_getElem?_getD, List.getElem?_eq_getElem hlt]
    rfl
theorem numH_fold (h n : Int) (j : Nat) : numH h n j = (numBytes n j).foldl mix h := by
  induction j with
  | zero => rfl
  | succ j ih => rw [numH, numBytes, List.foldl_append, ih]; rfl
theorem numsH_fold (h : Int) (l : List Int) (k : Nat) : numsH h l k = (numsBytes l k).foldl mix h := by
  induction k with
  | zero => rfl
  | succ k ih => rw [numsH, numsBytes, List.foldl_append, ih, numH_fold]
theorem textH_fold (h : Int) (s : ByteArray) (k : Nat) (hk : k ≤ s.size) : textH h s k = ((textBytes s).take k).foldl mix h := by
  induction k with
  | zero => simp [textH]
  | succ k ih =>
    have hlt : k < s.size := by omega
    have hlt' : k < (textBytes s).length := by rw [textBytes_length]; omega
    rw [textH_step _ _ hlt, ih (by omega), List.take_succ_eq_append_getElem hlt', List.foldl_append]
    simp [textBytes]
    rfl
theorem mixL_hash (tag : Int) (s : ByteArray) (l : List Int) : mixL fnv0 (allBytes tag s l) (allBytes tag s l).length % 1073741789 = hashI tag s l := by
  unfold hashI
  rw [mixL_fold _ _ _ (Nat.le_refl _), List.take_length, allBytes, List.foldl_cons, List.foldl_append, textH_fold _ _ _ (Nat.le_refl _), numsH_fold]
  congr 1
  rw [List.take_of_length_le (by rw [textBytes_length]; exact Nat.le_refl _)]
theorem mixL_nonneg (h : Int) (l : List Int) (j : Nat) (h0 : 0 ≤ h) : 0 ≤ mixL h l j := by
  cases j with
  | zero => exact h0
  | succ j => exact mix_nonneg _ _

/-- What is wrong with the k-th place of Combine; of the first k places. -/
def combAt (ids shares : List Int) (k : Nat) : Int :=
  if ids.getD k 0 < 1 ∨ 9 < ids.getD k 0 then 5 else if 0 < k ∧ ids.getD k 0 ≤ ids.getD (k - 1) 0 then 6 else if 1073741789 ≤ shares.getD k 0 then 2 else 0
def combErr (ids shares : List Int) : Nat → Int
  | 0 => 0
  | k + 1 => if combErr ids shares k = 0 then combAt ids shares k else combErr ids shares k
def combE (ids shares : List Int) : Int := if ids.length = shares.length ∧ 0 < ids.length ∧ ids.length ≤ 9 then combErr ids shares ids.length else 12
def partsC (ids shares : List Int) (k : Nat) : List Int := (List.range k).map fun i => smul (shares.getD i 0) (lagrange ids i)
def combA (ids shares : List Int) : Int := if combE ids shares = 0 then sumS 0 (partsC ids shares ids.length) ids.length else 0
def rsum (ids shares : List Int) : Nat → Int
  | 0 => 0
  | k + 1 => (rsum ids shares k + shares.getD k 0 * weight ids k) % 1073741789
def combR (ids shares : List Int) : Int := if combE ids shares = 0 then rsum ids shares ids.length else 0
theorem combErr_le (ids shares : List Int) {j k : Nat} (h : j ≤ k) (hk : combErr ids shares k = 0) : combErr ids shares j = 0 := by
  induction k with
  | zero => obtain rfl : j = 0 := by omega
            exact hk
  | succ k ih =>
    by_cases h0 : combErr ids shares k = 0
    · rcases Nat.lt_or_ge k j with hj | hj
      · obtain rfl : j = k + 1 := by omega
        exact hk
      · exact ih hj h0
    · rw [combErr, if_neg h0] at hk; exact absurd hk h0
theorem combErr_stays (ids shares : List Int) {j k : Nat} (h : j ≤ k) (hj : combErr ids shares j ≠ 0) : combErr ids shares k = combErr ids shares j := by
  induction k with
  | zero => obtain rfl : j = 0 := by omega
            rfl
  | succ k ih =>
    rcases Nat.lt_or_ge k j with hlt | hge
    · obtain rfl : j = k + 1 := by omega
      rfl
    · rw [combErr, ih hge, if_neg hj]
/-- The first fault decides. -/
theorem combE_at (ids shares : List Int) {k : Nat} {x : Int} (h1 : ids.length = shares.length) (h2 : 0 < ids.length) (h3 : ids.length ≤ 9) (hk : k < ids.length)
    (h0 : combErr ids shares k = 0) (hx : combAt ids shares k = x) (hn : x ≠ 0) : combE ids shares = x := by
  unfold combE
  rw [if_pos ⟨h1, h2, h3⟩, combErr_stays ids shares (j := k + 1) (by omega) (by rw [combErr, if_pos h0, hx]; exact hn), combErr, if_pos h0, hx]
theorem combE_len (ids shares : List Int) (h : ¬ (ids.length = shares.length ∧ 0 < ids.length ∧ ids.length ≤ 9)) : combE ids shares = 12 := by
  unfold combE; rw [if_neg h]
theorem combE_ok (ids shares : List Int) (h1 : ids.length = shares.length) (h2 : 0 < ids.length) (h3 : ids.length ≤ 9) (h0 : combErr ids shares ids.length = 0) : combE ids shares = 0 := by
  unfold combE; rw [if_pos ⟨h1, h2, h3⟩, h0]
theorem partsC_length (ids shares : List Int) (k : Nat) : (partsC ids shares k).length = k := by simp [partsC]
theorem partsC_step (ids shares : List Int) (k : Nat) : partsC ids shares (k + 1) = partsC ids shares k ++ [smul (shares.getD k 0) (lagrange ids k)] := by
  simp [partsC, List.range_succ]
theorem combAt_good (ids shares : List Int) {k : Nat} (h : combAt ids shares k = 0) : 1 ≤ ids.getD k 0 ∧ ids.getD k 0 ≤ 9 ∧ shares.getD k 0 < 1073741789 ∧ (0 < k → ids.getD (k - 1) 0 < ids.getD k 0) := by
  unfold combAt at h
  by_cases h1 : ids.getD k 0 < 1 ∨ 9 < ids.getD k 0
  · rw [if_pos h1] at h; omega
  rw [if_neg h1] at h
  by_cases h2 : 0 < k ∧ ids.getD k 0 ≤ ids.getD (k - 1) 0
  · rw [if_pos h2] at h; omega
  rw [if_neg h2] at h
  by_cases h3 : 1073741789 ≤ shares.getD k 0
  · rw [if_pos h3] at h; omega
  refine ⟨by omega, by omega, by omega, fun h0 => ?_⟩
  have : ¬ ids.getD k 0 ≤ ids.getD (k - 1) 0 := fun h => h2 ⟨h0, h⟩
  omega
theorem combErr_at (ids shares : List Int) {n k : Nat} (h : combErr ids shares n = 0) (hk : k < n) : combAt ids shares k = 0 := by
  have h1 := combErr_le ids shares (j := k + 1) (by omega) h
  have h2 := combErr_le ids shares (j := k) (by omega) h
  rw [combErr, if_pos h2] at h1
  exact h1
theorem combErr_good (ids shares : List Int) {n k : Nat} (h : combErr ids shares n = 0) (hk : k < n) : 1 ≤ ids.getD k 0 ∧ ids.getD k 0 ≤ 9 ∧ shares.getD k 0 < 1073741789 := by
  have h1 := combAt_good ids shares (combErr_at ids shares h hk)
  exact ⟨h1.1, h1.2.1, h1.2.2.1⟩
theorem rsum_bd (ids shares : List Int) (k : Nat) : 0 ≤ rsum ids shares k ∧ rsum ids shares k < 1073741789 := by
  cases k with
  | zero => unfold rsum; omega
  | succ k => unfold rsum; omega
end Go.Proofs.Ytpfpokjaeffbjab.Pl
