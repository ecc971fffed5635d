/- Part of the proof: Plain, Field, Mem. -/
import Derived.WalkKit
import Derived.WalkSpells
import Derived.WalkLawsBesides
import Derived.Test.YtpfpokjaeffbjabRows
import Derived.Lib.Hide
import Derived.Deep.QuietTactic
import Derived.BigQuiet
import Derived.Deep.LoopGhost
import Derived.Deep.Draws
import Derived.Deep.AppendLies
import Derived.Deep.Onto
import Derived.OneCell
namespace Go.Proofs.Ytpfpokjaeffbjab.Pl
def pw (a : Int) (n : Nat) (m : Int) : Int := a ^ n % m
def smul (a b : Int) : Int := IntKind.u64.wrap (a * b) % 1073741789
def sadd (a b : Int) : Int := IntKind.u64.wrap (a + b) % 1073741789
def ssub (a b : Int) : Int := IntKind.u64.wrap (IntKind.u64.wrap (a + 1073741789) - b) % 1073741789
def emul (a b : Int) : Int := IntKind.u64.wrap (a * b) % 2147483579
theorem u64_nonneg (x : Int) : 0 ≤ IntKind.u64.wrap x := by rw [IntKind.wrap_u64]; omega
theorem u64_id {x : Int} (h : 0 ≤ x) (h' : x < 18446744073709551616) : IntKind.u64.wrap x = x := by rw [IntKind.wrap_u64]; omega
theorem smul_bd (a b : Int) : 0 ≤ smul a b ∧ smul a b < 1073741789 := by unfold smul; omega
theorem emul_bd (a b : Int) : 0 ≤ emul a b ∧ emul a b < 2147483579 := by unfold emul; omega
theorem pw_bd (a : Int) (n : Nat) {m : Int} (h : 0 < m) : 0 ≤ pw a n m ∧ pw a n m < m := by
  unfold pw; exact ⟨Int.emod_nonneg _ (by omega), Int.emod_lt_of_pos _ h⟩
theorem mul_lt {a b A B : Int} (h0 : 0 ≤ a) (h1 : a < A) (h2 : 0 ≤ b) (h3 : b < B) : 0 ≤ a * b ∧ a * b < A * B := by
  refine ⟨Int.mul_nonneg h0 h2, ?_⟩
  have h4 : a * b ≤ a * B := Int.mul_le_mul_of_nonneg_left (by omega) h0
  have h5 : a * B < A * B := Int.mul_lt_mul_of_pos_right h1 (by omega)
  omega
theorem mul_wrap {a b : Int} (h0 : 0 ≤ a) (h1 : a < 4294967296) (h2 : 0 ≤ b) (h3 : b < 4294967296) : IntKind.u64.wrap (a * b) = a * b := by
  have h := mul_lt h0 h1 h2 h3
  exact u64_id h.1 (by have := h.2; omega)
theorem smul_eq {a b : Int} (h0 : 0 ≤ a) (h1 : a < 4294967296) (h2 : 0 ≤ b) (h3 : b < 4294967296) : smul a b = a * b % 1073741789 := by
  unfold smul; rw [mul_wrap h0 h1 h2 h3]
theorem emul_eq {a b : Int} (h0 : 0 ≤ a) (h1 : a < 4294967296) (h2 : 0 ≤ b) (h3 : b < 4294967296) : emul a b = a * b % 2147483579 := by
  unfold emul; rw [mul_wrap h0 h1 h2 h3]
theorem emod_mul_left (a b m : Int) : a % m * b % m = a * b % m := by
  rw [Int.mul_emod, Int.emod_emod_of_dvd _ (Int.dvd_refl m), ← Int.mul_emod]
theorem emod_mul_right (a b m : Int) : a * (b % m) % m = a * b % m := by
  rw [Int.mul_emod, Int.emod_emod_of_dvd _ (Int.dvd_refl m), ← Int.mul_emod]
theorem pow_mod (a : Int) (n : Nat) (m : Int) : (a % m) ^ n % m = a ^ n % m := by
  induction n with
  | zero => rw [Int.pow_zero, Int.pow_zero]
  | succ n ih => rw [Int.pow_succ, Int.pow_succ, Int.mul_emod, ih, Int.emod_emod_of_dvd _ (Int.dvd_refl m), ← Int.mul_emod]
theorem pw_mod (a : Int) (n : Nat) (m : Int) : pw (a % m) n m = pw a n m := pow_mod a n m
theorem pw_zero (a : Int) {m : Int} (h : 1 < m) : pw a 0 m = 1 := by unfold pw; rw [Int.pow_zero]; exact Int.emod_eq_of_lt (by omega) h
theorem pw_mul_mod (a : Int) (k n : Nat) (m : Int) : pw a k m * pw a n m % m = pw a (k + n) m := by
  unfold pw; rw [← Int.mul_emod, Int.pow_add]
theorem pw_even (a : Int) (n : Nat) (m : Int) (h : n % 2 = 0) : pw a n m = pw a (n / 2) m * pw a (n / 2) m % m := by
  rw [pw_mul_mod]; congr 1; omega
theorem pw_odd (a : Int) (n : Nat) (m : Int) (h : n % 2 = 1) : pw a n m = pw a (n / 2) m * pw a (n / 2) m % m * a % m := by
  rw [pw_mul_mod]
  have e : n = n / 2 + n / 2 + 1 := by omega
  conv => lhs; rw [e]
  unfold pw
  rw [Int.pow_succ, emod_mul_left]
theorem loop_even (o a : Int) (n : Nat) (m : Int) (h : n % 2 = 0) : o * (a * a % m) ^ (n / 2) % m = o * a ^ n % m := by
  have e : a ^ n = (a * a) ^ (n / 2) := by
    rw [Int.mul_pow, ← Int.pow_add]; congr 1; omega
  rw [e, Int.mul_emod, pow_mod, ← Int.mul_emod]
theorem loop_odd (o a : Int) (n : Nat) (m : Int) (h : n % 2 = 1) : (o * a % m) * (a * a % m) ^ (n / 2) % m = o * a ^ n % m := by
  have e : a ^ n = a * (a * a) ^ (n / 2) := by
    rw [Int.mul_pow, ← Int.pow_add, Int.mul_comm, ← Int.pow_succ]; congr 1; omega
  rw [emod_mul_left, Int.mul_emod, pow_mod, ← Int.mul_emod, e, Int.mul_assoc]
theorem and_one (k : Nat) (h : k < 18446744073709551616) : bits BinOp.and IntKind.u64 (k : Int) 1 = (k : Int) % 2 :=
  Go.and_one_u64 _ (by omega) (by omega)
theorem ofInt_i64 (a : Nat) (ha : a < 9223372036854775808) : (BitVec.ofInt 64 (a : Int)).toNat = a := by
  rw [BitVec.ofInt_natCast, BitVec.toNat_ofNat]; exact Nat.mod_eq_of_lt (by omega)
theorem i64_and_nat (a b : Nat) (ha : a < 9223372036854775808) (hb : b < 9223372036854775808) : bits .and .i64 (a : Int) (b : Int) = ((a &&& b : Nat) : Int) := by
  have hx : a &&& b < 2 ^ 63 := Nat.and_lt_two_pow _ (by omega)
  show IntKind.i64.wrap ((BitVec.ofInt 64 (a : Int) &&& BitVec.ofInt 64 (b : Int)).toNat : Int) = _
  rw [BitVec.toNat_and, ofInt_i64 a ha, ofInt_i64 b hb, IntKind.wrap_i64]
  omega
theorem and_one_i64 (k : Nat) (h : k < 9223372036854775808) : bits BinOp.and IntKind.i64 (k : Int) 1 = (k : Int) % 2 := by
  have h1 := i64_and_nat k 1 h (by omega)
  rw [Nat.and_one_is_mod] at h1
  exact h1.trans (by omega)
def qq : Nat := 1073741789
def qm2 : Nat := 1073741787
theorem qq_lt : qq < 18446744073709551616 := by unfold qq; omega
theorem qm2_lt : qm2 < 18446744073709551616 := by unfold qm2; omega
def isEl (n : Int) : Bool := decide (0 < n ∧ n < 2147483579 ∧ pw n qq 2147483579 = 1)
def isNc (n : Int) : Bool := isEl n && decide (n ≠ 1)
def poly (l : List Int) (x : Int) : Int := l.foldr (fun c acc => sadd (smul acc x) c) 0
def rpA (x : Int) : Nat → Int
  | 0 => 1
  | j + 1 => rpA x j * x % 1073741789
def rpS (l : List Int) (x : Int) : Nat → Int
  | 0 => 0
  | j + 1 => (rpS l x j + l.getD j 0 * rpA x j) % 1073741789
theorem rpA_bd (x : Int) (j : Nat) : 0 ≤ rpA x j ∧ rpA x j < 1073741789 := by
  cases j with
  | zero => unfold rpA; omega
  | succ j => unfold rpA; omega
def lagUp (ids : List Int) (k : Nat) : Nat → Int
  | 0 => 1
  | j + 1 => if j = k then lagUp ids k j else smul (lagUp ids k j) (IntKind.u64.wrap (ids.getD j 0))
def lagDown (ids : List Int) (k : Nat) : Nat → Int
  | 0 => 1
  | j + 1 => if j = k then lagDown ids k j else smul (lagDown ids k j) (ssub (IntKind.u64.wrap (ids.getD j 0)) (IntKind.u64.wrap (ids.getD k 0)))
def lagrange (ids : List Int) (k : Nat) : Int := smul (lagUp ids k ids.length) (pw (lagDown ids k ids.length) qm2 1073741789)
theorem lagUp_bd (ids : List Int) (k j : Nat) : 0 ≤ lagUp ids k j ∧ lagUp ids k j < 1073741789 := by
  induction j with
  | zero => unfold lagUp; omega
  | succ j ih =>
    unfold lagUp
    split
    · exact ih
    · exact smul_bd _ _
theorem lagDown_bd (ids : List Int) (k j : Nat) : 0 ≤ lagDown ids k j ∧ lagDown ids k j < 1073741789 := by
  induction j with
  | zero => unfold lagDown; omega
  | succ j ih =>
    unfold lagDown
    split
    · exact ih
    · exact smul_bd _ _
theorem lagUp_skip (ids : List Int) (k : Nat) : lagUp ids k (k + 1) = lagUp ids k k := by rw [lagUp, if_pos rfl]
theorem lagDown_skip (ids : List Int) (k : Nat) : lagDown ids k (k + 1) = lagDown ids k k := by rw [lagDown, if_pos rfl]
theorem lagUp_step (ids : List Int) {k j : Nat} (h : j ≠ k) : lagUp ids k (j + 1) = smul (lagUp ids k j) (IntKind.u64.wrap (ids.getD j 0)) := by rw [lagUp, if_neg h]
theorem lagDown_step (ids : List Int) {k j : Nat} (h : j ≠ k) : lagDown ids k (j + 1) = smul (lagDown ids k j) (ssub (IntKind.u64.wrap (ids.getD j 0)) (IntKind.u64.wrap (ids.getD k 0))) := by rw [lagDown, if_neg h]
def wtS (ids : List Int) (k : Nat) : Nat → Int
  | 0 => 1
  | j + 1 => if j = k then wtS ids k j else wtS ids k j * ids.getD j 0 % 1073741789 * pw ((ids.getD j 0 + 1073741789 - ids.getD k 0) % 1073741789) qm2 1073741789 % 1073741789
theorem wtS_bd (ids : List Int) (k j : Nat) : 0 ≤ wtS ids k j ∧ wtS ids k j < 1073741789 := by
  induction j with
  | zero => unfold wtS; omega
  | succ j ih =>
    unfold wtS
    split
    · exact ih
    · omega
theorem wtS_skip (ids : List Int) (k : Nat) : wtS ids k (k + 1) = wtS ids k k := by rw [wtS, if_pos rfl]
theorem wtS_step (ids : List Int) {k j : Nat} (h : j ≠ k) : wtS ids k (j + 1) = wtS ids k j * ids.getD j 0 % 1073741789 * pw ((ids.getD j 0 + 1073741789 - ids.getD k 0) % 1073741789) qm2 1073741789 % 1073741789 := by rw [wtS, if_neg h]
def weight (ids : List Int) (k : Nat) : Int := wtS ids k ids.length
def sumS (first : Int) (l : List Int) : Nat → Int
  | 0 => first
  | j + 1 => sadd (sumS first l j) (l.getD j 0)
def prodE (first : Int) (l : List Int) : Nat → Int
  | 0 => first
  | j + 1 => emul (prodE first l j) (l.getD j 0)
def mix (h b : Int) : Int := IntKind.u64.wrap (bits BinOp.xor IntKind.u64 h b * 1099511628211)
def dv (n : Int) : Nat → Int
  | 0 => n
  | j + 1 => dv n j / 256
def numH (h n : Int) : Nat → Int
  | 0 => h
  | j + 1 => mix (numH h n j) (dv n j % 256)
def numsH (h : Int) (l : List Int) : Nat → Int
  | 0 => h
  | k + 1 => numH (numsH h l k) (l.getD k 0) 8
def byteAt (s : ByteArray) (k : Nat) : Int := if h : k < s.size then (s[k].toNat : Int) else 0
def textH (h : Int) (s : ByteArray) : Nat → Int
  | 0 => h
  | k + 1 => mix (textH h s k) (byteAt s k)
theorem textH_step (h : Int) (s : ByteArray) {k : Nat} (hk : k < s.size) : textH h s (k + 1) = mix (textH h s k) (s[k].toNat : Int) := by
  show mix (textH h s k) (byteAt s k) = _
  rw [byteAt, dif_pos hk]
def fnv0 : Int := 14695981039346656037
def hashI (tag : Int) (s : ByteArray) (l : List Int) : Int := textH (numsH (mix fnv0 tag) l l.length) s s.size % 1073741789
theorem dv_bd (n : Int) (j : Nat) (h0 : 0 ≤ n) (h1 : n < 18446744073709551616) : 0 ≤ dv n j ∧ dv n j < 18446744073709551616 := by
  induction j with
  | zero => exact ⟨h0, h1⟩
  | succ j ih => unfold dv; omega
theorem mix_nonneg (h b : Int) : 0 ≤ mix h b := u64_nonneg _
theorem numH_nonneg (h n : Int) (j : Nat) (h0 : 0 ≤ h) : 0 ≤ numH h n j := by
  cases j with
  | zero => exact h0
  | succ j => exact mix_nonneg _ _
theorem numsH_nonneg (h : Int) (l : List Int) (j : Nat) (h0 : 0 ≤ h) : 0 ≤ numsH h l j := by
  induction j with
  | zero => exact h0
  | succ j ih => exact numH_nonneg _ _ _ ih
theorem textH_nonneg (h : Int) (s : ByteArray) (j : Nat) (h0 : 0 ≤ h) : 0 ≤ textH h s j := by
  cases j with
  | zero => exact h0
  | succ j => exact mix_nonneg _ _
theorem hashI_bd (tag : Int) (s : ByteArray) (l : List Int) : 0 ≤ hashI tag s l ∧ hashI tag s l < 1073741789 := by unfold hashI; omega
def numBytes (n : Int) : Nat → List Int
  | 0 => []
  | j + 1 => numBytes n j ++ [dv n j % 256]
def numsBytes (l : List Int) : Nat → List Int
  | 0 => []
  | k + 1 => numsBytes l k ++ numBytes (l.getD k 0) 8
def textBytes (s : ByteArray) : List Int := s.data.toList.map fun b => (b.toNat : Int)
def mixL (h : Int) (l : List Int) : Nat → Int
  | 0 => h
  | k + 1 => mix (mixL h l k) (l.getD k 0)
theorem numBytes_length (n : Int) (j : Nat) : (numBytes n j).length = j := by
  induction j with
  | zero => rfl
  | succ j ih => simp [numBytes, ih]
theorem numsBytes_length (l : List Int) (k : Nat) : (numsBytes l k).length = 8 * k := by
  induction k with
  | zero => rfl
  | succ k ih => simp [numsBytes, ih, numBytes_length]; omega
theorem dv_eq (n : Int) (j : Nat) : dv n j = n / 2 ^ (8 * j) := by
  induction j with
  | zero => simp [dv]
  | succ j ih =>
    rw [dv, ih, Int.ediv_ediv_of_nonneg (Int.pow_nonneg (by omega))]
    congr 1
    rw [show 8 * (j + 1) = 8 * j + 8 by omega, Int.pow_add, show (2 : Int) ^ 8 = 256 from rfl]
def allBytes (tag : Int) (s : ByteArray) (l : List Int) : List Int := tag :: (numsBytes l l.length ++ textBytes s)
theorem textBytes_length (s : ByteArray) : (textBytes s).length = s.size := by simp [textBytes]
theorem allBytes_length (tag : Int) (s : ByteArray) (l : List Int) : (allBytes tag s l).length = 1 + 8 * l.length + s.size := by
  simp [allBytes, numsBytes_length, textBytes_length]; omega
theorem numBytes_bd (n : Int) (j : Nat) : ∀ x ∈ numBytes n j, 0 ≤ x ∧ x < 256 := by
  induction j with
  | zero => simp [numBytes]
  | succ j ih =>
    intro x hx
    simp only [numBytes, List.mem_append, List.mem_singleton] at hx
    rcases hx with hx | rfl
    · exact ih x hx
    · omega
theorem numsBytes_bd (l : List Int) (k : Nat) : ∀ x ∈ numsBytes l k, 0 ≤ x ∧ x < 256 := by
  induction k with
  | zero => simp [numsBytes]
  | succ k ih =>
    intro x hx
    simp only [numsBytes, List.mem_append] at hx
    rcases hx with hx | hx
    · exact ih x hx
    · exact numBytes_bd _ _ x hx
theorem textBytes_bd (s : ByteArray) : ∀ x ∈ textBytes s, 0 ≤ x ∧ x < 256 := by
  intro x hx
  simp only [textBytes, List.mem_map] at hx
  obtain ⟨b, _, rfl⟩ := hx
  have := b.toNat_lt
  omega
theorem allBytes_bd {tag : Int} (s : ByteArray) (l : List Int) (h0 : 0 ≤ tag) (h1 : tag < 256) : ∀ x ∈ allBytes tag s l, 0 ≤ x ∧ x < 256 := by
  intro x hx
  simp only [allBytes, List.mem_cons, List.mem_append] at hx
  rcases hx with rfl | hx | hx
  · exact ⟨h0, h1⟩
  · exact numsBytes_bd _ _ x hx
  · exact textBytes_bd _ x hx
theorem mixL_fold (h : Int) (l : List Int) (k : Nat) (hk : k ≤ l.length) : mixL h l k = (l.take k).foldl mix h := by
  induction k with
  | zero => simp [mixL]
  | succ k ih =>
    have hlt : k < l.length := by omega
    rw [mixL, ih (by omega), List.take_succ_eq_append_getElem hlt, List.foldl_append, List.getD_eq_getElem?_getD, List.getElem?_eq_getElem hlt]
    rfl
theorem numH_fold (h n : Int) (j : Nat) : numH h n j = (numBytes n j).foldl mix h := by
  induction j with
  | zero => rfl
  | succ j ih => rw [numH, numBytes, List.foldl_append, ih]; rfl
theorem numsH_fold (h : Int) (l : List Int) (k : Nat) : numsH h l k = (numsBytes l k).foldl mix h := by
  induction k with
  | zero => rfl
  | succ k ih => rw [numsH, numsBytes, List.foldl_append, ih, numH_fold]
theorem textH_fold (h : Int) (s : ByteArray) (k : Nat) (hk : k ≤ s.size) : textH h s k = ((textBytes s).take k).foldl mix h := by
  induction k with
  | zero => simp [textH]
  | succ k ih =>
    have hlt : k < s.size := by omega
    have hlt' : k < (textBytes s).length := by rw [textBytes_length]; omega
    rw [textH_step _ _ hlt, ih (by omega), List.take_succ_eq_append_getElem hlt', List.foldl_append]
    simp [textBytes]
    rfl
theorem mixL_hash (tag : Int) (s : ByteArray) (l : List Int) : mixL fnv0 (allBytes tag s l) (allBytes tag s l).length % 1073741789 = hashI tag s l := by
  unfold hashI
  rw [mixL_fold _ _ _ (Nat.le_refl _), List.take_length, allBytes, List.foldl_cons, List.foldl_append, textH_fold _ _ _ (Nat.le_refl _), numsH_fold]
  congr 1
  rw [List.take_of_length_le (by rw [textBytes_length]; exact Nat.le_refl _)]
theorem mixL_nonneg (h : Int) (l : List Int) (j : Nat) (h0 : 0 ≤ h) : 0 ≤ mixL h l j := by
  cases j with
  | zero => exact h0
  | succ j => exact mix_nonneg _ _
def combAt (ids shares : List Int) (k : Nat) : Int :=
  if ids.getD k 0 < 1 ∨ 9 < ids.getD k 0 then 5 else if 0 < k ∧ ids.getD k 0 ≤ ids.getD (k - 1) 0 then 6 else if 1073741789 ≤ shares.getD k 0 then 2 else 0
def combErr (ids shares : List Int) : Nat → Int
  | 0 => 0
  | k + 1 => if combErr ids shares k = 0 then combAt ids shares k else combErr ids shares k
def combE (ids shares : List Int) : Int := if ids.length = shares.length ∧ 0 < ids.length ∧ ids.length ≤ 9 then combErr ids shares ids.length else 12
def partsC (ids shares : List Int) (k : Nat) : List Int := (List.range k).map fun i => smul (shares.getD i 0) (lagrange ids i)
def combA (ids shares : List Int) : Int := if combE ids shares = 0 then sumS 0 (partsC ids shares ids.length) ids.length else 0
def rsum (ids shares : List Int) : Nat → Int
  | 0 => 0
  | k + 1 => (rsum ids shares k + shares.getD k 0 * weight ids k) % 1073741789
def combR (ids shares : List Int) : Int := if combE ids shares = 0 then rsum ids shares ids.length else 0
end Go.Proofs.Ytpfpokjaeffbjab.Pl
namespace Go.Proofs.Ytpfpokjaeffbjab.Fld
open Go.RowKit Go.Proofs.Ytpfpokjaeffbjab.Pl
set_option maxHeartbeats 400000 in
theorem stimes (a b : Int) (w : World) :
    Calls Try.prog 37 #[.int .u64 a, .int .u64 b] w fun e w' => e = .returned (.int .u64 (smul a b)) ∧ w = w' := by
  go_enter Try.func37, Try.ntmps37
  go_wp2
  go_ret
  exact ⟨by rw [smul, ← Int.tmod_eq_emod_of_nonneg (u64_nonneg _)]; rfl, rfl⟩
set_option maxHeartbeats 400000 in
theorem splus (a b : Int) (w : World) :
    Calls Try.prog 36 #[.int .u64 a, .int .u64 b] w fun e w' => e = .returned (.int .u64 (sadd a b)) ∧ w = w' := by
  go_enter Try.func36, Try.ntmps36
  go_wp2
  go_ret
  exact ⟨by rw [sadd, ← Int.tmod_eq_emod_of_nonneg (u64_nonneg _)]; rfl, rfl⟩
set_option maxHeartbeats 400000 in
theorem sminus (a b : Int) (w : World) :
    Calls Try.prog 109 #[.int .u64 a, .int .u64 b] w fun e w' => e = .returned (.int .u64 (ssub a b)) ∧ w = w' := by
  go_enter Try.func109, Try.ntmps109
  go_wp2
  go_ret
  exact ⟨by rw [ssub, ← Int.tmod_eq_emod_of_nonneg (u64_nonneg _)]; rfl, rfl⟩
set_option maxHeartbeats 400000 in
theorem etimes (a b : Int) (w : World) :
    Calls Try.prog 46 #[.int .u64 a, .int .u64 b] w fun e w' => e = .returned (.int .u64 (emul a b)) ∧ w = w' := by
  go_enter Try.func46, Try.ntmps46
  go_wp2
  go_ret
  exact ⟨by rw [emul, ← Int.tmod_eq_emod_of_nonneg (u64_nonneg _)]; rfl, rfl⟩
set_option maxHeartbeats 400000 in
theorem small (n : Int) (w : World) :
    Calls Try.prog 70 #[.int .i64 n] w fun e w' => e = .returned (.int .u64 (IntKind.u64.wrap n)) ∧ w = w' := by
  go_enter Try.func70, Try.ntmps70
  go_wp2
  go_ret
  exact ⟨rfl, rfl⟩
set_option maxHeartbeats 400000 in
theorem scalarOf (n : Int) (w : World) :
    Calls Try.prog 30 #[.int .u64 n] w fun e w' => e = .returned (.tuple #[.int .u64 n, .bool (decide (n < 1073741789))]) ∧ w = w' := by
  go_enter Try.func30, Try.ntmps30
  go_wp2
  go_ret2
  exact ⟨rfl, rfl⟩
def Inv (m a : Int) (n0 : Nat) (x n o : Value) : Prop :=
  ∃ (x' o' : Int) (n' : Nat), x = .int .u64 x' ∧ n = .int .u64 n' ∧ o = .int .u64 o' ∧ 0 ≤ x' ∧ x' < m ∧ 0 ≤ o' ∧ o' < m ∧ n' < 18446744073709551616 ∧ o' * x' ^ n' % m = a ^ n0 % m
set_option maxHeartbeats 400000 in
theorem power (a : Int) (n : Nat) (w : World) (ha : 0 ≤ a) (ha' : a < 2147483579) (hn : n < 18446744073709551616) :
    Calls Try.prog 48 #[.int .u64 a, .int .u64 n] w fun e w' => e = .returned (.int .u64 (pw a n 2147483579)) ∧ w = w' := by
  go_enter Try.func48, Try.ntmps48
  go_wp2_with fail
  go_loop [0, 1, 5] (fun x y o => Inv 2147483579 a n x y o) (fun _ y _ => (intOf y).toNat)
  case atStart => exact ⟨a, 1, n, rfl, rfl, rfl, ha, ha', by omega, by omega, hn, by rw [Int.one_mul]⟩
  case round =>
    obtain ⟨x, o, k, rfl, rfl, rfl, hx, hx', ho, ho', hk, hinv⟩ := hrel
    have hI := Lib.hid hinv
    clear hinv
    have e1 : emul o x = o * x % 2147483579 := emul_eq ho (by omega) hx (by omega)
    have e2 : emul x x = x * x % 2147483579 := emul_eq hx (by omega) hx (by omega)
    have E1 := Lib.hid e1
    have E2 := Lib.hid e2
    clear e1 e2
    have b1 := emul_bd o x
    have b2 := emul_bd x x
    by_cases h0 : 0 < k
    · by_cases h2 : k % 2 = 1
      · have hb : (bits BinOp.and IntKind.u64 (k : Int) 1 == 1) = true := by rw [and_one k hk, beq_iff_eq]; omega
        have H2 := Lib.hid h2
        clear h2
        go_wp2_with fail
        refine (etimes _ _ _).mono ?_
        rintro e w' ⟨rfl, rfl⟩
        go_wp2_with fail
        refine (etimes _ _ _).mono ?_
        rintro e w' ⟨rfl, rfl⟩
        go_wp2_with fail
        go_round
        case rel =>
          refine ⟨emul x x, emul o x, k / 2, rfl, by go_num, rfl, b2.1, b2.2, b1.1, b1.2, by omega, ?_⟩
          rw [E1.out, E2.out, loop_odd _ _ _ _ H2.out]
          exact hI.out
        case measure => simp [intOf]; omega
      · have hb : (bits BinOp.and IntKind.u64 (k : Int) 1 == 1) = false := by rw [and_one k hk, beq_eq_false_iff_ne]; omega
        have H2 := Lib.hid (show k % 2 = 0 by omega)
        clear h2
        go_wp2_with fail
        refine (etimes _ _ _).mono ?_
        rintro e w' ⟨rfl, rfl⟩
        go_wp2_with fail
        go_round
        case rel =>
          refine ⟨emul x x, o, k / 2, rfl, by go_num, rfl, b2.1, b2.2, ho, ho', by omega, ?_⟩
          rw [E2.out, loop_even _ _ _ _ H2.out]
          exact hI.out
        case measure => simp [intOf]; omega
    · obtain rfl : k = 0 := by omega
      go_wp2_with fail
      go_ret
      have h := hI.out
      rw [Int.pow_zero, Int.mul_one, Int.emod_eq_of_lt ho ho'] at h
      refine ⟨?_, rfl⟩
      rw [pw, ← h]
      rfl
def InvI (m a : Int) (n0 : Nat) (x n o : Value) : Prop :=
  ∃ (x' o' : Int) (n' : Nat), x = .int .u64 x' ∧ n = .int .i64 n' ∧ o = .int .u64 o' ∧ 0 ≤ x' ∧ x' < m ∧ 0 ≤ o' ∧ o' < m ∧ n' < 9223372036854775808 ∧ o' * x' ^ n' % m = a ^ n0 % m
theorem qm2_ltI : qm2 < 9223372036854775808 := by unfold qm2; omega
set_option maxHeartbeats 400000 in
theorem inverse (a : Int) (w : World) (ha : 0 ≤ a) (ha' : a < 1073741789) :
    Calls Try.prog 110 #[.int .u64 a] w fun e w' => e = .returned (.int .u64 (pw a qm2 1073741789)) ∧ w = w' := by
  go_enter Try.func110, Try.ntmps110
  go_wp2_with fail
  go_loop [0, 4, 3] (fun x y o => InvI 1073741789 a qm2 x y o) (fun _ y _ => (intOf y).toNat)
  case atStart => exact ⟨a, 1, qm2, rfl, rfl, rfl, ha, ha', by omega, by omega, qm2_ltI, by rw [Int.one_mul]⟩
  case round =>
    obtain ⟨x, o, k, rfl, rfl, rfl, hx, hx', ho, ho', hk, hinv⟩ := hrel
    have hI := Lib.hid hinv
    clear hinv
    have e1 : smul o x = o * x % 1073741789 := smul_eq ho (by omega) hx (by omega)
    have e2 : smul x x = x * x % 1073741789 := smul_eq hx (by omega) hx (by omega)
    have E1 := Lib.hid e1
    have E2 := Lib.hid e2
    clear e1 e2
    have b1 := smul_bd o x
    have b2 := smul_bd x x
    by_cases h0 : 0 < k
    · by_cases h2 : k % 2 = 1
      · have hb : (bits BinOp.and IntKind.i64 (k : Int) 1 == 1) = true := by rw [and_one_i64 k hk, beq_iff_eq]; omega
        have H2 := Lib.hid h2
        clear h2
        go_wp2_with fail
        refine (stimes _ _ _).mono ?_
        rintro e w' ⟨rfl, rfl⟩
        go_wp2_with fail
        refine (stimes _ _ _).mono ?_
        rintro e w' ⟨rfl, rfl⟩
        go_wp2_with fail
        go_round
        case rel =>
          refine ⟨smul x x, smul o x, k / 2, rfl, by go_num, rfl, b2.1, b2.2, b1.1, b1.2, by omega, ?_⟩
          rw [E1.out, E2.out, loop_odd _ _ _ _ H2.out]
          exact hI.out
        case measure => simp [intOf]; omega
      · have hb : (bits BinOp.and IntKind.i64 (k : Int) 1 == 1) = false := by rw [and_one_i64 k hk, beq_eq_false_iff_ne]; omega
        have H2 := Lib.hid (show k % 2 = 0 by omega)
        clear h2
        go_wp2_with fail
        refine (stimes _ _ _).mono ?_
        rintro e w' ⟨rfl, rfl⟩
        go_wp2_with fail
        go_round
        case rel =>
          refine ⟨smul x x, o, k / 2, rfl, by go_num, rfl, b2.1, b2.2, ho, ho', by omega, ?_⟩
          rw [E2.out, loop_even _ _ _ _ H2.out]
          exact hI.out
        case measure => simp [intOf]; omega
    · obtain rfl : k = 0 := by omega
      go_wp2_with fail
      go_ret
      have h := hI.out
      rw [Int.pow_zero, Int.mul_one, Int.emod_eq_of_lt ho ho'] at h
      refine ⟨?_, rfl⟩
      rw [pw, ← h]
      rfl
set_option maxHeartbeats 400000 in
theorem base (n : Nat) (w : World) (hn : n < 18446744073709551616) :
    Calls Try.prog 31 #[.int .u64 n] w fun e w' => e = .returned (.int .u64 (pw 4 n 2147483579)) ∧ w = w' := by
  go_enter Try.func31, Try.ntmps31
  go_wp2_with fail
  refine (power 4 n _ (by omega) (by omega) hn).mono ?_
  rintro e w' ⟨rfl, rfl⟩
  go_wp2_with fail
  go_ret
  exact ⟨rfl, rfl⟩
theorem isEl_in {n : Int} (h1 : 0 < n) (h2 : n < 2147483579) : isEl n = (pw n qq 2147483579 == 1) := by
  unfold isEl; rw [Bool.eq_iff_iff, decide_eq_true_iff, beq_iff_eq]; exact ⟨fun h => h.2.2, fun h => ⟨h1, h2, h⟩⟩
theorem isEl_out {n : Int} (h : ¬ (0 < n ∧ n < 2147483579)) : isEl n = false := by
  unfold isEl; rw [decide_eq_false_iff_not]; rintro ⟨a, b, c⟩; exact h ⟨a, b⟩
set_option maxHeartbeats 400000 in
theorem elementOf (n : Int) (w : World) (h0 : 0 ≤ n) :
    Calls Try.prog 61 #[.int .u64 n] w fun e w' => e = .returned (.tuple #[.int .u64 n, .bool (isEl n)]) ∧ w = w' := by
  by_cases h : 0 < n ∧ n < 2147483579
  · obtain ⟨h1, h2⟩ := h
    rw [isEl_in h1 h2]
    go_enter Try.func61, Try.ntmps61
    go_wp2_with fail
    refine (power n qq w h0 h2 qq_lt).mono ?_
    rintro e w' ⟨rfl, rfl⟩
    go_wp2_with fail
    go_ret2
    exact ⟨rfl, rfl⟩
  · rw [isEl_out h]
    by_cases h1 : 0 < n
    all_goals
      go_enter Try.func61, Try.ntmps61
      go_wp2_with fail
      go_ret2
      exact ⟨rfl, rfl⟩
set_option maxHeartbeats 400000 in
theorem refPower (m : Int) (a : Int) (hm : 1 < m) (hm' : m < 4294967296) (ha : 0 ≤ a) (ha' : a < 4294967296) (k : Nat) : ∀ (n : Nat) (w : World), n < 2 ^ k → n < 18446744073709551616 →
    Calls Try.prog 55 #[.int .u64 a, .int .u64 n, .int .u64 m] w fun e w' => e = .returned (.int .u64 (pw a n m)) ∧ w = w' := by
  induction k with
  | zero =>
    intro n w hk hn
    obtain rfl : n = 0 := by simpa using hk
    go_enter Try.func55, Try.ntmps55
    go_wp2_with fail
    go_ret
    exact ⟨by rw [pw_zero _ hm]; rfl, rfl⟩
  | succ k ih =>
    intro n w hk hn
    by_cases h0 : n = 0
    · subst h0
      go_enter Try.func55, Try.ntmps55
      go_wp2_with fail
      go_ret
      exact ⟨by rw [pw_zero _ hm]; rfl, rfl⟩
    · have hk2 : n / 2 < 2 ^ k := by rw [Nat.pow_succ] at hk; omega
      have b1 := pw_bd a (n / 2) (m := m) (by omega)
      have b2 := mul_lt b1.1 b1.2 b1.1 b1.2
      have b3 : m * m < 4294967296 * 4294967296 := (mul_lt (by omega : 0 ≤ m) hm' (by omega) hm').2
      have b4 : pw a (n / 2) m * pw a (n / 2) m < 18446744073709551616 := by omega
      have b5 : 0 ≤ pw a (n / 2) m * pw a (n / 2) m := b2.1
      have c1 : 0 ≤ pw a (n / 2) m * pw a (n / 2) m % m := Int.emod_nonneg _ (by omega)
      have c2 : pw a (n / 2) m * pw a (n / 2) m % m < m := Int.emod_lt_of_pos _ (by omega)
      have c3 := mul_lt c1 (Int.lt_trans c2 hm') ha ha'
      have c4 := c3.1
      have c5 : pw a (n / 2) m * pw a (n / 2) m % m * a < 18446744073709551616 := by omega
      have hn0 : 0 < n := by omega
      have IH := Lib.hid ih
      clear ih b1 b2 b3 c3 h0 hk
      by_cases h2 : n % 2 = 1
      · have hE := Lib.hid (pw_odd a n m h2)
        go_enter Try.func55, Try.ntmps55
        go_wp2_with fail
        refine (IH.out (n / 2) w hk2 (by omega)).mono ?_
        rintro e w' ⟨rfl, rfl⟩
        go_wp2_with fail
        go_ret
        exact ⟨by rw [hE.out]; rfl, rfl⟩
      · have hE := Lib.hid (pw_even a n m (by omega))
        have h3 : n % 2 = 0 := by omega
        go_enter Try.func55, Try.ntmps55
        go_wp2_with fail
        refine (IH.out (n / 2) w hk2 (by omega)).mono ?_
        rintro e w' ⟨rfl, rfl⟩
        go_wp2_with fail
        go_ret
        exact ⟨by rw [hE.out]; rfl, rfl⟩
theorem refPow (m a : Int) (n : Nat) (w : World) (hm : 1 < m) (hm' : m < 4294967296) (ha : 0 ≤ a) (ha' : a < 4294967296) (hn : n < 18446744073709551616) :
    Calls Try.prog 55 #[.int .u64 a, .int .u64 n, .int .u64 m] w fun e w' => e = .returned (.int .u64 (pw a n m)) ∧ w = w' :=
  refPower m a hm hm' ha ha' 64 n w (by omega) hn
set_option maxHeartbeats 400000 in
theorem refBase (n : Nat) (w : World) (hn : n < 18446744073709551616) :
    Calls Try.prog 58 #[.int .u64 n] w fun e w' => e = .returned (.int .u64 (pw 4 n 2147483579)) ∧ w = w' := by
  go_enter Try.func58, Try.ntmps58
  go_wp2_with fail
  refine (refPow 2147483579 4 n _ (by omega) (by omega) (by omega) (by omega) hn).mono ?_
  rintro e w' ⟨rfl, rfl⟩
  go_wp2_with fail
  go_ret
  exact ⟨rfl, rfl⟩
set_option maxHeartbeats 400000 in
theorem refElement (n : Int) (w : World) (h0 : 0 ≤ n) :
    Calls Try.prog 99 #[.int .u64 n] w fun e w' => e = .returned (.bool (isEl n)) ∧ w = w' := by
  by_cases h : 0 < n ∧ n < 2147483579
  · obtain ⟨h1, h2⟩ := h
    rw [isEl_in h1 h2]
    have h3 : 1 ≤ n := by omega
    go_enter Try.func99, Try.ntmps99
    go_wp2_with fail
    refine (refPow 2147483579 n qq w (by omega) (by omega) h0 (by omega) qq_lt).mono ?_
    rintro e w' ⟨rfl, rfl⟩
    go_wp2_with fail
    go_ret
    exact ⟨rfl, rfl⟩
  · rw [isEl_out h]
    by_cases h1 : 1 ≤ n
    all_goals
      go_enter Try.func99, Try.ntmps99
      go_wp2_with fail
      go_ret
      exact ⟨rfl, rfl⟩
set_option maxHeartbeats 400000 in
theorem refNonce (n : Int) (w : World) (h0 : 0 ≤ n) :
    Calls Try.prog 100 #[.int .u64 n] w fun e w' => e = .returned (.bool (isNc n)) ∧ w = w' := by
  by_cases h : n = 1
  · subst h
    rw [show isNc 1 = false from by simp [isNc]]
    go_enter Try.func100, Try.ntmps100
    go_wp2_with fail
    go_ret
    exact ⟨rfl, rfl⟩
  · rw [show isNc n = isEl n from by simp [isNc, h]]
    have h1 : (n != 1) = true := by rw [bne_iff_ne]; exact h
    go_enter Try.func100, Try.ntmps100
    go_wp2_with fail
    refine (refElement n w h0).mono ?_
    rintro e w' ⟨rfl, rfl⟩
    go_wp2_with fail
    go_ret
    exact ⟨rfl, rfl⟩
def kscalar (n : Int) : Int := 1 + n % 1073741788
def pickI (c n : Int) : Int := (if c < 0 then -(c + 1) else c) % n
end Go.Proofs.Ytpfpokjaeffbjab.Fld
namespace Go.Proofs.Ytpfpokjaeffbjab.Mem
open Go.RowKit Go.Proofs.Ytpfpokjaeffbjab.Pl
def Nums (k : IntKind) (w : World) (B : Nat) (v : Value) (l : List Int) : Prop :=
  ∃ (A : Option Addr) (c : Nat), v = .slice A l.length c ∧ l.length ≤ c ∧
    (0 < l.length → ∃ b off, A = some ⟨b, off, none⟩ ∧ b < B ∧ ∀ i, i < l.length → w.cell? ⟨b, off + i, none⟩ = some (.int k (l.getD i 0)))
theorem quiet_add_left {P : Program} {f : FuncId} {args : Array Value} {w : World} {a n : Nat} {v : Value}
    (h : Calls P f args (w.drewN (a + n)) fun e w' => e = .returned v ∧ w.drewN (a + n) = w') :
    Calls P f args (w.drewN (a + n)) fun e w'' => e = .returned v ∧ ∃ m, w'' = w.drewN (a + m) :=
  h.mono fun _ _ ⟨he, hm⟩ => ⟨he, n, hm.symm⟩
theorem below_drewN {B : Nat} {a w : World} (h : Below B a w) (n : Nat) : Below B a (w.drewN n) := ⟨h.os, h.tape, h.output, h.size, h.block⟩
theorem Nums.below {k : IntKind} {w w' : World} {B : Nat} {v : Value} {l : List Int} (h : Nums k w B v l) (hb : Below B w w') : Nums k w' B v l := by
  obtain ⟨A, c, rfl, hc, h⟩ := h
  refine ⟨A, c, rfl, hc, fun hl => ?_⟩
  obtain ⟨b, off, rfl, hB, h⟩ := h hl
  exact ⟨b, off, rfl, hB, fun i hi => (hb.cell (p := ⟨b, off + i, none⟩) hB).trans (h i hi)⟩
theorem Nums.more {k : IntKind} {w : World} {B B' : Nat} {v : Value} {l : List Int} (h : Nums k w B v l) (hb : B ≤ B') : Nums k w B' v l := by
  obtain ⟨A, c, rfl, hc, h⟩ := h
  refine ⟨A, c, rfl, hc, fun hl => ?_⟩
  obtain ⟨b, off, rfl, hB, h⟩ := h hl
  exact ⟨b, off, rfl, by omega, h⟩
theorem Nums.later {k : IntKind} {w w' : World} {v : Value} {l : List Int} (h : Nums k w w.heap.size v l) (hb : Below w.heap.size w w') : Nums k w' w'.heap.size v l :=
  (h.below hb).more hb.size
theorem Nums.own {k : IntKind} {w : World} {base : Nat} {e : TypeId} {v : Value} {l : List Int} (h : w.ownsRow base e 1 v l.length (l.map (Value.int k))) : Nums k w w.heap.size v l := by
  rcases h.2 with ⟨rfl, h0⟩ | ⟨g, cap, cur, rfl, hbg, hg, hnc, hcm, hcs, htake⟩
  · exact ⟨none, 0, by rw [h0], by omega, fun hp => absurd hp (by omega)⟩
  · refine ⟨some ⟨g, 0, none⟩, cap, rfl, hnc, fun hp => ⟨g, 0, rfl, (Array.getElem?_eq_some_iff.1 hg).1, fun i hi => ?_⟩⟩
    have h1 := h.cellAt i (by omega)
    rw [Nat.zero_add, h1, List.getElem?_map, List.getElem?_eq_getElem hi, List.getD_eq_getElem?_getD, List.getElem?_eq_getElem hi]
    rfl
theorem Nums.lit {k : IntKind} (w : World) (l : List Int) (t : TypeId) : Nums k (w.alloc (.cells (l.map (Value.int k)).toArray t)) (w.heap.size + 1) (.slice (some ⟨w.heap.size, 0, none⟩) l.length l.length) l := by
  refine ⟨some ⟨w.heap.size, 0, none⟩, l.length, rfl, Nat.le_refl _, fun hp => ⟨w.heap.size, 0, rfl, by omega, fun i hi => ?_⟩⟩
  rw [Nat.zero_add, World.cell?_alloc_new, List.getElem?_toArray, List.getElem?_map, List.getElem?_eq_getElem hi, List.getD_eq_getElem?_getD, List.getElem?_eq_getElem hi]
  rfl
def Blk (w : World) (g : Nat) (t : TypeId) (cs : Array Value) : Prop := w.heap[g]? = some (.cells cs t (0, 0))
theorem Blk.lt {w : World} {g : Nat} {t : TypeId} {cs : Array Value} (h : Blk w g t cs) : g < w.heap.size := (Array.getElem?_eq_some_iff.1 h).1
theorem Blk.cell {w : World} {g : Nat} {t : TypeId} {cs : Array Value} (h : Blk w g t cs) (i : Nat) : w.cell? ⟨g, i, none⟩ = cs[i]? := cell_of_row w g i cs t (0, 0) h
theorem Blk.frozen {w : World} {g : Nat} {t : TypeId} {cs : Array Value} (h : Blk w g t cs) (i : Nat) : w.frozen? ⟨g, i, none⟩ = false := by
  unfold Blk at h
  simp [World.frozen?, h]
theorem Blk.new (w : World) (t : TypeId) (cs : Array Value) : Blk (w.alloc (.cells cs t)) w.heap.size t cs := heap_alloc_new w _
theorem Blk.drewN {w : World} {g : Nat} {t : TypeId} {cs : Array Value} (h : Blk w g t cs) (n : Nat) : Blk (w.drewN n) g t cs := h
theorem Blk.alloc {w : World} {g : Nat} {t : TypeId} {cs : Array Value} (h : Blk w g t cs) (o : Obj) : Blk (w.alloc o) g t cs := (Below.heap_alloc w o g h.lt).trans h
theorem Blk.set_ {w : World} {g : Nat} {t : TypeId} {cs : Array Value} (h : Blk w g t cs) (i : Nat) (u : Value) : Blk (w.setCell ⟨g, i, none⟩ u) g t (cs.setIfInBounds i u) := by
  unfold Blk at h ⊢
  simp [World.setCell, Array.getElem?_modify, h]
theorem Blk.far {w : World} {g : Nat} {t : TypeId} {cs : Array Value} (h : Blk w g t cs) {p : Addr} (hp : g ≠ p.block) (u : Value) : Blk (w.setCell p u) g t cs := (Below.heap_setCell w p u g hp).trans h
theorem Blk.below {w w' : World} {g : Nat} {t : TypeId} {cs : Array Value} {B : Nat} (h : Blk w g t cs) (hb : Below B w w') (hg : g < B) : Blk w' g t cs := (hb.block g hg).trans h
theorem Blk.grown {w w' : World} {g : Nat} {t : TypeId} {cs : Array Value} {row : Option Nat} (h : Blk w g t cs) (hb : w.grownBy w' row) (hg : some g ≠ row) : Blk w' g t cs := (hb.block g h.lt hg).trans h
theorem Blk.ne_ {w : World} {g g' : Nat} {t t' : TypeId} {cs cs' : Array Value} (h : Blk w g t cs) (h' : Blk w g' t' cs') (hne : t ≠ t') : g ≠ g' := by
  rintro rfl
  unfold Blk at h h'
  rw [h] at h'
  injection h' with h'
  injection h' with _ ht
  exact hne ht
theorem own_ne_blk {w : World} {base : Nat} {e : TypeId} {size n : Nat} {v : Value} {xs : List Value} {g : Nat} {t : TypeId} {cs : Array Value} (h : w.ownsRow base e size v n xs) (hg : Blk w g t cs) (hne : e ≠ t) : some g ≠ v.ownBlock := by
  rcases h.2 with ⟨rfl, _⟩ | ⟨g', cap, cur, rfl, _, hh, _⟩
  · simp [Value.ownBlock]
  · intro he
    have : g = g' := by simpa [Value.ownBlock] using he
    subst this
    exact Blk.ne_ (t := e) hh hg hne rfl
theorem own_below {w w' : World} {base : Nat} {e : TypeId} {size n : Nat} {v : Value} {xs : List Value} {B : Nat} (h : w.ownsRow base e size v n xs) (hb : Below B w w') (hB : w.heap.size ≤ B) : w'.ownsRow base e size v n xs := by
  obtain ⟨h1, h2⟩ := h
  refine ⟨h1, ?_⟩
  rcases h2 with h2 | ⟨g, cap, cur, hv, hg, hh, r⟩
  · exact .inl h2
  · have hlt : g < w.heap.size := (Array.getElem?_eq_some_iff.1 hh).1
    exact .inr ⟨g, cap, cur, hv, hg, (hb.block g (by omega)).trans hh, r⟩
theorem own_far {w : World} {base : Nat} {e : TypeId} {size n : Nat} {v : Value} {xs : List Value} {g : Nat} {t : TypeId} {cs : Array Value} (h : w.ownsRow base e size v n xs) (hg : Blk w g t cs) (hne : e ≠ t) (i : Nat) (u : Value) : (w.setCell ⟨g, i, none⟩ u).ownsRow base e size v n xs := by
  have hn := own_ne_blk h hg hne
  obtain ⟨h1, h2⟩ := h
  refine ⟨h1, ?_⟩
  rcases h2 with h2 | ⟨g', cap, cur, hv, hb, hh, r⟩
  · exact .inl h2
  · subst hv
    have hne' : g' ≠ g := fun e => hn (by rw [e]; rfl)
    exact .inr ⟨g', cap, cur, rfl, hb, (Below.heap_setCell w ⟨g, i, none⟩ u g' hne').trans hh, r⟩
theorem own_shape {w : World} {base : Nat} {e : TypeId} {size n : Nat} {v : Value} {xs : List Value} (h : w.ownsRow base e size v n xs) : ∃ A c, v = .slice A n c := by
  rcases h.2 with ⟨rfl, rfl⟩ | ⟨g, cap, cur, rfl, _⟩
  · exact ⟨none, 0, rfl⟩
  · exact ⟨some ⟨g, 0, none⟩, cap, rfl⟩
theorem blk_grown {w w' : World} {base : Nat} {e t : TypeId} {size n : Nat} {v : Value} {xs : List Value} {g : Nat} {cs cs2 : Array Value} (h2 : Blk w g t cs2) (h : w.ownsRow base e size v n xs) (hne : e ≠ t)
    (hg : (w.alloc (.cells cs e)).grownBy w' v.ownBlock) : Blk w' g t cs2 :=
  (h2.alloc _).grown hg (own_ne_blk h h2 hne)
theorem below_grown {W w w' : World} {base : Nat} {e : TypeId} {size n : Nat} {v : Value} {xs : List Value} {cs : Array Value} (hb : Below base W w) (h : w.ownsRow base e size v n xs) (hB : base ≤ w.heap.size)
    (hg : (w.alloc (.cells cs e)).grownBy w' v.ownBlock) : Below base W w' :=
  (hb.alloc hB _).grown hg (by simp; omega) fun k hk => (h.lt k hk).1
def Row (w : World) (B size : Nat) (v : Value) (n : Nat) (xs : List Value) : Prop :=
  xs.length = n * size ∧ ∃ (A : Option Addr) (c : Nat), v = .slice A n c ∧ n ≤ c ∧
    (0 < n → ∃ b off, A = some ⟨b, off, none⟩ ∧ b < B ∧ ∀ j u, xs[j]? = some u → w.cell? ⟨b, off + j, none⟩ = some u)
theorem Nums.row {k : IntKind} {w : World} {B : Nat} {v : Value} {l : List Int} (h : Nums k w B v l) : Row w B 1 v l.length (l.map (Value.int k)) := by
  obtain ⟨A, c, rfl, hc, h⟩ := h
  refine ⟨by simp, A, c, rfl, hc, fun hp => ?_⟩
  obtain ⟨b, off, rfl, hB, h⟩ := h hp
  refine ⟨b, off, rfl, hB, fun j u hu => ?_⟩
  rw [List.getElem?_map] at hu
  cases hj : l[j]? with
  | none => rw [hj] at hu; cases hu
  | some x =>
    rw [hj] at hu
    obtain ⟨hlt, _⟩ := List.getElem?_eq_some_iff.1 hj
    rw [h j hlt, List.getD_eq_getElem?_getD, hj]
    exact hu
theorem Row.below {w w' : World} {B size : Nat} {v : Value} {n : Nat} {xs : List Value} (h : Row w B size v n xs) (hb : Below B w w') : Row w' B size v n xs := by
  obtain ⟨h1, A, c, rfl, hc, h⟩ := h
  refine ⟨h1, A, c, rfl, hc, fun hl => ?_⟩
  obtain ⟨b, off, rfl, hB, h⟩ := h hl
  exact ⟨b, off, rfl, hB, fun j u hu => (hb.cell (p := ⟨b, off + j, none⟩) hB).trans (h j u hu)⟩
theorem Row.more {w : World} {B B' size : Nat} {v : Value} {n : Nat} {xs : List Value} (h : Row w B size v n xs) (hb : B ≤ B') : Row w B' size v n xs := by
  obtain ⟨h1, A, c, rfl, hc, h⟩ := h
  refine ⟨h1, A, c, rfl, hc, fun hl => ?_⟩
  obtain ⟨b, off, rfl, hB, h⟩ := h hl
  exact ⟨b, off, rfl, by omega, h⟩
theorem Row.later {w w' : World} {size : Nat} {v : Value} {n : Nat} {xs : List Value} (h : Row w w.heap.size size v n xs) (hb : Below w.heap.size w w') : Row w' w'.heap.size size v n xs := (h.below hb).more hb.size
theorem Row.own {w : World} {base : Nat} {e : TypeId} {size : Nat} {v : Value} {n : Nat} {xs : List Value} (h : w.ownsRow base e size v n xs) : Row w w.heap.size size v n xs := by
  refine ⟨h.1, ?_⟩
  rcases h.2 with ⟨rfl, h0⟩ | ⟨g, cap, cur, rfl, hbg, hg, hnc, hcm, hcs, htake⟩
  · exact ⟨none, 0, by rw [h0], by omega, fun hp => absurd hp (by omega)⟩
  · refine ⟨some ⟨g, 0, none⟩, cap, rfl, hnc, fun hp => ⟨g, 0, rfl, (Array.getElem?_eq_some_iff.1 hg).1, fun j u hu => ?_⟩⟩
    have hlt : j < n * size := by have := h.1; have := (List.getElem?_eq_some_iff.1 hu).1; omega
    rw [Nat.zero_add, h.cellAt j hlt, hu]
theorem add_zero_off (b off j : Nat) : (⟨b, off, none⟩ : Addr).add j = ⟨b, off + j, none⟩ := by
  unfold Addr.add
  split
  · rename_i h; subst h; rfl
  · rfl
section
variable {P : Program} (w : World)
end
end Go.Proofs.Ytpfpokjaeffbjab.Mem
