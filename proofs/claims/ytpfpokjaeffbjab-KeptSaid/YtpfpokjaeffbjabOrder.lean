/- Q is a prime, and 4 has the order Q modulo P: two scalars with one power of 4 are one. -/
import Derived.Test.YtpfpokjaeffbjabPlain
namespace Go.Proofs.Ytpfpokjaeffbjab.Ord
open Go.Proofs.Ytpfpokjaeffbjab.Pl

/-- a to the n modulo m by halving, for the kernel to reckon; f is a bound on the halvings. -/
def fp (a m : Int) : Nat → Nat → Int
  | 0, _ => 1
  | f + 1, n => if n = 0 then 1 else if n % 2 = 1 then fp a m f (n / 2) * fp a m f (n / 2) % m * a % m else fp a m f (n / 2) * fp a m f (n / 2) % m
/-- The same, each half once. -/
def sq (odd : Bool) (a m h : Int) : Int := if odd then h * h % m * a % m else h * h % m
def fq (a m : Int) : List Bool → Int
  | [] => 1
  | b :: l => sq b a m (fq a m l)
/-- What a list of bits says, the lowest first. -/
def val : List Bool → Nat
  | [] => 0
  | b :: l => 2 * val l + (if b then 1 else 0)
theorem fq_eq (a : Int) {m : Int} (hm : 1 < m) (l : List Bool) : fq a m l = pw a (val l) m := by
  induction l with
  | nil => exact (pw_zero a hm).symm
  | cons b l ih =>
    cases b with
    | false =>
      rw [pw_even a (val (false :: l)) m (by simp [val])]
      have e : val (false :: l) / 2 = val l := by simp [val]
      rw [e, ← ih]
      rfl
    | true =>
      rw [pw_odd a (val (true :: l)) m (by simp [val])]
      have e : val (true :: l) / 2 = val l := by simp [val]; omega
      rw [e, ← ih]
      rfl
def qBits : List Bool := [true, false, true, true, true, false, true, true, true, true, true, true, true, true, true, true, true, true, true, true, true, true, true, true, true, true, true, true, true, true]
theorem four_qq : pw 4 qq 2147483579 = 1 := by
  have h : val qBits = qq := by decide
  have h2 : fq 4 2147483579 qBits = 1 := by kernel_rfl
  rw [← h, ← fq_eq 4 (by omega)]
  exact h2

theorem pw_add (a : Int) (k n : Nat) (m : Int) : pw a (k + n) m = pw a k m * pw a n m % m := (pw_mul_mod a k n m).symm
theorem pw_mulexp (a : Int) (k n : Nat) (m : Int) : pw a (k * n) m = pw (pw a k m) n m := by
  unfold pw
  rw [pow_mod, Int.pow_mul]
theorem pw_one (n : Nat) {m : Int} (h : 1 < m) : pw 1 n m = 1 := by unfold pw; rw [Int.one_pow]; exact Int.emod_eq_of_lt (by omega) h
theorem pw_pw_mod {a m : Int} {k : Nat} (hm : 1 < m) (h : pw a k m = 1) (n : Nat) : pw a n m = pw a (n % k) m := by
  conv => lhs; rw [← Nat.mod_add_div n k]
  rw [pw_add, pw_mulexp, h, pw_one _ hm, Int.mul_one]
  unfold pw
  exact Int.emod_emod_of_dvd _ (Int.dvd_refl m)
theorem pw_gcd {a m : Int} (hm : 1 < m) (j k : Nat) : pw a j m = 1 → pw a k m = 1 → pw a (Nat.gcd j k) m = 1 := by
  induction j, k using Nat.gcd.induction with
  | H0 n => intro _ h; rw [Nat.gcd_zero_left]; exact h
  | H1 j k hj ih =>
    intro h1 h2
    rw [Nat.gcd_rec]
    exact ih (by rw [← pw_pw_mod hm h1]; exact h2) h1

/-- None of the n numbers from lo on divides m. -/
def noDiv (m lo : Nat) : Nat → Bool
  | 0 => true
  | n + 1 => !(Nat.beq (m % (lo + n)) 0) && noDiv m lo n
def noDivs (m : Nat) : Nat → Bool
  | 0 => true
  | b + 1 => noDiv m (256 * b + 2) 256 && noDivs m b
theorem noDiv_spec (m lo n : Nat) (h : noDiv m lo n = true) {d : Nat} (h1 : lo ≤ d) (h2 : d < lo + n) : m % d ≠ 0 := by
  induction n with
  | zero => omega
  | succ n ih =>
    rw [noDiv, Bool.and_eq_true] at h
    rcases Nat.lt_or_ge d (lo + n) with hlt | hge
    · exact ih h.2 hlt
    · obtain rfl : d = lo + n := by omega
      intro h0
      rw [h0] at h
      simp at h
theorem noDivs_spec (m b : Nat) (h : noDivs m b = true) {d : Nat} (h1 : 2 ≤ d) (h2 : d < 256 * b + 2) : m % d ≠ 0 := by
  induction b with
  | zero => omega
  | succ b ih =>
    rw [noDivs, Bool.and_eq_true] at h
    rcases Nat.lt_or_ge d (256 * b + 2) with hlt | hge
    · exact ih h.2 hlt
    · exact noDiv_spec m _ 256 h.1 hge (by omega)
theorem qq_noDivs : noDivs qq 128 = true := by kernel_rfl
theorem qq_prime {d : Nat} (h : d ∣ qq) : d = 1 ∨ d = qq := by
  obtain ⟨e, he⟩ := h
  have hq : qq = 1073741789 := rfl
  have hd0 : 0 < d := by
    rcases Nat.eq_zero_or_pos d with h0 | h0
    · rw [h0, Nat.zero_mul] at he; omega
    · exact h0
  have he0 : 0 < e := by
    rcases Nat.eq_zero_or_pos e with h0 | h0
    · rw [h0, Nat.mul_zero] at he; omega
    · exact h0
  by_cases h1 : d = 1
  · exact .inl h1
  by_cases h2 : e = 1
  · right; rw [h2, Nat.mul_one] at he; exact he.symm
  exfalso
  rcases Nat.le_total d e with hle | hle
  · have hs : d < 256 * 128 + 2 := by
      rcases Nat.lt_or_ge d (256 * 128 + 2) with h | h
      · exact h
      · have := Nat.mul_le_mul h (Nat.le_trans h hle)
        omega
    exact noDivs_spec qq 128 qq_noDivs (by omega) hs (by rw [he]; exact Nat.mul_mod_right d e)
  · have hs : e < 256 * 128 + 2 := by
      rcases Nat.lt_or_ge e (256 * 128 + 2) with h | h
      · exact h
      · have := Nat.mul_le_mul (Nat.le_trans h hle) h
        omega
    exact noDivs_spec qq 128 qq_noDivs (by omega) hs (by rw [he]; exact Nat.mul_mod_left d e)
/-- No lower power of 4 is 1. -/
theorem four_order {n : Nat} (h0 : 0 < n) (h1 : n < qq) : pw 4 n 2147483579 ≠ 1 := by
  intro h
  have hg := pw_gcd (by omega) n qq h four_qq
  rcases qq_prime (Nat.gcd_dvd_right n qq) with h2 | h2
  · rw [h2] at hg
    have : pw 4 1 2147483579 = 4 := by decide
    omega
  · have := Nat.le_of_dvd h0 (Nat.gcd_dvd_left n qq)
    omega
theorem four_inj_le {a b : Nat} (hab : a ≤ b) (hb : b < qq) (h : pw 4 a 2147483579 = pw 4 b 2147483579) : a = b := by
  rcases Nat.lt_or_ge a b with hlt | hge
  · exfalso
    have h1 : pw 4 (b + (qq - a)) 2147483579 = 1 := by
      rw [pw_add, ← h, ← pw_add, show a + (qq - a) = qq by omega]
      exact four_qq
    rw [pw_pw_mod (by omega) four_qq, show b + (qq - a) = (b - a) + qq by omega, Nat.add_mod_right, Nat.mod_eq_of_lt (by omega)] at h1
    exact four_order (by omega) (by omega) h1
  · omega
/-- Two scalars with the same power of 4 are one. -/
theorem four_inj {a b : Nat} (ha : a < qq) (hb : b < qq) (h : pw 4 a 2147483579 = pw 4 b 2147483579) : a = b := by
  rcases Nat.le_total a b with hle | hle
  · exact four_inj_le hle hb h
  · exact (four_inj_le hle ha h.symm).symm
end Go.Proofs.Ytpfpokjaeffbjab.Ord
