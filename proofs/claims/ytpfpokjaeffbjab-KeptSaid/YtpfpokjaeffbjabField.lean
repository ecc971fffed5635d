/- The walks of package field and of the reference's arithmetic: what each call computes, as a plain function. -/
import Derived.Test.YtpfpokjaeffbjabRows
import Derived.Test.YtpfpokjaeffbjabPlain
import Derived.WalkKit
import Derived.WalkSpells
import Derived.WalkLawsBesides
import Derived.Lib.Hide
import Derived.Deep.QuietTactic
import Derived.BigQuiet
namespace Go.Proofs.Ytpfpokjaeffbjab.Fld
open Go.RowKit Go.Proofs.Ytpfpokjaeffbjab.Pl

set_option maxHeartbeats 400000 in
theorem stimes (a b : Int) (w : World) :
    Calls Try.prog 37 #[.int .u64 a, .int .u64 b] w fun e w' => e = .returned (.int .u64 (smul a b)) ∧ w = w' := by
  go_enter Try.func37, Try.ntmps37
  go_wp2
  go_ret
  exact ⟨by rw [smul, ← Int.tmod_eq_emod_of_nonneg (u64_nonneg _)]; rfl, rfl⟩

set_option maxHeartbeats 400000 in
theorem splus (a b : Int) (w : World) :
    Calls Try.prog 36 #[.int .u64 a, .int .u64 b] w fun e w' => e = .returned (.int .u64 (sadd a b)) ∧ w = w' := by
  go_enter Try.func36, Try.ntmps36
  go_wp2
  go_ret
  exact ⟨by rw [sadd, ← Int.tmod_eq_emod_of_nonneg (u64_nonneg _)]; rfl, rfl⟩

set_option maxHeartbeats 400000 in
theorem sminus (a b : Int) (w : World) :
    Calls Try.prog 109 #[.int .u64 a, .int .u64 b] w fun e w' => e = .returned (.int .u64 (ssub a b)) ∧ w = w' := by
  go_enter Try.func109, Try.ntmps109
  go_wp2
  go_ret
  exact ⟨by rw [ssub, ← Int.tmod_eq_emod_of_nonneg (u64_nonneg _)]; rfl, rfl⟩

set_option maxHeartbeats 400000 in
theorem etimes (a b : Int) (w : World) :
    Calls Try.prog 46 #[.int .u64 a, .int .u64 b] w fun e w' => e = .returned (.int .u64 (emul a b)) ∧ w = w' := by
  go_enter Try.func46, Try.ntmps46
  go_wp2
  go_ret
  exact ⟨by rw [emul, ← Int.tmod_eq_emod_of_nonneg (u64_nonneg _)]; rfl, rfl⟩

set_option maxHeartbeats 400000 in
theorem small (n : Int) (w : World) :
    Calls Try.prog 70 #[.int .i64 n] w fun e w' => e = .returned (.int .u64 (IntKind.u64.wrap n)) ∧ w = w' := by
  go_enter Try.func70, Try.ntmps70
  go_wp2
  go_ret
  exact ⟨rfl, rfl⟩

set_option maxHeartbeats 400000 in
theorem scalarOf (n : Int) (w : World) :
    Calls Try.prog 30 #[.int .u64 n] w fun e w' => e = .returned (.tuple #[.int .u64 n, .bool (decide (n < 1073741789))]) ∧ w = w' := by
  go_enter Try.func30, Try.ntmps30
  go_wp2
  go_ret2
  exact ⟨rfl, rfl⟩

theorem scalarYes (n : Int) (w : World) (h : n < 1073741789) :
    Calls Try.prog 30 #[.int .u64 n] w fun e w' => e = .returned (.tuple #[.int .u64 n, .bool true]) ∧ w = w' :=
  (scalarOf n w).mono fun _ _ hh => ⟨by rw [hh.1, decide_eq_true h], hh.2⟩
theorem scalarNo (n : Int) (w : World) (h : ¬ n < 1073741789) :
    Calls Try.prog 30 #[.int .u64 n] w fun e w' => e = .returned (.tuple #[.int .u64 n, .bool false]) ∧ w = w' :=
  (scalarOf n w).mono fun _ _ hh => ⟨by rw [hh.1, decide_eq_false h], hh.2⟩
/-- What holds at the head of the powers' loops: 'out' times x to the n is what is sought. -/
def Inv (m a : Int) (n0 : Nat) (x n o : Value) : Prop :=
  ∃ (x' o' : Int) (n' : Nat), x = .int .u64 x' ∧ n = .int .u64 n' ∧ o = .int .u64 o' ∧ 0 ≤ x' ∧ x' < m ∧ 0 ≤ o' ∧ o' < m ∧ n' < 18446744073709551616 ∧ o' * x' ^ n' % m = a ^ n0 % m

set_option maxHeartbeats 400000 in
theorem power (a : Int) (n : Nat) (w : World) (ha : 0 ≤ a) (ha' : a < 2147483579) (hn : n < 18446744073709551616) :
    Calls Try.prog 48 #[.int .u64 a, .int .u64 n] w fun e w' => e = .returned (.int .u64 (pw a n 2147483579)) ∧ w = w' := by
  go_enter Try.func48, Try.ntmps48
  go_wp2_with fail
  go_loop [0, 1, 5] (fun x y o => Inv 2147483579 a n x y o) (fun _ y _ => (intOf y).toNat)
  case atStart => exact ⟨a, 1, n, rfl, rfl, rfl, ha, ha', by omega, by omega, hn, by rw [Int.one_mul]⟩
  case round =>
    obtain ⟨x, o, k, rfl, rfl, rfl, hx, hx', ho, ho', hk, hinv⟩ := hrel
    have hI := Lib.hid hinv
    clear hinv
    have e1 : emul o x = o * x % 2147483579 := emul_eq ho (by omega) hx (by omega)
    have e2 : emul x x = x * x % 2147483579 := emul_eq hx (by omega) hx (by omega)
    have E1 := Lib.hid e1
    have E2 := Lib.hid e2
    clear e1 e2
    have b1 := emul_bd o x
    have b2 := emul_bd x x
    by_cases h0 : 0 < k
    · by_cases h2 : k % 2 = 1
      · have hb : (bits BinOp.and IntKind.u64 (k : Int) 1 == 1) = true := by rw [and_one k hk, beq_iff_eq]; omega
        have H2 := Lib.hid h2
        clear h2
        go_wp2_with fail
        refine (etimes _ _ _).mono ?_
        rintro e w' ⟨rfl, rfl⟩
        go_wp2_with fail
        refine (etimes _ _ _).mono ?_
        rintro e w' ⟨rfl, rfl⟩
        go_wp2_with fail
        go_round
        case rel =>
          refine ⟨emul x x, emul o x, k / 2, rfl, by go_num, rfl, b2.1, b2.2, b1.1, b1.2, by omega, ?_⟩
          rw [E1.out, E2.out, loop_odd _ _ _ _ H2.out]
          exact hI.out
        case measure => simp [intOf]; omega
      · have hb : (bits BinOp.and IntKind.u64 (k : Int) 1 == 1) = false := by rw [and_one k hk, beq_eq_false_iff_ne]; omega
        have H2 := Lib.hid (show k % 2 = 0 by omega)
        clear h2
        go_wp2_with fail
        refine (etimes _ _ _).mono ?_
        rintro e w' ⟨rfl, rfl⟩
        go_wp2_with fail
        go_round
        case rel =>
          refine ⟨emul x x, o, k / 2, rfl, by go_num, rfl, b2.1, b2.2, ho, ho', by omega, ?_⟩
          rw [E2.out, loop_even _ _ _ _ H2.out]
          exact hI.out
        case measure => simp [intOf]; omega
    · obtain rfl : k = 0 := by omega
      go_wp2_with fail
      go_ret
      have h := hI.out
      rw [Int.pow_zero, Int.mul_one, Int.emod_eq_of_lt ho ho'] at h
      refine ⟨?_, rfl⟩
      rw [pw, ← h]
      rfl
def InvI (m a : Int) (n0 : Nat) (x n o : Value) : Prop :=
  ∃ (x' o' : Int) (n' : Nat), x = .int .u64 x' ∧ n = .int .i64 n' ∧ o = .int .u64 o' ∧ 0 ≤ x' ∧ x' < m ∧ 0 ≤ o' ∧ o' < m ∧ n' < 9223372036854775808 ∧ o' * x' ^ n' % m = a ^ n0 % m
theorem qm2_ltI : qm2 < 9223372036854775808 := by unfold qm2; omega

set_option maxHeartbeats 400000 in
theorem inverse (a : Int) (w : World) (ha : 0 ≤ a) (ha' : a < 1073741789) :
    Calls Try.prog 110 #[.int .u64 a] w fun e w' => e = .returned (.int .u64 (pw a qm2 1073741789)) ∧ w = w' := by
  go_enter Try.func110, Try.ntmps110
  go_wp2_with fail
  go_loop [0, 4, 3] (fun x y o => InvI 1073741789 a qm2 x y o) (fun _ y _ => (intOf y).toNat)
  case atStart => exact ⟨a, 1, qm2, rfl, rfl, rfl, ha, ha', by omega, by omega, qm2_ltI, by rw [Int.one_mul]⟩
  case round =>
    obtain ⟨x, o, k, rfl, rfl, rfl, hx, hx', ho, ho', hk, hinv⟩ := hrel
    have hI := Lib.hid hinv
    clear hinv
    have e1 : smul o x = o * x % 1073741789 := smul_eq ho (by omega) hx (by omega)
    have e2 : smul x x = x * x % 1073741789 := smul_eq hx (by omega) hx (by omega)
    have E1 := Lib.hid e1
    have E2 := Lib.hid e2
    clear e1 e2
    have b1 := smul_bd o x
    have b2 := smul_bd x x
    by_cases h0 : 0 < k
    · by_cases h2 : k % 2 = 1
      · have hb : (bits BinOp.and IntKind.i64 (k : Int) 1 == 1) = true := by rw [and_one_i64 k hk, beq_iff_eq]; omega
        have H2 := Lib.hid h2
        clear h2
        go_wp2_with fail
        refine (stimes _ _ _).mono ?_
        rintro e w' ⟨rfl, rfl⟩
        go_wp2_with fail
        refine (stimes _ _ _).mono ?_
        rintro e w' ⟨rfl, rfl⟩
        go_wp2_with fail
        go_round
        case rel =>
          refine ⟨smul x x, smul o x, k / 2, rfl, by go_num, rfl, b2.1, b2.2, b1.1, b1.2, by omega, ?_⟩
          rw [E1.out, E2.out, loop_odd _ _ _ _ H2.out]
          exact hI.out
        case measure => simp [intOf]; omega
      · have hb : (bits BinOp.and IntKind.i64 (k : Int) 1 == 1) = false := by rw [and_one_i64 k hk, beq_eq_false_iff_ne]; omega
        have H2 := Lib.hid (show k % 2 = 0 by omega)
        clear h2
        go_wp2_with fail
        refine (stimes _ _ _).mono ?_
        rintro e w' ⟨rfl, rfl⟩
        go_wp2_with fail
        go_round
        case rel =>
          refine ⟨smul x x, o, k / 2, rfl, by go_num, rfl, b2.1, b2.2, ho, ho', by omega, ?_⟩
          rw [E2.out, loop_even _ _ _ _ H2.out]
          exact hI.out
        case measure => simp [intOf]; omega
    · obtain rfl : k = 0 := by omega
      go_wp2_with fail
      go_ret
      have h := hI.out
      rw [Int.pow_zero, Int.mul_one, Int.emod_eq_of_lt ho ho'] at h
      refine ⟨?_, rfl⟩
      rw [pw, ← h]
      rfl

set_option maxHeartbeats 400000 in
theorem base (n : Nat) (w : World) (hn : n < 18446744073709551616) :
    Calls Try.prog 31 #[.int .u64 n] w fun e w' => e = .returned (.int .u64 (pw 4 n 2147483579)) ∧ w = w' := by
  go_enter Try.func31, Try.ntmps31
  go_wp2_with fail
  refine (power 4 n _ (by omega) (by omega) hn).mono ?_
  rintro e w' ⟨rfl, rfl⟩
  go_wp2_with fail
  go_ret
  exact ⟨rfl, rfl⟩

theorem isEl_in {n : Int} (h1 : 0 < n) (h2 : n < 2147483579) : isEl n = (pw n qq 2147483579 == 1) := by
  unfold isEl; rw [Bool.eq_iff_iff, decide_eq_true_iff, beq_iff_eq]; exact ⟨fun h => h.2.2, fun h => ⟨h1, h2, h⟩⟩
theorem isEl_out {n : Int} (h : ¬ (0 < n ∧ n < 2147483579)) : isEl n = false := by
  unfold isEl; rw [decide_eq_false_iff_not]; rintro ⟨a, b, c⟩; exact h ⟨a, b⟩

set_option maxHeartbeats 400000 in
theorem elementOf (n : Int) (w : World) (h0 : 0 ≤ n) :
    Calls Try.prog 61 #[.int .u64 n] w fun e w' => e = .returned (.tuple #[.int .u64 n, .bool (isEl n)]) ∧ w = w' := by
  by_cases h : 0 < n ∧ n < 2147483579
  · obtain ⟨h1, h2⟩ := h
    rw [isEl_in h1 h2]
    go_enter Try.func61, Try.ntmps61
    go_wp2_with fail
    refine (power n qq w h0 h2 qq_lt).mono ?_
    rintro e w' ⟨rfl, rfl⟩
    go_wp2_with fail
    go_ret2
    exact ⟨rfl, rfl⟩
  · rw [isEl_out h]
    by_cases h1 : 0 < n
    all_goals
      go_enter Try.func61, Try.ntmps61
      go_wp2_with fail
      go_ret2
      exact ⟨rfl, rfl⟩

set_option maxHeartbeats 400000 in
theorem refPower (m : Int) (a : Int) (hm : 1 < m) (hm' : m < 4294967296) (ha : 0 ≤ a) (ha' : a < 4294967296) (k : Nat) : ∀ (n : Nat) (w : World), n < 2 ^ k → n < 18446744073709551616 →
    Calls Try.prog 55 #[.int .u64 a, .int .u64 n, .int .u64 m] w fun e w' => e = .returned (.int .u64 (pw a n m)) ∧ w = w' := by
  induction k with
  | zero =>
    intro n w hk hn
    obtain rfl : n = 0 := by simpa using hk
    go_enter Try.func55, Try.ntmps55
    go_wp2_with fail
    go_ret
    exact ⟨by rw [pw_zero _ hm]; rfl, rfl⟩
  | succ k ih =>
    intro n w hk hn
    by_cases h0 : n = 0
    · subst h0
      go_enter Try.func55, Try.ntmps55
      go_wp2_with fail
      go_ret
      exact ⟨by rw [pw_zero _ hm]; rfl, rfl⟩
    · have hk2 : n / 2 < 2 ^ k := by rw [Nat.pow_succ] at hk; omega
      have b1 := pw_bd a (n / 2) (m := m) (by omega)
      have b2 := mul_lt b1.1 b1.2 b1.1 b1.2
      have b3 : m * m < 4294967296 * 4294967296 := (mul_lt (by omega : 0 ≤ m) hm' (by omega) hm').2
      have b4 : pw a (n / 2) m * pw a (n / 2) m < 18446744073709551616 := by omega
      have b5 : 0 ≤ pw a (n / 2) m * pw a (n / 2) m := b2.1
      have c1 : 0 ≤ pw a (n / 2) m * pw a (n / 2) m % m := Int.emod_nonneg _ (by omega)
      have c2 : pw a (n / 2) m * pw a (n / 2) m % m < m := Int.emod_lt_of_pos _ (by omega)
      have c3 := mul_lt c1 (Int.lt_trans c2 hm') ha ha'
      have c4 := c3.1
      have c5 : pw a (n / 2) m * pw a (n / 2) m % m * a < 18446744073709551616 := by omega
      have hn0 : 0 < n := by omega
      have IH := Lib.hid ih
      clear ih b1 b2 b3 c3 h0 hk
      by_cases h2 : n % 2 = 1
      · have hE := Lib.hid (pw_odd a n m h2)
        go_enter Try.func55, Try.ntmps55
        go_wp2_with fail
        refine (IH.out (n / 2) w hk2 (by omega)).mono ?_
        rintro e w' ⟨rfl, rfl⟩
        go_wp2_with fail
        go_ret
        exact ⟨by rw [hE.out]; rfl, rfl⟩
      · have hE := Lib.hid (pw_even a n m (by omega))
        have h3 : n % 2 = 0 := by omega
        go_enter Try.func55, Try.ntmps55
        go_wp2_with fail
        refine (IH.out (n / 2) w hk2 (by omega)).mono ?_
        rintro e w' ⟨rfl, rfl⟩
        go_wp2_with fail
        go_ret
        exact ⟨by rw [hE.out]; rfl, rfl⟩

theorem refPow (m a : Int) (n : Nat) (w : World) (hm : 1 < m) (hm' : m < 4294967296) (ha : 0 ≤ a) (ha' : a < 4294967296) (hn : n < 18446744073709551616) :
    Calls Try.prog 55 #[.int .u64 a, .int .u64 n, .int .u64 m] w fun e w' => e = .returned (.int .u64 (pw a n m)) ∧ w = w' :=
  refPower m a hm hm' ha ha' 64 n w (by omega) hn

set_option maxHeartbeats 400000 in
theorem refBase (n : Nat) (w : World) (hn : n < 18446744073709551616) :
    Calls Try.prog 58 #[.int .u64 n] w fun e w' => e = .returned (.int .u64 (pw 4 n 2147483579)) ∧ w = w' := by
  go_enter Try.func58, Try.ntmps58
  go_wp2_with fail
  refine (refPow 2147483579 4 n _ (by omega) (by omega) (by omega) (by omega) hn).mono ?_
  rintro e w' ⟨rfl, rfl⟩
  go_wp2_with fail
  go_ret
  exact ⟨rfl, rfl⟩

set_option maxHeartbeats 400000 in
theorem refElement (n : Int) (w : World) (h0 : 0 ≤ n) :
    Calls Try.prog 99 #[.int .u64 n] w fun e w' => e = .returned (.bool (isEl n)) ∧ w = w' := by
  by_cases h : 0 < n ∧ n < 2147483579
  · obtain ⟨h1, h2⟩ := h
    rw [isEl_in h1 h2]
    have h3 : 1 ≤ n := by omega
    go_enter Try.func99, Try.ntmps99
    go_wp2_with fail
    refine (refPow 2147483579 n qq w (by omega) (by omega) h0 (by omega) qq_lt).mono ?_
    rintro e w' ⟨rfl, rfl⟩
    go_wp2_with fail
    go_ret
    exact ⟨rfl, rfl⟩
  · rw [isEl_out h]
    by_cases h1 : 1 ≤ n
    all_goals
      go_enter Try.func99, Try.ntmps99
      go_wp2_with fail
      go_ret
      exact ⟨rfl, rfl⟩

set_option maxHeartbeats 400000 in
theorem refNonce (n : Int) (w : World) (h0 : 0 ≤ n) :
    Calls Try.prog 100 #[.int .u64 n] w fun e w' => e = .returned (.bool (isNc n)) ∧ w = w' := by
  by_cases h : n = 1
  · subst h
    rw [show isNc 1 = false from by simp [isNc]]
    go_enter Try.func100, Try.ntmps100
    go_wp2_with fail
    go_ret
    exact ⟨rfl, rfl⟩
  · rw [show isNc n = isEl n from by simp [isNc, h]]
    have h1 : (n != 1) = true := by rw [bne_iff_ne]; exact h
    go_enter Try.func100, Try.ntmps100
    go_wp2_with fail
    refine (refElement n w h0).mono ?_
    rintro e w' ⟨rfl, rfl⟩
    go_wp2_with fail
    go_ret
    exact ⟨rfl, rfl⟩

/-- thresholdkeep's 'scalar': a number from 1 to Q - 1. -/
def kscalar (n : Int) : Int := 1 + n % 1073741788
set_option maxHeartbeats 400000 in
theorem keepScalar (n : Int) (w : World) (h0 : 0 ≤ n) :
    Calls Try.prog 21 #[.int .u64 n] w fun e w' => e = .returned (.int .u64 (kscalar n)) ∧ w = w' := by
  go_enter Try.func21, Try.ntmps21
  go_wp2_with fail
  go_ret
  exact ⟨rfl, rfl⟩

set_option maxHeartbeats 400000 in
theorem keepPower (n : Nat) (w : World) (hn : n < 18446744073709551616) :
    Calls Try.prog 60 #[.int .u64 n] w fun e w' => e = .returned (.int .u64 (pw 4 n 2147483579)) ∧ w = w' := by
  go_enter Try.func60, Try.ntmps60
  go_wp2_with fail
  go_loop [4, 0, 3] (fun x y o => Inv 2147483579 4 n x y o) (fun _ y _ => (intOf y).toNat)
  case atStart => exact ⟨4, 1, n, rfl, rfl, rfl, by omega, by omega, by omega, by omega, hn, by rw [Int.one_mul]⟩
  case round =>
    obtain ⟨x, o, k, rfl, rfl, rfl, hx, hx', ho, ho', hk, hinv⟩ := hrel
    have hI := Lib.hid hinv
    clear hinv
    have b1 := mul_lt ho ho' hx hx'
    have b2 := mul_lt hx hx' hx hx'
    obtain ⟨b11, b12⟩ := b1
    obtain ⟨b21, b22⟩ := b2
    have c1 : o * x < 18446744073709551616 := by omega
    have c2 : x * x < 18446744073709551616 := by omega
    by_cases h0 : 0 < k
    · by_cases h2 : k % 2 = 1
      · have hb : (((k : Int) % 2) == 1) = true := by rw [beq_iff_eq]; omega
        have H2 := Lib.hid h2
        clear h2 b12 b22
        go_wp2_with fail
        go_round
        case rel =>
          refine ⟨x * x % 2147483579, o * x % 2147483579, k / 2, rfl, by go_num, rfl, by omega, by omega, by omega, by omega, by omega, ?_⟩
          rw [loop_odd _ _ _ _ H2.out]
          exact hI.out
        case measure => simp [intOf]; omega
      · have hb : (((k : Int) % 2) == 1) = false := by rw [beq_eq_false_iff_ne]; omega
        have H2 := Lib.hid (show k % 2 = 0 by omega)
        clear h2 b12 b22
        go_wp2_with fail
        go_round
        case rel =>
          refine ⟨x * x % 2147483579, o, k / 2, rfl, by go_num, rfl, by omega, by omega, ho, ho', by omega, ?_⟩
          rw [loop_even _ _ _ _ H2.out]
          exact hI.out
        case measure => simp [intOf]; omega
    · obtain rfl : k = 0 := by omega
      clear b12 b22
      go_wp2_with fail
      go_ret
      have h := hI.out
      rw [Int.pow_zero, Int.mul_one, Int.emod_eq_of_lt ho ho'] at h
      refine ⟨?_, rfl⟩
      rw [pw, ← h]
      rfl

/-- 'pick': which of n things a raw number speaks of. -/
def pickI (c n : Int) : Int := (if c < 0 then -(c + 1) else c) % n
theorem pickI_bd (c : Int) {n : Int} (h : 0 < n) : 0 ≤ pickI c n ∧ pickI c n < n := by
  unfold pickI; exact ⟨Int.emod_nonneg _ (by omega), Int.emod_lt_of_pos _ h⟩
set_option maxHeartbeats 400000 in
theorem keepPick (c n : Int) (w : World) (h0 : -9223372036854775808 ≤ c) (h1 : c ≤ 9223372036854775807) (hn : 0 < n) :
    Calls Try.prog 24 #[.int .i64 c, .int .i64 n] w fun e w' => e = .returned (.int .i64 (pickI c n)) ∧ w = w' := by
  by_cases h : c < 0
  · have he : pickI c n = -(c + 1) % n := by unfold pickI; rw [if_pos h]
    rw [he]
    clear he
    have hm : 0 ≤ -(c + 1) := by omega
    go_enter Try.func24, Try.ntmps24
    go_wp2_with fail
    go_ret
    exact ⟨by rw [← Int.tmod_eq_emod_of_nonneg hm, Int.neg_tmod]; rfl, rfl⟩
  · have he : pickI c n = c % n := by unfold pickI; rw [if_neg h]
    rw [he]
    clear he
    go_enter Try.func24, Try.ntmps24
    go_wp2_with fail
    go_ret
    exact ⟨rfl, rfl⟩
end Go.Proofs.Ytpfpokjaeffbjab.Fld
