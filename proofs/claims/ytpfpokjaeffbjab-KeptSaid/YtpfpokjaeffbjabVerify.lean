/- Challenge, Verify: the program's and the reference's. -/
import Derived.Test.YtpfpokjaeffbjabRefHash
import Derived.Deep.RegionHeld3
import Derived.Deep.DrawnRows
namespace Go.Proofs.Ytpfpokjaeffbjab.Ver
open Go.RowKit Go.Proofs.Ytpfpokjaeffbjab.Pl Go.Proofs.Ytpfpokjaeffbjab.Fld Go.Proofs.Ytpfpokjaeffbjab.Mem Go.Proofs.Ytpfpokjaeffbjab.Sls Go.Proofs.Ytpfpokjaeffbjab.Hsh Go.Proofs.Ytpfpokjaeffbjab.Rhs
attribute [local go_sem ↓] Go.wp_at_zero Go.wp_at_succ

/-- The challenge of a commitment, a key and a message. -/
def chal (r key : Int) (s : ByteArray) : Int := hashI 2 s [r, key]
theorem chal_bd (r key : Int) (s : ByteArray) : 0 ≤ chal r key s ∧ chal r key s < 1073741789 := hashI_bd _ _ _
theorem two_bd {r key : Int} (h0 : 0 ≤ r ∧ r < 18446744073709551616) (h1 : 0 ≤ key ∧ key < 18446744073709551616) :
    ∀ i, i < [r, key].length → 0 ≤ [r, key].getD i 0 ∧ [r, key].getD i 0 < 18446744073709551616 := by
  intro i hi
  match i, hi with
  | 0, _ => exact h0
  | 1, _ => exact h1

theorem baseI (z : Int) (w : World) (h0 : 0 ≤ z) (h1 : z < 18446744073709551616) :
    Calls Try.prog 31 #[.int .u64 z] w fun e w' => e = .returned (.int .u64 (pw 4 z.toNat 2147483579)) ∧ w = w' := by
  obtain ⟨n, rfl⟩ := Int.eq_ofNat_of_zero_le h0
  exact base n w (by omega)
theorem powerI (a z : Int) (w : World) (ha : 0 ≤ a) (ha' : a < 2147483579) (h0 : 0 ≤ z) (h1 : z < 18446744073709551616) :
    Calls Try.prog 48 #[.int .u64 a, .int .u64 z] w fun e w' => e = .returned (.int .u64 (pw a z.toNat 2147483579)) ∧ w = w' := by
  obtain ⟨n, rfl⟩ := Int.eq_ofNat_of_zero_le h0
  exact power a n w ha ha' (by omega)
theorem refBaseI (z : Int) (w : World) (h0 : 0 ≤ z) (h1 : z < 18446744073709551616) :
    Calls Try.prog 58 #[.int .u64 z] w fun e w' => e = .returned (.int .u64 (pw 4 z.toNat 2147483579)) ∧ w = w' := by
  obtain ⟨n, rfl⟩ := Int.eq_ofNat_of_zero_le h0
  exact refBase n w (by omega)
theorem refPowI (m a z : Int) (w : World) (hm : 1 < m) (hm' : m < 4294967296) (ha : 0 ≤ a) (ha' : a < 4294967296) (h0 : 0 ≤ z) (h1 : z < 18446744073709551616) :
    Calls Try.prog 55 #[.int .u64 a, .int .u64 z, .int .u64 m] w fun e w' => e = .returned (.int .u64 (pw a z.toNat m)) ∧ w = w' := by
  obtain ⟨n, rfl⟩ := Int.eq_ofNat_of_zero_le h0
  exact refPow m a n w hm hm' ha ha' (by omega)

set_option maxHeartbeats 400000 in
theorem challengeC (r key : Int) (s : ByteArray) (w : World) (hs : s.size ≤ 1000000) (h0 : 0 ≤ r ∧ r < 18446744073709551616) (h1 : 0 ≤ key ∧ key < 18446744073709551616) :
    Calls Try.prog 39 #[.int .u64 r, .int .u64 key, .string s] w fun e w' => e = .returned (.int .u64 (chal r key s)) ∧ Below w.heap.size w w' := by
  have HB := Lib.hid (two_bd h0 h1)
  have hn := Nums.lit (k := .u64) w [r, key] 25
  have HN := Lib.hid hn
  clear hn h0 h1
  go_enter Try.func39, Try.ntmps39
  go_wp2_with fail
  refine (hashC 2 s [r, key] _ _ (HN.out.more (by simp)) (by simp) hs (by omega) (by omega) HB.out).mono ?_
  rintro e w' ⟨rfl, x, rfl⟩
  go_wp2_with fail
  go_ret
  exact ⟨rfl, ((Below.refl _ _).alloc (Nat.le_refl _) _).alloc (by simp) _⟩

set_option maxHeartbeats 400000 in
theorem refChallengeC (r key : Int) (s : ByteArray) (w : World) (hs : s.size ≤ 1000000) (h0 : 0 ≤ r ∧ r < 18446744073709551616) (h1 : 0 ≤ key ∧ key < 18446744073709551616) :
    Calls Try.prog 54 #[.int .u64 r, .int .u64 key, .string s] w fun e w' => e = .returned (.int .u64 (chal r key s)) ∧ Below w.heap.size w w' := by
  have HB := Lib.hid (two_bd h0 h1)
  have hn := Nums.lit (k := .u64) w [r, key] 25
  have HN := Lib.hid hn
  clear hn h0 h1
  go_enter Try.func54, Try.ntmps54
  go_wp2_with fail
  refine (refHashC 2 s [r, key] _ _ (HN.out.more (by simp)) (by simp) hs (by omega) (by omega) HB.out).mono ?_
  rintro e w' ⟨rfl, hb⟩
  go_wp2_with fail
  go_ret
  exact ⟨rfl, ((Below.refl _ _).alloc (Nat.le_refl _) _).trans (hb.mono (by simp))⟩
/-- Does a signature hold? -/
def verS (key : Int) (s : ByteArray) (r z : Int) : Bool :=
  isEl key && isEl r && decide (z < 1073741789) && decide (key ≠ 1) && decide (r ≠ 1) && decide (pw 4 z.toNat 2147483579 = r * pw key (chal r key s).toNat 2147483579 % 2147483579)
theorem elIs (b : Bool) (n : Int) (w : World) (h0 : 0 ≤ n) (h : isEl n = b) :
    Calls Try.prog 61 #[.int .u64 n] w fun e w' => e = .returned (.tuple #[.int .u64 n, .bool b]) ∧ w = w' := by
  subst h; exact elementOf n w h0
theorem refElIs (b : Bool) (n : Int) (w : World) (h0 : 0 ≤ n) (h : isEl n = b) :
    Calls Try.prog 99 #[.int .u64 n] w fun e w' => e = .returned (.bool b) ∧ w = w' := by
  subst h; exact refElement n w h0
theorem scIs (b : Bool) (n : Int) (w : World) (h : decide (n < 1073741789) = b) :
    Calls Try.prog 30 #[.int .u64 n] w fun e w' => e = .returned (.tuple #[.int .u64 n, .bool b]) ∧ w = w' := by
  subst h; exact scalarOf n w
theorem isEl_bd {n : Int} (h : isEl n = true) : 0 < n ∧ n < 2147483579 := by
  unfold isEl at h; rw [decide_eq_true_iff] at h; exact ⟨h.1, h.2.1⟩
theorem smallIs (n : Int) (w : World) (h0 : 0 ≤ n) (h1 : n < 18446744073709551616) :
    Calls Try.prog 70 #[.int .i64 n] w fun e w' => e = .returned (.int .u64 n) ∧ w = w' :=
  (small n w).mono fun _ _ hh => ⟨by rw [hh.1, u64_id h0 h1], hh.2⟩
theorem below_box (w : World) (o : Obj) : Below w.heap.size w (w.alloc o) := (Below.refl _ _).alloc (Nat.le_refl _) _

set_option maxRecDepth 100000 in
set_option maxHeartbeats 1000000 in
theorem verifyC (key : Int) (s : ByteArray) (r z : Int) (w : World) (hs : s.size ≤ 1000000) (hk : 0 ≤ key ∧ key < 18446744073709551616) (hr : 0 ≤ r ∧ r < 18446744073709551616) (hz : 0 ≤ z ∧ z < 18446744073709551616) :
    Calls Try.prog 22 #[.int .u64 key, .string s, .agg #[.int .u64 r, .int .u64 z]] w fun e w' => e = .returned (.bool (verS key s r z)) ∧ Below w.heap.size w w' := by
  obtain ⟨b1, e1⟩ : ∃ b, isEl key = b := ⟨_, rfl⟩
  obtain ⟨b2, e2⟩ : ∃ b, isEl r = b := ⟨_, rfl⟩
  obtain ⟨b3, e3⟩ : ∃ b, decide (z < 1073741789) = b := ⟨_, rfl⟩
  have E1 := Lib.hid e1
  have E2 := Lib.hid e2
  have E3 := Lib.hid e3
  have hSpec : Hid (verS key s r z = (b1 && b2 && b3 && decide (key ≠ 1) && decide (r ≠ 1) && decide (pw 4 z.toNat 2147483579 = r * pw key (chal r key s).toNat 2147483579 % 2147483579))) := by
    show verS key s r z = _
    unfold verS
    rw [e1, e2, e3]
  clear e1 e2 e3
  cases b1
  case false =>
    have hF : Hid (verS key s r z = false) := by
      show verS key s r z = false
      rw [hSpec.out]; rfl
    cases b2 <;> cases b3
    all_goals
      go_enter Try.func22, Try.ntmps22
      go_wp2_with fail
      refine (elIs _ key _ hk.1 E1.out).mono ?_
      rintro e w' ⟨rfl, rfl⟩
      go_wp2_with fail
      refine (elIs _ r _ hr.1 E2.out).mono ?_
      rintro e w' ⟨rfl, rfl⟩
      go_wp2_with fail
      refine (scIs _ z _ E3.out).mono ?_
      rintro e w' ⟨rfl, rfl⟩
      go_wp2_with fail
      go_ret
      exact ⟨by rw [hF.out]; rfl, below_box _ _⟩
  cases b2
  case false =>
    have hF : Hid (verS key s r z = false) := by
      show verS key s r z = false
      rw [hSpec.out]; rfl
    cases b3
    all_goals
      go_enter Try.func22, Try.ntmps22
      go_wp2_with fail
      refine (elIs _ key _ hk.1 E1.out).mono ?_
      rintro e w' ⟨rfl, rfl⟩
      go_wp2_with fail
      refine (elIs _ r _ hr.1 E2.out).mono ?_
      rintro e w' ⟨rfl, rfl⟩
      go_wp2_with fail
      refine (scIs _ z _ E3.out).mono ?_
      rintro e w' ⟨rfl, rfl⟩
      go_wp2_with fail
      go_ret
      exact ⟨by rw [hF.out]; rfl, below_box _ _⟩
  cases b3
  case false =>
    have hF : Hid (verS key s r z = false) := by
      show verS key s r z = false
      rw [hSpec.out]; rfl
    go_enter Try.func22, Try.ntmps22
    go_wp2_with fail
    refine (elIs _ key _ hk.1 E1.out).mono ?_
    rintro e w' ⟨rfl, rfl⟩
    go_wp2_with fail
    refine (elIs _ r _ hr.1 E2.out).mono ?_
    rintro e w' ⟨rfl, rfl⟩
    go_wp2_with fail
    refine (scIs _ z _ E3.out).mono ?_
    rintro e w' ⟨rfl, rfl⟩
    go_wp2_with fail
    go_ret
    exact ⟨by rw [hF.out]; rfl, below_box _ _⟩
  by_cases c1 : key = 1
  case pos =>
    have hF : Hid (verS key s r z = false) := by
      show verS key s r z = false
      rw [hSpec.out, c1]; rfl
    have t1 : (key == 1) = true := by rw [beq_iff_eq]; exact c1
    clear c1
    go_enter Try.func22, Try.ntmps22
    go_wp2_with fail
    refine (elIs _ key _ hk.1 E1.out).mono ?_
    rintro e w' ⟨rfl, rfl⟩
    go_wp2_with fail
    refine (elIs _ r _ hr.1 E2.out).mono ?_
    rintro e w' ⟨rfl, rfl⟩
    go_wp2_with fail
    refine (scIs _ z _ E3.out).mono ?_
    rintro e w' ⟨rfl, rfl⟩
    go_wp2_with fail
    go_ret
    exact ⟨by rw [hF.out]; rfl, below_box _ _⟩
  have t1 : (key == 1) = false := by rw [beq_eq_false_iff_ne]; exact c1
  by_cases c2 : r = 1
  case pos =>
    have hF : Hid (verS key s r z = false) := by
      show verS key s r z = false
      rw [hSpec.out, c2]; simp
    have t2 : (r == 1) = true := by rw [beq_iff_eq]; exact c2
    clear c1 c2
    go_enter Try.func22, Try.ntmps22
    go_wp2_with fail
    refine (elIs _ key _ hk.1 E1.out).mono ?_
    rintro e w' ⟨rfl, rfl⟩
    go_wp2_with fail
    refine (elIs _ r _ hr.1 E2.out).mono ?_
    rintro e w' ⟨rfl, rfl⟩
    go_wp2_with fail
    refine (scIs _ z _ E3.out).mono ?_
    rintro e w' ⟨rfl, rfl⟩
    go_wp2_with fail
    go_ret
    exact ⟨by rw [hF.out]; rfl, below_box _ _⟩
  have t2 : (r == 1) = false := by rw [beq_eq_false_iff_ne]; exact c2
  have k1 := isEl_bd E1.out
  have k2 := isEl_bd E2.out
  have hc := chal_bd r key s
  have bp := pw_bd key (chal r key s).toNat (m := 2147483579) (by omega)
  have hT : Hid (verS key s r z = (pw 4 z.toNat 2147483579 == emul r (pw key (chal r key s).toNat 2147483579))) := by
    show verS key s r z = _
    rw [hSpec.out, emul_eq (by omega) (by omega) bp.1 (by omega)]
    simp [c1, c2]
    rw [Bool.eq_iff_iff, decide_eq_true_iff, beq_iff_eq]
  clear c1 c2 hSpec
  go_enter Try.func22, Try.ntmps22
  go_wp2_with fail
  refine (elIs _ key _ hk.1 E1.out).mono ?_
  rintro e w' ⟨rfl, rfl⟩
  go_wp2_with fail
  refine (elIs _ r _ hr.1 E2.out).mono ?_
  rintro e w' ⟨rfl, rfl⟩
  go_wp2_with fail
  refine (scIs _ z _ E3.out).mono ?_
  rintro e w' ⟨rfl, rfl⟩
  go_wp2_with fail
  refine (baseI z _ hz.1 hz.2).mono ?_
  rintro e w' ⟨rfl, rfl⟩
  go_wp2_with fail
  refine (challengeC r key s _ hs hr hk).mono ?_
  rintro e w1 ⟨rfl, hb⟩
  go_wp2_with fail
  refine (powerI key _ _ hk.1 k1.2 hc.1 (by omega)).mono ?_
  rintro e w' ⟨rfl, rfl⟩
  go_wp2_with fail
  refine (etimes _ _ _).mono ?_
  rintro e w' ⟨rfl, rfl⟩
  go_wp2_with fail
  go_ret
  exact ⟨by rw [hT.out]; rfl, (below_box _ _).trans (hb.mono (by simp))⟩

/-- THE REFERENCE -/
theorem refVer_key (s : ByteArray) (r z : Int) : verS 1 s r z = false := by unfold verS; simp
end Go.Proofs.Ytpfpokjaeffbjab.Ver
