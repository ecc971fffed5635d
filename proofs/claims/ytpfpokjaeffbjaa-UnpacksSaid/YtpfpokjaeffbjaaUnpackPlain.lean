/- What Unpack answers, in plain numbers. -/
import Derived.Test.YtpfpokjaeffbjaaComs
namespace Go.Proofs.Ytpfpokjaeffbjaa.Upl
open Go.RowKit Go.Proofs.Ytpfpokjaeffbjaa.Pl Go.Proofs.Ytpfpokjaeffbjaa.Mem

theorem byteAt_bd (s : ByteArray) (k : Nat) : 0 ≤ byteAt s k ∧ byteAt s k < 256 := by
  unfold byteAt
  split
  · have := (s[k]).toNat_lt; omega
  · omega
theorem byteAt_get (s : ByteArray) (k : Nat) (h : k < s.size) : ((s[k]'h).toNat : Int) = byteAt s k := by unfold byteAt; rw [dif_pos h]
/-- t is what is left of s behind k pieces of nine bytes. -/
def Tail (s : ByteArray) (k : Nat) (t : ByteArray) : Prop := t.size + 9 * k = s.size ∧ ∀ i, byteAt t i = byteAt s (9 * k + i)
theorem byteAt_extract (t : ByteArray) (i n : Nat) (h : n ≤ t.size) : byteAt (t.extract n t.size) i = byteAt t (n + i) := by
  unfold byteAt
  by_cases hi : n + i < t.size
  · rw [dif_pos hi, dif_pos (by simp; omega)]
    congr 1
    simp [ByteArray.getElem_extract]
  · rw [dif_neg hi, dif_neg (by simp; omega)]
theorem size_extract (t : ByteArray) (n : Nat) : (t.extract n t.size).size = t.size - n := by simp
theorem Tail.zero (s : ByteArray) : Tail s 0 s := ⟨by omega, fun i => by rw [Nat.mul_zero, Nat.zero_add]⟩
theorem Tail.next {s t : ByteArray} {k : Nat} (h : Tail s k t) (h9 : 9 ≤ t.size) : Tail s (k + 1) (t.extract 9 t.size) := by
  refine ⟨by rw [size_extract]; have := h.1; omega, fun i => ?_⟩
  rw [byteAt_extract t i 9 h9, h.2]
  congr 1; omega
/-- The first j bytes from place p on, as a number, the lowest first. -/
def num (s : ByteArray) (p : Nat) : Nat → Int
  | 0 => 0
  | j + 1 => num s p j + byteAt s (p + j) * 256 ^ j
theorem num_bd (s : ByteArray) (p j : Nat) : 0 ≤ num s p j ∧ num s p j < 256 ^ j := by
  induction j with
  | zero => unfold num; simp
  | succ j ih =>
    have hb := byteAt_bd s (p + j)
    have hp : (0 : Int) < 256 ^ j := Int.pow_pos (by omega)
    have h1 : 0 ≤ byteAt s (p + j) * 256 ^ j := Int.mul_nonneg hb.1 (by omega)
    have h2 : byteAt s (p + j) * 256 ^ j ≤ 255 * 256 ^ j := Int.mul_le_mul_of_nonneg_right (by omega) (by omega)
    rw [num, Int.pow_succ]
    omega
theorem num4 (s : ByteArray) (p : Nat) : num s p 4 = byteAt s p + 256 * (byteAt s (p + 1) + 256 * (byteAt s (p + 2) + 256 * byteAt s (p + 3))) := by
  simp only [num, Nat.add_zero]
  have e0 : (256 : Int) ^ 0 = 1 := rfl
  have e1 : (256 : Int) ^ 1 = 256 := rfl
  have e2 : (256 : Int) ^ 2 = 65536 := rfl
  have e3 : (256 : Int) ^ 3 = 16777216 := rfl
  rw [e0, e1, e2, e3]
  omega
theorem num4_bd (s : ByteArray) (p : Nat) : 0 ≤ num s p 4 ∧ num s p 4 < 4294967296 := by
  have := num_bd s p 4
  have e : (256 : Int) ^ 4 = 4294967296 := rfl
  rw [e] at this
  exact this
/-- 'x | b << 8j' where x has no more than j bytes. -/
theorem or_shl (x b : Int) (j : Nat) (hj : j < 4) (hx : 0 ≤ x ∧ x < 256 ^ j) (hb : 0 ≤ b ∧ b < 256) :
    bits BinOp.or IntKind.u64 x (b * 2 ^ (8 * j)) = x + b * 256 ^ j := by
  obtain ⟨X, rfl⟩ := Int.eq_ofNat_of_zero_le hx.1
  obtain ⟨B, rfl⟩ := Int.eq_ofNat_of_zero_le hb.1
  have hp : (2 : Int) ^ (8 * j) = 256 ^ j := by rw [Int.pow_mul]; rfl
  have hpn : (2 : Nat) ^ (8 * j) = 256 ^ j := by rw [Nat.pow_mul]
  have hc : (256 : Int) ^ j = ((256 ^ j : Nat) : Int) := by rw [Int.natCast_pow]; rfl
  have hX : X < 256 ^ j := by have := hx.2; rw [hc] at this; exact Int.ofNat_lt.1 this
  have hle : 256 ^ j ≤ 16777216 := by
    have : j = 0 ∨ j = 1 ∨ j = 2 ∨ j = 3 := by omega
    rcases this with rfl | rfl | rfl | rfl <;> decide
  have hm : B * 256 ^ j ≤ 255 * 16777216 := Nat.mul_le_mul (by omega) hle
  have e := bits_or_u64_nat X (B * 256 ^ j) (by omega) (by omega)
  have c : ((B * 256 ^ j : Nat) : Int) = (B : Int) * 256 ^ j := by rw [Int.natCast_mul, hc]
  rw [hp, ← c, e]
  have h2 : X ||| B * 256 ^ j = X + B * 256 ^ j := by
    rw [Nat.or_comm, Nat.mul_comm, ← hpn, ← Nat.two_pow_add_eq_or_of_lt (by rw [hpn]; exact hX)]
    omega
  rw [h2, Int.natCast_add]
theorem or_step (s : ByteArray) (p j : Nat) (hj : j < 4) : bits BinOp.or IntKind.u64 (num s p j) (IntKind.u64.wrap (byteAt s (p + j) * 2 ^ (8 * j))) = num s p (j + 1) := by
  have hb := byteAt_bd s (p + j)
  have hw : IntKind.u64.wrap (byteAt s (p + j) * 2 ^ (8 * j)) = byteAt s (p + j) * 2 ^ (8 * j) := by
    have : j = 0 ∨ j = 1 ∨ j = 2 ∨ j = 3 := by omega
    have e0 : (2 : Int) ^ (8 * 0) = 1 := rfl
    have e1 : (2 : Int) ^ (8 * 1) = 256 := rfl
    have e2 : (2 : Int) ^ (8 * 2) = 65536 := rfl
    have e3 : (2 : Int) ^ (8 * 3) = 16777216 := rfl
    rcases this with rfl | rfl | rfl | rfl
    · rw [e0]; exact u64_id (by omega) (by omega)
    · rw [e1]; exact u64_id (by omega) (by omega)
    · rw [e2]; exact u64_id (by omega) (by omega)
    · rw [e3]; exact u64_id (by omega) (by omega)
  rw [hw, or_shl _ _ j hj (num_bd s p j) hb, num]
/-- The k-th piece; what is wrong with it; with the first k. -/
def piece (s : ByteArray) (k : Nat) : Cm := ⟨byteAt s (9 * k), num s (9 * k + 1) 4, num s (9 * k + 5) 4⟩
def upAt (s : ByteArray) (k : Nat) : Int :=
  if (piece s k).id < 1 ∨ 9 < (piece s k).id then 5 else if 0 < k ∧ (piece s k).id ≤ (piece s (k - 1)).id then 6
  else if isNc (piece s k).d = false ∨ isNc (piece s k).e = false then 3 else 0
def upErr (s : ByteArray) : Nat → Int
  | 0 => 0
  | k + 1 => if upErr s k = 0 then upAt s k else upErr s k
def upE (s : ByteArray) : Int := if s.size % 9 = 0 ∧ s.size ≤ 81 then upErr s (s.size / 9) else 13
def pieces (s : ByteArray) (k : Nat) : List Cm := (List.range k).map (piece s)
theorem pieces_length (s : ByteArray) (k : Nat) : (pieces s k).length = k := by simp [pieces]
theorem pieces_step (s : ByteArray) (k : Nat) : pieces s (k + 1) = pieces s k ++ [piece s k] := by simp [pieces, List.range_succ]
theorem pieces_last (s : ByteArray) (k : Nat) (i : Nat) (h : i < k) : (pieces s k).getD i .zero = piece s i := by
  unfold pieces
  rw [List.getD_eq_getElem?_getD, List.getElem?_map, List.getElem?_range h]
  rfl
theorem upErr_stays (s : ByteArray) {j k : Nat} (h : j ≤ k) (hj : upErr s j ≠ 0) : upErr s k = upErr s j := by
  induction k with
  | zero => obtain rfl : j = 0 := by omega
            rfl
  | succ k ih =>
    rcases Nat.lt_or_ge k j with hlt | hge
    · obtain rfl : j = k + 1 := by omega
      rfl
    · rw [upErr, ih hge, if_neg hj]
theorem upE_at (s : ByteArray) {k : Nat} {x : Int} (h1 : s.size % 9 = 0) (h2 : s.size ≤ 81) (hk : 9 * k < s.size) (h0 : upErr s k = 0) (hx : upAt s k = x) (hn : x ≠ 0) : upE s = x := by
  unfold upE
  rw [if_pos ⟨h1, h2⟩, upErr_stays s (j := k + 1) (by omega) (by rw [upErr, if_pos h0, hx]; exact hn), upErr, if_pos h0, hx]
theorem upE_ok (s : ByteArray) {k : Nat} (h1 : s.size % 9 = 0) (h2 : s.size ≤ 81) (hk : 9 * k = s.size) (h0 : upErr s k = 0) : upE s = 0 := by
  unfold upE
  rw [if_pos ⟨h1, h2⟩, show s.size / 9 = k by omega, h0]
theorem upE_len (s : ByteArray) (h : ¬ (s.size % 9 = 0 ∧ s.size ≤ 81)) : upE s = 13 := by unfold upE; rw [if_neg h]
theorem num_shift (s t : ByteArray) (p q : Nat) (h : ∀ i, byteAt t (p + i) = byteAt s (q + i)) (j : Nat) : num t p j = num s q j := by
  induction j with
  | zero => rfl
  | succ j ih => rw [num, num, ih, h]
theorem num_tail {s t : ByteArray} {k n : Nat} (h : Tail s k t) (hn : n ≤ t.size) : num (t.extract n t.size) 0 4 = num s (9 * k + n) 4 :=
  num_shift _ _ _ _ (fun i => by rw [Nat.zero_add, byteAt_extract t i n hn, h.2, Nat.add_assoc]) 4
end Go.Proofs.Ytpfpokjaeffbjaa.Upl
