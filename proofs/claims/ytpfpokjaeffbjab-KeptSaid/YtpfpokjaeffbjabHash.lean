/- The hash: the program's (a closure that mixes into a captured variable). -/
import Derived.Test.YtpfpokjaeffbjabSlices
import Derived.OneCell
namespace Go.Proofs.Ytpfpokjaeffbjab.Hsh
open Go.RowKit Go.Proofs.Ytpfpokjaeffbjab.Pl Go.Proofs.Ytpfpokjaeffbjab.Fld Go.Proofs.Ytpfpokjaeffbjab.Mem Go.Proofs.Ytpfpokjaeffbjab.Sls

set_option maxHeartbeats 400000 in
theorem mixC (h b : Int) (B : Nat) (w : World) (hc : w.cell? ⟨B, 0, none⟩ = some (.int .u64 h)) (hf : w.frozen? ⟨B, 0, none⟩ = false) (hb0 : 0 ≤ b) (hb1 : b < 256) :
    Calls Try.prog 108 #[.int .u8 b, .pointer (some ⟨B, 0, none⟩)] w fun e w' => e = .returned (.tuple #[]) ∧ w.setCell ⟨B, 0, none⟩ (.int .u64 (mix h b)) = w' := by
  go_enter Try.func108, Try.ntmps108
  go_wp2
  go_end0
  exact ⟨rfl, rfl⟩

set_option maxHeartbeats 1000000 in
theorem hashC (tag : Int) (s : ByteArray) (l : List Int) (v : Value) (w : World) (hv : Nums .u64 w w.heap.size v l) (hl : l.length ≤ 65536) (hs : s.size ≤ 1000000)
    (ht0 : 0 ≤ tag) (ht1 : tag < 256) (hb : ∀ i, i < l.length → 0 ≤ l.getD i 0 ∧ l.getD i 0 < 18446744073709551616) :
    Calls Try.prog 77 #[.int .u8 tag, .string s, v] w fun e w' => e = .returned (.int .u64 (hashI tag s l)) ∧ ∃ x, w.alloc (.cells #[.int .u64 x] 25) = w' := by
  obtain ⟨A, c, rfl, hc, hcell⟩ := hv
  have HC := Lib.hid hcell
  have HB := Lib.hid hb
  clear hcell hb
  have hmf : ∀ (fn : Fn) (first cap : Array Value) (w : World), (Instr.makeFunc fn first cap).run Try.prog w = .ok (.func fn first cap) w := fun _ _ _ _ => rfl
  go_enter Try.func77, Try.ntmps77
  go_wp2_with fail
  refine (mixC fnv0 tag w.heap.size _ (by simp [fnv0]) (by simp [go_sem]) ht0 ht1).mono ?_
  rintro e w' ⟨rfl, rfl⟩
  go_wp2_with fail
  have hm0 : 0 ≤ mix fnv0 tag := mix_nonneg _ _
  generalize hM : mix fnv0 tag = m0 at *
  have HM := Lib.hid hM
  clear hM
  go_loopw [18] (fun i wr => ∃ k : Nat, k ≤ l.length ∧ i = .int .i64 k ∧ wr = w.alloc (.cells #[.int .u64 (numsH m0 l k)] 25)) (fun i _ => l.length - (intOf i).toNat)
  case atStart => exact ⟨0, by omega, rfl, rfl⟩
  case round =>
    obtain ⟨k, hk, rfl, rfl⟩ := hrel
    by_cases hlt : k < l.length
    · obtain ⟨b, off, rfl, hb, hcells⟩ := HC.out (by omega)
      have hck := hcells k hlt
      have hbk := HB.out k hlt
      have E1 : Hid (numsH m0 l (k + 1) = numH (numsH m0 l k) (l.getD k 0) 8) := by
        show numsH m0 l (k + 1) = _
        rfl
      clear hcells
      generalize hX : l.getD k 0 = X at *
      have HX := Lib.hid hX
      clear hX
      generalize hy : numsH m0 l k = y at *
      have HY := Lib.hid hy
      clear hy
      obtain ⟨x0, x1⟩ := hbk
      go_wp2_with fail
      go_loopw [10, 22] (fun n i wr => ∃ j : Nat, j ≤ 8 ∧ n = .int .u64 (dv X j) ∧ i = .int .i64 j ∧ wr = w.alloc (.cells #[.int .u64 (numH y X j)] 25)) (fun _ i _ => 8 - (intOf i).toNat)
      case atStart => exact ⟨0, by omega, rfl, rfl, rfl⟩
      case round =>
        obtain ⟨j, hj, rfl, rfl, rfl⟩ := hrel
        by_cases hj8 : j < 8
        · have bd := dv_bd X j x0 x1
          obtain ⟨d0, d1⟩ := bd
          have E2 : Hid (numH y X (j + 1) = mix (numH y X j) (dv X j % 256)) := by
            show numH y X (j + 1) = _
            rfl
          have E3 : Hid (dv X (j + 1) = dv X j / 256) := by
            show dv X (j + 1) = _
            rfl
          generalize dv X j = d at *
          generalize numH y X j = z at *
          go_wp2_with fail
          refine (mixC z _ w.heap.size _ (by simp) (by simp [go_sem]) (by omega) (by omega)).mono ?_
          rintro e w' ⟨rfl, rfl⟩
          go_wp2_with fail
          go_roundw
          case rel => exact ⟨j + 1, by omega, by rw [E3.out], by go_num, by rw [E2.out]⟩
          case measure => simp [intOf]; omega
        · obtain rfl : j = 8 := by omega
          go_wp2_with fail
          go_roundw
          case rel => exact ⟨k + 1, by omega, by go_num, by rw [E1.out]⟩
          case measure => simp [intOf]; omega
    · obtain rfl : k = l.length := by omega
      have hm1 : 0 ≤ numsH m0 l l.length := numsH_nonneg _ _ _ hm0
      generalize hn1 : numsH m0 l l.length = m1 at *
      have HN1 := Lib.hid hn1
      clear hn1
      go_wp2_with fail
      go_loopw [34] (fun i wr => ∃ k : Nat, k ≤ s.size ∧ i = .int .i64 k ∧ wr = w.alloc (.cells #[.int .u64 (textH m1 s k)] 25)) (fun i _ => s.size - (intOf i).toNat)
      case atStart => exact ⟨0, by omega, rfl, rfl⟩
      case round =>
        obtain ⟨k, hk, rfl, rfl⟩ := hrel
        by_cases hlt : k < s.size
        · have E1 : Hid (textH m1 s (k + 1) = mix (textH m1 s k) (s[k].toNat : Int)) := by
            show textH m1 s (k + 1) = _
            exact textH_step _ _ hlt
          generalize hy : textH m1 s k = y at *
          have HY := Lib.hid hy
          clear hy
          have u1 : ((s[k].toNat : Nat) : Int) < 256 := by have := s[k].toNat_lt; omega
          go_wp2_with fail
          refine (mixC y (s[k].toNat : Int) w.heap.size _ (by simp) (by simp [go_sem]) (by omega) u1).mono ?_
          rintro e w' ⟨rfl, rfl⟩
          go_wp2_with fail
          go_roundw
          case rel => exact ⟨k + 1, by omega, by go_num, by rw [E1.out]⟩
          case measure => simp [intOf]; omega
        · obtain rfl : k = s.size := by omega
          have hm2 : 0 ≤ textH m1 s s.size := textH_nonneg _ _ _ hm1
          have E1 : Hid (hashI tag s l = textH m1 s s.size % 1073741789) := by
            show hashI tag s l = _
            unfold hashI
            rw [HM.out, HN1.out]
          generalize textH m1 s s.size = y at *
          go_wp2_with fail
          go_ret
          exact ⟨by rw [E1.out]; rfl, y, rfl⟩
end Go.Proofs.Ytpfpokjaeffbjab.Hsh
