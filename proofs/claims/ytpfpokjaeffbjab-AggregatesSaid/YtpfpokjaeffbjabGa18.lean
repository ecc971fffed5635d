/- Part of the proof: Slices, Hash, RefHash, Verify, DealPlain, GroupPlain, Locks, Once, Group. -/
import Derived.Test.YtpfpokjaeffbjabGa17
import Derived.OneCell
import Derived.Lib.AppendStr
import Derived.Deep.RegionHeld3
import Derived.Deep.DrawnRows
import Derived.Test.YtpfpokjaeffbjabProg
import Derived.Conc.MuLone
import Derived.Conc.MuData
import Derived.KernelRfl
import Derived.Test.YtpfpokjaeffbjabRows
import Derived.WalkKit
import Derived.Defers
import Derived.Laws.Pointers
import Derived.Laws.LoneSync
import Derived.RegionTactic
import Derived.RegionCalls
import Derived.Lib.Hide
namespace Go.Proofs.Ytpfpokjaeffbjab.Sls
open Go.RowKit Go.Proofs.Ytpfpokjaeffbjab.Pl Go.Proofs.Ytpfpokjaeffbjab.Fld Go.Proofs.Ytpfpokjaeffbjab.Mem
set_option maxHeartbeats 1000000 in
theorem lagrangeC (ids : List Int) (k : Nat) (v : Value) (w : World) (hv : Nums .i64 w w.heap.size v ids) (hl : ids.length ≤ 65536) (hk : k < ids.length) :
    Calls Try.prog 78 #[v, .int .i64 k] w fun e w' => e = .returned (.int .u64 (lagrange ids k)) ∧ ∃ n, w' = w.drewN n := by
  obtain ⟨A, c, rfl, hc, hcell⟩ := hv
  obtain ⟨b, off, rfl, _, hcells⟩ := hcell (by omega)
  have hck := hcells k hk
  have HC := Lib.hid hcells
  clear hcell hcells
  go_enter Try.func78, Try.ntmps78
  go_wp2_with fail
  go_loopw [5, 6, 11] (fun u d i wr => ∃ j n : Nat, j ≤ ids.length ∧ wr = w.drewN n ∧ u = .int .u64 (lagUp ids k j) ∧ d = .int .u64 (lagDown ids k j) ∧ i = .int .i64 j) (fun _ _ i _ => ids.length - (intOf i).toNat)
  case atStart => exact ⟨0, 0, by omega, rfl, rfl, rfl, rfl⟩
  case round =>
    obtain ⟨j, n, hj, rfl, rfl, rfl, rfl⟩ := hrel
    by_cases hlt : j < ids.length
    · have hcj := HC.out j hlt
      by_cases hjk : j = k
      · subst hjk
        have E1 := Lib.hid (lagUp_skip ids j)
        have E2 := Lib.hid (lagDown_skip ids j)
        have hne : ((j : Int) != (j : Int)) = false := by rw [bne_eq_false_iff_eq]
        clear hcj
        go_wp2_with fail
        go_roundw
        case rel => exact ⟨j + 1, n, by omega, rfl, by rw [E1.out], by rw [E2.out], by go_num⟩
        case measure => simp [intOf]; omega
      · have E1 := Lib.hid (lagUp_step ids hjk)
        have E2 := Lib.hid (lagDown_step ids hjk)
        have hne : ((j : Int) != (k : Int)) = true := by rw [bne_iff_ne]; omega
        generalize hX : ids.getD j 0 = X at *
        generalize hY : ids.getD k 0 = Y at *
        have HX := Lib.hid hX
        have HY := Lib.hid hY
        clear hX hY
        generalize lagUp ids k j = U at *
        generalize lagDown ids k j = D at *
        go_wp2_with (first | (go_at_call 70; refine (small _ _).mono ?_; rintro e w' ⟨rfl, rfl⟩) | (go_at_call 37; refine (stimes _ _ _).mono ?_; rintro e w' ⟨rfl, rfl⟩))
        go_quiet ((first | (go_at_call 37; exact quiet_add_left (stimes _ _ _)) | (go_at_call 70; exact quiet_add_left (small _ _)) | (go_at_call 109; exact quiet_add_left (sminus _ _ _))))
        go_wp2_with fail
        go_roundw
        case rel => exact ⟨j + 1, _, by omega, rfl, by rw [E1.out], by rw [E2.out], by go_num⟩
        case measure => simp [intOf]; omega
    · obtain rfl : j = ids.length := by omega
      have bd := lagDown_bd ids k ids.length
      have E : Hid (lagrange ids k = smul (lagUp ids k ids.length) (pw (lagDown ids k ids.length) qm2 1073741789)) := by
        show lagrange ids k = _
        rfl
      go_wp2_with (first | (go_at_call 110; refine (inverse _ _ bd.1 bd.2).mono ?_; rintro e w' ⟨rfl, rfl⟩) | (go_at_call 37; refine (stimes _ _ _).mono ?_; rintro e w' ⟨rfl, rfl⟩))
      go_ret
      exact ⟨by rw [E.out]; rfl, n, rfl⟩
set_option maxHeartbeats 1000000 in
theorem weightC (ids : List Int) (k : Nat) (v : Value) (w : World) (hv : Nums .i64 w w.heap.size v ids) (hl : ids.length ≤ 65536) (hk : k < ids.length)
    (hb : ∀ i, i < ids.length → 1 ≤ ids.getD i 0 ∧ ids.getD i 0 ≤ 9) :
    Calls Try.prog 57 #[v, .int .i64 k] w fun e w' => e = .returned (.int .u64 (weight ids k)) ∧ w = w' := by
  obtain ⟨A, c, rfl, hc, hcell⟩ := hv
  obtain ⟨b, off, rfl, _, hcells⟩ := hcell (by omega)
  have hck := hcells k hk
  have HC := Lib.hid hcells
  have hbk := hb k hk
  have HB := Lib.hid hb
  clear hcell hcells hb
  go_enter Try.func57, Try.ntmps57
  go_wp2_with fail
  go_loop [5, 11] (fun u i => ∃ j : Nat, j ≤ ids.length ∧ u = .int .u64 (wtS ids k j) ∧ i = .int .i64 j) (fun _ i => ids.length - (intOf i).toNat)
  case atStart => exact ⟨0, by omega, rfl, rfl⟩
  case round =>
    obtain ⟨j, hj, rfl, rfl⟩ := hrel
    by_cases hlt : j < ids.length
    · have hcj := HC.out j hlt
      by_cases hjk : j = k
      · subst hjk
        have E1 := Lib.hid (wtS_skip ids j)
        have hne : ((j : Int) == (j : Int)) = true := by rw [beq_iff_eq]
        clear hcj
        go_wp2_with fail
        go_round
        case rel => exact ⟨j + 1, by omega, by rw [E1.out], by go_num⟩
        case measure => simp [intOf]; omega
      · have E1 := Lib.hid (wtS_step ids hjk)
        have hne : ((j : Int) == (k : Int)) = false := by rw [beq_eq_false_iff_ne]; omega
        have hbj := HB.out j hlt
        have hU := wtS_bd ids k j
        generalize hX : ids.getD j 0 = X at *
        generalize hY : ids.getD k 0 = Y at *
        have HX := Lib.hid hX
        have HY := Lib.hid hY
        clear hX hY
        generalize wtS ids k j = U at *
        obtain ⟨x1, x2⟩ := hbj
        obtain ⟨y1, y2⟩ := hbk
        obtain ⟨u1, u2⟩ := hU
        have m1 := mul_lt u1 u2 (show 0 ≤ X by omega) (show X < 10 by omega)
        obtain ⟨m11, m12⟩ := m1
        have p1 := pw_bd ((X + 1073741789 - Y) % 1073741789) qm2 (m := 1073741789) (by omega)
        obtain ⟨p11, p12⟩ := p1
        have m2 := mul_lt (show 0 ≤ U * X % 1073741789 by omega) (show U * X % 1073741789 < 1073741789 by omega) p11 p12
        obtain ⟨m21, m22⟩ := m2
        go_wp2_with fail
        refine (refPow 1073741789 ((X + 1073741789 - Y) % 1073741789) qm2 _ (by omega) (by omega) (by omega) (by omega) qm2_lt).mono ?_
        rintro e w' ⟨rfl, rfl⟩
        go_wp2_with fail
        go_round
        case rel => exact ⟨j + 1, by omega, by rw [E1.out], by go_num⟩
        case measure => simp [intOf]; omega
    · obtain rfl : j = ids.length := by omega
      have E : Hid (weight ids k = wtS ids k ids.length) := by
        show weight ids k = _
        rfl
      go_wp2_with fail
      go_ret
      exact ⟨by rw [E.out]; rfl, rfl⟩
set_option maxHeartbeats 400000 in
theorem foldS (first : Int) (l : List Int) (v : Value) (w : World) (hv : Nums .u64 w w.heap.size v l) (hl : l.length ≤ 65536) :
    Calls Try.prog 50 #[.int .u64 first, .func (.func 36) #[] #[], v] w fun e w' => e = .returned (.int .u64 (sumS first l l.length)) ∧ w = w' := by
  obtain ⟨A, c, rfl, hc, hcell⟩ := hv
  have HC := Lib.hid hcell
  clear hcell
  go_enter Try.func50, Try.ntmps50
  go_wp2_with fail
  go_loop [0, 11] (fun s i => ∃ k : Nat, k ≤ l.length ∧ s = .int .u64 (sumS first l k) ∧ i = .int .i64 k) (fun _ i => l.length - (intOf i).toNat)
  case atStart => exact ⟨0, by omega, rfl, rfl⟩
  case round =>
    obtain ⟨k, hk, rfl, rfl⟩ := hrel
    by_cases hlt : k < l.length
    · obtain ⟨b, off, rfl, _, hcells⟩ := HC.out (by omega)
      have hck := hcells k hlt
      have E1 : Hid (sumS first l (k + 1) = sadd (sumS first l k) (l.getD k 0)) := by
        show sumS first l (k + 1) = _
        rfl
      clear hcells
      generalize hX : l.getD k 0 = X at *
      have HX := Lib.hid hX
      clear hX
      go_wp2_with (go_at_call 36; refine (splus _ _ _).mono ?_; rintro e w' ⟨rfl, rfl⟩)
      go_round
      case rel => exact ⟨k + 1, by omega, by rw [E1.out], by go_num⟩
      case measure => simp [intOf]; omega
    · obtain rfl : k = l.length := by omega
      go_wp2_with fail
      go_ret
      exact ⟨rfl, rfl⟩
set_option maxHeartbeats 400000 in
theorem foldE (first : Int) (l : List Int) (v : Value) (w : World) (hv : Nums .u64 w w.heap.size v l) (hl : l.length ≤ 65536) :
    Calls Try.prog 76 #[.int .u64 first, .func (.func 46) #[] #[], v] w fun e w' => e = .returned (.int .u64 (prodE first l l.length)) ∧ w = w' := by
  obtain ⟨A, c, rfl, hc, hcell⟩ := hv
  have HC := Lib.hid hcell
  clear hcell
  go_enter Try.func76, Try.ntmps76
  go_wp2_with fail
  go_loop [0, 11] (fun s i => ∃ k : Nat, k ≤ l.length ∧ s = .int .u64 (prodE first l k) ∧ i = .int .i64 k) (fun _ i => l.length - (intOf i).toNat)
  case atStart => exact ⟨0, by omega, rfl, rfl⟩
  case round =>
    obtain ⟨k, hk, rfl, rfl⟩ := hrel
    by_cases hlt : k < l.length
    · obtain ⟨b, off, rfl, _, hcells⟩ := HC.out (by omega)
      have hck := hcells k hlt
      have E1 : Hid (prodE first l (k + 1) = emul (prodE first l k) (l.getD k 0)) := by
        show prodE first l (k + 1) = _
        rfl
      clear hcells
      generalize hX : l.getD k 0 = X at *
      have HX := Lib.hid hX
      clear hX
      go_wp2_with (go_at_call 46; refine (etimes _ _ _).mono ?_; rintro e w' ⟨rfl, rfl⟩)
      go_round
      case rel => exact ⟨k + 1, by omega, by rw [E1.out], by go_num⟩
      case measure => simp [intOf]; omega
    · obtain rfl : k = l.length := by omega
      go_wp2_with fail
      go_ret
      exact ⟨rfl, rfl⟩
end Go.Proofs.Ytpfpokjaeffbjab.Sls
namespace Go.Proofs.Ytpfpokjaeffbjab.Hsh
open Go.RowKit Go.Proofs.Ytpfpokjaeffbjab.Pl Go.Proofs.Ytpfpokjaeffbjab.Fld Go.Proofs.Ytpfpokjaeffbjab.Mem Go.Proofs.Ytpfpokjaeffbjab.Sls
set_option maxHeartbeats 400000 in
theorem mixC (h b : Int) (B : Nat) (w : World) (hc : w.cell? ⟨B, 0, none⟩ = some (.int .u64 h)) (hf : w.frozen? ⟨B, 0, none⟩ = false) (hb0 : 0 ≤ b) (hb1 : b < 256) :
    Calls Try.prog 108 #[.int .u8 b, .pointer (some ⟨B, 0, none⟩)] w fun e w' => e = .returned (.tuple #[]) ∧ w.setCell ⟨B, 0, none⟩ (.int .u64 (mix h b)) = w' := by
  go_enter Try.func108, Try.ntmps108
  go_wp2
  go_end0
  exact ⟨rfl, rfl⟩
set_option maxHeartbeats 1000000 in
theorem hashC (tag : Int) (s : ByteArray) (l : List Int) (v : Value) (w : World) (hv : Nums .u64 w w.heap.size v l) (hl : l.length ≤ 65536) (hs : s.size ≤ 1000000)
    (ht0 : 0 ≤ tag) (ht1 : tag < 256) (hb : ∀ i, i < l.length → 0 ≤ l.getD i 0 ∧ l.getD i 0 < 18446744073709551616) :
    Calls Try.prog 77 #[.int .u8 tag, .string s, v] w fun e w' => e = .returned (.int .u64 (hashI tag s l)) ∧ ∃ x, w.alloc (.cells #[.int .u64 x] 25) = w' := by
  obtain ⟨A, c, rfl, hc, hcell⟩ := hv
  have HC := Lib.hid hcell
  have HB := Lib.hid hb
  clear hcell hb
  have hmf : ∀ (fn : Fn) (first cap : Array Value) (w : World), (Instr.makeFunc fn first cap).run Try.prog w = .ok (.func fn first cap) w := fun _ _ _ _ => rfl
  go_enter Try.func77, Try.ntmps77
  go_wp2_with fail
  refine (mixC fnv0 tag w.heap.size _ (by simp [fnv0]) (by simp [go_sem]) ht0 ht1).mono ?_
  rintro e w' ⟨rfl, rfl⟩
  go_wp2_with fail
  have hm0 : 0 ≤ mix fnv0 tag := mix_nonneg _ _
  generalize hM : mix fnv0 tag = m0 at *
  have HM := Lib.hid hM
  clear hM
  go_loopw [18] (fun i wr => ∃ k : Nat, k ≤ l.length ∧ i = .int .i64 k ∧ wr = w.alloc (.cells #[.int .u64 (numsH m0 l k)] 25)) (fun i _ => l.length - (intOf i).toNat)
  case atStart => exact ⟨0, by omega, rfl, rfl⟩
  case round =>
    obtain ⟨k, hk, rfl, rfl⟩ := hrel
    by_cases hlt : k < l.length
    · obtain ⟨b, off, rfl, hb, hcells⟩ := HC.out (by omega)
      have hck := hcells k hlt
      have hbk := HB.out k hlt
      have E1 : Hid (numsH m0 l (k + 1) = numH (numsH m0 l k) (l.getD k 0) 8) := by
        show numsH m0 l (k + 1) = _
        rfl
      clear hcells
      generalize hX : l.getD k 0 = X at *
      have HX := Lib.hid hX
      clear hX
      generalize hy : numsH m0 l k = y at *
      have HY := Lib.hid hy
      clear hy
      obtain ⟨x0, x1⟩ := hbk
      go_wp2_with fail
      go_loopw [10, 22] (fun n i wr => ∃ j : Nat, j ≤ 8 ∧ n = .int .u64 (dv X j) ∧ i = .int .i64 j ∧ wr = w.alloc (.cells #[.int .u64 (numH y X j)] 25)) (fun _ i _ => 8 - (intOf i).toNat)
      case atStart => exact ⟨0, by omega, rfl, rfl, rfl⟩
      case round =>
        obtain ⟨j, hj, rfl, rfl, rfl⟩ := hrel
        by_cases hj8 : j < 8
        · have bd := dv_bd X j x0 x1
          obtain ⟨d0, d1⟩ := bd
          have E2 : Hid (numH y X (j + 1) = mix (numH y X j) (dv X j % 256)) := by
            show numH y X (j + 1) = _
            rfl
          have E3 : Hid (dv X (j + 1) = dv X j / 256) := by
            show dv X (j + 1) = _
            rfl
          generalize dv X j = d at *
          generalize numH y X j = z at *
          go_wp2_with fail
          refine (mixC z _ w.heap.size _ (by simp) (by simp [go_sem]) (by omega) (by omega)).mono ?_
          rintro e w' ⟨rfl, rfl⟩
          go_wp2_with fail
          go_roundw
          case rel => exact ⟨j + 1, by omega, by rw [E3.out], by go_num, by rw [E2.out]⟩
          case measure => simp [intOf]; omega
        · obtain rfl : j = 8 := by omega
          go_wp2_with fail
          go_roundw
          case rel => exact ⟨k + 1, by omega, by go_num, by rw [E1.out]⟩
          case measure => simp [intOf]; omega
    · obtain rfl : k = l.length := by omega
      have hm1 : 0 ≤ numsH m0 l l.length := numsH_nonneg _ _ _ hm0
      generalize hn1 : numsH m0 l l.length = m1 at *
      have HN1 := Lib.hid hn1
      clear hn1
      go_wp2_with fail
      go_loopw [34] (fun i wr => ∃ k : Nat, k ≤ s.size ∧ i = .int .i64 k ∧ wr = w.alloc (.cells #[.int .u64 (textH m1 s k)] 25)) (fun i _ => s.size - (intOf i).toNat)
      case atStart => exact ⟨0, by omega, rfl, rfl⟩
      case round =>
        obtain ⟨k, hk, rfl, rfl⟩ := hrel
        by_cases hlt : k < s.size
        · have E1 : Hid (textH m1 s (k + 1) = mix (textH m1 s k) (s[k].toNat : Int)) := by
            show textH m1 s (k + 1) = _
            exact textH_step _ _ hlt
          generalize hy : textH m1 s k = y at *
          have HY := Lib.hid hy
          clear hy
          have u1 : ((s[k].toNat : Nat) : Int) < 256 := by have := s[k].toNat_lt; omega
          go_wp2_with fail
          refine (mixC y (s[k].toNat : Int) w.heap.size _ (by simp) (by simp [go_sem]) (by omega) u1).mono ?_
          rintro e w' ⟨rfl, rfl⟩
          go_wp2_with fail
          go_roundw
          case rel => exact ⟨k + 1, by omega, by go_num, by rw [E1.out]⟩
          case measure => simp [intOf]; omega
        · obtain rfl : k = s.size := by omega
          have hm2 : 0 ≤ textH m1 s s.size := textH_nonneg _ _ _ hm1
          have E1 : Hid (hashI tag s l = textH m1 s s.size % 1073741789) := by
            show hashI tag s l = _
            unfold hashI
            rw [HM.out, HN1.out]
          generalize textH m1 s s.size = y at *
          go_wp2_with fail
          go_ret
          exact ⟨by rw [E1.out]; rfl, y, rfl⟩
end Go.Proofs.Ytpfpokjaeffbjab.Hsh
namespace Go.Proofs.Ytpfpokjaeffbjab.Rhs
open Go.RowKit Go.Proofs.Ytpfpokjaeffbjab.Pl Go.Proofs.Ytpfpokjaeffbjab.Fld Go.Proofs.Ytpfpokjaeffbjab.Mem
theorem info_u8 : (Try.prog.info? 5).map (fun i => (i.zero, i.size, i.bytes)) = some (some (.int .u8 0), 1, 1) := by kernel_rfl
theorem und_u8s : Try.prog.underlying 192 = some (.slice 5) := Try.underlying192
set_option maxRecDepth 100000 in
set_option maxHeartbeats 1000000 in
theorem refHashC (tag : Int) (s : ByteArray) (l : List Int) (v : Value) (w : World) (hv : Nums .u64 w w.heap.size v l) (hl : l.length ≤ 65536) (hs : s.size ≤ 1000000)
    (ht0 : 0 ≤ tag) (ht1 : tag < 256) (hb : ∀ i, i < l.length → 0 ≤ l.getD i 0 ∧ l.getD i 0 < 18446744073709551616) :
    Calls Try.prog 101 #[.int .u8 tag, v, .string s] w fun e w' => e = .returned (.int .u64 (hashI tag s l)) ∧ Below w.heap.size w w' := by
  obtain ⟨A, c, rfl, hc, hcell⟩ := hv
  have HC := Lib.hid hcell
  have HB := Lib.hid hb
  clear hcell hb
  obtain ⟨i0, hi, hz0, hz1, hz2⟩ := info_parts info_u8
  go_enter Try.func101, Try.ntmps101
  go_wp2_with fail
  go_loopw [7, 18] (fun b i wr => ∃ k : Nat, k ≤ l.length ∧ i = .int .i64 k ∧ wr.ownsRow w.heap.size 5 1 b (1 + 8 * k) ((tag :: numsBytes l k).map (Value.int .u8)) ∧ Below w.heap.size w wr) (fun _ i _ => l.length - (intOf i).toNat)
  case atStart => exact ⟨0, by omega, rfl, World.ownsRow_lit w #[.int .u8 tag] 1 (Nat.le_refl _) (by unfold maxLen; omega) rfl, (Below.refl _ _).alloc (Nat.le_refl _) _⟩
  case round =>
    obtain ⟨k, hk, rfl, hown, hbw⟩ := hrel
    by_cases hlt : k < l.length
    · obtain ⟨b, off, rfl, hb, hcells⟩ := HC.out (by omega)
      have hck := (hbw.cell (p := ⟨b, off + k, none⟩) hb).trans (hcells k hlt)
      have hbk := HB.out k hlt
      clear hcells
      generalize hX : l.getD k 0 = X at *
      have HX := Lib.hid hX
      clear hX
      obtain ⟨x0, x1⟩ := hbk
      go_wp2_with fail
      go_loopw [7, 10] (fun b i wr => ∃ j : Nat, j ≤ 8 ∧ i = .int .i64 j ∧ wr.ownsRow w.heap.size 5 1 b (1 + 8 * k + j) ((tag :: (numsBytes l k ++ numBytes X j)).map (Value.int .u8)) ∧ Below w.heap.size w wr) (fun _ i _ => 8 - (intOf i).toNat)
      case atStart => exact ⟨0, by omega, rfl, by simpa [numBytes] using hown, hbw⟩
      case round =>
        obtain ⟨j, hj, rfl, hown1, hbw1⟩ := hrel
        clear hown hbw hck
        have HO := Lib.hid hown1
        clear hown1 x1
        by_cases hj8 : j < 8
        · have ev : X / 2 ^ (8 * j) % 256 = dv X j % 256 := by rw [dv_eq]
          have EV := Lib.hid ev
          clear ev
          go_wp2_with (at_builtin; refine wpList_append_own _ rfl (.tmp 26) (.tmp 32) _ rfl w.heap.size 5 i0 (.int .u8 0) 1 1 und_u8s hi hz0 hz1 hz2 rfl (by decide) _ _ _ rfl (HO.out.alloc _) ⟨wr.heap.size, 0, none⟩ 1 1 [.int .u8 (X / 2 ^ (8 * j) % 256)] rfl rfl (cell_one_new _ _ _) (by simp [Value.oneCell']) (by unfold maxLen; omega) (by omega) (by have := hbw1.size; simp; omega) ?_; intro v' w1 hown' hgrow _)
          have hbw2 : Below w.heap.size w w1 := (hbw1.alloc hbw1.size _).grown hgrow (by have := hbw1.size; simp; omega) (fun k hk => ((HO.out.alloc (Obj.cells #[.int .u8 0] 5)).lt k hk).1)
          rw [EV.out] at hown'
          have HO2 := Lib.hid hown'
          clear hown' hgrow
          go_wp2_with fail
          go_roundw
          case rel => exact ⟨j + 1, by omega, by go_num, by simpa [numBytes, Nat.add_assoc] using HO2.out, hbw2⟩
          case measure => simp [intOf]; omega
        · obtain rfl : j = 8 := by omega
          go_wp2_with fail
          go_roundw
          case rel => exact ⟨k + 1, by omega, by go_num, by rw [numsBytes, HX.out, show 1 + 8 * (k + 1) = 1 + 8 * k + 8 by omega]; exact HO.out, hbw1⟩
          case measure => simp [intOf]; omega
    · obtain rfl : k = l.length := by omega
      have HO := Lib.hid hown
      clear hown
      have e1 : (tag :: numsBytes l l.length).map (Value.int .u8) ++ Lib.strCells s = (allBytes tag s l).map (Value.int .u8) := by
        simp [allBytes, Lib.strCells, textBytes]
      have e2 := allBytes_length tag s l
      have E1 := Lib.hid e1
      have E2 := Lib.hid e2
      have BD := Lib.hid (allBytes_bd s l ht0 ht1)
      have HM := Lib.hid (mixL_hash tag s l)
      clear e1 e2
      generalize allBytes tag s l = bs at *
      go_wp2_with (at_builtin; refine Lib.wpList_append_own_string _ rfl (.tmp 35) (.tmp 36) _ _ rfl w.heap.size 5 i0 und_u8s Try.underlying9 hi hz0 hz1 hz2 _ _ _ rfl HO.out s rfl (by unfold maxLen; omega) (by omega) hbw.size ?_; intro v' w1 hown' hgrow _)
      rw [E1.out] at hown'
      have hbw2 : Below w.heap.size w w1 := hbw.grown hgrow hbw.size (fun k hk => (HO.out.lt k hk).1)
      obtain ⟨g, cap, rfl, hg1, hg2⟩ := hown'.form (by omega)
      have hcellb : ∀ i, i < bs.length → w1.cell? ⟨g, i, none⟩ = some (.int .u8 (bs.getD i 0)) := by
        intro i hi
        rw [hown'.cellAt i (by rw [E2.out] at hi; omega), List.getElem?_map, List.getElem?_eq_getElem hi, List.getD_eq_getElem?_getD, List.getElem?_eq_getElem hi]
        rfl
      have HCB := Lib.hid hcellb
      clear hown' hgrow hcellb
      have E3 : Hid (1 + 8 * l.length + s.size = bs.length) := by
        show 1 + 8 * l.length + s.size = bs.length
        exact E2.out.symm
      have hbl : bs.length ≤ 2000000 := by rw [E2.out]; omega
      rw [E3.out]
      go_wp2_with fail
      go_simp
      go_wp2_with fail
      go_loop [11, 40] (fun h i => ∃ k : Nat, k ≤ bs.length ∧ i = .int .i64 k ∧ h = .int .u64 (mixL fnv0 bs k)) (fun _ i => bs.length - (intOf i).toNat)
      case atStart => exact ⟨0, by omega, rfl, rfl⟩
      case round =>
        obtain ⟨k, hk, rfl, rfl⟩ := hrel
        by_cases hlt : k < bs.length
        · have hck := HCB.out k hlt
          have hbk := BD.out (bs.getD k 0) (by rw [List.getD_eq_getElem?_getD, List.getElem?_eq_getElem hlt]; exact List.getElem_mem hlt)
          have EM : Hid (mixL fnv0 bs (k + 1) = mix (mixL fnv0 bs k) (bs.getD k 0)) := by
            show mixL fnv0 bs (k + 1) = _
            rfl
          generalize hX : bs.getD k 0 = X at *
          have HX := Lib.hid hX
          clear hX
          generalize mixL fnv0 bs k = m at *
          obtain ⟨x0, x1⟩ := hbk
          go_wp2_with fail
          go_round
          case rel => exact ⟨k + 1, by omega, by go_num, by rw [EM.out]; rfl⟩
          case measure => simp [intOf]; omega
        · obtain rfl : k = bs.length := by omega
          have hm : 0 ≤ mixL fnv0 bs bs.length := mixL_nonneg _ _ _ (by unfold fnv0; omega)
          generalize mixL fnv0 bs bs.length = m at *
          go_wp2_with fail
          go_ret
          exact ⟨by rw [← HM.out]; rfl, hbw2⟩
end Go.Proofs.Ytpfpokjaeffbjab.Rhs
namespace Go.Proofs.Ytpfpokjaeffbjab.Ver
open Go.RowKit Go.Proofs.Ytpfpokjaeffbjab.Pl Go.Proofs.Ytpfpokjaeffbjab.Fld Go.Proofs.Ytpfpokjaeffbjab.Mem Go.Proofs.Ytpfpokjaeffbjab.Sls Go.Proofs.Ytpfpokjaeffbjab.Hsh Go.Proofs.Ytpfpokjaeffbjab.Rhs
attribute [local go_sem ↓] Go.wp_at_zero Go.wp_at_succ
def chal (r key : Int) (s : ByteArray) : Int := hashI 2 s [r, key]
theorem chal_bd (r key : Int) (s : ByteArray) : 0 ≤ chal r key s ∧ chal r key s < 1073741789 := hashI_bd _ _ _
theorem two_bd {r key : Int} (h0 : 0 ≤ r ∧ r < 18446744073709551616) (h1 : 0 ≤ key ∧ key < 18446744073709551616) :
    ∀ i, i < [r, key].length → 0 ≤ [r, key].getD i 0 ∧ [r, key].getD i 0 < 18446744073709551616 := by
  intro i hi
  match i, hi with
  | 0, _ => exact h0
  | 1, _ => exact h1
theorem baseI (z : Int) (w : World) (h0 : 0 ≤ z) (h1 : z < 18446744073709551616) :
    Calls Try.prog 31 #[.int .u64 z] w fun e w' => e = .returned (.int .u64 (pw 4 z.toNat 2147483579)) ∧ w = w' := by
  obtain ⟨n, rfl⟩ := Int.eq_ofNat_of_zero_le h0
  exact base n w (by omega)
theorem powerI (a z : Int) (w : World) (ha : 0 ≤ a) (ha' : a < 2147483579) (h0 : 0 ≤ z) (h1 : z < 18446744073709551616) :
    Calls Try.prog 48 #[.int .u64 a, .int .u64 z] w fun e w' => e = .returned (.int .u64 (pw a z.toNat 2147483579)) ∧ w = w' := by
  obtain ⟨n, rfl⟩ := Int.eq_ofNat_of_zero_le h0
  exact power a n w ha ha' (by omega)
theorem refBaseI (z : Int) (w : World) (h0 : 0 ≤ z) (h1 : z < 18446744073709551616) :
    Calls Try.prog 58 #[.int .u64 z] w fun e w' => e = .returned (.int .u64 (pw 4 z.toNat 2147483579)) ∧ w = w' := by
  obtain ⟨n, rfl⟩ := Int.eq_ofNat_of_zero_le h0
  exact refBase n w (by omega)
theorem refPowI (m a z : Int) (w : World) (hm : 1 < m) (hm' : m < 4294967296) (ha : 0 ≤ a) (ha' : a < 4294967296) (h0 : 0 ≤ z) (h1 : z < 18446744073709551616) :
    Calls Try.prog 55 #[.int .u64 a, .int .u64 z, .int .u64 m] w fun e w' => e = .returned (.int .u64 (pw a z.toNat m)) ∧ w = w' := by
  obtain ⟨n, rfl⟩ := Int.eq_ofNat_of_zero_le h0
  exact refPow m a n w hm hm' ha ha' (by omega)
set_option maxHeartbeats 400000 in
theorem challengeC (r key : Int) (s : ByteArray) (w : World) (hs : s.size ≤ 1000000) (h0 : 0 ≤ r ∧ r < 18446744073709551616) (h1 : 0 ≤ key ∧ key < 18446744073709551616) :
    Calls Try.prog 39 #[.int .u64 r, .int .u64 key, .string s] w fun e w' => e = .returned (.int .u64 (chal r key s)) ∧ Below w.heap.size w w' := by
  have HB := Lib.hid (two_bd h0 h1)
  have hn := Nums.lit (k := .u64) w [r, key] 25
  have HN := Lib.hid hn
  clear hn h0 h1
  go_enter Try.func39, Try.ntmps39
  go_wp2_with fail
  refine (hashC 2 s [r, key] _ _ (HN.out.more (by simp)) (by simp) hs (by omega) (by omega) HB.out).mono ?_
  rintro e w' ⟨rfl, x, rfl⟩
  go_wp2_with fail
  go_ret
  exact ⟨rfl, ((Below.refl _ _).alloc (Nat.le_refl _) _).alloc (by simp) _⟩
set_option maxHeartbeats 400000 in
theorem refChallengeC (r key : Int) (s : ByteArray) (w : World) (hs : s.size ≤ 1000000) (h0 : 0 ≤ r ∧ r < 18446744073709551616) (h1 : 0 ≤ key ∧ key < 18446744073709551616) :
    Calls Try.prog 54 #[.int .u64 r, .int .u64 key, .string s] w fun e w' => e = .returned (.int .u64 (chal r key s)) ∧ Below w.heap.size w w' := by
  have HB := Lib.hid (two_bd h0 h1)
  have hn := Nums.lit (k := .u64) w [r, key] 25
  have HN := Lib.hid hn
  clear hn h0 h1
  go_enter Try.func54, Try.ntmps54
  go_wp2_with fail
  refine (refHashC 2 s [r, key] _ _ (HN.out.more (by simp)) (by simp) hs (by omega) (by omega) HB.out).mono ?_
  rintro e w' ⟨rfl, hb⟩
  go_wp2_with fail
  go_ret
  exact ⟨rfl, ((Below.refl _ _).alloc (Nat.le_refl _) _).trans (hb.mono (by simp))⟩
def verS (key : Int) (s : ByteArray) (r z : Int) : Bool :=
  isEl key && isEl r && decide (z < 1073741789) && decide (key ≠ 1) && decide (r ≠ 1) && decide (pw 4 z.toNat 2147483579 = r * pw key (chal r key s).toNat 2147483579 % 2147483579)
theorem elIs (b : Bool) (n : Int) (w : World) (h0 : 0 ≤ n) (h : isEl n = b) :
    Calls Try.prog 61 #[.int .u64 n] w fun e w' => e = .returned (.tuple #[.int .u64 n, .bool b]) ∧ w = w' := by
  subst h; exact elementOf n w h0
theorem refElIs (b : Bool) (n : Int) (w : World) (h0 : 0 ≤ n) (h : isEl n = b) :
    Calls Try.prog 99 #[.int .u64 n] w fun e w' => e = .returned (.bool b) ∧ w = w' := by
  subst h; exact refElement n w h0
theorem isEl_bd {n : Int} (h : isEl n = true) : 0 < n ∧ n < 2147483579 := by
  unfold isEl at h; rw [decide_eq_true_iff] at h; exact ⟨h.1, h.2.1⟩
theorem smallIs (n : Int) (w : World) (h0 : 0 ≤ n) (h1 : n < 18446744073709551616) :
    Calls Try.prog 70 #[.int .i64 n] w fun e w' => e = .returned (.int .u64 n) ∧ w = w' :=
  (small n w).mono fun _ _ hh => ⟨by rw [hh.1, u64_id h0 h1], hh.2⟩
theorem below_box (w : World) (o : Obj) : Below w.heap.size w (w.alloc o) := (Below.refl _ _).alloc (Nat.le_refl _) _
end Go.Proofs.Ytpfpokjaeffbjab.Ver
namespace Go.Proofs.Ytpfpokjaeffbjab.Dpl
open Go.Proofs.Ytpfpokjaeffbjab.Pl
def comms (coeffs : List Int) (k : Nat) : List Int := (coeffs.take k).map fun c => pw 4 c.toNat 2147483579
def sharesP (coeffs : List Int) (n : Nat) : List Int := (List.range n).map fun (i : Nat) => poly coeffs ((i : Int) + 1)
def sharesR (coeffs : List Int) (n : Nat) : List Int := (List.range n).map fun (i : Nat) => rpS coeffs ((i : Int) + 1) coeffs.length
def okTo (coeffs : List Int) : Nat → Bool
  | 0 => true
  | k + 1 => okTo coeffs k && decide (coeffs.getD k 0 < 1073741789)
def dealE (t n : Int) (coeffs : List Int) : Int :=
  if t < 2 ∨ n < t ∨ 9 < n ∨ (coeffs.length : Int) ≠ t then 1 else if coeffs.getD 0 0 = 0 ∨ okTo coeffs coeffs.length = false then 2 else 0
def psum (l : List Int) (x : Int) : Nat → Int
  | 0 => 0
  | j + 1 => psum l x j + l.getD j 0 * x ^ j
def horner (x : Int) : List Int → Int
  | [] => 0
  | c :: l => horner x l * x + c
theorem rpA_eq (x : Int) (j : Nat) : rpA x j = x ^ j % 1073741789 := by
  induction j with
  | zero => simp [rpA]
  | succ j ih => rw [rpA, ih, emod_mul_left, Int.pow_succ]
end Go.Proofs.Ytpfpokjaeffbjab.Dpl
namespace Go.Proofs.Ytpfpokjaeffbjab.Gpl
open Go.Proofs.Ytpfpokjaeffbjab.Pl Go.Proofs.Ytpfpokjaeffbjab.Dpl
def elsTo (cs : List Int) : Nat → Bool
  | 0 => true
  | k + 1 => elsTo cs k && isEl (cs.getD k 0)
def groupOk (t n : Int) (cs : List Int) : Bool := decide (2 ≤ t ∧ t ≤ n ∧ n ≤ 9 ∧ (cs.length : Int) = t ∧ cs.getD 0 0 ≠ 1) && elsTo cs cs.length
theorem elsTo_le (cs : List Int) {j k : Nat} (h : j ≤ k) (hk : elsTo cs k = true) : elsTo cs j = true := by
  induction k with
  | zero => obtain rfl : j = 0 := by omega
            exact hk
  | succ k ih =>
    rw [elsTo, Bool.and_eq_true] at hk
    rcases Nat.lt_or_ge k j with hj | hj
    · obtain rfl : j = k + 1 := by omega
      rw [elsTo, Bool.and_eq_true]; exact hk
    · exact ih hj hk.1
theorem elsTo_at (cs : List Int) {j k : Nat} (h : j < k) (hk : elsTo cs k = true) : isEl (cs.getD j 0) = true := by
  have h1 := elsTo_le cs (j := j + 1) (by omega) hk
  rw [elsTo, Bool.and_eq_true] at h1
  exact h1.2
theorem elsTo_step (cs : List Int) {k : Nat} (hk : elsTo cs k = true) (h : isEl (cs.getD k 0) = true) : elsTo cs (k + 1) = true := by
  rw [elsTo, hk, h]; rfl
theorem elsTo_bad (cs : List Int) {j k : Nat} (h : j < k) (hj : isEl (cs.getD j 0) = false) : elsTo cs k = false := by
  cases hk : elsTo cs k with
  | false => rfl
  | true => rw [elsTo_at cs h hk] at hj; cases hj
theorem groupOk_spec {t n : Int} {cs : List Int} (h : groupOk t n cs = true) : 2 ≤ t ∧ t ≤ n ∧ n ≤ 9 ∧ (cs.length : Int) = t ∧ cs.getD 0 0 ≠ 1 ∧ elsTo cs cs.length = true := by
  unfold groupOk at h
  rw [Bool.and_eq_true, decide_eq_true_iff] at h
  exact ⟨h.1.1, h.1.2.1, h.1.2.2.1, h.1.2.2.2.1, h.1.2.2.2.2, h.2⟩
theorem groupOk_bad {t n : Int} {cs : List Int} (h : ¬ (2 ≤ t ∧ t ≤ n ∧ n ≤ 9 ∧ (cs.length : Int) = t ∧ cs.getD 0 0 ≠ 1)) : groupOk t n cs = false := by
  unfold groupOk
  rw [decide_eq_false h]; rfl
theorem groupOk_els {t n : Int} {cs : List Int} (h : 2 ≤ t ∧ t ≤ n ∧ n ≤ 9 ∧ (cs.length : Int) = t ∧ cs.getD 0 0 ≠ 1) : groupOk t n cs = elsTo cs cs.length := by
  unfold groupOk
  rw [decide_eq_true h]; rfl
theorem groupOk_at {t n : Int} {cs : List Int} (h : groupOk t n cs = true) {j : Nat} (hj : j < cs.length) : isEl (cs.getD j 0) = true := elsTo_at cs hj (groupOk_spec h).2.2.2.2.2
def pubS (cs : List Int) (id : Int) : Nat → Int
  | 0 => 1
  | j + 1 => pubS cs id j * pw (cs.getD j 0) (rpA id j).toNat 2147483579 % 2147483579
def pub (cs : List Int) (id : Int) : Int := pubS cs id cs.length
theorem pubS_bd (cs : List Int) (id : Int) (j : Nat) : 0 ≤ pubS cs id j ∧ pubS cs id j < 2147483579 := by
  cases j with
  | zero => unfold pubS; omega
  | succ j => unfold pubS; omega
theorem pub_bd (cs : List Int) (id : Int) : 0 ≤ pub cs id ∧ pub cs id < 2147483579 := pubS_bd _ _ _
theorem rpA_pw (x : Int) (j : Nat) : rpA x j = pw x j 1073741789 := rpA_eq x j
def checkE (t n : Int) (cs : List Int) (id share : Int) : Int :=
  if groupOk t n cs = false then 4 else if id < 1 ∨ n < id then 5 else if 1073741789 ≤ share then 2 else 0
def checkB (t n : Int) (cs : List Int) (id share : Int) : Bool := decide (checkE t n cs id share = 0 ∧ pw 4 share.toNat 2147483579 = pub cs id)
end Go.Proofs.Ytpfpokjaeffbjab.Gpl
namespace Go.Proofs.Ytpfpokjaeffbjab.Lck
abbrev muLink : Go.Conc.Locks.MuLink := { lock := 28, unlock := 29, ilock := 71, iunlock := 72, lockSlow := 105, unlockSlow := 107, disable := 80, enable := 81, acquire := 94, relMerge := 79, cas32 := 104, add32 := 106, tMutex := 80, tIMutex := 78, tPMutex := 144, tPIMutex := 177, tPI32 := 179, tUP := 157, tNoCopy := 75, tU32 := 76 }
end Go.Proofs.Ytpfpokjaeffbjab.Lck
namespace Go.Proofs.Ytpfpokjaeffbjab.Onc
open Go.RowKit Go.MuLone Go.Conc.Locks Go.Proofs.Ytpfpokjaeffbjab.Lck
end Go.Proofs.Ytpfpokjaeffbjab.Onc
namespace Go.Proofs.Ytpfpokjaeffbjab.Grp
open Go.RowKit Go.Proofs.Ytpfpokjaeffbjab.Pl Go.Proofs.Ytpfpokjaeffbjab.Dpl Go.Proofs.Ytpfpokjaeffbjab.Gpl Go.Proofs.Ytpfpokjaeffbjab.Fld Go.Proofs.Ytpfpokjaeffbjab.Mem Go.Proofs.Ytpfpokjaeffbjab.Ver
def GrpAt (w : World) (g : Nat) (t n : Int) (vc : Value) (d s : Int) (cs : List Int) (k : Nat) : Prop :=
  ∃ C : Array Value, Blk w g 143 C ∧ C.size = 16 ∧ C[0]? = some (.int .i64 t) ∧ C[1]? = some (.int .i64 n) ∧ C[2]? = some vc ∧ C[3]? = some (.int .u32 d) ∧ C[4]? = some (.int .i32 s) ∧
    ∀ i : Nat, 1 ≤ i → i < k → C[6 + i]? = some (.int .u64 (pub cs i))
section
variable {w : World} {g : Nat} {t n : Int} {vc : Value} {d s : Int} {cs : List Int} {k : Nat}
theorem GrpAt.lt (h : GrpAt w g t n vc d s cs k) : g < w.heap.size := h.choose_spec.1.lt
theorem GrpAt.cells (h : GrpAt w g t n vc d s cs k) : w.cell? ⟨g, 0, none⟩ = some (.int .i64 t) ∧ w.cell? ⟨g, 1, none⟩ = some (.int .i64 n) ∧ w.cell? ⟨g, 2, none⟩ = some vc ∧ w.cell? ⟨g, 3, none⟩ = some (.int .u32 d) ∧ w.cell? ⟨g, 4, none⟩ = some (.int .i32 s) := by
  obtain ⟨C, hb, hs, h0, h1, h2, h3, h4, _⟩ := h
  exact ⟨(hb.cell 0).trans h0, (hb.cell 1).trans h1, (hb.cell 2).trans h2, (hb.cell 3).trans h3, (hb.cell 4).trans h4⟩
theorem GrpAt.frozen (h : GrpAt w g t n vc d s cs k) (i : Nat) : w.frozen? ⟨g, i, none⟩ = false := h.choose_spec.1.frozen i
theorem GrpAt.share (h : GrpAt w g t n vc d s cs k) {i : Nat} (h1 : 1 ≤ i) (hi : i < k) : w.cell? ⟨g, 6 + i, none⟩ = some (.int .u64 (pub cs i)) := by
  obtain ⟨C, hb, hs, _, _, _, _, _, h⟩ := h
  exact (hb.cell _).trans (h i h1 hi)
theorem GrpAt.room (h : GrpAt w g t n vc d s cs k) {i : Nat} (hi : i < 16) : ∃ u, w.cell? ⟨g, i, none⟩ = some u := by
  obtain ⟨C, hb, hs, _⟩ := h
  exact ⟨_, (hb.cell i).trans (Array.getElem?_eq_getElem (by omega))⟩
theorem GrpAt.grown {w' : World} {row : Option Nat} (h : GrpAt w g t n vc d s cs k) (hg : w.grownBy w' row) (hne : some g ≠ row) : GrpAt w' g t n vc d s cs k := by
  obtain ⟨C, hb, r⟩ := h
  exact ⟨C, hb.grown hg hne, r⟩
theorem GrpAt.below {w' : World} {B : Nat} (h : GrpAt w g t n vc d s cs k) (hg : Below B w w') (hlt : g < B) : GrpAt w' g t n vc d s cs k := by
  obtain ⟨C, hb, r⟩ := h
  exact ⟨C, hb.below hg hlt, r⟩
theorem GrpAt.lay (h : GrpAt w g t n vc d s cs k) (h1 : 1 ≤ k) (hk : k < 10) : GrpAt (w.setCell ⟨g, 6 + k, none⟩ (.int .u64 (pub cs k))) g t n vc d s cs (k + 1) := by
  obtain ⟨C, hb, hs, h0, h1', h2, h3, h4, h5⟩ := h
  refine ⟨_, hb.set_ (6 + k) _, by rw [Array.size_setIfInBounds]; exact hs, ?_, ?_, ?_, ?_, ?_, ?_⟩
  · rw [Array.getElem?_setIfInBounds_ne (by omega)]; exact h0
  · rw [Array.getElem?_setIfInBounds_ne (by omega)]; exact h1'
  · rw [Array.getElem?_setIfInBounds_ne (by omega)]; exact h2
  · rw [Array.getElem?_setIfInBounds_ne (by omega)]; exact h3
  · rw [Array.getElem?_setIfInBounds_ne (by omega)]; exact h4
  · intro i hi1 hi2
    by_cases e : i = k
    · subst e
      rw [Array.getElem?_setIfInBounds_self_of_lt (by omega)]
    · rw [Array.getElem?_setIfInBounds_ne (by omega)]
      exact h5 i hi1 (by omega)
theorem GrpAt.done (h : GrpAt w g t n vc d s cs k) (d' : Int) : GrpAt (w.setCell ⟨g, 3, none⟩ (.int .u32 d')) g t n vc d' s cs k := by
  obtain ⟨C, hb, hs, h0, h1', h2, h3, h4, h5⟩ := h
  refine ⟨_, hb.set_ 3 _, by rw [Array.size_setIfInBounds]; exact hs, ?_, ?_, ?_, ?_, ?_, ?_⟩
  · rw [Array.getElem?_setIfInBounds_ne (by omega)]; exact h0
  · rw [Array.getElem?_setIfInBounds_ne (by omega)]; exact h1'
  · rw [Array.getElem?_setIfInBounds_ne (by omega)]; exact h2
  · rw [Array.getElem?_setIfInBounds_self_of_lt (by omega)]
  · rw [Array.getElem?_setIfInBounds_ne (by omega)]; exact h4
  · intro i hi1 hi2
    rw [Array.getElem?_setIfInBounds_ne (by omega)]
    exact h5 i hi1 hi2
theorem GrpAt.drew (h : GrpAt w g t n vc d s cs k) : GrpAt w.drew g t n vc d s cs k := h
end
theorem grownBy_set {w w' : World} {g : Nat} (h : w.grownBy w' (some g)) (i : Nat) (u : Value) : w.grownBy (w'.setCell ⟨g, i, none⟩ u) (some g) :=
  ⟨h.os, h.tape, h.output, by have := h.size; simpa using this, fun k hk hne => (Below.heap_setCell w' ⟨g, i, none⟩ u k (fun e => hne (by rw [e]))).trans (h.block k hk hne)⟩
def OwnCs (w : World) (base : Nat) (vc : Value) (cs : List Int) : Prop := w.ownsRow base 85 1 vc cs.length (cs.map (Value.int .u64))
theorem OwnCs.form {w : World} {base : Nat} {vc : Value} {cs : List Int} (h : OwnCs w base vc cs) (hp : 0 < cs.length) :
    ∃ gc cap, vc = .slice (some ⟨gc, 0, none⟩) cs.length cap ∧ base ≤ gc ∧ gc < w.heap.size ∧ (∀ i, i < cs.length → w.cell? ⟨gc, i, none⟩ = some (.int .u64 (cs.getD i 0))) ∧ ∀ g C, Blk w g 143 C → g ≠ gc := by
  obtain ⟨gc, cap, rfl, hb, hlt⟩ := World.ownsRow.form h hp
  refine ⟨gc, cap, rfl, hb, hlt, fun i hi => ?_, fun g C hC e => ?_⟩
  · rw [World.ownsRow.cellAt h i (by omega), List.getElem?_map, List.getElem?_eq_getElem hi, List.getD_eq_getElem?_getD, List.getElem?_eq_getElem hi]
    rfl
  · exact own_ne_blk h hC (by decide) (by rw [e]; rfl)
end Go.Proofs.Ytpfpokjaeffbjab.Grp
