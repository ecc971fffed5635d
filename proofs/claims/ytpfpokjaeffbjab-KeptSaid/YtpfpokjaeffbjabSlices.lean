/- The walks that read slices of numbers: polynomials, weights. -/
import Derived.Test.YtpfpokjaeffbjabField
import Derived.Test.YtpfpokjaeffbjabMem
namespace Go.Proofs.Ytpfpokjaeffbjab.Sls
open Go.RowKit Go.Proofs.Ytpfpokjaeffbjab.Pl Go.Proofs.Ytpfpokjaeffbjab.Fld Go.Proofs.Ytpfpokjaeffbjab.Mem

set_option maxHeartbeats 400000 in
theorem polyC (l : List Int) (x : Int) (v : Value) (w : World) (hv : Nums .u64 w w.heap.size v l) (hl : l.length ≤ 65536) :
    Calls Try.prog 69 #[v, .int .u64 x] w fun e w' => e = .returned (.int .u64 (poly l x)) ∧ ∃ n, w' = w.drewN n := by
  obtain ⟨A, c, rfl, hc, hcell⟩ := hv
  have HC := Lib.hid hcell
  clear hcell
  go_enter Try.func69, Try.ntmps69
  go_wp2_with fail
  go_loopw [5, 6] (fun o i wr => ∃ k n : Nat, k ≤ l.length ∧ wr = w.drewN n ∧ o = .int .u64 (poly (l.drop k) x) ∧ i = .int .i64 ((k : Int) - 1)) (fun _ i _ => (intOf i + 1).toNat)
  case atStart => exact ⟨l.length, 0, by omega, rfl, by simp [poly], rfl⟩
  case round =>
    obtain ⟨k, n, hk, rfl, rfl, rfl⟩ := hrel
    rcases k with _ | j
    · go_wp2_with fail
      go_ret
      exact ⟨rfl, n, rfl⟩
    · rw [show (((j + 1 : Nat) : Int) - 1) = (j : Int) from by omega]
      obtain ⟨b, off, rfl, hb, hcells⟩ := HC.out (by omega)
      have hcj := hcells j (by omega)
      have hjl : j < l.length := by omega
      have HS : Hid (poly (l.drop j) x = sadd (smul (poly (l.drop (j + 1)) x) x) (l.getD j 0)) := by
        show poly (l.drop j) x = _
        rw [List.drop_eq_getElem_cons hjl, List.getD_eq_getElem?_getD, List.getElem?_eq_getElem hjl]
        rfl
      clear hcells
      generalize hP : poly (l.drop (j + 1)) x = p at *
      have HP := Lib.hid hP
      clear hP
      generalize hD : l.getD j 0 = d at *
      have HD := Lib.hid hD
      clear hD
      go_wp2_with fail
      go_quiet ((first | (go_at_call 37; exact quiet_add_left (stimes _ _ _)) | (go_at_call 36; exact quiet_add_left (splus _ _ _))))
      go_wp2_with fail
      go_roundw
      case rel => exact ⟨j, _, by omega, rfl, by rw [HS.out], rfl⟩
      case measure => simp [intOf]

set_option maxHeartbeats 1000000 in
theorem lagrangeC (ids : List Int) (k : Nat) (v : Value) (w : World) (hv : Nums .i64 w w.heap.size v ids) (hl : ids.length ≤ 65536) (hk : k < ids.length) :
    Calls Try.prog 78 #[v, .int .i64 k] w fun e w' => e = .returned (.int .u64 (lagrange ids k)) ∧ ∃ n, w' = w.drewN n := by
  obtain ⟨A, c, rfl, hc, hcell⟩ := hv
  obtain ⟨b, off, rfl, _, hcells⟩ := hcell (by omega)
  have hck := hcells k hk
  have HC := Lib.hid hcells
  clear hcell hcells
  go_enter Try.func78, Try.ntmps78
  go_wp2_with fail
  go_loopw [5, 6, 11] (fun u d i wr => ∃ j n : Nat, j ≤ ids.length ∧ wr = w.drewN n ∧ u = .int .u64 (lagUp ids k j) ∧ d = .int .u64 (lagDown ids k j) ∧ i = .int .i64 j) (fun _ _ i _ => ids.length - (intOf i).toNat)
  case atStart => exact ⟨0, 0, by omega, rfl, rfl, rfl, rfl⟩
  case round =>
    obtain ⟨j, n, hj, rfl, rfl, rfl, rfl⟩ := hrel
    by_cases hlt : j < ids.length
    · have hcj := HC.out j hlt
      by_cases hjk : j = k
      · subst hjk
        have E1 := Lib.hid (lagUp_skip ids j)
        have E2 := Lib.hid (lagDown_skip ids j)
        have hne : ((j : Int) != (j : Int)) = false := by rw [bne_eq_false_iff_eq]
        clear hcj
        go_wp2_with fail
        go_roundw
        case rel => exact ⟨j + 1, n, by omega, rfl, by rw [E1.out], by rw [E2.out], by go_num⟩
        case measure => simp [intOf]; omega
      · have E1 := Lib.hid (lagUp_step ids hjk)
        have E2 := Lib.hid (lagDown_step ids hjk)
        have hne : ((j : Int) != (k : Int)) = true := by rw [bne_iff_ne]; omega
        generalize hX : ids.getD j 0 = X at *
        generalize hY : ids.getD k 0 = Y at *
        have HX := Lib.hid hX
        have HY := Lib.hid hY
        clear hX hY
        generalize lagUp ids k j = U at *
        generalize lagDown ids k j = D at *
        go_wp2_with (first | (go_at_call 70; refine (small _ _).mono ?_; rintro e w' ⟨rfl, rfl⟩) | (go_at_call 37; refine (stimes _ _ _).mono ?_; rintro e w' ⟨rfl, rfl⟩))
        go_quiet ((first | (go_at_call 37; exact quiet_add_left (stimes _ _ _)) | (go_at_call 70; exact quiet_add_left (small _ _)) | (go_at_call 109; exact quiet_add_left (sminus _ _ _))))
        go_wp2_with fail
        go_roundw
        case rel => exact ⟨j + 1, _, by omega, rfl, by rw [E1.out], by rw [E2.out], by go_num⟩
        case measure => simp [intOf]; omega
    · obtain rfl : j = ids.length := by omega
      have bd := lagDown_bd ids k ids.length
      have E : Hid (lagrange ids k = smul (lagUp ids k ids.length) (pw (lagDown ids k ids.length) qm2 1073741789)) := by
        show lagrange ids k = _
        rfl
      go_wp2_with (first | (go_at_call 110; refine (inverse _ _ bd.1 bd.2).mono ?_; rintro e w' ⟨rfl, rfl⟩) | (go_at_call 37; refine (stimes _ _ _).mono ?_; rintro e w' ⟨rfl, rfl⟩))
      go_ret
      exact ⟨by rw [E.out]; rfl, n, rfl⟩

set_option maxHeartbeats 1000000 in
theorem weightC (ids : List Int) (k : Nat) (v : Value) (w : World) (hv : Nums .i64 w w.heap.size v ids) (hl : ids.length ≤ 65536) (hk : k < ids.length)
    (hb : ∀ i, i < ids.length → 1 ≤ ids.getD i 0 ∧ ids.getD i 0 ≤ 9) :
    Calls Try.prog 57 #[v, .int .i64 k] w fun e w' => e = .returned (.int .u64 (weight ids k)) ∧ w = w' := by
  obtain ⟨A, c, rfl, hc, hcell⟩ := hv
  obtain ⟨b, off, rfl, _, hcells⟩ := hcell (by omega)
  have hck := hcells k hk
  have HC := Lib.hid hcells
  have hbk := hb k hk
  have HB := Lib.hid hb
  clear hcell hcells hb
  go_enter Try.func57, Try.ntmps57
  go_wp2_with fail
  go_loop [5, 11] (fun u i => ∃ j : Nat, j ≤ ids.length ∧ u = .int .u64 (wtS ids k j) ∧ i = .int .i64 j) (fun _ i => ids.length - (intOf i).toNat)
  case atStart => exact ⟨0, by omega, rfl, rfl⟩
  case round =>
    obtain ⟨j, hj, rfl, rfl⟩ := hrel
    by_cases hlt : j < ids.length
    · have hcj := HC.out j hlt
      by_cases hjk : j = k
      · subst hjk
        have E1 := Lib.hid (wtS_skip ids j)
        have hne : ((j : Int) == (j : Int)) = true := by rw [beq_iff_eq]
        clear hcj
        go_wp2_with fail
        go_round
        case rel => exact ⟨j + 1, by omega, by rw [E1.out], by go_num⟩
        case measure => simp [intOf]; omega
      · have E1 := Lib.hid (wtS_step ids hjk)
        have hne : ((j : Int) == (k : Int)) = false := by rw [beq_eq_false_iff_ne]; omega
        have hbj := HB.out j hlt
        have hU := wtS_bd ids k j
        generalize hX : ids.getD j 0 = X at *
        generalize hY : ids.getD k 0 = Y at *
        have HX := Lib.hid hX
        have HY := Lib.hid hY
        clear hX hY
        generalize wtS ids k j = U at *
        obtain ⟨x1, x2⟩ := hbj
        obtain ⟨y1, y2⟩ := hbk
        obtain ⟨u1, u2⟩ := hU
        have m1 := mul_lt u1 u2 (show 0 ≤ X by omega) (show X < 10 by omega)
        obtain ⟨m11, m12⟩ := m1
        have p1 := pw_bd ((X + 1073741789 - Y) % 1073741789) qm2 (m := 1073741789) (by omega)
        obtain ⟨p11, p12⟩ := p1
        have m2 := mul_lt (show 0 ≤ U * X % 1073741789 by omega) (show U * X % 1073741789 < 1073741789 by omega) p11 p12
        obtain ⟨m21, m22⟩ := m2
        go_wp2_with fail
        refine (refPow 1073741789 ((X + 1073741789 - Y) % 1073741789) qm2 _ (by omega) (by omega) (by omega) (by omega) qm2_lt).mono ?_
        rintro e w' ⟨rfl, rfl⟩
        go_wp2_with fail
        go_round
        case rel => exact ⟨j + 1, by omega, by rw [E1.out], by go_num⟩
        case measure => simp [intOf]; omega
    · obtain rfl : j = ids.length := by omega
      have E : Hid (weight ids k = wtS ids k ids.length) := by
        show weight ids k = _
        rfl
      go_wp2_with fail
      go_ret
      exact ⟨by rw [E.out]; rfl, rfl⟩

set_option maxHeartbeats 400000 in
theorem foldS (first : Int) (l : List Int) (v : Value) (w : World) (hv : Nums .u64 w w.heap.size v l) (hl : l.length ≤ 65536) :
    Calls Try.prog 50 #[.int .u64 first, .func (.func 36) #[] #[], v] w fun e w' => e = .returned (.int .u64 (sumS first l l.length)) ∧ w = w' := by
  obtain ⟨A, c, rfl, hc, hcell⟩ := hv
  have HC := Lib.hid hcell
  clear hcell
  go_enter Try.func50, Try.ntmps50
  go_wp2_with fail
  go_loop [0, 11] (fun s i => ∃ k : Nat, k ≤ l.length ∧ s = .int .u64 (sumS first l k) ∧ i = .int .i64 k) (fun _ i => l.length - (intOf i).toNat)
  case atStart => exact ⟨0, by omega, rfl, rfl⟩
  case round =>
    obtain ⟨k, hk, rfl, rfl⟩ := hrel
    by_cases hlt : k < l.length
    · obtain ⟨b, off, rfl, _, hcells⟩ := HC.out (by omega)
      have hck := hcells k hlt
      have E1 : Hid (sumS first l (k + 1) = sadd (sumS first l k) (l.getD k 0)) := by
        show sumS first l (k + 1) = _
        rfl
      clear hcells
      generalize hX : l.getD k 0 = X at *
      have HX := Lib.hid hX
      clear hX
      go_wp2_with (go_at_call 36; refine (splus _ _ _).mono ?_; rintro e w' ⟨rfl, rfl⟩)
      go_round
      case rel => exact ⟨k + 1, by omega, by rw [E1.out], by go_num⟩
      case measure => simp [intOf]; omega
    · obtain rfl : k = l.length := by omega
      go_wp2_with fail
      go_ret
      exact ⟨rfl, rfl⟩

set_option maxHeartbeats 400000 in
theorem foldE (first : Int) (l : List Int) (v : Value) (w : World) (hv : Nums .u64 w w.heap.size v l) (hl : l.length ≤ 65536) :
    Calls Try.prog 76 #[.int .u64 first, .func (.func 46) #[] #[], v] w fun e w' => e = .returned (.int .u64 (prodE first l l.length)) ∧ w = w' := by
  obtain ⟨A, c, rfl, hc, hcell⟩ := hv
  have HC := Lib.hid hcell
  clear hcell
  go_enter Try.func76, Try.ntmps76
  go_wp2_with fail
  go_loop [0, 11] (fun s i => ∃ k : Nat, k ≤ l.length ∧ s = .int .u64 (prodE first l k) ∧ i = .int .i64 k) (fun _ i => l.length - (intOf i).toNat)
  case atStart => exact ⟨0, by omega, rfl, rfl⟩
  case round =>
    obtain ⟨k, hk, rfl, rfl⟩ := hrel
    by_cases hlt : k < l.length
    · obtain ⟨b, off, rfl, _, hcells⟩ := HC.out (by omega)
      have hck := hcells k hlt
      have E1 : Hid (prodE first l (k + 1) = emul (prodE first l k) (l.getD k 0)) := by
        show prodE first l (k + 1) = _
        rfl
      clear hcells
      generalize hX : l.getD k 0 = X at *
      have HX := Lib.hid hX
      clear hX
      go_wp2_with (go_at_call 46; refine (etimes _ _ _).mono ?_; rintro e w' ⟨rfl, rfl⟩)
      go_round
      case rel => exact ⟨k + 1, by omega, by rw [E1.out], by go_num⟩
      case measure => simp [intOf]; omega
    · obtain rfl : k = l.length := by omega
      go_wp2_with fail
      go_ret
      exact ⟨rfl, rfl⟩
end Go.Proofs.Ytpfpokjaeffbjab.Sls
