/- Unpack: the reference's. -/
import Derived.Test.YtpfpokjaeffbjaaUnpack
import Derived.Deep.DeepCutAuto
import Derived.Deep.RegionLaw
namespace Go.Proofs.Ytpfpokjaeffbjaa.Run
open Go.RowKit Go.Proofs.Ytpfpokjaeffbjaa.Pl Go.Proofs.Ytpfpokjaeffbjaa.Fld Go.Proofs.Ytpfpokjaeffbjaa.Mem Go.Proofs.Ytpfpokjaeffbjaa.Upl Go.Proofs.Ytpfpokjaeffbjaa.Ver Go.Proofs.Ytpfpokjaeffbjaa.Unp
attribute [local go_sem ↓] Go.wp_at_zero Go.wp_at_succ

theorem cell_drewN (w : World) (n : Nat) (a : Addr) : (w.drewN n).cell? a = w.cell? a := rfl
theorem frozen_drewN (w : World) (n : Nat) (a : Addr) : (w.drewN n).frozen? a = w.frozen? a := rfl
theorem size_drewN (w : World) (n : Nat) : (w.drewN n).heap.size = w.heap.size := rfl
theorem alloc_drewN (w : World) (n : Nat) (o : Obj) : (w.drewN n).alloc o = (w.alloc o).drewN n := rfl
attribute [local go_sem] cell_drewN frozen_drewN size_drewN alloc_drewN
theorem refNcIs (b : Bool) (n : Int) (w : World) (h0 : 0 ≤ n) (h : isNc n = b) :
    Calls Try.prog 49 #[.int .u64 n] w fun e w' => e = .returned (.bool b) ∧ w = w' := by
  subst h; exact refNonce n w h0
theorem new_set3 (wo : World) (T : TypeId) (a b c x y z : Value) (n : Nat) :
    Blk (((((wo.alloc (.cells #[a, b, c] T)).drewN n).setCell ⟨wo.heap.size, 0, none⟩ x).setCell ⟨wo.heap.size, 1, none⟩ y).setCell ⟨wo.heap.size, 2, none⟩ z) wo.heap.size T #[x, y, z] ∧
    Below wo.heap.size wo (((((wo.alloc (.cells #[a, b, c] T)).drewN n).setCell ⟨wo.heap.size, 0, none⟩ x).setCell ⟨wo.heap.size, 1, none⟩ y).setCell ⟨wo.heap.size, 2, none⟩ z) :=
  ⟨((((Blk.new wo T #[a, b, c]).drewN n).set_ 0 x).set_ 1 y).set_ 2 z,
    (((below_drewN (below_box wo _) n).setCell (p := ⟨wo.heap.size, 0, none⟩) (Nat.le_refl _) x).setCell (p := ⟨wo.heap.size, 1, none⟩) (Nat.le_refl _) y).setCell (p := ⟨wo.heap.size, 2, none⟩) (Nat.le_refl _) z⟩
set_option maxHeartbeats 1000000 in
theorem numberC (t : ByteArray) (w : World) (h : 4 ≤ t.size) (hm : t.size ≤ 1000000) :
    Calls Try.prog 48 #[.string t] w fun e w' => e = .returned (.int .u64 (num t 0 4)) ∧ ∃ n, w' = w.drewN n := by
  have g0 : ((t[0]'(by omega)).toNat : Int) = byteAt t 0 := byteAt_get _ _ _
  have g1 : ((t[1]'(by omega)).toNat : Int) = byteAt t 1 := byteAt_get _ _ _
  have g2 : ((t[2]'(by omega)).toNat : Int) = byteAt t 2 := byteAt_get _ _ _
  have g3 : ((t[3]'(by omega)).toNat : Int) = byteAt t 3 := byteAt_get _ _ _
  have d0 := byteAt_bd t 0
  have d1 := byteAt_bd t 1
  have d2 := byteAt_bd t 2
  have d3 := byteAt_bd t 3
  have HN := Lib.hid (num4 t 0)
  simp only [Nat.zero_add] at HN
  generalize byteAt t 0 = b0 at *
  generalize byteAt t 1 = b1 at *
  generalize byteAt t 2 = b2 at *
  generalize byteAt t 3 = b3 at *
  have s1 : IntKind.u64.wrap (256 * b3) = 256 * b3 := u64_id (by omega) (by omega)
  have s2 : IntKind.u64.wrap (b2 + 256 * b3) = b2 + 256 * b3 := u64_id (by omega) (by omega)
  have s3 : IntKind.u64.wrap (256 * (b2 + 256 * b3)) = 256 * (b2 + 256 * b3) := u64_id (by omega) (by omega)
  have s4 : IntKind.u64.wrap (b1 + 256 * (b2 + 256 * b3)) = b1 + 256 * (b2 + 256 * b3) := u64_id (by omega) (by omega)
  have s5 : IntKind.u64.wrap (256 * (b1 + 256 * (b2 + 256 * b3))) = 256 * (b1 + 256 * (b2 + 256 * b3)) := u64_id (by omega) (by omega)
  have s6 : IntKind.u64.wrap (b0 + 256 * (b1 + 256 * (b2 + 256 * b3))) = b0 + 256 * (b1 + 256 * (b2 + 256 * b3)) := u64_id (by omega) (by omega)
  have q0 : (0 : Int) < (t.size : Int) := by omega
  have q1 : (1 : Int) < (t.size : Int) := by omega
  have q2 : (2 : Int) < (t.size : Int) := by omega
  have q3 : (3 : Int) < (t.size : Int) := by omega
  go_enter Try.func48, Try.ntmps48
  go_wp2_with fail
  go_quiet (fail)
  go_wp2_with fail
  go_ret
  exact ⟨by rw [HN.out]; rfl, _, rfl⟩

set_option maxRecDepth 100000 in
set_option maxHeartbeats 16000000 in
theorem refUnpackC (s : ByteArray) (w : World) (hs : s.size ≤ maxLen) :
    Calls Try.prog 22 #[.string s] w (UnpackPost s w) := by
  unfold maxLen at hs
  by_cases c1 : s.size % 9 = 0
  case neg =>
    have hE := Lib.hid (upE_len s (fun h => c1 h.1))
    have t1 : (0 : Int) < (s.size : Int) % 9 := by omega
    go_enter Try.func22, Try.ntmps22
    go_wp2_with fail
    go_ret2
    exact ⟨Below.refl _ _, .inl ⟨by rw [hE.out]; omega, by rw [hE.out]; rfl⟩⟩
  have t1 : ¬ (0 : Int) < (s.size : Int) % 9 := by omega
  by_cases c2 : 81 < s.size
  case pos =>
    have hE := Lib.hid (upE_len s (fun h => by omega))
    clear c1
    go_enter Try.func22, Try.ntmps22
    go_wp2_with fail
    go_ret2
    exact ⟨Below.refl _ _, .inl ⟨by rw [hE.out]; omega, by rw [hE.out]; rfl⟩⟩
  have C1 := Lib.hid c1
  clear c1
  obtain ⟨i0, hi, hz0, hz1, hz2⟩ := info_parts info_com
  go_enter Try.func22, Try.ntmps22
  go_wp2_with fail
  go_loopw [0, 4] (fun x v wr => RUnInv s w x v wr) (fun x _ _ => strSize x)
  case atStart => exact ⟨0, s, rfl, Tail.zero s, rfl, World.ownsRow_nil _ _ _ _, Below.refl _ _⟩
  case round =>
    obtain ⟨k, t, rfl, htail, herr, hown, hbw⟩ := hrel
    have HT := Lib.hid htail
    have HE := Lib.hid herr
    have HO := Lib.hid hown
    have hsz := htail.1
    clear htail herr hown
    by_cases h0 : t.size = 0
    · have hl : t.toList = [] := by
        rw [ByteArray.toList_eq]
        exact List.eq_nil_of_length_eq_zero (by rw [Array.length_toList]; exact h0)
      have hk : 9 * k = s.size := by omega
      have HU := Lib.hid (upE_ok s C1.out (by omega) hk HE.out)
      have hk9 : Hid (s.size / 9 = k) := by
        show s.size / 9 = k
        omega
      have hcm := Coms.own (l := pieces s k) (by rw [pieces_length]; exact HO.out)
      have HCM := Lib.hid hcm
      clear hcm hk
      go_wp2_with fail
      go_ret2
      exact ⟨hbw, .inr ⟨HU.out, _, rfl, by rw [hk9.out]; exact HCM.out⟩⟩
    · have h9 : 9 ≤ t.size := by have := C1.out; omega
      have hl : t.toList.isEmpty = false := by
        rw [ByteArray.toList_eq]
        cases h : t.data.toList with
        | nil => exact absurd (show t.data.size = 0 by rw [← Array.length_toList, h]; rfl) h0
        | cons a l => rfl
      have hb0 : ((t[0]'(by omega)).toNat : Int) = byteAt s (9 * k) := by rw [byteAt_get, HT.out.2, Nat.add_zero]
      have bd0 := byteAt_bd s (9 * k)
      have n1 : Hid (num (t.extract 1 t.size) 0 4 = num s (9 * k + 1) 4) := by
        show num (t.extract 1 t.size) 0 4 = _
        exact num_tail HT.out (by omega)
      have n5 : Hid (num (t.extract 5 t.size) 0 4 = num s (9 * k + 5) 4) := by
        show num (t.extract 5 t.size) 0 4 = _
        exact num_tail HT.out (by omega)
      have z1 : (t.extract 1 t.size).size = t.size - 1 := size_extract _ _
      have z5 : (t.extract 5 t.size).size = t.size - 5 := size_extract _ _
      have Z1 := Lib.hid z1
      have Z5 := Lib.hid z5
      have q0 : 0 < t.size := by omega
      have q1 : (1 : Int) ≤ (t.size : Int) := by omega
      have q5 : (5 : Int) ≤ (t.size : Int) := by omega
      have wb : IntKind.i64.wrap (byteAt s (9 * k)) = byteAt s (9 * k) := by rw [IntKind.wrap_i64]; omega
      obtain ⟨wo, rfl⟩ : ∃ wo : World, wo = wr := ⟨_, rfl⟩
      clear h0 z1 z5
      go_upto_region 6 with fail
      go_cut [5] (fun p wx => p = .pointer (some ⟨wo.heap.size, 0, none⟩) ∧ Blk wx wo.heap.size 52 #[.int .i64 (byteAt s (9 * k)), .int .u64 (num s (9 * k + 1) 4), .int .u64 (num s (9 * k + 5) 4)] ∧ Below wo.heap.size wo wx)
      case first =>
        go_region_law ((go_simp; refine (numberC _ _ (by first | (rw [Z1.out]; omega) | (rw [Z5.out]; omega)) (by first | (rw [Z1.out]; omega) | (rw [Z5.out]; omega))).mono ?_; rintro e w' ⟨rfl, nq, rfl⟩))
        all_goals
          go_wp2_with fail
          go_meet
          rw [n1.out, n5.out]
          exact ⟨rfl, new_set3 wo _ _ _ _ _ _ _ _⟩
      case rest =>
        obtain ⟨rfl, hblk, hbwr⟩ := hcut
        rename World => wr
        have hbwf := hbw.trans (hbwr.mono hbw.size)
        have hOF := own_below HO.out hbwr (Nat.le_refl _)
        obtain ⟨A4, c4, rfl⟩ := own_shape hOF
        have HOF := Lib.hid hOF
        have bdd := num4_bd s (9 * k + 1)
        have bde := num4_bd s (9 * k + 5)
        have eAt : Hid (upAt s k = if byteAt s (9 * k) < 1 ∨ 9 < byteAt s (9 * k) then 5 else if 0 < k ∧ byteAt s (9 * k) ≤ (piece s (k - 1)).id then 6
          else if isNc (num s (9 * k + 1) 4) = false ∨ isNc (num s (9 * k + 5) 4) = false then 3 else 0) := by
          show upAt s k = _
          rfl
        have ePc : Hid (piece s k = ⟨byteAt s (9 * k), num s (9 * k + 1) 4, num s (9 * k + 5) 4⟩) := by
          show piece s k = _
          rfl
        have fin : ∀ x : Int, upAt s k = x → x ≠ 0 → Hid (upE s = x) := fun x hx hn => upE_at s C1.out (by omega) (by omega) HE.out hx hn
        have FIN := Lib.hid fin
        clear fin hOF hb0 n1 n5 wb
        generalize byteAt s (9 * k) = x at *
        generalize num s (9 * k + 1) 4 = D at *
        generalize num s (9 * k + 5) 4 = E at *
        obtain ⟨D0, D1⟩ := bdd
        obtain ⟨E0, E1'⟩ := bde
        have hc0 : wr.cell? ⟨wo.heap.size, 0, none⟩ = some (.int .i64 x) := hblk.cell 0
        have hc1 : wr.cell? ⟨wo.heap.size, 1, none⟩ = some (.int .u64 D) := hblk.cell 1
        have hc2 : wr.cell? ⟨wo.heap.size, 2, none⟩ = some (.int .u64 E) := hblk.cell 2
        by_cases d1 : x < 1 ∨ 9 < x
        case pos =>
          have hF := FIN.out 5 (by rw [eAt.out, if_pos d1]) (by omega)
          rcases d1 with d1 | d1
          · go_wp2_with fail
            go_ret2
            exact ⟨hbwf, .inl ⟨by rw [hF.out]; omega, by rw [hF.out]; rfl⟩⟩
          · have d2 : ¬ x < 1 := by omega
            go_wp2_with fail
            go_ret2
            exact ⟨hbwf, .inl ⟨by rw [hF.out]; omega, by rw [hF.out]; rfl⟩⟩
        have d2 : ¬ x < 1 := by omega
        have d3 : ¬ 9 < x := by omega
        have fin3 : ¬ (0 < k ∧ x ≤ (piece s (k - 1)).id) → (isNc D = false ∨ isNc E = false) → Hid (upE s = 3) := fun h0 h => FIN.out 3 (by rw [eAt.out, if_neg d1, if_neg h0, if_pos h]) (by omega)
        have st3 : ¬ (0 < k ∧ x ≤ (piece s (k - 1)).id) → isNc D = true → isNc E = true → upErr s (k + 1) = 0 := fun h0 h1 h2 => by
          rw [upErr, if_pos HE.out, eAt.out, if_neg d1, if_neg h0, if_neg (by rw [h1, h2]; simp)]
        have FIN30 := Lib.hid fin3
        have ST3 := Lib.hid st3
        clear fin3 st3
        by_cases hk0 : 0 < k
        · have hcm := Coms.own (l := pieces s k) (by rw [pieces_length]; exact HOF.out)
          obtain ⟨gb, goff, rfl, hgb, hgc⟩ := hcm.at_ (by rw [pieces_length]; exact hk0)
          have hprev := (hgc (k - 1) (by rw [pieces_length]; omega)).1
          rw [pieces_last s k (k - 1) (by omega)] at hprev
          generalize hP : (piece s (k - 1)).id = p at *
          have HPP := Lib.hid hP
          clear hgc hcm hP
          have hg0 : decide ((0 : Int) < (k : Int)) = true := by simp; omega
          have w1 : IntKind.i64.wrap ((k : Int) - 1) = (k : Int) - 1 := by rw [IntKind.wrap_i64]; omega
          have w2 : (0 : Int) ≤ (k : Int) - 1 := by omega
          have w3 : ((k : Int) - 1).toNat = k - 1 := by omega
          by_cases d4 : x ≤ p
          case pos =>
            have hF := FIN.out 6 (by rw [eAt.out, if_neg d1, if_pos ⟨hk0, d4⟩]) (by omega)
            clear d1
            go_wp2_with fail
            go_quiet (fail)
            go_wp2_with fail
            go_ret2
            exact ⟨below_drewN hbwf _, .inl ⟨by rw [hF.out]; omega, by rw [hF.out]; rfl⟩⟩
          have hnot : ¬ (0 < k ∧ x ≤ p) := fun h => d4 h.2
          have FIN3 := Lib.hid (FIN30.out hnot)
          have ST := Lib.hid (ST3.out hnot)
          clear hnot
          obtain ⟨b1, e1⟩ : ∃ b, isNc D = b := ⟨_, rfl⟩
          obtain ⟨b2, e2⟩ : ∃ b, isNc E = b := ⟨_, rfl⟩
          have F1 := Lib.hid e1
          have F2 := Lib.hid e2
          clear e1 e2 d1
          go_wp2_with fail
          go_quiet (fail)
          go_wp2_with fail
          refine (refNcIs _ D _ D0 F1.out).mono ?_
          rintro e w' ⟨rfl, rfl⟩
          cases b1
          case false =>
            have hF := FIN3.out (.inl F1.out)
            go_wp2_with fail
            go_ret2
            exact ⟨below_drewN hbwf _, .inl ⟨by rw [hF.out]; omega, by rw [hF.out]; rfl⟩⟩
          cases b2
          case false =>
            have hF := FIN3.out (.inr F2.out)
            go_wp2_with fail
            refine (refNcIs _ E _ E0 F2.out).mono ?_
            rintro e w' ⟨rfl, rfl⟩
            go_wp2_with fail
            go_ret2
            exact ⟨below_drewN hbwf _, .inl ⟨by rw [hF.out]; omega, by rw [hF.out]; rfl⟩⟩
          have hst := Lib.hid (ST.out F1.out F2.out)
          have hlt := hblk.lt
          have h81 : k ≤ 9 := by omega
          have T9 := Lib.hid (HT.out.next h9)
          have q9 : (9 : Int) ≤ (t.size : Int) := by omega
          go_wp2_with fail
          refine (refNcIs _ E _ E0 F2.out).mono ?_
          rintro e w' ⟨rfl, rfl⟩
          go_wp2_with (at_builtin; refine wpList_append_own _ rfl (.tmp 62) (.tmp 64) _ rfl w.heap.size 52 i0 (.agg #[.int .i64 0, .int .u64 0, .int .u64 0]) 3 24 Try.underlying26 hi hz0 hz1 hz2 rfl (by decide) _ _ _ rfl ((ownsRow_drewN HOF.out nq).alloc _) ⟨wr.heap.size, 0, none⟩ 1 1 [.int .i64 x, .int .u64 D, .int .u64 E] rfl rfl (World.news_of_block (heap_alloc_new _ _)) (by simp [Value.oneCell']) (by unfold maxLen; omega) (by omega) (by have := hbwf.size; simp; omega) ?_; intro v1 w1 hown1 hgrow1 _)
          have hbw1 := below_grown (below_drewN hbwf nq) (ownsRow_drewN HOF.out nq) hbwf.size hgrow1
          have hO1 : w1.ownsRow w.heap.size 52 3 v1 (k + 1) (comCells (pieces s (k + 1))) := by
            rw [pieces_step, comCells_append, ePc.out, comCells_one]
            exact hown1
          have HO1 := Lib.hid hO1
          clear hown1 hgrow1 hO1
          go_wp2_with fail
          refine ⟨⟨k + 1, _, rfl, T9.out, hst.out, HO1.out, hbw1⟩, ?_⟩
          simp [strSize]; omega
        · have hg0 : decide ((0 : Int) < (k : Int)) = false := by simp; omega
          have hnot : ¬ (0 < k ∧ x ≤ (piece s (k - 1)).id) := (fun h => hk0 h.1)
          have FIN3 := Lib.hid (FIN30.out hnot)
          have ST := Lib.hid (ST3.out hnot)
          clear hnot
          obtain ⟨b1, e1⟩ : ∃ b, isNc D = b := ⟨_, rfl⟩
          obtain ⟨b2, e2⟩ : ∃ b, isNc E = b := ⟨_, rfl⟩
          have F1 := Lib.hid e1
          have F2 := Lib.hid e2
          clear e1 e2 d1
          go_wp2_with fail
          go_quiet (fail)
          go_wp2_with fail
          refine (refNcIs _ D _ D0 F1.out).mono ?_
          rintro e w' ⟨rfl, rfl⟩
          cases b1
          case false =>
            have hF := FIN3.out (.inl F1.out)
            go_wp2_with fail
            go_ret2
            exact ⟨below_drewN hbwf _, .inl ⟨by rw [hF.out]; omega, by rw [hF.out]; rfl⟩⟩
          cases b2
          case false =>
            have hF := FIN3.out (.inr F2.out)
            go_wp2_with fail
            refine (refNcIs _ E _ E0 F2.out).mono ?_
            rintro e w' ⟨rfl, rfl⟩
            go_wp2_with fail
            go_ret2
            exact ⟨below_drewN hbwf _, .inl ⟨by rw [hF.out]; omega, by rw [hF.out]; rfl⟩⟩
          have hst := Lib.hid (ST.out F1.out F2.out)
          have hlt := hblk.lt
          have h81 : k ≤ 9 := by omega
          have T9 := Lib.hid (HT.out.next h9)
          have q9 : (9 : Int) ≤ (t.size : Int) := by omega
          go_wp2_with fail
          refine (refNcIs _ E _ E0 F2.out).mono ?_
          rintro e w' ⟨rfl, rfl⟩
          go_wp2_with (at_builtin; refine wpList_append_own _ rfl (.tmp 62) (.tmp 64) _ rfl w.heap.size 52 i0 (.agg #[.int .i64 0, .int .u64 0, .int .u64 0]) 3 24 Try.underlying26 hi hz0 hz1 hz2 rfl (by decide) _ _ _ rfl ((ownsRow_drewN HOF.out nq).alloc _) ⟨wr.heap.size, 0, none⟩ 1 1 [.int .i64 x, .int .u64 D, .int .u64 E] rfl rfl (World.news_of_block (heap_alloc_new _ _)) (by simp [Value.oneCell']) (by unfold maxLen; omega) (by omega) (by have := hbwf.size; simp; omega) ?_; intro v1 w1 hown1 hgrow1 _)
          have hbw1 := below_grown (below_drewN hbwf nq) (ownsRow_drewN HOF.out nq) hbwf.size hgrow1
          have hO1 : w1.ownsRow w.heap.size 52 3 v1 (k + 1) (comCells (pieces s (k + 1))) := by
            rw [pieces_step, comCells_append, ePc.out, comCells_one]
            exact hown1
          have HO1 := Lib.hid hO1
          clear hown1 hgrow1 hO1
          go_wp2_with fail
          refine ⟨⟨k + 1, _, rfl, T9.out, hst.out, HO1.out, hbw1⟩, ?_⟩
          simp [strSize]; omega
end Go.Proofs.Ytpfpokjaeffbjaa.Run
