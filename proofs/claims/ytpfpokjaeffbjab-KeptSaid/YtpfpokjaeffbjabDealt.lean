/- 'dealt': a group dealt out of numbers, and the chosen signers. -/
import Derived.Test.YtpfpokjaeffbjabDealsWalk
import Derived.Test.YtpfpokjaeffbjabDealtPlain
namespace Go.Proofs.Ytpfpokjaeffbjab.Dlt
open Go.RowKit Go.Proofs.Ytpfpokjaeffbjab.Pl Go.Proofs.Ytpfpokjaeffbjab.Dpl Go.Proofs.Ytpfpokjaeffbjab.Lag Go.Proofs.Ytpfpokjaeffbjab.Fld Go.Proofs.Ytpfpokjaeffbjab.Mem Go.Proofs.Ytpfpokjaeffbjab.Sls Go.Proofs.Ytpfpokjaeffbjab.Ver Go.Proofs.Ytpfpokjaeffbjab.Dea Go.Proofs.Ytpfpokjaeffbjab.Dtp

theorem info_int : (Try.prog.info? 3).map (fun i => (i.zero, i.size, i.bytes)) = some (some (.int .i64 0), 1, 8) := by kernel_rfl

/-- A row of numbers lies apart from a block that holds none of their kind. -/
theorem nums_apart {k : IntKind} {w w' : World} {B : Nat} {v : Value} {l : List Int} {g : Nat} {T : TypeId} {cs : Array Value} (h : Nums k w B v l) (hb : Blk w g T cs) (hcs : ∀ (i : Nat) (x : Int), cs[i]? ≠ some (.int k x))
    (hw : ∀ b, b ≠ g → w'.heap[b]? = w.heap[b]?) : Nums k w' B v l := by
  obtain ⟨A, c, rfl, hc, h⟩ := h
  refine ⟨A, c, rfl, hc, fun hl => ?_⟩
  obtain ⟨b, off, rfl, hB, h⟩ := h hl
  refine ⟨b, off, rfl, hB, fun i hi => ?_⟩
  have hne : b ≠ g := by
    rintro rfl
    have h1 := h i hi
    rw [hb.cell] at h1
    exact hcs _ _ h1
  exact (World.cell?_of_block (hw b hne)).trans (h i hi)
theorem set3_far (w : World) (g : Nat) (x y z : Value) (b : Nat) (h : b ≠ g) : (((w.setCell ⟨g, 0, none⟩ x).setCell ⟨g, 1, none⟩ y).setCell ⟨g, 2, none⟩ z).heap[b]? = w.heap[b]? :=
  ((Below.heap_setCell _ ⟨g, 2, none⟩ z b h).trans (Below.heap_setCell _ ⟨g, 1, none⟩ y b h)).trans (Below.heap_setCell _ ⟨g, 0, none⟩ x b h)
theorem ints_append (a : List Nat) (x : Nat) : ints (a ++ [x]) = ints a ++ [(x : Int)] := by simp [ints]
theorem no_u64 {t n : Int} {A : Option Addr} {l c : Nat} : ∀ (i : Nat) (x : Int), (#[.int .i64 t, .int .i64 n, .slice A l c] : Array Value)[i]? ≠ some (.int .u64 x) := by
  intro i x
  match i with
  | 0 => simp
  | 1 => simp
  | 2 => simp
  | i + 3 => simp

set_option maxRecDepth 100000 in
set_option maxHeartbeats 4000000 in
theorem dealtC (t n seed mask : Int) (w : World) (ht : -9223372036854775808 ≤ t ∧ t ≤ 9223372036854775807) (hn : -9223372036854775808 ≤ n ∧ n ≤ 9223372036854775807) (hs : 0 ≤ seed ∧ seed < 18446744073709551616) :
    Calls Try.prog 11 #[.int .i64 t, .int .i64 n, .int .u64 seed, .int .i64 mask] w fun e w' =>
      ∃ vc vs vi, e = .returned (.tuple #[.agg #[.int .i64 (tOf t n), .int .i64 (nOf n), vc], vs, vi, .bool true]) ∧
        Nums .u64 w' w'.heap.size vc (comms (cfs seed (tOf t n)) (cfs seed (tOf t n)).length) ∧ Nums .u64 w' w'.heap.size vs (sharesP (cfs seed (tOf t n)) (nOf n)) ∧ Nums .i64 w' w'.heap.size vi (ints (ids mask (tOf t n) (nOf n))) ∧ Below w.heap.size w w' := by
  have hN := nOf_bd n
  have hT := tOf_bd t n
  have hp1 := fun W => keepPick n 8 W hn.1 hn.2 (by omega)
  have hp2 := fun W => keepPick t ((nOf n : Int) - 1) W ht.1 ht.2 (by omega)
  have hE := Lib.hid (dealE_dealt (t := t) (n := n) seed)
  have hcb := Lib.hid (cfs_bd seed (tOf t n))
  have hlen := cfs_length seed (tOf t n)
  generalize nOf n = N at *
  generalize tOf t n = T at *
  generalize pickI n 8 = x1 at *
  generalize pickI t ((N : Int) - 1) = x2 at *
  obtain ⟨hN1, hN2, hN3⟩ := hN
  obtain ⟨hT1, hT2, hT3⟩ := hT
  have e1 : 2 + x1 = (N : Int) := hN3.symm
  have e2 : 2 + x2 = (T : Int) := hT3.symm
  have HP1 := Lib.hid hp1
  have HP2 := Lib.hid hp2
  have HLEN := Lib.hid hlen
  obtain ⟨hs0, hs1⟩ := hs
  obtain ⟨i1, hj, hy0, hy1, hy2⟩ := info_parts info_u64
  clear hp1 hp2 ht hn hlen hN3 hT3
  go_enter Try.func11, Try.ntmps11
  go_wp2_with fail
  refine (HP1.out _).mono ?_
  rintro e w' ⟨rfl, rfl⟩
  go_wp2_with fail
  refine (HP2.out _).mono ?_
  rintro e w' ⟨rfl, rfl⟩
  go_wp2_with fail
  go_loopw [12, 28] (fun v i wr => ∃ k : Nat, k ≤ T ∧ i = .int .i64 k ∧ wr.ownsRow w.heap.size 25 1 v k ((cfs seed k).map (Value.int .u64)) ∧ Blk wr w.heap.size 28 #[.int .i64 0, .int .i64 0, .slice none 0 0] ∧ Below w.heap.size w wr) (fun _ i _ => T - (intOf i).toNat)
  case atStart => exact ⟨0, by omega, rfl, World.ownsRow_nil _ _ _ _, Blk.new _ _ _, below_box _ _⟩
  case round =>
    obtain ⟨k, hk, rfl, hown, hblk, hbw⟩ := hrel
    have HO := Lib.hid hown
    clear hown
    by_cases hlt : k < T
    · have hkk : (k : Int) * (k : Int) ≤ 9 * 9 := Int.mul_le_mul (show (k : Int) ≤ 9 by omega) (show (k : Int) ≤ 9 by omega) (show (0 : Int) ≤ (k : Int) by omega) (by decide)
      have hk0 : 0 ≤ (k : Int) * (k : Int) := Int.mul_nonneg (by omega) (by omega)
      have hst := Lib.hid (cfs_step seed k)
      have hcf : Hid (cf seed k = kscalar (IntKind.u64.wrap (IntKind.u64.wrap (seed * (2 * (k : Int) + 1)) + (k : Int) * (k : Int)))) := by
        show cf seed k = _
        rfl
      have hnn := u64_nonneg (IntKind.u64.wrap (seed * (2 * (k : Int) + 1)) + (k : Int) * (k : Int))
      go_wp2_with (first | (go_at_call 21; refine (keepScalar _ _ hnn).mono ?_; rintro e w' ⟨rfl, rfl⟩) | (at_builtin; rw [← hcf.out]; refine wpList_append_own _ rfl (.tmp 31) (.tmp 44) _ rfl w.heap.size 25 i1 (.int .u64 0) 1 8 Try.underlying26 hj hy0 hy1 hy2 rfl (by decide) _ _ _ rfl (HO.out.alloc _) ⟨wr.heap.size, 0, none⟩ 1 1 [.int .u64 (cf seed k)] rfl rfl (cell_one_new _ _ _) (by simp [Value.oneCell']) (by unfold maxLen; omega) (by omega) (by have := hbw.size; simp; omega) ?_; intro v1 w1 hown1 hgrow1 _))
      refine ⟨⟨k + 1, by omega, by go_num, by rw [hst.out, List.map_append]; exact hown1, blk_grown hblk HO.out (by decide) hgrow1, below_grown hbw HO.out hbw.size hgrow1⟩, by simp [intOf]; omega⟩
    · obtain rfl : k = T := by omega
      have hv := Nums.own (l := cfs seed k) (by rw [HLEN.out]; exact HO.out)
      have hdl := DealsW.dealC k N (cfs seed k) u12 wr hv (by rw [HLEN.out]; omega) (fun i hi => by have := hcb.out i hi; omega)
      have HDL := Lib.hid hdl
      clear hv hdl
      go_wp2_with fail
      refine HDL.out.mono ?_
      rintro e w2 ⟨hb2, ⟨hne, rfl⟩ | ⟨h0, vc, vs, rfl, hc, hsn⟩⟩
      · exact absurd hE.out hne
      have hblk2 := hblk.below hb2 hblk.lt
      have hbw2 := hbw.trans (hb2.mono hbw.size)
      rw [Int.toNat_natCast] at hsn
      obtain ⟨A1, c1, rfl⟩ := Lev.nums_shape hc
      obtain ⟨A2, c2, rfl⟩ := Lev.nums_shape hsn
      have l1 : (comms (cfs seed k) (cfs seed k).length).length = k := by rw [comms_length _ (Nat.le_refl _), HLEN.out]
      have l2 : (sharesP (cfs seed k) N).length = N := sharesP_length _ _
      rw [l1, l2]
      have HC := Lib.hid hc
      have HS := Lib.hid hsn
      have HB2 := Lib.hid hblk2
      have HW2 := Lib.hid hbw2
      have n1 : ((N : Int) != (N : Int)) = false := by rw [bne_eq_false_iff_eq]
      have n2 : ((k : Int) != (k : Int)) = false := by rw [bne_eq_false_iff_eq]
      have n3 : ((0 : Int) != 0) = false := rfl
      clear hc hsn hblk2 hbw2 hblk hbw hb2 HO HDL
      obtain ⟨i0, hi, hz0, hz1, hz2⟩ := info_parts info_int
      have hlv : (comms (cfs seed k) (cfs seed k).length).length = k := l1
      rw [l1] at HC
      rw [l2] at HS
      go_wp2_with fail
      go_loopw [17, 18] (fun v i wr => ∃ j : Nat, j ≤ N ∧ i = .int .i64 ((j : Int) + 1) ∧ wr.ownsRow w2.heap.size 3 1 v (idsTo mask k N j).length ((ints (idsTo mask k N j)).map (Value.int .i64)) ∧
        Blk wr w2.heap.size 28 #[.int .i64 k, .int .i64 N, .slice A1 k c1] ∧ Below w2.heap.size w2 wr) (fun _ i _ => ((N : Int) + 1 - intOf i).toNat)
      case atStart => exact ⟨0, by omega, rfl, World.ownsRow_nil _ _ _ _, Blk.new _ _ _, below_box _ _⟩
      case round =>
        obtain ⟨j, hj', rfl, hown, hblk, hbwr⟩ := hrel
        have HO := Lib.hid hown
        obtain ⟨A3, c3, rfl⟩ := own_shape hown
        have hll := idsTo_le mask k N j
        have hst : Hid (idsTo mask k N (j + 1) = if bitAt mask (j + 1) || decide ((idsTo mask k N j).length + N < k + (j + 1)) then idsTo mask k N j ++ [j + 1] else idsTo mask k N j) := by
          show idsTo mask k N (j + 1) = _
          rfl
        have hba : Hid (bitAt mask (j + 1) = (bits BinOp.and IntKind.i64 (mask / 2 ^ (j + 1)) 1 == 1)) := by
          show bitAt mask (j + 1) = _
          rfl
        clear hown
        by_cases hjN : j < N
        · have q1 : (j : Int) + 1 ≤ (N : Int) := by omega
          have q2 : ((j : Int) + 1).toNat = j + 1 := by omega
          have q3 : (0 : Int) ≤ (j : Int) + 1 := by omega
          obtain ⟨bb, hbb⟩ : ∃ bb, (bits BinOp.and IntKind.i64 (mask / 2 ^ (j + 1)) 1 == 1) = bb := ⟨_, rfl⟩
          have hba2 : Hid (bitAt mask (j + 1) = bb) := by
            show bitAt mask (j + 1) = bb
            rw [hba.out, hbb]
          have happ : bb = true ∨ (idsTo mask k N j).length + N < k + (j + 1) → Hid (idsTo mask k N (j + 1) = idsTo mask k N j ++ [j + 1]) := fun h => by
            show idsTo mask k N (j + 1) = _
            rw [hst.out, hba2.out, if_pos]
            rw [Bool.or_eq_true, decide_eq_true_iff]
            exact h
          have HAPP := Lib.hid happ
          have hsame : bb = false → ¬ (idsTo mask k N j).length + N < k + (j + 1) → Hid (idsTo mask k N (j + 1) = idsTo mask k N j) := fun h1 h2 => by
            show idsTo mask k N (j + 1) = _
            rw [hst.out, hba2.out, if_neg]
            rw [Bool.or_eq_true, decide_eq_true_iff, h1]
            rintro (h | h)
            · cases h
            · exact h2 h
          have HSAME := Lib.hid hsame
          clear happ hsame
          cases bb
          case true =>
            have hap := HAPP.out (.inl rfl)
            go_wp2_with (at_builtin; refine wpList_append_own _ rfl (.tmp 92) (.tmp 94) _ rfl w2.heap.size 3 i0 (.int .i64 0) 1 8 Try.underlying29 hi hz0 hz1 hz2 rfl (by decide) _ _ _ rfl (HO.out.alloc _) ⟨wr.heap.size, 0, none⟩ 1 1 [.int .i64 ((j : Int) + 1)] rfl rfl (cell_one_new _ _ _) (by simp [Value.oneCell']) (by unfold maxLen; omega) (by omega) (by have := hbwr.size; simp; omega) ?_; intro v1 w1 hown1 hgrow1 _)
            refine ⟨⟨j + 1, by omega, by go_num, ?_, blk_grown hblk HO.out (by decide) hgrow1, below_grown hbwr HO.out hbwr.size hgrow1⟩, by simp [intOf]; omega⟩
            rw [hap.out, List.length_append, ints_append, List.map_append]
            exact hown1
          case false =>
            by_cases hle : (idsTo mask k N j).length + N < k + (j + 1)
            · have hap := HAPP.out (.inr hle)
              go_wp2_with (at_builtin; refine wpList_append_own _ rfl (.tmp 92) (.tmp 94) _ rfl w2.heap.size 3 i0 (.int .i64 0) 1 8 Try.underlying29 hi hz0 hz1 hz2 rfl (by decide) _ _ _ rfl (HO.out.alloc _) ⟨wr.heap.size, 0, none⟩ 1 1 [.int .i64 ((j : Int) + 1)] rfl rfl (cell_one_new _ _ _) (by simp [Value.oneCell']) (by unfold maxLen; omega) (by omega) (by have := hbwr.size; simp; omega) ?_; intro v1 w1 hown1 hgrow1 _)
              refine ⟨⟨j + 1, by omega, by go_num, ?_, blk_grown hblk HO.out (by decide) hgrow1, below_grown hbwr HO.out hbwr.size hgrow1⟩, by simp [intOf]; omega⟩
              rw [hap.out, List.length_append, ints_append, List.map_append]
              exact hown1
            · have hsm := HSAME.out rfl hle
              go_wp2_with fail
              refine ⟨⟨j + 1, by omega, by go_num, by rw [hsm.out]; exact HO.out, hblk, hbwr⟩, by simp [intOf]; omega⟩
        · obtain rfl : j = N := by omega
          have hblk2 := HB2.out.below hbwr HB2.out.lt
          have c0 : wr.cell? ⟨w2.heap.size, 0, none⟩ = some (.int .i64 k) := hblk.cell 0
          have c1' : wr.cell? ⟨w2.heap.size, 1, none⟩ = some (.int .i64 j) := hblk.cell 1
          have c2' : wr.cell? ⟨w2.heap.size, 2, none⟩ = some (.slice A1 k c1) := hblk.cell 2
          have d0 : wr.cell? ⟨w.heap.size, 0, none⟩ = some (.int .i64 0) := hblk2.cell 0
          have d1 : wr.cell? ⟨w.heap.size, 1, none⟩ = some (.int .i64 0) := hblk2.cell 1
          have d2 : wr.cell? ⟨w.heap.size, 2, none⟩ = some (.slice none 0 0) := hblk2.cell 2
          have f0 := hblk2.frozen 0
          have f1 := hblk2.frozen 1
          have f2 := hblk2.frozen 2
          have hbf := HW2.out.trans (hbwr.mono HW2.out.size)
          have HBF := Lib.hid hbf
          have hq := Lib.hid (HC.out.later hbwr)
          have hq2 := Lib.hid (HS.out.later hbwr)
          have hq3 := Lib.hid (Nums.own (l := ints (idsTo mask k j j)) (by rw [ints_length]; exact HO.out))
          have hlen3 := ints_length (idsTo mask k j j)
          have HL3 := Lib.hid hlen3
          clear hbf hlen3
          go_wp2_with fail
          refine bodyPost_ret (v := .tuple #[.agg #[.int .i64 k, .int .i64 j, .slice A1 k c1], .slice A2 j c2, .slice A3 (idsTo mask k j j).length c3, .bool true]) (by simp [results, Try.results11, go_sem, World.cell?_setCell_same, World.cell?_setCell_other, d0, d1, d2]) rfl ?_
          refine ⟨_, _, _, rfl, ?_, ?_, ?_, ((HBF.out.setCell (Nat.le_refl _) _).setCell (Nat.le_refl _) _).setCell (Nat.le_refl _) _⟩
          · exact nums_apart (by simpa using hq.out) hblk2 no_u64 (set3_far _ _ _ _ _)
          · exact nums_apart (by simpa using hq2.out) hblk2 no_u64 (set3_far _ _ _ _ _)
          · have o3 := own_far (own_far (own_far HO.out hblk2 (by decide) 0 (.int .i64 k)) (hblk2.set_ 0 (.int .i64 k)) (by decide) 1 (.int .i64 j)) ((hblk2.set_ 0 (.int .i64 k)).set_ 1 (.int .i64 j)) (by decide) 2 (.slice A1 k c1)
            exact Nums.own (by rw [show (ints (ids mask k j)).length = (idsTo mask k j j).length from HL3.out]; exact o3)
end Go.Proofs.Ytpfpokjaeffbjab.Dlt
