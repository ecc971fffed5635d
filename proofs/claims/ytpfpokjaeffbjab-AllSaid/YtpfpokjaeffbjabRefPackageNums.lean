/- The reference's packages: binding factors, parts, their product. -/
import Derived.Test.YtpfpokjaeffbjabRefPackage
namespace Go.Proofs.Ytpfpokjaeffbjab.Rkg
open Go.RowKit Go.Proofs.Ytpfpokjaeffbjab.Pl Go.Proofs.Ytpfpokjaeffbjab.Dpl Go.Proofs.Ytpfpokjaeffbjab.Gpl Go.Proofs.Ytpfpokjaeffbjab.Kpl Go.Proofs.Ytpfpokjaeffbjab.Fld Go.Proofs.Ytpfpokjaeffbjab.Mem Go.Proofs.Ytpfpokjaeffbjab.Ver Go.Proofs.Ytpfpokjaeffbjab.Sls Go.Proofs.Ytpfpokjaeffbjab.Rhs Go.Proofs.Ytpfpokjaeffbjab.Grp
set_option linter.unusedVariables false
theorem nums_at {k : IntKind} {w : World} {B : Nat} {A : Option Addr} {n c : Nat} {l : List Int} (h : Nums k w B (.slice A n c) l) (hp : 0 < l.length) :
    ∃ b off, A = some ⟨b, off, none⟩ ∧ b < B ∧ ∀ i, i < l.length → w.cell? ⟨b, off + i, none⟩ = some (.int k (l.getD i 0)) := by
  obtain ⟨A', c', hv, _, h⟩ := h
  obtain ⟨b, off, hA, r⟩ := h hp
  have : A = A' := by injection hv
  exact ⟨b, off, this.trans hA, r⟩
section
variable {w : World} {p : Nat} {vc lv vi : Value} {t n : Int} {cs : List Int} {l : List Cm} {msg : ByteArray}

set_option maxRecDepth 100000 in
set_option maxHeartbeats 4000000 in
theorem refBindC (h : RPk w p vc lv vi t n cs l msg) (hgd : Kpl.Good n l) (hn : n ≤ 9) (hl9 : l.length ≤ 9) (hcl : 0 < cs.length) (hc0 : 0 ≤ cs.getD 0 0 ∧ cs.getD 0 0 < 18446744073709551616) (hms : msg.size ≤ 1000000) {k : Nat} (hk : k < l.length) :
    Calls Try.prog 102 #[.pointer (some ⟨p, 0, none⟩), .int .i64 k] w fun e w' => e = .returned (.int .u64 (bindP l (cs.getD 0 0) msg k)) ∧ Below w.heap.size w w' := by
  obtain ⟨p2, p3, p4, p5⟩ := h.cells
  obtain ⟨A, c, rfl⟩ := h.coms.shape
  obtain ⟨A1, c1, rfl⟩ := Lev.nums_shape h.nums
  obtain ⟨b, off, rfl, hb, hc⟩ := h.coms.at_ (by omega)
  obtain ⟨b1, off1, rfl, hb1, hcc⟩ := nums_at h.nums hcl
  have z0 := hcc 0 hcl
  rw [Nat.add_zero] at z0
  obtain ⟨x0, x1, x2⟩ := hc k hk
  have hp := h.pk.lt
  have hgk := hgd k hk
  have H := Lib.hid h
  have HC := Lib.hid hc
  have HG := Lib.hid hgd
  have HBD := Lib.hid (bindNums_bd hgd hn hc0 hk)
  have hnm : Hid (bindNums l (cs.getD 0 0) k 0 = [(l.getD k .zero).id, cs.getD 0 0]) := by
    show _ = _
    simp [bindNums, flat]
  have wX : IntKind.u64.wrap (l.getD k .zero).id = (l.getD k .zero).id := u64_id (by omega) (by omega)
  have k1 : (0 : Int) ≤ (k : Int) := by omega
  have k2 : (k : Int) < (l.length : Int) := by omega
  have k3 : (0 : Int) < (cs.length : Int) := by omega
  obtain ⟨i0, hi, hz0, hz1, hz2⟩ := info_parts info_u64'
  have hbP : Hid (bindP l (cs.getD 0 0) msg k = hashI 1 msg (bindNums l (cs.getD 0 0) k l.length)) := by
    show bindP l (cs.getD 0 0) msg k = _
    rfl
  clear h hc hgd hgk hc0 x1 x2 hcc
  generalize (l.getD k .zero).id = X at *
  generalize cs.getD 0 0 = K at *
  go_enter Try.func102, Try.ntmps102
  go_wp2_with fail
  go_region_held3 (fun w' => (w'.cell? ⟨p, 2, none⟩ = some (.slice (some ⟨b1, off1, none⟩) cs.length c1) ∧ w'.cell? ⟨p, 4, none⟩ = some (.slice (some ⟨b, off, none⟩) l.length c)) ∧ w'.cell? ⟨b, off + k * 3, none⟩ = some (.int .i64 X) ∧ w'.cell? ⟨b1, off1, none⟩ = some (.int .u64 K)) (go_keep)
    (fail)
  all_goals
    have hown0 : ((w.alloc (.cells #[.int .u64 X, .int .u64 K] 25)).drew).ownsRow w.heap.size 25 1 (.slice (some ⟨w.heap.size, 0, none⟩) 2 2) (2 + 3 * 0) ((bindNums l K k 0).map (Value.int .u64)) := by
      rw [hnm.out]
      exact World.ownsRow_lit w #[.int .u64 X, .int .u64 K] 2 (Nat.le_refl _) (by unfold maxLen; omega) rfl
    have hbw0 : Below w.heap.size w (w.alloc (.cells #[.int .u64 X, .int .u64 K] 25)).drew := (below_box _ _).drew
    generalize (w.alloc (.cells #[.int .u64 X, .int .u64 K] 25)).drew = w1 at *
    have HP1 := Lib.hid (H.out.later hbw0)
    obtain ⟨r2, r3, r4, r5⟩ := HP1.out.cells
    have HO0 := Lib.hid hown0
    have HB0 := Lib.hid hbw0
    clear hown0 hbw0 p2 p3 p4 p5
    go_wp2_with fail
    go_loopw [5, 30] (fun v i wr => ∃ j : Nat, j ≤ l.length ∧ i = .int .i64 j ∧ wr.ownsRow w.heap.size 25 1 v (2 + 3 * j) ((bindNums l K k j).map (Value.int .u64)) ∧ Below w.heap.size w wr) (fun _ i _ => l.length - (intOf i).toNat)
    case atStart => exact ⟨0, by omega, rfl, HO0.out, HB0.out⟩
    case round =>
      obtain ⟨j, hj, rfl, hown, hbw⟩ := hrel
      have HO := Lib.hid hown
      clear hown r2 r3 r4 r5
      by_cases hlt : j < l.length
      · obtain ⟨y0, y1, y2⟩ := HC.out j hlt
        replace y0 := (hbw.cell (p := ⟨b, off + j * 3, none⟩) hb).trans y0
        replace y1 := (hbw.cell (p := ⟨b, off + j * 3 + 1, none⟩) hb).trans y1
        replace y2 := (hbw.cell (p := ⟨b, off + j * 3 + 2, none⟩) hb).trans y2
        have hgj := HG.out j hlt
        have wY : IntKind.u64.wrap (l.getD j .zero).id = (l.getD j .zero).id := u64_id (by omega) (by omega)
        have hst := Lib.hid (bindNums_step l K k j)
        obtain ⟨⟨gj1, gj2⟩, -⟩ := hgj
        generalize (l.getD j .zero).id = Y at *
        generalize (l.getD j .zero).d = D at *
        generalize (l.getD j .zero).e = E at *
        go_wp2_with (at_builtin; refine wpList_append_own _ rfl (.tmp 34) (.tmp 42) _ rfl w.heap.size 25 i0 (.int .u64 0) 1 8 Try.underlying26 hi hz0 hz1 hz2 rfl (by decide) _ _ _ rfl ((HO.out.alloc _).alloc _) ⟨wr.heap.size + 1, 0, none⟩ 3 3 [.int .u64 Y, .int .u64 D, .int .u64 E] rfl rfl (World.news_of_block (blk_new' _ _ (by simp))) (by simp [Value.oneCell']) (by unfold maxLen; omega) (by omega) (by have := hbw.size; simp; omega) ?_; intro v1 w2 hown1 hgrow1 _)
        have hbw2 := (((hbw.alloc hbw.size (.cells #[.int .i64 Y, .int .u64 D, .int .u64 E] 37)).alloc (by have := hbw.size; simp; omega) (.cells #[.int .u64 Y, .int .u64 D, .int .u64 E] 25)).grown hgrow1 (by have := hbw.size; simp; omega) fun k hk => (((HO.out.alloc (.cells #[.int .i64 Y, .int .u64 D, .int .u64 E] 37)).alloc (.cells #[.int .u64 Y, .int .u64 D, .int .u64 E] 25)).lt k hk).1)
        refine ⟨⟨j + 1, by omega, by go_num, by rw [hst.out, List.map_append, show 2 + 3 * (j + 1) = 2 + 3 * j + 3 by omega]; exact hown1, hbw2⟩, by simp [intOf]; omega⟩
      · obtain rfl : j = l.length := by omega
        have HPf := Lib.hid (H.out.later hbw)
        obtain ⟨r2, r3, r4, r5⟩ := HPf.out.cells
        have hnv := Nums.own (l := bindNums l K k l.length) (by rw [bindNums_length]; exact HO.out)
        have hh := Lib.hid (refHashC 1 msg (bindNums l K k l.length) _ wr hnv (by rw [bindNums_length]; omega) hms (by omega) (by omega) HBD.out)
        obtain ⟨A5, c5, rfl⟩ := own_shape HO.out
        rw [← hbP.out] at hh
        clear hnv
        go_wp2_with fail
        refine hh.out.mono ?_
        rintro e w' ⟨rfl, hb5⟩
        go_wp2_with fail
        go_ret
        exact ⟨rfl, hbw.trans (hb5.mono hbw.size)⟩

set_option maxRecDepth 100000 in
set_option maxHeartbeats 4000000 in
theorem refPartC (h : RPk w p vc lv vi t n cs l msg) (hgd : Kpl.Good n l) (hn : n ≤ 9) (hl9 : l.length ≤ 9) (hcl : 0 < cs.length) (hc0 : 0 ≤ cs.getD 0 0 ∧ cs.getD 0 0 < 18446744073709551616) (hms : msg.size ≤ 1000000) {k : Nat} (hk : k < l.length) :
    Calls Try.prog 59 #[.pointer (some ⟨p, 0, none⟩), .int .i64 k] w fun e w' => e = .returned (.int .u64 (partP l (cs.getD 0 0) msg k)) ∧ Below w.heap.size w w' := by
  obtain ⟨p2, p3, p4, p5⟩ := h.cells
  obtain ⟨A, c, rfl⟩ := h.coms.shape
  obtain ⟨b, off, rfl, hb, hc⟩ := h.coms.at_ (by omega)
  obtain ⟨x0, x1, x2⟩ := hc k hk
  obtain ⟨-, -, ⟨d0, d1⟩, e0, e1⟩ := hgd k hk
  have hbi := Lib.hid (refBindC (h.later (Below.refl _ w).drew) hgd hn hl9 hcl hc0 hms hk)
  have hbb := bindP_bd l (cs.getD 0 0) msg k
  have k1 : (0 : Int) ≤ (k : Int) := by omega
  have k2 : (k : Int) < (l.length : Int) := by omega
  have hpl := h.pk.lt
  have hz := pw_bd (l.getD k .zero).e (bindP l (cs.getD 0 0) msg k).toNat (m := 2147483579) (by omega)
  have hP : partP l (cs.getD 0 0) msg k = emul (l.getD k .zero).d (pw (l.getD k .zero).e (bindP l (cs.getD 0 0) msg k).toNat 2147483579) := rfl
  rw [emul_eq (by omega) (by omega) hz.1 (by omega)] at hP
  have m1 := mul_wrap (show 0 ≤ (l.getD k .zero).d by omega) (show (l.getD k .zero).d < 4294967296 by omega) hz.1 (show pw (l.getD k .zero).e (bindP l (cs.getD 0 0) msg k).toNat 2147483579 < 4294967296 by omega)
  have m2 : ((l.getD k .zero).d * pw (l.getD k .zero).e (bindP l (cs.getD 0 0) msg k).toNat 2147483579).tmod 2147483579 = partP l (cs.getD 0 0) msg k := by
    rw [Int.tmod_eq_emod_of_nonneg (Int.mul_nonneg (by omega) hz.1)]; exact hP.symm
  have hpwr := Lib.hid (fun W => refPowI 2147483579 (l.getD k .zero).e (bindP l (cs.getD 0 0) msg k) W (by omega) (by omega) (by omega) (by omega) hbb.1 (by omega))
  clear h hc hgd hc0 x0 hP hbb hz
  generalize (l.getD k .zero).d = D at *
  generalize (l.getD k .zero).e = E at *
  generalize bindP l (cs.getD 0 0) msg k = Bd at *
  generalize partP l (cs.getD 0 0) msg k = R at *
  generalize pw E Bd.toNat 2147483579 = Z at *
  go_enter Try.func59, Try.ntmps59
  go_wp2_with fail
  go_region_held3 (fun w' => w'.cell? ⟨p, 4, none⟩ = some (.slice (some ⟨b, off, none⟩) l.length c) ∧ w'.cell? ⟨b, off + k * 3 + 1, none⟩ = some (.int .u64 D) ∧ w'.cell? ⟨b, off + k * 3 + 2, none⟩ = some (.int .u64 E))
    (first | go_keep | (exact ⟨(hb1.cell (p := ⟨p, 4, none⟩) hpl).trans p4, (hb1.cell (p := ⟨b, off + k * 3 + 1, none⟩) hb).trans x1, (hb1.cell (p := ⟨b, off + k * 3 + 2, none⟩) hb).trans x2⟩))
    (first | (go_at_call 102; refine hbi.out.mono ?_; rintro e w1 ⟨rfl, hb1⟩) | (go_at_call 55; refine (hpwr.out _).mono ?_; rintro e w' ⟨rfl, rfl⟩))
  all_goals
    go_wp2_with fail
    go_ret
    exact ⟨rfl, ((Below.refl _ _).drew).trans hb1⟩

set_option maxRecDepth 100000 in
set_option maxHeartbeats 4000000 in
theorem refAllC (h : RPk w p vc lv vi t n cs l msg) (hgd : Kpl.Good n l) (hn : n ≤ 9) (hl9 : l.length ≤ 9) (hcl : 0 < cs.length) (hc0 : 0 ≤ cs.getD 0 0 ∧ cs.getD 0 0 < 18446744073709551616) (hms : msg.size ≤ 1000000) :
    Calls Try.prog 53 #[.pointer (some ⟨p, 0, none⟩)] w fun e w' => e = .returned (.int .u64 (allP l (cs.getD 0 0) msg)) ∧ Below w.heap.size w w' := by
  obtain ⟨p2, p3, p4, p5⟩ := h.cells
  obtain ⟨A, c, rfl⟩ := h.coms.shape
  have H := Lib.hid h
  have HG := Lib.hid hgd
  have HC0 := Lib.hid hc0
  clear h hgd hc0
  rw [allP_eq]
  go_enter Try.func53, Try.ntmps53
  go_wp2_with fail
  go_loopw [3, 10] (fun v i wr => ∃ k : Nat, k ≤ l.length ∧ i = .int .i64 k ∧ v = .int .u64 (allR l (cs.getD 0 0) msg k) ∧ Below w.heap.size w wr) (fun _ i _ => l.length - (intOf i).toNat)
  case atStart => exact ⟨0, by omega, rfl, rfl, Below.refl _ _⟩
  case round =>
    obtain ⟨k, hk, rfl, rfl, hbw⟩ := hrel
    clear p2 p3 p4 p5
    by_cases hlt : k < l.length
    · have hpt := Lib.hid (refPartC (H.out.later hbw) HG.out hn hl9 hcl HC0.out hms hlt)
      have ha := allR_bd l (cs.getD 0 0) msg k
      have hpb := partP_bd l (cs.getD 0 0) msg k
      have hst : Hid (allR l (cs.getD 0 0) msg (k + 1) = allR l (cs.getD 0 0) msg k * partP l (cs.getD 0 0) msg k % 2147483579) := by
        show allR l (cs.getD 0 0) msg (k + 1) = _
        rw [allR, emul_eq ha.1 (by omega) hpb.1 (by omega)]
      have m1 := mul_wrap ha.1 (show allR l (cs.getD 0 0) msg k < 4294967296 by omega) hpb.1 (show partP l (cs.getD 0 0) msg k < 4294967296 by omega)
      have m2 : (allR l (cs.getD 0 0) msg k * partP l (cs.getD 0 0) msg k).tmod 2147483579 = allR l (cs.getD 0 0) msg k * partP l (cs.getD 0 0) msg k % 2147483579 := Int.tmod_eq_emod_of_nonneg (Int.mul_nonneg ha.1 hpb.1)
      clear ha hpb
      generalize partP l (cs.getD 0 0) msg k = R at *
      generalize allR l (cs.getD 0 0) msg k = O at *
      go_wp2_with (go_at_call 59; refine hpt.out.mono ?_; rintro e w2 ⟨rfl, hb2⟩)
      refine ⟨⟨k + 1, by omega, by go_num, by rw [hst.out], hbw.trans (hb2.mono hbw.size)⟩, by simp [intOf]; omega⟩
    · obtain rfl : k = l.length := by omega
      go_wp2_with fail
      go_ret
      exact ⟨rfl, hbw⟩
end
end Go.Proofs.Ytpfpokjaeffbjab.Rkg
