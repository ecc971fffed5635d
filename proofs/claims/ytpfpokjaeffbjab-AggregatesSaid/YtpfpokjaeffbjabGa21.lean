/- Part of the proof: PkgW, AgT, WrkF, Own, AgF. -/
import Derived.Test.YtpfpokjaeffbjabGa20
import Derived.Test.YtpfpokjaeffbjabGa16
import Derived.Test.YtpfpokjaeffbjabProg
import Derived.RowKit
namespace Go.Proofs.Ytpfpokjaeffbjab.Pkg
open Go.RowKit Go.Proofs.Ytpfpokjaeffbjab.Pl Go.Proofs.Ytpfpokjaeffbjab.Dpl Go.Proofs.Ytpfpokjaeffbjab.Gpl Go.Proofs.Ytpfpokjaeffbjab.Kpl Go.Proofs.Ytpfpokjaeffbjab.Fld Go.Proofs.Ytpfpokjaeffbjab.Mem Go.Proofs.Ytpfpokjaeffbjab.Ver Go.Proofs.Ytpfpokjaeffbjab.Sls Go.Proofs.Ytpfpokjaeffbjab.Hsh Go.Proofs.Ytpfpokjaeffbjab.Grp Go.Proofs.Ytpfpokjaeffbjab.Gof
set_option linter.unusedVariables false
def KeyAt (w : World) (g : Nat) (cs : List Int) : Prop := ∃ gc cap, w.cell? ⟨g, 2, none⟩ = some (.slice (some ⟨gc, 0, none⟩) cs.length cap) ∧ g < w.heap.size ∧ gc < w.heap.size ∧ (0 < cs.length → w.cell? ⟨gc, 0, none⟩ = some (.int .u64 (cs.getD 0 0)))
theorem KeyAt.later {w w' : World} {g : Nat} {cs : List Int} (h : KeyAt w g cs) (hb : Below w.heap.size w w') : KeyAt w' g cs := by
  obtain ⟨gc, cap, h1, h2, h3, h4⟩ := h
  exact ⟨gc, cap, (hb.cell (p := ⟨g, 2, none⟩) h2).trans h1, Nat.lt_of_lt_of_le h2 hb.size, Nat.lt_of_lt_of_le h3 hb.size, fun hl => (hb.cell (p := ⟨gc, 0, none⟩) h3).trans (h4 hl)⟩
structure PkW (w : World) (p g : Nat) (lv : Value) (cs : List Int) (l : List Cm) (msg : ByteArray) : Prop where
  cells : w.cell? ⟨p, 0, none⟩ = some (.pointer (some ⟨g, 0, none⟩)) ∧ w.cell? ⟨p, 1, none⟩ = some lv ∧ w.cell? ⟨p, 2, none⟩ = some (.string msg)
  lt : p < w.heap.size
  coms : Coms w w.heap.size lv l
  key : KeyAt w g cs
theorem PkW.later {w w' : World} {p g : Nat} {lv : Value} {cs : List Int} {l : List Cm} {msg : ByteArray} (h : PkW w p g lv cs l msg) (hb : Below w.heap.size w w') : PkW w' p g lv cs l msg := by
  obtain ⟨c0, c1, c2⟩ := h.cells
  exact ⟨⟨(hb.cell (p := ⟨p, 0, none⟩) h.lt).trans c0, (hb.cell (p := ⟨p, 1, none⟩) h.lt).trans c1, (hb.cell (p := ⟨p, 2, none⟩) h.lt).trans c2⟩, Nat.lt_of_lt_of_le h.lt hb.size, h.coms.later hb, h.key.later hb⟩
section
variable {w : World} {p g : Nat} {lv : Value} {n : Int} {cs : List Int} {l : List Cm} {msg : ByteArray}
set_option maxRecDepth 100000 in
theorem keyW (hK : KeyAt w g cs) (hl : 0 < cs.length) :
    Calls Try.prog 40 #[.pointer (some ⟨g, 0, none⟩)] w fun e w' => e = .returned (.int .u64 (cs.getD 0 0)) ∧ w = w' := by
  obtain ⟨gc, cap, g2, -, -, hc⟩ := hK
  have hc0 := hc hl
  have hl' : (0 : Int) < (cs.length : Int) := by omega
  clear hc
  generalize cs.getD 0 0 = X at *
  go_enter Try.func40, Try.ntmps40
  go_wp2_with fail
  go_ret
  exact ⟨rfl, rfl⟩
set_option maxRecDepth 100000 in
theorem atW (h : PkW w p g lv cs l msg) {k : Nat} (hk : k < l.length) :
    Calls Try.prog 34 #[.pointer (some ⟨p, 0, none⟩), .int .i64 k] w fun e w' => e = .returned (.agg #[.int .i64 (l.getD k .zero).id, .int .u64 (l.getD k .zero).d, .int .u64 (l.getD k .zero).e]) ∧ Below w.heap.size w w' := by
  obtain ⟨p0, p1, p2⟩ := h.cells
  obtain ⟨A, c, rfl⟩ := h.coms.shape
  obtain ⟨b, off, rfl, hb, hc⟩ := h.coms.at_ (by omega)
  obtain ⟨x0, x1, x2⟩ := hc k hk
  have hp := h.lt
  clear h hc
  generalize (l.getD k .zero).id = X at *
  generalize (l.getD k .zero).d = D at *
  generalize (l.getD k .zero).e = E at *
  have k1 : (0 : Int) ≤ (k : Int) := by omega
  have k2 : (k : Int) < (l.length : Int) := by omega
  go_enter Try.func34, Try.ntmps34
  go_wp2_with fail
  refine bodyPost_ret (v := .agg #[.int .i64 X, .int .u64 D, .int .u64 E]) (by simp [results, Try.results34, go_sem]) rfl ?_
  exact ⟨rfl, by first | exact below_box _ _ | exact (((below_box _ _).setCell (Nat.le_refl _) _).setCell (Nat.le_refl _) _).setCell (Nat.le_refl _) _⟩
set_option maxRecDepth 100000 in
set_option maxHeartbeats 4000000 in
theorem bindW (h : PkW w p g lv cs l msg) (hgd : Kpl.Good n l) (hn : n ≤ 9) (hl9 : l.length ≤ 9) (hcl : 0 < cs.length) (hc0 : 0 ≤ cs.getD 0 0 ∧ cs.getD 0 0 < 18446744073709551616) (hms : msg.size ≤ 1000000) {k : Nat} (hk : k < l.length) :
    Calls Try.prog 38 #[.pointer (some ⟨p, 0, none⟩), .int .i64 k] w fun e w' => e = .returned (.int .u64 (bindP l (cs.getD 0 0) msg k)) ∧ Below w.heap.size w w' := by
  obtain ⟨p0, p1, p2⟩ := h.cells
  obtain ⟨A, c, rfl⟩ := h.coms.shape
  obtain ⟨b, off, rfl, hb, hc⟩ := h.coms.at_ (by omega)
  obtain ⟨x0, x1, x2⟩ := hc k hk
  have hp := h.lt
  have hgk := hgd k hk
  have H := Lib.hid h
  have HC := Lib.hid hc
  have HG := Lib.hid hgd
  have HBD := Lib.hid (bindNums_bd hgd hn hc0 hk)
  have hnm : Hid (bindNums l (cs.getD 0 0) k 0 = [(l.getD k .zero).id, cs.getD 0 0]) := by
    show _ = _
    simp [bindNums, flat]
  have wX : IntKind.u64.wrap (l.getD k .zero).id = (l.getD k .zero).id := u64_id (by omega) (by omega)
  have k1 : (0 : Int) ≤ (k : Int) := by omega
  have k2 : (k : Int) < (l.length : Int) := by omega
  obtain ⟨i0, hi, hz0, hz1, hz2⟩ := info_parts info_u64'
  have hbP : Hid (bindP l (cs.getD 0 0) msg k = hashI 1 msg (bindNums l (cs.getD 0 0) k l.length)) := by
    show bindP l (cs.getD 0 0) msg k = _
    rfl
  have hkc := Lib.hid (keyW (w := w.drew) (show KeyAt w.drew g cs from h.key) hcl)
  clear h hc hgd hgk hc0 x1 x2
  generalize (l.getD k .zero).id = X at *
  generalize cs.getD 0 0 = K at *
  go_enter Try.func38, Try.ntmps38
  go_wp2_with fail
  go_region_held3 (fun w' => (w'.cell? ⟨p, 0, none⟩ = some (.pointer (some ⟨g, 0, none⟩)) ∧ w'.cell? ⟨p, 1, none⟩ = some (.slice (some ⟨b, off, none⟩) l.length c)) ∧ w'.cell? ⟨b, off + k * 3, none⟩ = some (.int .i64 X)) (go_keep)
    (first | (go_at_call 40; refine hkc.out.mono ?_; rintro e w' ⟨rfl, rfl⟩))
  all_goals
    have hown0 : ((w.alloc (.cells #[.int .u64 X, .int .u64 K] 25)).drew).ownsRow w.heap.size 25 1 (.slice (some ⟨w.heap.size, 0, none⟩) 2 2) (2 + 3 * 0) ((bindNums l K k 0).map (Value.int .u64)) := by
      rw [hnm.out]
      exact World.ownsRow_lit w #[.int .u64 X, .int .u64 K] 2 (Nat.le_refl _) (by unfold maxLen; omega) rfl
    have hbw0 : Below w.heap.size w (w.alloc (.cells #[.int .u64 X, .int .u64 K] 25)).drew := (below_box _ _).drew
    generalize (w.alloc (.cells #[.int .u64 X, .int .u64 K] 25)).drew = w1 at *
    have HP1 := Lib.hid (H.out.later hbw0)
    obtain ⟨r0, r1, r2⟩ := HP1.out.cells
    have HO0 := Lib.hid hown0
    have HB0 := Lib.hid hbw0
    clear hown0 hbw0 p0 p1 p2
    go_wp2_with fail
    go_loopw [5, 28] (fun v i wr => ∃ j : Nat, j ≤ l.length ∧ i = .int .i64 j ∧ wr.ownsRow w.heap.size 25 1 v (2 + 3 * j) ((bindNums l K k j).map (Value.int .u64)) ∧ Below w.heap.size w wr) (fun _ i _ => l.length - (intOf i).toNat)
    case atStart => exact ⟨0, by omega, rfl, HO0.out, HB0.out⟩
    case round =>
      obtain ⟨j, hj, rfl, hown, hbw⟩ := hrel
      have HO := Lib.hid hown
      clear hown r0 r1 r2
      by_cases hlt : j < l.length
      · obtain ⟨y0, y1, y2⟩ := HC.out j hlt
        replace y0 := (hbw.cell (p := ⟨b, off + j * 3, none⟩) hb).trans y0
        replace y1 := (hbw.cell (p := ⟨b, off + j * 3 + 1, none⟩) hb).trans y1
        replace y2 := (hbw.cell (p := ⟨b, off + j * 3 + 2, none⟩) hb).trans y2
        have hgj := HG.out j hlt
        have wY : IntKind.u64.wrap (l.getD j .zero).id = (l.getD j .zero).id := u64_id (by omega) (by omega)
        have hst := Lib.hid (bindNums_step l K k j)
        have hlen : wr.heap.size < (wr.alloc (.cells #[.int .i64 (l.getD j .zero).id, .int .u64 (l.getD j .zero).d, .int .u64 (l.getD j .zero).e] 37)).heap.size := by simp
        obtain ⟨⟨gj1, gj2⟩, -⟩ := hgj
        generalize (l.getD j .zero).id = Y at *
        generalize (l.getD j .zero).d = D at *
        generalize (l.getD j .zero).e = E at *
        go_wp2_with (at_builtin; refine wpList_append_own _ rfl (.tmp 32) (.tmp 40) _ rfl w.heap.size 25 i0 (.int .u64 0) 1 8 Try.underlying26 hi hz0 hz1 hz2 rfl (by decide) _ _ _ rfl ((HO.out.alloc _).alloc _) ⟨wr.heap.size + 1, 0, none⟩ 3 3 [.int .u64 Y, .int .u64 D, .int .u64 E] rfl rfl (World.news_of_block (blk_new' _ _ (by simp))) (by simp [Value.oneCell']) (by unfold maxLen; omega) (by omega) (by have := hbw.size; simp; omega) ?_; intro v1 w2 hown1 hgrow1 _)
        have hbw2 := (((hbw.alloc hbw.size (.cells #[.int .i64 Y, .int .u64 D, .int .u64 E] 37)).alloc (by have := hbw.size; simp; omega) (.cells #[.int .u64 Y, .int .u64 D, .int .u64 E] 25)).grown hgrow1 (by have := hbw.size; simp; omega) fun k hk => (((HO.out.alloc (.cells #[.int .i64 Y, .int .u64 D, .int .u64 E] 37)).alloc (.cells #[.int .u64 Y, .int .u64 D, .int .u64 E] 25)).lt k hk).1)
        refine ⟨⟨j + 1, by omega, by go_num, by rw [hst.out, List.map_append, show 2 + 3 * (j + 1) = 2 + 3 * j + 3 by omega]; exact hown1, hbw2⟩, by simp [intOf]; omega⟩
      · obtain rfl : j = l.length := by omega
        have HPf := Lib.hid (H.out.later hbw)
        obtain ⟨r0, r1, r2⟩ := HPf.out.cells
        have hnv := Nums.own (l := bindNums l K k l.length) (by rw [bindNums_length]; exact HO.out)
        have hh := Lib.hid (hashC 1 msg (bindNums l K k l.length) _ wr hnv (by rw [bindNums_length]; omega) hms (by omega) (by omega) HBD.out)
        obtain ⟨A5, c5, rfl⟩ := own_shape HO.out
        rw [← hbP.out] at hh
        clear hnv
        go_wp2_with fail
        refine hh.out.mono ?_
        rintro e w' ⟨rfl, x, rfl⟩
        go_wp2_with fail
        go_ret
        exact ⟨rfl, hbw.alloc hbw.size _⟩
set_option maxRecDepth 100000 in
set_option maxHeartbeats 4000000 in
theorem partW (h : PkW w p g lv cs l msg) (hgd : Kpl.Good n l) (hn : n ≤ 9) (hl9 : l.length ≤ 9) (hcl : 0 < cs.length) (hc0 : 0 ≤ cs.getD 0 0 ∧ cs.getD 0 0 < 18446744073709551616) (hms : msg.size ≤ 1000000) {k : Nat} (hk : k < l.length) :
    Calls Try.prog 45 #[.pointer (some ⟨p, 0, none⟩), .int .i64 k] w fun e w' => e = .returned (.int .u64 (partP l (cs.getD 0 0) msg k)) ∧ Below w.heap.size w w' := by
  obtain ⟨p0, p1, p2⟩ := h.cells
  obtain ⟨A, c, rfl⟩ := h.coms.shape
  obtain ⟨b, off, rfl, hb, hc⟩ := h.coms.at_ (by omega)
  obtain ⟨x0, x1, x2⟩ := hc k hk
  obtain ⟨-, -, ⟨d0, d1⟩, e0, e1⟩ := hgd k hk
  have hP : Hid (partP l (cs.getD 0 0) msg k = emul (l.getD k .zero).d (pw (l.getD k .zero).e (bindP l (cs.getD 0 0) msg k).toNat 2147483579)) := by
    show partP l (cs.getD 0 0) msg k = _
    rfl
  have hbx := below_box w (.cells #[.int .i64 (l.getD k .zero).id, .int .u64 (l.getD k .zero).d, .int .u64 (l.getD k .zero).e] 37)
  have hbi := Lib.hid (bindW (h.later hbx.drew) hgd hn hl9 hcl hc0 hms hk)
  have hbb := bindP_bd l (cs.getD 0 0) msg k
  have k1 : (0 : Int) ≤ (k : Int) := by omega
  have k2 : (k : Int) < (l.length : Int) := by omega
  have HBX := Lib.hid hbx
  obtain ⟨bb0, bb1⟩ := hbb
  have b0 : (w.alloc (.cells #[.int .i64 (l.getD k .zero).id, .int .u64 (l.getD k .zero).d, .int .u64 (l.getD k .zero).e] 37)).cell? ⟨w.heap.size, 1, none⟩ = some (.int .u64 (l.getD k .zero).d) := by simp
  have b1 : (w.alloc (.cells #[.int .i64 (l.getD k .zero).id, .int .u64 (l.getD k .zero).d, .int .u64 (l.getD k .zero).e] 37)).cell? ⟨w.heap.size, 2, none⟩ = some (.int .u64 (l.getD k .zero).e) := by simp
  have hsz : w.heap.size < (w.alloc (.cells #[.int .i64 (l.getD k .zero).id, .int .u64 (l.getD k .zero).d, .int .u64 (l.getD k .zero).e] 37)).heap.size := by simp
  clear h hc hgd hc0 hbx
  generalize (l.getD k .zero).id = X at *
  generalize (l.getD k .zero).d = D at *
  generalize (l.getD k .zero).e = E at *
  generalize bindP l (cs.getD 0 0) msg k = Bd at *
  generalize partP l (cs.getD 0 0) msg k = R at *
  go_enter Try.func45, Try.ntmps45
  go_wp2_with fail
  generalize w.alloc (.cells #[.int .i64 X, .int .u64 D, .int .u64 E] 37) = wb at *
  go_region_held3 (fun w' => w'.cell? ⟨w.heap.size, 1, none⟩ = some (.int .u64 D) ∧ w'.cell? ⟨w.heap.size, 2, none⟩ = some (.int .u64 E))
    (first | go_keep | (exact ⟨(hb1.cell (p := ⟨w.heap.size, 1, none⟩) hsz).trans b0, (hb1.cell (p := ⟨w.heap.size, 2, none⟩) hsz).trans b1⟩))
    (first | (go_at_call 38; refine hbi.out.mono ?_; rintro e w1 ⟨rfl, hb1⟩) | (go_at_call 48; refine (powerI E Bd _ (by omega) e1 bb0 (by omega)).mono ?_; rintro e w' ⟨rfl, rfl⟩) | (go_at_call 46; refine (etimes _ _ _).mono ?_; rintro e w' ⟨rfl, rfl⟩))
  all_goals
    go_wp2_with fail
    go_ret
    exact ⟨by rw [hP.out]; rfl, HBX.out.trans (((Below.refl _ _).drew).trans (hb1.mono (Nat.le_of_lt hsz)))⟩
set_option maxRecDepth 100000 in
set_option maxHeartbeats 4000000 in
theorem pkgWeightW (h : PkW w p g lv cs l msg) (hl9 : l.length ≤ 9) {k : Nat} (hk : k < l.length) :
    Calls Try.prog 41 #[.pointer (some ⟨p, 0, none⟩), .int .i64 k] w fun e w' => e = .returned (.int .u64 (lagrange (idsOf l l.length) k)) ∧ Below w.heap.size w w' := by
  obtain ⟨p0, p1, p2⟩ := h.cells
  obtain ⟨A, c, rfl⟩ := h.coms.shape
  obtain ⟨b, off, rfl, hb, hc⟩ := h.coms.at_ (by omega)
  have H := Lib.hid h
  have HC := Lib.hid hc
  obtain ⟨i0, hi, hz0, hz1, hz2⟩ := info_parts info_int'
  clear h hc
  go_enter Try.func41, Try.ntmps41
  go_wp2_with fail
  go_loopw [5, 13] (fun v i wr => ∃ j : Nat, j ≤ l.length ∧ i = .int .i64 j ∧ wr.ownsRow w.heap.size 3 1 v j ((idsOf l j).map (Value.int .i64)) ∧ Below w.heap.size w wr) (fun _ i _ => l.length - (intOf i).toNat)
  case atStart => exact ⟨0, by omega, rfl, World.ownsRow_nil _ _ _ _, Below.refl _ _⟩
  case round =>
    obtain ⟨j, hj, rfl, hown, hbw⟩ := hrel
    have HO := Lib.hid hown
    clear hown p0 p1 p2
    by_cases hlt : j < l.length
    · obtain ⟨y0, y1, y2⟩ := HC.out j hlt
      replace y0 := (hbw.cell (p := ⟨b, off + j * 3, none⟩) hb).trans y0
      replace y1 := (hbw.cell (p := ⟨b, off + j * 3 + 1, none⟩) hb).trans y1
      replace y2 := (hbw.cell (p := ⟨b, off + j * 3 + 2, none⟩) hb).trans y2
      have hst := Lib.hid (idsOf_step l j)
      generalize (l.getD j .zero).id = Y at *
      generalize (l.getD j .zero).d = D at *
      generalize (l.getD j .zero).e = E at *
      go_wp2_with (at_builtin; refine wpList_append_own _ rfl (.tmp 17) (.tmp 20) _ rfl w.heap.size 3 i0 (.int .i64 0) 1 8 Try.underlying29 hi hz0 hz1 hz2 rfl (by decide) _ _ _ rfl ((HO.out.alloc _).alloc _) ⟨wr.heap.size + 1, 0, none⟩ 1 1 [.int .i64 Y] rfl rfl (World.news_of_block (blk_new' _ _ (by simp))) (by simp [Value.oneCell']) (by unfold maxLen; omega) (by omega) (by have := hbw.size; simp; omega) ?_; intro v1 w2 hown1 hgrow1 _)
      have hbw2 := (((hbw.alloc hbw.size (.cells #[.int .i64 Y, .int .u64 D, .int .u64 E] 37)).alloc (by have := hbw.size; simp; omega) (.cells #[.int .i64 Y] 3)).grown hgrow1 (by have := hbw.size; simp; omega) fun k hk => (((HO.out.alloc (.cells #[.int .i64 Y, .int .u64 D, .int .u64 E] 37)).alloc (.cells #[.int .i64 Y] 3)).lt k hk).1)
      refine ⟨⟨j + 1, by omega, by go_num, by rw [hst.out, List.map_append]; exact hown1, hbw2⟩, by simp [intOf]; omega⟩
    · obtain rfl : j = l.length := by omega
      have hnv := Nums.own (l := idsOf l l.length) (by rw [idsOf_length]; exact HO.out)
      obtain ⟨A5, c5, rfl⟩ := own_shape HO.out
      have hlg := Lib.hid (lagrangeC (idsOf l l.length) k _ wr hnv (by rw [idsOf_length]; omega) (by rw [idsOf_length]; exact hk))
      clear hnv
      go_wp2_with fail
      refine hlg.out.mono ?_
      rintro e w' ⟨rfl, nq, rfl⟩
      go_wp2_with fail
      go_ret
      exact ⟨rfl, below_drewN hbw _⟩
end
end Go.Proofs.Ytpfpokjaeffbjab.Pkg
namespace Go.Proofs.Ytpfpokjaeffbjab.Agt
open Go.RowKit Go.Conc Go.Proofs.Ytpfpokjaeffbjab.Cc Go.Proofs.Ytpfpokjaeffbjab.Pl Go.Proofs.Ytpfpokjaeffbjab.Dpl Go.Proofs.Ytpfpokjaeffbjab.Gpl Go.Proofs.Ytpfpokjaeffbjab.Kpl Go.Proofs.Ytpfpokjaeffbjab.Mem Go.Proofs.Ytpfpokjaeffbjab.Ver Go.Proofs.Ytpfpokjaeffbjab.Pkg Go.Proofs.Ytpfpokjaeffbjab.Sls Go.Proofs.Ytpfpokjaeffbjab.Grp
open Go.Proofs.Ytpfpokjaeffbjab.Fld hiding base
set_option linter.unusedVariables false
def wrongTo (rt : Nat → Bool) (l : List Cm) : Nat → List Int
  | 0 => []
  | k + 1 => if rt k then wrongTo rt l k else wrongTo rt l k ++ [(l.getD k .zero).id]
theorem wrongTo_len (rt : Nat → Bool) (l : List Cm) (k : Nat) : (wrongTo rt l k).length ≤ k := by
  induction k with
  | zero => simp [wrongTo]
  | succ k ih =>
    rw [wrongTo]
    split
    · omega
    · simp; omega
theorem wrong_yes {rt : Nat → Bool} {l : List Cm} {k : Nat} {b : Bool} (e : rt k = b) (hb : b = true) : wrongTo rt l (k + 1) = wrongTo rt l k := by rw [wrongTo, e, hb]; rfl
theorem wrong_no {rt : Nat → Bool} {l : List Cm} {k : Nat} {b : Bool} (e : rt k = b) (hb : b = false) : wrongTo rt l (k + 1) = wrongTo rt l k ++ [(l.getD k .zero).id] := by rw [wrongTo, e, hb]; rfl
theorem wrong_iff (rt : Nat → Bool) (l : List Cm) (k : Nat) : wrongTo rt l k = [] ↔ ∀ j, j < k → rt j = true := by
  induction k with
  | zero => exact ⟨fun _ j hj => by omega, fun _ => rfl⟩
  | succ k ih =>
    rw [wrongTo]
    split
    · rename_i h
      rw [ih]
      exact ⟨fun h1 j hj => (by by_cases e : j = k; (subst e; exact h); exact h1 j (by omega)), fun h1 j hj => h1 j (by omega)⟩
    · rename_i h
      exact ⟨fun h1 => by simp at h1, fun h1 => absurd (h1 k (by omega)) h⟩
def agU (b8 b13 b16 b17 : Nat) (r : Int) : Array Value := #[undef, undef, undef, undef, undef, undef, undef, undef, .pointer (some ⟨b8, 0, none⟩), .slice none 0 0, .int .i64 0, undef, undef, .pointer (some ⟨b13, 0, none⟩), .int .u64 r, undef, .pointer (some ⟨b16, 0, none⟩), .pointer (some ⟨b17, 0, none⟩), undef, undef, undef, undef, undef, undef, undef, undef, undef, undef, undef, undef, undef, undef, undef, undef, undef, undef, undef, undef, undef, undef, undef, undef, undef, undef, undef, undef, undef, undef, undef, undef, undef, undef, undef, undef, undef, undef, undef, undef, undef, undef, undef, undef, undef, undef, undef, undef, undef, undef, undef, undef, undef, undef, undef, undef, undef, undef, undef, undef, undef, undef, undef, undef, undef, undef, undef, undef, undef, undef, undef, undef, undef, undef, undef, undef, undef, undef, undef, undef, undef, undef, undef, undef, undef, undef, undef, undef, undef]
def TailPost (r : Int) (zt wr : List Int) (w : World) (v : Value) (w' : World) : Prop :=
  (wr = [] ∧ v = .tuple #[.agg #[.int .u64 r, .int .u64 (sumS 0 zt zt.length)], .slice none 0 0, .int .i64 0]) ∨
  (wr ≠ [] ∧ ∃ W, v = .tuple #[.agg #[.int .u64 0, .int .u64 0], W, .int .i64 14] ∧ w'.ownsRow w.heap.size 3 1 W wr.length (wr.map (Value.int .i64)))
def TailQ (r : Int) (zt wr : List Int) (w : World) : Exit → Act → World → Prop := fun e a w' => e = .ret ∧ a.defers = [] ∧ ∃ v, (Go.results Try.f16 a.tmps).run Try.prog w' = .ok v w' ∧ TailPost r zt wr w v w'
theorem info_int : (Try.prog.info? 3).map (fun i => (i.zero, i.size, i.bytes)) = some (some (.int .i64 0), 1, 8) := by kernel_rfl
theorem fin_ok {r S : Int} {zt wr : List Int} {w wq : World} {b8 : Nat} {T : Array Value} (h0 : wr = []) (hS : S = sumS 0 zt zt.length) (h8 : Blk wq b8 46 #[.int .u64 0, .int .u64 0]) (t8 : T[8]? = some (.pointer (some ⟨b8, 0, none⟩)) := by rfl) (t9 : T[9]? = some (.slice none 0 0) := by rfl) (t10 : T[10]? = some (.int .i64 0) := by rfl) :
    TailQ r zt wr w Exit.ret ⟨T, []⟩ ((wq.setCell ⟨b8, 0, none⟩ (.int .u64 r)).setCell ⟨b8, 1, none⟩ (.int .u64 S)) := by
  have B := ((h8.set_ 0 (.int .u64 r)).set_ 1 (.int .u64 S))
  have c0 := B.cell 0
  have c1 := B.cell 1
  refine ⟨rfl, rfl, _, ?_, .inl ⟨h0, rfl⟩⟩
  subst hS
  simp [Go.results, Try.results16, t8, t9, t10, go_sem, c0, c1]
theorem fin_bad {r : Int} {zt wr : List Int} {w wq : World} {b8 : Nat} {T : Array Value} {W : Value} (h0 : ¬ wr = []) (hW : wq.ownsRow w.heap.size 3 1 W wr.length (wr.map (Value.int .i64))) (hlt : b8 < w.heap.size) (h8 : Blk wq b8 46 #[.int .u64 0, .int .u64 0]) (t8 : T[8]? = some (.pointer (some ⟨b8, 0, none⟩)) := by rfl) (t9 : T[9]? = some W := by rfl) (t10 : T[10]? = some (.int .i64 14) := by rfl) :
    TailQ r zt wr w Exit.ret ⟨T, []⟩ ((wq.setCell ⟨b8, 0, none⟩ (.int .u64 0)).setCell ⟨b8, 1, none⟩ (.int .u64 0)) := by
  have B := ((h8.set_ 0 (.int .u64 0)).set_ 1 (.int .u64 0))
  have c0 := B.cell 0
  have c1 := B.cell 1
  refine ⟨rfl, rfl, .tuple #[.agg #[.int .u64 0, .int .u64 0], W, .int .i64 14], ?_, .inr ⟨h0, W, rfl, ?_⟩⟩
  · simp [Go.results, Try.results16, t8, t9, t10, go_sem, c0, c1]
  · refine hW.kept (row := some b8) (grownBy_set (grownBy_set (World.grownBy.refl _ _) _ _) _ _) ?_
    cases hk : W.ownBlock with
    | none => exact .inl rfl
    | some k =>
      have := (hW.lt k hk).1
      exact .inr fun e => by cases e; omega
theorem run_cmid (x d e : Int) (w : World) : (Instr.field 37 (.agg #[.int .i64 x, .int .u64 d, .int .u64 e]) 0).run Try.prog w = .ok (.int .i64 x) w := by kernel_rfl
set_option maxRecDepth 100000 in
set_option maxHeartbeats 16000000 in
theorem tailC {w : World} {b8 b13 b16 b17 Rb Zb Pb Gb : Nat} {lv : Value} {cs : List Int} {l : List Cm} {msg : ByteArray} {n capR capZ : Nat} {rt : Nat → Bool} {zt : List Int} {r : Int} (hP : PkW w Pb Gb lv cs l msg) (hl : l.length = n) (hn : n ≤ 9) (hz : zt.length = n)
    (h8 : Blk w b8 46 #[.int .u64 0, .int .u64 0]) (h13 : w.cell? ⟨b13, 0, none⟩ = some (.pointer (some ⟨Pb, 0, none⟩))) (h16 : w.cell? ⟨b16, 0, none⟩ = some (.slice (some ⟨Rb, 0, none⟩) n capR)) (h17 : w.cell? ⟨b17, 0, none⟩ = some (.slice (some ⟨Zb, 0, none⟩) n capZ))
    (hR : ∀ k, k < n → w.cell? ⟨Rb, k, none⟩ = some (.bool (rt k))) (hZ : Nums .u64 w w.heap.size (.slice (some ⟨Zb, 0, none⟩) n capZ) zt) :
    agTail.wp Try.prog (TailQ r zt (wrongTo rt l n) w) ⟨agU b8 b13 b16 b17 r, []⟩ w := by
  simp only [agTail, agRest, agBody, unseq, Try.f16, Option.getD_some, agU]
  obtain ⟨i0, hi, hz0, hz1, hz2⟩ := info_parts info_int
  have HP := Lib.hid hP
  have HR := Lib.hid hR
  have HZ := Lib.hid hZ
  have H8 := Lib.hid h8
  clear hP hR hZ h8
  go_wp2_with fail
  go_loopw [21, 83] (fun v i wr => ∃ k : Nat, k ≤ n ∧ i = .int .i64 k ∧ wr.ownsRow w.heap.size 3 1 v (wrongTo rt l k).length ((wrongTo rt l k).map (Value.int .i64)) ∧ Below w.heap.size w wr) (fun _ i _ => n - (intOf i).toNat)
  case atStart => exact ⟨0, by omega, rfl, World.ownsRow_nil _ _ _ _, Below.refl _ _⟩
  case round =>
    obtain ⟨k, hk, rfl, hown, hbw⟩ := hrel
    obtain ⟨A1, c1, rfl⟩ := own_shape hown
    have HO := Lib.hid hown
    have c13 := (hbw.cell (World.block_lt_of_cell? w _ h13)).trans h13
    clear hown
    by_cases hlt : k < n
    · have hc := HR.out k hlt
      have hc' := (hbw.cell (World.block_lt_of_cell? w _ hc)).trans hc
      have hyes := fun (hb : rt k = true) => Lib.hid (wrong_yes (l := l) rfl hb)
      have hno := fun (hb : rt k = false) => Lib.hid (wrong_no (l := l) rfl hb)
      have hwl := wrongTo_len rt l k
      have HAT := Lib.hid (atW (HP.out.later hbw) (k := k) (by omega))
      clear hc
      generalize rt k = bb at *
      cases bb
      case true =>
        have hst := hyes rfl
        clear hyes hno
        go_wp2_with fail
        exact ⟨⟨k + 1, by omega, by go_num, by rw [hst.out]; exact HO.out, hbw⟩, by simp [intOf]; omega⟩
      case false =>
        have hst := hno rfl
        clear hyes hno
        generalize (l.getD k .zero).id = X at *
        generalize (l.getD k .zero).d = Y at *
        generalize (l.getD k .zero).e = Z at *
        have hfr := run_cmid X Y Z
        go_wp2_with (first | (go_at_call 34; refine HAT.out.mono ?_; rintro e w2 ⟨rfl, hb2⟩; have HO2 := Lib.hid (own_below HO.out hb2 (Nat.le_refl _)); have hbw2 := hbw.trans (hb2.mono hbw.size)) | (at_builtin; refine wpList_append_own _ rfl (.tmp 90) (.tmp 95) _ rfl w.heap.size 3 i0 (.int .i64 0) 1 8 Try.underlying29 hi hz0 hz1 hz2 rfl (by decide) _ _ _ rfl (HO2.out.alloc _) ⟨w2.heap.size, 0, none⟩ 1 1 [.int .i64 X] rfl rfl (cell_one_new _ _ _) (by simp [Value.oneCell']) (by unfold maxLen; omega) (by omega) (by have := hbw2.size; simp; omega) ?_; intro v1 w1 hown1 hgrow1 _))
        refine ⟨⟨k + 1, by omega, by go_num, ?_, below_grown hbw2 HO2.out hbw2.size hgrow1⟩, by simp [intOf]; omega⟩
        rw [hst.out, List.length_append, List.map_append]
        exact hown1
    · obtain rfl : k = n := by omega
      have b8' := H8.out.below hbw H8.out.lt
      have e80 := b8'.cell 0
      have e81 := b8'.cell 1
      have f80 := b8'.frozen 0
      have f81 := b8'.frozen 1
      have B8 := Lib.hid b8'
      by_cases h0 : wrongTo rt l k = []
      · have g0 : ((wrongTo rt l k).length : Int) = 0 := by rw [h0]; rfl
        have g1 : ¬ (0 : Int) < ((wrongTo rt l k).length : Int) := by omega
        have c17 := (hbw.cell (World.block_lt_of_cell? w _ h17)).trans h17
        have hF := Lib.hid (foldS 0 zt _ wr (HZ.out.later hbw) (by omega))
        clear b8'
        go_wp2_with (go_at_call 50; refine hF.out.mono ?_; rintro e w2 ⟨rfl, rfl⟩)
        exact fin_ok h0 (by rw [hz]) B8.out
      · have g0 : (0 : Int) < ((wrongTo rt l k).length : Int) := by
          have : (wrongTo rt l k).length ≠ 0 := fun e => h0 (List.length_eq_zero_iff.1 e)
          omega
        clear b8'
        go_wp2_with fail
        exact fin_bad h0 HO.out H8.out.lt B8.out
end Go.Proofs.Ytpfpokjaeffbjab.Agt
namespace Go.Proofs.Ytpfpokjaeffbjab.Cc
open Go.Conc Go.ConcN Go.RowKit
set_option linter.unusedVariables false
def wSet : List FuncId := [30, 31, 45, 34, 41, 37, 46, 48, 70, 38, 78, 40, 77, 108, 109, 110]
def wS (f : FuncId) : Bool := wSet.contains f
theorem wS_ok : FnsOk Try.prog wS := by
  intro f hf
  unfold wS wSet at hf
  simp only [List.contains_cons, List.contains_nil, Bool.or_false, Bool.or_eq_true, beq_iff_eq] at hf
  rcases hf with rfl | rfl | rfl | rfl | rfl | rfl | rfl | rfl | rfl | rfl | rfl | rfl | rfl | rfl | rfl | rfl
  · exact ⟨_, _, Try.func30, rfl, by kernel_rfl, by kernel_rfl⟩
  · exact ⟨_, _, Try.func31, rfl, by kernel_rfl, by kernel_rfl⟩
  · exact ⟨_, _, Try.func45, rfl, by kernel_rfl, by kernel_rfl⟩
  · exact ⟨_, _, Try.func34, rfl, by kernel_rfl, by kernel_rfl⟩
  · exact ⟨_, _, Try.func41, rfl, by kernel_rfl, by kernel_rfl⟩
  · exact ⟨_, _, Try.func37, rfl, by kernel_rfl, by kernel_rfl⟩
  · exact ⟨_, _, Try.func46, rfl, by kernel_rfl, by kernel_rfl⟩
  · exact ⟨_, _, Try.func48, rfl, by kernel_rfl, by kernel_rfl⟩
  · exact ⟨_, _, Try.func70, rfl, by kernel_rfl, by kernel_rfl⟩
  · exact ⟨_, _, Try.func38, rfl, by kernel_rfl, by kernel_rfl⟩
  · exact ⟨_, _, Try.func78, rfl, by kernel_rfl, by kernel_rfl⟩
  · exact ⟨_, _, Try.func40, rfl, by kernel_rfl, by kernel_rfl⟩
  · exact ⟨_, _, Try.func77, rfl, by kernel_rfl, by kernel_rfl⟩
  · exact ⟨_, _, Try.func108, rfl, by kernel_rfl, by kernel_rfl⟩
  · exact ⟨_, _, Try.func109, rfl, by kernel_rfl, by kernel_rfl⟩
  · exact ⟨_, _, Try.func110, rfl, by kernel_rfl, by kernel_rfl⟩
end Go.Proofs.Ytpfpokjaeffbjab.Cc
namespace Go.Proofs.Ytpfpokjaeffbjab.Cc
open Go.Conc Go.ConcN
open Go.ConcM (OsLater)
set_option linter.unusedVariables false
structure OwnStep (st : St Gho) (w' : World) (es : Array Event) : Prop where
  size : st.w.heap.size ≤ w'.heap.size
  evs : ∀ e ∈ es, ∃ b off x, e = ⟨ca b off, x, false⟩ ∧ b < w'.heap.size ∧ (∀ s, st.γ.sc = some s → b ≠ s.Gb) ∧ (st.γ.ex 0 (ca b off) ∨ (x = false ∧ st.γ.rd 0 (ca b off)) ∨ st.w.heap.size ≤ b)
  os : w'.os = st.w.os
  out : w'.output = st.w.output
  blk : ∀ b, b < st.w.heap.size → w'.heap[b]? = st.w.heap[b]? ∨ ∀ off, st.γ.ex 0 (ca b off)
section
variable {q : Prm} {s : Scene} {mw : MW} {dm num : Nat} {K : List (Nat × Obj)} {Ch : Nat → Goroutine → St Gho → Prop}
theorem Inv.ownS {st : St Gho} (h : Inv q st) {w' : World} {es : Array Event} (H : OwnStep st w' es) (fn : FuncId) (pos : String) :
    Inv q ⟨w', st.t ++ MemOp.ofEvents 0 fn pos es, st.γ.grow 0 st.w.heap.size w'.heap.size⟩ ∧ ∀ j, j ≠ 0 → Rl j st ⟨w', st.t ++ MemOp.ofEvents 0 fn pos es, st.γ.grow 0 st.w.heap.size w'.heap.size⟩ := by
  have tch : ∀ e ∈ es, ∀ x, (MemAct.ofEvent e).touch? = some x → ∃ b off y, x = ⟨ca b off, y, .plain⟩ ∧ b < w'.heap.size ∧ (∀ s, st.γ.sc = some s → b ≠ s.Gb) ∧ (st.γ.ex 0 (ca b off) ∨ (y = false ∧ st.γ.rd 0 (ca b off)) ∨ st.w.heap.size ≤ b) := fun e he x hx => by
    obtain ⟨b, off, y, rfl, h1, h2, h3⟩ := H.evs e he
    cases hx
    exact ⟨b, off, y, rfl, h1, h2, h3⟩
  refine h.own (i := 0) h.base.pos (.inl rfl) (fun e => absurd rfl e) H.size (fun e he x hx => ?_) (fun e he => ?_) (fun e => absurd rfl e) (by rw [H.os]; exact .refl _) H.out H.blk fun s hs e he x hx => ?_
  · obtain ⟨b, off, y, rfl, h1, h2, h3⟩ := tch e he x hx
    refine ⟨?_, fun b' hb' => by cases hb'; exact h1⟩
    rcases h3 with h3 | ⟨rfl, h3⟩ | h3
    · exact .inr (.inl h3)
    · exact .inr (.inr (.inl ⟨h3, rfl⟩))
    · exact .inr (.inr (.inr (.inr ⟨b, rfl, h3⟩)))
  · obtain ⟨b, off, y, rfl, h1, h2, h3⟩ := H.evs e he
    refine ⟨by simp [ca], by simp [ca], fun a => by simp [ca]⟩
  · obtain ⟨b, off, y, rfl, h1, h2, h3⟩ := tch e he x hx
    refine ⟨fun o o1 o2 e => h2 s hs (ca_inj e).1, fun e => absurd (ca_inj e).1 (h2 s hs)⟩
def KeptBy (st : St Gho) (w' : World) (K' : List (Nat × Obj)) : Prop := ∀ b o, (b, o) ∈ K' → w'.heap[b]? = some o ∧ ((∀ off, st.γ.ex 0 (ca b off)) ∨ (∀ off, st.γ.rd 0 (ca b off)) ∨ st.w.heap.size ≤ b) ∧ ¬ st.γ.dead b
theorem kept_fz {st : St Gho} {w' : World} {K' : List (Nat × Obj)} {t : Trace} (hK : KeptBy st w' K') : ∀ b o, (b, o) ∈ K' → w'.heap[b]? = some o ∧ ((∀ off, (st.γ.grow 0 st.w.heap.size w'.heap.size).ex 0 (ca b off)) ∨ ∀ off, (st.γ.grow 0 st.w.heap.size w'.heap.size).rd 0 (ca b off)) := fun b o hb => by
  obtain ⟨h1, h2 | h2 | h2, _⟩ := hK b o hb
  · exact ⟨h1, .inl fun off => .inl (h2 off)⟩
  · exact ⟨h1, .inr h2⟩
  · exact ⟨h1, .inl fun off => .inr ⟨rfl, b, rfl, h2, lt_of_block h1⟩⟩
theorem TT.mown {P : Program} (hP : q.P = P) {g : Goroutine} {st : St Gho} (hA : MAt s mw dm num K st)
    (h : ∀ st₁, Rl 0 st st₁ → MAt s mw dm num K st₁ → Inv q st₁ → ∃ g' w' es K', stepG P (0 == 0) g st₁.w = .go g' w' es ∧ g'.status = .running ∧ OwnStep st₁ w' es ∧ KeptBy st₁ w' K' ∧
      ∀ st₂, st₂.w = w' → MAt s mw dm num K' st₂ → Inv q st₂ → (∀ l, st₁.γ.ex 0 l → st₂.γ.ex 0 l) → (∀ b off, st₁.w.heap.size ≤ b → b < w'.heap.size → st₂.γ.ex 0 (ca b off)) → TT (cfg q) 0 Ch g' st₂) : TT (cfg q) 0 Ch g st := by
  subst hP
  refine TT.act fun st₁ hr hi => ?_
  have hA₁ := hA.rely hr
  obtain ⟨g', w', es, K', h1, h2, h3, h4, h5⟩ := h st₁ hr hA₁ hi
  obtain ⟨k1, k2⟩ := hi.ownS h3 g.frame.fn g.frame.place
  exact ⟨fun hl => hl.1 rfl, g', w', es, st₁.γ.grow 0 st₁.w.heap.size w'.heap.size, h1, h2, rfl, ⟨k1, k2⟩, .inr fun k hk hw => hw,
    h5 _ rfl ⟨hA₁.sc, hA₁.mw, hA₁.dm, hA₁.num, kept_fz (t := st₁.t) h4, fun b o hb => (h4 b o hb).2.2⟩ k1 (fun l hl => .inl hl) fun b off b1 b2 => .inr ⟨rfl, b, rfl, b1, b2⟩⟩
theorem TT.sown {P : Program} (hP : q.P = P) {g : Goroutine} {st : St Gho} (hA : SAt dm num K st)
    (h : ∀ st₁, Rl 0 st st₁ → SAt dm num K st₁ → Inv q st₁ → ∃ g' w' es K', stepG P (0 == 0) g st₁.w = .go g' w' es ∧ g'.status = .running ∧ OwnStep st₁ w' es ∧ KeptBy st₁ w' K' ∧
      ∀ st₂, st₂.w = w' → SAt dm num K' st₂ → Inv q st₂ → (∀ l, st₁.γ.ex 0 l → st₂.γ.ex 0 l) → (∀ b off, st₁.w.heap.size ≤ b → b < w'.heap.size → st₂.γ.ex 0 (ca b off)) → TT (cfg q) 0 Ch g' st₂) : TT (cfg q) 0 Ch g st := by
  subst hP
  refine TT.act fun st₁ hr hi => ?_
  have hA₁ := hA.rely hr
  obtain ⟨g', w', es, K', h1, h2, h3, h4, h5⟩ := h st₁ hr hA₁ hi
  obtain ⟨k1, k2⟩ := hi.ownS h3 g.frame.fn g.frame.place
  exact ⟨fun hl => hl.1 rfl, g', w', es, st₁.γ.grow 0 st₁.w.heap.size w'.heap.size, h1, h2, rfl, ⟨k1, k2⟩, .inr fun k hk hw => hw,
    h5 _ rfl ⟨hA₁.sc, hA₁.mw, hA₁.dm, hA₁.num, kept_fz (t := st₁.t) h4, fun b o hb => (h4 b o hb).2.2⟩ k1 (fun l hl => .inl hl) fun b off b1 b2 => .inr ⟨rfl, b, rfl, b1, b2⟩⟩
def fzEx (γ : Gho) (F : Nat → Prop) : Nat → Loc → Prop := fun g l => γ.ex g l ∧ ¬ (g = 0 ∧ ∃ b, F b ∧ lblk l = some b)
def fzRd (γ : Gho) (F : Nat → Prop) : Nat → Loc → Prop := fun g l => γ.rd g l ∨ (g = 0 ∧ γ.ex 0 l ∧ ∃ b, F b ∧ lblk l = some b)
def fzG (γ : Gho) (F : Nat → Prop) : Gho := { γ with ex := fzEx γ F, rd := fzRd γ F }
theorem Inv.freeze {st : St Gho} (h : Inv q st) (hs : st.γ.sc = none) (F : Nat → Prop) : Inv q ⟨st.w, st.t, fzG st.γ F⟩ ∧ ∀ j, j ≠ 0 → Rl j st ⟨st.w, st.t, fzG st.γ F⟩ := by
  have A := h.base.tr.apt
  have A' : Apt st.w.heap.size (fzEx st.γ F) (fzRd st.γ F) st.γ.sh := by
    refine ⟨fun g g' l h1 h2 => A.ee g g' l h1.1 h2.1, fun g g' l h1 h2 => ?_, fun g g' l h1 h2 => A.es g g' l h1.1 h2, fun g g' l h1 h2 => ?_, fun g l h1 => A.low g l h1.1, fun g l h1 => ?_, A.slow, fun g l h1 => ?_⟩
    · rcases h2 with h2 | ⟨rfl, h2, h3⟩
      · exact A.er g g' l h1.1 h2
      · exact h1.2 ⟨A.ee _ _ _ h1.1 h2, h3⟩
    · rcases h1 with h1 | ⟨rfl, h1, _⟩
      · exact A.rs g g' l h1 h2
      · exact A.es _ _ _ h1 h2
    · rcases h1 with h1 | ⟨rfl, h1, _⟩
      · exact A.rlow g l h1
      · exact A.low _ l h1
    · rcases h1 with h1 | h1 | h1
      · exact A.mem g l (.inl h1.1)
      · rcases h1 with h1 | ⟨rfl, h1, _⟩
        · exact A.mem g l (.inr (.inl h1))
        · exact A.mem _ l (.inl h1)
      · exact A.mem g l (.inr (.inr h1))
  have htr : TrI st.t st.γ.num st.w.heap.size (fzEx st.γ F) (fzRd st.γ F) st.γ.sh :=
    h.base.tr.sub A' (fun g l hl => hl.1) (fun g l hl => hl.imp id fun ⟨e, hl, _⟩ => e ▸ hl) fun g l hl => .inl hl
  have b := h.base
  refine ⟨⟨⟨b.pos, htr, b.gsz, b.dfm, b.dfw, b.gone, b.os, b.out, b.old, b.dead, b.know, b.ho, fun g l hl => ?_, b.omx, b.nw, b.said, b.dsc⟩, h.solo, fun s hs' => ?_⟩, fun j hj => ?_⟩
  · rcases hl with hl | hl | hl
    · exact b.pool g l (.inl hl.1)
    · rcases hl with hl | ⟨rfl, hl, _⟩
      · exact b.pool g l (.inr (.inl hl))
      · exact b.pos
    · exact b.pool g l (.inr (.inr hl))
  · have hs' : st.γ.sc = some s := hs'
    rw [hs] at hs'; cases hs'
  · exact ⟨Nat.le_refl _, fun _ l hl => ⟨hl, fun h0 => hj h0.1⟩, fun _ l hl => .inl hl, fun _ _ _ => rfl, fun _ => rfl, fun e => absurd e hj, fun _ => rfl, fun _ _ _ _ _ => ⟨Nat.le_refl _, fun _ => ⟨rfl, rfl, rfl, rfl⟩, fun h => h⟩, fun _ _ _ => ⟨Nat.le_refl _, fun _ => rfl⟩, fun _ _ _ _ _ _ _ _ _ => rfl, fun _ _ => rfl, fun _ _ _ => Nat.le_refl _, Nat.le_refl _⟩
theorem TT.freeze {P : Program} (hP : q.P = P) {g g' : Goroutine} {st : St Gho} (hA : SAt dm num K st) (F : Nat → Prop) (hstep : ∀ w, stepG P (0 == 0) g w = .go g' w #[]) (hrun : g'.status = .running)
    (h : ∀ st₂, SAt dm num K st₂ → Inv q st₂ → (∀ b off, F b → st.γ.ex 0 (ca b off) ∨ st.γ.rd 0 (ca b off) → st₂.γ.rd 0 (ca b off)) → (∀ b off, ¬ F b → st.γ.ex 0 (ca b off) → st₂.γ.ex 0 (ca b off)) → (∀ l, st.γ.rd 0 l → st₂.γ.rd 0 l) → TT (cfg q) 0 Ch g' st₂) : TT (cfg q) 0 Ch g st := by
  subst hP
  refine TT.act fun st₁ hr hi => ?_
  have hA₁ := hA.rely hr
  obtain ⟨k1, k2⟩ := hi.freeze hA₁.sc F
  have e : st₁.t ++ MemOp.ofEvents 0 g.frame.fn g.frame.place #[] = st₁.t := by rw [ofEvents_none, Array.append_empty]
  refine ⟨fun hl => hl.1 rfl, g', st₁.w, #[], fzG st₁.γ F, hstep st₁.w, hrun, rfl, by rw [e]; exact ⟨k1, k2⟩, .inr fun k _ hw => absurd hA₁.sc hw.1, h _ ⟨hA₁.sc, hA₁.mw, hA₁.dm, hA₁.num, fun b o hb => ?_, hA₁.nd⟩ (by rw [e]; exact k1) (fun b off hF hx => ?_) (fun b off hF hx => ⟨hr.ex (.inl rfl) _ hx, fun ⟨_, b', hb', e⟩ => hF (by unfold ca lblk at e; simp at e; exact e ▸ hb')⟩) fun l hl => .inl (hr.rd (.inl rfl) _ hl)⟩
  · obtain ⟨f1, f2⟩ := hA₁.fz b o hb
    refine ⟨f1, ?_⟩
    by_cases hF : F b
    · exact .inr fun off => f2.elim (fun f => .inr ⟨rfl, f off, b, hF, rfl⟩) fun f => .inl (f off)
    · exact f2.imp (fun f off => ⟨f off, fun ⟨_, b', hb', e⟩ => hF (by unfold ca lblk at e; simp at e; exact e ▸ hb')⟩) fun f off => .inl (f off)
  · rcases hx with hx | hx
    · exact .inr ⟨rfl, hr.ex (.inl rfl) _ hx, b, hF, rfl⟩
    · exact .inl (hr.rd (.inl rfl) _ hx)
end
end Go.Proofs.Ytpfpokjaeffbjab.Cc
namespace Go.Proofs.Ytpfpokjaeffbjab.Cc
open Go.Conc Go.RowKit
set_option linter.unusedVariables false
def aSet : List FuncId := [27, 61, 48, 46, 32, 75, 74, 73, 35, 76, 45, 38, 77, 40, 108, 39, 33, 34, 50, 36]
def aS (f : FuncId) : Bool := aSet.contains f
theorem aS_ok : FnsOk Try.prog aS := by
  intro f hf
  unfold aS aSet at hf
  simp only [List.contains_cons, List.contains_nil, Bool.or_false, Bool.or_eq_true, beq_iff_eq] at hf
  rcases hf with rfl | rfl | rfl | rfl | rfl | rfl | rfl | rfl | rfl | rfl | rfl | rfl | rfl | rfl | rfl | rfl | rfl | rfl | rfl | rfl
  · exact ⟨_, _, Try.func27, rfl, by kernel_rfl, by kernel_rfl⟩
  · exact ⟨_, _, Try.func61, rfl, by kernel_rfl, by kernel_rfl⟩
  · exact ⟨_, _, Try.func48, rfl, by kernel_rfl, by kernel_rfl⟩
  · exact ⟨_, _, Try.func46, rfl, by kernel_rfl, by kernel_rfl⟩
  · exact ⟨_, _, Try.func32, rfl, by kernel_rfl, by kernel_rfl⟩
  · exact ⟨_, _, Try.func75, rfl, by kernel_rfl, by kernel_rfl⟩
  · exact ⟨_, _, Try.func74, rfl, by kernel_rfl, by kernel_rfl⟩
  · exact ⟨_, _, Try.func73, rfl, by kernel_rfl, by kernel_rfl⟩
  · exact ⟨_, _, Try.func35, rfl, by kernel_rfl, by kernel_rfl⟩
  · exact ⟨_, _, Try.func76, rfl, by kernel_rfl, by kernel_rfl⟩
  · exact ⟨_, _, Try.func45, rfl, by kernel_rfl, by kernel_rfl⟩
  · exact ⟨_, _, Try.func38, rfl, by kernel_rfl, by kernel_rfl⟩
  · exact ⟨_, _, Try.func77, rfl, by kernel_rfl, by kernel_rfl⟩
  · exact ⟨_, _, Try.func40, rfl, by kernel_rfl, by kernel_rfl⟩
  · exact ⟨_, _, Try.func108, rfl, by kernel_rfl, by kernel_rfl⟩
  · exact ⟨_, _, Try.func39, rfl, by kernel_rfl, by kernel_rfl⟩
  · exact ⟨_, _, Try.func33, rfl, by kernel_rfl, by kernel_rfl⟩
  · exact ⟨_, _, Try.func34, rfl, by kernel_rfl, by kernel_rfl⟩
  · exact ⟨_, _, Try.func50, rfl, by kernel_rfl, by kernel_rfl⟩
  · exact ⟨_, _, Try.func36, rfl, by kernel_rfl, by kernel_rfl⟩
end Go.Proofs.Ytpfpokjaeffbjab.Cc
