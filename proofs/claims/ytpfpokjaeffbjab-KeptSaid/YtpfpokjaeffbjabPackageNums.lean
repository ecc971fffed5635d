/- Packages of commitments: binding factors, parts, their product, weights. -/
import Derived.Test.YtpfpokjaeffbjabPackageOf
import Derived.Deep.RegionHeld3
import Derived.Deep.RegionLaw
namespace Go.Proofs.Ytpfpokjaeffbjab.Pkg
open Go.RowKit Go.Proofs.Ytpfpokjaeffbjab.Pl Go.Proofs.Ytpfpokjaeffbjab.Dpl Go.Proofs.Ytpfpokjaeffbjab.Gpl Go.Proofs.Ytpfpokjaeffbjab.Kpl Go.Proofs.Ytpfpokjaeffbjab.Fld Go.Proofs.Ytpfpokjaeffbjab.Mem Go.Proofs.Ytpfpokjaeffbjab.Ver Go.Proofs.Ytpfpokjaeffbjab.Sls Go.Proofs.Ytpfpokjaeffbjab.Hsh Go.Proofs.Ytpfpokjaeffbjab.Grp Go.Proofs.Ytpfpokjaeffbjab.Gof
set_option linter.unusedVariables false
section
variable {w : World} {p g : Nat} {vc lv : Value} {t n : Int} {cs : List Int} {l : List Cm} {msg : ByteArray} {base : Nat}

set_option maxRecDepth 100000 in
theorem lenC (h : Pk w p g vc lv t n cs l msg base) :
    Calls Try.prog 33 #[.pointer (some ⟨p, 0, none⟩)] w fun e w' => e = .returned (.int .i64 l.length) ∧ w = w' := by
  obtain ⟨p0, p1, p2⟩ := h.cells
  obtain ⟨A, c, rfl⟩ := h.coms.shape
  clear h
  go_enter Try.func33, Try.ntmps33
  go_wp2_with fail
  go_ret
  exact ⟨rfl, rfl⟩
set_option maxRecDepth 100000 in
theorem keyC (hG : GrpAt w g t n vc 0 0 cs 1) (hO : OwnCs w base vc cs) (hl : 0 < cs.length) :
    Calls Try.prog 40 #[.pointer (some ⟨g, 0, none⟩)] w fun e w' => e = .returned (.int .u64 (cs.getD 0 0)) ∧ w = w' := by
  obtain ⟨g0, g1, g2, g3, g4⟩ := hG.cells
  obtain ⟨gc, cap, rfl, -, -, hc, -⟩ := hO.form hl
  have hc0 := hc 0 hl
  have hl' : (0 : Int) < (cs.length : Int) := by omega
  clear hG hO hc
  generalize cs.getD 0 0 = X at *
  go_enter Try.func40, Try.ntmps40
  go_wp2_with fail
  go_ret
  exact ⟨rfl, rfl⟩
set_option maxRecDepth 100000 in
theorem atC (h : Pk w p g vc lv t n cs l msg base) {k : Nat} (hk : k < l.length) :
    Calls Try.prog 34 #[.pointer (some ⟨p, 0, none⟩), .int .i64 k] w fun e w' => e = .returned (.agg #[.int .i64 (l.getD k .zero).id, .int .u64 (l.getD k .zero).d, .int .u64 (l.getD k .zero).e]) ∧ Below w.heap.size w w' := by
  obtain ⟨p0, p1, p2⟩ := h.cells
  obtain ⟨A, c, rfl⟩ := h.coms.shape
  obtain ⟨b, off, rfl, hb, hc⟩ := h.coms.at_ (by omega)
  obtain ⟨x0, x1, x2⟩ := hc k hk
  have hp := h.pk.lt
  clear h hc
  generalize (l.getD k .zero).id = X at *
  generalize (l.getD k .zero).d = D at *
  generalize (l.getD k .zero).e = E at *
  have k1 : (0 : Int) ≤ (k : Int) := by omega
  have k2 : (k : Int) < (l.length : Int) := by omega
  go_enter Try.func34, Try.ntmps34
  go_wp2_with fail
  refine bodyPost_ret (v := .agg #[.int .i64 X, .int .u64 D, .int .u64 E]) (by simp [results, Try.results34, go_sem]) rfl ?_
  exact ⟨rfl, by first | exact below_box _ _ | exact (((below_box _ _).setCell (Nat.le_refl _) _).setCell (Nat.le_refl _) _).setCell (Nat.le_refl _) _⟩
theorem info_u64' : (Try.prog.info? 25).map (fun i => (i.zero, i.size, i.bytes)) = some (some (.int .u64 0), 1, 8) := by kernel_rfl

set_option maxRecDepth 100000 in
set_option maxHeartbeats 4000000 in
theorem bindC (h : Pk w p g vc lv t n cs l msg base) (hgd : Kpl.Good n l) (hn : n ≤ 9) (hl9 : l.length ≤ 9) (hcl : 0 < cs.length) (hc0 : 0 ≤ cs.getD 0 0 ∧ cs.getD 0 0 < 18446744073709551616) (hms : msg.size ≤ 1000000) {k : Nat} (hk : k < l.length) :
    Calls Try.prog 38 #[.pointer (some ⟨p, 0, none⟩), .int .i64 k] w fun e w' => e = .returned (.int .u64 (bindP l (cs.getD 0 0) msg k)) ∧ Below w.heap.size w w' := by
  obtain ⟨p0, p1, p2⟩ := h.cells
  obtain ⟨A, c, rfl⟩ := h.coms.shape
  obtain ⟨b, off, rfl, hb, hc⟩ := h.coms.at_ (by omega)
  obtain ⟨x0, x1, x2⟩ := hc k hk
  have hp := h.pk.lt
  have hgk := hgd k hk
  have H := Lib.hid h
  have HC := Lib.hid hc
  have HG := Lib.hid hgd
  have HBD := Lib.hid (bindNums_bd hgd hn hc0 hk)
  have hnm : Hid (bindNums l (cs.getD 0 0) k 0 = [(l.getD k .zero).id, cs.getD 0 0]) := by
    show _ = _
    simp [bindNums, flat]
  have wX : IntKind.u64.wrap (l.getD k .zero).id = (l.getD k .zero).id := u64_id (by omega) (by omega)
  have k1 : (0 : Int) ≤ (k : Int) := by omega
  have k2 : (k : Int) < (l.length : Int) := by omega
  obtain ⟨i0, hi, hz0, hz1, hz2⟩ := info_parts info_u64'
  have hbP : Hid (bindP l (cs.getD 0 0) msg k = hashI 1 msg (bindNums l (cs.getD 0 0) k l.length)) := by
    show bindP l (cs.getD 0 0) msg k = _
    rfl
  have hkc := Lib.hid (keyC (w := w.drew) (show GrpAt w.drew g t n vc 0 0 cs 1 from h.grp) (show OwnCs w.drew base vc cs from h.own) hcl)
  clear h hc hgd hgk hc0 x1 x2
  generalize (l.getD k .zero).id = X at *
  generalize cs.getD 0 0 = K at *
  go_enter Try.func38, Try.ntmps38
  go_wp2_with fail
  go_region_held3 (fun w' => (w'.cell? ⟨p, 0, none⟩ = some (.pointer (some ⟨g, 0, none⟩)) ∧ w'.cell? ⟨p, 1, none⟩ = some (.slice (some ⟨b, off, none⟩) l.length c)) ∧ w'.cell? ⟨b, off + k * 3, none⟩ = some (.int .i64 X)) (go_keep)
    (first | (go_at_call 40; refine hkc.out.mono ?_; rintro e w' ⟨rfl, rfl⟩))
  all_goals
    have hown0 : ((w.alloc (.cells #[.int .u64 X, .int .u64 K] 25)).drew).ownsRow w.heap.size 25 1 (.slice (some ⟨w.heap.size, 0, none⟩) 2 2) (2 + 3 * 0) ((bindNums l K k 0).map (Value.int .u64)) := by
      rw [hnm.out]
      exact World.ownsRow_lit w #[.int .u64 X, .int .u64 K] 2 (Nat.le_refl _) (by unfold maxLen; omega) rfl
    have hbw0 : Below w.heap.size w (w.alloc (.cells #[.int .u64 X, .int .u64 K] 25)).drew := (below_box _ _).drew
    generalize (w.alloc (.cells #[.int .u64 X, .int .u64 K] 25)).drew = w1 at *
    have HP1 := Lib.hid (H.out.later hbw0)
    obtain ⟨r0, r1, r2⟩ := HP1.out.cells
    have HO0 := Lib.hid hown0
    have HB0 := Lib.hid hbw0
    clear hown0 hbw0 p0 p1 p2
    go_wp2_with fail
    go_loopw [5, 28] (fun v i wr => ∃ j : Nat, j ≤ l.length ∧ i = .int .i64 j ∧ wr.ownsRow w.heap.size 25 1 v (2 + 3 * j) ((bindNums l K k j).map (Value.int .u64)) ∧ Below w.heap.size w wr) (fun _ i _ => l.length - (intOf i).toNat)
    case atStart => exact ⟨0, by omega, rfl, HO0.out, HB0.out⟩
    case round =>
      obtain ⟨j, hj, rfl, hown, hbw⟩ := hrel
      have HO := Lib.hid hown
      clear hown r0 r1 r2
      by_cases hlt : j < l.length
      · obtain ⟨y0, y1, y2⟩ := HC.out j hlt
        replace y0 := (hbw.cell (p := ⟨b, off + j * 3, none⟩) hb).trans y0
        replace y1 := (hbw.cell (p := ⟨b, off + j * 3 + 1, none⟩) hb).trans y1
        replace y2 := (hbw.cell (p := ⟨b, off + j * 3 + 2, none⟩) hb).trans y2
        have hgj := HG.out j hlt
        have wY : IntKind.u64.wrap (l.getD j .zero).id = (l.getD j .zero).id := u64_id (by omega) (by omega)
        have hst := Lib.hid (bindNums_step l K k j)
        have hlen : wr.heap.size < (wr.alloc (.cells #[.int .i64 (l.getD j .zero).id, .int .u64 (l.getD j .zero).d, .int .u64 (l.getD j .zero).e] 37)).heap.size := by simp
        obtain ⟨⟨gj1, gj2⟩, -⟩ := hgj
        generalize (l.getD j .zero).id = Y at *
        generalize (l.getD j .zero).d = D at *
        generalize (l.getD j .zero).e = E at *
        go_wp2_with (at_builtin; refine wpList_append_own _ rfl (.tmp 32) (.tmp 40) _ rfl w.heap.size 25 i0 (.int .u64 0) 1 8 Try.underlying26 hi hz0 hz1 hz2 rfl (by decide) _ _ _ rfl ((HO.out.alloc _).alloc _) ⟨wr.heap.size + 1, 0, none⟩ 3 3 [.int .u64 Y, .int .u64 D, .int .u64 E] rfl rfl (World.news_of_block (blk_new' _ _ (by simp))) (by simp [Value.oneCell']) (by unfold maxLen; omega) (by omega) (by have := hbw.size; simp; omega) ?_; intro v1 w2 hown1 hgrow1 _)
        have hbw2 := (((hbw.alloc hbw.size (.cells #[.int .i64 Y, .int .u64 D, .int .u64 E] 37)).alloc (by have := hbw.size; simp; omega) (.cells #[.int .u64 Y, .int .u64 D, .int .u64 E] 25)).grown hgrow1 (by have := hbw.size; simp; omega) fun k hk => (((HO.out.alloc (.cells #[.int .i64 Y, .int .u64 D, .int .u64 E] 37)).alloc (.cells #[.int .u64 Y, .int .u64 D, .int .u64 E] 25)).lt k hk).1)
        refine ⟨⟨j + 1, by omega, by go_num, by rw [hst.out, List.map_append, show 2 + 3 * (j + 1) = 2 + 3 * j + 3 by omega]; exact hown1, hbw2⟩, by simp [intOf]; omega⟩
      · obtain rfl : j = l.length := by omega
        have HPf := Lib.hid (H.out.later hbw)
        obtain ⟨r0, r1, r2⟩ := HPf.out.cells
        have hnv := Nums.own (l := bindNums l K k l.length) (by rw [bindNums_length]; exact HO.out)
        have hh := Lib.hid (hashC 1 msg (bindNums l K k l.length) _ wr hnv (by rw [bindNums_length]; omega) hms (by omega) (by omega) HBD.out)
        obtain ⟨A5, c5, rfl⟩ := own_shape HO.out
        rw [← hbP.out] at hh
        clear hnv
        go_wp2_with fail
        refine hh.out.mono ?_
        rintro e w' ⟨rfl, x, rfl⟩
        go_wp2_with fail
        go_ret
        exact ⟨rfl, hbw.alloc hbw.size _⟩

set_option maxRecDepth 100000 in
set_option maxHeartbeats 4000000 in
theorem partC (h : Pk w p g vc lv t n cs l msg base) (hgd : Kpl.Good n l) (hn : n ≤ 9) (hl9 : l.length ≤ 9) (hcl : 0 < cs.length) (hc0 : 0 ≤ cs.getD 0 0 ∧ cs.getD 0 0 < 18446744073709551616) (hms : msg.size ≤ 1000000) {k : Nat} (hk : k < l.length) :
    Calls Try.prog 45 #[.pointer (some ⟨p, 0, none⟩), .int .i64 k] w fun e w' => e = .returned (.int .u64 (partP l (cs.getD 0 0) msg k)) ∧ Below w.heap.size w w' := by
  obtain ⟨p0, p1, p2⟩ := h.cells
  obtain ⟨A, c, rfl⟩ := h.coms.shape
  obtain ⟨b, off, rfl, hb, hc⟩ := h.coms.at_ (by omega)
  obtain ⟨x0, x1, x2⟩ := hc k hk
  obtain ⟨-, -, ⟨d0, d1⟩, e0, e1⟩ := hgd k hk
  have hP : Hid (partP l (cs.getD 0 0) msg k = emul (l.getD k .zero).d (pw (l.getD k .zero).e (bindP l (cs.getD 0 0) msg k).toNat 2147483579)) := by
    show partP l (cs.getD 0 0) msg k = _
    rfl
  have hbx := below_box w (.cells #[.int .i64 (l.getD k .zero).id, .int .u64 (l.getD k .zero).d, .int .u64 (l.getD k .zero).e] 37)
  have hbi := Lib.hid (bindC (h.later hbx.drew) hgd hn hl9 hcl hc0 hms hk)
  have hbb := bindP_bd l (cs.getD 0 0) msg k
  have k1 : (0 : Int) ≤ (k : Int) := by omega
  have k2 : (k : Int) < (l.length : Int) := by omega
  have HBX := Lib.hid hbx
  obtain ⟨bb0, bb1⟩ := hbb
  have b0 : (w.alloc (.cells #[.int .i64 (l.getD k .zero).id, .int .u64 (l.getD k .zero).d, .int .u64 (l.getD k .zero).e] 37)).cell? ⟨w.heap.size, 1, none⟩ = some (.int .u64 (l.getD k .zero).d) := by simp
  have b1 : (w.alloc (.cells #[.int .i64 (l.getD k .zero).id, .int .u64 (l.getD k .zero).d, .int .u64 (l.getD k .zero).e] 37)).cell? ⟨w.heap.size, 2, none⟩ = some (.int .u64 (l.getD k .zero).e) := by simp
  have hsz : w.heap.size < (w.alloc (.cells #[.int .i64 (l.getD k .zero).id, .int .u64 (l.getD k .zero).d, .int .u64 (l.getD k .zero).e] 37)).heap.size := by simp
  clear h hc hgd hc0 hbx
  generalize (l.getD k .zero).id = X at *
  generalize (l.getD k .zero).d = D at *
  generalize (l.getD k .zero).e = E at *
  generalize bindP l (cs.getD 0 0) msg k = Bd at *
  generalize partP l (cs.getD 0 0) msg k = R at *
  go_enter Try.func45, Try.ntmps45
  go_wp2_with fail
  generalize w.alloc (.cells #[.int .i64 X, .int .u64 D, .int .u64 E] 37) = wb at *
  go_region_held3 (fun w' => w'.cell? ⟨w.heap.size, 1, none⟩ = some (.int .u64 D) ∧ w'.cell? ⟨w.heap.size, 2, none⟩ = some (.int .u64 E))
    (first | go_keep | (exact ⟨(hb1.cell (p := ⟨w.heap.size, 1, none⟩) hsz).trans b0, (hb1.cell (p := ⟨w.heap.size, 2, none⟩) hsz).trans b1⟩))
    (first | (go_at_call 38; refine hbi.out.mono ?_; rintro e w1 ⟨rfl, hb1⟩) | (go_at_call 48; refine (powerI E Bd _ (by omega) e1 bb0 (by omega)).mono ?_; rintro e w' ⟨rfl, rfl⟩) | (go_at_call 46; refine (etimes _ _ _).mono ?_; rintro e w' ⟨rfl, rfl⟩))
  all_goals
    go_wp2_with fail
    go_ret
    exact ⟨by rw [hP.out]; rfl, HBX.out.trans (((Below.refl _ _).drew).trans (hb1.mono (Nat.le_of_lt hsz)))⟩
theorem info_el' : (Try.prog.info? 85).map (fun i => (i.zero, i.size, i.bytes)) = some (some (.int .u64 0), 1, 8) := by kernel_rfl
theorem info_int' : (Try.prog.info? 3).map (fun i => (i.zero, i.size, i.bytes)) = some (some (.int .i64 0), 1, 8) := by kernel_rfl

set_option maxRecDepth 100000 in
set_option maxHeartbeats 4000000 in
/-- The commitment of all, or the word that it came to nothing. -/
theorem allC (h : Pk w p g vc lv t n cs l msg base) (hgd : Kpl.Good n l) (hn : n ≤ 9) (hl9 : l.length ≤ 9) (hcl : 0 < cs.length) (hc0 : 0 ≤ cs.getD 0 0 ∧ cs.getD 0 0 < 18446744073709551616) (hms : msg.size ≤ 1000000)
    (r x : Int) (hx : (allP l (cs.getD 0 0) msg = 1 ∧ r = 0 ∧ x = 11) ∨ (allP l (cs.getD 0 0) msg ≠ 1 ∧ r = allP l (cs.getD 0 0) msg ∧ x = 0)) :
    Calls Try.prog 35 #[.pointer (some ⟨p, 0, none⟩)] w fun e w' => e = .returned (.tuple #[.int .u64 r, .int .i64 x]) ∧ Below w.heap.size w w' := by
  obtain ⟨p0, p1, p2⟩ := h.cells
  obtain ⟨A, c, rfl⟩ := h.coms.shape
  have H := Lib.hid h
  have HG := Lib.hid hgd
  have HC0 := Lib.hid hc0
  have HX := Lib.hid hx
  obtain ⟨i0, hi, hz0, hz1, hz2⟩ := info_parts info_el'
  clear h hgd hc0 hx
  have hAP : Hid (allP l (cs.getD 0 0) msg = prodE 1 (partsP l (cs.getD 0 0) msg l.length) l.length) := by
    show allP l (cs.getD 0 0) msg = _
    rfl
  go_enter Try.func35, Try.ntmps35
  go_wp2_with fail
  go_loopw [4, 12] (fun v i wr => ∃ k : Nat, k ≤ l.length ∧ i = .int .i64 k ∧ wr.ownsRow w.heap.size 85 1 v k ((partsP l (cs.getD 0 0) msg k).map (Value.int .u64)) ∧ Below w.heap.size w wr) (fun _ i _ => l.length - (intOf i).toNat)
  case atStart => exact ⟨0, by omega, rfl, World.ownsRow_nil _ _ _ _, Below.refl _ _⟩
  case round =>
    obtain ⟨k, hk, rfl, hown, hbw⟩ := hrel
    have HO := Lib.hid hown
    clear hown p0 p1 p2
    by_cases hlt : k < l.length
    · have hpt := Lib.hid (partC (H.out.later hbw) HG.out hn hl9 hcl HC0.out hms hlt)
      have hst := Lib.hid (partsP_step l (cs.getD 0 0) msg k)
      generalize partP l (cs.getD 0 0) msg k = R at *
      go_wp2_with (first | (go_at_call 45; refine hpt.out.mono ?_; rintro e w2 ⟨rfl, hb2⟩; have hown2 := own_below HO.out hb2 (Nat.le_refl _); have hbw2 := hbw.trans (hb2.mono hbw.size)) | (at_builtin; refine wpList_append_own _ rfl (.tmp 15) (.tmp 19) _ rfl w.heap.size 85 i0 (.int .u64 0) 1 8 Try.underlying136 hi hz0 hz1 hz2 rfl (by decide) _ _ _ rfl (hown2.alloc _) ⟨w2.heap.size, 0, none⟩ 1 1 [.int .u64 R] rfl rfl (cell_one_new _ _ _) (by simp [Value.oneCell']) (by unfold maxLen; omega) (by omega) (by have := hbw2.size; simp; omega) ?_; intro v3 w3 hown3 hgrow3 _))
      refine ⟨⟨k + 1, by omega, by go_num, by rw [hst.out, List.map_append]; exact hown3, below_grown hbw2 hown2 hbw2.size hgrow3⟩, by simp [intOf]; omega⟩
    · obtain rfl : k = l.length := by omega
      have hnv := Nums.own (l := partsP l (cs.getD 0 0) msg l.length) (by rw [partsP_length]; exact HO.out)
      obtain ⟨A5, c5, rfl⟩ := own_shape HO.out
      have hfo := foldE 1 (partsP l (cs.getD 0 0) msg l.length) _ wr hnv (by rw [partsP_length]; omega)
      rw [partsP_length, ← hAP.out] at hfo
      have HF := Lib.hid hfo
      clear hnv hfo
      generalize allP l (cs.getD 0 0) msg = R at *
      rcases HX.out with ⟨hr1, hr2, hr3⟩ | ⟨hr1, hr2, hr3⟩
      · have t1 : (R == 1) = true := by rw [beq_iff_eq]; exact hr1
        subst hr2 hr3
        clear hr1
        go_wp2_with fail
        refine HF.out.mono ?_
        rintro e w' ⟨rfl, rfl⟩
        go_wp2_with fail
        go_ret2
        exact ⟨rfl, hbw⟩
      · have t1 : (R == 1) = false := by rw [beq_eq_false_iff_ne]; exact hr1
        subst hr2 hr3
        clear hr1
        go_wp2_with fail
        refine HF.out.mono ?_
        rintro e w' ⟨rfl, rfl⟩
        go_wp2_with fail
        go_ret2
        exact ⟨rfl, hbw⟩

set_option maxRecDepth 100000 in
set_option maxHeartbeats 4000000 in
/-- What the k-th signer's share counts. -/
theorem pkgWeightC (h : Pk w p g vc lv t n cs l msg base) (hl9 : l.length ≤ 9) {k : Nat} (hk : k < l.length) :
    Calls Try.prog 41 #[.pointer (some ⟨p, 0, none⟩), .int .i64 k] w fun e w' => e = .returned (.int .u64 (lagrange (idsOf l l.length) k)) ∧ Below w.heap.size w w' := by
  obtain ⟨p0, p1, p2⟩ := h.cells
  obtain ⟨A, c, rfl⟩ := h.coms.shape
  obtain ⟨b, off, rfl, hb, hc⟩ := h.coms.at_ (by omega)
  have H := Lib.hid h
  have HC := Lib.hid hc
  obtain ⟨i0, hi, hz0, hz1, hz2⟩ := info_parts info_int'
  clear h hc
  go_enter Try.func41, Try.ntmps41
  go_wp2_with fail
  go_loopw [5, 13] (fun v i wr => ∃ j : Nat, j ≤ l.length ∧ i = .int .i64 j ∧ wr.ownsRow w.heap.size 3 1 v j ((idsOf l j).map (Value.int .i64)) ∧ Below w.heap.size w wr) (fun _ i _ => l.length - (intOf i).toNat)
  case atStart => exact ⟨0, by omega, rfl, World.ownsRow_nil _ _ _ _, Below.refl _ _⟩
  case round =>
    obtain ⟨j, hj, rfl, hown, hbw⟩ := hrel
    have HO := Lib.hid hown
    clear hown p0 p1 p2
    by_cases hlt : j < l.length
    · obtain ⟨y0, y1, y2⟩ := HC.out j hlt
      replace y0 := (hbw.cell (p := ⟨b, off + j * 3, none⟩) hb).trans y0
      replace y1 := (hbw.cell (p := ⟨b, off + j * 3 + 1, none⟩) hb).trans y1
      replace y2 := (hbw.cell (p := ⟨b, off + j * 3 + 2, none⟩) hb).trans y2
      have hst := Lib.hid (idsOf_step l j)
      generalize (l.getD j .zero).id = Y at *
      generalize (l.getD j .zero).d = D at *
      generalize (l.getD j .zero).e = E at *
      go_wp2_with (at_builtin; refine wpList_append_own _ rfl (.tmp 17) (.tmp 20) _ rfl w.heap.size 3 i0 (.int .i64 0) 1 8 Try.underlying29 hi hz0 hz1 hz2 rfl (by decide) _ _ _ rfl ((HO.out.alloc _).alloc _) ⟨wr.heap.size + 1, 0, none⟩ 1 1 [.int .i64 Y] rfl rfl (World.news_of_block (blk_new' _ _ (by simp))) (by simp [Value.oneCell']) (by unfold maxLen; omega) (by omega) (by have := hbw.size; simp; omega) ?_; intro v1 w2 hown1 hgrow1 _)
      have hbw2 := (((hbw.alloc hbw.size (.cells #[.int .i64 Y, .int .u64 D, .int .u64 E] 37)).alloc (by have := hbw.size; simp; omega) (.cells #[.int .i64 Y] 3)).grown hgrow1 (by have := hbw.size; simp; omega) fun k hk => (((HO.out.alloc (.cells #[.int .i64 Y, .int .u64 D, .int .u64 E] 37)).alloc (.cells #[.int .i64 Y] 3)).lt k hk).1)
      refine ⟨⟨j + 1, by omega, by go_num, by rw [hst.out, List.map_append]; exact hown1, hbw2⟩, by simp [intOf]; omega⟩
    · obtain rfl : j = l.length := by omega
      have hnv := Nums.own (l := idsOf l l.length) (by rw [idsOf_length]; exact HO.out)
      obtain ⟨A5, c5, rfl⟩ := own_shape HO.out
      have hlg := Lib.hid (lagrangeC (idsOf l l.length) k _ wr hnv (by rw [idsOf_length]; omega) (by rw [idsOf_length]; exact hk))
      clear hnv
      go_wp2_with fail
      refine hlg.out.mono ?_
      rintro e w' ⟨rfl, nq, rfl⟩
      go_wp2_with fail
      go_ret
      exact ⟨rfl, below_drewN hbw _⟩
end
end Go.Proofs.Ytpfpokjaeffbjab.Pkg
