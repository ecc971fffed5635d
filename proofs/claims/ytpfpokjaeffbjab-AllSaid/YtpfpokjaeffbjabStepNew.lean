/- A step that makes a signer. -/
import Derived.Test.YtpfpokjaeffbjabStepLaws
namespace Go.Proofs.Ytpfpokjaeffbjab.Scr
open Go.RowKit Go.Proofs.Ytpfpokjaeffbjab.Pl Go.Proofs.Ytpfpokjaeffbjab.Mem Go.Proofs.Ytpfpokjaeffbjab.Mpp Go.Proofs.Ytpfpokjaeffbjab.Spl Go.Proofs.Ytpfpokjaeffbjab.Ver Go.Proofs.Ytpfpokjaeffbjab.Grp
open Go.Proofs.Ytpfpokjaeffbjab.Sgn (Only SgAt SgIn ComsBut newSignerC)
open Go.Proofs.Ytpfpokjaeffbjab.Rsg (RLoc RSg Moved own_moved refNewSignerC)
set_option linter.unusedVariables false

theorem info_lp : (Try.prog.info? 132).map (fun i => (i.zero, i.size, i.bytes)) = some (some (.agg #[.pointer none, .pointer none]), 2, 16) := by kernel_rfl

set_option maxRecDepth 100000 in
set_option maxHeartbeats 8000000 in
theorem stepNew (w : World) (B WB : Nat) (sv cv : Value) (ps : List Pr) (told : List Cm) (o : OpP) (h : Wd w B WB sv cv ps told) (hB : B ≤ w.heap.size) (ho : OpOk w o) (hs : OpSmall o) (hp : ps.length ≤ 65536) (ht : told.length ≤ 65536) (hk : o.kind = 1) :
    Calls Try.prog 23 #[.pointer (some ⟨WB, 0, none⟩), .agg o.agg] w (StepPost B WB w ps.length told.length) := by
  have hbox := below_box w (.cells o.agg 58)
  have h1 := h.later hbox
  have ho1 := ho.later hbox
  have hn := newSignerC o.t o.n o.cs o.vg o.b o.N _ ho1.g hs.g ho1.gb ho1.nb
  have hr := fun w2 (hb : Below (w.alloc (.cells o.agg 58)).heap.size (w.alloc (.cells o.agg 58)) w2) => refNewSignerC o.t o.n o.cs o.vg o.b o.N w2 (ho1.g.later hb) hs.g ho1.gb ho1.nb
  have HBX := Lib.hid hbox
  have HBK := Lib.hid (Blk.new w 58 o.agg)
  have H1 := Lib.hid h1
  have HNW := Lib.hid hn
  have HRF := Lib.hid hr
  have HOK := Lib.hid (fun (hE : newE o.t o.n o.cs o.b o.N = 0) => new_ok hE ho.nb.1)
  obtain ⟨A0, c0, hsv⟩ := own_shape h.ss
  subst hsv
  have e0 := h1.cells.1
  have HAG := Lib.hid (show o.agg = #[.int .i64 o.kind, .int .i64 o.a, .int .i64 o.b, .int .i64 o.c, .int .i64 o.d, .int .i64 o.t, .int .i64 o.n, o.vg, .int .u64 o.N, .int .u64 o.M, .string o.S, o.vl] from rfl)
  rw [HAG.out] at HBX HBK H1 HNW HRF e0 ⊢
  rw [hk] at HBX HBK H1 HNW HRF e0 ⊢
  obtain ⟨i0, hi, hz0, hz1, hz2⟩ := info_parts info_lp
  have hWl := h.wd.lt
  clear h h1 ho ho1 hs hbox hn hr hk HAG
  generalize o.a = oa at *
  generalize o.b = ob at *
  generalize o.c = oc at *
  generalize o.d = od at *
  generalize o.t = ot at *
  generalize o.n = on at *
  generalize o.vg = ovg at *
  generalize o.N = oN at *
  generalize o.M = oM at *
  generalize o.S = oS at *
  generalize o.L = oL at *
  generalize o.cs = ocs at *
  generalize o.vl = ovl at *
  by_cases hE : newE ot on ocs ob oN = 0
  case neg =>
    have hgn : ((newE ot on ocs ob oN) == (newE ot on ocs ob oN)) = true := by rw [beq_iff_eq]
    go_enter Try.func23, Try.ntmps23
    go_wp2_with fail
    refine HNW.out.mono ?_
    rintro e w2 ⟨hb2, ⟨hne, rfl⟩ | ⟨he, -⟩⟩
    case inr => exact absurd he hE
    have hk2 := HBK.out.below hb2 HBK.out.lt
    have x2 : w2.cell? ⟨w.heap.size, 2, none⟩ = some (.int .i64 ob) := hk2.cell 2
    have x5 : w2.cell? ⟨w.heap.size, 5, none⟩ = some (.int .i64 ot) := hk2.cell 5
    have x6 : w2.cell? ⟨w.heap.size, 6, none⟩ = some (.int .i64 on) := hk2.cell 6
    have x7 : w2.cell? ⟨w.heap.size, 7, none⟩ = some ovg := hk2.cell 7
    have x8 : w2.cell? ⟨w.heap.size, 8, none⟩ = some (.int .u64 oN) := hk2.cell 8
    have HB2 := Lib.hid hb2
    have HREF := Lib.hid (HRF.out w2 hb2)
    have HNE := Lib.hid hE
    clear hb2 hk2 hne hE
    go_wp2_with fail
    refine HREF.out.mono ?_
    rintro e w3 ⟨hb3, ⟨hne, rfl⟩ | ⟨he, -⟩⟩
    case inr => exact absurd he HNE.out
    have hw3 := HB2.out.trans (hb3.mono HB2.out.size)
    have HW3 := Lib.hid hw3
    clear hb3 hne hw3
    go_wp2_with fail
    go_ret
    exact ⟨rfl, _, _, _, _, H1.out.later HW3.out, (HBX.out.trans (HW3.out.mono HBX.out.size)).mono hB, by omega, by omega⟩
  case pos =>
    have H0 := Lib.hid hE
    clear hE
    go_enter Try.func23, Try.ntmps23
    go_wp2_with fail
    refine HNW.out.mono ?_
    rintro e w2 ⟨hb2, ⟨hne, rfl⟩ | ⟨-, a, rfl, hxa, hxn⟩⟩
    case inl => exact absurd H0.out hne
    have hk2 := HBK.out.below hb2 HBK.out.lt
    have x2 : w2.cell? ⟨w.heap.size, 2, none⟩ = some (.int .i64 ob) := hk2.cell 2
    have x5 : w2.cell? ⟨w.heap.size, 5, none⟩ = some (.int .i64 ot) := hk2.cell 5
    have x6 : w2.cell? ⟨w.heap.size, 6, none⟩ = some (.int .i64 on) := hk2.cell 6
    have x7 : w2.cell? ⟨w.heap.size, 7, none⟩ = some ovg := hk2.cell 7
    have x8 : w2.cell? ⟨w.heap.size, 8, none⟩ = some (.int .u64 oN) := hk2.cell 8
    have HB2 := Lib.hid hb2
    have HREF := Lib.hid (HRF.out w2 hb2)
    have HXA := Lib.hid hxa
    have HXN := Lib.hid hxn
    clear hb2 hk2 hxa hxn
    go_wp2_with fail
    refine HREF.out.mono ?_
    rintro e w3 ⟨hb3, ⟨hne, rfl⟩ | ⟨-, r, rfl, hma, hmn⟩⟩
    case inl => exact absurd H0.out hne
    have hw3 := HB2.out.trans (hb3.mono HB2.out.size)
    have h3 := H1.out.later hw3
    have hat := Lib.hid (new_pair H1.out.at_ HB2.out HXA.out HXN.out hb3 hma hmn (HOK.out H0.out) (by have := HBX.out.size; omega))
    have e3 := h3.cells.1
    have HW3 := Lib.hid hw3
    have H3 := Lib.hid h3
    have hbs := Lib.hid (show B ≤ w3.heap.size by have := HBX.out.size; have := hw3.size; omega)
    have hWz := h3.wd.frozen 0
    have hW3l := h3.wd.lt
    clear hb3 hw3 h3 hma hmn x2 x5 x6 x7 x8 e0
    have hos := Lib.hid (H3.out.ss.alloc (.cells #[.pointer (some ⟨a.S, 0, none⟩), .pointer (some ⟨r.S, 0, none⟩)] 132))
    go_wp2_with (at_builtin; refine wpList_append_own _ rfl (.tmp 66) (.tmp 70) _ rfl B 132 i0 (.agg #[.pointer none, .pointer none]) 2 16 Try.underlying60 hi hz0 hz1 hz2 rfl (by decide) (.slice A0 ps.length c0) ps.length _ rfl hos.out ⟨w3.heap.size, 0, none⟩ 1 1 [.pointer (some ⟨a.S, 0, none⟩), .pointer (some ⟨r.S, 0, none⟩)] rfl rfl (World.news_of_block (Go.Proofs.Ytpfpokjaeffbjab.Gof.blk_new' _ _ rfl)) (by simp [Value.oneCell']) (by unfold maxLen; omega) (by omega) (by have := hbs.out; simp; omega) ?_; intro v4 w4 hown4 hgrow4 _; have hk4 := blk_grown H3.out.wd H3.out.ss (by decide) hgrow4; have y0 : w4.cell? ⟨WB, 0, none⟩ = some (.slice A0 ps.length c0) := hk4.cell 0; have y1 := hk4.frozen 0; obtain ⟨A4, c4, rfl⟩ := own_shape hown4)
    go_ret
    obtain ⟨k1, k2⟩ := H3.out.pushS (p := ⟨a, r, _⟩) hat.out hown4 hgrow4 hbs.out
    exact ⟨rfl, _, _, _, _, k1, ((HBX.out.trans (HW3.out.mono HBX.out.size)).mono hB).trans k2, by simp, by omega⟩
end Go.Proofs.Ytpfpokjaeffbjab.Scr
