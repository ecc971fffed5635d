/- A step of the script: Commit. -/
import Derived.Test.YtpfpokjaeffbjabStepLaws
import Derived.Test.YtpfpokjaeffbjabPickList
import Derived.Deep.AppendLies
namespace Go.Proofs.Ytpfpokjaeffbjab.Scr
open Go.RowKit Go.Proofs.Ytpfpokjaeffbjab.Pl Go.Proofs.Ytpfpokjaeffbjab.Mem Go.Proofs.Ytpfpokjaeffbjab.Mpp Go.Proofs.Ytpfpokjaeffbjab.Spl Go.Proofs.Ytpfpokjaeffbjab.Ver Go.Proofs.Ytpfpokjaeffbjab.Grp
open Go.Proofs.Ytpfpokjaeffbjab.Sgn (Only SgAt SgIn ComsBut)
open Go.Proofs.Ytpfpokjaeffbjab.Rsg (RLoc RSg Moved own_moved)
set_option linter.unusedVariables false

theorem info_cm' : (Try.prog.info? 37).map (fun i => (i.zero, i.size, i.bytes)) = some (some (.agg #[.int .i64 0, .int .u64 0, .int .u64 0]), 3, 24) := by kernel_rfl
theorem com_told {s : St} {d e : Int} (h : comE s d e = 0) (hok : Ok s) : Told (comC s d e) := by
  rw [(com_good h).2]; exact fits_of hok.id9 (d, e)

set_option maxRecDepth 100000 in
set_option maxHeartbeats 8000000 in
theorem stepCommit (w : World) (B WB : Nat) (sv cv : Value) (ps : List Pr) (told : List Cm) (o : OpP) (h : Wd w B WB sv cv ps told) (hB : B ≤ w.heap.size) (ho : OpOk w o) (hs : OpSmall o) (hp : ps.length ≤ 65536) (ht : told.length ≤ 65536) (hk : o.kind = 2) (hps : 0 < ps.length) :
    Calls Try.prog 23 #[.pointer (some ⟨WB, 0, none⟩), .agg o.agg] w (StepPost B WB w ps.length told.length) := by
  have hbox := below_box w (.cells o.agg 58)
  have h1 := h.later hbox
  obtain ⟨i, hil, hpk⟩ := pickN o.a hps ho.ib.1 ho.ib.2
  obtain ⟨p, hpi⟩ : ∃ p, ps[i]? = some p := ⟨_, List.getElem?_eq_getElem hil⟩
  have HPK := Lib.hid hpk
  have HPI := Lib.hid hpi
  obtain ⟨b, cap, hsv, hbl, y0, y1⟩ := h1.pair hpi
  have HBX := Lib.hid hbox
  have HBK := Lib.hid (Blk.new w 58 o.agg)
  have H1 := Lib.hid h1
  have HO := Lib.hid ho
  have HS := Lib.hid hs
  have e0 := h1.cells.1
  have HSV := Lib.hid hsv
  rw [hsv] at e0
  have hne : ((ps.length : Int) == 0) = false := by rw [beq_eq_false_iff_ne]; omega
  have HAG := Lib.hid (show o.agg = #[.int .i64 o.kind, .int .i64 o.a, .int .i64 o.b, .int .i64 o.c, .int .i64 o.d, .int .i64 o.t, .int .i64 o.n, o.vg, .int .u64 o.N, .int .u64 o.M, .string o.S, o.vl] from rfl)
  rw [HAG.out] at HBX HBK H1 hbl y0 y1 e0 ⊢
  rw [hk] at HBX HBK H1 hbl y0 y1 e0 ⊢
  have hWl := h.wd.lt
  have i1 : (0 : Int) ≤ (i : Int) := by omega
  have i2 : (i : Int) < (ps.length : Int) := by omega
  have HW := Lib.hid h
  have HHB := Lib.hid hB
  have HKD := Lib.hid hk
  clear h h1 ho hs hbox hpk hpi hsv hB hk
  obtain ⟨oa, hoa⟩ : ∃ x, o.a = x := ⟨_, rfl⟩
  rw [hoa] at HBX HBK H1 hbl y0 y1 e0 HPK ⊢
  have HOA := Lib.hid hoa
  clear hoa
  go_enter Try.func23, Try.ntmps23
  go_upto_region 13 with fail
  go_cut [9] from 80 to 93 (fun q wx => ∃ PB, q = .pointer (some ⟨PB, 0, none⟩) ∧ w.heap.size < PB ∧ Blk wx PB 132 #[.pointer (some ⟨p.a.S, 0, none⟩), .pointer (some ⟨p.r.S, 0, none⟩)] ∧ Below (w.heap.size + 1) (w.alloc (.cells #[.int .i64 2, .int .i64 oa, .int .i64 o.b, .int .i64 o.c, .int .i64 o.d, .int .i64 o.t, .int .i64 o.n, o.vg, .int .u64 o.N, .int .u64 o.M, .string o.S, o.vl] 58)) wx)
  case first =>
    go_region_held3 (fun w' => w'.cell? ⟨WB, 0, none⟩ = some (.slice (some ⟨b, 0, none⟩) ps.length cap) ∧ w'.cell? ⟨w.heap.size, 1, none⟩ = some (.int .i64 oa) ∧ w'.cell? ⟨b, i * 2, none⟩ = some (.pointer (some ⟨p.a.S, 0, none⟩)) ∧ w'.cell? ⟨b, i * 2 + 1, none⟩ = some (.pointer (some ⟨p.r.S, 0, none⟩))) (go_keep)
      (first | (go_at_call 63; refine (HPK.out _).mono ?_; rintro e w' ⟨rfl, rfl⟩))
    all_goals
      go_wp2_with fail
      go_meet
      exact ⟨_, rfl, by simp, Go.Proofs.Ytpfpokjaeffbjab.Gof.blk_new' _ _ (by simp), ((Below.refl _ _).alloc (by simp) _).drew⟩
  case rest =>
    obtain ⟨PB, rfl, hPB, hblk, hb13⟩ := hcut
    rename World => W13
    have hb13' := (HBX.out.trans (hb13.mono (by simp)))
    have HOP := Lib.hid (HBK.out.below hb13 (by simp))
    have HPBk := Lib.hid hblk
    have HB13 := Lib.hid hb13'
    have H13 := Lib.hid (HW.out.later hb13')
    have hpm := HPI.out
    have HPR := Lib.hid (H13.out.at_.1 p (List.mem_of_getElem? hpm))
    clear hb13 hb13' hblk HBX HBK H1 hbl y0 y1 e0 HPK hpm i1 i2
    have x0 : W13.cell? ⟨w.heap.size, 0, none⟩ = some (.int .i64 2) := HOP.out.cell 0
    have x8 : W13.cell? ⟨w.heap.size, 8, none⟩ = some (.int .u64 o.N) := HOP.out.cell 8
    have x9 : W13.cell? ⟨w.heap.size, 9, none⟩ = some (.int .u64 o.M) := HOP.out.cell 9
    have z0 : W13.cell? ⟨PB, 0, none⟩ = some (.pointer (some ⟨p.a.S, 0, none⟩)) := HPBk.out.cell 0
    have hPBf := HPR.out.off HPBk.out (by decide)
    have hOPf := HPR.out.off HOP.out (by decide)
    have hPBa : PB ∉ p.a.foot := fun hk => hPBf (a_in _ hk)
    have hOPa : w.heap.size ∉ p.a.foot := fun hk => hOPf (a_in _ hk)
    have hcm : Calls Try.prog 13 #[.pointer (some ⟨p.a.S, 0, none⟩), .int .u64 o.N, .int .u64 o.M] W13 fun x w' => x = .returned (.tuple #[.agg #[.int .i64 (comC p.s o.N o.M).id, .int .u64 (comC p.s o.N o.M).d, .int .u64 (comC p.s o.N o.M).e], .int .i64 (comE p.s o.N o.M)]) ∧ SgAt w' p.a (comSt p.s o.N o.M) ∧ Only p.a.foot W13 w' :=
      Sgn.commitC W13 p.a p.s o.N o.M HPR.out.x HPR.out.ok HO.out.nb HO.out.mb
    have hrm : ∀ wy, RSg wy p.r p.s → Calls Try.prog 64 #[.pointer (some ⟨p.r.S, 0, none⟩), .int .u64 o.N, .int .u64 o.M] wy fun x w' => x = .returned (.tuple #[.agg #[.int .i64 (comC p.s o.N o.M).id, .int .u64 (comC p.s o.N o.M).d, .int .u64 (comC p.s o.N o.M).e], .int .i64 (comE p.s o.N o.M)]) ∧ Moved wy w' p.r (comSt p.s o.N o.M) :=
      fun wy hy => Rsg.refCommitC wy p.r p.s o.N o.M hy HPR.out.ok HO.out.nb HO.out.mb
    have HTL := Lib.hid (fun (hE : comE p.s o.N o.M = 0) => com_told hE HPR.out.ok)
    have hok' := Lib.hid (com_ok HPR.out.ok HO.out.nb.1 HO.out.mb.1)
    have HCM := Lib.hid hcm
    have HRM := Lib.hid hrm
    obtain ⟨C, hC⟩ : ∃ C, comC p.s o.N o.M = C := ⟨_, rfl⟩
    obtain ⟨E, hE⟩ : ∃ E, comE p.s o.N o.M = E := ⟨_, rfl⟩
    rw [hC, hE] at HCM HRM HTL
    clear hcm hrm hC hE
    obtain ⟨s', hs'⟩ : ∃ s', comSt p.s o.N o.M = s' := ⟨_, rfl⟩
    rw [hs'] at HCM HRM hok'
    clear hs'
    generalize o.N = oN at *
    generalize o.M = oM at *
    obtain ⟨X, D, Ee⟩ := C
    have q0 : (X == X) = true := by rw [beq_iff_eq]
    have q1 : (D == D) = true := by rw [beq_iff_eq]
    have q2 : (Ee == Ee) = true := by rw [beq_iff_eq]
    have q3 : (E == E) = true := by rw [beq_iff_eq]
    go_wp2_with fail
    refine HCM.out.mono ?_
    rintro e W14 ⟨rfl, hx14, ho14⟩
    have hop14 := ho14.blk HOP.out hOPa
    have hpb14 := ho14.blk HPBk.out hPBa
    have y8 : W14.cell? ⟨w.heap.size, 8, none⟩ = some (.int .u64 oN) := hop14.cell 8
    have y9 : W14.cell? ⟨w.heap.size, 9, none⟩ = some (.int .u64 oM) := hop14.cell 9
    have z1 : W14.cell? ⟨PB, 1, none⟩ = some (.pointer (some ⟨p.r.S, 0, none⟩)) := hpb14.cell 1
    have hol := hop14.lt
    have hpl := hpb14.lt
    have hb15 := below_box W14 (.cells #[.int .i64 X, .int .u64 D, .int .u64 Ee] 37)
    have HREF := Lib.hid (HRM.out _ ((HPR.out.rest ho14).later hb15))
    have hs14 := ho14.size
    have hC10 : W14.heap.size ∉ p.r.foot := fun hk => by have := HPR.out.m.lt _ hk; omega
    have hk10 := Lib.hid (Blk.new W14 37 #[.int .i64 X, .int .u64 D, .int .u64 Ee])
    have HX14 := Lib.hid hx14
    have HO14 := Lib.hid ho14
    have HB15 := Lib.hid hb15
    clear hop14 hpb14 hb15 hx14 ho14 x8 x9 z0
    go_wp2_with fail
    refine HREF.out.mono ?_
    rintro e W16 ⟨rfl, hmv⟩
    have hk16 := Lib.hid ((hmv.choose_spec.2.1).blk hk10.out hC10)
    have hb17 := below_box W16 (.cells #[.int .i64 X, .int .u64 D, .int .u64 Ee] 37)
    obtain ⟨ps', h17, hw17, hO17, hpl'⟩ := both_end H13.out HPI.out HB13.out HHB.out HX14.out HO14.out HB15.out hmv hb17 hok'.out
    have hk17 := hk16.out.below hb17 hk16.out.lt
    have hn17 := Blk.new W16 37 #[.int .i64 X, .int .u64 D, .int .u64 Ee]
    have hs16 := hmv.choose_spec.2.1.size
    have H17 := Lib.hid h17
    have HW17 := Lib.hid hw17
    have HK17 := Lib.hid hk17
    have HN17 := Lib.hid hn17
    have HPL := Lib.hid hpl'
    have hcl17 : W14.heap.size < W16.heap.size := by simp at hs16; omega
    clear hmv hb17 hO17 hs16 hk16 HX14 HO14 HB15 HREF h17 hw17 hpl' hk10 y8 y9 z1 HCM HRM
    by_cases hE : E = 0
    case neg =>
      have t1 : (E == 0) = false := by rw [beq_eq_false_iff_ne]; exact hE
      have a0 : (W16.alloc (.cells #[.int .i64 X, .int .u64 D, .int .u64 Ee] 37)).cell? ⟨W14.heap.size, 0, none⟩ = some (.int .i64 X) := hk17.cell 0
      have a1 : (W16.alloc (.cells #[.int .i64 X, .int .u64 D, .int .u64 Ee] 37)).cell? ⟨W14.heap.size, 1, none⟩ = some (.int .u64 D) := hk17.cell 1
      have a2 : (W16.alloc (.cells #[.int .i64 X, .int .u64 D, .int .u64 Ee] 37)).cell? ⟨W14.heap.size, 2, none⟩ = some (.int .u64 Ee) := hk17.cell 2
      clear hE hk17 hn17
      go_wp2_with fail
      go_ret
      exact ⟨rfl, _, _, _, _, H17.out, HW17.out, by have := HPL.out; omega, by omega⟩
    case pos =>
      subst hE
      have hT := Lib.hid (HTL.out rfl)
      obtain ⟨i0, hi, hz0, hz1, hz2⟩ := info_parts info_cm'
      obtain ⟨At, ct, hcv⟩ := own_shape H17.out.cs
      subst hcv
      have hlc : ∀ g, (Value.slice At told.length ct).ownBlock = some g → g < W14.heap.size := fun g hg => by have := (H13.out.cs.lt g hg).2; omega
      have HLC := Lib.hid hlc
      clear hlc
      go_upto_region 19 with fail
      obtain ⟨W17, hW17⟩ : ∃ W, W16.alloc (.cells #[.int .i64 X, .int .u64 D, .int .u64 Ee] 37) = W := ⟨_, rfl⟩
      have hz17 : W17.heap.size = W16.heap.size + 1 := by rw [← hW17]; simp
      rw [hW17] at H17 HW17 HK17 HN17 hk17 hn17 ⊢
      clear hW17
      have a0 : W17.cell? ⟨W14.heap.size, 0, none⟩ = some (.int .i64 X) := hk17.cell 0
      have a1 : W17.cell? ⟨W14.heap.size, 1, none⟩ = some (.int .u64 D) := hk17.cell 1
      have a2 : W17.cell? ⟨W14.heap.size, 2, none⟩ = some (.int .u64 Ee) := hk17.cell 2
      have b0 : W17.cell? ⟨W16.heap.size, 0, none⟩ = some (.int .i64 X) := hn17.cell 0
      have b1 : W17.cell? ⟨W16.heap.size, 1, none⟩ = some (.int .u64 D) := hn17.cell 1
      have b2 : W17.cell? ⟨W16.heap.size, 2, none⟩ = some (.int .u64 Ee) := hn17.cell 2
      have w1 : W17.cell? ⟨WB, 1, none⟩ = some (.slice At told.length ct) := H17.out.cells.2.1
      have wz := H17.out.wd.frozen 1
      have hWl17 := H17.out.wd.lt
      have hl14 : W14.heap.size < W17.heap.size := by omega
      have hl16 : W16.heap.size < W17.heap.size := by omega
      have hBs : B ≤ W17.heap.size := by have := HHB.out; have := HW17.out.size; omega
      clear hk17 hn17 hz17
      go_region_law (first | (refine step_append_lies _ (by rfl) (.tmp 124) (.tmp 126) _ (by rfl) B 37 i0 (.agg #[.int .i64 0, .int .u64 0, .int .u64 0]) 3 24 Try.underlying40 hi hz0 hz1 hz2 rfl (by decide) (.slice At told.length ct) told.length _ (by rfl) (show (World.alloc W17.drew _).ownsRow _ _ _ _ _ _ from (show W17.drew.ownsRow _ _ _ _ _ _ from H17.out.cs).alloc _) ⟨W17.heap.size, 0, none⟩ 1 1 [.int .i64 X, .int .u64 D, .int .u64 Ee] (by rfl) rfl (World.news_of_block (Go.Proofs.Ytpfpokjaeffbjab.Gof.blk_new' _ _ (by simp))) (by simp [Value.oneCell']) (by omega) (by unfold maxLen; omega) (by omega) (by simp; omega) (W17.heap.size + 1) (by simp) ?_; intro g2 cap2 w2 hown2 hgrow2 hat2 hlt2; have hblk2 := blk_grown (show Blk W17.drew _ _ _ from H17.out.wd) (show W17.drew.ownsRow _ _ _ _ _ _ from H17.out.cs) (by decide) hgrow2; have hf2 := hblk2.frozen 1; have hc2 : w2.cell? ⟨WB, 1, none⟩ = some (.slice At told.length ct) := hblk2.cell 1))
      all_goals
        have H17d : Wd W17.drew B WB sv (.slice At told.length ct) ps' told := H17.out.later (Below.refl _ _).drew
        obtain ⟨k1, k2⟩ := H17d.pushC hT.out hown2 hgrow2 (by simp; omega)
        have n10 : Blk (w2.setCell ⟨WB, 1, none⟩ (.slice (some ⟨g2, 0, none⟩) (told.length + 1) cap2)) W14.heap.size 37 #[.int .i64 X, .int .u64 D, .int .u64 Ee] :=
          (((show Blk W17.drew _ _ _ from HK17.out).alloc _).grown hgrow2 (fun e => by have := HLC.out _ e.symm; omega)).far (p := ⟨WB, 1, none⟩) (by intro e; have e' : W14.heap.size = WB := e; have := H13.out.wd.lt; omega) _
        have n12 : Blk (w2.setCell ⟨WB, 1, none⟩ (.slice (some ⟨g2, 0, none⟩) (told.length + 1) cap2)) W16.heap.size 37 #[.int .i64 X, .int .u64 D, .int .u64 Ee] :=
          (((show Blk W17.drew _ _ _ from HN17.out).alloc _).grown hgrow2 (fun e => by have := HLC.out _ e.symm; omega)).far (p := ⟨WB, 1, none⟩) (by intro e; have e' : W16.heap.size = WB := e; have := H13.out.wd.lt; omega) _
        have c0 := n10.cell 0
        have c1 := n10.cell 1
        have c2 := n10.cell 2
        have d0 := n12.cell 0
        have d1 := n12.cell 1
        have d2 := n12.cell 2
        simp only [List.getElem?_toArray, List.getElem?_cons_zero, List.getElem?_cons_succ] at c0 c1 c2 d0 d1 d2
        have K1 := Lib.hid k1
        have K2 := Lib.hid k2
        clear k1 k2 n10 n12 H17d hgrow2 hown2 hat2 hlt2 hblk2 hf2 hc2
        generalize w2.setCell ⟨WB, 1, none⟩ (.slice (some ⟨g2, 0, none⟩) (told.length + 1) cap2) = w3 at *
        go_wp2_with fail
        go_ret
        exact ⟨rfl, _, _, _, _, K1.out, HW17.out.trans ((Below.refl _ _).drew.trans K2.out), by have := HPL.out; omega, by simp⟩
end Go.Proofs.Ytpfpokjaeffbjab.Scr
