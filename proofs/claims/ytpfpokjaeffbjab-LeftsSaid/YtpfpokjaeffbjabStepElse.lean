/- A step of the script: any other kind. -/
import Derived.Test.YtpfpokjaeffbjabStepLaws
import Derived.Test.YtpfpokjaeffbjabPickList
import Derived.Deep.AppendLies
namespace Go.Proofs.Ytpfpokjaeffbjab.Scr
open Go.RowKit Go.Proofs.Ytpfpokjaeffbjab.Pl Go.Proofs.Ytpfpokjaeffbjab.Mem Go.Proofs.Ytpfpokjaeffbjab.Mpp Go.Proofs.Ytpfpokjaeffbjab.Spl Go.Proofs.Ytpfpokjaeffbjab.Ver Go.Proofs.Ytpfpokjaeffbjab.Grp
open Go.Proofs.Ytpfpokjaeffbjab.Sgn (Only SgAt SgIn ComsBut)
open Go.Proofs.Ytpfpokjaeffbjab.Rsg (RLoc RSg Moved own_moved)
set_option linter.unusedVariables false

set_option maxRecDepth 100000 in
set_option maxHeartbeats 8000000 in
theorem stepElse (w : World) (B WB : Nat) (sv cv : Value) (ps : List Pr) (told : List Cm) (o : OpP) (h : Wd w B WB sv cv ps told) (hB : B ≤ w.heap.size) (ho : OpOk w o) (hs : OpSmall o) (hp : ps.length ≤ 65536) (ht : told.length ≤ 65536) (hk : o.kind ≠ 1 ∧ o.kind ≠ 2 ∧ o.kind ≠ 3 ∧ o.kind ≠ 4) (hps : 0 < ps.length) :
    Calls Try.prog 23 #[.pointer (some ⟨WB, 0, none⟩), .agg o.agg] w (StepPost B WB w ps.length told.length) := by
  have hbox := below_box w (.cells o.agg 58)
  have h1 := h.later hbox
  obtain ⟨i, hil, hpk⟩ := pickN o.a hps ho.ib.1 ho.ib.2
  obtain ⟨p, hpi⟩ : ∃ p, ps[i]? = some p := ⟨_, List.getElem?_eq_getElem hil⟩
  have HPK := Lib.hid hpk
  have HPI := Lib.hid hpi
  obtain ⟨b, cap, hsv, hbl, y0, y1⟩ := h1.pair hpi
  have HBX := Lib.hid hbox
  have HBK := Lib.hid (Blk.new w 58 o.agg)
  have H1 := Lib.hid h1
  have HO := Lib.hid ho
  have HS := Lib.hid hs
  have e0 := h1.cells.1
  have HSV := Lib.hid hsv
  rw [hsv] at e0
  have hne : ((ps.length : Int) == 0) = false := by rw [beq_eq_false_iff_ne]; omega
  have HAG := Lib.hid (show o.agg = #[.int .i64 o.kind, .int .i64 o.a, .int .i64 o.b, .int .i64 o.c, .int .i64 o.d, .int .i64 o.t, .int .i64 o.n, o.vg, .int .u64 o.N, .int .u64 o.M, .string o.S, o.vl] from rfl)
  rw [HAG.out] at HBX HBK H1 hbl y0 y1 e0 ⊢
  have k1 : (o.kind == 1) = false := by rw [beq_eq_false_iff_ne]; exact hk.1
  have k2 : (o.kind == 2) = false := by rw [beq_eq_false_iff_ne]; exact hk.2.1
  have k3 : (o.kind == 3) = false := by rw [beq_eq_false_iff_ne]; exact hk.2.2.1
  have k4 : (o.kind == 4) = false := by rw [beq_eq_false_iff_ne]; exact hk.2.2.2
  have hWl := h.wd.lt
  have i1 : (0 : Int) ≤ (i : Int) := by omega
  have i2 : (i : Int) < (ps.length : Int) := by omega
  have HW := Lib.hid h
  have HHB := Lib.hid hB
  have HKD := Lib.hid hk
  clear h h1 ho hs hbox hpk hpi hsv hB hk
  obtain ⟨oa, hoa⟩ : ∃ x, o.a = x := ⟨_, rfl⟩
  rw [hoa] at HBX HBK H1 hbl y0 y1 e0 HPK ⊢
  have HOA := Lib.hid hoa
  clear hoa
  go_enter Try.func23, Try.ntmps23
  go_upto_region 13 with fail
  go_cut [9] from 80 to 93 (fun q wx => ∃ PB, q = .pointer (some ⟨PB, 0, none⟩) ∧ w.heap.size < PB ∧ Blk wx PB 132 #[.pointer (some ⟨p.a.S, 0, none⟩), .pointer (some ⟨p.r.S, 0, none⟩)] ∧ Below (w.heap.size + 1) (w.alloc (.cells #[.int .i64 o.kind, .int .i64 oa, .int .i64 o.b, .int .i64 o.c, .int .i64 o.d, .int .i64 o.t, .int .i64 o.n, o.vg, .int .u64 o.N, .int .u64 o.M, .string o.S, o.vl] 58)) wx)
  case first =>
    go_region_held3 (fun w' => w'.cell? ⟨WB, 0, none⟩ = some (.slice (some ⟨b, 0, none⟩) ps.length cap) ∧ w'.cell? ⟨w.heap.size, 1, none⟩ = some (.int .i64 oa) ∧ w'.cell? ⟨b, i * 2, none⟩ = some (.pointer (some ⟨p.a.S, 0, none⟩)) ∧ w'.cell? ⟨b, i * 2 + 1, none⟩ = some (.pointer (some ⟨p.r.S, 0, none⟩))) (go_keep)
      (first | (go_at_call 63; refine (HPK.out _).mono ?_; rintro e w' ⟨rfl, rfl⟩))
    all_goals
      go_wp2_with fail
      go_meet
      exact ⟨_, rfl, by simp, Go.Proofs.Ytpfpokjaeffbjab.Gof.blk_new' _ _ (by simp), ((Below.refl _ _).alloc (by simp) _).drew⟩
  case rest =>
    obtain ⟨PB, rfl, hPB, hblk, hb13⟩ := hcut
    rename World => W13
    have hb13' := (HBX.out.trans (hb13.mono (by simp)))
    have HOP := Lib.hid (HBK.out.below hb13 (by simp))
    have HPBk := Lib.hid hblk
    have HB13 := Lib.hid hb13'
    have H13 := Lib.hid (HW.out.later hb13')
    have hpm := HPI.out
    have HPR := Lib.hid (H13.out.at_.1 p (List.mem_of_getElem? hpm))
    clear hb13 hb13' hblk HBX HBK H1 hbl y0 y1 e0 HPK hpm i1 i2
    have x0 : W13.cell? ⟨w.heap.size, 0, none⟩ = some (.int .i64 o.kind) := HOP.out.cell 0
    go_wp2_with fail
    go_ret
    exact ⟨rfl, _, _, _, _, H13.out, HB13.out.mono HHB.out, by omega, by omega⟩
end Go.Proofs.Ytpfpokjaeffbjab.Scr
