/- A step of the script: Sign. -/
import Derived.Test.YtpfpokjaeffbjabStepLaws
import Derived.Test.YtpfpokjaeffbjabPickList
import Derived.Deep.AppendLies
namespace Go.Proofs.Ytpfpokjaeffbjab.Scr
open Go.RowKit Go.Proofs.Ytpfpokjaeffbjab.Pl Go.Proofs.Ytpfpokjaeffbjab.Mem Go.Proofs.Ytpfpokjaeffbjab.Mpp Go.Proofs.Ytpfpokjaeffbjab.Spl Go.Proofs.Ytpfpokjaeffbjab.Ver Go.Proofs.Ytpfpokjaeffbjab.Grp
open Go.Proofs.Ytpfpokjaeffbjab.Sgn (Only SgAt SgIn ComsBut)
open Go.Proofs.Ytpfpokjaeffbjab.Rsg (RLoc RSg Moved own_moved)
set_option linter.unusedVariables false

theorem told_bd {l : List Cm} (h : ∀ j, j < l.length → Told (l.getD j .zero)) : ∀ i, i < l.length → 0 ≤ (l.getD i .zero).d ∧ 0 ≤ (l.getD i .zero).e := fun i hi => ⟨(h i hi).2.1.1, (h i hi).2.2.1⟩
/-- A row above these blocks reads on. -/
theorem row_but {X : List Nat} {w w' : World} {base : Nat} {v : Value} {l : List Cm} (h : w.ownsRow base 37 3 v l.length (comCells l)) (hX : ∀ k ∈ X, k < base) (ho : Only X w w') : w'.ownsRow base 37 3 v l.length (comCells l) :=
  own_moved h fun g hg => ho.block g (h.lt g hg).2 (fun hk => by have := (h.lt g hg).1; have := hX g hk; omega)

set_option maxRecDepth 100000 in
set_option maxHeartbeats 8000000 in
theorem stepSign (w : World) (B WB : Nat) (sv cv : Value) (ps : List Pr) (told : List Cm) (o : OpP) (h : Wd w B WB sv cv ps told) (hB : B ≤ w.heap.size) (ho : OpOk w o) (hs : OpSmall o) (hp : ps.length ≤ 65536) (ht : told.length ≤ 65536) (hk : o.kind = 3) (hps : 0 < ps.length) (hdb : -9223372036854775808 ≤ o.d ∧ o.d ≤ 9223372036854775807) :
    Calls Try.prog 23 #[.pointer (some ⟨WB, 0, none⟩), .agg o.agg] w (StepPost B WB w ps.length told.length) := by
  have hbox := below_box w (.cells o.agg 58)
  have h1 := h.later hbox
  obtain ⟨i, hil, hpk⟩ := pickN o.a hps ho.ib.1 ho.ib.2
  obtain ⟨p, hpi⟩ : ∃ p, ps[i]? = some p := ⟨_, List.getElem?_eq_getElem hil⟩
  have HPK := Lib.hid hpk
  have HPI := Lib.hid hpi
  obtain ⟨b, cap, hsv, hbl, y0, y1⟩ := h1.pair hpi
  have HBX := Lib.hid hbox
  have HBK := Lib.hid (Blk.new w 58 o.agg)
  have H1 := Lib.hid h1
  have HO := Lib.hid ho
  have HS := Lib.hid hs
  have e0 := h1.cells.1
  have HSV := Lib.hid hsv
  rw [hsv] at e0
  have hne : ((ps.length : Int) == 0) = false := by rw [beq_eq_false_iff_ne]; omega
  have HAG := Lib.hid (show o.agg = #[.int .i64 o.kind, .int .i64 o.a, .int .i64 o.b, .int .i64 o.c, .int .i64 o.d, .int .i64 o.t, .int .i64 o.n, o.vg, .int .u64 o.N, .int .u64 o.M, .string o.S, o.vl] from rfl)
  rw [HAG.out] at HBX HBK H1 hbl y0 y1 e0 ⊢
  rw [hk] at HBX HBK H1 hbl y0 y1 e0 ⊢
  have hWl := h.wd.lt
  have i1 : (0 : Int) ≤ (i : Int) := by omega
  have i2 : (i : Int) < (ps.length : Int) := by omega
  have HW := Lib.hid h
  have HHB := Lib.hid hB
  have HKD := Lib.hid hk
  clear h h1 ho hs hbox hpk hpi hsv hB hk
  obtain ⟨oa, hoa⟩ : ∃ x, o.a = x := ⟨_, rfl⟩
  rw [hoa] at HBX HBK H1 hbl y0 y1 e0 HPK ⊢
  have HOA := Lib.hid hoa
  clear hoa
  go_enter Try.func23, Try.ntmps23
  go_upto_region 13 with fail
  go_cut [9] from 80 to 93 (fun q wx => ∃ PB, q = .pointer (some ⟨PB, 0, none⟩) ∧ w.heap.size < PB ∧ Blk wx PB 132 #[.pointer (some ⟨p.a.S, 0, none⟩), .pointer (some ⟨p.r.S, 0, none⟩)] ∧ Below (w.heap.size + 1) (w.alloc (.cells #[.int .i64 3, .int .i64 oa, .int .i64 o.b, .int .i64 o.c, .int .i64 o.d, .int .i64 o.t, .int .i64 o.n, o.vg, .int .u64 o.N, .int .u64 o.M, .string o.S, o.vl] 58)) wx)
  case first =>
    go_region_held3 (fun w' => w'.cell? ⟨WB, 0, none⟩ = some (.slice (some ⟨b, 0, none⟩) ps.length cap) ∧ w'.cell? ⟨w.heap.size, 1, none⟩ = some (.int .i64 oa) ∧ w'.cell? ⟨b, i * 2, none⟩ = some (.pointer (some ⟨p.a.S, 0, none⟩)) ∧ w'.cell? ⟨b, i * 2 + 1, none⟩ = some (.pointer (some ⟨p.r.S, 0, none⟩))) (go_keep)
      (first | (go_at_call 63; refine (HPK.out _).mono ?_; rintro e w' ⟨rfl, rfl⟩))
    all_goals
      go_wp2_with fail
      go_meet
      exact ⟨_, rfl, by simp, Go.Proofs.Ytpfpokjaeffbjab.Gof.blk_new' _ _ (by simp), ((Below.refl _ _).alloc (by simp) _).drew⟩
  case rest =>
    obtain ⟨PB, rfl, hPB, hblk, hb13⟩ := hcut
    rename World => W13
    have hb13' := (HBX.out.trans (hb13.mono (by simp)))
    have HOP := Lib.hid (HBK.out.below hb13 (by simp))
    have HPBk := Lib.hid hblk
    have HB13 := Lib.hid hb13'
    have H13 := Lib.hid (HW.out.later hb13')
    have hpm := HPI.out
    have HPR := Lib.hid (H13.out.at_.1 p (List.mem_of_getElem? hpm))
    clear hb13 hb13' hblk HBX HBK H1 hbl y0 y1 e0 HPK hpm i1 i2
    have x0 : W13.cell? ⟨w.heap.size, 0, none⟩ = some (.int .i64 3) := HOP.out.cell 0
    have x1 : W13.cell? ⟨w.heap.size, 1, none⟩ = some (.int .i64 oa) := HOP.out.cell 1
    have x2 : W13.cell? ⟨w.heap.size, 2, none⟩ = some (.int .i64 o.b) := HOP.out.cell 2
    have x3 : W13.cell? ⟨w.heap.size, 3, none⟩ = some (.int .i64 o.c) := HOP.out.cell 3
    have x4 : W13.cell? ⟨w.heap.size, 4, none⟩ = some (.int .i64 o.d) := HOP.out.cell 4
    have x5 : W13.cell? ⟨w.heap.size, 5, none⟩ = some (.int .i64 o.t) := HOP.out.cell 5
    have x6 : W13.cell? ⟨w.heap.size, 6, none⟩ = some (.int .i64 o.n) := HOP.out.cell 6
    have x7 : W13.cell? ⟨w.heap.size, 7, none⟩ = some o.vg := HOP.out.cell 7
    have x8 : W13.cell? ⟨w.heap.size, 8, none⟩ = some (.int .u64 o.N) := HOP.out.cell 8
    have x9 : W13.cell? ⟨w.heap.size, 9, none⟩ = some (.int .u64 o.M) := HOP.out.cell 9
    have x10 : W13.cell? ⟨w.heap.size, 10, none⟩ = some (.string o.S) := HOP.out.cell 10
    have x11 : W13.cell? ⟨w.heap.size, 11, none⟩ = some o.vl := HOP.out.cell 11
    have hls := listC W13 B WB sv cv ps told o H13.out (HO.out.later HB13.out) HS.out ht hdb
    rw [HAG.out, HKD.out, HOA.out] at hls
    have HLS := Lib.hid hls
    have hms := HS.out.s
    have hLl := HS.out.l
    clear hls
    generalize o.b = ob at *
    generalize o.c = oc at *
    generalize o.d = od at *
    generalize o.t = ot at *
    generalize o.n = on at *
    generalize o.vg = ovg at *
    generalize o.N = oN at *
    generalize o.M = oM at *
    generalize o.S = oS at *
    generalize o.vl = ovl at *
    go_wp2_with fail
    refine HLS.out.mono ?_
    rintro e W14 ⟨v, l, rfl, hown, hll, htd, hb14⟩
    obtain ⟨A1, c1, rfl⟩ := own_shape hown
    have H14 := Lib.hid (H13.out.later hb14)
    have HB14 := Lib.hid hb14
    have HOW := Lib.hid hown
    have HTD := Lib.hid htd
    have hl6 : l.length ≤ 65536 := by omega
    have hco := Lib.hid (Coms.own hown)
    obtain ⟨i0, hi, hz0, hz1, hz2⟩ := info_parts info_cm
    clear hown hb14 htd x0 x1 x2 x3 x4 x5 x6 x7 x8 x9 x11 hll x10
    go_upto_region 24 with (at_builtin; refine wpList_append_row _ rfl (.const (.slice none 0 0)) (.tmp 143) _ rfl W14.heap.size 37 i0 (.agg #[.int .i64 0, .int .u64 0, .int .u64 0]) 3 24 Try.underlying40 hi hz0 hz1 hz2 rfl (by decide) (.slice none 0 0) 0 [] rfl (World.ownsRow_nil _ _ _ _) _ _ l.length _ rfl hco.out (oneCell_coms _) (by unfold maxLen; omega) (by omega) (Nat.le_refl _) ?_; intro v2 W15 hown2 hgrow2)
    rw [Nat.zero_add, List.nil_append] at hown2
    obtain ⟨A2, c2, rfl⟩ := own_shape hown2
    have hb15 : Below W14.heap.size W14 W15 := (Below.refl _ _).grown hgrow2 (Nat.le_refl _) (fun k hk => by simp [Value.ownBlock] at hk)
    have hs14 := HB14.out.size
    have hb15' : Below W13.heap.size W13 W15 := HB14.out.trans (hb15.mono hs14)
    have H15 := Lib.hid (H13.out.later hb15')
    have HPR15 := Lib.hid (H15.out.at_.1 p (List.mem_of_getElem? HPI.out))
    have how15 := own_below HOW.out hb15 (Nat.le_refl _)
    have hpb15 := HPBk.out.below hb15' HPBk.out.lt
    have hop15 := HOP.out.below hb15' HOP.out.lt
    have hfa : ∀ k ∈ p.foot, k < W13.heap.size := HPR.out.lt
    have z0 : W15.cell? ⟨PB, 0, none⟩ = some (.pointer (some ⟨p.a.S, 0, none⟩)) := hpb15.cell 0
    have x10 : W15.cell? ⟨w.heap.size, 10, none⟩ = some (.string oS) := hop15.cell 10
    have HW15 := Lib.hid (HB13.out.trans (hb15'.mono HB13.out.size))
    obtain ⟨v, er, s', hrel⟩ := signRel_is p.s oS l
    have hsg := Lib.hid (Sgn.signC W15 p.a p.s oS l (.slice A1 l.length c1) HPR15.out.x HPR15.out.ok (fun w' ho => Coms.own (row_but how15 (fun k hk => hfa k (a_in k hk)) ho)) hl6 (told_bd HTD.out) (by omega) v er s' hrel)
    have hok' := Lib.hid (rel_ok hrel HPR15.out.ok)
    have HREL := Lib.hid hrel
    have HOW15 := Lib.hid how15
    have HOW2 := Lib.hid hown2
    have HPB15 := Lib.hid hpb15
    have HOP15 := Lib.hid hop15
    have hPBf := HPR15.out.off hpb15 (by decide)
    have hOPf := HPR15.out.off hop15 (by decide)
    have HFA := Lib.hid hfa
    clear hown2 hgrow2 hb15 hb15' how15 hpb15 hop15 hfa hrel HLS hco
    go_upto_region 25 with (go_at_call 14; refine hsg.out.mono ?_; rintro e W16 ⟨rfl, hx16, ho16⟩)
    have z1 : W16.cell? ⟨PB, 1, none⟩ = some (.pointer (some ⟨p.r.S, 0, none⟩)) := (ho16.blk HPB15.out (fun hk => hPBf (a_in _ hk))).cell 1
    have y10 : W16.cell? ⟨w.heap.size, 10, none⟩ = some (.string oS) := (ho16.blk HOP15.out (fun hk => hOPf (a_in _ hk))).cell 10
    have how16 := row_but HOW15.out (fun k hk => HFA.out k (a_in k hk)) ho16
    have how2 := row_but HOW2.out (fun k hk => by have := HFA.out k (a_in k hk); omega) ho16
    have hrf := Lib.hid (Rsg.refSignC W16 p.r p.s oS l (.slice A2 l.length c2) (HPR15.out.rest ho16) HPR15.out.ok (Coms.own how2) hl6 (told_bd HTD.out) (by omega) v er s' HREL.out)
    have HX16 := Lib.hid hx16
    have HO16 := Lib.hid ho16
    have HOW16 := Lib.hid how16
    have HOW216 := Lib.hid how2
    clear hx16 ho16 how16 how2 z0 x10 hsg
    go_upto_region 26 with (go_at_call 66; refine hrf.out.mono ?_; rintro e W17 ⟨rfl, hmv⟩)
    have ho17 := hmv.choose_spec.2.1
    have how17 := row_but HOW16.out (fun k hk => HFA.out k (r_in k hk)) ho17
    have how217 := row_but HOW216.out (fun k hk => by have := HFA.out k (r_in k hk); omega) ho17
    have hsm := Lib.hid (sameComs l (.slice A1 l.length c1) (.slice A2 l.length c2) W17 (Coms.own how17) (Coms.own how217) hl6)
    have q0 : (v == v) = true := by rw [beq_iff_eq]
    have q1 : (er == er) = true := by rw [beq_iff_eq]
    have HMV := Lib.hid hmv
    clear hmv ho17 how17 how217 z1 y10 hrf
    go_wp2_with fail
    refine hsm.out.mono ?_
    rintro e W18 ⟨rfl, hb18⟩
    obtain ⟨ps', h18, hw18, -, hpl'⟩ := both_end H15.out HPI.out HW15.out HHB.out HX16.out HO16.out (Below.refl _ _) HMV.out hb18 hok'.out
    have H18 := Lib.hid h18
    have HW18 := Lib.hid hw18
    have HPL := Lib.hid hpl'
    clear h18 hw18 hpl' hb18
    go_wp2_with fail
    go_ret
    exact ⟨rfl, _, _, _, _, H18.out, HW18.out, by have := HPL.out; omega, by omega⟩
end Go.Proofs.Ytpfpokjaeffbjab.Scr
