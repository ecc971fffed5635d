/- Part of the proof: PackageOf, PackageNums. -/
import Derived.Test.YtpfpokjaeffbjabGa19
import Derived.Deep.RegionHeld3
import Derived.Deep.RegionLaw
namespace Go.Proofs.Ytpfpokjaeffbjab.Pkg
open Go.RowKit Go.Proofs.Ytpfpokjaeffbjab.Pl Go.Proofs.Ytpfpokjaeffbjab.Dpl Go.Proofs.Ytpfpokjaeffbjab.Gpl Go.Proofs.Ytpfpokjaeffbjab.Kpl Go.Proofs.Ytpfpokjaeffbjab.Fld Go.Proofs.Ytpfpokjaeffbjab.Mem Go.Proofs.Ytpfpokjaeffbjab.Ver Go.Proofs.Ytpfpokjaeffbjab.Grp Go.Proofs.Ytpfpokjaeffbjab.Gof
set_option linter.unusedVariables false
section
variable {w : World} {p g : Nat} {vc lv : Value} {t n : Int} {cs : List Int} {l : List Cm} {msg : ByteArray} {base : Nat}
theorem nc_false {D : Int} {b1 b2 : Bool} (e1 : isEl D = b1) (e2 : (D == 1) = b2) (h : b1 = false ∨ b2 = true) : isNc D = false := by
  unfold isNc
  rw [e1]
  rcases h with rfl | rfl
  · rfl
  · rw [beq_iff_eq] at e2
    rw [e2]
    cases b1 <;> rfl
theorem nc_true {D : Int} (e1 : isEl D = true) (e2 : (D == 1) = false) : isNc D = true := by
  unfold isNc
  rw [beq_eq_false_iff_ne] at e2
  rw [e1]
  simp [e2]
set_option maxRecDepth 100000 in
set_option maxHeartbeats 4000000 in
theorem elementsC (h : Pk w p g vc lv t n cs l msg base) (hl : l.length ≤ 65536)
    (hb : ∀ i, i < l.length → 0 ≤ (l.getD i .zero).d ∧ 0 ≤ (l.getD i .zero).e) (x : Int) (hx : x = if ncsTo l l.length = true then 0 else 3) :
    Calls Try.prog 75 #[.pointer (some ⟨p, 0, none⟩)] w fun e w' => e = .returned (.int .i64 x) ∧ Below w.heap.size w w' := by
  obtain ⟨A, c, rfl⟩ := h.coms.shape
  have H := Lib.hid h
  obtain ⟨p0, p1, p2⟩ := h.cells
  have HB := Lib.hid hb
  have HX := Lib.hid hx
  clear h hb hx
  go_enter Try.func75, Try.ntmps75
  go_wp2_with fail
  go_loopw [14] (fun i wr => ∃ k : Nat, k ≤ l.length ∧ i = .int .i64 k ∧ ncsTo l k = true ∧ Below w.heap.size w wr) (fun i _ => l.length - (intOf i).toNat)
  case atStart => exact ⟨0, by omega, rfl, rfl, Below.refl _ _⟩
  case round =>
    obtain ⟨k, hk, rfl, he, hbw⟩ := hrel
    have HE := Lib.hid he
    clear he p0 p1 p2
    by_cases hlt : k < l.length
    · obtain ⟨b, off, rfl, hb, hc⟩ := H.out.coms.at_ (by omega)
      obtain ⟨x0, x1, x2⟩ := hc k hlt
      replace x0 := (hbw.cell (p := ⟨b, off + k * 3, none⟩) hb).trans x0
      replace x1 := (hbw.cell (p := ⟨b, off + k * 3 + 1, none⟩) hb).trans x1
      replace x2 := (hbw.cell (p := ⟨b, off + k * 3 + 2, none⟩) hb).trans x2
      obtain ⟨bD, bE⟩ := HB.out k hlt
      have hbad : (isNc (l.getD k .zero).d = false ∨ isNc (l.getD k .zero).e = false) → Hid (x = 3) := fun h => by
        show x = 3
        rw [HX.out, if_neg]
        rw [ncsTo_bad l hlt h]; simp
      have hstep : isNc (l.getD k .zero).d = true → isNc (l.getD k .zero).e = true → Hid (ncsTo l (k + 1) = true) := fun h1 h2 => ncsTo_step l HE.out h1 h2
      have BAD := Lib.hid hbad
      have STEP := Lib.hid hstep
      have hbox := below_box wr (.cells #[.int .i64 (l.getD k .zero).id, .int .u64 (l.getD k .zero).d, .int .u64 (l.getD k .zero).e] 37)
      have hbb := Lib.hid (hbw.trans (hbox.mono hbw.size))
      clear hc hbad hstep hbw hbox
      generalize (l.getD k .zero).id = X at *
      generalize (l.getD k .zero).d = D at *
      generalize (l.getD k .zero).e = E at *
      have i0' : ∀ W, (Instr.index 182 (.agg #[.int .u64 D, .int .u64 E]) (.int .i64 0)).run Try.prog W = .ok (.int .u64 D) W := fun _ => by kernel_rfl
      have i1' : ∀ W, (Instr.index 182 (.agg #[.int .u64 D, .int .u64 E]) (.int .i64 1)).run Try.prog W = .ok (.int .u64 E) W := fun _ => by kernel_rfl
      go_wp2_with fail
      go_loop [23] (fun i => (i = .int .i64 0) ∨ (i = .int .i64 1 ∧ Hid (isNc D = true)) ∨ (i = .int .i64 2 ∧ Hid (isNc D = true) ∧ Hid (isNc E = true))) (fun i => (2 - intOf i).toNat)
      case atStart => exact .inl rfl
      case round =>
        rcases hrel with rfl | ⟨rfl, hD⟩ | ⟨rfl, hD, hEE⟩
        · obtain ⟨b1, e1⟩ : ∃ b, isEl D = b := ⟨_, rfl⟩
          obtain ⟨b2, e2⟩ : ∃ b, (D == 1) = b := ⟨_, rfl⟩
          have E1 := Lib.hid e1
          clear e1
          cases b1
          case false =>
            have hF := BAD.out (.inl (nc_false E1.out e2 (.inl rfl)))
            cases b2
            all_goals
              go_wp2_with (go_at_call 61; refine (elIs _ D _ bD E1.out).mono ?_; rintro e w' ⟨rfl, rfl⟩)
              go_ret
              exact ⟨by rw [hF.out]; rfl, hbb.out⟩
          cases b2
          case true =>
            have hF := BAD.out (.inl (nc_false E1.out e2 (.inr rfl)))
            go_wp2_with (go_at_call 61; refine (elIs _ D _ bD E1.out).mono ?_; rintro e w' ⟨rfl, rfl⟩)
            go_ret
            exact ⟨by rw [hF.out]; rfl, hbb.out⟩
          have HG := Lib.hid (nc_true E1.out e2)
          go_wp2_with (go_at_call 61; refine (elIs _ D _ bD E1.out).mono ?_; rintro e w' ⟨rfl, rfl⟩)
          refine ⟨.inr (.inl ⟨rfl, HG⟩), by simp [intOf]⟩
        · obtain ⟨b1, e1⟩ : ∃ b, isEl E = b := ⟨_, rfl⟩
          obtain ⟨b2, e2⟩ : ∃ b, (E == 1) = b := ⟨_, rfl⟩
          have E1 := Lib.hid e1
          clear e1
          cases b1
          case false =>
            have hF := BAD.out (.inr (nc_false E1.out e2 (.inl rfl)))
            cases b2
            all_goals
              go_wp2_with (go_at_call 61; refine (elIs _ E _ bE E1.out).mono ?_; rintro e w' ⟨rfl, rfl⟩)
              go_ret
              exact ⟨by rw [hF.out]; rfl, hbb.out⟩
          cases b2
          case true =>
            have hF := BAD.out (.inr (nc_false E1.out e2 (.inr rfl)))
            go_wp2_with (go_at_call 61; refine (elIs _ E _ bE E1.out).mono ?_; rintro e w' ⟨rfl, rfl⟩)
            go_ret
            exact ⟨by rw [hF.out]; rfl, hbb.out⟩
          have HG := Lib.hid (nc_true E1.out e2)
          go_wp2_with (go_at_call 61; refine (elIs _ E _ bE E1.out).mono ?_; rintro e w' ⟨rfl, rfl⟩)
          refine ⟨.inr (.inr ⟨rfl, hD, HG⟩), by simp [intOf]⟩
        · have hS := STEP.out hD.out hEE.out
          go_wp2_with fail
          refine ⟨⟨k + 1, by omega, by go_num, hS.out, hbb.out⟩, by simp [intOf]; omega⟩
    · obtain rfl : k = l.length := by omega
      have hF : Hid (x = 0) := by
        show x = 0
        rw [HX.out, if_pos HE.out]
      go_wp2_with fail
      go_ret
      exact ⟨by rw [hF.out]; rfl, hbw⟩
theorem info_com : (Try.prog.info? 37).map (fun i => (i.zero, i.size, i.bytes)) = some (some (.agg #[.int .i64 0, .int .u64 0, .int .u64 0]), 3, 24) := by kernel_rfl
def PkgPost (t n : Int) (cs : List Int) (l : List Cm) (msg : ByteArray) (g : Nat) (vc : Value) (base : Nat) (w : World) (e : Ending) (w' : World) : Prop :=
  Below w.heap.size w w' ∧
  ((pkE t n l ≠ 0 ∧ e = .returned (.tuple #[.pointer none, .int .i64 (pkE t n l)])) ∨
   (pkE t n l = 0 ∧ ∃ p lv, e = .returned (.tuple #[.pointer (some ⟨p, 0, none⟩), .int .i64 0]) ∧ Pk w' p g vc lv t n cs l msg base))
def PkgPost' (t n : Int) (cs : List Int) (l : List Cm) (msg : ByteArray) (g : Nat) (vc : Value) (base : Nat) (w : World) (e : Ending) (w' : World) : Prop :=
  Below w.heap.size w w' ∧
  ((pkE t n l ≠ 0 ∧ e = .returned (.tuple #[.pointer none, .int .i64 (pkE t n l)])) ∨
   (pkE t n l = 0 ∧ ∃ p lv, e = .returned (.tuple #[.pointer (some ⟨p, 0, none⟩), .int .i64 0]) ∧ Pk w' p g vc lv t n cs l msg base ∧ w.heap.size ≤ p ∧ ∃ lb, lv = .slice (some ⟨lb, 0, none⟩) l.length l.length ∧ w.heap.size ≤ lb))
theorem below_none {w w' : World} (h : w.grownBy w' none) : Below w.heap.size w w' := ⟨h.os, h.tape, h.output, h.size, fun k hk => h.block k hk (by simp)⟩
theorem own_blk {w : World} {base : Nat} {e : TypeId} {size g n : Nat} {xs : List Value} (h : w.ownsRow base e size (.slice (some ⟨g, 0, none⟩) n n) n xs) : ∃ cur, Blk w g e cur ∧ cur.size = n * size := by
  rcases h.2 with ⟨h, _⟩ | ⟨g', cap', cur, h, hb, hh, hnc, hcm, hcs, htake⟩
  · simp at h
  · simp only [Value.slice.injEq, Option.some.injEq, Addr.mk.injEq, and_true, true_and] at h
    obtain ⟨rfl, rfl⟩ := h
    exact ⟨cur, hh, hcs⟩
theorem copied {w w1 : World} {g : Nat} {cur : Array Value} (hb : Blk w1 g 37 cur) (hl : l.length ≤ 65536) (hbw : Below w.heap.size w w1) (hg : w.heap.size ≤ g) :
    (w1.setRow g (comCells l).toArray).ownsRow w.heap.size 37 3 (.slice (some ⟨g, 0, none⟩) l.length l.length) l.length (comCells l) ∧ Below w.heap.size w (w1.setRow g (comCells l).toArray) := by
  refine ⟨⟨comCells_length l, .inr ⟨g, l.length, _, rfl, hg, blk_setRow hb _, Nat.le_refl _, by unfold maxLen; omega, by simp [comCells_length], ?_⟩⟩, ?_⟩
  · show (comCells l).take (l.length * 3) = comCells l
    rw [← comCells_length l, List.take_length]
  · exact hbw.trans ⟨rfl, rfl, rfl, by simp [World.setRow], fun k hk => setRow_other w1 g k _ (by omega)⟩
set_option maxRecDepth 100000 in
set_option maxHeartbeats 4000000 in
theorem pkgOfC' (hG : GrpAt w g t n vc 0 0 cs 1) (hO : OwnCs w base vc cs) (hC : Coms w w.heap.size lv l) (hl : l.length ≤ 65536)
    (hb : ∀ i, i < l.length → 0 ≤ (l.getD i .zero).d ∧ 0 ≤ (l.getD i .zero).e) :
    Calls Try.prog 32 #[.pointer (some ⟨g, 0, none⟩), .string msg, lv] w (PkgPost' t n cs l msg g vc base w) := by
  obtain ⟨A, c, rfl⟩ := hC.shape
  have HG := Lib.hid hG
  have HO := Lib.hid hO
  have HC := Lib.hid hC
  have HB := Lib.hid hb
  obtain ⟨i0, hi, hz0, hz1, hz2⟩ := info_parts info_com
  clear hG hO hC hb
  go_enter Try.func32, Try.ntmps32
  go_wp2_with (first | (refine wpList_make_full _ rfl _ _ 40 rfl w.heap.size 37 i0 (.agg #[.int .i64 0, .int .u64 0, .int .u64 0]) 3 Try.underlying40 hi hz0 hz1 .i64 .i64 _ _ l.length rfl rfl (by go_simp) (by go_simp) (by rw [hz2]; omega) (by unfold maxLen; omega) (Nat.le_refl _) ?_; intro w1 hown1 hgr1; obtain ⟨cur, hcur, hcs⟩ := own_blk hown1; have hbn := below_none hgr1; have hcm1 := HC.out.later hbn; have hcopy := run_copy_all (P := Try.prog) w1 40 40 3 37 i0 3 Try.underlying40 hi hz1 w.heap.size l.length l.length cur hcur hcs w1.heap.size (.slice A l.length c) (comCells l) hcm1 (oneCell_coms l); obtain ⟨hown2, hbw2⟩ := copied (l := l) hcur hl hbn (Nat.le_refl _); clear hcm1; generalize w1.setRow w.heap.size (comCells l).toArray = w2 at *))
  have hpk0 : Blk (w2.alloc (.cells #[.pointer (some ⟨g, 0, none⟩), .slice (some ⟨w.heap.size, 0, none⟩) l.length l.length, .string msg] 146)) w2.heap.size 146 #[.pointer (some ⟨g, 0, none⟩), .slice (some ⟨w.heap.size, 0, none⟩) l.length l.length, .string msg] := Blk.new _ _ _
  have hPk0 : Pk (w2.alloc (.cells #[.pointer (some ⟨g, 0, none⟩), .slice (some ⟨w.heap.size, 0, none⟩) l.length l.length, .string msg] 146)) w2.heap.size g vc (.slice (some ⟨w.heap.size, 0, none⟩) l.length l.length) t n cs l msg base :=
    have hbx := below_box w2 (.cells #[.pointer (some ⟨g, 0, none⟩), .slice (some ⟨w.heap.size, 0, none⟩) l.length l.length, .string msg] 146)
    ⟨hpk0, (Coms.own hown2).later hbx, (HG.out.below hbw2 HG.out.lt).below hbx (by have := HG.out.lt; have := hbw2.size; omega), own_below (own_below HO.out hbw2 (Nat.le_refl _)) hbx (Nat.le_refl _)⟩
  have hPk1 := hPk0.later (below_box _ (.cells #[.func (.func 73) #[] #[], .func (.func 74) #[] #[], .func (.func 75) #[] #[]] 150))
  have HPK := Lib.hid hPk1
  have hbw3 := Lib.hid ((hbw2.alloc hbw2.size (.cells #[.pointer (some ⟨g, 0, none⟩), .slice (some ⟨w.heap.size, 0, none⟩) l.length l.length, .string msg] 146)).alloc (by have := hbw2.size; simp; omega) (.cells #[.func (.func 73) #[] #[], .func (.func 74) #[] #[], .func (.func 75) #[] #[]] 150))
  have hqb := Lib.hid (blk_new' (w := (w2.alloc (.cells #[.pointer (some ⟨g, 0, none⟩), .slice (some ⟨w.heap.size, 0, none⟩) l.length l.length, .string msg] 146))) (g := w2.heap.size + 1) 150 #[.func (.func 73) #[] #[], .func (.func 74) #[] #[], .func (.func 75) #[] #[]] (by simp))
  have HSZ := Lib.hid hbw2.size
  clear hpk0 hPk0 hPk1 hown2 hbw2 hown1 hgr1 hcur hcs hbn
  go_loopw [26] (fun i wr => (i = .int .i64 0 ∨ (i = .int .i64 1 ∧ ¬ ((l.length : Int) < t ∨ n < (l.length : Int))) ∨ (i = .int .i64 2 ∧ ¬ ((l.length : Int) < t ∨ n < (l.length : Int)) ∧ riseErr n l l.length = 0) ∨ (i = .int .i64 3 ∧ pkE t n l = 0)) ∧
    Pk wr w2.heap.size g vc (.slice (some ⟨w.heap.size, 0, none⟩) l.length l.length) t n cs l msg base ∧ Blk wr (w2.heap.size + 1) 150 #[.func (.func 73) #[] #[], .func (.func 74) #[] #[], .func (.func 75) #[] #[]] ∧ Below w.heap.size w wr) (fun i _ => (3 - intOf i).toNat)
  case atStart => exact ⟨.inl rfl, HPK.out, hqb.out, hbw3.out⟩
  case round =>
    obtain ⟨hph, hPk, hq, hbw⟩ := hrel
    have q0 : wr.cell? ⟨w2.heap.size + 1, 0, none⟩ = some (.func (.func 73) #[] #[]) := hq.cell 0
    have q1 : wr.cell? ⟨w2.heap.size + 1, 1, none⟩ = some (.func (.func 74) #[] #[]) := hq.cell 1
    have q2 : wr.cell? ⟨w2.heap.size + 1, 2, none⟩ = some (.func (.func 75) #[] #[]) := hq.cell 2
    have HP := Lib.hid hPk
    clear hPk HPK
    rcases hph with rfl | ⟨rfl, hfew⟩ | ⟨rfl, hfew, hris⟩ | ⟨rfl, h0⟩
    · by_cases hfew : (l.length : Int) < t ∨ n < (l.length : Int)
      · have hE := Lib.hid (pkE_few hfew)
        have hm := Lib.hid (manyC HP.out hl 7 (by rw [if_pos hfew]))
        clear hfew
        go_wp2_with fail
        refine hm.out.mono ?_
        rintro e w5 ⟨rfl, hb5⟩
        go_wp2_with fail
        go_ret2
        exact ⟨hbw.trans (hb5.mono hbw.size), .inl ⟨by rw [hE.out]; omega, by rw [hE.out]; rfl⟩⟩
      · have hm := Lib.hid (manyC HP.out hl 0 (by rw [if_neg hfew]))
        have HFEW := Lib.hid hfew
        clear hfew
        go_wp2_with fail
        refine hm.out.mono ?_
        rintro e w5 ⟨rfl, hb5⟩
        go_wp2_with fail
        exact ⟨⟨.inr (.inl ⟨rfl, HFEW.out⟩), HP.out.later hb5, hq.below hb5 hq.lt, hbw.trans (hb5.mono hbw.size)⟩, by simp [intOf]⟩
    · have HFEW := Lib.hid hfew
      have hm := Lib.hid (risingC HP.out hl)
      by_cases hr : riseErr n l l.length = 0
      · rw [hr] at hm
        have HR := Lib.hid hr
        clear hfew hr
        go_wp2_with fail
        refine hm.out.mono ?_
        rintro e w5 ⟨rfl, hb5⟩
        go_wp2_with fail
        exact ⟨⟨.inr (.inr (.inl ⟨rfl, HFEW.out, HR.out⟩)), HP.out.later hb5, hq.below hb5 hq.lt, hbw.trans (hb5.mono hbw.size)⟩, by simp [intOf]⟩
      · have hE := Lib.hid (pkE_rise hfew hr)
        have HNZ := Lib.hid hr
        have hne : (riseErr n l l.length != 0) = true := by rw [bne_iff_ne]; exact hr
        generalize riseErr n l l.length = x at *
        clear hfew hr
        go_wp2_with fail
        refine hm.out.mono ?_
        rintro e w5 ⟨rfl, hb5⟩
        go_wp2_with fail
        go_ret2
        exact ⟨hbw.trans (hb5.mono hbw.size), .inl ⟨by rw [hE.out]; exact HNZ.out, by rw [hE.out]; rfl⟩⟩
    · by_cases hn : ncsTo l l.length = true
      · have hE := Lib.hid (pkE_ok hfew hris hn)
        have hm := Lib.hid (elementsC HP.out hl HB.out 0 (by rw [if_pos hn]))
        clear hfew hris hn
        go_wp2_with fail
        refine hm.out.mono ?_
        rintro e w5 ⟨rfl, hb5⟩
        go_wp2_with fail
        exact ⟨⟨.inr (.inr (.inr ⟨rfl, hE.out⟩)), HP.out.later hb5, hq.below hb5 hq.lt, hbw.trans (hb5.mono hbw.size)⟩, by simp [intOf]⟩
      · have hE := Lib.hid (pkE_nc hfew hris (by simpa using hn))
        have hm := Lib.hid (elementsC HP.out hl HB.out 3 (by rw [if_neg hn]))
        clear hfew hris hn
        go_wp2_with fail
        refine hm.out.mono ?_
        rintro e w5 ⟨rfl, hb5⟩
        go_wp2_with fail
        go_ret2
        exact ⟨hbw.trans (hb5.mono hbw.size), .inl ⟨by rw [hE.out]; omega, by rw [hE.out]; rfl⟩⟩
    · have H0 := Lib.hid h0
      clear h0
      go_wp2_with fail
      go_ret2
      exact ⟨hbw, .inr ⟨H0.out, _, _, rfl, HP.out, HSZ.out, _, rfl, Nat.le_refl _⟩⟩
end
end Go.Proofs.Ytpfpokjaeffbjab.Pkg
namespace Go.Proofs.Ytpfpokjaeffbjab.Pkg
open Go.RowKit Go.Proofs.Ytpfpokjaeffbjab.Pl Go.Proofs.Ytpfpokjaeffbjab.Dpl Go.Proofs.Ytpfpokjaeffbjab.Gpl Go.Proofs.Ytpfpokjaeffbjab.Kpl Go.Proofs.Ytpfpokjaeffbjab.Fld Go.Proofs.Ytpfpokjaeffbjab.Mem Go.Proofs.Ytpfpokjaeffbjab.Ver Go.Proofs.Ytpfpokjaeffbjab.Sls Go.Proofs.Ytpfpokjaeffbjab.Hsh Go.Proofs.Ytpfpokjaeffbjab.Grp Go.Proofs.Ytpfpokjaeffbjab.Gof
set_option linter.unusedVariables false
section
variable {w : World} {p g : Nat} {vc lv : Value} {t n : Int} {cs : List Int} {l : List Cm} {msg : ByteArray} {base : Nat}
set_option maxRecDepth 100000 in
theorem lenC (h : Pk w p g vc lv t n cs l msg base) :
    Calls Try.prog 33 #[.pointer (some ⟨p, 0, none⟩)] w fun e w' => e = .returned (.int .i64 l.length) ∧ w = w' := by
  obtain ⟨p0, p1, p2⟩ := h.cells
  obtain ⟨A, c, rfl⟩ := h.coms.shape
  clear h
  go_enter Try.func33, Try.ntmps33
  go_wp2_with fail
  go_ret
  exact ⟨rfl, rfl⟩
set_option maxRecDepth 100000 in
theorem keyC (hG : GrpAt w g t n vc 0 0 cs 1) (hO : OwnCs w base vc cs) (hl : 0 < cs.length) :
    Calls Try.prog 40 #[.pointer (some ⟨g, 0, none⟩)] w fun e w' => e = .returned (.int .u64 (cs.getD 0 0)) ∧ w = w' := by
  obtain ⟨g0, g1, g2, g3, g4⟩ := hG.cells
  obtain ⟨gc, cap, rfl, -, -, hc, -⟩ := hO.form hl
  have hc0 := hc 0 hl
  have hl' : (0 : Int) < (cs.length : Int) := by omega
  clear hG hO hc
  generalize cs.getD 0 0 = X at *
  go_enter Try.func40, Try.ntmps40
  go_wp2_with fail
  go_ret
  exact ⟨rfl, rfl⟩
theorem info_u64' : (Try.prog.info? 25).map (fun i => (i.zero, i.size, i.bytes)) = some (some (.int .u64 0), 1, 8) := by kernel_rfl
set_option maxRecDepth 100000 in
set_option maxHeartbeats 4000000 in
theorem bindC (h : Pk w p g vc lv t n cs l msg base) (hgd : Kpl.Good n l) (hn : n ≤ 9) (hl9 : l.length ≤ 9) (hcl : 0 < cs.length) (hc0 : 0 ≤ cs.getD 0 0 ∧ cs.getD 0 0 < 18446744073709551616) (hms : msg.size ≤ 1000000) {k : Nat} (hk : k < l.length) :
    Calls Try.prog 38 #[.pointer (some ⟨p, 0, none⟩), .int .i64 k] w fun e w' => e = .returned (.int .u64 (bindP l (cs.getD 0 0) msg k)) ∧ Below w.heap.size w w' := by
  obtain ⟨p0, p1, p2⟩ := h.cells
  obtain ⟨A, c, rfl⟩ := h.coms.shape
  obtain ⟨b, off, rfl, hb, hc⟩ := h.coms.at_ (by omega)
  obtain ⟨x0, x1, x2⟩ := hc k hk
  have hp := h.pk.lt
  have hgk := hgd k hk
  have H := Lib.hid h
  have HC := Lib.hid hc
  have HG := Lib.hid hgd
  have HBD := Lib.hid (bindNums_bd hgd hn hc0 hk)
  have hnm : Hid (bindNums l (cs.getD 0 0) k 0 = [(l.getD k .zero).id, cs.getD 0 0]) := by
    show _ = _
    simp [bindNums, flat]
  have wX : IntKind.u64.wrap (l.getD k .zero).id = (l.getD k .zero).id := u64_id (by omega) (by omega)
  have k1 : (0 : Int) ≤ (k : Int) := by omega
  have k2 : (k : Int) < (l.length : Int) := by omega
  obtain ⟨i0, hi, hz0, hz1, hz2⟩ := info_parts info_u64'
  have hbP : Hid (bindP l (cs.getD 0 0) msg k = hashI 1 msg (bindNums l (cs.getD 0 0) k l.length)) := by
    show bindP l (cs.getD 0 0) msg k = _
    rfl
  have hkc := Lib.hid (keyC (w := w.drew) (show GrpAt w.drew g t n vc 0 0 cs 1 from h.grp) (show OwnCs w.drew base vc cs from h.own) hcl)
  clear h hc hgd hgk hc0 x1 x2
  generalize (l.getD k .zero).id = X at *
  generalize cs.getD 0 0 = K at *
  go_enter Try.func38, Try.ntmps38
  go_wp2_with fail
  go_region_held3 (fun w' => (w'.cell? ⟨p, 0, none⟩ = some (.pointer (some ⟨g, 0, none⟩)) ∧ w'.cell? ⟨p, 1, none⟩ = some (.slice (some ⟨b, off, none⟩) l.length c)) ∧ w'.cell? ⟨b, off + k * 3, none⟩ = some (.int .i64 X)) (go_keep)
    (first | (go_at_call 40; refine hkc.out.mono ?_; rintro e w' ⟨rfl, rfl⟩))
  all_goals
    have hown0 : ((w.alloc (.cells #[.int .u64 X, .int .u64 K] 25)).drew).ownsRow w.heap.size 25 1 (.slice (some ⟨w.heap.size, 0, none⟩) 2 2) (2 + 3 * 0) ((bindNums l K k 0).map (Value.int .u64)) := by
      rw [hnm.out]
      exact World.ownsRow_lit w #[.int .u64 X, .int .u64 K] 2 (Nat.le_refl _) (by unfold maxLen; omega) rfl
    have hbw0 : Below w.heap.size w (w.alloc (.cells #[.int .u64 X, .int .u64 K] 25)).drew := (below_box _ _).drew
    generalize (w.alloc (.cells #[.int .u64 X, .int .u64 K] 25)).drew = w1 at *
    have HP1 := Lib.hid (H.out.later hbw0)
    obtain ⟨r0, r1, r2⟩ := HP1.out.cells
    have HO0 := Lib.hid hown0
    have HB0 := Lib.hid hbw0
    clear hown0 hbw0 p0 p1 p2
    go_wp2_with fail
    go_loopw [5, 28] (fun v i wr => ∃ j : Nat, j ≤ l.length ∧ i = .int .i64 j ∧ wr.ownsRow w.heap.size 25 1 v (2 + 3 * j) ((bindNums l K k j).map (Value.int .u64)) ∧ Below w.heap.size w wr) (fun _ i _ => l.length - (intOf i).toNat)
    case atStart => exact ⟨0, by omega, rfl, HO0.out, HB0.out⟩
    case round =>
      obtain ⟨j, hj, rfl, hown, hbw⟩ := hrel
      have HO := Lib.hid hown
      clear hown r0 r1 r2
      by_cases hlt : j < l.length
      · obtain ⟨y0, y1, y2⟩ := HC.out j hlt
        replace y0 := (hbw.cell (p := ⟨b, off + j * 3, none⟩) hb).trans y0
        replace y1 := (hbw.cell (p := ⟨b, off + j * 3 + 1, none⟩) hb).trans y1
        replace y2 := (hbw.cell (p := ⟨b, off + j * 3 + 2, none⟩) hb).trans y2
        have hgj := HG.out j hlt
        have wY : IntKind.u64.wrap (l.getD j .zero).id = (l.getD j .zero).id := u64_id (by omega) (by omega)
        have hst := Lib.hid (bindNums_step l K k j)
        have hlen : wr.heap.size < (wr.alloc (.cells #[.int .i64 (l.getD j .zero).id, .int .u64 (l.getD j .zero).d, .int .u64 (l.getD j .zero).e] 37)).heap.size := by simp
        obtain ⟨⟨gj1, gj2⟩, -⟩ := hgj
        generalize (l.getD j .zero).id = Y at *
        generalize (l.getD j .zero).d = D at *
        generalize (l.getD j .zero).e = E at *
        go_wp2_with (at_builtin; refine wpList_append_own _ rfl (.tmp 32) (.tmp 40) _ rfl w.heap.size 25 i0 (.int .u64 0) 1 8 Try.underlying26 hi hz0 hz1 hz2 rfl (by decide) _ _ _ rfl ((HO.out.alloc _).alloc _) ⟨wr.heap.size + 1, 0, none⟩ 3 3 [.int .u64 Y, .int .u64 D, .int .u64 E] rfl rfl (World.news_of_block (blk_new' _ _ (by simp))) (by simp [Value.oneCell']) (by unfold maxLen; omega) (by omega) (by have := hbw.size; simp; omega) ?_; intro v1 w2 hown1 hgrow1 _)
        have hbw2 := (((hbw.alloc hbw.size (.cells #[.int .i64 Y, .int .u64 D, .int .u64 E] 37)).alloc (by have := hbw.size; simp; omega) (.cells #[.int .u64 Y, .int .u64 D, .int .u64 E] 25)).grown hgrow1 (by have := hbw.size; simp; omega) fun k hk => (((HO.out.alloc (.cells #[.int .i64 Y, .int .u64 D, .int .u64 E] 37)).alloc (.cells #[.int .u64 Y, .int .u64 D, .int .u64 E] 25)).lt k hk).1)
        refine ⟨⟨j + 1, by omega, by go_num, by rw [hst.out, List.map_append, show 2 + 3 * (j + 1) = 2 + 3 * j + 3 by omega]; exact hown1, hbw2⟩, by simp [intOf]; omega⟩
      · obtain rfl : j = l.length := by omega
        have HPf := Lib.hid (H.out.later hbw)
        obtain ⟨r0, r1, r2⟩ := HPf.out.cells
        have hnv := Nums.own (l := bindNums l K k l.length) (by rw [bindNums_length]; exact HO.out)
        have hh := Lib.hid (hashC 1 msg (bindNums l K k l.length) _ wr hnv (by rw [bindNums_length]; omega) hms (by omega) (by omega) HBD.out)
        obtain ⟨A5, c5, rfl⟩ := own_shape HO.out
        rw [← hbP.out] at hh
        clear hnv
        go_wp2_with fail
        refine hh.out.mono ?_
        rintro e w' ⟨rfl, x, rfl⟩
        go_wp2_with fail
        go_ret
        exact ⟨rfl, hbw.alloc hbw.size _⟩
set_option maxRecDepth 100000 in
set_option maxHeartbeats 4000000 in
theorem partC (h : Pk w p g vc lv t n cs l msg base) (hgd : Kpl.Good n l) (hn : n ≤ 9) (hl9 : l.length ≤ 9) (hcl : 0 < cs.length) (hc0 : 0 ≤ cs.getD 0 0 ∧ cs.getD 0 0 < 18446744073709551616) (hms : msg.size ≤ 1000000) {k : Nat} (hk : k < l.length) :
    Calls Try.prog 45 #[.pointer (some ⟨p, 0, none⟩), .int .i64 k] w fun e w' => e = .returned (.int .u64 (partP l (cs.getD 0 0) msg k)) ∧ Below w.heap.size w w' := by
  obtain ⟨p0, p1, p2⟩ := h.cells
  obtain ⟨A, c, rfl⟩ := h.coms.shape
  obtain ⟨b, off, rfl, hb, hc⟩ := h.coms.at_ (by omega)
  obtain ⟨x0, x1, x2⟩ := hc k hk
  obtain ⟨-, -, ⟨d0, d1⟩, e0, e1⟩ := hgd k hk
  have hP : Hid (partP l (cs.getD 0 0) msg k = emul (l.getD k .zero).d (pw (l.getD k .zero).e (bindP l (cs.getD 0 0) msg k).toNat 2147483579)) := by
    show partP l (cs.getD 0 0) msg k = _
    rfl
  have hbx := below_box w (.cells #[.int .i64 (l.getD k .zero).id, .int .u64 (l.getD k .zero).d, .int .u64 (l.getD k .zero).e] 37)
  have hbi := Lib.hid (bindC (h.later hbx.drew) hgd hn hl9 hcl hc0 hms hk)
  have hbb := bindP_bd l (cs.getD 0 0) msg k
  have k1 : (0 : Int) ≤ (k : Int) := by omega
  have k2 : (k : Int) < (l.length : Int) := by omega
  have HBX := Lib.hid hbx
  obtain ⟨bb0, bb1⟩ := hbb
  have b0 : (w.alloc (.cells #[.int .i64 (l.getD k .zero).id, .int .u64 (l.getD k .zero).d, .int .u64 (l.getD k .zero).e] 37)).cell? ⟨w.heap.size, 1, none⟩ = some (.int .u64 (l.getD k .zero).d) := by simp
  have b1 : (w.alloc (.cells #[.int .i64 (l.getD k .zero).id, .int .u64 (l.getD k .zero).d, .int .u64 (l.getD k .zero).e] 37)).cell? ⟨w.heap.size, 2, none⟩ = some (.int .u64 (l.getD k .zero).e) := by simp
  have hsz : w.heap.size < (w.alloc (.cells #[.int .i64 (l.getD k .zero).id, .int .u64 (l.getD k .zero).d, .int .u64 (l.getD k .zero).e] 37)).heap.size := by simp
  clear h hc hgd hc0 hbx
  generalize (l.getD k .zero).id = X at *
  generalize (l.getD k .zero).d = D at *
  generalize (l.getD k .zero).e = E at *
  generalize bindP l (cs.getD 0 0) msg k = Bd at *
  generalize partP l (cs.getD 0 0) msg k = R at *
  go_enter Try.func45, Try.ntmps45
  go_wp2_with fail
  generalize w.alloc (.cells #[.int .i64 X, .int .u64 D, .int .u64 E] 37) = wb at *
  go_region_held3 (fun w' => w'.cell? ⟨w.heap.size, 1, none⟩ = some (.int .u64 D) ∧ w'.cell? ⟨w.heap.size, 2, none⟩ = some (.int .u64 E))
    (first | go_keep | (exact ⟨(hb1.cell (p := ⟨w.heap.size, 1, none⟩) hsz).trans b0, (hb1.cell (p := ⟨w.heap.size, 2, none⟩) hsz).trans b1⟩))
    (first | (go_at_call 38; refine hbi.out.mono ?_; rintro e w1 ⟨rfl, hb1⟩) | (go_at_call 48; refine (powerI E Bd _ (by omega) e1 bb0 (by omega)).mono ?_; rintro e w' ⟨rfl, rfl⟩) | (go_at_call 46; refine (etimes _ _ _).mono ?_; rintro e w' ⟨rfl, rfl⟩))
  all_goals
    go_wp2_with fail
    go_ret
    exact ⟨by rw [hP.out]; rfl, HBX.out.trans (((Below.refl _ _).drew).trans (hb1.mono (Nat.le_of_lt hsz)))⟩
theorem info_el' : (Try.prog.info? 85).map (fun i => (i.zero, i.size, i.bytes)) = some (some (.int .u64 0), 1, 8) := by kernel_rfl
theorem info_int' : (Try.prog.info? 3).map (fun i => (i.zero, i.size, i.bytes)) = some (some (.int .i64 0), 1, 8) := by kernel_rfl
set_option maxRecDepth 100000 in
set_option maxHeartbeats 4000000 in
theorem allC (h : Pk w p g vc lv t n cs l msg base) (hgd : Kpl.Good n l) (hn : n ≤ 9) (hl9 : l.length ≤ 9) (hcl : 0 < cs.length) (hc0 : 0 ≤ cs.getD 0 0 ∧ cs.getD 0 0 < 18446744073709551616) (hms : msg.size ≤ 1000000)
    (r x : Int) (hx : (allP l (cs.getD 0 0) msg = 1 ∧ r = 0 ∧ x = 11) ∨ (allP l (cs.getD 0 0) msg ≠ 1 ∧ r = allP l (cs.getD 0 0) msg ∧ x = 0)) :
    Calls Try.prog 35 #[.pointer (some ⟨p, 0, none⟩)] w fun e w' => e = .returned (.tuple #[.int .u64 r, .int .i64 x]) ∧ Below w.heap.size w w' := by
  obtain ⟨p0, p1, p2⟩ := h.cells
  obtain ⟨A, c, rfl⟩ := h.coms.shape
  have H := Lib.hid h
  have HG := Lib.hid hgd
  have HC0 := Lib.hid hc0
  have HX := Lib.hid hx
  obtain ⟨i0, hi, hz0, hz1, hz2⟩ := info_parts info_el'
  clear h hgd hc0 hx
  have hAP : Hid (allP l (cs.getD 0 0) msg = prodE 1 (partsP l (cs.getD 0 0) msg l.length) l.length) := by
    show allP l (cs.getD 0 0) msg = _
    rfl
  go_enter Try.func35, Try.ntmps35
  go_wp2_with fail
  go_loopw [4, 12] (fun v i wr => ∃ k : Nat, k ≤ l.length ∧ i = .int .i64 k ∧ wr.ownsRow w.heap.size 85 1 v k ((partsP l (cs.getD 0 0) msg k).map (Value.int .u64)) ∧ Below w.heap.size w wr) (fun _ i _ => l.length - (intOf i).toNat)
  case atStart => exact ⟨0, by omega, rfl, World.ownsRow_nil _ _ _ _, Below.refl _ _⟩
  case round =>
    obtain ⟨k, hk, rfl, hown, hbw⟩ := hrel
    have HO := Lib.hid hown
    clear hown p0 p1 p2
    by_cases hlt : k < l.length
    · have hpt := Lib.hid (partC (H.out.later hbw) HG.out hn hl9 hcl HC0.out hms hlt)
      have hst := Lib.hid (partsP_step l (cs.getD 0 0) msg k)
      generalize partP l (cs.getD 0 0) msg k = R at *
      go_wp2_with (first | (go_at_call 45; refine hpt.out.mono ?_; rintro e w2 ⟨rfl, hb2⟩; have hown2 := own_below HO.out hb2 (Nat.le_refl _); have hbw2 := hbw.trans (hb2.mono hbw.size)) | (at_builtin; refine wpList_append_own _ rfl (.tmp 15) (.tmp 19) _ rfl w.heap.size 85 i0 (.int .u64 0) 1 8 Try.underlying136 hi hz0 hz1 hz2 rfl (by decide) _ _ _ rfl (hown2.alloc _) ⟨w2.heap.size, 0, none⟩ 1 1 [.int .u64 R] rfl rfl (cell_one_new _ _ _) (by simp [Value.oneCell']) (by unfold maxLen; omega) (by omega) (by have := hbw2.size; simp; omega) ?_; intro v3 w3 hown3 hgrow3 _))
      refine ⟨⟨k + 1, by omega, by go_num, by rw [hst.out, List.map_append]; exact hown3, below_grown hbw2 hown2 hbw2.size hgrow3⟩, by simp [intOf]; omega⟩
    · obtain rfl : k = l.length := by omega
      have hnv := Nums.own (l := partsP l (cs.getD 0 0) msg l.length) (by rw [partsP_length]; exact HO.out)
      obtain ⟨A5, c5, rfl⟩ := own_shape HO.out
      have hfo := foldE 1 (partsP l (cs.getD 0 0) msg l.length) _ wr hnv (by rw [partsP_length]; omega)
      rw [partsP_length, ← hAP.out] at hfo
      have HF := Lib.hid hfo
      clear hnv hfo
      generalize allP l (cs.getD 0 0) msg = R at *
      rcases HX.out with ⟨hr1, hr2, hr3⟩ | ⟨hr1, hr2, hr3⟩
      · have t1 : (R == 1) = true := by rw [beq_iff_eq]; exact hr1
        subst hr2 hr3
        clear hr1
        go_wp2_with fail
        refine HF.out.mono ?_
        rintro e w' ⟨rfl, rfl⟩
        go_wp2_with fail
        go_ret2
        exact ⟨rfl, hbw⟩
      · have t1 : (R == 1) = false := by rw [beq_eq_false_iff_ne]; exact hr1
        subst hr2 hr3
        clear hr1
        go_wp2_with fail
        refine HF.out.mono ?_
        rintro e w' ⟨rfl, rfl⟩
        go_wp2_with fail
        go_ret2
        exact ⟨rfl, hbw⟩
end
end Go.Proofs.Ytpfpokjaeffbjab.Pkg
