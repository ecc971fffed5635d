/- Packages of commitments: nonces' commitments; the package itself. -/
import Derived.Test.YtpfpokjaeffbjabPackage
namespace Go.Proofs.Ytpfpokjaeffbjab.Pkg
open Go.RowKit Go.Proofs.Ytpfpokjaeffbjab.Pl Go.Proofs.Ytpfpokjaeffbjab.Dpl Go.Proofs.Ytpfpokjaeffbjab.Gpl Go.Proofs.Ytpfpokjaeffbjab.Kpl Go.Proofs.Ytpfpokjaeffbjab.Fld Go.Proofs.Ytpfpokjaeffbjab.Mem Go.Proofs.Ytpfpokjaeffbjab.Ver Go.Proofs.Ytpfpokjaeffbjab.Grp Go.Proofs.Ytpfpokjaeffbjab.Gof
set_option linter.unusedVariables false
section
variable {w : World} {p g : Nat} {vc lv : Value} {t n : Int} {cs : List Int} {l : List Cm} {msg : ByteArray} {base : Nat}

/-- An element that is 1 or none is no commitment to a nonce. -/
theorem nc_false {D : Int} {b1 b2 : Bool} (e1 : isEl D = b1) (e2 : (D == 1) = b2) (h : b1 = false ∨ b2 = true) : isNc D = false := by
  unfold isNc
  rw [e1]
  rcases h with rfl | rfl
  · rfl
  · rw [beq_iff_eq] at e2
    rw [e2]
    cases b1 <;> rfl
theorem nc_true {D : Int} (e1 : isEl D = true) (e2 : (D == 1) = false) : isNc D = true := by
  unfold isNc
  rw [beq_eq_false_iff_ne] at e2
  rw [e1]
  simp [e2]
set_option maxRecDepth 100000 in
set_option maxHeartbeats 4000000 in
theorem elementsC (h : Pk w p g vc lv t n cs l msg base) (hl : l.length ≤ 65536)
    (hb : ∀ i, i < l.length → 0 ≤ (l.getD i .zero).d ∧ 0 ≤ (l.getD i .zero).e) (x : Int) (hx : x = if ncsTo l l.length = true then 0 else 3) :
    Calls Try.prog 75 #[.pointer (some ⟨p, 0, none⟩)] w fun e w' => e = .returned (.int .i64 x) ∧ Below w.heap.size w w' := by
  obtain ⟨A, c, rfl⟩ := h.coms.shape
  have H := Lib.hid h
  obtain ⟨p0, p1, p2⟩ := h.cells
  have HB := Lib.hid hb
  have HX := Lib.hid hx
  clear h hb hx
  go_enter Try.func75, Try.ntmps75
  go_wp2_with fail
  go_loopw [14] (fun i wr => ∃ k : Nat, k ≤ l.length ∧ i = .int .i64 k ∧ ncsTo l k = true ∧ Below w.heap.size w wr) (fun i _ => l.length - (intOf i).toNat)
  case atStart => exact ⟨0, by omega, rfl, rfl, Below.refl _ _⟩
  case round =>
    obtain ⟨k, hk, rfl, he, hbw⟩ := hrel
    have HE := Lib.hid he
    clear he p0 p1 p2
    by_cases hlt : k < l.length
    · obtain ⟨b, off, rfl, hb, hc⟩ := H.out.coms.at_ (by omega)
      obtain ⟨x0, x1, x2⟩ := hc k hlt
      replace x0 := (hbw.cell (p := ⟨b, off + k * 3, none⟩) hb).trans x0
      replace x1 := (hbw.cell (p := ⟨b, off + k * 3 + 1, none⟩) hb).trans x1
      replace x2 := (hbw.cell (p := ⟨b, off + k * 3 + 2, none⟩) hb).trans x2
      obtain ⟨bD, bE⟩ := HB.out k hlt
      have hbad : (isNc (l.getD k .zero).d = false ∨ isNc (l.getD k .zero).e = false) → Hid (x = 3) := fun h => by
        show x = 3
        rw [HX.out, if_neg]
        rw [ncsTo_bad l hlt h]; simp
      have hstep : isNc (l.getD k .zero).d = true → isNc (l.getD k .zero).e = true → Hid (ncsTo l (k + 1) = true) := fun h1 h2 => ncsTo_step l HE.out h1 h2
      have BAD := Lib.hid hbad
      have STEP := Lib.hid hstep
      have hbox := below_box wr (.cells #[.int .i64 (l.getD k .zero).id, .int .u64 (l.getD k .zero).d, .int .u64 (l.getD k .zero).e] 37)
      have hbb := Lib.hid (hbw.trans (hbox.mono hbw.size))
      clear hc hbad hstep hbw hbox
      generalize (l.getD k .zero).id = X at *
      generalize (l.getD k .zero).d = D at *
      generalize (l.getD k .zero).e = E at *
      have i0' : ∀ W, (Instr.index 182 (.agg #[.int .u64 D, .int .u64 E]) (.int .i64 0)).run Try.prog W = .ok (.int .u64 D) W := fun _ => by kernel_rfl
      have i1' : ∀ W, (Instr.index 182 (.agg #[.int .u64 D, .int .u64 E]) (.int .i64 1)).run Try.prog W = .ok (.int .u64 E) W := fun _ => by kernel_rfl
      go_wp2_with fail
      go_loop [23] (fun i => (i = .int .i64 0) ∨ (i = .int .i64 1 ∧ Hid (isNc D = true)) ∨ (i = .int .i64 2 ∧ Hid (isNc D = true) ∧ Hid (isNc E = true))) (fun i => (2 - intOf i).toNat)
      case atStart => exact .inl rfl
      case round =>
        rcases hrel with rfl | ⟨rfl, hD⟩ | ⟨rfl, hD, hEE⟩
        · obtain ⟨b1, e1⟩ : ∃ b, isEl D = b := ⟨_, rfl⟩
          obtain ⟨b2, e2⟩ : ∃ b, (D == 1) = b := ⟨_, rfl⟩
          have E1 := Lib.hid e1
          clear e1
          cases b1
          case false =>
            have hF := BAD.out (.inl (nc_false E1.out e2 (.inl rfl)))
            cases b2
            all_goals
              go_wp2_with (go_at_call 61; refine (elIs _ D _ bD E1.out).mono ?_; rintro e w' ⟨rfl, rfl⟩)
              go_ret
              exact ⟨by rw [hF.out]; rfl, hbb.out⟩
          cases b2
          case true =>
            have hF := BAD.out (.inl (nc_false E1.out e2 (.inr rfl)))
            go_wp2_with (go_at_call 61; refine (elIs _ D _ bD E1.out).mono ?_; rintro e w' ⟨rfl, rfl⟩)
            go_ret
            exact ⟨by rw [hF.out]; rfl, hbb.out⟩
          have HG := Lib.hid (nc_true E1.out e2)
          go_wp2_with (go_at_call 61; refine (elIs _ D _ bD E1.out).mono ?_; rintro e w' ⟨rfl, rfl⟩)
          refine ⟨.inr (.inl ⟨rfl, HG⟩), by simp [intOf]⟩
        · obtain ⟨b1, e1⟩ : ∃ b, isEl E = b := ⟨_, rfl⟩
          obtain ⟨b2, e2⟩ : ∃ b, (E == 1) = b := ⟨_, rfl⟩
          have E1 := Lib.hid e1
          clear e1
          cases b1
          case false =>
            have hF := BAD.out (.inr (nc_false E1.out e2 (.inl rfl)))
            cases b2
            all_goals
              go_wp2_with (go_at_call 61; refine (elIs _ E _ bE E1.out).mono ?_; rintro e w' ⟨rfl, rfl⟩)
              go_ret
              exact ⟨by rw [hF.out]; rfl, hbb.out⟩
          cases b2
          case true =>
            have hF := BAD.out (.inr (nc_false E1.out e2 (.inr rfl)))
            go_wp2_with (go_at_call 61; refine (elIs _ E _ bE E1.out).mono ?_; rintro e w' ⟨rfl, rfl⟩)
            go_ret
            exact ⟨by rw [hF.out]; rfl, hbb.out⟩
          have HG := Lib.hid (nc_true E1.out e2)
          go_wp2_with (go_at_call 61; refine (elIs _ E _ bE E1.out).mono ?_; rintro e w' ⟨rfl, rfl⟩)
          refine ⟨.inr (.inr ⟨rfl, hD, HG⟩), by simp [intOf]⟩
        · have hS := STEP.out hD.out hEE.out
          go_wp2_with fail
          refine ⟨⟨k + 1, by omega, by go_num, hS.out, hbb.out⟩, by simp [intOf]; omega⟩
    · obtain rfl : k = l.length := by omega
      have hF : Hid (x = 0) := by
        show x = 0
        rw [HX.out, if_pos HE.out]
      go_wp2_with fail
      go_ret
      exact ⟨by rw [hF.out]; rfl, hbw⟩
theorem info_com : (Try.prog.info? 37).map (fun i => (i.zero, i.size, i.bytes)) = some (some (.agg #[.int .i64 0, .int .u64 0, .int .u64 0]), 3, 24) := by kernel_rfl
/-- What (*Group).Of leaves. -/
def PkgPost (t n : Int) (cs : List Int) (l : List Cm) (msg : ByteArray) (g : Nat) (vc : Value) (base : Nat) (w : World) (e : Ending) (w' : World) : Prop :=
  Below w.heap.size w w' ∧
  ((pkE t n l ≠ 0 ∧ e = .returned (.tuple #[.pointer none, .int .i64 (pkE t n l)])) ∨
   (pkE t n l = 0 ∧ ∃ p lv, e = .returned (.tuple #[.pointer (some ⟨p, 0, none⟩), .int .i64 0]) ∧ Pk w' p g vc lv t n cs l msg base))
theorem below_none {w w' : World} (h : w.grownBy w' none) : Below w.heap.size w w' := ⟨h.os, h.tape, h.output, h.size, fun k hk => h.block k hk (by simp)⟩
theorem own_blk {w : World} {base : Nat} {e : TypeId} {size g n : Nat} {xs : List Value} (h : w.ownsRow base e size (.slice (some ⟨g, 0, none⟩) n n) n xs) : ∃ cur, Blk w g e cur ∧ cur.size = n * size := by
  rcases h.2 with ⟨h, _⟩ | ⟨g', cap', cur, h, hb, hh, hnc, hcm, hcs, htake⟩
  · simp at h
  · simp only [Value.slice.injEq, Option.some.injEq, Addr.mk.injEq, and_true, true_and] at h
    obtain ⟨rfl, rfl⟩ := h
    exact ⟨cur, hh, hcs⟩
/-- Behind the copy. -/
theorem copied {w w1 : World} {g : Nat} {cur : Array Value} (hb : Blk w1 g 37 cur) (hl : l.length ≤ 65536) (hbw : Below w.heap.size w w1) (hg : w.heap.size ≤ g) :
    (w1.setRow g (comCells l).toArray).ownsRow w.heap.size 37 3 (.slice (some ⟨g, 0, none⟩) l.length l.length) l.length (comCells l) ∧ Below w.heap.size w (w1.setRow g (comCells l).toArray) := by
  refine ⟨⟨comCells_length l, .inr ⟨g, l.length, _, rfl, hg, blk_setRow hb _, Nat.le_refl _, by unfold maxLen; omega, by simp [comCells_length], ?_⟩⟩, ?_⟩
  · show (comCells l).take (l.length * 3) = comCells l
    rw [← comCells_length l, List.take_length]
  · exact hbw.trans ⟨rfl, rfl, rfl, by simp [World.setRow], fun k hk => setRow_other w1 g k _ (by omega)⟩
set_option maxRecDepth 100000 in
set_option maxHeartbeats 4000000 in
theorem pkgOfC (hG : GrpAt w g t n vc 0 0 cs 1) (hO : OwnCs w base vc cs) (hC : Coms w w.heap.size lv l) (hl : l.length ≤ 65536)
    (hb : ∀ i, i < l.length → 0 ≤ (l.getD i .zero).d ∧ 0 ≤ (l.getD i .zero).e) :
    Calls Try.prog 32 #[.pointer (some ⟨g, 0, none⟩), .string msg, lv] w (PkgPost t n cs l msg g vc base w) := by
  obtain ⟨A, c, rfl⟩ := hC.shape
  have HG := Lib.hid hG
  have HO := Lib.hid hO
  have HC := Lib.hid hC
  have HB := Lib.hid hb
  obtain ⟨i0, hi, hz0, hz1, hz2⟩ := info_parts info_com
  clear hG hO hC hb
  go_enter Try.func32, Try.ntmps32
  go_wp2_with (first | (refine wpList_make_full _ rfl _ _ 40 rfl w.heap.size 37 i0 (.agg #[.int .i64 0, .int .u64 0, .int .u64 0]) 3 Try.underlying40 hi hz0 hz1 .i64 .i64 _ _ l.length rfl rfl (by go_simp) (by go_simp) (by rw [hz2]; omega) (by unfold maxLen; omega) (Nat.le_refl _) ?_; intro w1 hown1 hgr1; obtain ⟨cur, hcur, hcs⟩ := own_blk hown1; have hbn := below_none hgr1; have hcm1 := HC.out.later hbn; have hcopy := run_copy_all (P := Try.prog) w1 40 40 3 37 i0 3 Try.underlying40 hi hz1 w.heap.size l.length l.length cur hcur hcs w1.heap.size (.slice A l.length c) (comCells l) hcm1 (oneCell_coms l); obtain ⟨hown2, hbw2⟩ := copied (l := l) hcur hl hbn (Nat.le_refl _); clear hcm1; generalize w1.setRow w.heap.size (comCells l).toArray = w2 at *))
  have hpk0 : Blk (w2.alloc (.cells #[.pointer (some ⟨g, 0, none⟩), .slice (some ⟨w.heap.size, 0, none⟩) l.length l.length, .string msg] 146)) w2.heap.size 146 #[.pointer (some ⟨g, 0, none⟩), .slice (some ⟨w.heap.size, 0, none⟩) l.length l.length, .string msg] := Blk.new _ _ _
  have hPk0 : Pk (w2.alloc (.cells #[.pointer (some ⟨g, 0, none⟩), .slice (some ⟨w.heap.size, 0, none⟩) l.length l.length, .string msg] 146)) w2.heap.size g vc (.slice (some ⟨w.heap.size, 0, none⟩) l.length l.length) t n cs l msg base :=
    have hbx := below_box w2 (.cells #[.pointer (some ⟨g, 0, none⟩), .slice (some ⟨w.heap.size, 0, none⟩) l.length l.length, .string msg] 146)
    ⟨hpk0, (Coms.own hown2).later hbx, (HG.out.below hbw2 HG.out.lt).below hbx (by have := HG.out.lt; have := hbw2.size; omega), own_below (own_below HO.out hbw2 (Nat.le_refl _)) hbx (Nat.le_refl _)⟩
  have hPk1 := hPk0.later (below_box _ (.cells #[.func (.func 73) #[] #[], .func (.func 74) #[] #[], .func (.func 75) #[] #[]] 150))
  have HPK := Lib.hid hPk1
  have hbw3 := Lib.hid ((hbw2.alloc hbw2.size (.cells #[.pointer (some ⟨g, 0, none⟩), .slice (some ⟨w.heap.size, 0, none⟩) l.length l.length, .string msg] 146)).alloc (by have := hbw2.size; simp; omega) (.cells #[.func (.func 73) #[] #[], .func (.func 74) #[] #[], .func (.func 75) #[] #[]] 150))
  have hqb := Lib.hid (blk_new' (w := (w2.alloc (.cells #[.pointer (some ⟨g, 0, none⟩), .slice (some ⟨w.heap.size, 0, none⟩) l.length l.length, .string msg] 146))) (g := w2.heap.size + 1) 150 #[.func (.func 73) #[] #[], .func (.func 74) #[] #[], .func (.func 75) #[] #[]] (by simp))
  clear hpk0 hPk0 hPk1 hown2 hbw2 hown1 hgr1 hcur hcs hbn
  go_loopw [26] (fun i wr => (i = .int .i64 0 ∨ (i = .int .i64 1 ∧ ¬ ((l.length : Int) < t ∨ n < (l.length : Int))) ∨ (i = .int .i64 2 ∧ ¬ ((l.length : Int) < t ∨ n < (l.length : Int)) ∧ riseErr n l l.length = 0) ∨ (i = .int .i64 3 ∧ pkE t n l = 0)) ∧
    Pk wr w2.heap.size g vc (.slice (some ⟨w.heap.size, 0, none⟩) l.length l.length) t n cs l msg base ∧ Blk wr (w2.heap.size + 1) 150 #[.func (.func 73) #[] #[], .func (.func 74) #[] #[], .func (.func 75) #[] #[]] ∧ Below w.heap.size w wr) (fun i _ => (3 - intOf i).toNat)
  case atStart => exact ⟨.inl rfl, HPK.out, hqb.out, hbw3.out⟩
  case round =>
    obtain ⟨hph, hPk, hq, hbw⟩ := hrel
    have q0 : wr.cell? ⟨w2.heap.size + 1, 0, none⟩ = some (.func (.func 73) #[] #[]) := hq.cell 0
    have q1 : wr.cell? ⟨w2.heap.size + 1, 1, none⟩ = some (.func (.func 74) #[] #[]) := hq.cell 1
    have q2 : wr.cell? ⟨w2.heap.size + 1, 2, none⟩ = some (.func (.func 75) #[] #[]) := hq.cell 2
    have HP := Lib.hid hPk
    clear hPk HPK
    rcases hph with rfl | ⟨rfl, hfew⟩ | ⟨rfl, hfew, hris⟩ | ⟨rfl, h0⟩
    · by_cases hfew : (l.length : Int) < t ∨ n < (l.length : Int)
      · have hE := Lib.hid (pkE_few hfew)
        have hm := Lib.hid (manyC HP.out hl 7 (by rw [if_pos hfew]))
        clear hfew
        go_wp2_with fail
        refine hm.out.mono ?_
        rintro e w5 ⟨rfl, hb5⟩
        go_wp2_with fail
        go_ret2
        exact ⟨hbw.trans (hb5.mono hbw.size), .inl ⟨by rw [hE.out]; omega, by rw [hE.out]; rfl⟩⟩
      · have hm := Lib.hid (manyC HP.out hl 0 (by rw [if_neg hfew]))
        have HFEW := Lib.hid hfew
        clear hfew
        go_wp2_with fail
        refine hm.out.mono ?_
        rintro e w5 ⟨rfl, hb5⟩
        go_wp2_with fail
        exact ⟨⟨.inr (.inl ⟨rfl, HFEW.out⟩), HP.out.later hb5, hq.below hb5 hq.lt, hbw.trans (hb5.mono hbw.size)⟩, by simp [intOf]⟩
    · have HFEW := Lib.hid hfew
      have hm := Lib.hid (risingC HP.out hl)
      by_cases hr : riseErr n l l.length = 0
      · rw [hr] at hm
        have HR := Lib.hid hr
        clear hfew hr
        go_wp2_with fail
        refine hm.out.mono ?_
        rintro e w5 ⟨rfl, hb5⟩
        go_wp2_with fail
        exact ⟨⟨.inr (.inr (.inl ⟨rfl, HFEW.out, HR.out⟩)), HP.out.later hb5, hq.below hb5 hq.lt, hbw.trans (hb5.mono hbw.size)⟩, by simp [intOf]⟩
      · have hE := Lib.hid (pkE_rise hfew hr)
        have HNZ := Lib.hid hr
        have hne : (riseErr n l l.length != 0) = true := by rw [bne_iff_ne]; exact hr
        generalize riseErr n l l.length = x at *
        clear hfew hr
        go_wp2_with fail
        refine hm.out.mono ?_
        rintro e w5 ⟨rfl, hb5⟩
        go_wp2_with fail
        go_ret2
        exact ⟨hbw.trans (hb5.mono hbw.size), .inl ⟨by rw [hE.out]; exact HNZ.out, by rw [hE.out]; rfl⟩⟩
    · by_cases hn : ncsTo l l.length = true
      · have hE := Lib.hid (pkE_ok hfew hris hn)
        have hm := Lib.hid (elementsC HP.out hl HB.out 0 (by rw [if_pos hn]))
        clear hfew hris hn
        go_wp2_with fail
        refine hm.out.mono ?_
        rintro e w5 ⟨rfl, hb5⟩
        go_wp2_with fail
        exact ⟨⟨.inr (.inr (.inr ⟨rfl, hE.out⟩)), HP.out.later hb5, hq.below hb5 hq.lt, hbw.trans (hb5.mono hbw.size)⟩, by simp [intOf]⟩
      · have hE := Lib.hid (pkE_nc hfew hris (by simpa using hn))
        have hm := Lib.hid (elementsC HP.out hl HB.out 3 (by rw [if_neg hn]))
        clear hfew hris hn
        go_wp2_with fail
        refine hm.out.mono ?_
        rintro e w5 ⟨rfl, hb5⟩
        go_wp2_with fail
        go_ret2
        exact ⟨hbw.trans (hb5.mono hbw.size), .inl ⟨by rw [hE.out]; omega, by rw [hE.out]; rfl⟩⟩
    · have H0 := Lib.hid h0
      clear h0
      go_wp2_with fail
      go_ret2
      exact ⟨hbw, .inr ⟨H0.out, _, _, rfl, HP.out⟩⟩
end
end Go.Proofs.Ytpfpokjaeffbjab.Pkg
