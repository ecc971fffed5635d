/- 'pick' and 'list' of the laws' script. -/
import Derived.Test.YtpfpokjaeffbjabScript
namespace Go.Proofs.Ytpfpokjaeffbjab.Scr
open Go.RowKit Go.Proofs.Ytpfpokjaeffbjab.Pl Go.Proofs.Ytpfpokjaeffbjab.Mem Go.Proofs.Ytpfpokjaeffbjab.Mpp Go.Proofs.Ytpfpokjaeffbjab.Spl Go.Proofs.Ytpfpokjaeffbjab.Ver Go.Proofs.Ytpfpokjaeffbjab.Grp Go.Proofs.Ytpfpokjaeffbjab.Fld
open Go.Proofs.Ytpfpokjaeffbjab.Sgn (Only SgAt SgIn ComsBut)
open Go.Proofs.Ytpfpokjaeffbjab.Rsg (RLoc RSg Moved own_moved)
set_option linter.unusedVariables false

set_option maxHeartbeats 400000 in
theorem pickC (c n : Int) (w : World) (h0 : -9223372036854775808 ≤ c) (h1 : c ≤ 9223372036854775807) (hn : 0 < n) :
    Calls Try.prog 63 #[.int .i64 c, .int .i64 n] w fun e w' => e = .returned (.int .i64 (pickI c n)) ∧ w = w' := by
  by_cases h : c < 0
  · have he : pickI c n = -(c + 1) % n := by unfold pickI; rw [if_pos h]
    rw [he]
    clear he
    have hm : 0 ≤ -(c + 1) := by omega
    go_enter Try.func63, Try.ntmps63
    go_wp2_with fail
    go_ret
    exact ⟨by rw [← Int.tmod_eq_emod_of_nonneg hm, Int.neg_tmod]; rfl, rfl⟩
  · have he : pickI c n = c % n := by unfold pickI; rw [if_neg h]
    rw [he]
    clear he
    go_enter Try.func63, Try.ntmps63
    go_wp2_with fail
    go_ret
    exact ⟨rfl, rfl⟩
/-- The place as a natural number. -/
theorem pickN (c : Int) {m : Nat} (hm : 0 < m) (h0 : -9223372036854775808 ≤ c) (h1 : c ≤ 9223372036854775807) :
    ∃ j : Nat, j < m ∧ ∀ w : World, Calls Try.prog 63 #[.int .i64 c, .int .i64 m] w fun e w' => e = .returned (.int .i64 j) ∧ w = w' := by
  have hb := pickI_bd c (n := (m : Int)) (by omega)
  refine ⟨(pickI c m).toNat, by omega, fun w => ?_⟩
  have h := pickC c m w h0 h1 (by omega)
  rw [show ((pickI c (m : Int)).toNat : Int) = pickI c m from Int.toNat_of_nonneg hb.1]
  exact h
theorem own_set {w : World} {base : Nat} {e : TypeId} {size n g cap : Nat} {xs : List Value} (h : w.ownsRow base e size (.slice (some ⟨g, 0, none⟩) n cap) n xs) (j : Nat) (u : Value) : (w.setCell ⟨g, j, none⟩ u).ownsRow base e size (.slice (some ⟨g, 0, none⟩) n cap) n (xs.set j u) := by
  refine ⟨by rw [List.length_set]; exact h.1, ?_⟩
  rcases h.2 with ⟨hv, _⟩ | ⟨g', cap', cur, hv, hb, hh, hc, hm, hs, ht⟩
  · cases hv
  · simp only [Value.slice.injEq, Option.some.injEq, Addr.mk.injEq, and_true, true_and] at hv
    obtain ⟨rfl, rfl⟩ := hv
    refine .inr ⟨g, cap, cur.setIfInBounds j u, rfl, hb, (show Blk w g e cur from hh).set_ j u, hc, hm, by rw [Array.size_setIfInBounds]; exact hs, ?_⟩
    rw [Array.toList_setIfInBounds, List.take_set, ht]
theorem own_frozen {w : World} {base : Nat} {e : TypeId} {size n m g cap : Nat} {xs : List Value} (h : w.ownsRow base e size (.slice (some ⟨g, 0, none⟩) m cap) n xs) (i : Nat) : w.frozen? ⟨g, i, none⟩ = false := by
  rcases h.2 with ⟨hv, _⟩ | ⟨g', cp, cur, hv, _, hh, _⟩
  · cases hv
  · simp only [Value.slice.injEq, Option.some.injEq, Addr.mk.injEq, and_true] at hv
    obtain ⟨rfl, -⟩ := hv
    exact (show Blk w g e cur from hh).frozen _
theorem comCells_set (l : List Cm) (i : Nat) (c : Cm) (hi : i < l.length) : ((((comCells l).set (i * 3) (.int .i64 c.id)).set (i * 3 + 1) (.int .u64 c.d)).set (i * 3 + 2) (.int .u64 c.e)) = comCells (l.set i c) := by
  induction l generalizing i with
  | nil => simp at hi
  | cons b l ih =>
    have e : comCells (b :: l) = .int .i64 b.id :: .int .u64 b.d :: .int .u64 b.e :: comCells l := rfl
    rw [e]
    cases i with
    | zero => rfl
    | succ i =>
      have e1 : (i + 1) * 3 = i * 3 + 1 + 1 + 1 := by omega
      have := ih i (by simpa using hi)
      rw [e1]
      show .int .i64 b.id :: .int .u64 b.d :: .int .u64 b.e :: _ = .int .i64 b.id :: .int .u64 b.d :: .int .u64 b.e :: comCells (l.set i c)
      rw [← this]
theorem told_set {l : List Cm} {i : Nat} {c : Cm} (hl : ∀ j, j < l.length → Told (l.getD j .zero)) (hc : Told c) : ∀ j, j < (l.set i c).length → Told ((l.set i c).getD j .zero) := by
  intro j hj
  rw [List.length_set] at hj
  rw [List.getD_eq_getElem?_getD, List.getElem?_set]
  by_cases h : i = j
  · subst h; rw [if_pos rfl, if_pos hj]; exact hc
  · rw [if_neg h, ← List.getD_eq_getElem?_getD]; exact hl j hj
theorem info_cm : (Try.prog.info? 37).map (fun i => (i.zero, i.size, i.bytes)) = some (some (.agg #[.int .i64 0, .int .u64 0, .int .u64 0]), 3, 24) := by kernel_rfl
/-- The list under way. -/
def LsInv (w : World) (v : Value) (n : Nat) (ag : Array Value) (l : List Cm) (wr : World) : Prop :=
  wr.ownsRow w.heap.size 37 3 v l.length (comCells l) ∧ l.length = n ∧ (∀ j, j < l.length → Told (l.getD j .zero)) ∧ Blk wr w.heap.size 58 ag ∧ Below w.heap.size w wr
theorem LsInv.later {w : World} {v : Value} {n : Nat} {ag : Array Value} {l : List Cm} {wr wr' : World} (h : LsInv w v n ag l wr) (hb : Below wr.heap.size wr wr') : LsInv w v n ag l wr' :=
  ⟨own_below h.1 hb (Nat.le_refl _), h.2.1, h.2.2.1, h.2.2.2.1.below hb h.2.2.2.1.lt, h.2.2.2.2.trans (hb.mono h.2.2.2.2.size)⟩
/-- A commitment put in the place of another. -/
theorem LsInv.put {w : World} {g n cap : Nat} {m : Nat} {ag : Array Value} {l : List Cm} {wr : World} (h : LsInv w (.slice (some ⟨g, 0, none⟩) m cap) n ag l wr) (hm : m = l.length) {i : Nat} (hi : i < l.length) {c : Cm} (hc : Told c) :
    LsInv w (.slice (some ⟨g, 0, none⟩) m cap) n ag (l.set i c) (((wr.setCell ⟨g, i * 3, none⟩ (.int .i64 c.id)).setCell ⟨g, i * 3 + 1, none⟩ (.int .u64 c.d)).setCell ⟨g, i * 3 + 2, none⟩ (.int .u64 c.e)) := by
  obtain ⟨h1, h2, h3, h4, h5⟩ := h
  have hg := (h1.lt g rfl).1
  have hne : w.heap.size ≠ g := fun e => own_ne_blk h1 h4 (by decide) (by rw [e]; rfl)
  refine ⟨?_, by rw [List.length_set]; exact h2, told_set h3 hc, ((h4.far (p := ⟨g, i * 3, none⟩) hne _).far (p := ⟨g, i * 3 + 1, none⟩) hne _).far (p := ⟨g, i * 3 + 2, none⟩) hne _, ((h5.setCell (p := ⟨g, i * 3, none⟩) hg _).setCell (p := ⟨g, i * 3 + 1, none⟩) hg _).setCell (p := ⟨g, i * 3 + 2, none⟩) hg _⟩
  rw [List.length_set, ← comCells_set l i c hi]
  subst hm
  exact own_set (own_set (own_set h1 _ _) _ _) _ _

set_option maxRecDepth 100000 in
set_option maxHeartbeats 8000000 in
theorem listC (w : World) (B WB : Nat) (sv cv : Value) (ps : List Pr) (told : List Cm) (o : OpP) (h : Wd w B WB sv cv ps told) (ho : OpOk w o) (hs : OpSmall o) (ht : told.length ≤ 65536) (hdb : -9223372036854775808 ≤ o.d ∧ o.d ≤ 9223372036854775807) :
    Calls Try.prog 65 #[.pointer (some ⟨WB, 0, none⟩), .agg o.agg] w fun e w' => ∃ v l, e = .returned v ∧ w'.ownsRow w.heap.size 37 3 v l.length (comCells l) ∧ l.length = o.L.length ∧ (∀ j, j < l.length → Told (l.getD j .zero)) ∧ Below w.heap.size w w' := by
  have hbox := below_box w (.cells o.agg 58)
  have HBX := Lib.hid hbox
  have HBK := Lib.hid (Blk.new w 58 o.agg)
  have hLl : o.L.length ≤ 65536 := hs.l
  have hcl := (ho.l.later hbox)
  obtain ⟨AL, cL, hvl⟩ := hcl.shape
  have HCL := Lib.hid hcl
  have HLB := Lib.hid ho.lb
  have HWD := Lib.hid h
  obtain ⟨c0, c1, c2⟩ := h.cells
  obtain ⟨At, ct, hcv⟩ := own_shape h.cs
  obtain ⟨hc0, hc1⟩ := ho.ic
  have hWl := h.wd.lt
  obtain ⟨i0, hi, hz0, hz1, hz2⟩ := info_parts info_cm
  have HAG := Lib.hid (show o.agg = #[.int .i64 o.kind, .int .i64 o.a, .int .i64 o.b, .int .i64 o.c, .int .i64 o.d, .int .i64 o.t, .int .i64 o.n, o.vg, .int .u64 o.N, .int .u64 o.M, .string o.S, o.vl] from rfl)
  rw [HAG.out] at HBX HBK hcl HCL ⊢
  rw [hvl] at HBX HBK HCL ⊢
  rw [hcv] at c1
  have HCV := Lib.hid hcv
  have HVL := Lib.hid hvl
  clear h ho hs hbox hcl c0 c2 hvl hcv
  generalize o.kind = ok at *
  generalize o.a = oa at *
  generalize o.b = ob at *
  generalize o.c = oc at *
  generalize o.d = od at *
  generalize o.t = ot at *
  generalize o.n = on at *
  generalize o.vg = ovg at *
  generalize o.N = oN at *
  generalize o.M = oM at *
  generalize o.S = oS at *
  generalize o.L = oL at *
  go_enter Try.func65, Try.ntmps65
  go_upto_region 2 with (at_builtin; refine wpList_append_row _ rfl (.const (.slice none 0 0)) (.tmp 10) _ rfl w.heap.size 37 i0 (.agg #[.int .i64 0, .int .u64 0, .int .u64 0]) 3 24 Try.underlying40 hi hz0 hz1 hz2 rfl (by decide) (.slice none 0 0) 0 [] rfl (World.ownsRow_nil _ _ _ _) _ _ oL.length _ rfl HCL.out (oneCell_coms _) (by unfold maxLen; omega) (by omega) (by simp) ?_; intro v1 w1 hown1 hgrow1)
  rw [Nat.zero_add, List.nil_append] at hown1
  have hb1 := Below.grown HBX.out hgrow1 (by simp) (fun k hk => by simp [Value.ownBlock] at hk)
  have hbk1 := HBK.out.grown hgrow1 (by simp [Value.ownBlock])
  obtain ⟨A1, c9, rfl⟩ := own_shape hown1
  have HINV := Lib.hid (show LsInv w (.slice A1 oL.length c9) oL.length _ oL w1 from ⟨hown1, rfl, HLB.out, hbk1, hb1⟩)
  clear hown1 hgrow1 hb1 hbk1 HBX HBK
  generalize hag : (#[.int .i64 ok, .int .i64 oa, .int .i64 ob, .int .i64 oc, .int .i64 od, .int .i64 ot, .int .i64 on, ovg, .int .u64 oN, .int .u64 oM, .string oS, .slice AL oL.length cL] : Array Value) = ag at HINV
  have h3a : ag[3]? = some (.int .i64 oc) := by rw [← hag]; rfl
  have h4a : ag[4]? = some (.int .i64 od) := by rw [← hag]; rfl
  have H3A := Lib.hid h3a
  have H4A := Lib.hid h4a
  clear hag h3a h4a
  go_wp2_with fail
  go_loopw [6] (fun i wr => ∃ k : Nat, k ≤ 9 ∧ i = .int .i64 k ∧ ∃ l, LsInv w (.slice A1 oL.length c9) oL.length ag l wr) (fun i _ => 9 - (intOf i).toNat)
  case atStart => exact ⟨0, by omega, rfl, _, HINV.out⟩
  case round =>
    obtain ⟨k, hk, rfl, l, hinv⟩ := hrel
    obtain ⟨wo, rfl⟩ : ∃ wo : World, wo = wr := ⟨_, rfl⟩
    have HL := Lib.hid hinv
    have b3 := (hinv.2.2.2.1.cell 3).trans H3A.out
    have b4 := (hinv.2.2.2.1.cell 4).trans H4A.out
    have hbsz := hinv.2.2.2.1.lt
    have e1 := (hinv.2.2.2.2.cell (p := ⟨WB, 1, none⟩) hWl).trans c1
    obtain ⟨t1, ht1⟩ : ∃ b, decide ((k : Int) < od) = b := ⟨_, rfl⟩
    obtain ⟨t2, ht2⟩ : ∃ b, decide ((k : Int) < (told.length : Int)) = b := ⟨_, rfl⟩
    obtain ⟨t3, ht3⟩ : ∃ b, decide ((k : Int) < 9) = b := ⟨_, rfl⟩
    have ht2' : decide (k < told.length) = t2 := by rw [← ht2]; simp
    have ht3' : decide (k < 9) = t3 := by rw [← ht3]; congr 1; exact propext ⟨fun h => by omega, fun h => by omega⟩
    clear hinv
    by_cases hgo : t1 = true ∧ t2 = true ∧ t3 = true
    case neg =>
      have hw : t1 = false ∨ (t1 = true ∧ t2 = false) ∨ (t1 = true ∧ t2 = true ∧ t3 = false) := by
        cases t1 <;> cases t2 <;> cases t3 <;> simp_all
      clear hgo
      rcases hw with rfl | ⟨rfl, rfl⟩ | ⟨rfl, rfl, rfl⟩
      all_goals
        go_wp2_with fail
        go_ret
        obtain ⟨g1, g2, g3, g4, g5⟩ := HL.out
        exact ⟨_, l, rfl, g2 ▸ g1, g2, g3, g5⟩
    case pos =>
      obtain ⟨rfl, rfl, rfl⟩ := hgo
      have htp : 0 < told.length := by rw [decide_eq_true_iff] at ht2; omega
      have hk9 : k < 9 := by rw [decide_eq_true_iff] at ht3; omega
      obtain ⟨x, hx⟩ : ∃ x, IntKind.i64.wrap (oc + (k : Int)) = x := ⟨_, rfl⟩
      have hxb : -9223372036854775808 ≤ x ∧ x ≤ 9223372036854775807 := by rw [← hx, IntKind.wrap_i64]; omega
      obtain ⟨j, hj, hpk⟩ := pickN x htp hxb.1 hxb.2
      have HPK := Lib.hid hpk
      have hcs := HWD.out.cs
      rw [HCV.out] at hcs
      obtain ⟨b, off, rfl, hbl, hcm⟩ := (Coms.own hcs).at_ htp
      obtain ⟨x0, x1, x2⟩ := hcm j hj
      replace x0 := (HL.out.2.2.2.2.cell (p := ⟨b, off + j * 3, none⟩) hbl).trans x0
      replace x1 := (HL.out.2.2.2.2.cell (p := ⟨b, off + j * 3 + 1, none⟩) hbl).trans x1
      replace x2 := (HL.out.2.2.2.2.cell (p := ⟨b, off + j * 3 + 2, none⟩) hbl).trans x2
      have HTD := Lib.hid (HWD.out.ok j hj)
      have HCM := Lib.hid (show told.getD j .zero = ⟨(told.getD j .zero).id, (told.getD j .zero).d, (told.getD j .zero).e⟩ from rfl)
      have hwsz := HL.out.2.2.2.2.size
      clear hcm hpk hcs hxb
      generalize (told.getD j .zero).id = X at *
      generalize (told.getD j .zero).d = D at *
      generalize (told.getD j .zero).e = E at *
      have j1 : (0 : Int) ≤ (j : Int) := by omega
      have j2 : (j : Int) < (told.length : Int) := by omega
      go_upto_region 5 with fail
      go_cut [7] from 31 to 46 (fun p wx => ∃ CB, p = .pointer (some ⟨CB, 0, none⟩) ∧ wo.heap.size ≤ CB ∧ Blk wx CB 37 #[.int .i64 X, .int .u64 D, .int .u64 E] ∧ Below wo.heap.size wo wx)
      case first =>
        go_region_held3 (fun w' => w'.cell? ⟨WB, 1, none⟩ = some (.slice (some ⟨b, off, none⟩) told.length ct) ∧ w'.cell? ⟨w.heap.size, 3, none⟩ = some (.int .i64 oc) ∧ w'.cell? ⟨b, off + j * 3, none⟩ = some (.int .i64 X) ∧ w'.cell? ⟨b, off + j * 3 + 1, none⟩ = some (.int .u64 D) ∧ w'.cell? ⟨b, off + j * 3 + 2, none⟩ = some (.int .u64 E)) (go_keep)
          (first | (go_at_call 63; refine (HPK.out _).mono ?_; rintro e w' ⟨rfl, rfl⟩))
        all_goals
          go_wp2_with fail
          go_meet
          exact ⟨_, rfl, Nat.le_refl _, Blk.new _ _ _, (below_box _ _).drew⟩
      case rest =>
        obtain ⟨CB, rfl, hcb, hblk, hb5⟩ := hcut
        rename World => W5
        have HINV5 := Lib.hid (HL.out.later hb5)
        have HBLK5 := Lib.hid hblk
        have hrow : ∀ g, (Value.slice A1 oL.length c9).ownBlock = some g → g < CB := fun g hg => by have := (HL.out.1.lt g hg).2; omega
        have HROW := Lib.hid hrow
        clear hb5 hblk b3 b4 e1 x0 x1 x2 hrow ht1 ht2 ht3 ht2' ht3' hx
        go_wp2_with fail
        go_loopw [49] (fun i wr => ∃ i' : Nat, i' ≤ oL.length ∧ i = .int .i64 i' ∧ ∃ l, LsInv w (.slice A1 oL.length c9) oL.length ag l wr ∧ Blk wr CB 37 #[.int .i64 X, .int .u64 D, .int .u64 E]) (fun i _ => oL.length - (intOf i).toNat)
        case atStart => exact ⟨0, by omega, rfl, _, HINV5.out, HBLK5.out⟩
        case round =>
          obtain ⟨i', hi', rfl, l', hinv', hblk'⟩ := hrel
          have HI := Lib.hid hinv'
          have HB := Lib.hid hblk'
          have y0 : wr.cell? ⟨CB, 0, none⟩ = some (.int .i64 X) := hblk'.cell 0
          have y1 : wr.cell? ⟨CB, 1, none⟩ = some (.int .u64 D) := hblk'.cell 1
          have y2 : wr.cell? ⟨CB, 2, none⟩ = some (.int .u64 E) := hblk'.cell 2
          have hll := hinv'.2.1
          have HLL := Lib.hid hll
          by_cases hlt : i' < oL.length
          · have hop : 0 < l'.length := by omega
            obtain ⟨g, cap, hv, hgb, hgl⟩ := World.ownsRow.form hinv'.1 hop
            simp only [Value.slice.injEq] at hv
            obtain ⟨rfl, -, rfl⟩ := hv
            obtain ⟨b', off', hbe, -, hcm⟩ := (show Coms wr wr.heap.size (.slice (some ⟨g, 0, none⟩) oL.length c9) l' from Coms.own hinv'.1).at_ hop
            simp only [Option.some.injEq, Addr.mk.injEq, and_true] at hbe
            obtain ⟨rfl, rfl⟩ := hbe
            obtain ⟨z0, z1, z2⟩ := hcm i' (by omega)
            simp only [Nat.zero_add] at z0 z1 z2
            have hgC : g < CB := HROW.out g rfl
            have q0 := own_frozen hinv'.1 (i' * 3)
            have q1 := own_frozen hinv'.1 (i' * 3 + 1)
            have q2 := own_frozen hinv'.1 (i' * 3 + 2)
            clear hinv' hblk' hcm hop hll
            generalize (l'.getD i' .zero).id = Y at *
            generalize (l'.getD i' .zero).d = Y1 at *
            generalize (l'.getD i' .zero).e = Y2 at *
            have hput := Lib.hid (fun n => (HI.out.later (below_drewN (Below.refl _ _) n)).put HLL.out.symm (i := i') (by have := HLL.out; omega) (HCM.out ▸ HTD.out))
            have hfar := Lib.hid (fun n => (((show Blk (wr.drewN n) _ _ _ from HB.out).far (p := ⟨g, i' * 3, none⟩) (by show CB ≠ g; omega) (.int .i64 X)).far (p := ⟨g, i' * 3 + 1, none⟩) (by show CB ≠ g; omega) (.int .u64 D)).far (p := ⟨g, i' * 3 + 2, none⟩) (by show CB ≠ g; omega) (.int .u64 E))
            by_cases hY : Y = X
            · have t1 : (Y == X) = true := by rw [beq_iff_eq]; exact hY
              clear hY
              go_wp2_with fail
              go_quiet (fail)
              go_wp2_with fail
              exact ⟨⟨i' + 1, by omega, by go_num, _, hput.out _, hfar.out _⟩, by simp [intOf]; omega⟩
            · have t1 : (Y == X) = false := by rw [beq_eq_false_iff_ne]; exact hY
              clear hY
              go_wp2_with fail
              go_quiet (fail)
              go_wp2_with fail
              exact ⟨⟨i' + 1, by omega, by go_num, _, HI.out.later (below_drewN (Below.refl _ _) _), HB.out⟩, by simp [intOf]; omega⟩
          · obtain rfl : i' = oL.length := by omega
            go_wp2_with fail
            exact ⟨⟨k + 1, by omega, by go_num, _, HI.out⟩, by simp [intOf]; omega⟩
end Go.Proofs.Ytpfpokjaeffbjab.Scr
