/- The reference's signers: Commit. -/
import Derived.Test.YtpfpokjaeffbjabRefSigner
import Derived.Deep.AppendLies
namespace Go.Proofs.Ytpfpokjaeffbjab.Rsg
open Go.RowKit Go.Proofs.Ytpfpokjaeffbjab.Pl Go.Proofs.Ytpfpokjaeffbjab.Dpl Go.Proofs.Ytpfpokjaeffbjab.Gpl Go.Proofs.Ytpfpokjaeffbjab.Kpl Go.Proofs.Ytpfpokjaeffbjab.Fld Go.Proofs.Ytpfpokjaeffbjab.Mem Go.Proofs.Ytpfpokjaeffbjab.Mpp Go.Proofs.Ytpfpokjaeffbjab.Spl Go.Proofs.Ytpfpokjaeffbjab.Ver Go.Proofs.Ytpfpokjaeffbjab.Rck Go.Proofs.Ytpfpokjaeffbjab.Rkg
open Go.Proofs.Ytpfpokjaeffbjab.Sgn (Only own_block)
set_option linter.unusedVariables false

/-- The pairs' cells. -/
theorem prs_at {w : World} {v : Value} {id : Int} {pl : List (Int × Int)} (h : w.ownsRow 0 176 5 v pl.length (prCells id pl)) (hp : 0 < pl.length) :
    ∃ b cap, v = .slice (some ⟨b, 0, none⟩) pl.length cap ∧ b < w.heap.size ∧ ∀ i, i < pl.length → w.cell? ⟨b, i * 5, none⟩ = some (.int .u64 (pl.getD i (0, 0)).1) ∧ w.cell? ⟨b, i * 5 + 1, none⟩ = some (.int .u64 (pl.getD i (0, 0)).2) ∧
      w.cell? ⟨b, i * 5 + 2, none⟩ = some (.int .i64 id) ∧ w.cell? ⟨b, i * 5 + 3, none⟩ = some (.int .u64 (pw 4 (pl.getD i (0, 0)).1.toNat 2147483579)) ∧ w.cell? ⟨b, i * 5 + 4, none⟩ = some (.int .u64 (pw 4 (pl.getD i (0, 0)).2.toNat 2147483579)) := by
  obtain ⟨b, cap, rfl, -, hlt⟩ := World.ownsRow.form h hp
  refine ⟨b, cap, rfl, hlt, fun i hi => ?_⟩
  obtain ⟨h0, h1, h2, h3, h4⟩ := prCells_at id pl i hi
  have hc := fun j u hu => h.cells (g := b) rfl j u hu
  have hz : ∀ j, (⟨b, 0, none⟩ : Addr).add j = ⟨b, j, none⟩ := fun j => by rw [add_zero_off, Nat.zero_add]
  simp only [hz] at hc
  exact ⟨hc _ _ h0, hc _ _ h1, hc _ _ h2, hc _ _ h3, hc _ _ h4⟩
/-- Only the signer's own blocks, and the new pairs. -/
def Moved (w w' : World) (a : RLoc) (s' : St) : Prop := ∃ pv, RSg w' { a with pv := pv } s' ∧ Only a.foot w w' ∧ ∀ g, pv.ownBlock = some g → a.pv.ownBlock = some g ∨ w.heap.size ≤ g
theorem Only.grownO {X : List Nat} {a b c : World} (h : Only X a b) {r : Option Nat} (hr : ∀ g, r = some g → g ∈ X) (k : b.grownBy c r) : Only X a c := by
  cases r with
  | none => exact h.then_ ⟨k.os, k.tape, k.output, k.size, fun i hi => k.block i hi (by simp)⟩
  | some g => exact h.grown (hr g rfl) k
theorem Moved.stay {w w' : World} {a : RLoc} {s : St} (h : RSg w a s) (hb : Below w.heap.size w w') : Moved w w' a s := ⟨a.pv, h.later hb, .of_below hb, fun g hg => .inl hg⟩
theorem info_pr : (Try.prog.info? 176).map (fun i => (i.zero, i.size, i.bytes)) = some (some (.agg #[.int .u64 0, .int .u64 0, .int .i64 0, .int .u64 0, .int .u64 0]), 5, 40) := by kernel_rfl
/-- Behind the append and the store. -/
theorem cm_step {w w1 w2 : World} {a : RLoc} {s : St} {d e : Int} {C g cap : Nat} {cs cc : Array Value} (h1 : RSg w1 a s) (hC : Blk w1 C 37 cc) (hR : Blk w1 w.heap.size 37 #[.int .i64 0, .int .u64 0, .int .u64 0]) (hb : Below w.heap.size w w1) (hw : RSg w a s)
    (hown : w2.ownsRow 0 176 5 (.slice (some ⟨g, 0, none⟩) (s.pl.length + 1) cap) (s.pl.length + 1) (prCells s.id s.pl ++ prCells1 s.id (d, e)))
    (hg : (w1.drew.alloc (.cells cs 176)).grownBy w2 a.pv.ownBlock) (hat : a.pv.ownBlock = some g ∨ g = w1.heap.size + 1) :
    RSg (w2.setCell ⟨a.S, 5, none⟩ (.slice (some ⟨g, 0, none⟩) (s.pl.length + 1) cap)) { a with pv := .slice (some ⟨g, 0, none⟩) (s.pl.length + 1) cap } { s with pl := s.pl ++ [(d, e)] } ∧
    Blk (w2.setCell ⟨a.S, 5, none⟩ (.slice (some ⟨g, 0, none⟩) (s.pl.length + 1) cap)) C 37 cc ∧ Blk (w2.setCell ⟨a.S, 5, none⟩ (.slice (some ⟨g, 0, none⟩) (s.pl.length + 1) cap)) w.heap.size 37 #[.int .i64 0, .int .u64 0, .int .u64 0] ∧
    Only a.foot w (w2.setCell ⟨a.S, 5, none⟩ (.slice (some ⟨g, 0, none⟩) (s.pl.length + 1) cap)) ∧ (a.pv.ownBlock = some g ∨ w.heap.size ≤ g) := by
  have hp1 : w1.drew.ownsRow 0 176 5 a.pv s.pl.length (prCells s.id s.pl) := h1.prs
  have hS2 := blk_grown (show Blk w1.drew _ _ _ from h1.sg) hp1 (by decide) hg
  have hC2 := blk_grown (show Blk w1.drew _ _ _ from hC) hp1 (by decide) hg
  have hR2 := blk_grown (show Blk w1.drew _ _ _ from hR) hp1 (by decide) hg
  have ho2 := own_grown (show w1.drew.ownsRow 0 25 1 _ _ _ from h1.own) hp1 (by decide) hg
  have hcS : C ≠ a.S := Blk.ne_ hC h1.sg (by decide)
  have hRS : w.heap.size ≠ a.S := Blk.ne_ hR h1.sg (by decide)
  have hO : Only a.foot w w2 := Only.grownO (((Sgn.Only.of_below hb).drew).alloc (.cells cs 176)) (fun g hg => pv_in hg) hg
  refine ⟨⟨hS2.set_ 5 _, own_far ho2 hS2 (by decide) 5 _, ?_⟩, hC2.far (p := ⟨a.S, 5, none⟩) hcS _, hR2.far (p := ⟨a.S, 5, none⟩) hRS _, hO.set_ (S_in a) 5 _, ?_⟩
  · show World.ownsRow _ _ _ _ _ (s.pl ++ [(d, e)]).length (prCells s.id (s.pl ++ [(d, e)]))
    rw [List.length_append, List.length_singleton, prCells_append]
    exact own_far hown hS2 (by decide) 5 _
  · rcases hat with h | h
    · exact .inl h
    · have := hb.size
      exact .inr (by omega)
theorem rsg_set {w : World} {a : RLoc} {s : St} {g : Nat} {cc : Array Value} (h : RSg w a s) (hb : Blk w g 37 cc) (i : Nat) (u : Value) : RSg (w.setCell ⟨g, i, none⟩ u) a s :=
  ⟨h.sg.far (p := ⟨g, i, none⟩) (Ne.symm (Blk.ne_ hb h.sg (by decide))) u, own_far h.own hb (by decide) i u, own_far h.prs hb (by decide) i u⟩
theorem rsg_set3 {w : World} {a : RLoc} {s : St} {g : Nat} {cc : Array Value} (h : RSg w a s) (hb : Blk w g 37 cc) (x y z : Value) : RSg (((w.setCell ⟨g, 0, none⟩ x).setCell ⟨g, 1, none⟩ y).setCell ⟨g, 2, none⟩ z) a s :=
  rsg_set (rsg_set (rsg_set h hb 0 x) (hb.set_ 0 x) 1 y) ((hb.set_ 0 x).set_ 1 y) 2 z
/-- The state of the loop. -/
def CmInv (w : World) (a : RLoc) (s : St) (d e : Int) (k : Nat) (wr : World) : Prop :=
  (∀ j, j < k → s.pl.getD j (0, 0) ≠ (d, e)) ∧ Blk wr w.heap.size 37 #[.int .i64 0, .int .u64 0, .int .u64 0] ∧ Below w.heap.size w wr

set_option maxRecDepth 100000 in
set_option maxHeartbeats 8000000 in
theorem refCommitC (w : World) (a : RLoc) (s : St) (d e : Int) (h : RSg w a s) (hok : Ok s) (hd : 0 ≤ d ∧ d < 18446744073709551616) (he : 0 ≤ e ∧ e < 18446744073709551616) :
    Calls Try.prog 64 #[.pointer (some ⟨a.S, 0, none⟩), .int .u64 d, .int .u64 e] w fun x w' => x = .returned (.tuple #[keyV (comC s d e), .int .i64 (comE s d e)]) ∧ Moved w w' a (comSt s d e) := by
  have hbox := below_box w (.cells #[.int .i64 0, .int .u64 0, .int .u64 0] 37)
  have HR := Lib.hid (Blk.new w 37 #[.int .i64 0, .int .u64 0, .int .u64 0])
  have r0 := HR.out.cell 0
  have r1 := HR.out.cell 1
  have r2 := HR.out.cell 2
  have H := Lib.hid h
  have HB := Lib.hid hbox
  have HOK := Lib.hid hok
  have hid9 := hok.id9
  obtain ⟨hd0, hd1⟩ := hd
  obtain ⟨he0, he1⟩ := he
  obtain ⟨c0, c1, c2, c3, c4, c5⟩ := (h.later hbox).cells
  obtain ⟨A, c, hv⟩ := own_shape h.prs
  have HV := Lib.hid hv
  rw [hv] at c5
  clear h hok hbox hv c0 c1 c2 c4
  by_cases hsc : d = 0 ∨ e = 0 ∨ 1073741789 ≤ d ∨ 1073741789 ≤ e
  · have hE := Lib.hid (comE_sc (s := s) hsc)
    have hcb := Lib.hid (com_bad (s := s) (d := d) (e := e) (by rw [hE.out]; omega))
    obtain ⟨b1, t1⟩ : ∃ b, (d == 0) = b := ⟨_, rfl⟩
    obtain ⟨b2, t2⟩ : ∃ b, (e == 0) = b := ⟨_, rfl⟩
    obtain ⟨b3, t3⟩ : ∃ b, decide (1073741789 ≤ d) = b := ⟨_, rfl⟩
    obtain ⟨b4, t4⟩ : ∃ b, decide (1073741789 ≤ e) = b := ⟨_, rfl⟩
    have hbs : b1 = true ∨ (b1 = false ∧ b2 = true) ∨ (b1 = false ∧ b2 = false ∧ b3 = true) ∨ (b1 = false ∧ b2 = false ∧ b3 = false ∧ b4 = true) := by
      subst t1 t2 t3 t4
      simp only [beq_iff_eq, beq_eq_false_iff_ne, decide_eq_true_eq, decide_eq_false_iff_not]
      omega
    clear hsc
    rcases hbs with rfl | ⟨rfl, rfl⟩ | ⟨rfl, rfl, rfl⟩ | ⟨rfl, rfl, rfl, rfl⟩
    all_goals
      go_enter Try.func64, Try.ntmps64
      go_wp2_with fail
      refine bodyPost_ret (v := .tuple #[.agg #[.int .i64 0, .int .u64 0, .int .u64 0], .int .i64 2]) (by simp [results, Try.results64, go_sem]) rfl ?_
      exact ⟨by rw [hcb.out.2, hE.out]; rfl, by rw [hcb.out.1]; exact .stay H.out HB.out⟩
  have t1 : (d == 0) = false := by rw [beq_eq_false_iff_ne]; omega
  have t2 : (e == 0) = false := by rw [beq_eq_false_iff_ne]; omega
  have t3 : decide (1073741789 ≤ d) = false := decide_eq_false (by omega)
  have t4 : decide (1073741789 ≤ e) = false := decide_eq_false (by omega)
  have HSC := Lib.hid hsc
  have hfew := Lib.hid HOK.out.few
  clear hsc
  have hlm : s.pl.length ≤ 6 := hfew.out
  go_enter Try.func64, Try.ntmps64
  go_wp2_with fail
  go_loopw [31] (fun i wr => ∃ k : Nat, k ≤ s.pl.length ∧ i = .int .i64 k ∧ CmInv w a s d e k wr) (fun i _ => s.pl.length - (intOf i).toNat)
  case atStart => exact ⟨0, by omega, rfl, fun j hj => by omega, HR.out, HB.out⟩
  case round =>
    obtain ⟨k, hk, rfl, hne, hblk, hbw⟩ := hrel
    have HNE := Lib.hid hne
    have HBLK := Lib.hid hblk
    have HBW := Lib.hid hbw
    have z0 : wr.cell? ⟨w.heap.size, 0, none⟩ = some (.int .i64 0) := hblk.cell 0
    have z1 : wr.cell? ⟨w.heap.size, 1, none⟩ = some (.int .u64 0) := hblk.cell 1
    have z2 : wr.cell? ⟨w.heap.size, 2, none⟩ = some (.int .u64 0) := hblk.cell 2
    have f0 := hblk.frozen 0
    have f1 := hblk.frozen 1
    have f2 := hblk.frozen 2
    have hsz : w.heap.size < wr.heap.size := hblk.lt
    clear hne hblk hbw
    by_cases hlt : k < s.pl.length
    · obtain ⟨b, cap, hpv, hb, hc⟩ := prs_at H.out.prs (by omega)
      rw [HV.out] at hpv
      cases hpv
      obtain ⟨p0, p1, p2, p3, p4⟩ := hc k hlt
      replace p0 := (HBW.out.cell (p := ⟨b, k * 5, none⟩) hb).trans p0
      replace p1 := (HBW.out.cell (p := ⟨b, k * 5 + 1, none⟩) hb).trans p1
      replace p2 := (HBW.out.cell (p := ⟨b, k * 5 + 2, none⟩) hb).trans p2
      replace p3 := (HBW.out.cell (p := ⟨b, k * 5 + 3, none⟩) hb).trans p3
      replace p4 := (HBW.out.cell (p := ⟨b, k * 5 + 4, none⟩) hb).trans p4
      have HQ := Lib.hid (show s.pl.getD k (0, 0) = ((s.pl.getD k (0, 0)).1, (s.pl.getD k (0, 0)).2) from rfl)
      have HM := Lib.hid (show s.pl.getD k (0, 0) ∈ s.pl by rw [List.getD_eq_getElem?_getD, List.getElem?_eq_getElem hlt]; exact List.getElem_mem hlt)
      generalize hq1 : (s.pl.getD k (0, 0)).1 = Q1 at *
      generalize hq2 : (s.pl.getD k (0, 0)).2 = Q2 at *
      generalize pw 4 Q1.toNat 2147483579 = Q3 at *
      generalize pw 4 Q2.toNat 2147483579 = Q4 at *
      clear hq1 hq2 hc r0 r1 r2
      by_cases hx : Q1 = d ∧ Q2 = e
      · have hmem : (d, e) ∈ s.pl := by
          have := HM.out; rw [HQ.out, hx.1, hx.2] at this; exact this
        have hE := Lib.hid (comE_has (s := s) HSC.out hmem)
        have hcb := Lib.hid (com_bad (s := s) (d := d) (e := e) (by rw [hE.out]; omega))
        have t5 : (Q1 == d) = true := by rw [beq_iff_eq]; exact hx.1
        have t6 : (Q2 == e) = true := by rw [beq_iff_eq]; exact hx.2
        clear hx hmem
        go_wp2_with fail
        have hRe := Sgn.blk3 HBLK.out (.int .i64 0) (.int .u64 0) (.int .u64 0)
        have hbe := ((HBW.out.setCell (p := ⟨w.heap.size, 0, none⟩) (Nat.le_refl _) (.int .i64 0)).setCell (p := ⟨w.heap.size, 1, none⟩) (Nat.le_refl _) (.int .u64 0)).setCell (p := ⟨w.heap.size, 2, none⟩) (Nat.le_refl _) (.int .u64 0)
        generalize ((wr.setCell ⟨w.heap.size, 0, none⟩ (.int .i64 0)).setCell ⟨w.heap.size, 1, none⟩ (.int .u64 0)).setCell ⟨w.heap.size, 2, none⟩ (.int .u64 0) = W2 at *
        have hRx := hRe.alloc (.cells #[.int .u64 Q1, .int .u64 Q2, .int .i64 s.id, .int .u64 Q3, .int .u64 Q4] 176)
        have x0 := hRx.cell 0
        have x1 := hRx.cell 1
        have x2 := hRx.cell 2
        simp only [List.getElem?_toArray, List.getElem?_cons_zero, List.getElem?_cons_succ] at x0 x1 x2
        refine bodyPost_ret (v := .tuple #[.agg #[.int .i64 0, .int .u64 0, .int .u64 0], .int .i64 15]) (by simp [results, Try.results64, go_sem, x0, x1, x2]) rfl ?_
        exact ⟨by rw [hcb.out.2, hE.out]; rfl, by rw [hcb.out.1]; exact .stay H.out (hbe.alloc hbe.size _)⟩
      · have hnx : s.pl.getD k (0, 0) ≠ (d, e) := fun h => by rw [HQ.out, Prod.mk.injEq] at h; exact hx h
        have HNX := Lib.hid hnx
        have hbe := Lib.hid (HBW.out.alloc HBW.out.size (.cells #[.int .u64 Q1, .int .u64 Q2, .int .i64 s.id, .int .u64 Q3, .int .u64 Q4] 176))
        have hRx := Lib.hid (HBLK.out.alloc (.cells #[.int .u64 Q1, .int .u64 Q2, .int .i64 s.id, .int .u64 Q3, .int .u64 Q4] 176))
        clear hnx
        by_cases h1 : Q1 = d
        · have t5 : (Q1 == d) = true := by rw [beq_iff_eq]; exact h1
          have t6 : (Q2 == e) = false := by rw [beq_eq_false_iff_ne]; exact fun h => hx ⟨h1, h⟩
          clear hx h1
          go_wp2_with fail
          refine ⟨⟨k + 1, by omega, by go_num, fun j hj => ?_, hRx.out, hbe.out⟩, by simp [intOf]; omega⟩
          rcases Nat.lt_or_ge j k with h | h
          · exact HNE.out j h
          · obtain rfl : j = k := by omega
            exact HNX.out
        · have t5 : (Q1 == d) = false := by rw [beq_eq_false_iff_ne]; exact h1
          clear hx h1
          go_wp2_with fail
          refine ⟨⟨k + 1, by omega, by go_num, fun j hj => ?_, hRx.out, hbe.out⟩, by simp [intOf]; omega⟩
          rcases Nat.lt_or_ge j k with h | h
          · exact HNE.out j h
          · obtain rfl : j = k := by omega
            exact HNX.out
    · obtain rfl : k = s.pl.length := by omega
      have hnm : (d, e) ∉ s.pl := fun hm => by
        obtain ⟨j, hj, hje⟩ := List.mem_iff_getElem.1 hm
        exact HNE.out j hj (by rw [List.getD_eq_getElem?_getD, List.getElem?_eq_getElem hj]; exact hje)
      have HNM := Lib.hid hnm
      clear hnm
      have H9 := Lib.hid (H.out.later HBW.out)
      obtain ⟨d0, d1, d2, d3, d4, d5⟩ := H9.out.cells
      rw [HV.out] at d5
      clear d0 d1 d2 d4 c3 c5 r0 r1 r2 HNE
      by_cases hfull : s.pl.length = 6
      · have hE := Lib.hid (comE_full (s := s) HSC.out HNM.out hfull)
        have hcb := Lib.hid (com_bad (s := s) (d := d) (e := e) (by rw [hE.out]; omega))
        have t5 : ((s.pl.length : Int) == 6) = true := by rw [beq_iff_eq]; omega
        clear hfull
        go_wp2_with fail
        have hRe := Sgn.blk3 HBLK.out (.int .i64 0) (.int .u64 0) (.int .u64 0)
        have hbe := ((HBW.out.setCell (p := ⟨w.heap.size, 0, none⟩) (Nat.le_refl _) (.int .i64 0)).setCell (p := ⟨w.heap.size, 1, none⟩) (Nat.le_refl _) (.int .u64 0)).setCell (p := ⟨w.heap.size, 2, none⟩) (Nat.le_refl _) (.int .u64 0)
        generalize ((wr.setCell ⟨w.heap.size, 0, none⟩ (.int .i64 0)).setCell ⟨w.heap.size, 1, none⟩ (.int .u64 0)).setCell ⟨w.heap.size, 2, none⟩ (.int .u64 0) = W2 at *
        have x0 := hRe.cell 0
        have x1 := hRe.cell 1
        have x2 := hRe.cell 2
        simp only [List.getElem?_toArray, List.getElem?_cons_zero, List.getElem?_cons_succ] at x0 x1 x2
        refine bodyPost_ret (v := .tuple #[.agg #[.int .i64 0, .int .u64 0, .int .u64 0], .int .i64 9]) (by simp [results, Try.results64, go_sem, x0, x1, x2]) rfl ?_
        exact ⟨by rw [hcb.out.2, hE.out]; rfl, by rw [hcb.out.1]; exact .stay H.out hbe⟩
      have hE := Lib.hid (comE_ok (s := s) HSC.out HNM.out hfull)
      have t5 : ((s.pl.length : Int) == 6) = false := by rw [beq_eq_false_iff_ne]; omega
      have hlm5 : s.pl.length < 6 := by omega
      clear hfull HOK
      have hSz := H9.out.sg.lt
      go_upto_region 11 with fail
      go_cut [10] from 54 to 63 (fun p wx => p = .pointer (some ⟨wr.heap.size, 0, none⟩) ∧ RSg wx a s ∧ Blk wx w.heap.size 37 #[.int .i64 0, .int .u64 0, .int .u64 0] ∧ Blk wx wr.heap.size 37 #[.int .i64 s.id, .int .u64 (pw 4 d.toNat 2147483579), .int .u64 (pw 4 e.toNat 2147483579)] ∧ Below w.heap.size w wx)
      case first =>
        go_region_held3 (fun w' => w'.cell? ⟨a.S, 3, none⟩ = some (.int .i64 s.id)) (go_keep)
          (first | (go_at_call 58; refine (refBaseI _ _ (by first | exact hd0 | exact he0) (by first | exact hd1 | exact he1)).mono ?_; rintro x w' ⟨rfl, rfl⟩))
        all_goals
          have hbx5 : Below wr.heap.size wr (wr.alloc (.cells #[.int .i64 s.id, .int .u64 (pw 4 d.toNat 2147483579), .int .u64 (pw 4 e.toNat 2147483579)] 37)).drew := (below_box _ _).drew
          go_wp2_with fail
          go_meet
          exact ⟨rfl, H9.out.later hbx5, HBLK.out.below hbx5 HBLK.out.lt, Blk.new _ _ _, HBW.out.trans (hbx5.mono HBW.out.size)⟩
      case rest =>
        obtain ⟨rfl, h11, hR11, hC11, hb11⟩ := hcut
        rename World => W11
        obtain ⟨i0, hi, hz0, hz1, hz2⟩ := info_parts info_pr
        have q0 : W11.cell? ⟨wr.heap.size, 0, none⟩ = some (.int .i64 s.id) := hC11.cell 0
        have q1 : W11.cell? ⟨wr.heap.size, 1, none⟩ = some (.int .u64 (pw 4 d.toNat 2147483579)) := hC11.cell 1
        have q2 : W11.cell? ⟨wr.heap.size, 2, none⟩ = some (.int .u64 (pw 4 e.toNat 2147483579)) := hC11.cell 2
        have e5 := h11.cells.2.2.2.2.2
        rw [HV.out] at e5
        have e5z := h11.sg.frozen 5
        have hown11 := h11.prs
        rw [HV.out] at hown11
        have HO11 := Lib.hid hown11
        have H11 := Lib.hid h11
        have HC11 := Lib.hid hC11
        have HR11 := Lib.hid hR11
        have HB11 := Lib.hid hb11
        have hSz11 := h11.sg.lt
        have hsz11 := hC11.lt
        have HP1 := Lib.hid (show prCells1 s.id (d, e) = [.int .u64 d, .int .u64 e, .int .i64 s.id, .int .u64 (pw 4 d.toNat 2147483579), .int .u64 (pw 4 e.toNat 2147483579)] from rfl)
        clear h11 hC11 hR11 hb11 hown11 d3 d5 z0 z1 z2 f0 f1 f2 HBLK HBW H9 HR HB t1 t2 t3 t4 t5 hSz
        generalize pw 4 d.toNat 2147483579 = D at *
        generalize pw 4 e.toNat 2147483579 = E at *
        go_upto_region 12 with fail
        go_region_law (first | (refine step_append_lies _ (by rfl) (.tmp 67) (.tmp 72) _ (by rfl) 0 176 i0 (.agg #[.int .u64 0, .int .u64 0, .int .i64 0, .int .u64 0, .int .u64 0]) 5 40 Try.underlying172 hi hz0 hz1 hz2 rfl (by decide) (.slice A s.pl.length c) s.pl.length _ (by rfl) (show (World.alloc W11.drew _).ownsRow _ _ _ _ _ _ from (show W11.drew.ownsRow _ _ _ _ _ _ from HO11.out).alloc _) ⟨W11.heap.size, 0, none⟩ 1 1 [.int .u64 d, .int .u64 e, .int .i64 s.id, .int .u64 D, .int .u64 E] (by rfl) rfl (World.news_of_block (blk_new' _ _ (by simp))) (by simp [Value.oneCell']) (by omega) (by unfold maxLen; omega) (by omega) (by omega) (W11.heap.size + 1) (by simp) ?_; intro g2 cap2 w2 hown2 hgrow2 hat2 hlt2; have hblk2 := blk_grown (show Blk W11.drew _ _ _ from H11.out.sg) (show W11.drew.ownsRow _ _ _ _ _ _ from HO11.out) (by decide) hgrow2; have hf25 := hblk2.frozen 5; have hc25 : w2.cell? ⟨a.S, 5, none⟩ = some a.pv := hblk2.cell 5))
        all_goals
          obtain ⟨k1, k2, k3, k4, k5⟩ := cm_step H11.out HC11.out HR11.out HB11.out H.out (by rw [HP1.out]; exact hown2) (by rw [HV.out]; exact hgrow2) (by rw [HV.out]; exact hat2)
          have x0 := k2.cell 0
          have x1 := k2.cell 1
          have x2 := k2.cell 2
          have y0 := k3.cell 0
          have y1 := k3.cell 1
          have y2 := k3.cell 2
          have m0 := k3.frozen 0
          have m1 := k3.frozen 1
          have m2 := k3.frozen 2
          simp only [List.getElem?_toArray, List.getElem?_cons_zero, List.getElem?_cons_succ] at x0 x1 x2 y0 y1 y2
          have K1 := Lib.hid k1
          have K3 := Lib.hid k3
          have K4 := Lib.hid k4
          have K5 := Lib.hid k5
          clear k1 k2 k3 k4 k5 hgrow2 hat2 hlt2 hblk2 hf25 hc25 hown2
          generalize w2.setCell ⟨a.S, 5, none⟩ (.slice (some ⟨g2, 0, none⟩) (s.pl.length + 1) cap2) = w3 at *
          go_wp2_with fail
          have n1 := Lib.hid (rsg_set3 K1.out K3.out (.int .i64 s.id) (.int .u64 D) (.int .u64 E))
          have n2 := Sgn.blk3 K3.out (.int .i64 s.id) (.int .u64 D) (.int .u64 E)
          have n3 := Lib.hid (((K4.out.new_ (Nat.le_refl w.heap.size) 0 (.int .i64 s.id)).new_ (Nat.le_refl w.heap.size) 1 (.int .u64 D)).new_ (Nat.le_refl w.heap.size) 2 (.int .u64 E))
          generalize ((w3.setCell ⟨w.heap.size, 0, none⟩ (.int .i64 s.id)).setCell ⟨w.heap.size, 1, none⟩ (.int .u64 D)).setCell ⟨w.heap.size, 2, none⟩ (.int .u64 E) = w4 at *
          have v0 := n2.cell 0
          have v1 := n2.cell 1
          have v2 := n2.cell 2
          simp only [List.getElem?_toArray, List.getElem?_cons_zero, List.getElem?_cons_succ] at v0 v1 v2
          refine bodyPost_ret (v := .tuple #[.agg #[.int .i64 s.id, .int .u64 D, .int .u64 E], .int .i64 0]) (by simp [results, Try.results64, go_sem, v0, v1, v2]) rfl ?_
          have hcg := com_good (s := s) (d := d) (e := e) hE.out
          have hDE := HP1.out
          simp only [prCells1, List.cons.injEq, Value.int.injEq, true_and, and_true] at hDE
          refine ⟨by rw [hcg.2, hE.out]; simp only [keyV, cmOf]; rw [hDE.1, hDE.2], _, by rw [hcg.1]; exact n1.out, n3.out, fun g hg => ?_⟩
          have : g2 = g := by simpa [Value.ownBlock] using hg
          subst this
          exact K5.out
end Go.Proofs.Ytpfpokjaeffbjab.Rsg
