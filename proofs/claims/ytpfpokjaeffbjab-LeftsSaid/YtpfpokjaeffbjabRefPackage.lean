/- The reference's packages. -/
import Derived.Test.YtpfpokjaeffbjabPkgPlain
import Derived.Test.YtpfpokjaeffbjabGroup
import Derived.Test.YtpfpokjaeffbjabSlices
import Derived.Test.YtpfpokjaeffbjabRefHash
import Derived.Test.YtpfpokjaeffbjabLeave
import Derived.Deep.RegionHeld3
import Derived.Deep.RegionLaw
namespace Go.Proofs.Ytpfpokjaeffbjab.Rkg
open Go.RowKit Go.Proofs.Ytpfpokjaeffbjab.Pl Go.Proofs.Ytpfpokjaeffbjab.Dpl Go.Proofs.Ytpfpokjaeffbjab.Gpl Go.Proofs.Ytpfpokjaeffbjab.Kpl Go.Proofs.Ytpfpokjaeffbjab.Fld Go.Proofs.Ytpfpokjaeffbjab.Mem Go.Proofs.Ytpfpokjaeffbjab.Ver Go.Proofs.Ytpfpokjaeffbjab.Sls Go.Proofs.Ytpfpokjaeffbjab.Rhs Go.Proofs.Ytpfpokjaeffbjab.Grp
set_option linter.unusedVariables false
attribute [local go_sem ↓] Go.wp_at_zero Go.wp_at_succ

theorem info_int' : (Try.prog.info? 3).map (fun i => (i.zero, i.size, i.bytes)) = some (some (.int .i64 0), 1, 8) := by kernel_rfl
theorem info_u64' : (Try.prog.info? 25).map (fun i => (i.zero, i.size, i.bytes)) = some (some (.int .u64 0), 1, 8) := by kernel_rfl
theorem refNcIs (b : Bool) (n : Int) (w : World) (h0 : 0 ≤ n) (h : isNc n = b) :
    Calls Try.prog 100 #[.int .u64 n] w fun e w' => e = .returned (.bool b) ∧ w = w' := by
  subst h; exact refNonce n w h0
theorem blk_new' {w : World} {g : Nat} (t : TypeId) (cs : Array Value) (h : w.heap.size = g) : Blk (w.alloc (.cells cs t)) g t cs := h ▸ Blk.new w t cs
/-- Block p is a package of the reference's. -/
structure RPk (w : World) (p : Nat) (vc lv vi : Value) (t n : Int) (cs : List Int) (l : List Cm) (msg : ByteArray) : Prop where
  pk : Blk w p 122 #[.int .i64 t, .int .i64 n, vc, .string msg, lv, vi]
  coms : Coms w w.heap.size lv l
  nums : Nums .u64 w w.heap.size vc cs
  ids : Nums .i64 w w.heap.size vi (idsOf l l.length)
theorem RPk.later {w w' : World} {p : Nat} {vc lv vi : Value} {t n : Int} {cs : List Int} {l : List Cm} {msg : ByteArray} (h : RPk w p vc lv vi t n cs l msg) (hb : Below w.heap.size w w') : RPk w' p vc lv vi t n cs l msg :=
  ⟨h.pk.below hb h.pk.lt, h.coms.later hb, h.nums.later hb, h.ids.later hb⟩
theorem RPk.cells {w : World} {p : Nat} {vc lv vi : Value} {t n : Int} {cs : List Int} {l : List Cm} {msg : ByteArray} (h : RPk w p vc lv vi t n cs l msg) :
    w.cell? ⟨p, 2, none⟩ = some vc ∧ w.cell? ⟨p, 3, none⟩ = some (.string msg) ∧ w.cell? ⟨p, 4, none⟩ = some lv ∧ w.cell? ⟨p, 5, none⟩ = some vi := ⟨h.pk.cell 2, h.pk.cell 3, h.pk.cell 4, h.pk.cell 5⟩
/-- What NewPackage leaves. -/
def RPkgPost (t n : Int) (cs : List Int) (l : List Cm) (msg : ByteArray) (vc lv : Value) (w : World) (e : Ending) (w' : World) : Prop :=
  Below w.heap.size w w' ∧
  ((pkE t n l ≠ 0 ∧ e = .returned (.tuple #[.pointer none, .int .i64 (pkE t n l)])) ∨
   (pkE t n l = 0 ∧ ∃ p vi, e = .returned (.tuple #[.pointer (some ⟨p, 0, none⟩), .int .i64 0]) ∧ RPk w' p vc lv vi t n cs l msg))
/-- The state of the reference's loop. -/
def NpInv (t n : Int) (l : List Cm) (msg : ByteArray) (vc lv : Value) (w : World) (k : Nat) (vi : Value) (wr : World) : Prop :=
  wr.ownsRow w.heap.size 3 1 vi k ((idsOf l k).map (Value.int .i64)) ∧ Blk wr (w.heap.size + 1) 122 #[.int .i64 t, .int .i64 n, vc, .string msg, lv, vi] ∧
    Blk wr w.heap.size 28 #[.int .i64 t, .int .i64 n, vc] ∧ Below w.heap.size w wr
theorem np_step {t n : Int} {l : List Cm} {msg : ByteArray} {vc lv : Value} {w w1 w2 : World} {k : Nat} {A2 : Option Addr} {c2 g2 cap2 : Nat} {cs : Array Value} {x : Int}
    (hO : w1.ownsRow w.heap.size 3 1 (.slice A2 k c2) k ((idsOf l k).map (Value.int .i64)))
    (hP : Blk w1 (w.heap.size + 1) 122 #[.int .i64 t, .int .i64 n, vc, .string msg, lv, .slice A2 k c2]) (hB : Blk w1 w.heap.size 28 #[.int .i64 t, .int .i64 n, vc]) (hb : Below w.heap.size w w1)
    (hx : (l.getD k .zero).id = x) (h3 : w2.ownsRow w.heap.size 3 1 (.slice (some ⟨g2, 0, none⟩) (k + 1) cap2) (k + 1) ((idsOf l k).map (Value.int .i64) ++ [.int .i64 x]))
    (hg : (w1.drew.alloc (.cells cs 3)).grownBy w2 (Value.slice A2 k c2).ownBlock) :
    NpInv t n l msg vc lv w (k + 1) (.slice (some ⟨g2, 0, none⟩) (k + 1) cap2) (w2.setCell ⟨w.heap.size + 1, 5, none⟩ (.slice (some ⟨g2, 0, none⟩) (k + 1) cap2)) := by
  have h2' : w1.drew.ownsRow w.heap.size 3 1 (.slice A2 k c2) k ((idsOf l k).map (Value.int .i64)) := hO
  have q2 := blk_grown (show Blk w1.drew _ _ _ from hP) h2' (by decide) hg
  have g0 := blk_grown (show Blk w1.drew _ _ _ from hB) h2' (by decide) hg
  have gb := below_grown (show Below w.heap.size w w1.drew from hb.drew) h2' hb.size hg
  refine ⟨?_, q2.set_ 5 _, g0.far (p := ⟨w.heap.size + 1, 5, none⟩) (by show w.heap.size ≠ w.heap.size + 1; omega) _, gb.setCell (by show w.heap.size ≤ w.heap.size + 1; omega) _⟩
  have := own_far h3 q2 (by decide) 5 (.slice (some ⟨g2, 0, none⟩) (k + 1) cap2)
  rw [idsOf_step, List.map_append, hx]
  exact this

set_option maxRecDepth 100000 in
set_option maxHeartbeats 8000000 in
theorem newPkgC (t n : Int) (cs : List Int) (l : List Cm) (msg : ByteArray) (vc lv : Value) (w : World) (hN : Nums .u64 w w.heap.size vc cs) (hC : Coms w w.heap.size lv l) (hl : l.length ≤ 65536)
    (hb : ∀ i, i < l.length → 0 ≤ (l.getD i .zero).d ∧ 0 ≤ (l.getD i .zero).e) :
    Calls Try.prog 52 #[.agg #[.int .i64 t, .int .i64 n, vc], .string msg, lv] w (RPkgPost t n cs l msg vc lv w) := by
  obtain ⟨A, c, rfl⟩ := hC.shape
  obtain ⟨A1, c1, rfl⟩ := Lev.nums_shape hN
  have HN := Lib.hid hN
  have HC := Lib.hid hC
  have HB := Lib.hid hb
  obtain ⟨i0, hi, hz0, hz1, hz2⟩ := info_parts info_int'
  clear hN hC hb
  by_cases h1 : (l.length : Int) < t
  case pos =>
    have hE := Lib.hid (pkE_few (t := t) (n := n) (l := l) (.inl h1))
    go_enter Try.func52, Try.ntmps52
    go_wp2_with fail
    go_ret2
    exact ⟨below_box _ _, .inl ⟨by rw [hE.out]; omega, by rw [hE.out]; rfl⟩⟩
  by_cases h2 : n < (l.length : Int)
  case pos =>
    have hE := Lib.hid (pkE_few (t := t) (n := n) (l := l) (.inr h2))
    go_enter Try.func52, Try.ntmps52
    go_wp2_with fail
    go_ret2
    exact ⟨below_box _ _, .inl ⟨by rw [hE.out]; omega, by rw [hE.out]; rfl⟩⟩
  have hfew := Lib.hid (show ¬ ((l.length : Int) < t ∨ n < (l.length : Int)) by omega)
  go_enter Try.func52, Try.ntmps52
  go_wp2_with fail
  go_loopw [32] (fun i wr => ∃ (k : Nat) (vi : Value), k ≤ l.length ∧ i = .int .i64 k ∧ riseErr n l k = 0 ∧ NpInv t n l msg (.slice A1 cs.length c1) (.slice A l.length c) w k vi wr) (fun i _ => l.length - (intOf i).toNat)
  case atStart =>
    exact ⟨0, .slice none 0 0, by omega, rfl, rfl, World.ownsRow_nil _ _ _ _, blk_new' _ _ (by simp), (Blk.new _ _ _).alloc _, (below_box _ _).alloc (by simp) _⟩
  case round =>
    obtain ⟨k, vi, hk, rfl, he, hown, hpk, hbx, hbw⟩ := hrel
    obtain ⟨A2, c2, rfl⟩ := own_shape hown
    have HE := Lib.hid he
    have HO := Lib.hid hown
    clear he hown
    by_cases hlt : k < l.length
    · obtain ⟨b, off, rfl, hb, hc⟩ := HC.out.at_ (by omega)
      obtain ⟨x0, x1, x2⟩ := hc k hlt
      replace x0 := (hbw.cell (p := ⟨b, off + k * 3, none⟩) hb).trans x0
      replace x1 := (hbw.cell (p := ⟨b, off + k * 3 + 1, none⟩) hb).trans x1
      replace x2 := (hbw.cell (p := ⟨b, off + k * 3 + 2, none⟩) hb).trans x2
      have hpr : 0 < k → wr.cell? ⟨b, off + (k - 1) * 3, none⟩ = some (.int .i64 (l.getD (k - 1) .zero).id) := fun h0 => (hbw.cell (p := ⟨b, off + (k - 1) * 3, none⟩) hb).trans (hc (k - 1) (by omega)).1
      have hpl := hpk.lt
      have hgl := hbx.lt
      have hbl : b < wr.heap.size := by have := hbw.size; omega
      have b1 : wr.cell? ⟨w.heap.size, 1, none⟩ = some (.int .i64 n) := hbx.cell 1
      have p5 : wr.cell? ⟨w.heap.size + 1, 5, none⟩ = some (.slice A2 k c2) := hpk.cell 5
      have eAt : Hid (riseAt n l k = if (l.getD k .zero).id < 1 ∨ n < (l.getD k .zero).id then 5 else if 0 < k ∧ (l.getD k .zero).id ≤ (l.getD (k - 1) .zero).id then 6 else 0) := by
        show riseAt n l k = _
        rfl
      have hfin : ∀ x, riseAt n l k = x → x ≠ 0 → Hid (pkE t n l = x) := fun x hx hn => by
        show pkE t n l = x
        have h3 := riseErr_at n l hlt HE.out hx hn
        rw [pkE_rise hfew.out (by rw [h3]; exact hn), h3]
      have hstep : riseAt n l k = 0 → Hid (riseErr n l (k + 1) = 0) := fun hx => riseErr_step HE.out hx
      have FIN := Lib.hid hfin
      have STEP := Lib.hid hstep
      have hbox := below_box wr (.cells #[.int .i64 (l.getD k .zero).id, .int .u64 (l.getD k .zero).d, .int .u64 (l.getD k .zero).e] 37)
      have hbb := Lib.hid (hbw.trans (hbox.mono hbw.size))
      have HXE : Hid ((l.getD k .zero).id = (l.getD k .zero).id) := by
        show (l.getD k .zero).id = _
        rfl
      have hall : ∀ m : Nat, ((wr.alloc (.cells #[.int .i64 (l.getD k .zero).id, .int .u64 (l.getD k .zero).d, .int .u64 (l.getD k .zero).e] 37)).drewN m).ownsRow w.heap.size 3 1 (.slice A2 k c2) k ((idsOf l k).map (Value.int .i64)) ∧
          Blk ((wr.alloc (.cells #[.int .i64 (l.getD k .zero).id, .int .u64 (l.getD k .zero).d, .int .u64 (l.getD k .zero).e] 37)).drewN m) (w.heap.size + 1) 122 #[.int .i64 t, .int .i64 n, .slice A1 cs.length c1, .string msg, .slice (some ⟨b, off, none⟩) l.length c, .slice A2 k c2] ∧
          Blk ((wr.alloc (.cells #[.int .i64 (l.getD k .zero).id, .int .u64 (l.getD k .zero).d, .int .u64 (l.getD k .zero).e] 37)).drewN m) w.heap.size 28 #[.int .i64 t, .int .i64 n, .slice A1 cs.length c1] ∧
          Below w.heap.size w ((wr.alloc (.cells #[.int .i64 (l.getD k .zero).id, .int .u64 (l.getD k .zero).d, .int .u64 (l.getD k .zero).e] 37)).drewN m) ∧
          ((wr.alloc (.cells #[.int .i64 (l.getD k .zero).id, .int .u64 (l.getD k .zero).d, .int .u64 (l.getD k .zero).e] 37)).drewN m).cell? ⟨wr.heap.size, 0, none⟩ = some (.int .i64 (l.getD k .zero).id) ∧
          wr.heap.size < ((wr.alloc (.cells #[.int .i64 (l.getD k .zero).id, .int .u64 (l.getD k .zero).d, .int .u64 (l.getD k .zero).e] 37)).drewN m).heap.size := fun m =>
        ⟨HO.out.alloc _, hpk.alloc _, hbx.alloc _, below_drewN hbb.out m, (Blk.new wr 37 #[.int .i64 (l.getD k .zero).id, .int .u64 (l.getD k .zero).d, .int .u64 (l.getD k .zero).e]).cell 0, by simp⟩
      have HALL := Lib.hid hall
      clear hall
      clear hc hfin hstep hbw hbox hpk hbx HO
      generalize hXe : (l.getD k .zero).id = X at *
      generalize (l.getD k .zero).d = D at *
      generalize (l.getD k .zero).e = E at *
      generalize (l.getD (k - 1) .zero).id = Y at *
      have HXe := Lib.hid hXe
      clear hXe HXE
      by_cases d1 : X < 1
      case pos =>
        have hF := FIN.out 5 (by rw [eAt.out, if_pos (.inl d1)]) (by omega)
        go_wp2_with fail
        go_ret2
        exact ⟨hbb.out, .inl ⟨by rw [hF.out]; omega, by rw [hF.out]; rfl⟩⟩
      by_cases d2 : n < X
      case pos =>
        have hF := FIN.out 5 (by rw [eAt.out, if_pos (.inr d2)]) (by omega)
        go_wp2_with fail
        go_ret2
        exact ⟨hbb.out, .inl ⟨by rw [hF.out]; omega, by rw [hF.out]; rfl⟩⟩
      have e2 : riseAt n l k = if 0 < k ∧ X ≤ Y then 6 else 0 := by rw [eAt.out, if_neg (by omega)]
      by_cases d3 : 0 < k
      case neg =>
        have d3' : ¬ (0 : Int) < (k : Int) := by omega
        have hS := STEP.out (by rw [e2, if_neg (fun h => d3 h.1)])
        clear e2
        go_wp2_with fail
        go_quiet (fail)
        go_wp2_with fail
        obtain ⟨f1, f2, f3, f4, f5, f6⟩ := HALL.out nq
        generalize World.drewN (wr.alloc (.cells #[.int .i64 X, .int .u64 D, .int .u64 E] 37)) nq = w5 at *
        have HO5 := Lib.hid f1
        have HP5 := Lib.hid f2
        have HB5 := Lib.hid f3
        have HW5 := Lib.hid f4
        have p5' : w5.cell? ⟨w.heap.size + 1, 5, none⟩ = some (.slice A2 k c2) := f2.cell 5
        have hpz := f2.frozen 5
        have hsz5 := f2.lt
        clear f1 f2 f3 f4 p5 b1 x0 x1 x2
        go_region_law (first | (refine step_append_lies _ (by rfl) (.tmp 64) (.tmp 67) _ (by rfl) w.heap.size 3 i0 (.int .i64 0) 1 8 Try.underlying29 hi hz0 hz1 hz2 rfl (by decide) (.slice A2 k c2) k _ (by rfl) (show (World.alloc w5.drew _).ownsRow _ _ _ _ _ _ from (show w5.drew.ownsRow _ _ _ _ _ _ from HO5.out).alloc _) ⟨w5.heap.size, 0, none⟩ 1 1 [.int .i64 X] (by rfl) rfl (cell_one_new _ _ _) (by simp [Value.oneCell']) (by omega) (by unfold maxLen; omega) (by omega) (by have := HW5.out.size; simp; omega) (w5.heap.size + 1) (by simp) ?_; intro g2 cap2 w2 hown2 hgrow2 hat2 hlt2; have hblk2 := blk_grown (show Blk w5.drew _ _ _ from HP5.out) (show w5.drew.ownsRow _ _ _ _ _ _ from HO5.out) (by decide) hgrow2; have hc25 := hblk2.cell 5; have hf25 := hblk2.frozen 5))
        all_goals
          go_wp2_with fail
          refine ⟨⟨k + 1, _, by omega, by go_num, hS.out, np_step HO5.out HP5.out HB5.out HW5.out HXe.out hown2 hgrow2⟩, by simp [intOf]; omega⟩
      have d3' : (0 : Int) < (k : Int) := by omega
      have y0 := hpr d3
      obtain ⟨j, hkj⟩ : ∃ j, k = j + 1 := ⟨k - 1, by omega⟩
      have y1 : wr.cell? ⟨b, off + j * 3, none⟩ = some (.int .i64 Y) := by rw [hkj, Nat.add_sub_cancel] at y0; exact y0
      have s1 : IntKind.i64.wrap ((k : Int) - 1) = (j : Int) := by rw [IntKind.wrap_i64]; omega
      have s3 : (k : Int) - 1 = (j : Int) := by omega
      have s6 : IntKind.i64.wrap (j : Int) = (j : Int) := by rw [IntKind.wrap_i64]; omega
      have s4 : (j : Int) < (l.length : Int) := by omega
      have s5 : (0 : Int) ≤ (j : Int) := by omega
      clear hpr y0 hkj
      by_cases d4 : X ≤ Y
      case pos =>
        have hF := FIN.out 6 (by rw [e2, if_pos ⟨d3, d4⟩]) (by omega)
        clear e2
        go_wp2_with fail
        go_quiet (fail)
        go_wp2_with fail
        go_ret2
        exact ⟨below_drewN hbb.out _, .inl ⟨by rw [hF.out]; omega, by rw [hF.out]; rfl⟩⟩
      have hS := STEP.out (by rw [e2, if_neg (fun h => d4 h.2)])
      clear e2
      go_wp2_with fail
      go_quiet (fail)
      go_wp2_with fail
      obtain ⟨f1, f2, f3, f4, f5, f6⟩ := HALL.out nq
      generalize World.drewN (wr.alloc (.cells #[.int .i64 X, .int .u64 D, .int .u64 E] 37)) nq = w5 at *
      have HO5 := Lib.hid f1
      have HP5 := Lib.hid f2
      have HB5 := Lib.hid f3
      have HW5 := Lib.hid f4
      have p5' : w5.cell? ⟨w.heap.size + 1, 5, none⟩ = some (.slice A2 k c2) := f2.cell 5
      have hpz := f2.frozen 5
      have hsz5 := f2.lt
      clear f1 f2 f3 f4 p5 b1 x0 x1 x2
      go_region_law (first | (refine step_append_lies _ (by rfl) (.tmp 64) (.tmp 67) _ (by rfl) w.heap.size 3 i0 (.int .i64 0) 1 8 Try.underlying29 hi hz0 hz1 hz2 rfl (by decide) (.slice A2 k c2) k _ (by rfl) (show (World.alloc w5.drew _).ownsRow _ _ _ _ _ _ from (show w5.drew.ownsRow _ _ _ _ _ _ from HO5.out).alloc _) ⟨w5.heap.size, 0, none⟩ 1 1 [.int .i64 X] (by rfl) rfl (cell_one_new _ _ _) (by simp [Value.oneCell']) (by omega) (by unfold maxLen; omega) (by omega) (by have := HW5.out.size; simp; omega) (w5.heap.size + 1) (by simp) ?_; intro g2 cap2 w2 hown2 hgrow2 hat2 hlt2; have hblk2 := blk_grown (show Blk w5.drew _ _ _ from HP5.out) (show w5.drew.ownsRow _ _ _ _ _ _ from HO5.out) (by decide) hgrow2; have hc25 := hblk2.cell 5; have hf25 := hblk2.frozen 5))
      all_goals
        go_wp2_with fail
        refine ⟨⟨k + 1, _, by omega, by go_num, hS.out, np_step HO5.out HP5.out HB5.out HW5.out HXe.out hown2 hgrow2⟩, by simp [intOf]; omega⟩
    · obtain rfl : k = l.length := by omega
      have hnv := Lib.hid (Nums.own (l := idsOf l l.length) (by rw [idsOf_length]; exact HO.out))
      obtain ⟨wo, rfl⟩ : ∃ wo : World, wo = wr := ⟨_, rfl⟩
      have HPK := Lib.hid hpk
      have HW := Lib.hid hbw
      clear hbx
      go_wp2_with fail
      go_loopw [74] (fun i wr => ∃ k : Nat, k ≤ l.length ∧ i = .int .i64 k ∧ ncsTo l k = true ∧ Below wo.heap.size wo wr) (fun i _ => l.length - (intOf i).toNat)
      case atStart => exact ⟨0, by omega, rfl, rfl, Below.refl _ _⟩
      case round =>
        obtain ⟨k, hk, rfl, hnc, hbwr⟩ := hrel
        have HNC := Lib.hid hnc
        clear hnc
        by_cases hlt : k < l.length
        · obtain ⟨b, off, rfl, hb, hc⟩ := HC.out.at_ (by omega)
          obtain ⟨x0, x1, x2⟩ := hc k hlt
          have hbwf := HW.out.trans (hbwr.mono HW.out.size)
          replace x0 := (hbwf.cell (p := ⟨b, off + k * 3, none⟩) hb).trans x0
          replace x1 := (hbwf.cell (p := ⟨b, off + k * 3 + 1, none⟩) hb).trans x1
          replace x2 := (hbwf.cell (p := ⟨b, off + k * 3 + 2, none⟩) hb).trans x2
          obtain ⟨bD, bE⟩ := HB.out k hlt
          have hbad : (isNc (l.getD k .zero).d = false ∨ isNc (l.getD k .zero).e = false) → Hid (pkE t n l = 3) := fun h => pkE_nc hfew.out HE.out (ncsTo_bad l hlt h)
          have hstep : isNc (l.getD k .zero).d = true → isNc (l.getD k .zero).e = true → Hid (ncsTo l (k + 1) = true) := fun h1 h2 => ncsTo_step l HNC.out h1 h2
          have BAD := Lib.hid hbad
          have STEP := Lib.hid hstep
          have hbox := below_box wr (.cells #[.int .i64 (l.getD k .zero).id, .int .u64 (l.getD k .zero).d, .int .u64 (l.getD k .zero).e] 37)
          have hbb := Lib.hid (hbwr.trans (hbox.mono hbwr.size))
          have hbb2 := Lib.hid (hbwf.trans (hbox.mono hbwf.size))
          clear hc hbad hstep hbwr hbox hbwf
          generalize (l.getD k .zero).id = X at *
          generalize (l.getD k .zero).d = D at *
          generalize (l.getD k .zero).e = E at *
          obtain ⟨v1, e1⟩ : ∃ v, isNc D = v := ⟨_, rfl⟩
          obtain ⟨v2, e2⟩ : ∃ v, isNc E = v := ⟨_, rfl⟩
          have E1 := Lib.hid e1
          have E2 := Lib.hid e2
          clear e1 e2
          cases v1
          case false =>
            have hF := BAD.out (.inl E1.out)
            go_wp2_with fail
            refine (refNcIs _ D _ bD E1.out).mono ?_
            rintro e w' ⟨rfl, rfl⟩
            go_wp2_with fail
            go_ret2
            exact ⟨hbb2.out, .inl ⟨by rw [hF.out]; omega, by rw [hF.out]; rfl⟩⟩
          cases v2
          case false =>
            have hF := BAD.out (.inr E2.out)
            go_wp2_with fail
            refine (refNcIs _ D _ bD E1.out).mono ?_
            rintro e w' ⟨rfl, rfl⟩
            go_wp2_with fail
            refine (refNcIs _ E _ bE E2.out).mono ?_
            rintro e w' ⟨rfl, rfl⟩
            go_wp2_with fail
            go_ret2
            exact ⟨hbb2.out, .inl ⟨by rw [hF.out]; omega, by rw [hF.out]; rfl⟩⟩
          have hS := STEP.out E1.out E2.out
          go_wp2_with fail
          refine (refNcIs _ D _ bD E1.out).mono ?_
          rintro e w' ⟨rfl, rfl⟩
          go_wp2_with fail
          refine (refNcIs _ E _ bE E2.out).mono ?_
          rintro e w' ⟨rfl, rfl⟩
          go_wp2_with fail
          refine ⟨⟨k + 1, by omega, by go_num, hS.out, hbb.out⟩, by simp [intOf]; omega⟩
        · obtain rfl : k = l.length := by omega
          have h0 := Lib.hid (pkE_ok hfew.out HE.out HNC.out)
          have hbwf := HW.out.trans (hbwr.mono HW.out.size)
          go_wp2_with fail
          go_ret2
          exact ⟨hbwf, .inr ⟨h0.out, _, _, rfl, HPK.out.below hbwr HPK.out.lt, HC.out.later hbwf, HN.out.later hbwf, hnv.out.later hbwr⟩⟩
end Go.Proofs.Ytpfpokjaeffbjab.Rkg
