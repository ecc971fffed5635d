/- group.Of: a group that is handed in, looked at. -/
import Derived.Test.YtpfpokjaeffbjabGroup
import Derived.Deep.DeepCutAuto
import Derived.Deep.OwnRows
namespace Go.Proofs.Ytpfpokjaeffbjab.Gof
open Go.RowKit Go.Proofs.Ytpfpokjaeffbjab.Pl Go.Proofs.Ytpfpokjaeffbjab.Dpl Go.Proofs.Ytpfpokjaeffbjab.Gpl Go.Proofs.Ytpfpokjaeffbjab.Fld Go.Proofs.Ytpfpokjaeffbjab.Mem Go.Proofs.Ytpfpokjaeffbjab.Ver Go.Proofs.Ytpfpokjaeffbjab.Grp

/-- What group.Of leaves: nil and an error; or a new group. -/
def GroupPost (t n : Int) (cs : List Int) (w : World) (e : Ending) (w' : World) : Prop :=
  Below w.heap.size w w' ∧
  ((groupOk t n cs = false ∧ e = .returned (.tuple #[.pointer none, .int .i64 4])) ∨
   (groupOk t n cs = true ∧ ∃ g vc, e = .returned (.tuple #[.pointer (some ⟨g, 0, none⟩), .int .i64 0]) ∧ w.heap.size ≤ g ∧ GrpAt w' g t n vc 0 0 cs 1 ∧ OwnCs w' w.heap.size vc cs))
theorem info_el : (Try.prog.info? 85).map (fun i => (i.zero, i.size, i.bytes)) = some (some (.int .u64 0), 1, 8) := by kernel_rfl

set_option maxRecDepth 100000 in
set_option maxHeartbeats 2000000 in
theorem ofBad (t n : Int) (cs : List Int) (v : Value) (w : World) (hv : Nums .u64 w w.heap.size v cs) (hl : cs.length ≤ 65536)
    (hbad : t < 2 ∨ n < t ∨ 9 < n ∨ (cs.length : Int) ≠ t ∨ cs.getD 0 0 = 1) :
    Calls Try.prog 27 #[.agg #[.int .i64 t, .int .i64 n, v]] w (GroupPost t n cs w) := by
  obtain ⟨A, c, rfl, hc, hcell⟩ := hv
  have hE : Hid (groupOk t n cs = false) := by
    show groupOk t n cs = false
    exact groupOk_bad (fun h => by
      obtain ⟨h1, h2, h3, h4, h5⟩ := h
      rcases hbad with h | h | h | h | h
      · omega
      · omega
      · omega
      · exact h h4
      · exact h5 h)
  have HC := Lib.hid hcell
  clear hcell
  by_cases h1 : t < 2
  case pos =>
    clear hbad
    go_enter Try.func27, Try.ntmps27
    go_wp2_with fail
    go_ret2
    exact ⟨below_box _ _, .inl ⟨hE.out, rfl⟩⟩
  by_cases h2 : n < t
  case pos =>
    clear hbad
    go_enter Try.func27, Try.ntmps27
    go_wp2_with fail
    go_ret2
    exact ⟨below_box _ _, .inl ⟨hE.out, rfl⟩⟩
  by_cases h3 : 9 < n
  case pos =>
    clear hbad
    go_enter Try.func27, Try.ntmps27
    go_wp2_with fail
    go_ret2
    exact ⟨below_box _ _, .inl ⟨hE.out, rfl⟩⟩
  by_cases h4 : (cs.length : Int) = t
  case neg =>
    have h4' : ((cs.length : Int) != t) = true := by rw [bne_iff_ne]; omega
    clear hbad h4
    go_enter Try.func27, Try.ntmps27
    go_wp2_with fail
    go_ret2
    exact ⟨below_box _ _, .inl ⟨hE.out, rfl⟩⟩
  have h4' : ((cs.length : Int) != t) = false := by rw [bne_eq_false_iff_eq]; omega
  have h5 : cs.getD 0 0 = 1 := by
    rcases hbad with h | h | h | h | h
    · omega
    · omega
    · omega
    · exact absurd h4 h
    · exact h
  have h6 : (cs.getD 0 0 == 1) = true := by rw [beq_iff_eq]; exact h5
  have hp : 0 < cs.length := by omega
  have hp1 : (0 : Int) < (cs.length : Int) := by omega
  obtain ⟨b, off, rfl, hb, hcells⟩ := HC.out hp
  have hc0 := hcells 0 hp
  rw [Nat.add_zero] at hc0
  clear hcells hbad h4 h5 HC
  generalize cs.getD 0 0 = X at *
  go_enter Try.func27, Try.ntmps27
  go_wp2_with fail
  go_ret2
  exact ⟨below_box _ _, .inl ⟨hE.out, rfl⟩⟩
theorem blk_new' {w : World} {g : Nat} (t : TypeId) (cs : Array Value) (h : w.heap.size = g) : Blk (w.alloc (.cells cs t)) g t cs := h ▸ Blk.new w t cs
/-- The new group's cells. -/
def newGrp (t n : Int) (vc : Value) : Array Value :=
  #[.int .i64 t, .int .i64 n, vc, .int .u32 0, .int .i32 0, .int .u32 0, .int .u64 0, .int .u64 0, .int .u64 0, .int .u64 0, .int .u64 0, .int .u64 0, .int .u64 0, .int .u64 0, .int .u64 0, .int .u64 0]
theorem newGrp_at {w : World} {g : Nat} {t n : Int} {vc : Value} {cs : List Int} (h : Blk w g 143 (newGrp t n vc)) : GrpAt w g t n vc 0 0 cs 1 :=
  ⟨_, h, rfl, rfl, rfl, rfl, rfl, rfl, fun i h1 h2 => absurd h1 (by omega)⟩
/-- A row under way: its first k cells hold the commitments. -/
def RowTo (w : World) (gc : Nat) (cs : List Int) (k : Nat) : Prop := ∃ C : Array Value, Blk w gc 85 C ∧ C.size = cs.length ∧ ∀ j, j < k → C[j]? = some (.int .u64 (cs.getD j 0))
theorem RowTo.lay {w : World} {gc : Nat} {cs : List Int} {k : Nat} (h : RowTo w gc cs k) (hk : k < cs.length) : RowTo (w.setCell ⟨gc, k, none⟩ (.int .u64 (cs.getD k 0))) gc cs (k + 1) := by
  obtain ⟨C, hb, hs, hc⟩ := h
  refine ⟨_, hb.set_ k _, by rw [Array.size_setIfInBounds]; exact hs, fun j hj => ?_⟩
  by_cases e : j = k
  · subst e; rw [Array.getElem?_setIfInBounds_self_of_lt (by omega)]
  · rw [Array.getElem?_setIfInBounds_ne (by omega)]; exact hc j (by omega)
theorem RowTo.room {w : World} {gc : Nat} {cs : List Int} {k : Nat} (h : RowTo w gc cs k) (hk : k < cs.length) : (∃ u, w.cell? ⟨gc, k, none⟩ = some u) ∧ w.frozen? ⟨gc, k, none⟩ = false := by
  obtain ⟨C, hb, hs, hc⟩ := h
  exact ⟨⟨_, (hb.cell k).trans (Array.getElem?_eq_getElem (by omega))⟩, hb.frozen k⟩
theorem RowTo.own {w : World} {gc base : Nat} {cs : List Int} (h : RowTo w gc cs cs.length) (hb : base ≤ gc) (hl : cs.length ≤ 65536) : OwnCs w base (.slice (some ⟨gc, 0, none⟩) cs.length cs.length) cs := by
  obtain ⟨C, hblk, hs, hc⟩ := h
  refine ⟨by simp, .inr ⟨gc, cs.length, C, rfl, hb, hblk, Nat.le_refl _, by unfold maxLen; omega, by omega, ?_⟩⟩
  apply List.ext_getElem?
  intro j
  rw [List.getElem?_take, List.getElem?_map]
  by_cases hj : j < cs.length
  · rw [if_pos (by omega), Array.getElem?_toList, hc j hj, List.getElem?_eq_getElem hj, List.getD_eq_getElem?_getD, List.getElem?_eq_getElem hj]
    rfl
  · rw [if_neg (by omega), List.getElem?_eq_none (by omega)]
    rfl

set_option maxRecDepth 100000 in
set_option maxHeartbeats 4000000 in
theorem ofGood (n : Int) (cs : List Int) (v : Value) (w : World) (hv : Nums .u64 w w.heap.size v cs) (hcb : ∀ i, i < cs.length → 0 ≤ cs.getD i 0)
    (h1 : 2 ≤ cs.length) (h2 : (cs.length : Int) ≤ n) (h3 : n ≤ 9) (h5 : cs.getD 0 0 ≠ 1) :
    Calls Try.prog 27 #[.agg #[.int .i64 cs.length, .int .i64 n, v]] w (GroupPost cs.length n cs w) := by
  obtain ⟨A, c, rfl, hc, hcell⟩ := hv
  have hE : Hid (groupOk cs.length n cs = elsTo cs cs.length) := by
    show groupOk cs.length n cs = _
    exact groupOk_els ⟨by omega, h2, h3, rfl, h5⟩
  have HCB := Lib.hid hcb
  obtain ⟨b, off, rfl, hb, hcells⟩ := hcell (by omega)
  have hc0 := hcells 0 (by omega)
  rw [Nat.add_zero] at hc0
  have HC := Lib.hid hcells
  have n1 : ¬ (cs.length : Int) < 2 := by omega
  have n2 : ¬ n < (cs.length : Int) := by omega
  have n3 : ¬ 9 < n := by omega
  have n4 : ((cs.length : Int) != (cs.length : Int)) = false := by rw [bne_eq_false_iff_eq]
  have n5 : (cs.getD 0 0 == 1) = false := by rw [beq_eq_false_iff_ne]; exact h5
  have n6 : (0 : Int) < (cs.length : Int) := by omega
  have hmk : ∀ W, (Instr.makeSlice 136 (.int .i64 cs.length) (.int .i64 cs.length)).run Try.prog W = .ok (.slice (some ⟨W.heap.size, 0, none⟩) cs.length cs.length) (W.alloc (.cells (madeCells #[.int .u64 0] cs.length) 85)) :=
    fun W => run_make_row' 136 85 (.int .u64 0) 8 Try.underlying136 info_el rfl .i64 .i64 cs.length (by omega) (by omega) W
  have hsz : (madeCells #[Value.int .u64 0] cs.length).size = cs.length := by simp [madeCells]
  have HSZ := Lib.hid hsz
  clear hcell hcells hcb h5 hsz
  generalize madeCells #[Value.int .u64 0] cs.length = MC at *
  generalize hX0 : cs.getD 0 0 = X at *
  clear hX0
  go_enter Try.func27, Try.ntmps27
  go_upto_region 3 with fail
  go_cut [4] (fun p wx => p = .pointer (some ⟨w.heap.size + 2, 0, none⟩) ∧ Blk wx (w.heap.size + 2) 143 (newGrp cs.length n (.slice (some ⟨w.heap.size + 1, 0, none⟩) cs.length cs.length)) ∧
    Blk wx (w.heap.size + 1) 85 MC ∧ Blk wx w.heap.size 28 #[.int .i64 cs.length, .int .i64 n, .slice (some ⟨b, off, none⟩) cs.length c] ∧ Below w.heap.size w wx)
  case first =>
    go_region
    all_goals
      go_wp2_with fail
      go_meet
      refine ⟨rfl, blk_new' _ _ (by simp), (blk_new' _ _ (by simp)).alloc _, ((Blk.new _ _ _).alloc _).alloc _, (((below_box _ _).alloc (by simp) _).alloc (by simp; omega) _).drew⟩
  case rest =>
    obtain ⟨rfl, hB2, hB1, hB0, hbw⟩ := hcut
    rename World => w0
    have hx2 : w0.cell? ⟨w.heap.size, 2, none⟩ = some (.slice (some ⟨b, off, none⟩) cs.length c) := hB0.cell 2
    go_wp2_with fail
    go_loopw [51] (fun i wr => ∃ k : Nat, k ≤ cs.length ∧ i = .int .i64 k ∧ elsTo cs k = true ∧ RowTo wr (w.heap.size + 1) cs k ∧ Blk wr (w.heap.size + 2) 143 (newGrp cs.length n (.slice (some ⟨w.heap.size + 1, 0, none⟩) cs.length cs.length)) ∧ Below w.heap.size w wr) (fun i _ => cs.length - (intOf i).toNat)
    case atStart => exact ⟨0, by omega, rfl, rfl, ⟨MC, hB1, HSZ.out, fun j hj => absurd hj (by omega)⟩, hB2, hbw⟩
    case round =>
      obtain ⟨k, hk, rfl, hels, hrow, hgrp, hbwr⟩ := hrel
      have HEL := Lib.hid hels
      have HRW := Lib.hid hrow
      clear hels hrow hB1 hB2 hB0
      by_cases hlt : k < cs.length
      · have hck := (hbwr.cell (p := ⟨b, off + k, none⟩) hb).trans (HC.out k hlt)
        have hcb := HCB.out k hlt
        have hbad : isEl (cs.getD k 0) = false → Hid (groupOk cs.length n cs = false) := fun h => by
          show groupOk cs.length n cs = false
          rw [hE.out]; exact elsTo_bad cs hlt h
        have hgood : isEl (cs.getD k 0) = true → elsTo cs (k + 1) = true := fun h => elsTo_step cs HEL.out h
        have HLAY := Lib.hid (HRW.out.lay hlt)
        obtain ⟨⟨u0, hu0⟩, hz0⟩ := HRW.out.room hlt
        have HBAD := Lib.hid hbad
        have HGOOD := Lib.hid hgood
        have hg2 : wr.cell? ⟨w.heap.size + 2, 2, none⟩ = some (.slice (some ⟨w.heap.size + 1, 0, none⟩) cs.length cs.length) := hgrp.cell 2
        clear hbad hgood
        generalize cs.getD k 0 = Y at *
        obtain ⟨bl, hbl⟩ : ∃ bl, isEl Y = bl := ⟨_, rfl⟩
        have HBL := Lib.hid hbl
        clear hbl
        cases bl
        case false =>
          have hE2 := HBAD.out HBL.out
          go_wp2_with (go_at_call 61; refine (elIs _ Y _ hcb HBL.out).mono ?_; rintro e w' ⟨rfl, rfl⟩)
          go_ret2
          exact ⟨hbwr, .inl ⟨hE2.out, rfl⟩⟩
        case true =>
          go_wp2_with (go_at_call 61; refine (elIs _ Y _ hcb HBL.out).mono ?_; rintro e w' ⟨rfl, rfl⟩)
          refine ⟨⟨k + 1, by omega, by go_num, HGOOD.out HBL.out, HLAY.out, hgrp.far (by show w.heap.size + 2 ≠ w.heap.size + 1; omega) _, hbwr.setCell (by show w.heap.size ≤ w.heap.size + 1; omega) _⟩, by simp [intOf]; omega⟩
      · obtain rfl : k = cs.length := by omega
        have hE2 : Hid (groupOk cs.length n cs = true) := by
          show groupOk cs.length n cs = true
          rw [hE.out]; exact HEL.out
        go_wp2_with fail
        go_ret2
        exact ⟨hbwr, .inr ⟨hE2.out, _, _, rfl, by omega, newGrp_at hgrp, HRW.out.own (by omega) (by omega)⟩⟩
theorem ofC (t n : Int) (cs : List Int) (v : Value) (w : World) (hv : Nums .u64 w w.heap.size v cs) (hl : cs.length ≤ 65536) (hcb : ∀ i, i < cs.length → 0 ≤ cs.getD i 0) :
    Calls Try.prog 27 #[.agg #[.int .i64 t, .int .i64 n, v]] w (GroupPost t n cs w) := by
  by_cases h : t < 2 ∨ n < t ∨ 9 < n ∨ (cs.length : Int) ≠ t ∨ cs.getD 0 0 = 1
  · exact ofBad t n cs v w hv hl h
  · have e : t = cs.length := by omega
    subst e
    exact ofGood n cs v w hv hcb (by omega) (by omega) (by omega) (by omega)
end Go.Proofs.Ytpfpokjaeffbjab.Gof
