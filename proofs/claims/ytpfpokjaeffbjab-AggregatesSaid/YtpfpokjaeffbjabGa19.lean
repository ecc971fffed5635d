/- Part of the proof: GroupOf, CombinesPlain, Coms, PkgPlain, Package. -/
import Derived.Test.YtpfpokjaeffbjabGa18
import Derived.Deep.DeepCutAuto
import Derived.Deep.OwnRows
import Derived.Test.YtpfpokjaeffbjabGa17
namespace Go.Proofs.Ytpfpokjaeffbjab.Gof
open Go.RowKit Go.Proofs.Ytpfpokjaeffbjab.Pl Go.Proofs.Ytpfpokjaeffbjab.Dpl Go.Proofs.Ytpfpokjaeffbjab.Gpl Go.Proofs.Ytpfpokjaeffbjab.Fld Go.Proofs.Ytpfpokjaeffbjab.Mem Go.Proofs.Ytpfpokjaeffbjab.Ver Go.Proofs.Ytpfpokjaeffbjab.Grp
def GroupPost (t n : Int) (cs : List Int) (w : World) (e : Ending) (w' : World) : Prop :=
  Below w.heap.size w w' ∧
  ((groupOk t n cs = false ∧ e = .returned (.tuple #[.pointer none, .int .i64 4])) ∨
   (groupOk t n cs = true ∧ ∃ g vc, e = .returned (.tuple #[.pointer (some ⟨g, 0, none⟩), .int .i64 0]) ∧ w.heap.size ≤ g ∧ GrpAt w' g t n vc 0 0 cs 1 ∧ OwnCs w' w.heap.size vc cs))
def newGrp (t n : Int) (vc : Value) : Array Value :=
  #[.int .i64 t, .int .i64 n, vc, .int .u32 0, .int .i32 0, .int .u32 0, .int .u64 0, .int .u64 0, .int .u64 0, .int .u64 0, .int .u64 0, .int .u64 0, .int .u64 0, .int .u64 0, .int .u64 0, .int .u64 0]
def GroupPost' (t n : Int) (cs : List Int) (w : World) (e : Ending) (w' : World) : Prop :=
  Below w.heap.size w w' ∧
  ((groupOk t n cs = false ∧ e = .returned (.tuple #[.pointer none, .int .i64 4])) ∨
   (groupOk t n cs = true ∧ ∃ g vc, e = .returned (.tuple #[.pointer (some ⟨g, 0, none⟩), .int .i64 0]) ∧ w.heap.size ≤ g ∧ Blk w' g 143 (newGrp t n vc) ∧ OwnCs w' w.heap.size vc cs))
theorem info_el : (Try.prog.info? 85).map (fun i => (i.zero, i.size, i.bytes)) = some (some (.int .u64 0), 1, 8) := by kernel_rfl
set_option maxRecDepth 100000 in
set_option maxHeartbeats 2000000 in
theorem ofBad (t n : Int) (cs : List Int) (v : Value) (w : World) (hv : Nums .u64 w w.heap.size v cs) (hl : cs.length ≤ 65536)
    (hbad : t < 2 ∨ n < t ∨ 9 < n ∨ (cs.length : Int) ≠ t ∨ cs.getD 0 0 = 1) :
    Calls Try.prog 27 #[.agg #[.int .i64 t, .int .i64 n, v]] w (GroupPost' t n cs w) := by
  obtain ⟨A, c, rfl, hc, hcell⟩ := hv
  have hE : Hid (groupOk t n cs = false) := by
    show groupOk t n cs = false
    exact groupOk_bad (fun h => by
      obtain ⟨h1, h2, h3, h4, h5⟩ := h
      rcases hbad with h | h | h | h | h
      · omega
      · omega
      · omega
      · exact h h4
      · exact h5 h)
  have HC := Lib.hid hcell
  clear hcell
  by_cases h1 : t < 2
  case pos =>
    clear hbad
    go_enter Try.func27, Try.ntmps27
    go_wp2_with fail
    go_ret2
    exact ⟨below_box _ _, .inl ⟨hE.out, rfl⟩⟩
  by_cases h2 : n < t
  case pos =>
    clear hbad
    go_enter Try.func27, Try.ntmps27
    go_wp2_with fail
    go_ret2
    exact ⟨below_box _ _, .inl ⟨hE.out, rfl⟩⟩
  by_cases h3 : 9 < n
  case pos =>
    clear hbad
    go_enter Try.func27, Try.ntmps27
    go_wp2_with fail
    go_ret2
    exact ⟨below_box _ _, .inl ⟨hE.out, rfl⟩⟩
  by_cases h4 : (cs.length : Int) = t
  case neg =>
    have h4' : ((cs.length : Int) != t) = true := by rw [bne_iff_ne]; omega
    clear hbad h4
    go_enter Try.func27, Try.ntmps27
    go_wp2_with fail
    go_ret2
    exact ⟨below_box _ _, .inl ⟨hE.out, rfl⟩⟩
  have h4' : ((cs.length : Int) != t) = false := by rw [bne_eq_false_iff_eq]; omega
  have h5 : cs.getD 0 0 = 1 := by
    rcases hbad with h | h | h | h | h
    · omega
    · omega
    · omega
    · exact absurd h4 h
    · exact h
  have h6 : (cs.getD 0 0 == 1) = true := by rw [beq_iff_eq]; exact h5
  have hp : 0 < cs.length := by omega
  have hp1 : (0 : Int) < (cs.length : Int) := by omega
  obtain ⟨b, off, rfl, hb, hcells⟩ := HC.out hp
  have hc0 := hcells 0 hp
  rw [Nat.add_zero] at hc0
  clear hcells hbad h4 h5 HC
  generalize cs.getD 0 0 = X at *
  go_enter Try.func27, Try.ntmps27
  go_wp2_with fail
  go_ret2
  exact ⟨below_box _ _, .inl ⟨hE.out, rfl⟩⟩
theorem blk_new' {w : World} {g : Nat} (t : TypeId) (cs : Array Value) (h : w.heap.size = g) : Blk (w.alloc (.cells cs t)) g t cs := h ▸ Blk.new w t cs
theorem newGrp_at {w : World} {g : Nat} {t n : Int} {vc : Value} {cs : List Int} (h : Blk w g 143 (newGrp t n vc)) : GrpAt w g t n vc 0 0 cs 1 :=
  ⟨_, h, rfl, rfl, rfl, rfl, rfl, rfl, fun i h1 h2 => absurd h1 (by omega)⟩
def RowTo (w : World) (gc : Nat) (cs : List Int) (k : Nat) : Prop := ∃ C : Array Value, Blk w gc 85 C ∧ C.size = cs.length ∧ ∀ j, j < k → C[j]? = some (.int .u64 (cs.getD j 0))
theorem RowTo.lay {w : World} {gc : Nat} {cs : List Int} {k : Nat} (h : RowTo w gc cs k) (hk : k < cs.length) : RowTo (w.setCell ⟨gc, k, none⟩ (.int .u64 (cs.getD k 0))) gc cs (k + 1) := by
  obtain ⟨C, hb, hs, hc⟩ := h
  refine ⟨_, hb.set_ k _, by rw [Array.size_setIfInBounds]; exact hs, fun j hj => ?_⟩
  by_cases e : j = k
  · subst e; rw [Array.getElem?_setIfInBounds_self_of_lt (by omega)]
  · rw [Array.getElem?_setIfInBounds_ne (by omega)]; exact hc j (by omega)
theorem RowTo.room {w : World} {gc : Nat} {cs : List Int} {k : Nat} (h : RowTo w gc cs k) (hk : k < cs.length) : (∃ u, w.cell? ⟨gc, k, none⟩ = some u) ∧ w.frozen? ⟨gc, k, none⟩ = false := by
  obtain ⟨C, hb, hs, hc⟩ := h
  exact ⟨⟨_, (hb.cell k).trans (Array.getElem?_eq_getElem (by omega))⟩, hb.frozen k⟩
theorem RowTo.own {w : World} {gc base : Nat} {cs : List Int} (h : RowTo w gc cs cs.length) (hb : base ≤ gc) (hl : cs.length ≤ 65536) : OwnCs w base (.slice (some ⟨gc, 0, none⟩) cs.length cs.length) cs := by
  obtain ⟨C, hblk, hs, hc⟩ := h
  refine ⟨by simp, .inr ⟨gc, cs.length, C, rfl, hb, hblk, Nat.le_refl _, by unfold maxLen; omega, by omega, ?_⟩⟩
  apply List.ext_getElem?
  intro j
  rw [List.getElem?_take, List.getElem?_map]
  by_cases hj : j < cs.length
  · rw [if_pos (by omega), Array.getElem?_toList, hc j hj, List.getElem?_eq_getElem hj, List.getD_eq_getElem?_getD, List.getElem?_eq_getElem hj]
    rfl
  · rw [if_neg (by omega), List.getElem?_eq_none (by omega)]
    rfl
set_option maxRecDepth 100000 in
set_option maxHeartbeats 4000000 in
theorem ofGood (n : Int) (cs : List Int) (v : Value) (w : World) (hv : Nums .u64 w w.heap.size v cs) (hcb : ∀ i, i < cs.length → 0 ≤ cs.getD i 0)
    (h1 : 2 ≤ cs.length) (h2 : (cs.length : Int) ≤ n) (h3 : n ≤ 9) (h5 : cs.getD 0 0 ≠ 1) :
    Calls Try.prog 27 #[.agg #[.int .i64 cs.length, .int .i64 n, v]] w (GroupPost' cs.length n cs w) := by
  obtain ⟨A, c, rfl, hc, hcell⟩ := hv
  have hE : Hid (groupOk cs.length n cs = elsTo cs cs.length) := by
    show groupOk cs.length n cs = _
    exact groupOk_els ⟨by omega, h2, h3, rfl, h5⟩
  have HCB := Lib.hid hcb
  obtain ⟨b, off, rfl, hb, hcells⟩ := hcell (by omega)
  have hc0 := hcells 0 (by omega)
  rw [Nat.add_zero] at hc0
  have HC := Lib.hid hcells
  have n1 : ¬ (cs.length : Int) < 2 := by omega
  have n2 : ¬ n < (cs.length : Int) := by omega
  have n3 : ¬ 9 < n := by omega
  have n4 : ((cs.length : Int) != (cs.length : Int)) = false := by rw [bne_eq_false_iff_eq]
  have n5 : (cs.getD 0 0 == 1) = false := by rw [beq_eq_false_iff_ne]; exact h5
  have n6 : (0 : Int) < (cs.length : Int) := by omega
  have hmk : ∀ W, (Instr.makeSlice 136 (.int .i64 cs.length) (.int .i64 cs.length)).run Try.prog W = .ok (.slice (some ⟨W.heap.size, 0, none⟩) cs.length cs.length) (W.alloc (.cells (madeCells #[.int .u64 0] cs.length) 85)) :=
    fun W => run_make_row' 136 85 (.int .u64 0) 8 Try.underlying136 info_el rfl .i64 .i64 cs.length (by omega) (by omega) W
  have hsz : (madeCells #[Value.int .u64 0] cs.length).size = cs.length := by simp [madeCells]
  have HSZ := Lib.hid hsz
  clear hcell hcells hcb h5 hsz
  generalize madeCells #[Value.int .u64 0] cs.length = MC at *
  generalize hX0 : cs.getD 0 0 = X at *
  clear hX0
  go_enter Try.func27, Try.ntmps27
  go_upto_region 3 with fail
  go_cut [4] (fun p wx => p = .pointer (some ⟨w.heap.size + 2, 0, none⟩) ∧ Blk wx (w.heap.size + 2) 143 (newGrp cs.length n (.slice (some ⟨w.heap.size + 1, 0, none⟩) cs.length cs.length)) ∧
    Blk wx (w.heap.size + 1) 85 MC ∧ Blk wx w.heap.size 28 #[.int .i64 cs.length, .int .i64 n, .slice (some ⟨b, off, none⟩) cs.length c] ∧ Below w.heap.size w wx)
  case first =>
    go_region
    all_goals
      go_wp2_with fail
      go_meet
      refine ⟨rfl, blk_new' _ _ (by simp), (blk_new' _ _ (by simp)).alloc _, ((Blk.new _ _ _).alloc _).alloc _, (((below_box _ _).alloc (by simp) _).alloc (by simp; omega) _).drew⟩
  case rest =>
    obtain ⟨rfl, hB2, hB1, hB0, hbw⟩ := hcut
    rename World => w0
    have hx2 : w0.cell? ⟨w.heap.size, 2, none⟩ = some (.slice (some ⟨b, off, none⟩) cs.length c) := hB0.cell 2
    go_wp2_with fail
    go_loopw [51] (fun i wr => ∃ k : Nat, k ≤ cs.length ∧ i = .int .i64 k ∧ elsTo cs k = true ∧ RowTo wr (w.heap.size + 1) cs k ∧ Blk wr (w.heap.size + 2) 143 (newGrp cs.length n (.slice (some ⟨w.heap.size + 1, 0, none⟩) cs.length cs.length)) ∧ Below w.heap.size w wr) (fun i _ => cs.length - (intOf i).toNat)
    case atStart => exact ⟨0, by omega, rfl, rfl, ⟨MC, hB1, HSZ.out, fun j hj => absurd hj (by omega)⟩, hB2, hbw⟩
    case round =>
      obtain ⟨k, hk, rfl, hels, hrow, hgrp, hbwr⟩ := hrel
      have HEL := Lib.hid hels
      have HRW := Lib.hid hrow
      clear hels hrow hB1 hB2 hB0
      by_cases hlt : k < cs.length
      · have hck := (hbwr.cell (p := ⟨b, off + k, none⟩) hb).trans (HC.out k hlt)
        have hcb := HCB.out k hlt
        have hbad : isEl (cs.getD k 0) = false → Hid (groupOk cs.length n cs = false) := fun h => by
          show groupOk cs.length n cs = false
          rw [hE.out]; exact elsTo_bad cs hlt h
        have hgood : isEl (cs.getD k 0) = true → elsTo cs (k + 1) = true := fun h => elsTo_step cs HEL.out h
        have HLAY := Lib.hid (HRW.out.lay hlt)
        obtain ⟨⟨u0, hu0⟩, hz0⟩ := HRW.out.room hlt
        have HBAD := Lib.hid hbad
        have HGOOD := Lib.hid hgood
        have hg2 : wr.cell? ⟨w.heap.size + 2, 2, none⟩ = some (.slice (some ⟨w.heap.size + 1, 0, none⟩) cs.length cs.length) := hgrp.cell 2
        clear hbad hgood
        generalize cs.getD k 0 = Y at *
        obtain ⟨bl, hbl⟩ : ∃ bl, isEl Y = bl := ⟨_, rfl⟩
        have HBL := Lib.hid hbl
        clear hbl
        cases bl
        case false =>
          have hE2 := HBAD.out HBL.out
          go_wp2_with (go_at_call 61; refine (elIs _ Y _ hcb HBL.out).mono ?_; rintro e w' ⟨rfl, rfl⟩)
          go_ret2
          exact ⟨hbwr, .inl ⟨hE2.out, rfl⟩⟩
        case true =>
          go_wp2_with (go_at_call 61; refine (elIs _ Y _ hcb HBL.out).mono ?_; rintro e w' ⟨rfl, rfl⟩)
          refine ⟨⟨k + 1, by omega, by go_num, HGOOD.out HBL.out, HLAY.out, hgrp.far (by show w.heap.size + 2 ≠ w.heap.size + 1; omega) _, hbwr.setCell (by show w.heap.size ≤ w.heap.size + 1; omega) _⟩, by simp [intOf]; omega⟩
      · obtain rfl : k = cs.length := by omega
        have hE2 : Hid (groupOk cs.length n cs = true) := by
          show groupOk cs.length n cs = true
          rw [hE.out]; exact HEL.out
        go_wp2_with fail
        go_ret2
        exact ⟨hbwr, .inr ⟨hE2.out, _, _, rfl, by omega, hgrp, HRW.out.own (by omega) (by omega)⟩⟩
theorem ofC' (t n : Int) (cs : List Int) (v : Value) (w : World) (hv : Nums .u64 w w.heap.size v cs) (hl : cs.length ≤ 65536) (hcb : ∀ i, i < cs.length → 0 ≤ cs.getD i 0) :
    Calls Try.prog 27 #[.agg #[.int .i64 t, .int .i64 n, v]] w (GroupPost' t n cs w) := by
  by_cases h : t < 2 ∨ n < t ∨ 9 < n ∨ (cs.length : Int) ≠ t ∨ cs.getD 0 0 = 1
  · exact ofBad t n cs v w hv hl h
  · have e : t = cs.length := by omega
    subst e
    exact ofGood n cs v w hv hcb (by omega) (by omega) (by omega) (by omega)
end Go.Proofs.Ytpfpokjaeffbjab.Gof
namespace Go.Proofs.Ytpfpokjaeffbjab.Cpl
open Go.Proofs.Ytpfpokjaeffbjab.Pl
theorem pw_mul (a b : Int) (n : Nat) (m : Int) : pw (a * b % m) n m = pw a n m * pw b n m % m := by
  rw [pw_mod]; unfold pw; rw [Int.mul_pow, ← Int.mul_emod]
theorem lag_wt (ids : List Int) (k : Nat) (hb : ∀ i, i < ids.length → 1 ≤ ids.getD i 0 ∧ ids.getD i 0 ≤ 9) (hk : k < ids.length) (j : Nat) (hj : j ≤ ids.length) :
    lagUp ids k j * pw (lagDown ids k j) qm2 1073741789 % 1073741789 = wtS ids k j := by
  induction j with
  | zero =>
    show 1 * pw 1 qm2 1073741789 % 1073741789 = 1
    unfold pw
    rw [Int.one_pow]
    rfl
  | succ j ih =>
    by_cases hjk : j = k
    · subst hjk
      rw [lagUp_skip, lagDown_skip, wtS_skip]
      exact ih (by omega)
    · have hx := hb j (by omega)
      have hy := hb k hk
      have ih := ih (by omega)
      rw [lagUp_step _ hjk, lagDown_step _ hjk, wtS_step _ hjk, ← ih]
      have bu := lagUp_bd ids k j
      have bd := lagDown_bd ids k j
      generalize ids.getD j 0 = x at *
      generalize ids.getD k 0 = y at *
      generalize lagUp ids k j = u at *
      generalize lagDown ids k j = d at *
      have e1 : ssub (IntKind.u64.wrap x) (IntKind.u64.wrap y) = (x + 1073741789 - y) % 1073741789 := by
        unfold ssub
        simp only [IntKind.wrap_u64]
        omega
      rw [e1]
      generalize hbel : (x + 1073741789 - y) % 1073741789 = b
      have hb0 : 0 ≤ b ∧ b < 1073741789 := by omega
      rw [u64_id (by omega) (by omega), smul_eq bu.1 (by omega) (by omega) (by omega), smul_eq bd.1 (by omega) hb0.1 (by omega), pw_mul]
      generalize pw d qm2 1073741789 = p
      generalize pw b qm2 1073741789 = q
      generalize (1073741789 : Int) = m
      rw [emod_mul_right, emod_mul_left (u * x), emod_mul_left (u * p % m * x), Int.mul_assoc (u * p % m) x q, emod_mul_left (u * p) (x * q) m]
      congr 1
      ac_rfl
theorem lagrange_weight (ids : List Int) (k : Nat) (hb : ∀ i, i < ids.length → 1 ≤ ids.getD i 0 ∧ ids.getD i 0 ≤ 9) (hk : k < ids.length) : lagrange ids k = weight ids k := by
  have bu := lagUp_bd ids k ids.length
  have bp := pw_bd (lagDown ids k ids.length) qm2 (m := 1073741789) (by omega)
  unfold lagrange weight
  rw [smul_eq bu.1 (by omega) bp.1 (by omega), lag_wt ids k hb hk _ (Nat.le_refl _)]
end Go.Proofs.Ytpfpokjaeffbjab.Cpl
namespace Go.Proofs.Ytpfpokjaeffbjab.Mem
open Go.RowKit Go.Proofs.Ytpfpokjaeffbjab.Pl
structure Cm where
  id : Int
  d : Int
  e : Int
deriving Inhabited
def Cm.cells (c : Cm) : List Value := [.int .i64 c.id, .int .u64 c.d, .int .u64 c.e]
def comCells (l : List Cm) : List Value := l.flatMap Cm.cells
def Cm.zero : Cm := ⟨0, 0, 0⟩
theorem comCells_length (l : List Cm) : (comCells l).length = l.length * 3 := by
  induction l with
  | nil => rfl
  | cons c l ih =>
    show (Cm.cells c ++ comCells l).length = _
    rw [List.length_append, ih, List.length_cons]
    simp [Cm.cells]; omega
theorem comCells_at (l : List Cm) (i : Nat) (h : i < l.length) :
    (comCells l)[i * 3]? = some (.int .i64 (l.getD i .zero).id) ∧ (comCells l)[i * 3 + 1]? = some (.int .u64 (l.getD i .zero).d) ∧ (comCells l)[i * 3 + 2]? = some (.int .u64 (l.getD i .zero).e) := by
  induction l generalizing i with
  | nil => simp at h
  | cons c l ih =>
    have e : comCells (c :: l) = .int .i64 c.id :: .int .u64 c.d :: .int .u64 c.e :: comCells l := rfl
    rw [e]
    cases i with
    | zero => exact ⟨rfl, rfl, rfl⟩
    | succ i =>
      have := ih i (by simpa using h)
      have e1 : (i + 1) * 3 = i * 3 + 1 + 1 + 1 := by omega
      rw [e1, List.getD_cons_succ]
      simpa using this
theorem oneCell_coms (l : List Cm) : ∀ u ∈ comCells l, u.oneCell' = true := by
  intro u hu
  simp only [comCells, List.mem_flatMap] at hu
  obtain ⟨c, _, hu⟩ := hu
  simp only [Cm.cells, List.mem_cons, List.not_mem_nil, or_false] at hu
  rcases hu with rfl | rfl | rfl <;> rfl
def Coms (w : World) (B : Nat) (v : Value) (l : List Cm) : Prop := Row w B 3 v l.length (comCells l)
theorem Coms.later {w w' : World} {v : Value} {l : List Cm} (h : Coms w w.heap.size v l) (hb : Below w.heap.size w w') : Coms w' w'.heap.size v l := Row.later h hb
theorem Coms.below {w w' : World} {B : Nat} {v : Value} {l : List Cm} (h : Coms w B v l) (hb : Below B w w') : Coms w' B v l := Row.below h hb
theorem Coms.more {w : World} {B B' : Nat} {v : Value} {l : List Cm} (h : Coms w B v l) (hb : B ≤ B') : Coms w B' v l := Row.more h hb
theorem Coms.own {w : World} {base : Nat} {e : TypeId} {v : Value} {l : List Cm} (h : w.ownsRow base e 3 v l.length (comCells l)) : Coms w w.heap.size v l := Row.own h
theorem Coms.shape {w : World} {B : Nat} {v : Value} {l : List Cm} (h : Coms w B v l) : ∃ A c, v = .slice A l.length c := by
  obtain ⟨_, A, c, rfl, _⟩ := h
  exact ⟨A, c, rfl⟩
theorem Coms.at_ {w : World} {B : Nat} {A : Option Addr} {n c : Nat} {l : List Cm} (h : Coms w B (.slice A n c) l) (hp : 0 < l.length) :
    ∃ b off, A = some ⟨b, off, none⟩ ∧ b < B ∧ ∀ i, i < l.length → w.cell? ⟨b, off + i * 3, none⟩ = some (.int .i64 (l.getD i .zero).id) ∧
      w.cell? ⟨b, off + i * 3 + 1, none⟩ = some (.int .u64 (l.getD i .zero).d) ∧ w.cell? ⟨b, off + i * 3 + 2, none⟩ = some (.int .u64 (l.getD i .zero).e) := by
  obtain ⟨_, A', c', hv, _, h⟩ := h
  obtain ⟨b, off, hA, hB, h⟩ := h hp
  have : A = A' := by injection hv
  refine ⟨b, off, by rw [this, hA], hB, fun i hi => ?_⟩
  obtain ⟨h1, h2, h3⟩ := comCells_at l i hi
  exact ⟨h _ _ h1, by rw [Nat.add_assoc]; exact h _ _ h2, by rw [Nat.add_assoc]; exact h _ _ h3⟩
end Go.Proofs.Ytpfpokjaeffbjab.Mem
namespace Go.Proofs.Ytpfpokjaeffbjab.Kpl
open Go.RowKit Go.Proofs.Ytpfpokjaeffbjab.Pl Go.Proofs.Ytpfpokjaeffbjab.Dpl Go.Proofs.Ytpfpokjaeffbjab.Gpl Go.Proofs.Ytpfpokjaeffbjab.Mem
def riseAt (n : Int) (l : List Cm) (k : Nat) : Int :=
  if (l.getD k .zero).id < 1 ∨ n < (l.getD k .zero).id then 5 else if 0 < k ∧ (l.getD k .zero).id ≤ (l.getD (k - 1) .zero).id then 6 else 0
def riseErr (n : Int) (l : List Cm) : Nat → Int
  | 0 => 0
  | k + 1 => if riseErr n l k = 0 then riseAt n l k else riseErr n l k
def ncsTo (l : List Cm) : Nat → Bool
  | 0 => true
  | k + 1 => ncsTo l k && (isNc (l.getD k .zero).d && isNc (l.getD k .zero).e)
def pkE (t n : Int) (l : List Cm) : Int :=
  if (l.length : Int) < t ∨ n < (l.length : Int) then 7 else if riseErr n l l.length ≠ 0 then riseErr n l l.length else if ncsTo l l.length = true then 0 else 3
theorem riseErr_stays (n : Int) (l : List Cm) {j k : Nat} (h : j ≤ k) (hj : riseErr n l j ≠ 0) : riseErr n l k = riseErr n l j := by
  induction k with
  | zero => obtain rfl : j = 0 := by omega
            rfl
  | succ k ih =>
    rcases Nat.lt_or_ge k j with hlt | hge
    · obtain rfl : j = k + 1 := by omega
      rfl
    · rw [riseErr, ih hge, if_neg hj]
theorem riseErr_le (n : Int) (l : List Cm) {j k : Nat} (h : j ≤ k) (hk : riseErr n l k = 0) : riseErr n l j = 0 := by
  by_cases h0 : riseErr n l j = 0
  · exact h0
  · rw [riseErr_stays n l h h0] at hk; exact absurd hk h0
theorem riseErr_at (n : Int) (l : List Cm) {k m : Nat} {x : Int} (hk : k < m) (h0 : riseErr n l k = 0) (hx : riseAt n l k = x) (hn : x ≠ 0) : riseErr n l m = x := by
  rw [riseErr_stays n l (j := k + 1) (by omega) (by rw [riseErr, if_pos h0, hx]; exact hn), riseErr, if_pos h0, hx]
theorem riseErr_step {n : Int} {l : List Cm} {k : Nat} (h0 : riseErr n l k = 0) (hx : riseAt n l k = 0) : riseErr n l (k + 1) = 0 := by rw [riseErr, if_pos h0, hx]
theorem riseErr_good {n : Int} {l : List Cm} {k m : Nat} (h : riseErr n l m = 0) (hk : k < m) : riseAt n l k = 0 := by
  have h1 := riseErr_le n l (j := k + 1) (by omega) h
  have h2 := riseErr_le n l (j := k) (by omega) h
  rw [riseErr, if_pos h2] at h1
  exact h1
theorem riseAt_good {n : Int} {l : List Cm} {k : Nat} (h : riseAt n l k = 0) : 1 ≤ (l.getD k .zero).id ∧ (l.getD k .zero).id ≤ n ∧ (0 < k → (l.getD (k - 1) .zero).id < (l.getD k .zero).id) := by
  unfold riseAt at h
  by_cases h1 : (l.getD k .zero).id < 1 ∨ n < (l.getD k .zero).id
  · rw [if_pos h1] at h; omega
  rw [if_neg h1] at h
  by_cases h2 : 0 < k ∧ (l.getD k .zero).id ≤ (l.getD (k - 1) .zero).id
  · rw [if_pos h2] at h; omega
  exact ⟨by omega, by omega, fun h0 => by
    have : ¬ (l.getD k .zero).id ≤ (l.getD (k - 1) .zero).id := fun h => h2 ⟨h0, h⟩
    omega⟩
theorem ncsTo_le (l : List Cm) {j k : Nat} (h : j ≤ k) (hk : ncsTo l k = true) : ncsTo l j = true := by
  induction k with
  | zero => obtain rfl : j = 0 := by omega
            exact hk
  | succ k ih =>
    rw [ncsTo, Bool.and_eq_true] at hk
    rcases Nat.lt_or_ge k j with hj | hj
    · obtain rfl : j = k + 1 := by omega
      rw [ncsTo, Bool.and_eq_true]; exact hk
    · exact ih hj hk.1
theorem ncsTo_at (l : List Cm) {j k : Nat} (h : j < k) (hk : ncsTo l k = true) : isNc (l.getD j .zero).d = true ∧ isNc (l.getD j .zero).e = true := by
  have h1 := ncsTo_le l (j := j + 1) (by omega) hk
  rw [ncsTo, Bool.and_eq_true, Bool.and_eq_true] at h1
  exact h1.2
theorem ncsTo_step (l : List Cm) {k : Nat} (hk : ncsTo l k = true) (h1 : isNc (l.getD k .zero).d = true) (h2 : isNc (l.getD k .zero).e = true) : ncsTo l (k + 1) = true := by
  rw [ncsTo, hk, h1, h2]; rfl
theorem ncsTo_bad (l : List Cm) {j k : Nat} (h : j < k) (hj : isNc (l.getD j .zero).d = false ∨ isNc (l.getD j .zero).e = false) : ncsTo l k = false := by
  cases hk : ncsTo l k with
  | false => rfl
  | true =>
    obtain ⟨h1, h2⟩ := ncsTo_at l h hk
    rcases hj with hj | hj
    · rw [h1] at hj; cases hj
    · rw [h2] at hj; cases hj
theorem pkE_few {t n : Int} {l : List Cm} (h : (l.length : Int) < t ∨ n < (l.length : Int)) : pkE t n l = 7 := by unfold pkE; rw [if_pos h]
theorem pkE_rise {t n : Int} {l : List Cm} (h : ¬ ((l.length : Int) < t ∨ n < (l.length : Int))) (h2 : riseErr n l l.length ≠ 0) : pkE t n l = riseErr n l l.length := by unfold pkE; rw [if_neg h, if_pos h2]
theorem pkE_nc {t n : Int} {l : List Cm} (h : ¬ ((l.length : Int) < t ∨ n < (l.length : Int))) (h2 : riseErr n l l.length = 0) (h3 : ncsTo l l.length = false) : pkE t n l = 3 := by
  unfold pkE; rw [if_neg h, if_neg (fun h' => h' h2), if_neg (by rw [h3]; simp)]
theorem pkE_ok {t n : Int} {l : List Cm} (h : ¬ ((l.length : Int) < t ∨ n < (l.length : Int))) (h2 : riseErr n l l.length = 0) (h3 : ncsTo l l.length = true) : pkE t n l = 0 := by
  unfold pkE; rw [if_neg h, if_neg (fun h' => h' h2), if_pos h3]
theorem pkE_spec {t n : Int} {l : List Cm} (h : pkE t n l = 0) : t ≤ (l.length : Int) ∧ (l.length : Int) ≤ n ∧ riseErr n l l.length = 0 ∧ ncsTo l l.length = true := by
  unfold pkE at h
  by_cases h1 : (l.length : Int) < t ∨ n < (l.length : Int)
  · rw [if_pos h1] at h; omega
  rw [if_neg h1] at h
  by_cases h2 : riseErr n l l.length ≠ 0
  · rw [if_pos h2] at h; exact absurd h h2
  rw [if_neg h2] at h
  by_cases h3 : ncsTo l l.length = true
  · exact ⟨by omega, by omega, by omega, h3⟩
  · rw [if_neg h3] at h; omega
def Good (n : Int) (l : List Cm) : Prop := ∀ k, k < l.length → (1 ≤ (l.getD k .zero).id ∧ (l.getD k .zero).id ≤ n) ∧ (0 < k → (l.getD (k - 1) .zero).id < (l.getD k .zero).id) ∧
  (0 < (l.getD k .zero).d ∧ (l.getD k .zero).d < 2147483579) ∧ (0 < (l.getD k .zero).e ∧ (l.getD k .zero).e < 2147483579)
theorem isNc_bd {x : Int} (h : isNc x = true) : 0 < x ∧ x < 2147483579 := by
  unfold isNc isEl at h
  rw [Bool.and_eq_true, decide_eq_true_iff] at h
  exact ⟨h.1.1, h.1.2.1⟩
theorem good_of {t n : Int} {l : List Cm} (h : pkE t n l = 0) : Good n l := by
  obtain ⟨_, _, h3, h4⟩ := pkE_spec h
  intro k hk
  have h5 := riseAt_good (riseErr_good h3 hk)
  have h6 := ncsTo_at l hk h4
  exact ⟨⟨h5.1, h5.2.1⟩, h5.2.2, isNc_bd h6.1, isNc_bd h6.2⟩
def flat (l : List Cm) : Nat → List Int
  | 0 => []
  | k + 1 => flat l k ++ [(l.getD k .zero).id, (l.getD k .zero).d, (l.getD k .zero).e]
theorem flat_length (l : List Cm) (k : Nat) : (flat l k).length = 3 * k := by
  induction k with
  | zero => rfl
  | succ k ih => rw [flat, List.length_append, ih]; simp; omega
def bindNums (l : List Cm) (key : Int) (k j : Nat) : List Int := [(l.getD k .zero).id, key] ++ flat l j
theorem bindNums_length (l : List Cm) (key : Int) (k j : Nat) : (bindNums l key k j).length = 2 + 3 * j := by
  rw [bindNums, List.length_append, flat_length]; simp
theorem bindNums_step (l : List Cm) (key : Int) (k j : Nat) : bindNums l key k (j + 1) = bindNums l key k j ++ [(l.getD j .zero).id, (l.getD j .zero).d, (l.getD j .zero).e] := by
  rw [bindNums, flat, bindNums, List.append_assoc]
theorem flat_bd {n : Int} {l : List Cm} (hg : Good n l) (hn : n ≤ 9) (j : Nat) (hj : j ≤ l.length) : ∀ x ∈ flat l j, 0 ≤ x ∧ x < 18446744073709551616 := by
  induction j with
  | zero => intro x hx; cases hx
  | succ j ih =>
    intro x hx
    have h := hg j (by omega)
    rw [flat] at hx
    rcases List.mem_append.1 hx with h1 | h1
    · exact ih (by omega) x h1
    · simp only [List.mem_cons, List.not_mem_nil, or_false] at h1
      rcases h1 with rfl | rfl | rfl
      · omega
      · omega
      · omega
theorem bindNums_bd {n : Int} {l : List Cm} (hg : Good n l) (hn : n ≤ 9) {key : Int} (hk : 0 ≤ key ∧ key < 18446744073709551616) {k : Nat} (h : k < l.length) :
    ∀ i, i < (bindNums l key k l.length).length → 0 ≤ (bindNums l key k l.length).getD i 0 ∧ (bindNums l key k l.length).getD i 0 < 18446744073709551616 := by
  intro i hi
  have hm : (bindNums l key k l.length).getD i 0 ∈ bindNums l key k l.length := by
    rw [List.getD_eq_getElem?_getD, List.getElem?_eq_getElem hi]
    exact List.getElem_mem hi
  generalize (bindNums l key k l.length).getD i 0 = x at hm
  rw [bindNums] at hm
  rcases List.mem_append.1 hm with h1 | h1
  · simp only [List.mem_cons, List.not_mem_nil, or_false] at h1
    have := hg k h
    rcases h1 with rfl | rfl
    · omega
    · exact hk
  · exact flat_bd hg hn _ (Nat.le_refl _) x h1
def bindP (l : List Cm) (key : Int) (msg : ByteArray) (k : Nat) : Int := hashI 1 msg (bindNums l key k l.length)
theorem bindP_bd (l : List Cm) (key : Int) (msg : ByteArray) (k : Nat) : 0 ≤ bindP l key msg k ∧ bindP l key msg k < 1073741789 := hashI_bd _ _ _
def partP (l : List Cm) (key : Int) (msg : ByteArray) (k : Nat) : Int := emul (l.getD k .zero).d (pw (l.getD k .zero).e (bindP l key msg k).toNat 2147483579)
theorem partP_bd (l : List Cm) (key : Int) (msg : ByteArray) (k : Nat) : 0 ≤ partP l key msg k ∧ partP l key msg k < 2147483579 := emul_bd _ _
def partsP (l : List Cm) (key : Int) (msg : ByteArray) (k : Nat) : List Int := (List.range k).map (partP l key msg)
theorem partsP_length (l : List Cm) (key : Int) (msg : ByteArray) (k : Nat) : (partsP l key msg k).length = k := by simp [partsP]
theorem partsP_step (l : List Cm) (key : Int) (msg : ByteArray) (k : Nat) : partsP l key msg (k + 1) = partsP l key msg k ++ [partP l key msg k] := by simp [partsP, List.range_succ]
theorem partsP_at (l : List Cm) (key : Int) (msg : ByteArray) {k i : Nat} (h : i < k) : (partsP l key msg k).getD i 0 = partP l key msg i := by
  unfold partsP
  rw [List.getD_eq_getElem?_getD, List.getElem?_map, List.getElem?_range h]
  rfl
def allR (l : List Cm) (key : Int) (msg : ByteArray) : Nat → Int
  | 0 => 1
  | k + 1 => emul (allR l key msg k) (partP l key msg k)
def allP (l : List Cm) (key : Int) (msg : ByteArray) : Int := prodE 1 (partsP l key msg l.length) l.length
theorem allR_prod (l : List Cm) (key : Int) (msg : ByteArray) (n k : Nat) (h : k ≤ n) : prodE 1 (partsP l key msg n) k = allR l key msg k := by
  induction k with
  | zero => rfl
  | succ k ih => rw [prodE, ih (by omega), partsP_at l key msg (by omega), allR]
theorem allP_eq (l : List Cm) (key : Int) (msg : ByteArray) : allP l key msg = allR l key msg l.length := allR_prod _ _ _ _ _ (Nat.le_refl _)
theorem allR_bd (l : List Cm) (key : Int) (msg : ByteArray) (k : Nat) : 0 ≤ allR l key msg k ∧ allR l key msg k < 2147483579 := by
  cases k with
  | zero => unfold allR; omega
  | succ k => exact emul_bd _ _
def idsOf (l : List Cm) (k : Nat) : List Int := (List.range k).map fun i => (l.getD i .zero).id
theorem idsOf_length (l : List Cm) (k : Nat) : (idsOf l k).length = k := by simp [idsOf]
theorem idsOf_step (l : List Cm) (k : Nat) : idsOf l (k + 1) = idsOf l k ++ [(l.getD k .zero).id] := by simp [idsOf, List.range_succ]
theorem idsOf_at (l : List Cm) {k i : Nat} (h : i < k) : (idsOf l k).getD i 0 = (l.getD i .zero).id := by
  unfold idsOf
  rw [List.getD_eq_getElem?_getD, List.getElem?_map, List.getElem?_range h]
  rfl
def signP (d e b w s c : Int) : Int := sadd (sadd d (smul e b)) (smul (smul w s) c)
def signR (d e b w s c : Int) : Int := (d + e * b + w * s % 1073741789 * c % 1073741789) % 1073741789
end Go.Proofs.Ytpfpokjaeffbjab.Kpl
namespace Go.Proofs.Ytpfpokjaeffbjab.Pkg
open Go.RowKit Go.Proofs.Ytpfpokjaeffbjab.Pl Go.Proofs.Ytpfpokjaeffbjab.Dpl Go.Proofs.Ytpfpokjaeffbjab.Gpl Go.Proofs.Ytpfpokjaeffbjab.Kpl Go.Proofs.Ytpfpokjaeffbjab.Fld Go.Proofs.Ytpfpokjaeffbjab.Mem Go.Proofs.Ytpfpokjaeffbjab.Ver Go.Proofs.Ytpfpokjaeffbjab.Grp Go.Proofs.Ytpfpokjaeffbjab.Gof
set_option linter.unusedVariables false
section
variable {P : Program} (w : World)
theorem run_copy_all (dT sT ty e : TypeId) (i : TypeInfo) (size : Nat) (hu : P.underlying dT = some (.slice e)) (hi : P.info? e = some i) (hsz : i.size = size)
    (g n dc : Nat) (cur : Array Value) (hg : Blk w g e cur) (hcur : cur.size = n * size) (B : Nat) (u : Value) (xs : List Value) (hr : Row w B size u n xs) (h1 : ∀ u ∈ xs, u.oneCell' = true) :
    (Builtin.copy_ #[dT, sT] ty #[.slice (some ⟨g, 0, none⟩) n dc, u]).run P w = .ok (goInt n) (w.setRow g xs.toArray) := by
  obtain ⟨hl, A, c, rfl, hc, hr⟩ := hr
  subst hsz
  rcases A with _ | ad
  · have hn : n = 0 := by
      rcases Nat.eq_zero_or_pos n with h0 | h0
      · exact h0
      · obtain ⟨b, off, h, _⟩ := hr h0
        cases h
    subst hn
    have hxs : xs = [] := List.eq_nil_of_length_eq_zero (by simpa using hl)
    subst hxs
    have hce : cur = #[] := Array.eq_empty_of_size_eq_zero (by simpa using hcur)
    subst hce
    have hs := setRow_self w g #[] e (0, 0) hg
    simp [Builtin.copy_, run_underlying hu, Builtin.lenOf, Builtin.firstCells, sizeOf, typeInfo, hi, storeCells, hs]
  · have hcells : ∀ j u, xs[j]? = some u → w.cell? (ad.add j) = some u := by
      intro j u hju
      rcases Nat.eq_zero_or_pos n with h0 | h0
      · subst h0
        have hn : xs = [] := List.eq_nil_of_length_eq_zero (by simpa using hl)
        subst hn
        simp at hju
      · obtain ⟨b, off, h, _, hcell⟩ := hr h0
        injection h with h
        subst h
        rw [add_zero_off]
        exact hcell j u hju
    have hf := run_firstCells_some (P := P) w i.size n ad n c xs hl hcells
    have hst := run_storeCells_at P g 0 e xs 0 cur w hg (by rw [hcur, hl]; omega) h1
    have e1 : cur.toList.take (0 + 0) ++ xs ++ cur.toList.drop (0 + 0 + xs.length) = xs := by
      rw [List.drop_of_length_le (by rw [Array.length_toList, hcur, hl]; omega)]
      simp
    rw [e1] at hst
    simp [Builtin.copy_, run_underlying hu, Builtin.lenOf, sizeOf, typeInfo, hi, hf, hst]
end
theorem blk_setRow {w : World} {g : Nat} {t : TypeId} {cs : Array Value} (h : Blk w g t cs) (cs2 : Array Value) : Blk (w.setRow g cs2) g t cs2 := setRow_heap w g cs cs2 t (0, 0) h
structure Pk (w : World) (p g : Nat) (vc lv : Value) (t n : Int) (cs : List Int) (l : List Cm) (msg : ByteArray) (base : Nat) : Prop where
  pk : Blk w p 146 #[.pointer (some ⟨g, 0, none⟩), lv, .string msg]
  coms : Coms w w.heap.size lv l
  grp : GrpAt w g t n vc 0 0 cs 1
  own : OwnCs w base vc cs
theorem Pk.later {w w' : World} {p g : Nat} {vc lv : Value} {t n : Int} {cs : List Int} {l : List Cm} {msg : ByteArray} {base : Nat} (h : Pk w p g vc lv t n cs l msg base) (hb : Below w.heap.size w w') : Pk w' p g vc lv t n cs l msg base :=
  ⟨h.pk.below hb h.pk.lt, h.coms.later hb, h.grp.below hb h.grp.lt, own_below h.own hb (Nat.le_refl _)⟩
theorem Pk.cells {w : World} {p g : Nat} {vc lv : Value} {t n : Int} {cs : List Int} {l : List Cm} {msg : ByteArray} {base : Nat} (h : Pk w p g vc lv t n cs l msg base) :
    w.cell? ⟨p, 0, none⟩ = some (.pointer (some ⟨g, 0, none⟩)) ∧ w.cell? ⟨p, 1, none⟩ = some lv ∧ w.cell? ⟨p, 2, none⟩ = some (.string msg) := ⟨h.pk.cell 0, h.pk.cell 1, h.pk.cell 2⟩
section
variable {w : World} {p g : Nat} {vc lv : Value} {t n : Int} {cs : List Int} {l : List Cm} {msg : ByteArray} {base : Nat}
set_option maxRecDepth 100000 in
set_option maxHeartbeats 2000000 in
theorem manyC (h : Pk w p g vc lv t n cs l msg base) (hl : l.length ≤ 65536) (x : Int) (hx : x = if (l.length : Int) < t ∨ n < (l.length : Int) then 7 else 0) :
    Calls Try.prog 73 #[.pointer (some ⟨p, 0, none⟩)] w fun e w' => e = .returned (.int .i64 x) ∧ Below w.heap.size w w' := by
  obtain ⟨p0, p1, p2⟩ := h.cells
  obtain ⟨g0, g1, g2, g3, g4⟩ := h.grp.cells
  obtain ⟨A, c, rfl⟩ := h.coms.shape
  have HX := Lib.hid hx
  clear hx h
  by_cases h1 : (l.length : Int) < t
  · have hx2 : Hid (x = 7) := by
      show x = 7
      rw [HX.out, if_pos (.inl h1)]
    go_enter Try.func73, Try.ntmps73
    go_wp2_with fail
    go_quiet (fail)
    go_wp2_with fail
    go_ret
    exact ⟨by rw [hx2.out]; rfl, below_drewN (Below.refl _ _) _⟩
  by_cases h2 : n < (l.length : Int)
  · have hx2 : Hid (x = 7) := by
      show x = 7
      rw [HX.out, if_pos (.inr h2)]
    go_enter Try.func73, Try.ntmps73
    go_wp2_with fail
    go_quiet (fail)
    go_wp2_with fail
    go_ret
    exact ⟨by rw [hx2.out]; rfl, below_drewN (Below.refl _ _) _⟩
  have hx2 : Hid (x = 0) := by
    show x = 0
    rw [HX.out, if_neg (by omega)]
  go_enter Try.func73, Try.ntmps73
  go_wp2_with fail
  go_quiet (fail)
  go_wp2_with fail
  go_ret
  exact ⟨by rw [hx2.out]; rfl, below_drewN (Below.refl _ _) _⟩
set_option maxRecDepth 100000 in
set_option maxHeartbeats 4000000 in
theorem risingC (h : Pk w p g vc lv t n cs l msg base) (hl : l.length ≤ 65536) :
    Calls Try.prog 74 #[.pointer (some ⟨p, 0, none⟩)] w fun e w' => e = .returned (.int .i64 (riseErr n l l.length)) ∧ Below w.heap.size w w' := by
  obtain ⟨A, c, rfl⟩ := h.coms.shape
  have H := Lib.hid h
  obtain ⟨p0, p1, p2⟩ := h.cells
  clear h
  go_enter Try.func74, Try.ntmps74
  go_wp2_with fail
  go_loopw [10] (fun i wr => ∃ k : Nat, k ≤ l.length ∧ i = .int .i64 k ∧ riseErr n l k = 0 ∧ Below w.heap.size w wr) (fun i _ => l.length - (intOf i).toNat)
  case atStart => exact ⟨0, by omega, rfl, rfl, Below.refl _ _⟩
  case round =>
    obtain ⟨k, hk, rfl, he, hbw⟩ := hrel
    have HE := Lib.hid he
    clear he p0 p1 p2
    by_cases hlt : k < l.length
    · obtain ⟨b, off, rfl, hb, hc⟩ := H.out.coms.at_ (by omega)
      have HW := H.out.later hbw
      obtain ⟨q0, q1, q2⟩ := HW.cells
      obtain ⟨g0, g1, g2, g3, g4⟩ := HW.grp.cells
      obtain ⟨x0, x1, x2⟩ := hc k hlt
      replace x0 := (hbw.cell (p := ⟨b, off + k * 3, none⟩) hb).trans x0
      replace x1 := (hbw.cell (p := ⟨b, off + k * 3 + 1, none⟩) hb).trans x1
      replace x2 := (hbw.cell (p := ⟨b, off + k * 3 + 2, none⟩) hb).trans x2
      have hpr : 0 < k → wr.cell? ⟨b, off + (k - 1) * 3, none⟩ = some (.int .i64 (l.getD (k - 1) .zero).id) := fun h0 => (hbw.cell (p := ⟨b, off + (k - 1) * 3, none⟩) hb).trans (hc (k - 1) (by omega)).1
      have hpl := HW.pk.lt
      have hgl := HW.grp.lt
      have hbl : b < wr.heap.size := by have := hbw.size; omega
      have eAt : Hid (riseAt n l k = if (l.getD k .zero).id < 1 ∨ n < (l.getD k .zero).id then 5 else if 0 < k ∧ (l.getD k .zero).id ≤ (l.getD (k - 1) .zero).id then 6 else 0) := by
        show riseAt n l k = _
        rfl
      have hfin : ∀ x, riseAt n l k = x → x ≠ 0 → Hid (riseErr n l l.length = x) := fun x hx hn => riseErr_at n l hlt HE.out hx hn
      have hstep : riseAt n l k = 0 → Hid (riseErr n l (k + 1) = 0) := fun hx => riseErr_step HE.out hx
      have FIN := Lib.hid hfin
      have STEP := Lib.hid hstep
      have hbox := below_box wr (.cells #[.int .i64 (l.getD k .zero).id, .int .u64 (l.getD k .zero).d, .int .u64 (l.getD k .zero).e] 37)
      have hbb := Lib.hid (hbw.trans (hbox.mono hbw.size))
      clear hc hfin hstep HW hbw hbox
      generalize (l.getD k .zero).id = X at *
      generalize (l.getD k .zero).d = D at *
      generalize (l.getD k .zero).e = E at *
      generalize (l.getD (k - 1) .zero).id = Y at *
      by_cases d1 : X < 1
      case pos =>
        have hF := FIN.out 5 (by rw [eAt.out, if_pos (.inl d1)]) (by omega)
        go_wp2_with fail
        go_quiet (fail)
        go_wp2_with fail
        go_ret
        exact ⟨by rw [hF.out]; rfl, below_drewN hbb.out _⟩
      by_cases d2 : n < X
      case pos =>
        have hF := FIN.out 5 (by rw [eAt.out, if_pos (.inr d2)]) (by omega)
        go_wp2_with fail
        go_quiet (fail)
        go_wp2_with fail
        go_ret
        exact ⟨by rw [hF.out]; rfl, below_drewN hbb.out _⟩
      have e2 : riseAt n l k = if 0 < k ∧ X ≤ Y then 6 else 0 := by rw [eAt.out, if_neg (by omega)]
      by_cases d3 : 0 < k
      case neg =>
        have d3' : ¬ (0 : Int) < (k : Int) := by omega
        have hS := STEP.out (by rw [e2, if_neg (fun h => d3 h.1)])
        clear e2
        go_wp2_with fail
        go_quiet (fail)
        go_wp2_with fail
        go_quiet (fail)
        go_wp2_with fail
        refine ⟨⟨k + 1, by omega, by go_num, hS.out, ?_⟩, by simp [intOf]; omega⟩
        first | exact below_drewN hbb.out _ | exact below_drewN (below_drewN hbb.out _) _
      have d3' : (0 : Int) < (k : Int) := by omega
      have y0 := hpr d3
      obtain ⟨j, rfl⟩ : ∃ j, k = j + 1 := ⟨k - 1, by omega⟩
      rw [Nat.add_sub_cancel] at y0
      have s1 : IntKind.i64.wrap (((j + 1 : Nat) : Int) - 1) = (j : Int) := by rw [IntKind.wrap_i64]; omega
      have s2 : IntKind.i64.wrap ((j : Int) + 1 - 1) = (j : Int) := by rw [IntKind.wrap_i64]; omega
      have s3 : IntKind.i64.wrap (j : Int) = (j : Int) := by rw [IntKind.wrap_i64]; omega
      have s4 : (j : Int) < (l.length : Int) := by omega
      have s5 : (0 : Int) ≤ (j : Int) := by omega
      clear hpr
      by_cases d4 : X ≤ Y
      case pos =>
        have hF := FIN.out 6 (by rw [e2, if_pos ⟨d3, d4⟩]) (by omega)
        clear e2
        go_wp2_with fail
        go_quiet (fail)
        go_wp2_with fail
        go_quiet (fail)
        go_wp2_with fail
        go_ret
        exact ⟨by rw [hF.out]; rfl, by first | exact below_drewN hbb.out _ | exact below_drewN (below_drewN hbb.out _) _⟩
      have hS := STEP.out (by rw [e2, if_neg (fun h => d4 h.2)])
      clear e2
      go_wp2_with fail
      go_quiet (fail)
      go_wp2_with fail
      go_quiet (fail)
      go_wp2_with fail
      refine ⟨⟨j + 1 + 1, by omega, by go_num, hS.out, ?_⟩, by simp [intOf]; omega⟩
      first | exact below_drewN hbb.out _ | exact below_drewN (below_drewN hbb.out _) _
    · obtain rfl : k = l.length := by omega
      go_wp2_with fail
      go_ret
      exact ⟨by rw [HE.out]; rfl, hbw⟩
end
end Go.Proofs.Ytpfpokjaeffbjab.Pkg
