/- Part of the proof: Leave, RefPackage, RefPackageNums, Check, RefCheck. -/
import Derived.Test.YtpfpokjaeffbjabGa17
import Derived.Conc.LeavingOf
import Derived.Conc.HoldsTime
import Derived.Lib.SmallJoins
import Derived.OpenShut
import Derived.Test.YtpfpokjaeffbjabGa19
import Derived.Test.YtpfpokjaeffbjabGa18
import Derived.Deep.RegionHeld3
import Derived.Deep.RegionLaw
import Derived.BigQuiet
namespace Go.Proofs.Ytpfpokjaeffbjab.Lev
open Go.RowKit Go.Conc Go.Proofs.Ytpfpokjaeffbjab.Pl Go.Proofs.Ytpfpokjaeffbjab.Mem
section
variable {H : Type} {enc : TypeId × Value → H}
end
def IsRow (k : IntKind) (w : World) (a : Option Addr) (len cap : Nat) (zs : List Int) : Prop :=
  (a = none ∧ len = 0 ∧ cap = 0 ∧ zs = []) ∨
  ∃ x, a = some x ∧ len ≤ cap ∧ cap ≤ maxLen ∧ zs.length = cap ∧ (∀ i, i < zs.length → w.cell? (x.add i) = some (.int k (zs.getD i 0))) ∧ ∀ n ∈ zs, (Lit.int k n).wf = true
theorem cell_plain {w : World} {x : Addr} {v : Value} (h : w.cell? x = some v) : x.spot = none := by
  unfold World.cell? at h
  split at h
  · split at h
    · cases h
    · rename_i hs
      cases hx : x.spot with
      | none => rfl
      | some n => rw [hx] at hs; simp at hs
  · cases h
theorem add_plain (b off : Nat) (i : Nat) : (⟨b, off, none⟩ : Addr).add i = ⟨b, off + i, none⟩ := by
  unfold Addr.add
  split
  · rename_i h; subst h; rfl
  · rfl
theorem IsRow.nums {k : IntKind} {w : World} {a : Option Addr} {len cap : Nat} {zs : List Int} (h : IsRow k w a len cap zs) :
    Nums k w w.heap.size (.slice a len cap) (zs.take len) ∧ (zs.take len).length = len ∧ ∀ n ∈ zs.take len, (Lit.int k n).wf = true := by
  rcases h with ⟨rfl, rfl, rfl, rfl⟩ | ⟨x, rfl, hl, hm, hz, hcell, hwf⟩
  · exact ⟨⟨none, 0, by simp, by simp, fun h => absurd h (by simp)⟩, rfl, by simp⟩
  · have hlen : (zs.take len).length = len := by rw [List.length_take]; omega
    refine ⟨⟨some x, cap, by rw [hlen], by omega, fun hp => ?_⟩, hlen, fun n hn => hwf n (List.mem_of_mem_take hn)⟩
    rw [hlen] at hp
    have h0 := hcell 0 (by omega)
    rw [show x.add 0 = x from by simp [Addr.add]] at h0
    obtain ⟨b, off, spot⟩ := x
    obtain rfl : spot = none := cell_plain h0
    refine ⟨b, off, rfl, World.block_lt_of_cell? w _ h0, fun i hi => ?_⟩
    rw [hlen] at hi
    have h1 := hcell i (by omega)
    rw [add_plain] at h1
    rw [h1, List.getD_eq_getElem?_getD, List.getD_eq_getElem?_getD, List.getElem?_take, if_pos hi]
theorem IsRow.len {k : IntKind} {w : World} {a : Option Addr} {len cap : Nat} {zs : List Int} (h : IsRow k w a len cap zs) : len ≤ 9223372036854775807 := by
  rcases h with ⟨_, rfl, _⟩ | ⟨x, _, hl, hm, _⟩
  · omega
  · unfold maxLen at hm; omega
theorem nums_shape {k : IntKind} {w : World} {B : Nat} {v : Value} {l : List Int} (h : Nums k w B v l) : ∃ A c, v = .slice A l.length c := by
  obtain ⟨A, c, rfl, _⟩ := h
  exact ⟨A, c, rfl⟩
theorem wf_u64 {n : Int} (h : (Lit.int .u64 n).wf = true) : 0 ≤ n ∧ n < 18446744073709551616 := by
  have := bounds_u64 h; omega
theorem wf_i64 {n : Int} (h : (Lit.int .i64 n).wf = true) : -9223372036854775808 ≤ n ∧ n ≤ 9223372036854775807 := bounds_i64 h
theorem getD_wf {k : IntKind} {l : List Int} (h : ∀ n ∈ l, (Lit.int k n).wf = true) {i : Nat} (hi : i < l.length) : (Lit.int k (l.getD i 0)).wf = true := by
  rw [List.getD_eq_getElem?_getD, List.getElem?_eq_getElem hi]
  exact h _ (List.getElem_mem hi)
end Go.Proofs.Ytpfpokjaeffbjab.Lev
namespace Go.Proofs.Ytpfpokjaeffbjab.Rkg
open Go.RowKit Go.Proofs.Ytpfpokjaeffbjab.Pl Go.Proofs.Ytpfpokjaeffbjab.Dpl Go.Proofs.Ytpfpokjaeffbjab.Gpl Go.Proofs.Ytpfpokjaeffbjab.Kpl Go.Proofs.Ytpfpokjaeffbjab.Fld Go.Proofs.Ytpfpokjaeffbjab.Mem Go.Proofs.Ytpfpokjaeffbjab.Ver Go.Proofs.Ytpfpokjaeffbjab.Sls Go.Proofs.Ytpfpokjaeffbjab.Rhs Go.Proofs.Ytpfpokjaeffbjab.Grp
set_option linter.unusedVariables false
attribute [local go_sem ↓] Go.wp_at_zero Go.wp_at_succ
theorem info_int' : (Try.prog.info? 3).map (fun i => (i.zero, i.size, i.bytes)) = some (some (.int .i64 0), 1, 8) := by kernel_rfl
theorem info_u64' : (Try.prog.info? 25).map (fun i => (i.zero, i.size, i.bytes)) = some (some (.int .u64 0), 1, 8) := by kernel_rfl
theorem refNcIs (b : Bool) (n : Int) (w : World) (h0 : 0 ≤ n) (h : isNc n = b) :
    Calls Try.prog 100 #[.int .u64 n] w fun e w' => e = .returned (.bool b) ∧ w = w' := by
  subst h; exact refNonce n w h0
theorem blk_new' {w : World} {g : Nat} (t : TypeId) (cs : Array Value) (h : w.heap.size = g) : Blk (w.alloc (.cells cs t)) g t cs := h ▸ Blk.new w t cs
structure RPk (w : World) (p : Nat) (vc lv vi : Value) (t n : Int) (cs : List Int) (l : List Cm) (msg : ByteArray) : Prop where
  pk : Blk w p 122 #[.int .i64 t, .int .i64 n, vc, .string msg, lv, vi]
  coms : Coms w w.heap.size lv l
  nums : Nums .u64 w w.heap.size vc cs
  ids : Nums .i64 w w.heap.size vi (idsOf l l.length)
theorem RPk.later {w w' : World} {p : Nat} {vc lv vi : Value} {t n : Int} {cs : List Int} {l : List Cm} {msg : ByteArray} (h : RPk w p vc lv vi t n cs l msg) (hb : Below w.heap.size w w') : RPk w' p vc lv vi t n cs l msg :=
  ⟨h.pk.below hb h.pk.lt, h.coms.later hb, h.nums.later hb, h.ids.later hb⟩
theorem RPk.cells {w : World} {p : Nat} {vc lv vi : Value} {t n : Int} {cs : List Int} {l : List Cm} {msg : ByteArray} (h : RPk w p vc lv vi t n cs l msg) :
    w.cell? ⟨p, 2, none⟩ = some vc ∧ w.cell? ⟨p, 3, none⟩ = some (.string msg) ∧ w.cell? ⟨p, 4, none⟩ = some lv ∧ w.cell? ⟨p, 5, none⟩ = some vi := ⟨h.pk.cell 2, h.pk.cell 3, h.pk.cell 4, h.pk.cell 5⟩
def RPkgPost (t n : Int) (cs : List Int) (l : List Cm) (msg : ByteArray) (vc lv : Value) (w : World) (e : Ending) (w' : World) : Prop :=
  Below w.heap.size w w' ∧
  ((pkE t n l ≠ 0 ∧ e = .returned (.tuple #[.pointer none, .int .i64 (pkE t n l)])) ∨
   (pkE t n l = 0 ∧ ∃ p vi, e = .returned (.tuple #[.pointer (some ⟨p, 0, none⟩), .int .i64 0]) ∧ RPk w' p vc lv vi t n cs l msg))
def NpInv (t n : Int) (l : List Cm) (msg : ByteArray) (vc lv : Value) (w : World) (k : Nat) (vi : Value) (wr : World) : Prop :=
  wr.ownsRow w.heap.size 3 1 vi k ((idsOf l k).map (Value.int .i64)) ∧ Blk wr (w.heap.size + 1) 122 #[.int .i64 t, .int .i64 n, vc, .string msg, lv, vi] ∧
    Blk wr w.heap.size 28 #[.int .i64 t, .int .i64 n, vc] ∧ Below w.heap.size w wr
theorem np_step {t n : Int} {l : List Cm} {msg : ByteArray} {vc lv : Value} {w w1 w2 : World} {k : Nat} {A2 : Option Addr} {c2 g2 cap2 : Nat} {cs : Array Value} {x : Int}
    (hO : w1.ownsRow w.heap.size 3 1 (.slice A2 k c2) k ((idsOf l k).map (Value.int .i64)))
    (hP : Blk w1 (w.heap.size + 1) 122 #[.int .i64 t, .int .i64 n, vc, .string msg, lv, .slice A2 k c2]) (hB : Blk w1 w.heap.size 28 #[.int .i64 t, .int .i64 n, vc]) (hb : Below w.heap.size w w1)
    (hx : (l.getD k .zero).id = x) (h3 : w2.ownsRow w.heap.size 3 1 (.slice (some ⟨g2, 0, none⟩) (k + 1) cap2) (k + 1) ((idsOf l k).map (Value.int .i64) ++ [.int .i64 x]))
    (hg : (w1.drew.alloc (.cells cs 3)).grownBy w2 (Value.slice A2 k c2).ownBlock) :
    NpInv t n l msg vc lv w (k + 1) (.slice (some ⟨g2, 0, none⟩) (k + 1) cap2) (w2.setCell ⟨w.heap.size + 1, 5, none⟩ (.slice (some ⟨g2, 0, none⟩) (k + 1) cap2)) := by
  have h2' : w1.drew.ownsRow w.heap.size 3 1 (.slice A2 k c2) k ((idsOf l k).map (Value.int .i64)) := hO
  have q2 := blk_grown (show Blk w1.drew _ _ _ from hP) h2' (by decide) hg
  have g0 := blk_grown (show Blk w1.drew _ _ _ from hB) h2' (by decide) hg
  have gb := below_grown (show Below w.heap.size w w1.drew from hb.drew) h2' hb.size hg
  refine ⟨?_, q2.set_ 5 _, g0.far (p := ⟨w.heap.size + 1, 5, none⟩) (by show w.heap.size ≠ w.heap.size + 1; omega) _, gb.setCell (by show w.heap.size ≤ w.heap.size + 1; omega) _⟩
  have := own_far h3 q2 (by decide) 5 (.slice (some ⟨g2, 0, none⟩) (k + 1) cap2)
  rw [idsOf_step, List.map_append, hx]
  exact this
set_option maxRecDepth 100000 in
set_option maxHeartbeats 8000000 in
theorem newPkgC (t n : Int) (cs : List Int) (l : List Cm) (msg : ByteArray) (vc lv : Value) (w : World) (hN : Nums .u64 w w.heap.size vc cs) (hC : Coms w w.heap.size lv l) (hl : l.length ≤ 65536)
    (hb : ∀ i, i < l.length → 0 ≤ (l.getD i .zero).d ∧ 0 ≤ (l.getD i .zero).e) :
    Calls Try.prog 52 #[.agg #[.int .i64 t, .int .i64 n, vc], .string msg, lv] w (RPkgPost t n cs l msg vc lv w) := by
  obtain ⟨A, c, rfl⟩ := hC.shape
  obtain ⟨A1, c1, rfl⟩ := Lev.nums_shape hN
  have HN := Lib.hid hN
  have HC := Lib.hid hC
  have HB := Lib.hid hb
  obtain ⟨i0, hi, hz0, hz1, hz2⟩ := info_parts info_int'
  clear hN hC hb
  by_cases h1 : (l.length : Int) < t
  case pos =>
    have hE := Lib.hid (pkE_few (t := t) (n := n) (l := l) (.inl h1))
    go_enter Try.func52, Try.ntmps52
    go_wp2_with fail
    go_ret2
    exact ⟨below_box _ _, .inl ⟨by rw [hE.out]; omega, by rw [hE.out]; rfl⟩⟩
  by_cases h2 : n < (l.length : Int)
  case pos =>
    have hE := Lib.hid (pkE_few (t := t) (n := n) (l := l) (.inr h2))
    go_enter Try.func52, Try.ntmps52
    go_wp2_with fail
    go_ret2
    exact ⟨below_box _ _, .inl ⟨by rw [hE.out]; omega, by rw [hE.out]; rfl⟩⟩
  have hfew := Lib.hid (show ¬ ((l.length : Int) < t ∨ n < (l.length : Int)) by omega)
  go_enter Try.func52, Try.ntmps52
  go_wp2_with fail
  go_loopw [32] (fun i wr => ∃ (k : Nat) (vi : Value), k ≤ l.length ∧ i = .int .i64 k ∧ riseErr n l k = 0 ∧ NpInv t n l msg (.slice A1 cs.length c1) (.slice A l.length c) w k vi wr) (fun i _ => l.length - (intOf i).toNat)
  case atStart =>
    exact ⟨0, .slice none 0 0, by omega, rfl, rfl, World.ownsRow_nil _ _ _ _, blk_new' _ _ (by simp), (Blk.new _ _ _).alloc _, (below_box _ _).alloc (by simp) _⟩
  case round =>
    obtain ⟨k, vi, hk, rfl, he, hown, hpk, hbx, hbw⟩ := hrel
    obtain ⟨A2, c2, rfl⟩ := own_shape hown
    have HE := Lib.hid he
    have HO := Lib.hid hown
    clear he hown
    by_cases hlt : k < l.length
    · obtain ⟨b, off, rfl, hb, hc⟩ := HC.out.at_ (by omega)
      obtain ⟨x0, x1, x2⟩ := hc k hlt
      replace x0 := (hbw.cell (p := ⟨b, off + k * 3, none⟩) hb).trans x0
      replace x1 := (hbw.cell (p := ⟨b, off + k * 3 + 1, none⟩) hb).trans x1
      replace x2 := (hbw.cell (p := ⟨b, off + k * 3 + 2, none⟩) hb).trans x2
      have hpr : 0 < k → wr.cell? ⟨b, off + (k - 1) * 3, none⟩ = some (.int .i64 (l.getD (k - 1) .zero).id) := fun h0 => (hbw.cell (p := ⟨b, off + (k - 1) * 3, none⟩) hb).trans (hc (k - 1) (by omega)).1
      have hpl := hpk.lt
      have hgl := hbx.lt
      have hbl : b < wr.heap.size := by have := hbw.size; omega
      have b1 : wr.cell? ⟨w.heap.size, 1, none⟩ = some (.int .i64 n) := hbx.cell 1
      have p5 : wr.cell? ⟨w.heap.size + 1, 5, none⟩ = some (.slice A2 k c2) := hpk.cell 5
      have eAt : Hid (riseAt n l k = if (l.getD k .zero).id < 1 ∨ n < (l.getD k .zero).id then 5 else if 0 < k ∧ (l.getD k .zero).id ≤ (l.getD (k - 1) .zero).id then 6 else 0) := by
        show riseAt n l k = _
        rfl
      have hfin : ∀ x, riseAt n l k = x → x ≠ 0 → Hid (pkE t n l = x) := fun x hx hn => by
        show pkE t n l = x
        have h3 := riseErr_at n l hlt HE.out hx hn
        rw [pkE_rise hfew.out (by rw [h3]; exact hn), h3]
      have hstep : riseAt n l k = 0 → Hid (riseErr n l (k + 1) = 0) := fun hx => riseErr_step HE.out hx
      have FIN := Lib.hid hfin
      have STEP := Lib.hid hstep
      have hbox := below_box wr (.cells #[.int .i64 (l.getD k .zero).id, .int .u64 (l.getD k .zero).d, .int .u64 (l.getD k .zero).e] 37)
      have hbb := Lib.hid (hbw.trans (hbox.mono hbw.size))
      have HXE : Hid ((l.getD k .zero).id = (l.getD k .zero).id) := by
        show (l.getD k .zero).id = _
        rfl
      have hall : ∀ m : Nat, ((wr.alloc (.cells #[.int .i64 (l.getD k .zero).id, .int .u64 (l.getD k .zero).d, .int .u64 (l.getD k .zero).e] 37)).drewN m).ownsRow w.heap.size 3 1 (.slice A2 k c2) k ((idsOf l k).map (Value.int .i64)) ∧
          Blk ((wr.alloc (.cells #[.int .i64 (l.getD k .zero).id, .int .u64 (l.getD k .zero).d, .int .u64 (l.getD k .zero).e] 37)).drewN m) (w.heap.size + 1) 122 #[.int .i64 t, .int .i64 n, .slice A1 cs.length c1, .string msg, .slice (some ⟨b, off, none⟩) l.length c, .slice A2 k c2] ∧
          Blk ((wr.alloc (.cells #[.int .i64 (l.getD k .zero).id, .int .u64 (l.getD k .zero).d, .int .u64 (l.getD k .zero).e] 37)).drewN m) w.heap.size 28 #[.int .i64 t, .int .i64 n, .slice A1 cs.length c1] ∧
          Below w.heap.size w ((wr.alloc (.cells #[.int .i64 (l.getD k .zero).id, .int .u64 (l.getD k .zero).d, .int .u64 (l.getD k .zero).e] 37)).drewN m) ∧
          ((wr.alloc (.cells #[.int .i64 (l.getD k .zero).id, .int .u64 (l.getD k .zero).d, .int .u64 (l.getD k .zero).e] 37)).drewN m).cell? ⟨wr.heap.size, 0, none⟩ = some (.int .i64 (l.getD k .zero).id) ∧
          wr.heap.size < ((wr.alloc (.cells #[.int .i64 (l.getD k .zero).id, .int .u64 (l.getD k .zero).d, .int .u64 (l.getD k .zero).e] 37)).drewN m).heap.size := fun m =>
        ⟨HO.out.alloc _, hpk.alloc _, hbx.alloc _, below_drewN hbb.out m, (Blk.new wr 37 #[.int .i64 (l.getD k .zero).id, .int .u64 (l.getD k .zero).d, .int .u64 (l.getD k .zero).e]).cell 0, by simp⟩
      have HALL := Lib.hid hall
      clear hall
      clear hc hfin hstep hbw hbox hpk hbx HO
      generalize hXe : (l.getD k .zero).id = X at *
      generalize (l.getD k .zero).d = D at *
      generalize (l.getD k .zero).e = E at *
      generalize (l.getD (k - 1) .zero).id = Y at *
      have HXe := Lib.hid hXe
      clear hXe HXE
      by_cases d1 : X < 1
      case pos =>
        have hF := FIN.out 5 (by rw [eAt.out, if_pos (.inl d1)]) (by omega)
        go_wp2_with fail
        go_ret2
        exact ⟨hbb.out, .inl ⟨by rw [hF.out]; omega, by rw [hF.out]; rfl⟩⟩
      by_cases d2 : n < X
      case pos =>
        have hF := FIN.out 5 (by rw [eAt.out, if_pos (.inr d2)]) (by omega)
        go_wp2_with fail
        go_ret2
        exact ⟨hbb.out, .inl ⟨by rw [hF.out]; omega, by rw [hF.out]; rfl⟩⟩
      have e2 : riseAt n l k = if 0 < k ∧ X ≤ Y then 6 else 0 := by rw [eAt.out, if_neg (by omega)]
      by_cases d3 : 0 < k
      case neg =>
        have d3' : ¬ (0 : Int) < (k : Int) := by omega
        have hS := STEP.out (by rw [e2, if_neg (fun h => d3 h.1)])
        clear e2
        go_wp2_with fail
        go_quiet (fail)
        go_wp2_with fail
        obtain ⟨f1, f2, f3, f4, f5, f6⟩ := HALL.out nq
        generalize World.drewN (wr.alloc (.cells #[.int .i64 X, .int .u64 D, .int .u64 E] 37)) nq = w5 at *
        have HO5 := Lib.hid f1
        have HP5 := Lib.hid f2
        have HB5 := Lib.hid f3
        have HW5 := Lib.hid f4
        have p5' : w5.cell? ⟨w.heap.size + 1, 5, none⟩ = some (.slice A2 k c2) := f2.cell 5
        have hpz := f2.frozen 5
        have hsz5 := f2.lt
        clear f1 f2 f3 f4 p5 b1 x0 x1 x2
        go_region_law (first | (refine step_append_lies _ (by rfl) (.tmp 64) (.tmp 67) _ (by rfl) w.heap.size 3 i0 (.int .i64 0) 1 8 Try.underlying29 hi hz0 hz1 hz2 rfl (by decide) (.slice A2 k c2) k _ (by rfl) (show (World.alloc w5.drew _).ownsRow _ _ _ _ _ _ from (show w5.drew.ownsRow _ _ _ _ _ _ from HO5.out).alloc _) ⟨w5.heap.size, 0, none⟩ 1 1 [.int .i64 X] (by rfl) rfl (cell_one_new _ _ _) (by simp [Value.oneCell']) (by omega) (by unfold maxLen; omega) (by omega) (by have := HW5.out.size; simp; omega) (w5.heap.size + 1) (by simp) ?_; intro g2 cap2 w2 hown2 hgrow2 hat2 hlt2; have hblk2 := blk_grown (show Blk w5.drew _ _ _ from HP5.out) (show w5.drew.ownsRow _ _ _ _ _ _ from HO5.out) (by decide) hgrow2; have hc25 := hblk2.cell 5; have hf25 := hblk2.frozen 5))
        all_goals
          go_wp2_with fail
          refine ⟨⟨k + 1, _, by omega, by go_num, hS.out, np_step HO5.out HP5.out HB5.out HW5.out HXe.out hown2 hgrow2⟩, by simp [intOf]; omega⟩
      have d3' : (0 : Int) < (k : Int) := by omega
      have y0 := hpr d3
      obtain ⟨j, hkj⟩ : ∃ j, k = j + 1 := ⟨k - 1, by omega⟩
      have y1 : wr.cell? ⟨b, off + j * 3, none⟩ = some (.int .i64 Y) := by rw [hkj, Nat.add_sub_cancel] at y0; exact y0
      have s1 : IntKind.i64.wrap ((k : Int) - 1) = (j : Int) := by rw [IntKind.wrap_i64]; omega
      have s3 : (k : Int) - 1 = (j : Int) := by omega
      have s6 : IntKind.i64.wrap (j : Int) = (j : Int) := by rw [IntKind.wrap_i64]; omega
      have s4 : (j : Int) < (l.length : Int) := by omega
      have s5 : (0 : Int) ≤ (j : Int) := by omega
      clear hpr y0 hkj
      by_cases d4 : X ≤ Y
      case pos =>
        have hF := FIN.out 6 (by rw [e2, if_pos ⟨d3, d4⟩]) (by omega)
        clear e2
        go_wp2_with fail
        go_quiet (fail)
        go_wp2_with fail
        go_ret2
        exact ⟨below_drewN hbb.out _, .inl ⟨by rw [hF.out]; omega, by rw [hF.out]; rfl⟩⟩
      have hS := STEP.out (by rw [e2, if_neg (fun h => d4 h.2)])
      clear e2
      go_wp2_with fail
      go_quiet (fail)
      go_wp2_with fail
      obtain ⟨f1, f2, f3, f4, f5, f6⟩ := HALL.out nq
      generalize World.drewN (wr.alloc (.cells #[.int .i64 X, .int .u64 D, .int .u64 E] 37)) nq = w5 at *
      have HO5 := Lib.hid f1
      have HP5 := Lib.hid f2
      have HB5 := Lib.hid f3
      have HW5 := Lib.hid f4
      have p5' : w5.cell? ⟨w.heap.size + 1, 5, none⟩ = some (.slice A2 k c2) := f2.cell 5
      have hpz := f2.frozen 5
      have hsz5 := f2.lt
      clear f1 f2 f3 f4 p5 b1 x0 x1 x2
      go_region_law (first | (refine step_append_lies _ (by rfl) (.tmp 64) (.tmp 67) _ (by rfl) w.heap.size 3 i0 (.int .i64 0) 1 8 Try.underlying29 hi hz0 hz1 hz2 rfl (by decide) (.slice A2 k c2) k _ (by rfl) (show (World.alloc w5.drew _).ownsRow _ _ _ _ _ _ from (show w5.drew.ownsRow _ _ _ _ _ _ from HO5.out).alloc _) ⟨w5.heap.size, 0, none⟩ 1 1 [.int .i64 X] (by rfl) rfl (cell_one_new _ _ _) (by simp [Value.oneCell']) (by omega) (by unfold maxLen; omega) (by omega) (by have := HW5.out.size; simp; omega) (w5.heap.size + 1) (by simp) ?_; intro g2 cap2 w2 hown2 hgrow2 hat2 hlt2; have hblk2 := blk_grown (show Blk w5.drew _ _ _ from HP5.out) (show w5.drew.ownsRow _ _ _ _ _ _ from HO5.out) (by decide) hgrow2; have hc25 := hblk2.cell 5; have hf25 := hblk2.frozen 5))
      all_goals
        go_wp2_with fail
        refine ⟨⟨k + 1, _, by omega, by go_num, hS.out, np_step HO5.out HP5.out HB5.out HW5.out HXe.out hown2 hgrow2⟩, by simp [intOf]; omega⟩
    · obtain rfl : k = l.length := by omega
      have hnv := Lib.hid (Nums.own (l := idsOf l l.length) (by rw [idsOf_length]; exact HO.out))
      obtain ⟨wo, rfl⟩ : ∃ wo : World, wo = wr := ⟨_, rfl⟩
      have HPK := Lib.hid hpk
      have HW := Lib.hid hbw
      clear hbx
      go_wp2_with fail
      go_loopw [74] (fun i wr => ∃ k : Nat, k ≤ l.length ∧ i = .int .i64 k ∧ ncsTo l k = true ∧ Below wo.heap.size wo wr) (fun i _ => l.length - (intOf i).toNat)
      case atStart => exact ⟨0, by omega, rfl, rfl, Below.refl _ _⟩
      case round =>
        obtain ⟨k, hk, rfl, hnc, hbwr⟩ := hrel
        have HNC := Lib.hid hnc
        clear hnc
        by_cases hlt : k < l.length
        · obtain ⟨b, off, rfl, hb, hc⟩ := HC.out.at_ (by omega)
          obtain ⟨x0, x1, x2⟩ := hc k hlt
          have hbwf := HW.out.trans (hbwr.mono HW.out.size)
          replace x0 := (hbwf.cell (p := ⟨b, off + k * 3, none⟩) hb).trans x0
          replace x1 := (hbwf.cell (p := ⟨b, off + k * 3 + 1, none⟩) hb).trans x1
          replace x2 := (hbwf.cell (p := ⟨b, off + k * 3 + 2, none⟩) hb).trans x2
          obtain ⟨bD, bE⟩ := HB.out k hlt
          have hbad : (isNc (l.getD k .zero).d = false ∨ isNc (l.getD k .zero).e = false) → Hid (pkE t n l = 3) := fun h => pkE_nc hfew.out HE.out (ncsTo_bad l hlt h)
          have hstep : isNc (l.getD k .zero).d = true → isNc (l.getD k .zero).e = true → Hid (ncsTo l (k + 1) = true) := fun h1 h2 => ncsTo_step l HNC.out h1 h2
          have BAD := Lib.hid hbad
          have STEP := Lib.hid hstep
          have hbox := below_box wr (.cells #[.int .i64 (l.getD k .zero).id, .int .u64 (l.getD k .zero).d, .int .u64 (l.getD k .zero).e] 37)
          have hbb := Lib.hid (hbwr.trans (hbox.mono hbwr.size))
          have hbb2 := Lib.hid (hbwf.trans (hbox.mono hbwf.size))
          clear hc hbad hstep hbwr hbox hbwf
          generalize (l.getD k .zero).id = X at *
          generalize (l.getD k .zero).d = D at *
          generalize (l.getD k .zero).e = E at *
          obtain ⟨v1, e1⟩ : ∃ v, isNc D = v := ⟨_, rfl⟩
          obtain ⟨v2, e2⟩ : ∃ v, isNc E = v := ⟨_, rfl⟩
          have E1 := Lib.hid e1
          have E2 := Lib.hid e2
          clear e1 e2
          cases v1
          case false =>
            have hF := BAD.out (.inl E1.out)
            go_wp2_with fail
            refine (refNcIs _ D _ bD E1.out).mono ?_
            rintro e w' ⟨rfl, rfl⟩
            go_wp2_with fail
            go_ret2
            exact ⟨hbb2.out, .inl ⟨by rw [hF.out]; omega, by rw [hF.out]; rfl⟩⟩
          cases v2
          case false =>
            have hF := BAD.out (.inr E2.out)
            go_wp2_with fail
            refine (refNcIs _ D _ bD E1.out).mono ?_
            rintro e w' ⟨rfl, rfl⟩
            go_wp2_with fail
            refine (refNcIs _ E _ bE E2.out).mono ?_
            rintro e w' ⟨rfl, rfl⟩
            go_wp2_with fail
            go_ret2
            exact ⟨hbb2.out, .inl ⟨by rw [hF.out]; omega, by rw [hF.out]; rfl⟩⟩
          have hS := STEP.out E1.out E2.out
          go_wp2_with fail
          refine (refNcIs _ D _ bD E1.out).mono ?_
          rintro e w' ⟨rfl, rfl⟩
          go_wp2_with fail
          refine (refNcIs _ E _ bE E2.out).mono ?_
          rintro e w' ⟨rfl, rfl⟩
          go_wp2_with fail
          refine ⟨⟨k + 1, by omega, by go_num, hS.out, hbb.out⟩, by simp [intOf]; omega⟩
        · obtain rfl : k = l.length := by omega
          have h0 := Lib.hid (pkE_ok hfew.out HE.out HNC.out)
          have hbwf := HW.out.trans (hbwr.mono HW.out.size)
          go_wp2_with fail
          go_ret2
          exact ⟨hbwf, .inr ⟨h0.out, _, _, rfl, HPK.out.below hbwr HPK.out.lt, HC.out.later hbwf, HN.out.later hbwf, hnv.out.later hbwr⟩⟩
end Go.Proofs.Ytpfpokjaeffbjab.Rkg
namespace Go.Proofs.Ytpfpokjaeffbjab.Rkg
open Go.RowKit Go.Proofs.Ytpfpokjaeffbjab.Pl Go.Proofs.Ytpfpokjaeffbjab.Dpl Go.Proofs.Ytpfpokjaeffbjab.Gpl Go.Proofs.Ytpfpokjaeffbjab.Kpl Go.Proofs.Ytpfpokjaeffbjab.Fld Go.Proofs.Ytpfpokjaeffbjab.Mem Go.Proofs.Ytpfpokjaeffbjab.Ver Go.Proofs.Ytpfpokjaeffbjab.Sls Go.Proofs.Ytpfpokjaeffbjab.Rhs Go.Proofs.Ytpfpokjaeffbjab.Grp
set_option linter.unusedVariables false
theorem nums_at {k : IntKind} {w : World} {B : Nat} {A : Option Addr} {n c : Nat} {l : List Int} (h : Nums k w B (.slice A n c) l) (hp : 0 < l.length) :
    ∃ b off, A = some ⟨b, off, none⟩ ∧ b < B ∧ ∀ i, i < l.length → w.cell? ⟨b, off + i, none⟩ = some (.int k (l.getD i 0)) := by
  obtain ⟨A', c', hv, _, h⟩ := h
  obtain ⟨b, off, hA, r⟩ := h hp
  have : A = A' := by injection hv
  exact ⟨b, off, this.trans hA, r⟩
section
variable {w : World} {p : Nat} {vc lv vi : Value} {t n : Int} {cs : List Int} {l : List Cm} {msg : ByteArray}
set_option maxRecDepth 100000 in
set_option maxHeartbeats 4000000 in
theorem refBindC (h : RPk w p vc lv vi t n cs l msg) (hgd : Kpl.Good n l) (hn : n ≤ 9) (hl9 : l.length ≤ 9) (hcl : 0 < cs.length) (hc0 : 0 ≤ cs.getD 0 0 ∧ cs.getD 0 0 < 18446744073709551616) (hms : msg.size ≤ 1000000) {k : Nat} (hk : k < l.length) :
    Calls Try.prog 102 #[.pointer (some ⟨p, 0, none⟩), .int .i64 k] w fun e w' => e = .returned (.int .u64 (bindP l (cs.getD 0 0) msg k)) ∧ Below w.heap.size w w' := by
  obtain ⟨p2, p3, p4, p5⟩ := h.cells
  obtain ⟨A, c, rfl⟩ := h.coms.shape
  obtain ⟨A1, c1, rfl⟩ := Lev.nums_shape h.nums
  obtain ⟨b, off, rfl, hb, hc⟩ := h.coms.at_ (by omega)
  obtain ⟨b1, off1, rfl, hb1, hcc⟩ := nums_at h.nums hcl
  have z0 := hcc 0 hcl
  rw [Nat.add_zero] at z0
  obtain ⟨x0, x1, x2⟩ := hc k hk
  have hp := h.pk.lt
  have hgk := hgd k hk
  have H := Lib.hid h
  have HC := Lib.hid hc
  have HG := Lib.hid hgd
  have HBD := Lib.hid (bindNums_bd hgd hn hc0 hk)
  have hnm : Hid (bindNums l (cs.getD 0 0) k 0 = [(l.getD k .zero).id, cs.getD 0 0]) := by
    show _ = _
    simp [bindNums, flat]
  have wX : IntKind.u64.wrap (l.getD k .zero).id = (l.getD k .zero).id := u64_id (by omega) (by omega)
  have k1 : (0 : Int) ≤ (k : Int) := by omega
  have k2 : (k : Int) < (l.length : Int) := by omega
  have k3 : (0 : Int) < (cs.length : Int) := by omega
  obtain ⟨i0, hi, hz0, hz1, hz2⟩ := info_parts info_u64'
  have hbP : Hid (bindP l (cs.getD 0 0) msg k = hashI 1 msg (bindNums l (cs.getD 0 0) k l.length)) := by
    show bindP l (cs.getD 0 0) msg k = _
    rfl
  clear h hc hgd hgk hc0 x1 x2 hcc
  generalize (l.getD k .zero).id = X at *
  generalize cs.getD 0 0 = K at *
  go_enter Try.func102, Try.ntmps102
  go_wp2_with fail
  go_region_held3 (fun w' => (w'.cell? ⟨p, 2, none⟩ = some (.slice (some ⟨b1, off1, none⟩) cs.length c1) ∧ w'.cell? ⟨p, 4, none⟩ = some (.slice (some ⟨b, off, none⟩) l.length c)) ∧ w'.cell? ⟨b, off + k * 3, none⟩ = some (.int .i64 X) ∧ w'.cell? ⟨b1, off1, none⟩ = some (.int .u64 K)) (go_keep)
    (fail)
  all_goals
    have hown0 : ((w.alloc (.cells #[.int .u64 X, .int .u64 K] 25)).drew).ownsRow w.heap.size 25 1 (.slice (some ⟨w.heap.size, 0, none⟩) 2 2) (2 + 3 * 0) ((bindNums l K k 0).map (Value.int .u64)) := by
      rw [hnm.out]
      exact World.ownsRow_lit w #[.int .u64 X, .int .u64 K] 2 (Nat.le_refl _) (by unfold maxLen; omega) rfl
    have hbw0 : Below w.heap.size w (w.alloc (.cells #[.int .u64 X, .int .u64 K] 25)).drew := (below_box _ _).drew
    generalize (w.alloc (.cells #[.int .u64 X, .int .u64 K] 25)).drew = w1 at *
    have HP1 := Lib.hid (H.out.later hbw0)
    obtain ⟨r2, r3, r4, r5⟩ := HP1.out.cells
    have HO0 := Lib.hid hown0
    have HB0 := Lib.hid hbw0
    clear hown0 hbw0 p2 p3 p4 p5
    go_wp2_with fail
    go_loopw [5, 30] (fun v i wr => ∃ j : Nat, j ≤ l.length ∧ i = .int .i64 j ∧ wr.ownsRow w.heap.size 25 1 v (2 + 3 * j) ((bindNums l K k j).map (Value.int .u64)) ∧ Below w.heap.size w wr) (fun _ i _ => l.length - (intOf i).toNat)
    case atStart => exact ⟨0, by omega, rfl, HO0.out, HB0.out⟩
    case round =>
      obtain ⟨j, hj, rfl, hown, hbw⟩ := hrel
      have HO := Lib.hid hown
      clear hown r2 r3 r4 r5
      by_cases hlt : j < l.length
      · obtain ⟨y0, y1, y2⟩ := HC.out j hlt
        replace y0 := (hbw.cell (p := ⟨b, off + j * 3, none⟩) hb).trans y0
        replace y1 := (hbw.cell (p := ⟨b, off + j * 3 + 1, none⟩) hb).trans y1
        replace y2 := (hbw.cell (p := ⟨b, off + j * 3 + 2, none⟩) hb).trans y2
        have hgj := HG.out j hlt
        have wY : IntKind.u64.wrap (l.getD j .zero).id = (l.getD j .zero).id := u64_id (by omega) (by omega)
        have hst := Lib.hid (bindNums_step l K k j)
        obtain ⟨⟨gj1, gj2⟩, -⟩ := hgj
        generalize (l.getD j .zero).id = Y at *
        generalize (l.getD j .zero).d = D at *
        generalize (l.getD j .zero).e = E at *
        go_wp2_with (at_builtin; refine wpList_append_own _ rfl (.tmp 34) (.tmp 42) _ rfl w.heap.size 25 i0 (.int .u64 0) 1 8 Try.underlying26 hi hz0 hz1 hz2 rfl (by decide) _ _ _ rfl ((HO.out.alloc _).alloc _) ⟨wr.heap.size + 1, 0, none⟩ 3 3 [.int .u64 Y, .int .u64 D, .int .u64 E] rfl rfl (World.news_of_block (blk_new' _ _ (by simp))) (by simp [Value.oneCell']) (by unfold maxLen; omega) (by omega) (by have := hbw.size; simp; omega) ?_; intro v1 w2 hown1 hgrow1 _)
        have hbw2 := (((hbw.alloc hbw.size (.cells #[.int .i64 Y, .int .u64 D, .int .u64 E] 37)).alloc (by have := hbw.size; simp; omega) (.cells #[.int .u64 Y, .int .u64 D, .int .u64 E] 25)).grown hgrow1 (by have := hbw.size; simp; omega) fun k hk => (((HO.out.alloc (.cells #[.int .i64 Y, .int .u64 D, .int .u64 E] 37)).alloc (.cells #[.int .u64 Y, .int .u64 D, .int .u64 E] 25)).lt k hk).1)
        refine ⟨⟨j + 1, by omega, by go_num, by rw [hst.out, List.map_append, show 2 + 3 * (j + 1) = 2 + 3 * j + 3 by omega]; exact hown1, hbw2⟩, by simp [intOf]; omega⟩
      · obtain rfl : j = l.length := by omega
        have HPf := Lib.hid (H.out.later hbw)
        obtain ⟨r2, r3, r4, r5⟩ := HPf.out.cells
        have hnv := Nums.own (l := bindNums l K k l.length) (by rw [bindNums_length]; exact HO.out)
        have hh := Lib.hid (refHashC 1 msg (bindNums l K k l.length) _ wr hnv (by rw [bindNums_length]; omega) hms (by omega) (by omega) HBD.out)
        obtain ⟨A5, c5, rfl⟩ := own_shape HO.out
        rw [← hbP.out] at hh
        clear hnv
        go_wp2_with fail
        refine hh.out.mono ?_
        rintro e w' ⟨rfl, hb5⟩
        go_wp2_with fail
        go_ret
        exact ⟨rfl, hbw.trans (hb5.mono hbw.size)⟩
set_option maxRecDepth 100000 in
set_option maxHeartbeats 4000000 in
theorem refPartC (h : RPk w p vc lv vi t n cs l msg) (hgd : Kpl.Good n l) (hn : n ≤ 9) (hl9 : l.length ≤ 9) (hcl : 0 < cs.length) (hc0 : 0 ≤ cs.getD 0 0 ∧ cs.getD 0 0 < 18446744073709551616) (hms : msg.size ≤ 1000000) {k : Nat} (hk : k < l.length) :
    Calls Try.prog 59 #[.pointer (some ⟨p, 0, none⟩), .int .i64 k] w fun e w' => e = .returned (.int .u64 (partP l (cs.getD 0 0) msg k)) ∧ Below w.heap.size w w' := by
  obtain ⟨p2, p3, p4, p5⟩ := h.cells
  obtain ⟨A, c, rfl⟩ := h.coms.shape
  obtain ⟨b, off, rfl, hb, hc⟩ := h.coms.at_ (by omega)
  obtain ⟨x0, x1, x2⟩ := hc k hk
  obtain ⟨-, -, ⟨d0, d1⟩, e0, e1⟩ := hgd k hk
  have hbi := Lib.hid (refBindC (h.later (Below.refl _ w).drew) hgd hn hl9 hcl hc0 hms hk)
  have hbb := bindP_bd l (cs.getD 0 0) msg k
  have k1 : (0 : Int) ≤ (k : Int) := by omega
  have k2 : (k : Int) < (l.length : Int) := by omega
  have hpl := h.pk.lt
  have hz := pw_bd (l.getD k .zero).e (bindP l (cs.getD 0 0) msg k).toNat (m := 2147483579) (by omega)
  have hP : partP l (cs.getD 0 0) msg k = emul (l.getD k .zero).d (pw (l.getD k .zero).e (bindP l (cs.getD 0 0) msg k).toNat 2147483579) := rfl
  rw [emul_eq (by omega) (by omega) hz.1 (by omega)] at hP
  have m1 := mul_wrap (show 0 ≤ (l.getD k .zero).d by omega) (show (l.getD k .zero).d < 4294967296 by omega) hz.1 (show pw (l.getD k .zero).e (bindP l (cs.getD 0 0) msg k).toNat 2147483579 < 4294967296 by omega)
  have m2 : ((l.getD k .zero).d * pw (l.getD k .zero).e (bindP l (cs.getD 0 0) msg k).toNat 2147483579).tmod 2147483579 = partP l (cs.getD 0 0) msg k := by
    rw [Int.tmod_eq_emod_of_nonneg (Int.mul_nonneg (by omega) hz.1)]; exact hP.symm
  have hpwr := Lib.hid (fun W => refPowI 2147483579 (l.getD k .zero).e (bindP l (cs.getD 0 0) msg k) W (by omega) (by omega) (by omega) (by omega) hbb.1 (by omega))
  clear h hc hgd hc0 x0 hP hbb hz
  generalize (l.getD k .zero).d = D at *
  generalize (l.getD k .zero).e = E at *
  generalize bindP l (cs.getD 0 0) msg k = Bd at *
  generalize partP l (cs.getD 0 0) msg k = R at *
  generalize pw E Bd.toNat 2147483579 = Z at *
  go_enter Try.func59, Try.ntmps59
  go_wp2_with fail
  go_region_held3 (fun w' => w'.cell? ⟨p, 4, none⟩ = some (.slice (some ⟨b, off, none⟩) l.length c) ∧ w'.cell? ⟨b, off + k * 3 + 1, none⟩ = some (.int .u64 D) ∧ w'.cell? ⟨b, off + k * 3 + 2, none⟩ = some (.int .u64 E))
    (first | go_keep | (exact ⟨(hb1.cell (p := ⟨p, 4, none⟩) hpl).trans p4, (hb1.cell (p := ⟨b, off + k * 3 + 1, none⟩) hb).trans x1, (hb1.cell (p := ⟨b, off + k * 3 + 2, none⟩) hb).trans x2⟩))
    (first | (go_at_call 102; refine hbi.out.mono ?_; rintro e w1 ⟨rfl, hb1⟩) | (go_at_call 55; refine (hpwr.out _).mono ?_; rintro e w' ⟨rfl, rfl⟩))
  all_goals
    go_wp2_with fail
    go_ret
    exact ⟨rfl, ((Below.refl _ _).drew).trans hb1⟩
set_option maxRecDepth 100000 in
set_option maxHeartbeats 4000000 in
theorem refAllC (h : RPk w p vc lv vi t n cs l msg) (hgd : Kpl.Good n l) (hn : n ≤ 9) (hl9 : l.length ≤ 9) (hcl : 0 < cs.length) (hc0 : 0 ≤ cs.getD 0 0 ∧ cs.getD 0 0 < 18446744073709551616) (hms : msg.size ≤ 1000000) :
    Calls Try.prog 53 #[.pointer (some ⟨p, 0, none⟩)] w fun e w' => e = .returned (.int .u64 (allP l (cs.getD 0 0) msg)) ∧ Below w.heap.size w w' := by
  obtain ⟨p2, p3, p4, p5⟩ := h.cells
  obtain ⟨A, c, rfl⟩ := h.coms.shape
  have H := Lib.hid h
  have HG := Lib.hid hgd
  have HC0 := Lib.hid hc0
  clear h hgd hc0
  rw [allP_eq]
  go_enter Try.func53, Try.ntmps53
  go_wp2_with fail
  go_loopw [3, 10] (fun v i wr => ∃ k : Nat, k ≤ l.length ∧ i = .int .i64 k ∧ v = .int .u64 (allR l (cs.getD 0 0) msg k) ∧ Below w.heap.size w wr) (fun _ i _ => l.length - (intOf i).toNat)
  case atStart => exact ⟨0, by omega, rfl, rfl, Below.refl _ _⟩
  case round =>
    obtain ⟨k, hk, rfl, rfl, hbw⟩ := hrel
    clear p2 p3 p4 p5
    by_cases hlt : k < l.length
    · have hpt := Lib.hid (refPartC (H.out.later hbw) HG.out hn hl9 hcl HC0.out hms hlt)
      have ha := allR_bd l (cs.getD 0 0) msg k
      have hpb := partP_bd l (cs.getD 0 0) msg k
      have hst : Hid (allR l (cs.getD 0 0) msg (k + 1) = allR l (cs.getD 0 0) msg k * partP l (cs.getD 0 0) msg k % 2147483579) := by
        show allR l (cs.getD 0 0) msg (k + 1) = _
        rw [allR, emul_eq ha.1 (by omega) hpb.1 (by omega)]
      have m1 := mul_wrap ha.1 (show allR l (cs.getD 0 0) msg k < 4294967296 by omega) hpb.1 (show partP l (cs.getD 0 0) msg k < 4294967296 by omega)
      have m2 : (allR l (cs.getD 0 0) msg k * partP l (cs.getD 0 0) msg k).tmod 2147483579 = allR l (cs.getD 0 0) msg k * partP l (cs.getD 0 0) msg k % 2147483579 := Int.tmod_eq_emod_of_nonneg (Int.mul_nonneg ha.1 hpb.1)
      clear ha hpb
      generalize partP l (cs.getD 0 0) msg k = R at *
      generalize allR l (cs.getD 0 0) msg k = O at *
      go_wp2_with (go_at_call 59; refine hpt.out.mono ?_; rintro e w2 ⟨rfl, hb2⟩)
      refine ⟨⟨k + 1, by omega, by go_num, by rw [hst.out], hbw.trans (hb2.mono hbw.size)⟩, by simp [intOf]; omega⟩
    · obtain rfl : k = l.length := by omega
      go_wp2_with fail
      go_ret
      exact ⟨rfl, hbw⟩
end
end Go.Proofs.Ytpfpokjaeffbjab.Rkg
namespace Go.Proofs.Ytpfpokjaeffbjab.Chk
open Go.RowKit Go.Proofs.Ytpfpokjaeffbjab.Pl Go.Proofs.Ytpfpokjaeffbjab.Dpl Go.Proofs.Ytpfpokjaeffbjab.Gpl Go.Proofs.Ytpfpokjaeffbjab.Fld Go.Proofs.Ytpfpokjaeffbjab.Mem Go.Proofs.Ytpfpokjaeffbjab.Ver Go.Proofs.Ytpfpokjaeffbjab.Grp Go.Proofs.Ytpfpokjaeffbjab.Gof
end Go.Proofs.Ytpfpokjaeffbjab.Chk
namespace Go.Proofs.Ytpfpokjaeffbjab.Rck
open Go.RowKit Go.Proofs.Ytpfpokjaeffbjab.Pl Go.Proofs.Ytpfpokjaeffbjab.Dpl Go.Proofs.Ytpfpokjaeffbjab.Gpl Go.Proofs.Ytpfpokjaeffbjab.Fld Go.Proofs.Ytpfpokjaeffbjab.Mem Go.Proofs.Ytpfpokjaeffbjab.Ver Go.Proofs.Ytpfpokjaeffbjab.Grp Go.Proofs.Ytpfpokjaeffbjab.Gof
set_option maxRecDepth 100000 in
set_option maxHeartbeats 2000000 in
theorem rightBad (t n : Int) (cs : List Int) (v : Value) (w : World) (hv : Nums .u64 w w.heap.size v cs) (hl : cs.length ≤ 65536)
    (hbad : t < 2 ∨ n < t ∨ 9 < n ∨ (cs.length : Int) ≠ t ∨ cs.getD 0 0 = 1) :
    Calls Try.prog 51 #[.agg #[.int .i64 t, .int .i64 n, v]] w fun e w' => e = .returned (.bool (groupOk t n cs)) ∧ Below w.heap.size w w' := by
  obtain ⟨A, c, rfl, hc, hcell⟩ := hv
  have hE : Hid (groupOk t n cs = false) := by
    show groupOk t n cs = false
    exact groupOk_bad (fun h => by
      obtain ⟨h1, h2, h3, h4, h5⟩ := h
      rcases hbad with h | h | h | h | h
      · omega
      · omega
      · omega
      · exact h h4
      · exact h5 h)
  have HC := Lib.hid hcell
  clear hcell
  by_cases h1 : t < 2
  case pos =>
    clear hbad
    go_enter Try.func51, Try.ntmps51
    go_wp2_with fail
    go_ret
    exact ⟨by rw [hE.out]; rfl, below_box _ _⟩
  by_cases h2 : n < t
  case pos =>
    clear hbad
    go_enter Try.func51, Try.ntmps51
    go_wp2_with fail
    go_ret
    exact ⟨by rw [hE.out]; rfl, below_box _ _⟩
  by_cases h3 : 9 < n
  case pos =>
    clear hbad
    go_enter Try.func51, Try.ntmps51
    go_wp2_with fail
    go_ret
    exact ⟨by rw [hE.out]; rfl, below_box _ _⟩
  by_cases h4 : (cs.length : Int) = t
  case neg =>
    have h4' : ((cs.length : Int) != t) = true := by rw [bne_iff_ne]; omega
    clear hbad h4
    go_enter Try.func51, Try.ntmps51
    go_wp2_with fail
    go_ret
    exact ⟨by rw [hE.out]; rfl, below_box _ _⟩
  have h4' : ((cs.length : Int) != t) = false := by rw [bne_eq_false_iff_eq]; omega
  have h5 : cs.getD 0 0 = 1 := by
    rcases hbad with h | h | h | h | h
    · omega
    · omega
    · omega
    · exact absurd h4 h
    · exact h
  have h6 : (cs.getD 0 0 == 1) = true := by rw [beq_iff_eq]; exact h5
  have hp : 0 < cs.length := by omega
  have hp1 : (0 : Int) < (cs.length : Int) := by omega
  obtain ⟨b, off, rfl, hb, hcells⟩ := HC.out hp
  have hc0 := hcells 0 hp
  rw [Nat.add_zero] at hc0
  clear hcells hbad h4 h5 HC
  generalize hX : cs.getD 0 0 = X at *
  clear hX
  go_enter Try.func51, Try.ntmps51
  go_wp2_with fail
  go_ret
  exact ⟨by rw [hE.out]; rfl, below_box _ _⟩
set_option maxRecDepth 100000 in
set_option maxHeartbeats 2000000 in
theorem rightGood (n : Int) (cs : List Int) (v : Value) (w : World) (hv : Nums .u64 w w.heap.size v cs) (hcb : ∀ i, i < cs.length → 0 ≤ cs.getD i 0)
    (h1 : 2 ≤ cs.length) (h2 : (cs.length : Int) ≤ n) (h3 : n ≤ 9) (h5 : cs.getD 0 0 ≠ 1) :
    Calls Try.prog 51 #[.agg #[.int .i64 cs.length, .int .i64 n, v]] w fun e w' => e = .returned (.bool (groupOk cs.length n cs)) ∧ Below w.heap.size w w' := by
  obtain ⟨A, c, rfl, hc, hcell⟩ := hv
  have hE : Hid (groupOk cs.length n cs = elsTo cs cs.length) := by
    show groupOk cs.length n cs = _
    exact groupOk_els ⟨by omega, h2, h3, rfl, h5⟩
  have HCB := Lib.hid hcb
  obtain ⟨b, off, rfl, hb, hcells⟩ := hcell (by omega)
  have hc0 := hcells 0 (by omega)
  rw [Nat.add_zero] at hc0
  have HC := Lib.hid hcells
  have n1 : ¬ (cs.length : Int) < 2 := by omega
  have n2 : ¬ n < (cs.length : Int) := by omega
  have n3 : ¬ 9 < n := by omega
  have n4 : ((cs.length : Int) != (cs.length : Int)) = false := by rw [bne_eq_false_iff_eq]
  have n5 : (cs.getD 0 0 == 1) = false := by rw [beq_eq_false_iff_ne]; exact h5
  have n6 : (0 : Int) < (cs.length : Int) := by omega
  clear hcell hcells hcb h5
  generalize hX0 : cs.getD 0 0 = X at *
  clear hX0
  go_enter Try.func51, Try.ntmps51
  go_wp2_with fail
  go_loopw [38] (fun i wr => ∃ k : Nat, k ≤ cs.length ∧ i = .int .i64 k ∧ elsTo cs k = true ∧ Below w.heap.size w wr) (fun i _ => cs.length - (intOf i).toNat)
  case atStart => exact ⟨0, by omega, rfl, rfl, below_box _ _⟩
  case round =>
    obtain ⟨k, hk, rfl, hels, hbw⟩ := hrel
    have HEL := Lib.hid hels
    clear hels
    by_cases hlt : k < cs.length
    · have hck := (hbw.cell (p := ⟨b, off + k, none⟩) hb).trans (HC.out k hlt)
      have hcb := HCB.out k hlt
      have hbad : isEl (cs.getD k 0) = false → Hid (groupOk cs.length n cs = false) := fun h => by
        show groupOk cs.length n cs = false
        rw [hE.out]; exact elsTo_bad cs hlt h
      have hgood : isEl (cs.getD k 0) = true → elsTo cs (k + 1) = true := fun h => elsTo_step cs HEL.out h
      have HBAD := Lib.hid hbad
      have HGOOD := Lib.hid hgood
      clear hbad hgood
      generalize hY : cs.getD k 0 = Y at *
      clear hY
      obtain ⟨bl, hbl⟩ : ∃ bl, isEl Y = bl := ⟨_, rfl⟩
      have HBL := Lib.hid hbl
      clear hbl
      cases bl
      case false =>
        have hE2 := HBAD.out HBL.out
        go_wp2_with (go_at_call 99; refine (refElIs _ Y _ hcb HBL.out).mono ?_; rintro e w' ⟨rfl, rfl⟩)
        go_ret
        exact ⟨by rw [hE2.out]; rfl, hbw⟩
      case true =>
        go_wp2_with (go_at_call 99; refine (refElIs _ Y _ hcb HBL.out).mono ?_; rintro e w' ⟨rfl, rfl⟩)
        refine ⟨⟨k + 1, by omega, by go_num, HGOOD.out HBL.out, hbw⟩, by simp [intOf]; omega⟩
    · obtain rfl : k = cs.length := by omega
      have hE2 : Hid (groupOk cs.length n cs = true) := by
        show groupOk cs.length n cs = true
        rw [hE.out]; exact HEL.out
      go_wp2_with fail
      go_ret
      exact ⟨by rw [hE2.out]; rfl, hbw⟩
theorem rightC (t n : Int) (cs : List Int) (v : Value) (w : World) (hv : Nums .u64 w w.heap.size v cs) (hl : cs.length ≤ 65536) (hcb : ∀ i, i < cs.length → 0 ≤ cs.getD i 0) (b : Bool) (hb : groupOk t n cs = b) :
    Calls Try.prog 51 #[.agg #[.int .i64 t, .int .i64 n, v]] w fun e w' => e = .returned (.bool b) ∧ Below w.heap.size w w' := by
  subst hb
  by_cases h : t < 2 ∨ n < t ∨ 9 < n ∨ (cs.length : Int) ≠ t ∨ cs.getD 0 0 = 1
  · exact rightBad t n cs v w hv hl h
  · have e : t = cs.length := by omega
    subst e
    exact rightGood n cs v w hv hcb (by omega) (by omega) (by omega) (by omega)
theorem pubS_mod (cs : List Int) (id : Int) (j : Nat) {C X : Int} (hC : cs.getD j 0 = C) (hX : rpA id j = X) : pubS cs id j * pw C X.toNat 2147483579 % 2147483579 = pubS cs id (j + 1) := by
  rw [pubS, hC, hX]
set_option maxRecDepth 100000 in
set_option maxHeartbeats 2000000 in
theorem publicC (t n : Int) (cs : List Int) (v : Value) (id : Int) (w : World) (hv : Nums .u64 w w.heap.size v cs) (hl9 : cs.length ≤ 9) (hel : ∀ i, i < cs.length → isEl (cs.getD i 0) = true) (h1 : 1 ≤ id) (h2 : id ≤ 9) :
    Calls Try.prog 56 #[.agg #[.int .i64 t, .int .i64 n, v], .int .i64 id] w fun e w' => e = .returned (.int .u64 (pub cs id)) ∧ Below w.heap.size w w' := by
  obtain ⟨A, c, rfl, hc, hcell⟩ := hv
  have HC := Lib.hid hcell
  have HEL := Lib.hid hel
  have wid : IntKind.u64.wrap id = id := u64_id (by omega) (by omega)
  have wid2 : id % 18446744073709551616 = id := by omega
  clear hcell hel
  go_enter Try.func56, Try.ntmps56
  go_wp2_with fail
  go_loopw [5, 11] (fun o i wr => ∃ j : Nat, j ≤ cs.length ∧ i = .int .i64 j ∧ o = .int .u64 (pubS cs id j) ∧ Below w.heap.size w wr) (fun _ i _ => cs.length - (intOf i).toNat)
  case atStart => exact ⟨0, by omega, rfl, rfl, below_box _ _⟩
  case round =>
    obtain ⟨j, hj, rfl, rfl, hbw⟩ := hrel
    by_cases hjl : j < cs.length
    · obtain ⟨b, off, rfl, hb, hcells⟩ := HC.out (by omega)
      have hck := (hbw.cell (p := ⟨b, off + j, none⟩) hb).trans (hcells j hjl)
      have he := isEl_bd (HEL.out j hjl)
      have PX := Lib.hid (rpA_pw id j)
      have b1 := rpA_bd id j
      have b0 := pubS_bd cs id j
      have wj : IntKind.u64.wrap (j : Int) = (j : Int) := u64_id (by omega) (by omega)
      have wj2 : (j : Int) % 18446744073709551616 = (j : Int) := by omega
      have PM := Lib.hid (pubS_mod cs id j (C := cs.getD j 0) (X := rpA id j) rfl rfl)
      obtain ⟨he1, he2⟩ := he
      obtain ⟨b1, b2⟩ := b1
      obtain ⟨b01, b02⟩ := b0
      have b3 := pw_bd (cs.getD j 0) (rpA id j).toNat (m := 2147483579) (by omega)
      have b4 := mul_lt b01 b02 b3.1 b3.2
      have b5 := mul_wrap b01 (show pubS cs id j < 4294967296 by omega) b3.1 (by omega)
      have b6 : (pubS cs id j * pw (cs.getD j 0) (rpA id j).toNat 2147483579).tmod 2147483579 = pubS cs id j * pw (cs.getD j 0) (rpA id j).toNat 2147483579 % 2147483579 := Int.tmod_eq_emod_of_nonneg b4.1
      have hp1 : ∀ W, Calls Try.prog 55 #[.int .u64 id, .int .u64 j, .int .u64 1073741789] W fun e w' => e = .returned (.int .u64 (rpA id j)) ∧ W = w' := fun W => by
        have := refPowI 1073741789 id j W (by omega) (by omega) (by omega) (by omega) (by omega) (by omega)
        rw [Int.toNat_natCast, ← PX.out] at this
        exact this
      have hp2 : ∀ W, Calls Try.prog 55 #[.int .u64 (cs.getD j 0), .int .u64 (rpA id j), .int .u64 2147483579] W fun e w' => e = .returned (.int .u64 (pw (cs.getD j 0) (rpA id j).toNat 2147483579)) ∧ W = w' := fun W =>
        refPowI 2147483579 (cs.getD j 0) (rpA id j) W (by omega) (by omega) (by omega) (by omega) b1 (by omega)
      have HP1 := Lib.hid hp1
      have HP2 := Lib.hid hp2
      clear hp1 hp2 hcells b3 b4
      generalize pw (cs.getD j 0) (rpA id j).toNat 2147483579 = Z at *
      generalize cs.getD j 0 = C at *
      generalize rpA id j = X at *
      generalize pubS cs id j = O at *
      go_wp2_with fail
      refine (HP1.out _).mono ?_
      rintro e w' ⟨rfl, rfl⟩
      go_wp2_with fail
      refine (HP2.out _).mono ?_
      rintro e w' ⟨rfl, rfl⟩
      go_wp2_with fail
      refine ⟨⟨j + 1, by omega, by go_num, by rw [PM.out], hbw⟩, by simp [intOf]; omega⟩
    · obtain rfl : j = cs.length := by omega
      go_wp2_with fail
      go_ret
      exact ⟨rfl, hbw⟩
end Go.Proofs.Ytpfpokjaeffbjab.Rck
