/- Deal: the program's and the reference's. -/
import Derived.Test.YtpfpokjaeffbjabVerify
import Derived.Test.YtpfpokjaeffbjabDealPlain
import Derived.Deep.RegionLaw
namespace Go.Proofs.Ytpfpokjaeffbjab.Dea
open Go.RowKit Go.Proofs.Ytpfpokjaeffbjab.Pl Go.Proofs.Ytpfpokjaeffbjab.Dpl Go.Proofs.Ytpfpokjaeffbjab.Fld Go.Proofs.Ytpfpokjaeffbjab.Mem Go.Proofs.Ytpfpokjaeffbjab.Sls Go.Proofs.Ytpfpokjaeffbjab.Ver

/-- What Deal leaves: an error and nothing; or the group and the shares. -/
def DealPost (t n : Int) (coeffs shares : List Int) (w : World) (e : Ending) (w' : World) : Prop :=
  Below w.heap.size w w' ∧
  ((dealE t n coeffs ≠ 0 ∧ e = .returned (.tuple #[.agg #[.int .i64 0, .int .i64 0, .slice none 0 0], .slice none 0 0, .int .i64 (dealE t n coeffs)])) ∨
   (dealE t n coeffs = 0 ∧ ∃ vc vs, e = .returned (.tuple #[.agg #[.int .i64 t, .int .i64 n, vc], vs, .int .i64 0]) ∧
     Nums .u64 w' w'.heap.size vc (comms coeffs coeffs.length) ∧ Nums .u64 w' w'.heap.size vs shares))

theorem info_scalar : (Try.prog.info? 72).map (fun i => (i.zero, i.size, i.bytes)) = some (some (.int .u64 0), 1, 8) := by kernel_rfl
theorem info_u64 : (Try.prog.info? 25).map (fun i => (i.zero, i.size, i.bytes)) = some (some (.int .u64 0), 1, 8) := by kernel_rfl


set_option maxRecDepth 100000 in
set_option maxHeartbeats 1000000 in
theorem dealBad (t n : Int) (coeffs shares : List Int) (v : Value) (w : World) (hv : Nums .u64 w w.heap.size v coeffs) (hl : coeffs.length ≤ 65536)
    (hbad : t < 2 ∨ n < t ∨ 9 < n ∨ (coeffs.length : Int) ≠ t) :
    Calls Try.prog 25 #[.int .i64 t, .int .i64 n, v] w (DealPost t n coeffs shares w) := by
  obtain ⟨A, c, rfl, hc, hcell⟩ := hv
  have hE : Hid (dealE t n coeffs = 1) := by
    show dealE t n coeffs = 1
    unfold dealE; rw [if_pos hbad]
  clear hcell
  by_cases h1 : t < 2
  case pos =>
    clear hbad
    go_enter Try.func25, Try.ntmps25
    go_wp2_with fail
    refine bodyPost_ret (v := .tuple #[.agg #[.int .i64 0, .int .i64 0, .slice none 0 0], .slice none 0 0, .int .i64 1]) (by simp [results, Try.results25, go_sem]) rfl ?_
    exact ⟨by first | exact (Below.refl _ _).alloc (Nat.le_refl _) _ | exact ((Below.refl _ _).alloc (Nat.le_refl _) _).setCell (Nat.le_refl _) _, .inl ⟨by rw [hE.out]; omega, by rw [hE.out]⟩⟩
  by_cases h2 : n < t
  case pos =>
    clear hbad
    go_enter Try.func25, Try.ntmps25
    go_wp2_with fail
    refine bodyPost_ret (v := .tuple #[.agg #[.int .i64 0, .int .i64 0, .slice none 0 0], .slice none 0 0, .int .i64 1]) (by simp [results, Try.results25, go_sem]) rfl ?_
    exact ⟨by first | exact (Below.refl _ _).alloc (Nat.le_refl _) _ | exact ((Below.refl _ _).alloc (Nat.le_refl _) _).setCell (Nat.le_refl _) _, .inl ⟨by rw [hE.out]; omega, by rw [hE.out]⟩⟩
  by_cases h3 : 9 < n
  case pos =>
    clear hbad
    go_enter Try.func25, Try.ntmps25
    go_wp2_with fail
    refine bodyPost_ret (v := .tuple #[.agg #[.int .i64 0, .int .i64 0, .slice none 0 0], .slice none 0 0, .int .i64 1]) (by simp [results, Try.results25, go_sem]) rfl ?_
    exact ⟨by first | exact (Below.refl _ _).alloc (Nat.le_refl _) _ | exact ((Below.refl _ _).alloc (Nat.le_refl _) _).setCell (Nat.le_refl _) _, .inl ⟨by rw [hE.out]; omega, by rw [hE.out]⟩⟩
  have h4 : ((coeffs.length : Int) != t) = true := by rw [bne_iff_ne]; omega
  clear hbad
  go_enter Try.func25, Try.ntmps25
  go_wp2_with fail
  refine bodyPost_ret (v := .tuple #[.agg #[.int .i64 0, .int .i64 0, .slice none 0 0], .slice none 0 0, .int .i64 1]) (by simp [results, Try.results25, go_sem]) rfl ?_
  exact ⟨by first | exact (Below.refl _ _).alloc (Nat.le_refl _) _ | exact ((Below.refl _ _).alloc (Nat.le_refl _) _).setCell (Nat.le_refl _) _, .inl ⟨by rw [hE.out]; omega, by rw [hE.out]⟩⟩

/-- THE MAIN -/
def DealInv (t n : Int) (coeffs : List Int) (w : World) (b i : Value) (wr : World) : Prop :=
  ∃ k : Nat, ∃ vc : Value, k ≤ coeffs.length ∧ i = .int .i64 k ∧ okTo coeffs k = true ∧ (0 < k → coeffs.getD 0 0 ≠ 0) ∧
    wr.ownsRow w.heap.size 72 1 b k ((coeffs.take k).map (Value.int .u64)) ∧
    wr.ownsRow w.heap.size 25 1 vc k ((comms coeffs k).map (Value.int .u64)) ∧
    Blk wr (w.heap.size + 1) 28 #[.int .i64 t, .int .i64 n, vc] ∧ Blk wr w.heap.size 28 #[.int .i64 0, .int .i64 0, .slice none 0 0] ∧ Below w.heap.size w wr

theorem dealStep {t n : Int} {coeffs : List Int} {w w1 w2 : World} {k : Nat} {x : Int} {v1 vc : Value} {A2 : Option Addr} {c2 g2 cap2 : Nat} {cs : Array Value} (hlt : k < coeffs.length)
    (hok : okTo coeffs (k + 1) = true) (hnz : coeffs.getD 0 0 ≠ 0) (hx : coeffs.getD k 0 = x)
    (h1 : w1.ownsRow w.heap.size 72 1 v1 (k + 1) ((coeffs.take k).map (Value.int .u64) ++ [.int .u64 x]))
    (h2 : w1.ownsRow w.heap.size 25 1 (.slice A2 k c2) k ((comms coeffs k).map (Value.int .u64)))
    (b1 : Blk w1 (w.heap.size + 1) 28 #[.int .i64 t, .int .i64 n, vc]) (b0 : Blk w1 w.heap.size 28 #[.int .i64 0, .int .i64 0, .slice none 0 0]) (hb : Below w.heap.size w w1)
    (h3 : w2.ownsRow w.heap.size 25 1 (.slice (some ⟨g2, 0, none⟩) (k + 1) cap2) (k + 1) ((comms coeffs k).map (Value.int .u64) ++ [.int .u64 (pw 4 x.toNat 2147483579)]))
    (hg : (w1.drew.alloc (.cells cs 25)).grownBy w2 (Value.slice A2 k c2).ownBlock) :
    DealInv t n coeffs w v1 (.int .i64 ((k : Int) + 1)) (w2.setCell ⟨w.heap.size + 1, 2, none⟩ (.slice (some ⟨g2, 0, none⟩) (k + 1) cap2)) := by
  have h2' : w1.drew.ownsRow w.heap.size 25 1 (.slice A2 k c2) k ((comms coeffs k).map (Value.int .u64)) := h2
  have h1' : w1.drew.ownsRow w.heap.size 72 1 v1 (k + 1) ((coeffs.take k).map (Value.int .u64) ++ [.int .u64 x]) := h1
  have g1 := own_grown h1' h2' (by decide) hg
  have q2 := blk_grown (show Blk w1.drew _ _ _ from b1) h2' (by decide) hg
  have g0 := blk_grown (show Blk w1.drew _ _ _ from b0) h2' (by decide) hg
  have gb := below_grown (show Below w.heap.size w w1.drew from hb.drew) h2' hb.size hg
  refine ⟨k + 1, .slice (some ⟨g2, 0, none⟩) (k + 1) cap2, by omega, by go_num, hok, fun _ => hnz, ?_, ?_, ?_, ?_, gb.setCell (by show w.heap.size ≤ w.heap.size + 1; omega) _⟩
  · have := own_far g1 q2 (by decide) 2 (.slice (some ⟨g2, 0, none⟩) (k + 1) cap2)
    rw [take_step coeffs hlt, List.map_append, hx]
    exact this
  · have := own_far h3 q2 (by decide) 2 (.slice (some ⟨g2, 0, none⟩) (k + 1) cap2)
    rw [comms_step coeffs hlt, List.map_append, hx]
    exact this
  · exact q2.set_ 2 _
  · exact g0.far (p := ⟨w.heap.size + 1, 2, none⟩) (by show w.heap.size ≠ w.heap.size + 1; omega) _

theorem dealEnd {t : Int} {m : Nat} {coeffs shares : List Int} {w wr : World} {v : Value} {A2 : Option Addr} {c2 base : Nat} {cs : Array Value} {x y z : Value} (H0 : dealE t m coeffs = 0)
    (hc : wr.ownsRow w.heap.size 25 1 (.slice A2 coeffs.length c2) coeffs.length ((comms coeffs coeffs.length).map (Value.int .u64)))
    (hs : wr.ownsRow base 25 1 v m (shares.map (Value.int .u64))) (hb : Blk wr w.heap.size 28 cs) (hw : Below w.heap.size w wr) :
    DealPost t m coeffs shares w (.returned (.tuple #[.agg #[.int .i64 t, .int .i64 (m : Int), .slice A2 coeffs.length c2], v, .int .i64 0]))
      (((wr.setCell ⟨w.heap.size, 0, none⟩ x).setCell ⟨w.heap.size, 1, none⟩ y).setCell ⟨w.heap.size, 2, none⟩ z) := by
  have hb1 := hb.set_ 0 x
  have hb2 := hb1.set_ 1 y
  have c3 := own_far (own_far (own_far hc hb (by decide) 0 x) hb1 (by decide) 1 y) hb2 (by decide) 2 z
  have s3 := own_far (own_far (own_far hs hb (by decide) 0 x) hb1 (by decide) 1 y) hb2 (by decide) 2 z
  have hlen : shares.length = m := by have := s3.1; simpa using this
  refine ⟨((hw.setCell (Nat.le_refl _) _).setCell (Nat.le_refl _) _).setCell (Nat.le_refl _) _, .inr ⟨H0, _, _, rfl, ?_, ?_⟩⟩
  · exact Nums.own (by rw [comms_length coeffs (Nat.le_refl _)]; exact c3)
  · exact Nums.own (by rw [hlen]; exact s3)

set_option maxRecDepth 100000 in
set_option maxHeartbeats 2000000 in
theorem dealGood (t : Int) (N : Nat) (coeffs : List Int) (v : Value) (w : World) (hv : Nums .u64 w w.heap.size v coeffs) (hl : coeffs.length ≤ 65536)
    (hcb : ∀ i, i < coeffs.length → 0 ≤ coeffs.getD i 0 ∧ coeffs.getD i 0 < 18446744073709551616) (h1 : 2 ≤ t) (h2 : t ≤ N) (h3 : N ≤ 9) (h4 : (coeffs.length : Int) = t) :
    Calls Try.prog 25 #[.int .i64 t, .int .i64 (N : Int), v] w (DealPost t N coeffs (sharesP coeffs N) w) := by
  obtain ⟨A, c, rfl, hc, hcell⟩ := hv
  have HC := Lib.hid hcell
  have HCB := Lib.hid hcb
  have H4 := Lib.hid h4
  have hE : Hid (dealE t N coeffs = if coeffs.getD 0 0 = 0 ∨ okTo coeffs coeffs.length = false then 2 else 0) := by
    show dealE t N coeffs = _
    unfold dealE; rw [if_neg (by omega)]
  have hne : ((coeffs.length : Int) != t) = false := by rw [bne_eq_false_iff_eq]; exact h4
  have hn1 : ¬ t < 2 := by omega
  have hn2 : ¬ (N : Int) < t := by omega
  have hn3 : ¬ 9 < (N : Int) := by omega
  have hlp : 2 ≤ coeffs.length := by omega
  have hl9 : coeffs.length ≤ 9 := by omega
  clear hcell hcb h4
  obtain ⟨i0, hi, hz0, hz1, hz2⟩ := info_parts info_scalar
  obtain ⟨i1, hj, hy0, hy1, hy2⟩ := info_parts info_u64
  go_enter Try.func25, Try.ntmps25
  go_wp2_with fail
  go_loopw [9, 40] (fun b i wr => DealInv t N coeffs w b i wr) (fun _ i _ => coeffs.length - (intOf i).toNat)
  case atStart =>
    exact ⟨0, .slice none 0 0, by omega, rfl, rfl, fun h => absurd h (by omega), World.ownsRow_nil _ _ _ _, World.ownsRow_nil _ _ _ _,
      by simpa using Blk.new (w.alloc (.cells #[.int .i64 0, .int .i64 0, .slice none 0 0] 28)) 28 #[.int .i64 t, .int .i64 (N : Int), .slice none 0 0],
      (Blk.new w 28 #[.int .i64 0, .int .i64 0, .slice none 0 0]).alloc _, ((Below.refl _ _).alloc (Nat.le_refl _) _).alloc (by simp) _⟩
  case round =>
    obtain ⟨k, vc, hk, rfl, hok, hnz, hown, hownc, hblk, hblk0, hbw⟩ := hrel
    obtain ⟨A1, c1, rfl⟩ := own_shape hown
    obtain ⟨A2, c2, rfl⟩ := own_shape hownc
    have HO := Lib.hid hown
    have HOC := Lib.hid hownc
    have HK := Lib.hid hok
    have HNZ := Lib.hid hnz
    clear hown hownc hok hnz
    by_cases hlt : k < coeffs.length
    · obtain ⟨b, off, rfl, hb, hcells⟩ := HC.out (by omega)
      have hck := (hbw.cell (p := ⟨b, off + k, none⟩) hb).trans (hcells k hlt)
      have hxb := HCB.out k hlt
      clear hcells
      have hc0 : wr.cell? ⟨w.heap.size, 0, none⟩ = some (.int .i64 0) := hblk0.cell 0
      have hc1 : wr.cell? ⟨w.heap.size, 1, none⟩ = some (.int .i64 0) := hblk0.cell 1
      have hc2 : wr.cell? ⟨w.heap.size, 2, none⟩ = some (.slice none 0 0) := hblk0.cell 2
      have hf0 := hblk0.frozen 0
      have hf1 := hblk0.frozen 1
      have hf2 := hblk0.frozen 2
      have hbad : (¬ coeffs.getD k 0 < 1073741789 ∨ (k = 0 ∧ coeffs.getD k 0 = 0)) → Hid (dealE t N coeffs = 2) := by
        intro h
        show dealE t N coeffs = 2
        rw [hE.out, if_pos]
        rcases h with h | ⟨rfl, h⟩
        · exact .inr (okTo_bad coeffs hlt h)
        · exact .inl h
      have HBAD := Lib.hid hbad
      have hstep : coeffs.getD k 0 < 1073741789 → okTo coeffs (k + 1) = true := fun h => okTo_step coeffs HK.out h
      have HSTEP := Lib.hid hstep
      have HTK := Lib.hid (take_step coeffs hlt)
      have HCM := Lib.hid (comms_step coeffs hlt)
      have hfirst : Hid (k = 0 → coeffs.getD k 0 = coeffs.getD 0 0) := by
        show k = 0 → _
        rintro rfl; rfl
      clear hbad hstep
      generalize hX : coeffs.getD k 0 = x at *
      have HX := Lib.hid hX
      clear hX
      by_cases hxq : x < 1073741789
      case neg =>
        have hE2 := HBAD.out (.inl hxq)
        go_wp2_with (go_at_call 30; refine (scIs false x _ (by simp; omega)).mono ?_; rintro e w' ⟨rfl, rfl⟩)
        refine bodyPost_ret (v := .tuple #[.agg #[.int .i64 0, .int .i64 0, .slice none 0 0], .slice none 0 0, .int .i64 2]) (by simp [results, Try.results25, go_sem, World.cell?_setCell_same, World.cell?_setCell_other, hc0, hc1, hc2]) rfl ?_
        exact ⟨by first | exact hbw | exact hbw.setCell (Nat.le_refl _) _ | exact ((hbw.setCell (Nat.le_refl _) _).setCell (Nat.le_refl _) _).setCell (Nat.le_refl _) _, .inl ⟨by rw [hE2.out]; omega, by rw [hE2.out]⟩⟩
      have hzero : ∃ bz, (x == 0) = bz := ⟨_, rfl⟩
      obtain ⟨bz, hbz⟩ := hzero
      by_cases hk0 : k = 0
      case pos =>
        have hkz : ((k : Int) == 0) = true := by rw [beq_iff_eq]; omega
        have hx0 := hfirst.out hk0
        cases bz
        case true =>
          have hxz : x = 0 := by rwa [beq_iff_eq] at hbz
          have hE2 := HBAD.out (.inr ⟨hk0, hxz⟩)
          clear hxz hx0 hk0
          go_wp2_with (go_at_call 30; refine (scIs true x _ (by simp; omega)).mono ?_; rintro e w' ⟨rfl, rfl⟩)
          refine bodyPost_ret (v := .tuple #[.agg #[.int .i64 0, .int .i64 0, .slice none 0 0], .slice none 0 0, .int .i64 2]) (by simp [results, Try.results25, go_sem, World.cell?_setCell_same, World.cell?_setCell_other, hc0, hc1, hc2]) rfl ?_
          exact ⟨by first | exact hbw | exact hbw.setCell (Nat.le_refl _) _ | exact ((hbw.setCell (Nat.le_refl _) _).setCell (Nat.le_refl _) _).setCell (Nat.le_refl _) _, .inl ⟨by rw [hE2.out]; omega, by rw [hE2.out]⟩⟩
        case false =>
          have NZ : Hid (coeffs.getD 0 0 ≠ 0) := by
            show coeffs.getD 0 0 ≠ 0
            rw [← hx0]
            rw [beq_eq_false_iff_ne] at hbz
            exact hbz
          clear hc0 hc1 hc2 hf0 hf1 hf2 hx0 hk0
          go_wp2_with (first | (go_at_call 30; refine (scIs true x _ (by simp; omega)).mono ?_; rintro e w' ⟨rfl, rfl⟩) | (at_builtin; refine wpList_append_own _ rfl (.tmp 61) (.tmp 63) _ rfl w.heap.size 72 i0 (.int .u64 0) 1 8 Try.underlying101 hi hz0 hz1 hz2 rfl (by decide) _ _ _ rfl (HO.out.alloc _) ⟨wr.heap.size, 0, none⟩ 1 1 [.int .u64 x] rfl rfl (cell_one_new _ _ _) (by simp [Value.oneCell']) (by unfold maxLen; omega) (by omega) (by have := hbw.size; simp; omega) ?_; intro v1 w1 hown1 hgrow1 _))
          have hbw1 := below_grown hbw HO.out hbw.size hgrow1
          have hblk1 := blk_grown hblk HO.out (by decide) hgrow1
          have hblk01 := blk_grown hblk0 HO.out (by decide) hgrow1
          have hownc1 := own_grown HOC.out HO.out (by decide) hgrow1
          clear hgrow1 hbw hblk hblk0
          have HO1 := Lib.hid hown1
          have HOC1 := Lib.hid hownc1
          clear hown1 hownc1
          have hc2 := hblk1.cell 2
          have hf2 := hblk1.frozen 2
          have hsz1 := hblk1.lt
          go_region_law (first | (go_simp; refine (baseI x _ hxb.1 hxb.2).mono ?_; rintro e w' ⟨rfl, rfl⟩) | (refine step_append_lies _ (by rfl) (.tmp 66) (.tmp 69) _ (by rfl) w.heap.size 25 i1 (.int .u64 0) 1 8 Try.underlying26 hj hy0 hy1 hy2 rfl (by decide) (.slice A2 k c2) k _ (by rfl) (show (World.alloc w1.drew _).ownsRow _ _ _ _ _ _ from (show w1.drew.ownsRow _ _ _ _ _ _ from HOC1.out).alloc _) ⟨w1.heap.size, 0, none⟩ 1 1 [.int .u64 (pw 4 x.toNat 2147483579)] (by rfl) rfl (cell_one_new _ _ _) (by simp [Value.oneCell']) (by omega) (by unfold maxLen; omega) (by omega) (by have := hbw1.size; simp; omega) (w1.heap.size + 1) (by simp) ?_; intro g2 cap2 w2 hown2 hgrow2 hat2 hlt2; have hblk2 := blk_grown (show Blk w1.drew _ _ _ from hblk1) (show w1.drew.ownsRow _ _ _ _ _ _ from HOC1.out) (by decide) hgrow2; have hc22 := hblk2.cell 2; have hf22 := hblk2.frozen 2))
          all_goals
            go_wp2_with fail
            refine ⟨dealStep hlt (HSTEP.out hxq) NZ.out HX.out HO1.out HOC1.out hblk1 hblk01 hbw1 hown2 hgrow2, ?_⟩
            simp [intOf]; omega
      case neg =>
        have hkz : ((k : Int) == 0) = false := by rw [beq_eq_false_iff_ne]; omega
        have NZ := Lib.hid (HNZ.out (by omega))
        clear hc0 hc1 hc2 hf0 hf1 hf2
        cases bz
        all_goals
          go_wp2_with (first | (go_at_call 30; refine (scIs true x _ (by simp; omega)).mono ?_; rintro e w' ⟨rfl, rfl⟩) | (at_builtin; refine wpList_append_own _ rfl (.tmp 61) (.tmp 63) _ rfl w.heap.size 72 i0 (.int .u64 0) 1 8 Try.underlying101 hi hz0 hz1 hz2 rfl (by decide) _ _ _ rfl (HO.out.alloc _) ⟨wr.heap.size, 0, none⟩ 1 1 [.int .u64 x] rfl rfl (cell_one_new _ _ _) (by simp [Value.oneCell']) (by unfold maxLen; omega) (by omega) (by have := hbw.size; simp; omega) ?_; intro v1 w1 hown1 hgrow1 _))
          have hbw1 := below_grown hbw HO.out hbw.size hgrow1
          have hblk1 := blk_grown hblk HO.out (by decide) hgrow1
          have hblk01 := blk_grown hblk0 HO.out (by decide) hgrow1
          have hownc1 := own_grown HOC.out HO.out (by decide) hgrow1
          clear hgrow1 hbw hblk hblk0
          have HO1 := Lib.hid hown1
          have HOC1 := Lib.hid hownc1
          clear hown1 hownc1
          have hc2 := hblk1.cell 2
          have hf2 := hblk1.frozen 2
          have hsz1 := hblk1.lt
          go_region_law (first | (go_simp; refine (baseI x _ hxb.1 hxb.2).mono ?_; rintro e w' ⟨rfl, rfl⟩) | (refine step_append_lies _ (by rfl) (.tmp 66) (.tmp 69) _ (by rfl) w.heap.size 25 i1 (.int .u64 0) 1 8 Try.underlying26 hj hy0 hy1 hy2 rfl (by decide) (.slice A2 k c2) k _ (by rfl) (show (World.alloc w1.drew _).ownsRow _ _ _ _ _ _ from (show w1.drew.ownsRow _ _ _ _ _ _ from HOC1.out).alloc _) ⟨w1.heap.size, 0, none⟩ 1 1 [.int .u64 (pw 4 x.toNat 2147483579)] (by rfl) rfl (cell_one_new _ _ _) (by simp [Value.oneCell']) (by omega) (by unfold maxLen; omega) (by omega) (by have := hbw1.size; simp; omega) (w1.heap.size + 1) (by simp) ?_; intro g2 cap2 w2 hown2 hgrow2 hat2 hlt2; have hblk2 := blk_grown (show Blk w1.drew _ _ _ from hblk1) (show w1.drew.ownsRow _ _ _ _ _ _ from HOC1.out) (by decide) hgrow2; have hc22 := hblk2.cell 2; have hf22 := hblk2.frozen 2))
          all_goals
            go_wp2_with fail
            refine ⟨dealStep hlt (HSTEP.out hxq) NZ.out HX.out HO1.out HOC1.out hblk1 hblk01 hbw1 hown2 hgrow2, ?_⟩
            simp [intOf]; omega
    · obtain rfl : k = coeffs.length := by omega
      have hE0 : Hid (dealE t N coeffs = 0) := by
        show dealE t N coeffs = 0
        rw [hE.out, if_neg]
        rintro (h | h)
        · exact HNZ.out (by omega) h
        · rw [HK.out] at h; cases h
      have hnl := Nums.own (k := .u64) (l := coeffs.take coeffs.length) (by rw [List.length_take, Nat.min_self]; exact HO.out)
      rw [List.take_length] at hnl
      have hnc := Nums.own (k := .u64) (l := comms coeffs coeffs.length) (by rw [comms_length coeffs (Nat.le_refl _)]; exact HOC.out)
      have HNL := Lib.hid hnl
      have HNC := Lib.hid hnc
      clear hnl hnc
      obtain ⟨wo, rfl⟩ : ∃ wo : World, wo = wr := ⟨_, rfl⟩
      go_wp2_with fail
      go_loopw [15, 16] (fun s i wr => ∃ m : Nat, m ≤ N ∧ i = .int .i64 ((m : Int) + 1) ∧ wr.ownsRow wo.heap.size 25 1 s m ((sharesP coeffs m).map (Value.int .u64)) ∧ Below wo.heap.size wo wr) (fun _ i _ => ((N : Int) + 1 - intOf i).toNat)
      case atStart => exact ⟨0, by omega, rfl, World.ownsRow_nil _ _ _ _, Below.refl _ _⟩
      case round =>
        obtain ⟨m, hm, rfl, hs, hbwr⟩ := hrel
        have HS := Lib.hid hs
        clear hs
        by_cases hmN : m < N
        · have hst := Lib.hid (sharesP_step coeffs m)
          have HNL2 := Lib.hid (HNL.out.later hbwr)
          go_wp2_with (first | (go_at_call 70; refine (smallIs _ _ (by omega) (by omega)).mono ?_; rintro e w' ⟨rfl, rfl⟩) | (go_at_call 69; refine (polyC coeffs _ _ _ HNL2.out hl).mono ?_; rintro e w' ⟨rfl, nq, rfl⟩) | (at_builtin; refine wpList_append_own _ rfl (.tmp 78) (.tmp 83) _ rfl wo.heap.size 25 i1 (.int .u64 0) 1 8 Try.underlying26 hj hy0 hy1 hy2 rfl (by decide) _ _ _ rfl ((ownsRow_drewN HS.out nq).alloc _) ⟨wr.heap.size, 0, none⟩ 1 1 [.int .u64 (poly coeffs ((m : Int) + 1))] rfl rfl (cell_one_new _ _ _) (by simp [Value.oneCell']) (by unfold maxLen; omega) (by omega) (by have := hbwr.size; simp; omega) ?_; intro v3 w3 hown3 hgrow3 _))
          have hbw3 := below_grown (below_drewN hbwr nq) (ownsRow_drewN HS.out nq) hbwr.size hgrow3
          refine ⟨⟨m + 1, by omega, by go_num, ?_, hbw3⟩, ?_⟩
          · rw [hst.out, List.map_append]
            exact hown3
          · simp [intOf]; omega
        · obtain rfl : m = N := by omega
          have hblk2 := hblk.below hbwr hblk.lt
          have hblk02 := hblk0.below hbwr hblk0.lt
          have d0 : wr.cell? ⟨w.heap.size + 1, 0, none⟩ = some (.int .i64 t) := hblk2.cell 0
          have d1 : wr.cell? ⟨w.heap.size + 1, 1, none⟩ = some (.int .i64 (m : Int)) := hblk2.cell 1
          have d2 : wr.cell? ⟨w.heap.size + 1, 2, none⟩ = some (.slice A2 coeffs.length c2) := hblk2.cell 2
          have hc0 : wr.cell? ⟨w.heap.size, 0, none⟩ = some (.int .i64 0) := hblk02.cell 0
          have hc1 : wr.cell? ⟨w.heap.size, 1, none⟩ = some (.int .i64 0) := hblk02.cell 1
          have hc2 : wr.cell? ⟨w.heap.size, 2, none⟩ = some (.slice none 0 0) := hblk02.cell 2
          have hf0 := hblk02.frozen 0
          have hf1 := hblk02.frozen 1
          have hf2 := hblk02.frozen 2
          go_wp2_with fail
          refine bodyPost_ret (v := .tuple #[.agg #[.int .i64 t, .int .i64 (m : Int), .slice A2 coeffs.length c2], u15, .int .i64 0]) (by simp [results, Try.results25, go_sem, World.cell?_setCell_same, World.cell?_setCell_other, hc0, hc1, hc2]) rfl ?_
          have hc' : wr.ownsRow w.heap.size 25 1 (.slice A2 coeffs.length c2) coeffs.length ((comms coeffs coeffs.length).map (Value.int .u64)) := own_below HOC.out hbwr (Nat.le_refl _)
          exact dealEnd (H0 := hE0.out) hc' HS.out hblk02 (hbw.trans (hbwr.mono hbw.size))

/-- THE REFERENCE. -/
def RDealInv (t n : Int) (coeffs : List Int) (w : World) (i : Value) (wr : World) : Prop :=
  ∃ k : Nat, ∃ vc : Value, k ≤ coeffs.length ∧ i = .int .i64 k ∧ okTo coeffs k = true ∧
    wr.ownsRow w.heap.size 25 1 vc k ((comms coeffs k).map (Value.int .u64)) ∧
    Blk wr (w.heap.size + 1) 28 #[.int .i64 t, .int .i64 n, vc] ∧ Blk wr w.heap.size 28 #[.int .i64 0, .int .i64 0, .slice none 0 0] ∧ Below w.heap.size w wr

theorem rdealStep {t n : Int} {coeffs : List Int} {w w1 w2 : World} {k : Nat} {x : Int} {vc : Value} {A2 : Option Addr} {c2 g2 cap2 : Nat} {cs : Array Value} (hlt : k < coeffs.length)
    (hok : okTo coeffs (k + 1) = true) (hx : coeffs.getD k 0 = x)
    (h2 : w1.ownsRow w.heap.size 25 1 (.slice A2 k c2) k ((comms coeffs k).map (Value.int .u64)))
    (b1 : Blk w1 (w.heap.size + 1) 28 #[.int .i64 t, .int .i64 n, vc]) (b0 : Blk w1 w.heap.size 28 #[.int .i64 0, .int .i64 0, .slice none 0 0]) (hb : Below w.heap.size w w1)
    (h3 : w2.ownsRow w.heap.size 25 1 (.slice (some ⟨g2, 0, none⟩) (k + 1) cap2) (k + 1) ((comms coeffs k).map (Value.int .u64) ++ [.int .u64 (pw 4 x.toNat 2147483579)]))
    (hg : (w1.drew.alloc (.cells cs 25)).grownBy w2 (Value.slice A2 k c2).ownBlock) :
    RDealInv t n coeffs w (.int .i64 ((k : Int) + 1)) (w2.setCell ⟨w.heap.size + 1, 2, none⟩ (.slice (some ⟨g2, 0, none⟩) (k + 1) cap2)) := by
  have h2' : w1.drew.ownsRow w.heap.size 25 1 (.slice A2 k c2) k ((comms coeffs k).map (Value.int .u64)) := h2
  have q2 := blk_grown (show Blk w1.drew _ _ _ from b1) h2' (by decide) hg
  have g0 := blk_grown (show Blk w1.drew _ _ _ from b0) h2' (by decide) hg
  have gb := below_grown (show Below w.heap.size w w1.drew from hb.drew) h2' hb.size hg
  refine ⟨k + 1, .slice (some ⟨g2, 0, none⟩) (k + 1) cap2, by omega, by go_num, hok, ?_, ?_, ?_, gb.setCell (by show w.heap.size ≤ w.heap.size + 1; omega) _⟩
  · have := own_far h3 q2 (by decide) 2 (.slice (some ⟨g2, 0, none⟩) (k + 1) cap2)
    rw [comms_step coeffs hlt, List.map_append, hx]
    exact this
  · exact q2.set_ 2 _
  · exact g0.far (p := ⟨w.heap.size + 1, 2, none⟩) (by show w.heap.size ≠ w.heap.size + 1; omega) _

end Go.Proofs.Ytpfpokjaeffbjab.Dea
