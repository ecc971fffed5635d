/- The reference's signers: Sign. -/
import Derived.Test.YtpfpokjaeffbjabRefSignerCommit
import Derived.Test.YtpfpokjaeffbjabSignPlain
import Derived.Test.YtpfpokjaeffbjabCombinesPlain
namespace Go.Proofs.Ytpfpokjaeffbjab.Rsg
open Go.RowKit Go.Proofs.Ytpfpokjaeffbjab.Pl Go.Proofs.Ytpfpokjaeffbjab.Dpl Go.Proofs.Ytpfpokjaeffbjab.Gpl Go.Proofs.Ytpfpokjaeffbjab.Kpl Go.Proofs.Ytpfpokjaeffbjab.Fld Go.Proofs.Ytpfpokjaeffbjab.Mem Go.Proofs.Ytpfpokjaeffbjab.Mpp Go.Proofs.Ytpfpokjaeffbjab.Spl Go.Proofs.Ytpfpokjaeffbjab.Ver Go.Proofs.Ytpfpokjaeffbjab.Rck Go.Proofs.Ytpfpokjaeffbjab.Rkg
open Go.Proofs.Ytpfpokjaeffbjab.Sgn (Only own_block)
set_option linter.unusedVariables false

/-- None of the first k commitments is of a pair. -/
def NoneTo (s : St) (l : List Cm) (k : Nat) : Prop := ∀ k', k' < k → ∀ q ∈ s.pl, cmOf s.id q ≠ l.getD k' .zero
theorem rel_nothing {s s' : St} {msg : ByteArray} {l : List Cm} {v e : Int} (hr : SignRel s msg l v e s') (h : pkE s.t s.n l = 0) (hn : NoneTo s l l.length) : v = 0 ∧ e = 10 ∧ s' = s := by
  cases hr with
  | pk h' => exact absurd h h'
  | mine h' => exact ⟨rfl, rfl, rfl⟩
  | zero k j q h' hk hj hq => exact absurd hq (hn k hk q (List.mem_of_getElem? hj))
  | good k j q h' hk hj hq => exact absurd hq (hn k hk q (List.mem_of_getElem? hj))
/-- A pair is hit: the first one. -/
theorem rel_first {s s' : St} {msg : ByteArray} {l : List Cm} {v e : Int} (hr : SignRel s msg l v e s') (hok : Ok s) (h : pkE s.t s.n l = 0) {k i : Nat} (hk : k < l.length) (hi : i < s.pl.length) (hq : cmOf s.id (s.pl.getD i (0, 0)) = l.getD k .zero) :
    (allP l (s.cs.getD 0 0) msg = 1 ∧ v = 0 ∧ e = 11 ∧ s' = s) ∨ (allP l (s.cs.getD 0 0) msg ≠ 1 ∧ v = shareP s msg l k (s.pl.getD i (0, 0)) ∧ e = 0 ∧ s' = { s with pl := s.pl.eraseIdx i }) := by
  have hat : s.pl[i]? = some (s.pl.getD i (0, 0)) := by rw [List.getD_eq_getElem?_getD, List.getElem?_eq_getElem hi]; rfl
  have hm := mineP_hit (good_of h) hk (cm_id hq)
  obtain ⟨j, hj, r⟩ := rel_hit hr hok h hm (List.mem_of_getElem? hat) hq
  have : j = i := uniq_at hok.uniq hj hat
  subst this
  exact r

theorem row_take {w : World} {b cap : Nat} {id : Int} {pl : List (Int × Int)} (h : w.ownsRow 0 176 5 (.slice (some ⟨b, 0, none⟩) pl.length cap) pl.length (prCells id pl)) {j : Nat} (hj : j ≤ pl.length) :
    Row w w.heap.size 5 (.slice (some ⟨b, 0, none⟩) j cap) j (prCells id (pl.take j)) := by
  obtain ⟨hl, A, c, hv, hc, hr⟩ := Row.own h
  simp only [Value.slice.injEq] at hv
  obtain ⟨rfl, -, rfl⟩ := hv
  refine ⟨by rw [prCells_length, List.length_take]; congr 1; omega, _, _, rfl, by omega, fun hp => ?_⟩
  obtain ⟨b', off, he, hb, hcell⟩ := hr (by omega)
  refine ⟨b', off, he, hb, fun m u hu => hcell m u ?_⟩
  have e : prCells id pl = prCells id (pl.take j) ++ prCells id (pl.drop j) := by rw [← prCells_append, List.take_append_drop]
  rw [e, List.getElem?_append_left (List.getElem?_eq_some_iff.1 hu).1]
  exact hu
theorem row_drop {w : World} {b cap : Nat} {id : Int} {pl : List (Int × Int)} (h : w.ownsRow 0 176 5 (.slice (some ⟨b, 0, none⟩) pl.length cap) pl.length (prCells id pl)) {j m : Nat} (hj : j ≤ pl.length) (hm : pl.length - j = m) (o c : Nat) (ho : o = j * 5) (hc : m ≤ c) :
    Row w w.heap.size 5 (.slice (some ⟨b, o, none⟩) m c) m (prCells id (pl.drop j)) := by
  subst ho hm
  obtain ⟨hl, A, c', hv, hc', hr⟩ := Row.own h
  simp only [Value.slice.injEq] at hv
  obtain ⟨rfl, -, rfl⟩ := hv
  refine ⟨by rw [prCells_length, List.length_drop], _, _, rfl, hc, fun hp => ?_⟩
  obtain ⟨b', off, he, hb, hcell⟩ := hr (by omega)
  simp only [Option.some.injEq, Addr.mk.injEq, and_true] at he
  obtain ⟨rfl, rfl⟩ := he
  refine ⟨b, _, rfl, hb, fun k u hu => ?_⟩
  have e : prCells id pl = prCells id (pl.take j) ++ prCells id (pl.drop j) := by rw [← prCells_append, List.take_append_drop]
  have hlt : (prCells id (pl.take j)).length = j * 5 := by rw [prCells_length, List.length_take]; congr 1; omega
  have := hcell (j * 5 + k) u (by rw [e, List.getElem?_append_right (by omega), hlt, Nat.add_sub_cancel_left]; exact hu)
  rwa [Nat.zero_add] at this
theorem cell_keep {w : World} {S : Nat} {A : Option Addr} {n c : Nat} {v : Value} (h5 : w.cell? ⟨S, 5, none⟩ = some (.slice A n c)) {b i : Nat} {u : Value} (h : w.cell? ⟨b, i, none⟩ = some u) (hu : ∃ k x, u = .int k x) : (w.setCell ⟨S, 5, none⟩ v).cell? ⟨b, i, none⟩ = some u := by
  rw [World.cell?_setCell_other]
  · exact h
  · intro e
    obtain ⟨k, x, rfl⟩ := hu
    rw [← e, h5] at h
    cases h
theorem nums_keep {w : World} {S : Nat} {A : Option Addr} {n c : Nat} {v : Value} (h5 : w.cell? ⟨S, 5, none⟩ = some (.slice A n c)) {k : IntKind} {u : Value} {l : List Int} (h : Nums k w w.heap.size u l) : Nums k (w.setCell ⟨S, 5, none⟩ v) (w.setCell ⟨S, 5, none⟩ v).heap.size u l := by
  obtain ⟨A', c', rfl, hc, h⟩ := h
  refine ⟨A', c', rfl, hc, fun hp => ?_⟩
  obtain ⟨b, off, rfl, hb, h⟩ := h hp
  exact ⟨b, off, rfl, by simpa using hb, fun i hi => cell_keep h5 (h i hi) ⟨_, _, rfl⟩⟩
theorem coms_keep {w : World} {S : Nat} {A : Option Addr} {n c : Nat} {v : Value} (h5 : w.cell? ⟨S, 5, none⟩ = some (.slice A n c)) {u : Value} {l : List Cm} (h : Coms w w.heap.size u l) : Coms (w.setCell ⟨S, 5, none⟩ v) (w.setCell ⟨S, 5, none⟩ v).heap.size u l := by
  obtain ⟨h1, A', c', rfl, hc, h⟩ := h
  refine ⟨h1, A', c', rfl, hc, fun hp => ?_⟩
  obtain ⟨b, off, rfl, hb, h⟩ := h hp
  refine ⟨b, off, rfl, by simpa using hb, fun j u hj => cell_keep h5 (h j u hj) ?_⟩
  have hm := List.mem_of_getElem? hj
  simp only [comCells, List.mem_flatMap, Cm.cells, List.mem_cons, List.not_mem_nil, or_false] at hm
  obtain ⟨x, _, rfl | rfl | rfl⟩ := hm <;> exact ⟨_, _, rfl⟩
theorem rpk_set {w : World} {p : Nat} {vc lv vi : Value} {t n : Int} {cs : List Int} {l : List Cm} {msg : ByteArray} {S : Nat} {C : Array Value} {A : Option Addr} {m c : Nat} (h : RPk w p vc lv vi t n cs l msg) (hS : Blk w S 174 C) (h5 : w.cell? ⟨S, 5, none⟩ = some (.slice A m c)) (v : Value) :
    RPk (w.setCell ⟨S, 5, none⟩ v) p vc lv vi t n cs l msg :=
  ⟨h.pk.far (p := ⟨S, 5, none⟩) (Blk.ne_ h.pk hS (by decide)) v, coms_keep h5 h.coms, nums_keep h5 h.nums, nums_keep h5 h.ids⟩
/-- Behind the two appends and the store. -/
theorem sg_step {w W11 w3 : World} {a : RLoc} {s : St} {p PB : Nat} {vc lv vi : Value} {l : List Cm} {msg : ByteArray} {cc : Array Value} {A : Option Addr} {j m c : Nat} {v3 : Value} (h11 : RSg W11 a s) (hp : RPk W11 p vc lv vi s.t s.n s.cs l msg) (hb : Blk W11 PB 176 cc) (hw : Below w.heap.size w W11)
    (h3 : Below W11.heap.size W11 w3) (hpv : a.pv = .slice A m c) (hj : j < s.pl.length) (hown : w3.ownsRow W11.heap.size 176 5 v3 (j + (s.pl.length - (j + 1))) (prCells s.id (s.pl.take j) ++ prCells s.id (s.pl.drop (j + 1)))) :
    RSg (w3.setCell ⟨a.S, 5, none⟩ v3) { a with pv := v3 } { s with pl := s.pl.eraseIdx j } ∧ RPk (w3.setCell ⟨a.S, 5, none⟩ v3) p vc lv vi s.t s.n s.cs l msg ∧ Blk (w3.setCell ⟨a.S, 5, none⟩ v3) PB 176 cc ∧
    Only a.foot w (w3.setCell ⟨a.S, 5, none⟩ v3) ∧ (∀ g, v3.ownBlock = some g → w.heap.size ≤ g) := by
  have k3 := h11.later h3
  have p3 := hp.later h3
  have b3 := hb.below h3 hb.lt
  have h5 := k3.cells.2.2.2.2.2
  rw [hpv] at h5
  refine ⟨⟨k3.sg.set_ 5 _, own_far k3.own k3.sg (by decide) 5 _, ?_⟩, rpk_set p3 k3.sg h5 _, b3.far (p := ⟨a.S, 5, none⟩) (Blk.ne_ b3 k3.sg (by decide)) _, (Sgn.Only.of_below (hw.trans (h3.mono hw.size))).set_ (S_in a) 5 _, fun g hg => ?_⟩
  · show World.ownsRow _ _ _ _ _ (s.pl.eraseIdx j).length (prCells s.id (s.pl.eraseIdx j))
    have hl : (s.pl.eraseIdx j).length = j + (s.pl.length - (j + 1)) := by rw [List.length_eraseIdx, if_pos hj]; omega
    rw [hl, List.eraseIdx_eq_take_drop_succ, prCells_append]
    exact own_base (own_far hown k3.sg (by decide) 5 _)
  · have := (hown.lt g hg).1
    have := hw.size
    omega
theorem ids_bd {n : Int} {l : List Cm} (h : Kpl.Good n l) (hn : n ≤ 9) : ∀ i, i < (idsOf l l.length).length → 1 ≤ (idsOf l l.length).getD i 0 ∧ (idsOf l l.length).getD i 0 ≤ 9 := by
  intro i hi
  rw [idsOf_length] at hi
  rw [idsOf_at l hi]
  have := (h i hi).1
  omega
/-- The share, by the reference's way of reckoning. -/
theorem share_ref {s : St} {msg : ByteArray} {l : List Cm} {k : Nat} {q : Int × Int} {K R : Int} (hok : Ok s) (hg : Kpl.Good s.n l) (hk : k < l.length) (hq : (0 < q.1 ∧ q.1 < 1073741789) ∧ (0 < q.2 ∧ q.2 < 1073741789)) (hK : s.cs.getD 0 0 = K) (hR : allP l K msg = R) :
    shareP s msg l k q = (q.1 + q.2 * bindP l K msg k + weight (idsOf l l.length) k * s.share % 1073741789 * chal R K msg % 1073741789) % 1073741789 := by
  have hw := wtS_bd (idsOf l l.length) k (idsOf l l.length).length
  have hn := hok.spec.2.2.1
  have hlw := Go.Proofs.Ytpfpokjaeffbjab.Cpl.lagrange_weight (idsOf l l.length) k (ids_bd hg hn) (by rw [idsOf_length]; exact hk)
  unfold shareP
  rw [hK, hR, hlw]
  exact sign_eq ⟨by omega, by omega⟩ ⟨by omega, by omega⟩ (bindP_bd _ _ _ _) hw ⟨hok.sh0, hok.sh1⟩ (chal_bd _ _ _)
theorem erase_cells (id : Int) (pl : List (Int × Int)) (j : Nat) : prCells id (pl.eraseIdx j) = prCells id (pl.take j) ++ prCells id (pl.drop (j + 1)) := by
  rw [List.eraseIdx_eq_take_drop_succ, prCells_append]

set_option maxRecDepth 100000 in
set_option maxHeartbeats 8000000 in
theorem refSignC (w : World) (a : RLoc) (s : St) (msg : ByteArray) (l : List Cm) (lv : Value) (h : RSg w a s) (hok : Ok s) (hC : Coms w w.heap.size lv l) (hl : l.length ≤ 65536)
    (hb : ∀ i, i < l.length → 0 ≤ (l.getD i .zero).d ∧ 0 ≤ (l.getD i .zero).e) (hms : msg.size ≤ 1000000) (v e : Int) (s' : St) (hr : SignRel s msg l v e s') :
    Calls Try.prog 66 #[.pointer (some ⟨a.S, 0, none⟩), .string msg, lv] w fun x w' => x = .returned (.tuple #[.int .u64 v, .int .i64 e]) ∧ Moved w w' a s' := by
  obtain ⟨A, c, rfl⟩ := hC.shape
  have H := Lib.hid h
  have HOK := Lib.hid hok
  have HR := Lib.hid hr
  obtain ⟨c0, c1, c2, c3, c4, c5⟩ := h.cells
  have hpk := Lib.hid (newPkgC s.t s.n s.cs l msg (a.vc s.cs) _ w (Nums.own h.own) hC hl hb)
  obtain ⟨vc, hvc⟩ : ∃ vc, a.vc s.cs = vc := ⟨_, rfl⟩
  have HVC := Lib.hid hvc
  rw [hvc] at c2 hpk
  clear h hok hC hb hr hvc
  go_enter Try.func66, Try.ntmps66
  go_wp2_with fail
  refine hpk.out.mono ?_
  rintro x W2 ⟨hb2, ⟨hne, rfl⟩ | ⟨h0, p, vi, rfl, hP⟩⟩
  · obtain ⟨rfl, rfl, rfl⟩ := rel_pk HR.out hne
    have t1 : (pkE s'.t s'.n l != 0) = true := by rw [bne_iff_ne]; exact hne
    obtain ⟨y, hy⟩ : ∃ y, pkE s'.t s'.n l = y := ⟨_, rfl⟩
    have HY := Lib.hid hy
    rw [hy] at t1 ⊢
    clear hne hy HR
    go_wp2_with fail
    go_ret2
    exact ⟨by rw [HY.out]; rfl, .stay H.out hb2⟩
  have H0 := Lib.hid h0
  have HW2 := Lib.hid hb2
  have H2 := Lib.hid (H.out.later hb2)
  have HP := Lib.hid hP
  obtain ⟨p2, p3, p4, p5⟩ := hP.cells
  have hgd := Lib.hid (good_of h0)
  have hsp := HOK.out.spec
  obtain ⟨-, hll, -⟩ := pkE_spec h0
  have hl9 : l.length ≤ 9 := by omega
  have hfew := HOK.out.few
  clear hb2 hP h0 hpk c0 c1 c2 c3 c4 c5 p2 p3 p5 hsp
  go_wp2_with fail
  go_loopw [35] (fun i wr => ∃ k : Nat, k ≤ l.length ∧ i = .int .i64 k ∧ NoneTo s l k ∧ Below W2.heap.size W2 wr) (fun i _ => l.length - (intOf i).toNat)
  case atStart => exact ⟨0, by omega, rfl, fun k' hk' => by omega, Below.refl _ _⟩
  case round =>
    obtain ⟨k, hk, rfl, hnone, hbw⟩ := hrel
    obtain ⟨wo, rfl⟩ : ∃ wo : World, wo = wr := ⟨_, rfl⟩
    have HNONE := Lib.hid hnone
    have HBW := Lib.hid hbw
    clear hnone hbw
    by_cases hlt : k < l.length
    · have hcs := (HP.out.coms.below HBW.out)
      obtain ⟨b, off, rfl, hbl, hcm⟩ := hcs.at_ (by omega)
      obtain ⟨x0, x1, x2⟩ := hcm k hlt
      have Ho := Lib.hid (H2.out.later HBW.out)
      obtain ⟨c0, c1, c2, c3, c4, c5⟩ := Ho.out.cells
      obtain ⟨A9, c9, hpv⟩ := own_shape Ho.out.prs
      have HPV := Lib.hid hpv
      rw [hpv] at c5
      have hX := Lib.hid (show l.getD k .zero = ⟨(l.getD k .zero).id, (l.getD k .zero).d, (l.getD k .zero).e⟩ from rfl)
      have hgk := hgd.out k hlt
      have hSz := Ho.out.sg.lt
      have hox := Lib.hid (below_box wo (.cells #[.int .i64 (l.getD k .zero).id, .int .u64 (l.getD k .zero).d, .int .u64 (l.getD k .zero).e] 37))
      have hCB := Lib.hid (Blk.new wo 37 #[.int .i64 (l.getD k .zero).id, .int .u64 (l.getD k .zero).d, .int .u64 (l.getD k .zero).e])
      clear hcs hcm hgk hpv
      generalize (l.getD k .zero).id = X at *
      generalize (l.getD k .zero).d = D at *
      generalize (l.getD k .zero).e = E at *
      go_wp2_with fail
      go_loopw [45] (fun i wr => ∃ j : Nat, j ≤ s.pl.length ∧ i = .int .i64 j ∧ (∀ j', j' < j → cmOf s.id (s.pl.getD j' (0, 0)) ≠ ⟨X, D, E⟩) ∧ Below (wo.alloc (.cells #[.int .i64 X, .int .u64 D, .int .u64 E] 37)).heap.size (wo.alloc (.cells #[.int .i64 X, .int .u64 D, .int .u64 E] 37)) wr) (fun i _ => s.pl.length - (intOf i).toNat)
      case atStart => exact ⟨0, by omega, rfl, fun k' hk' => by omega, Below.refl _ _⟩
      case round =>
        obtain ⟨j, hj, rfl, hnj, hbj⟩ := hrel
        have HNJ := Lib.hid hnj
        have hbo := hox.out.trans (hbj.mono (by simp))
        have hblk := hCB.out.below hbj hCB.out.lt
        have d0 : wr.cell? ⟨wo.heap.size, 0, none⟩ = some (.int .i64 X) := hblk.cell 0
        have d1 : wr.cell? ⟨wo.heap.size, 1, none⟩ = some (.int .u64 D) := hblk.cell 1
        have d2 : wr.cell? ⟨wo.heap.size, 2, none⟩ = some (.int .u64 E) := hblk.cell 2
        have hszo := hblk.lt
        have HBJ := Lib.hid hbj
        have HBO := Lib.hid hbo
        have HBLK := Lib.hid hblk
        clear hnj hbj hbo hblk
        by_cases hjt : j < s.pl.length
        · obtain ⟨bp, cap, hpv, hbp, hc⟩ := prs_at Ho.out.prs (by omega)
          rw [HPV.out] at hpv
          cases hpv
          obtain ⟨y0, y1, y2, y3, y4⟩ := hc j hjt
          replace y0 := (HBO.out.cell (p := ⟨bp, j * 5, none⟩) hbp).trans y0
          replace y1 := (HBO.out.cell (p := ⟨bp, j * 5 + 1, none⟩) hbp).trans y1
          replace y2 := (HBO.out.cell (p := ⟨bp, j * 5 + 2, none⟩) hbp).trans y2
          replace y3 := (HBO.out.cell (p := ⟨bp, j * 5 + 3, none⟩) hbp).trans y3
          replace y4 := (HBO.out.cell (p := ⟨bp, j * 5 + 4, none⟩) hbp).trans y4
          have HQ := Lib.hid (show s.pl.getD j (0, 0) = ((s.pl.getD j (0, 0)).1, (s.pl.getD j (0, 0)).2) from rfl)
          have HM := Lib.hid (show s.pl.getD j (0, 0) ∈ s.pl by rw [List.getD_eq_getElem?_getD, List.getElem?_eq_getElem hjt]; exact List.getElem_mem hjt)
          have HCM := Lib.hid (show cmOf s.id (s.pl.getD j (0, 0)) = ⟨s.id, pw 4 (s.pl.getD j (0, 0)).1.toNat 2147483579, pw 4 (s.pl.getD j (0, 0)).2.toNat 2147483579⟩ from rfl)
          generalize hq1 : (s.pl.getD j (0, 0)).1 = Q1 at *
          generalize hq2 : (s.pl.getD j (0, 0)).2 = Q2 at *
          generalize pw 4 Q1.toNat 2147483579 = Q3 at *
          generalize pw 4 Q2.toNat 2147483579 = Q4 at *
          clear hq1 hq2 hc
          have hbn := Lib.hid (HBJ.out.alloc HBJ.out.size (.cells #[.int .u64 Q1, .int .u64 Q2, .int .i64 s.id, .int .u64 Q3, .int .u64 Q4] 176))
          by_cases heq : X = s.id ∧ D = Q3 ∧ E = Q4
          · obtain ⟨h1, h2, h3⟩ := heq
            have t1 : (X == s.id) = true := by rw [beq_iff_eq]; exact h1
            have t2 : (D == Q3) = true := by rw [beq_iff_eq]; exact h2
            have t3 : (E == Q4) = true := by rw [beq_iff_eq]; exact h3
            have hways := rel_first HR.out HOK.out H0.out hlt hjt (by rw [HCM.out, hX.out, h1, h2, h3])
            have hb10 : Below W2.heap.size W2 (wr.alloc (.cells #[.int .u64 Q1, .int .u64 Q2, .int .i64 s.id, .int .u64 Q3, .int .u64 Q4] 176)) := by
              have h4 := HBW.out.trans (HBO.out.mono HBW.out.size)
              exact h4.alloc h4.size _
            have hsp := HOK.out.spec
            obtain ⟨hcl, hc0⟩ := HOK.out.key
            have hn9 : s.n ≤ 9 := hsp.2.2.1
            have HP10 := Lib.hid (HP.out.later hb10)
            have hall := Lib.hid (refAllC HP10.out hgd.out hn9 hl9 hcl ⟨by omega, by omega⟩ hms)
            have H10 := Lib.hid (H2.out.later hb10)
            have HW10 := Lib.hid (HW2.out.trans (hb10.mono HW2.out.size))
            have hpb := Lib.hid (Blk.new wr 176 #[.int .u64 Q1, .int .u64 Q2, .int .i64 s.id, .int .u64 Q3, .int .u64 Q4])
            have hrb : 0 ≤ allP l (s.cs.getD 0 0) msg ∧ allP l (s.cs.getD 0 0) msg < 2147483579 := by rw [allP_eq]; exact allR_bd _ _ _ _
            obtain ⟨K, hK⟩ : ∃ K, s.cs.getD 0 0 = K := ⟨_, rfl⟩
            have HK := Lib.hid hK
            rw [hK] at hall hways hrb hc0
            obtain ⟨R, hRR⟩ : ∃ R, allP l K msg = R := ⟨_, rfl⟩
            have HRR := Lib.hid hRR
            rw [hRR] at hall hways hrb
            have HQM := Lib.hid (HOK.out.sc _ HM.out)
            clear h1 h2 h3 hb10 hsp hK hRR HNJ HNONE HR
            rcases hways with ⟨ha, rfl, rfl, rfl⟩ | ⟨ha, hv, rfl, rfl⟩
            · have t4 : (R == 1) = true := by rw [beq_iff_eq]; exact ha
              clear ha
              go_wp2_with fail
              refine hall.out.mono ?_
              rintro x W11 ⟨rfl, hb11⟩
              go_wp2_with fail
              go_ret2
              exact ⟨rfl, .stay H.out (HW10.out.trans (hb11.mono HW10.out.size))⟩
            · have t4 : (R == 1) = false := by rw [beq_eq_false_iff_ne]; exact ha
              have HV := Lib.hid hv
              clear ha hv
              go_upto_region 11 with fail
              clear c0 c1 c2 c3 c4 c5 x0 x1 x2 d0 d1 d2 y0 y1 y2 y3 y4 t1 t2 t3 hX hox hCB HBJ HBO HBLK hbn Ho HBW HP H2 p4 HCM
              generalize wr.alloc (.cells #[.int .u64 Q1, .int .u64 Q2, .int .i64 s.id, .int .u64 Q3, .int .u64 Q4] 176) = W10 at *
              go_upto_region 14 with (go_at_call 53; refine hall.out.mono ?_; rintro x W11 ⟨rfl, hb11⟩)
              have H11 := Lib.hid (H10.out.later hb11)
              have HP11 := Lib.hid (HP10.out.later hb11)
              have HW11 := Lib.hid (HW10.out.trans (hb11.mono HW10.out.size))
              have HPB11 := Lib.hid (hpb.out.below hb11 hpb.out.lt)
              obtain ⟨c0, c1, c2, c3, c4, c5⟩ := H11.out.cells
              rw [HPV.out] at c5
              have hown11 := H11.out.prs
              rw [HPV.out] at hown11
              have hcap : s.pl.length ≤ c9 := by
                obtain ⟨_, _, _, hv, h, _⟩ := Row.own hown11
                simp only [Value.slice.injEq] at hv
                omega
              have hr1 := Lib.hid (row_take hown11 (j := j) (by omega))
              clear hall hb11 H10 HP10 HW10 hpb hown11 c0 c1 c2 c3 c4
              have j1 : (0 : Int) ≤ (j : Int) := by omega
              have j2 : (j : Int) ≤ (c9 : Int) := by omega
              obtain ⟨i0, hi, hz0, hz1, hz2⟩ := info_parts info_pr
              go_upto_region 15 with (at_builtin; refine wpList_append_row _ rfl (.const (.slice none 0 0)) (.tmp 63) _ rfl W11.heap.size 176 i0 (.agg #[.int .u64 0, .int .u64 0, .int .i64 0, .int .u64 0, .int .u64 0]) 5 40 Try.underlying172 hi hz0 hz1 hz2 rfl (by decide) (.slice none 0 0) 0 [] rfl (World.ownsRow_nil _ _ _ _) W11.heap.size _ j _ rfl hr1.out (oneCell_prs _ _) (by unfold maxLen; omega) (by omega) (Nat.le_refl _) ?_; intro v2 w2 hown2 hgrow2)
              rw [Nat.zero_add, List.nil_append] at hown2
              obtain ⟨A2, c2, rfl⟩ := own_shape hown2
              have hb12 : Below W11.heap.size W11 w2 := (Below.refl _ _).grown hgrow2 (Nat.le_refl _) (fun k hk => by simp [Value.ownBlock] at hk)
              have H12 := Lib.hid (H11.out.later hb12)
              have HP12 := Lib.hid (HP11.out.later hb12)
              have HW12 := Lib.hid (HW11.out.trans (hb12.mono HW11.out.size))
              have HO2 := Lib.hid hown2
              have hsz12 := hb12.size
              have HB12 := Lib.hid hb12
              clear hr1 hb12 hgrow2 hown2 c5 j1 j2 HP12 HW12
              have c5 := H12.out.cells.2.2.2.2.2
              rw [HPV.out] at c5
              have hown12 := H12.out.prs
              rw [HPV.out] at hown12
              have hr2 := Lib.hid (fun o c h1 h2 => row_drop hown12 (j := j + 1) (m := s.pl.length - (j + 1)) (by omega) rfl o c h1 h2)
              have hrE := Lib.hid (fun (h0 : s.pl.length - (j + 1) = 0) => show Row w2 w2.heap.size 5 (.slice (some ⟨bp, 0, none⟩) (s.pl.length - (j + 1)) 0) (s.pl.length - (j + 1)) (prCells s.id (s.pl.drop (j + 1))) from
                ⟨by rw [prCells_length, List.length_drop], _, _, rfl, by omega, fun hp => by omega⟩)
              have j1 : (0 : Int) ≤ ((j + 1 : Nat) : Int) := by omega
              have j2 : ((j + 1 : Nat) : Int) ≤ (s.pl.length : Int) := by omega
              have j3 : (s.pl.length : Int) ≤ (c9 : Int) := by omega
              have j4 : IntKind.i64.wrap ((j : Int) + 1) = ((j + 1 : Nat) : Int) := by rw [IntKind.wrap_i64]; omega
              clear hown12 H12
              go_upto_region 15 with fail
              go_cut [15, 43, 61, 63] from 65 to 76 (fun r x y z wx => ∃ pv, RSg wx { a with pv := pv } { s with pl := s.pl.eraseIdx j } ∧ RPk wx p vc (.slice (some ⟨b, off, none⟩) l.length c) vi s.t s.n s.cs l msg ∧ Blk wx wr.heap.size 176 #[.int .u64 Q1, .int .u64 Q2, .int .i64 s.id, .int .u64 Q3, .int .u64 Q4] ∧ Only a.foot w wx ∧ (∀ g, pv.ownBlock = some g → w.heap.size ≤ g))
              case first =>
                by_cases hc9 : c9 = j + 1
                · go_wp2_with (at_builtin; refine wpList_append_row _ rfl (.tmp 66) (.tmp 73) _ rfl W11.heap.size 176 i0 (.agg #[.int .u64 0, .int .u64 0, .int .i64 0, .int .u64 0, .int .u64 0]) 5 40 Try.underlying172 hi hz0 hz1 hz2 rfl (by decide) (.slice A2 j c2) j _ rfl HO2.out w2.heap.size _ (s.pl.length - (j + 1)) _ rfl (hrE.out (by omega)) (oneCell_prs _ _) (by unfold maxLen; omega) (by omega) hsz12 ?_; intro v3 w3 hown3 hgrow3; obtain ⟨A3, c3, rfl⟩ := own_shape hown3; have hb13 := HB12.out.grown hgrow3 hsz12 (fun k hk => (HO2.out.lt k hk).1); have h13 := H11.out.later hb13; have z5 := h13.sg.frozen 5; have y5 : w3.cell? ⟨a.S, 5, none⟩ = some a.pv := h13.sg.cell 5; clear h13)
                  go_meet
                  exact ⟨_, sg_step H11.out HP11.out HPB11.out HW11.out hb13 HPV.out hjt hown3⟩
                · go_wp2_with (at_builtin; refine wpList_append_row _ rfl (.tmp 66) (.tmp 73) _ rfl W11.heap.size 176 i0 (.agg #[.int .u64 0, .int .u64 0, .int .i64 0, .int .u64 0, .int .u64 0]) 5 40 Try.underlying172 hi hz0 hz1 hz2 rfl (by decide) (.slice A2 j c2) j _ rfl HO2.out w2.heap.size _ (s.pl.length - (j + 1)) _ rfl (hr2.out _ _ rfl (by omega)) (oneCell_prs _ _) (by unfold maxLen; omega) (by omega) hsz12 ?_; intro v3 w3 hown3 hgrow3; obtain ⟨A3, c3, rfl⟩ := own_shape hown3; have hb13 := HB12.out.grown hgrow3 hsz12 (fun k hk => (HO2.out.lt k hk).1); have h13 := H11.out.later hb13; have z5 := h13.sg.frozen 5; have y5 : w3.cell? ⟨a.S, 5, none⟩ = some a.pv := h13.sg.cell 5; clear h13)
                  go_meet
                  exact ⟨_, sg_step H11.out HP11.out HPB11.out HW11.out hb13 HPV.out hjt hown3⟩
              case rest =>
                obtain ⟨pv, h15, hp15, hb15, ho15, hg15⟩ := hcut
                rename World => W15
                have H15 := Lib.hid h15
                have HP15 := Lib.hid hp15
                have HB15 := Lib.hid hb15
                have HO15 := Lib.hid ho15
                have HG15 := Lib.hid hg15
                obtain ⟨p2, p3, p4, p5⟩ := hp15.cells
                obtain ⟨d0, d1, d2, d3, d4, d5⟩ := h15.cells
                clear p2 p3 p4 d0 d1 d3 d5 c5 HO2 hsz12 HB12 hr2 hrE j1 j2 j3 j4 H11 HP11 HPB11 HW11 hi hz0 hz1 hz2 ho15 hg15
                have hpl := hp15.pk.lt
                have hSl := h15.sg.lt
                have hgl : a.gc < W15.heap.size := (h15.own.lt a.gc rfl).2
                obtain ⟨bg, og, hbg, -, hgc⟩ := nums_at (show Nums .u64 W15 W15.heap.size (.slice (some ⟨a.gc, 0, none⟩) s.cs.length a.cap) s.cs from Nums.own h15.own) hcl
                simp only [Option.some.injEq, Addr.mk.injEq, and_true] at hbg
                obtain ⟨rfl, rfl⟩ := hbg
                have g0 := hgc 0 hcl
                rw [HK.out] at g0
                replace d2 : W15.cell? ⟨a.S, 2, none⟩ = some (.slice (some ⟨a.gc, 0, none⟩) s.cs.length a.cap) := d2
                replace d4 : W15.cell? ⟨a.S, 4, none⟩ = some (.int .u64 s.share) := d4
                have hib := Lib.hid (ids_bd hgd.out hn9)
                have hwt := Lib.hid (fun wy (hb : Below W15.heap.size W15 wy) => Sls.weightC (idsOf l l.length) k vi wy (hp15.later hb).ids (by rw [idsOf_length]; omega) (by rw [idsOf_length]; exact hlt) hib.out)
                have hsh := Lib.hid (share_ref (q := s.pl.getD j (0, 0)) HOK.out hgd.out hlt HQM.out HK.out HRR.out)
                have hqb := HQM.out
                have HQ1 := Lib.hid HQ.out
                rw [HQ.out] at hqb
                rw [HQ.out] at hsh
                obtain ⟨⟨q1, q2⟩, q3, q4⟩ := hqb
                simp only at q1 q2 q3 q4 hsh
                obtain ⟨w1, w2⟩ := wtS_bd (idsOf l l.length) k (idsOf l l.length).length
                obtain ⟨s1, s2⟩ : 0 ≤ s.share ∧ s.share < 1073741789 := ⟨HOK.out.sh0, HOK.out.sh1⟩
                obtain ⟨c1, c2⟩ := chal_bd R K msg
                have hbi := Lib.hid (fun wy (hb : Below W15.heap.size W15 wy) => refBindC (hp15.later hb) hgd.out hn9 hl9 hcl (by rw [HK.out]; omega) hms hlt)
                rw [HK.out] at hbi
                obtain ⟨b1, b2⟩ := bindP_bd l K msg k
                have hch := Lib.hid (fun W => refChallengeC R K msg W hms ⟨by omega, by omega⟩ ⟨by omega, by omega⟩)
                have hWT : wtS (idsOf l l.length) k (idsOf l l.length).length = weight (idsOf l l.length) k := rfl
                rw [hWT] at w1 w2
                clear h15 hp15 hb15 hgc hWT
                generalize weight (idsOf l l.length) k = WT at *
                generalize chal R K msg = C at *
                generalize bindP l K msg k = Bd at *
                obtain ⟨sh, hs⟩ : ∃ x, s.share = x := ⟨_, rfl⟩
                rw [hs] at hsh d4 s1 s2
                clear hs
                have m1 := mul_wrap w1 (show WT < 4294967296 by omega) s1 (show sh < 4294967296 by omega)
                have m2 : (WT * sh).tmod 1073741789 = WT * sh % 1073741789 := Int.tmod_eq_emod_of_nonneg (Int.mul_nonneg w1 s1)
                obtain ⟨T1, hT1⟩ : ∃ T, WT * sh % 1073741789 = T := ⟨_, rfl⟩
                have T1b : 0 ≤ T1 ∧ T1 < 1073741789 := by rw [← hT1]; omega
                rw [hT1] at m2 hsh
                have m3 := mul_wrap T1b.1 (show T1 < 4294967296 by omega) c1 (show C < 4294967296 by omega)
                have m4 : (T1 * C).tmod 1073741789 = T1 * C % 1073741789 := Int.tmod_eq_emod_of_nonneg (Int.mul_nonneg T1b.1 c1)
                obtain ⟨T2, hT2⟩ : ∃ T, T1 * C % 1073741789 = T := ⟨_, rfl⟩
                have T2b : 0 ≤ T2 ∧ T2 < 1073741789 := by rw [← hT2]; omega
                rw [hT2] at m4 hsh
                have m5 := mul_wrap (show 0 ≤ Q2 by omega) (show Q2 < 4294967296 by omega) b1 (show Bd < 4294967296 by omega)
                have hp0 : 0 ≤ Q2 * Bd := Int.mul_nonneg (by omega) b1
                have hp1 : Q2 * Bd < 1152921504606846976 := by
                  have := Int.mul_le_mul (show Q2 ≤ 1073741788 by omega) (show Bd ≤ 1073741788 by omega) b1 (by omega)
                  omega
                have m6 : IntKind.u64.wrap (Q1 + Q2 * Bd) = Q1 + Q2 * Bd := by rw [u64_id (by omega) (by omega)]
                have m7 : IntKind.u64.wrap (Q1 + Q2 * Bd + T2) = Q1 + Q2 * Bd + T2 := by rw [u64_id (by omega) (by omega)]
                have m8 : (Q1 + Q2 * Bd + T2).tmod 1073741789 = (Q1 + Q2 * Bd + T2) % 1073741789 := Int.tmod_eq_emod_of_nonneg (by omega)
                obtain ⟨V, hVV⟩ : ∃ V, (Q1 + Q2 * Bd + T2) % 1073741789 = V := ⟨_, rfl⟩
                rw [hVV] at m8 hsh
                have HSH := Lib.hid hsh.out
                clear hT1 hT2 hVV hp0 hp1 hsh T1b T2b
                go_upto_region 16 with fail
                go_cut [16] from 77 to 100 (fun r wx => r = .int .u64 T2 ∧ Below W15.heap.size W15 wx)
                case first =>
                  go_region_held3 (fun w' => w'.cell? ⟨p, 5, none⟩ = some vi ∧ w'.cell? ⟨a.S, 4, none⟩ = some (.int .u64 sh) ∧ w'.cell? ⟨a.S, 2, none⟩ = some (.slice (some ⟨a.gc, 0, none⟩) s.cs.length a.cap) ∧ w'.cell? ⟨a.gc, 0, none⟩ = some (.int .u64 K))
                    (first | go_keep | (exact ⟨(hb1.cell (p := ⟨p, 5, none⟩) hpl).trans p5, (hb1.cell (p := ⟨a.S, 4, none⟩) hSl).trans d4, (hb1.cell (p := ⟨a.S, 2, none⟩) hSl).trans d2, (hb1.cell (p := ⟨a.gc, 0, none⟩) hgl).trans g0⟩))
                    (first | (go_at_call 57; refine (hwt.out _ (by first | exact (Below.refl _ _).drew | exact ((Below.refl _ _).drew).trans hb1)).mono ?_; rintro e w' ⟨rfl, rfl⟩) | (go_at_call 54; refine (hch.out _).mono ?_; rintro e W16 ⟨rfl, hb1⟩))
                  all_goals
                    go_wp2_with fail
                    go_meet
                    exact ⟨rfl, ((Below.refl _ _).drew).trans hb1⟩
                case rest =>
                  obtain ⟨rfl, hb16⟩ := hcut
                  rename World => W16
                  have HB16 := Lib.hid hb16
                  have hk16 := HB15.out.below hb16 HB15.out.lt
                  have n0 : W16.cell? ⟨wr.heap.size, 0, none⟩ = some (.int .u64 Q1) := hk16.cell 0
                  have n1 : W16.cell? ⟨wr.heap.size, 1, none⟩ = some (.int .u64 Q2) := hk16.cell 1
                  have hnl := hk16.lt
                  clear hb16 hk16 hwt hch p5 d4 d2 g0 hpl hSl hgl
                  go_upto_region 17 with fail
                  go_cut [6, 7] from 101 to 112 (fun z e wx => z = .int .u64 V ∧ e = .int .i64 0 ∧ Below W15.heap.size W15 wx)
                  case first =>
                    go_region_held3 (fun w' => w'.cell? ⟨wr.heap.size, 0, none⟩ = some (.int .u64 Q1) ∧ w'.cell? ⟨wr.heap.size, 1, none⟩ = some (.int .u64 Q2))
                      (first | go_keep | (exact ⟨(hb1.cell (p := ⟨wr.heap.size, 0, none⟩) hnl).trans n0, (hb1.cell (p := ⟨wr.heap.size, 1, none⟩) hnl).trans n1⟩))
                      (first | (go_at_call 102; refine (hbi.out _ HB16.out.drew).mono ?_; rintro e W17 ⟨rfl, hb1⟩))
                    all_goals
                      go_wp2_with fail
                      go_meet
                      exact ⟨rfl, rfl, HB16.out.drew.trans (hb1.mono HB16.out.size)⟩
                  case rest =>
                    obtain ⟨rfl, rfl, hb17⟩ := hcut
                    have h17 := H15.out.later hb17
                    have HO17 := Lib.hid (HO15.out.then_ hb17)
                    clear n0 n1 hbi
                    go_wp2_with fail
                    go_ret2
                    refine ⟨by rw [HV.out, HQ1.out, HSH.out]; rfl, pv, h17, HO17.out, fun g hg => .inr (HG15.out g hg)⟩
          · have hnx : cmOf s.id (s.pl.getD j (0, 0)) ≠ ⟨X, D, E⟩ := fun h => by
              rw [HCM.out, Cm.mk.injEq] at h
              exact heq ⟨h.1.symm, h.2.1.symm, h.2.2.symm⟩
            have HNX := Lib.hid hnx
            clear hnx
            have hnext : ∀ j', j' < j + 1 → cmOf s.id (s.pl.getD j' (0, 0)) ≠ ⟨X, D, E⟩ := fun j' hj' => by
              rcases Nat.lt_or_ge j' j with h | h
              · exact HNJ.out j' h
              · obtain rfl : j' = j := by omega
                exact HNX.out
            have HNXT := Lib.hid hnext
            clear hnext
            by_cases h1 : X = s.id
            · have t1 : (X == s.id) = true := by rw [beq_iff_eq]; exact h1
              by_cases h2 : D = Q3
              · have t2 : (D == Q3) = true := by rw [beq_iff_eq]; exact h2
                have t3 : (E == Q4) = false := by rw [beq_eq_false_iff_ne]; exact fun h => heq ⟨h1, h2, h⟩
                clear h1 h2 heq
                go_wp2_with fail
                exact ⟨⟨j + 1, by omega, by go_num, HNXT.out, hbn.out⟩, by simp [intOf]; omega⟩
              · have t2 : (D == Q3) = false := by rw [beq_eq_false_iff_ne]; exact h2
                obtain ⟨b3, t3⟩ : ∃ b3, (E == Q4) = b3 := ⟨_, rfl⟩
                clear h1 h2 heq
                go_wp2_with fail
                exact ⟨⟨j + 1, by omega, by go_num, HNXT.out, hbn.out⟩, by simp [intOf]; omega⟩
            · have t1 : (X == s.id) = false := by rw [beq_eq_false_iff_ne]; exact h1
              obtain ⟨b3, t3⟩ : ∃ b3, (E == Q4) = b3 := ⟨_, rfl⟩
              obtain ⟨b2, t2⟩ : ∃ b3, (D == Q3) = b3 := ⟨_, rfl⟩
              clear h1 heq
              go_wp2_with fail
              exact ⟨⟨j + 1, by omega, by go_num, HNXT.out, hbn.out⟩, by simp [intOf]; omega⟩
        · obtain rfl : j = s.pl.length := by omega
          go_wp2_with fail
          refine ⟨⟨k + 1, by omega, by go_num, fun k' hk' q hq => ?_, HBW.out.trans (HBO.out.mono HBW.out.size)⟩, by simp [intOf]; omega⟩
          rcases Nat.lt_or_ge k' k with h | h
          · exact HNONE.out k' h q hq
          · obtain rfl : k' = k := by omega
            obtain ⟨j, hj, hje⟩ := List.mem_iff_getElem.1 hq
            rw [hX.out]
            have := HNJ.out j hj
            rw [List.getD_eq_getElem?_getD, List.getElem?_eq_getElem hj] at this
            exact hje ▸ this
    · obtain rfl : k = l.length := by omega
      obtain ⟨rfl, rfl, rfl⟩ := rel_nothing HR.out H0.out HNONE.out
      go_wp2_with fail
      go_ret2
      exact ⟨rfl, .stay H.out (HW2.out.trans (HBW.out.mono HW2.out.size))⟩
end Go.Proofs.Ytpfpokjaeffbjab.Rsg
