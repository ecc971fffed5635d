/- Part of the proof: RefAgg, SameIDs, LgW. -/
import Derived.Test.YtpfpokjaeffbjabGa33
import Derived.Test.YtpfpokjaeffbjabGa21
import Derived.Test.YtpfpokjaeffbjabGa30
import Derived.Test.YtpfpokjaeffbjabGa37
import Derived.Test.YtpfpokjaeffbjabGa19
namespace Go.Proofs.Ytpfpokjaeffbjab.Rag
open Go.RowKit Go.Conc Go.Proofs.Ytpfpokjaeffbjab.Cc Go.Proofs.Ytpfpokjaeffbjab.Pl Go.Proofs.Ytpfpokjaeffbjab.Dpl Go.Proofs.Ytpfpokjaeffbjab.Gpl Go.Proofs.Ytpfpokjaeffbjab.Kpl Go.Proofs.Ytpfpokjaeffbjab.Fld Go.Proofs.Ytpfpokjaeffbjab.Mem Go.Proofs.Ytpfpokjaeffbjab.Ver Go.Proofs.Ytpfpokjaeffbjab.Rck Go.Proofs.Ytpfpokjaeffbjab.Rkg Go.Proofs.Ytpfpokjaeffbjab.Agp Go.Proofs.Ytpfpokjaeffbjab.Agt Go.Proofs.Ytpfpokjaeffbjab.Pkg Go.Proofs.Ytpfpokjaeffbjab.Sls Go.Proofs.Ytpfpokjaeffbjab.Grp
set_option linter.unusedVariables false
theorem ids_bd {n : Int} {l : List Cm} (h : Kpl.Good n l) (hn : n ≤ 9) : ∀ i, i < (idsOf l l.length).length → 1 ≤ (idsOf l l.length).getD i 0 ∧ (idsOf l l.length).getD i 0 ≤ 9 := by
  intro i hi
  rw [idsOf_length] at hi
  rw [idsOf_at l hi]
  have := (h i hi).1
  omega
def sumTo (rt : Nat → Bool) (zs : List Int) : Nat → Int
  | 0 => 0
  | k + 1 => if rt k then (sumTo rt zs k + zs.getD k 0) % 1073741789 else sumTo rt zs k
theorem sumTo_bd (rt : Nat → Bool) (zs : List Int) (hz : ∀ k, k < zs.length → 0 ≤ zs.getD k 0) : ∀ k, 0 ≤ sumTo rt zs k ∧ sumTo rt zs k < 1073741789
  | 0 => by simp [sumTo]
  | k + 1 => by
    rw [sumTo]
    split
    · omega
    · exact sumTo_bd rt zs hz k
theorem sumTo_all (rt : Nat → Bool) (zs : List Int) (hz : ∀ k, k < zs.length → 0 ≤ zs.getD k 0 ∧ zs.getD k 0 < 1073741789) : ∀ k, k ≤ zs.length → (∀ j, j < k → rt j = true) → sumTo rt zs k = sumS 0 zs k
  | 0, _, _ => rfl
  | k + 1, hk, h => by
    have b := sumTo_bd rt zs (fun k hk => (hz k hk).1) k
    have z := hz k (by omega)
    rw [sumTo, if_pos (h k (by omega)), sumS, ← sumTo_all rt zs hz k (by omega) fun j hj => h j (by omega)]
    unfold sadd
    rw [u64_id (by omega) (by omega)]
def RAggPost (t n : Int) (cs : List Int) (l : List Cm) (msg : ByteArray) (zs : List Int) (rt : Nat → Bool) (w : World) (e : Ending) (w' : World) : Prop :=
  Below w.heap.size w w' ∧ ((aggE t n cs l msg zs.length ≠ 0 ∧ e = .returned (errV (aggE t n cs l msg zs.length))) ∨
    (aggE t n cs l msg zs.length = 0 ∧ ∃ v, e = .returned v ∧
      ((wrongTo rt l l.length = [] ∧ v = .tuple #[.agg #[.int .u64 (allP l (cs.getD 0 0) msg), .int .u64 (sumTo rt zs l.length)], .slice none 0 0, .int .i64 0]) ∨
       (wrongTo rt l l.length ≠ [] ∧ ∃ W, v = .tuple #[.agg #[.int .u64 0, .int .u64 0], W, .int .i64 14] ∧ w'.ownsRow w.heap.size 3 1 W (wrongTo rt l l.length).length ((wrongTo rt l l.length).map (Value.int .i64))))))
theorem rerr_run {wq : World} {b8 : Nat} {T : Array Value} {x : Int} (h8 : Blk wq b8 46 #[.int .u64 0, .int .u64 0]) (t8 : T[8]? = some (.pointer (some ⟨b8, 0, none⟩)) := by rfl) (t9 : T[9]? = some (.slice none 0 0) := by rfl) (t10 : T[10]? = some (.int .i64 x) := by rfl) :
    (Go.results Try.f17 T).run Try.prog ((wq.setCell ⟨b8, 0, none⟩ (.int .u64 0)).setCell ⟨b8, 1, none⟩ (.int .u64 0)) = .ok (errV x) ((wq.setCell ⟨b8, 0, none⟩ (.int .u64 0)).setCell ⟨b8, 1, none⟩ (.int .u64 0)) := by
  have B := ((h8.set_ 0 (.int .u64 0)).set_ 1 (.int .u64 0))
  have c0 := B.cell 0
  have c1 := B.cell 1
  unfold errV
  simp [Go.results, Try.results17, t8, t9, t10, go_sem, c0, c1]
theorem el_bd {x : Int} (h : isEl x = true) : 0 < x ∧ x < 2147483579 := by
  unfold isEl at h
  rw [decide_eq_true_iff] at h
  exact ⟨h.1, h.2.1⟩
theorem prodE_bd (xs : List Int) : ∀ n, 0 ≤ prodE 1 xs n ∧ prodE 1 xs n < 2147483579
  | 0 => by simp [prodE]
  | n + 1 => by rw [prodE]; exact emul_bd _ _
theorem allP_bd (l : List Cm) (key : Int) (msg : ByteArray) : 0 ≤ allP l key msg ∧ allP l key msg < 2147483579 := prodE_bd _ _
theorem below_two {B b : Nat} {u v : Value} {wq : World} (h : B ≤ b) : Below B wq ((wq.setCell ⟨b, 0, none⟩ u).setCell ⟨b, 1, none⟩ v) :=
  ⟨rfl, rfl, rfl, by simp [World.setCell], fun k hk => (Below.heap_setCell _ ⟨b, 1, none⟩ v k (by show k ≠ b; omega)).trans (Below.heap_setCell wq ⟨b, 0, none⟩ u k (by show k ≠ b; omega))⟩
set_option maxRecDepth 100000 in
set_option maxHeartbeats 16000000 in
theorem refAggC {w : World} {t n : Int} {v lv vz : Value} {cs zs : List Int} {l : List Cm} {msg : ByteArray} {rt : Nat → Bool} (hv : Nums .u64 w w.heap.size v cs) (hcl : cs.length ≤ 65536) (hcb : ∀ i, i < cs.length → 0 ≤ cs.getD i 0) (hC : Coms w w.heap.size lv l) (hll : l.length ≤ 65536) (hb : ∀ i, i < l.length → 0 ≤ (l.getD i .zero).d ∧ 0 ≤ (l.getD i .zero).e)
    (hz : Nums .u64 w w.heap.size vz zs) (hzl : zs.length ≤ 65536) (hzb : ∀ k, k < zs.length → 0 ≤ zs.getD k 0 ∧ zs.getD k 0 < 18446744073709551616) (hms : msg.size ≤ 1000000) (hrt : ∀ k, k < l.length → rt k = rightP (zs.getD k 0) (chal (allP l (cs.getD 0 0) msg) (cs.getD 0 0) msg) cs l msg k) :
    Calls Try.prog 17 #[.agg #[.int .i64 t, .int .i64 n, v], .string msg, lv, vz] w (RAggPost t n cs l msg zs rt w) := by
  obtain ⟨A, c, rfl⟩ := Lev.nums_shape hv
  obtain ⟨A1, c1, rfl⟩ := hC.shape
  obtain ⟨A2, c2, rfl⟩ := Lev.nums_shape hz
  have HE : ∀ x, aggE t n cs l msg zs.length = x → Hid (aggE t n cs l msg zs.length = x) := fun x h => h
  obtain ⟨B, hB⟩ : ∃ B, B = w.heap.size := ⟨_, rfl⟩
  have HV := Lib.hid hv
  have HC := Lib.hid hC
  have HZ := Lib.hid hz
  have HB := Lib.hid hb
  have HCB := Lib.hid hcb
  have HZB := Lib.hid hzb
  have HRT := Lib.hid hrt
  have hbel : ∀ o o' : Obj, Below w.heap.size w ((w.alloc o).alloc o') := fun o o' => (below_box w o).trans ((below_box (w.alloc o) o').mono (by simp))
  have HBEL := Lib.hid hbel
  have HBS := Lib.hid hB
  clear hv hC hz hb hcb hzb hrt hbel
  go_enter Try.func17, Try.ntmps17
  go_wp2_with fail
  have H1 := HBEL.out (.cells #[.int .i64 t, .int .i64 n, .slice A cs.length c] 28) (.cells #[.int .u64 0, .int .u64 0] 46)
  have hk4 : Blk ((w.alloc (.cells #[.int .i64 t, .int .i64 n, .slice A cs.length c] 28)).alloc (.cells #[.int .u64 0, .int .u64 0] 46)) w.heap.size 28 #[.int .i64 t, .int .i64 n, .slice A cs.length c] := (Blk.new w _ _).alloc _
  have hk8 : Blk ((w.alloc (.cells #[.int .i64 t, .int .i64 n, .slice A cs.length c] 28)).alloc (.cells #[.int .u64 0, .int .u64 0] 46)) (w.heap.size + 1) 46 #[.int .u64 0, .int .u64 0] := blk_new' _ _ (by simp)
  generalize (w.alloc (.cells #[.int .i64 t, .int .i64 n, .slice A cs.length c] 28)).alloc (.cells #[.int .u64 0, .int .u64 0] 46) = w1 at *
  have HV1 := Lib.hid (HV.out.later H1)
  have HC1 := Lib.hid (HC.out.later H1)
  refine (rightC t n cs _ w1 HV1.out hcl HCB.out _ rfl).mono ?_
  rintro e w2 ⟨rfl, hb2⟩
  have h82 := hk8.below hb2 hk8.lt
  have h42 := hk4.below hb2 hk4.lt
  have c40 := h42.cell 0
  have c41 := h42.cell 1
  have c42 := h42.cell 2
  simp at c40 c41 c42
  have e0 := h82.cell 0
  have e1 := h82.cell 1
  have f0 := h82.frozen 0
  have f1 := h82.frozen 1
  have H82 := Lib.hid h82
  have H42 := Lib.hid h42
  have HB2 := Lib.hid (H1.trans (hb2.mono H1.size))
  have HV2 := Lib.hid (HV1.out.later hb2)
  have HC2 := Lib.hid (HC1.out.later hb2)
  have HZ2 := Lib.hid (HZ.out.later HB2.out)
  have hsz1 := H82.out.lt
  clear H1 hk4 hk8 hb2 h82 h42
  cases hg : groupOk t n cs
  case false =>
    have HX := Lib.hid (show aggE t n cs l msg zs.length = 4 by unfold aggE; rw [if_pos hg])
    clear hg
    go_wp2_with fail
    exact bodyPost_ret (rerr_run H82.out) rfl ⟨HB2.out.trans (below_two (by omega)), .inl ⟨by rw [HX.out]; decide, by rw [HX.out]⟩⟩
  case true =>
  have gs := groupOk_spec hg
  obtain ⟨g1, g2, g3, g4, g5, -⟩ := gs
  have HEL := Lib.hid (fun j (hj : j < cs.length) => groupOk_at hg hj)
  have HG := Lib.hid hg
  clear hg g5
  go_wp2_with fail
  refine (newPkgC t n cs l msg _ _ w2 HV2.out HC2.out hll HB.out).mono ?_
  rintro e w3 ⟨hb3, ⟨hne, rfl⟩ | ⟨h0, p, vi, rfl, hpk⟩⟩
  · have h83 := H82.out.below hb3 H82.out.lt
    have e0 := h83.cell 0
    have e1 := h83.cell 1
    have f0 := h83.frozen 0
    have f1 := h83.frozen 1
    have HX := Lib.hid (show aggE t n cs l msg zs.length = pkE t n l by unfold aggE; rw [if_neg (by rw [HG.out]; simp), if_pos hne])
    have HN := Lib.hid hne
    have H83 := Lib.hid h83
    have hbn : (pkE t n l != 0) = true := by rw [bne_iff_ne]; exact hne
    generalize pkE t n l = X at *
    clear hne h83
    go_wp2_with fail
    exact bodyPost_ret (rerr_run H83.out) rfl ⟨(HB2.out.trans (hb3.mono HB2.out.size)).trans (below_two (by omega)), .inl ⟨by rw [HX.out]; exact HN.out, by rw [HX.out]⟩⟩
  have h83 := H82.out.below hb3 H82.out.lt
  have h43 := H42.out.below hb3 H42.out.lt
  have HB3 := Lib.hid (HB2.out.trans (hb3.mono HB2.out.size))
  have HPK := Lib.hid hpk
  have HZ3 := Lib.hid (HZ2.out.later hb3)
  have HV3 := Lib.hid (HV2.out.later hb3)
  have hgd := Lib.hid (good_of h0)
  obtain ⟨q1, q2, -⟩ := pkE_spec h0
  have H0 := Lib.hid h0
  have hsz3 := hb3.size
  clear h0 hpk hb3 c40 c41 c42 e0 e1 f0 f1
  have e0 := h83.cell 0
  have e1 := h83.cell 1
  have f0 := h83.frozen 0
  have f1 := h83.frozen 1
  have H83 := Lib.hid h83
  have H43 := Lib.hid h43
  clear h83 h43
  by_cases hlen : zs.length = l.length
  case neg =>
    have HX := Lib.hid (show aggE t n cs l msg zs.length = 12 by unfold aggE; rw [if_neg (by rw [HG.out]; simp), if_neg (by rw [H0.out]; simp), if_pos hlen])
    go_wp2_with fail
    exact bodyPost_ret (rerr_run H83.out) rfl ⟨HB3.out.trans (below_two (by omega)), .inl ⟨by rw [HX.out]; decide, by rw [HX.out]⟩⟩
  have HL := Lib.hid hlen
  have hc0 : 0 ≤ cs.getD 0 0 ∧ cs.getD 0 0 < 18446744073709551616 := by have := el_bd (HEL.out 0 (by omega)); omega
  have HALL := Lib.hid (refAllC HPK.out hgd.out g3 (by omega) (by omega) hc0 hms)
  rw [hlen] at HZ3 ⊢
  clear hlen
  go_wp2_with fail
  refine HALL.out.mono ?_
  rintro e w4 ⟨rfl, hb4⟩
  have h84 := H83.out.below hb4 H83.out.lt
  have h44 := H43.out.below hb4 H43.out.lt
  have HB4 := Lib.hid (HB3.out.trans (hb4.mono HB3.out.size))
  have HPK4 := Lib.hid (HPK.out.later hb4)
  have HZ4 := Lib.hid (HZ3.out.later hb4)
  have HV4 := Lib.hid (HV3.out.later hb4)
  have hsz4 := hb4.size
  clear hb4 e0 e1 f0 f1
  have e0 := h84.cell 0
  have e1 := h84.cell 1
  have f0 := h84.frozen 0
  have f1 := h84.frozen 1
  have c42 := h44.cell 2
  simp at c42
  have H84 := Lib.hid h84
  have H44 := Lib.hid h44
  clear h84 h44
  obtain ⟨bA, oA, rfl, hbA, hcA⟩ := nums_at HV4.out (by omega)
  have z0 := hcA 0 (by omega)
  rw [Nat.add_zero] at z0
  obtain ⟨R, hR⟩ : ∃ R, allP l (cs.getD 0 0) msg = R := ⟨_, rfl⟩
  have hRb : 0 ≤ R ∧ R < 2147483579 := by rw [← hR]; exact allP_bd _ _ _
  have HR := Lib.hid hR
  rw [hR]
  by_cases hr1 : R = 1
  case pos =>
    have HX := Lib.hid (show aggE t n cs l msg zs.length = 11 by rw [HL.out]; unfold aggE; rw [if_neg (by rw [HG.out]; simp), if_neg (by rw [H0.out]; simp), if_neg (by simp), if_pos (by rw [HR.out]; exact hr1)])
    subst hr1
    go_wp2_with fail
    exact bodyPost_ret (rerr_run H84.out) rfl ⟨HB4.out.trans (below_two (by omega)), .inl ⟨by rw [HX.out]; decide, by rw [HX.out]⟩⟩
  have HX := Lib.hid (show aggE t n cs l msg zs.length = 0 by rw [HL.out]; unfold aggE; rw [if_neg (by rw [HG.out]; simp), if_neg (by rw [H0.out]; simp), if_neg (by simp), if_neg (by rw [HR.out]; exact hr1)])
  have hr2 : (R == 1) = false := by simpa using hr1
  have hl2 : (l.length != l.length) = false := by simp
  have HCH := Lib.hid (refChallengeC R (cs.getD 0 0) msg w4 hms (by omega) hc0)
  have hCb := chal_bd R (cs.getD 0 0) msg
  obtain ⟨K0, hK0⟩ : ∃ K0, cs.getD 0 0 = K0 := ⟨_, rfl⟩
  rw [hK0] at z0
  clear hcA
  have HK0 := Lib.hid hK0
  go_wp2_with fail
  rw [hK0] at HCH hCb
  refine HCH.out.mono ?_
  rintro e w5 ⟨rfl, hb5⟩
  obtain ⟨C, hC0⟩ : ∃ C, chal R K0 msg = C := ⟨_, rfl⟩
  rw [hC0] at hCb
  rw [hC0]
  have HCC := Lib.hid hC0
  have h85 := H84.out.below hb5 H84.out.lt
  have h45 := H44.out.below hb5 H44.out.lt
  have HB5 := Lib.hid (HB4.out.trans (hb5.mono HB4.out.size))
  have HPK5 := Lib.hid (HPK4.out.later hb5)
  have HZ5 := Lib.hid (HZ4.out.later hb5)
  have HV5 := Lib.hid (HV4.out.later hb5)
  have hsz5 := hb5.size
  clear hb5 e0 e1 f0 f1 c42 z0 hC0 hK0 hR HCH
  have H85 := Lib.hid h85
  have H45 := Lib.hid h45
  clear h85 h45
  obtain ⟨Ai, ci, rfl⟩ := Lev.nums_shape HPK5.out.ids
  rw [idsOf_length] at HPK5 HPK4 HPK
  obtain ⟨bi, oi, rfl, hbi, hci⟩ := nums_at HPK5.out.ids (by rw [idsOf_length]; omega)
  obtain ⟨bZ, oZ, rfl, hbZ, hcZ⟩ := nums_at HZ5.out (by rw [HL.out]; omega)
  have HCI := Lib.hid hci
  have HCZ := Lib.hid hcZ
  obtain ⟨i0, hi, hz0, hz1, hz2⟩ := info_parts info_int
  clear hci hcZ
  go_wp2_with fail
  go_loopw [15, 16, 55] (fun v S i wr => ∃ k : Nat, k ≤ l.length ∧ i = .int .i64 k ∧ S = .int .u64 (sumTo rt zs k) ∧ wr.ownsRow w5.heap.size 3 1 v (wrongTo rt l k).length ((wrongTo rt l k).map (Value.int .i64)) ∧ Below w5.heap.size w5 wr) (fun _ _ i _ => l.length - (intOf i).toNat)
  case atStart => exact ⟨0, by omega, rfl, rfl, World.ownsRow_nil _ _ _ _, Below.refl _ _⟩
  case round =>
    obtain ⟨k, hk, rfl, rfl, hown, hbw⟩ := hrel
    obtain ⟨A3, c3, rfl⟩ := own_shape hown
    have HO := Lib.hid hown
    have HBW := Lib.hid hbw
    clear hown
    by_cases hlt : k < l.length
    · have HPr := Lib.hid (HPK5.out.later (hbw.mono (Nat.le_refl _)))
      have hPl := HPr.out.pk.lt
      have p5 := HPr.out.pk.cell 5
      have hcz := (hbw.cell (p := ⟨bZ, oZ + k, none⟩) hbZ).trans (HCZ.out k (by rw [HL.out]; exact hlt))
      have hci := (hbw.cell (p := ⟨bi, oi + k, none⟩) hbi).trans (HCI.out k (by rw [idsOf_length]; exact hlt))
      rw [idsOf_at l hlt] at hci
      have h4r := H45.out.below hbw H45.out.lt
      have h4l := h4r.lt
      have c40 := h4r.cell 0
      have c41 := h4r.cell 1
      have c42 := h4r.cell 2
      simp at c40 c41 c42 p5
      have hgk := hgd.out k hlt
      obtain ⟨⟨i1, i2⟩, -, -, -⟩ := hgk
      have hzk := HZB.out k (by rw [HL.out]; exact hlt)
      have HVr := Lib.hid (HV5.out.later hbw)
      have hbir : bi < wr.heap.size := Nat.lt_of_lt_of_le hbi hbw.size
      have HPUB := Lib.hid (fun W (hW : Below wr.heap.size wr W) => publicC t n cs (.slice (some ⟨bA, oA, none⟩) cs.length c) (l.getD k .zero).id W (HVr.out.later hW) (by omega) HEL.out i1 (by omega))
      have HWT := Lib.hid (fun W (hW : Below wr.heap.size wr W) => weightC (idsOf l l.length) k (.slice (some ⟨bi, oi, none⟩) l.length ci) W (HPr.out.ids.later hW) (by rw [idsOf_length]; exact hll) (by rw [idsOf_length]; exact hlt) (ids_bd hgd.out g3))
      have hpb := pub_bd cs (l.getD k .zero).id
      have HRTk := Lib.hid (HRT.out k hlt)
      have hwb := wtS_bd (idsOf l l.length) k (idsOf l l.length).length
      have hlw := Go.Proofs.Ytpfpokjaeffbjab.Cpl.lagrange_weight (idsOf l l.length) k (ids_bd hgd.out g3) (by rw [idsOf_length]; exact hlt)
      have hWTe : wtS (idsOf l l.length) k (idsOf l l.length).length = weight (idsOf l l.length) k := rfl
      rw [hWTe] at hwb
      have HPT := Lib.hid (fun W (hW : Below wr.heap.size wr W) => refPartC (HPr.out.later hW) hgd.out g3 (by omega) (by omega) (by rw [HK0.out] at hc0 ⊢; exact hc0) hms hlt)
      have hpt := partP_bd l (cs.getD 0 0) msg k
      have hrk := Lib.hid (show rt k = (decide (zs.getD k 0 < 1073741789) && decide (pw 4 (zs.getD k 0).toNat 2147483579 = emul (partP l (cs.getD 0 0) msg k) (pw (pub cs (l.getD k .zero).id) (smul C (weight (idsOf l l.length) k)).toNat 2147483579))) by
        rw [HRTk.out]; unfold rightP; rw [HR.out, HK0.out, HCC.out, hlw])
      have hX0 := Lib.hid (show (l.getD k .zero).id = (l.getD k .zero).id from rfl)
      rw [smul_eq hCb.1 (by omega) hwb.1 (by omega)] at hrk
      have m1 := mul_wrap hCb.1 (show C < 4294967296 by omega) hwb.1 (show weight (idsOf l l.length) k < 4294967296 by omega)
      have m2 : (C * weight (idsOf l l.length) k).tmod 1073741789 = C * weight (idsOf l l.length) k % 1073741789 := Int.tmod_eq_emod_of_nonneg (Int.mul_nonneg hCb.1 hwb.1)
      have hVb : 0 ≤ C * weight (idsOf l l.length) k % 1073741789 ∧ C * weight (idsOf l l.length) k % 1073741789 < 1073741789 := ⟨Int.emod_nonneg _ (by omega), Int.emod_lt_of_pos _ (by omega)⟩
      have HPOW := Lib.hid (fun W => refPowI 2147483579 (pub cs (l.getD k .zero).id) (C * weight (idsOf l l.length) k % 1073741789) W (by omega) (by omega) hpb.1 (by omega) hVb.1 (by omega))
      have hqb := pw_bd (pub cs (l.getD k .zero).id) (C * weight (idsOf l l.length) k % 1073741789).toNat (m := 2147483579) (by omega)
      have hno := fun (hb : rt k = false) => Lib.hid (wrong_no (l := l) (rt := rt) (k := k) rfl hb)
      have hyes := fun (hb : rt k = true) => Lib.hid (wrong_yes (l := l) (rt := rt) (k := k) rfl hb)
      have hsn := fun (hb : rt k = false) => Lib.hid (show sumTo rt zs (k + 1) = sumTo rt zs k by rw [sumTo, hb]; rfl)
      have hsy := fun (hb : rt k = true) => Lib.hid (show sumTo rt zs (k + 1) = (sumTo rt zs k + zs.getD k 0) % 1073741789 by rw [sumTo, hb]; rfl)
      have hsb := sumTo_bd rt zs (fun k hk => (HZB.out k hk).1) k
      have n1 := mul_wrap hpt.1 (show partP l (cs.getD 0 0) msg k < 4294967296 by omega) hqb.1 (show pw (pub cs (l.getD k .zero).id) (C * weight (idsOf l l.length) k % 1073741789).toNat 2147483579 < 4294967296 by omega)
      have n2 : (partP l (cs.getD 0 0) msg k * pw (pub cs (l.getD k .zero).id) (C * weight (idsOf l l.length) k % 1073741789).toNat 2147483579).tmod 2147483579 = partP l (cs.getD 0 0) msg k * pw (pub cs (l.getD k .zero).id) (C * weight (idsOf l l.length) k % 1073741789).toNat 2147483579 % 2147483579 := Int.tmod_eq_emod_of_nonneg (Int.mul_nonneg hpt.1 hqb.1)
      have hem : emul (partP l (cs.getD 0 0) msg k) (pw (pub cs (l.getD k .zero).id) (C * weight (idsOf l l.length) k % 1073741789).toNat 2147483579) = partP l (cs.getD 0 0) msg k * pw (pub cs (l.getD k .zero).id) (C * weight (idsOf l l.length) k % 1073741789).toNat 2147483579 % 2147483579 := by unfold emul; rw [n1]
      rw [hem] at hrk
      have hws := wrongTo_len rt l k
      clear hem hwb hlw hWTe HRTk
      have hrf1 := fun (h : 1073741789 ≤ zs.getD k 0) => (show rt k = false by rw [hrk.out, decide_eq_false (by omega), Bool.false_and])
      generalize wrongTo rt l k = WL at *
      generalize sumTo rt zs k = SM at *
      generalize rt k = rk at *
      generalize zs.getD k 0 = Z at *
      generalize partP l (cs.getD 0 0) msg k = PT at *
      generalize hPB : pub cs (l.getD k .zero).id = PB at *
      generalize (l.getD k .zero).id = X at *
      clear hPB
      generalize weight (idsOf l l.length) k = WT at *
      generalize C * WT % 1073741789 = V at *
      have HBASE := Lib.hid (fun W => refBaseI Z W hzk.1 hzk.2)
      generalize pw PB V.toNat 2147483579 = PW at *
      generalize PT * PW % 2147483579 = E at *
      generalize pw 4 Z.toNat 2147483579 = BZ at *
      clear hpt hqb hpb hVb
      by_cases hzq : 1073741789 ≤ Z
      · have hst := hno (hrf1 hzq)
        have hsu := hsn (hrf1 hzq)
        clear hno hyes hsn hsy hrf1 hrk
        go_upto_region 17 with fail
        go_region_held3 (fun w' => (w'.cell? ⟨w.heap.size, 0, none⟩ = some (.int .i64 t) ∧ w'.cell? ⟨w.heap.size, 1, none⟩ = some (.int .i64 n) ∧ w'.cell? ⟨w.heap.size, 2, none⟩ = some (.slice (some ⟨bA, oA, none⟩) cs.length c)) ∧ w'.cell? ⟨p, 5, none⟩ = some (.slice (some ⟨bi, oi, none⟩) l.length ci) ∧ w'.cell? ⟨bi, oi + k, none⟩ = some (.int .i64 X))
          (first | go_keep | (exact ⟨⟨(hb1.cell (p := ⟨w.heap.size, 0, none⟩) h4l).trans c40, (hb1.cell (p := ⟨w.heap.size, 1, none⟩) h4l).trans c41, (hb1.cell (p := ⟨w.heap.size, 2, none⟩) h4l).trans c42⟩, (hb1.cell (p := ⟨p, 5, none⟩) hPl).trans p5, (hb1.cell (p := ⟨bi, oi + k, none⟩) hbir).trans hci⟩))
          (first | (go_at_call 56; refine (HPUB.out _ (Below.refl _ _).drew).mono ?_; rintro e w6 ⟨rfl, hb1⟩) | (go_at_call 57; refine (HWT.out _ (by first | exact (Below.refl _ _).drew | exact ((Below.refl _ _).drew).trans hb1)).mono ?_; rintro e w' ⟨rfl, rfl⟩) | (go_at_call 55; refine (HPOW.out _).mono ?_; rintro e w' ⟨rfl, rfl⟩))
        all_goals
          have hbx := Lib.hid (((Below.refl wr.heap.size wr).drew).trans hb1)
          have HP6 := Lib.hid (HPr.out.later hbx.out)
          have p56 := HP6.out.pk.cell 5
          simp at p56
          have hc6 := (hbx.out.cell (p := ⟨bi, oi + k, none⟩) hbir).trans hci
          have HO6 := Lib.hid (own_below HO.out hbx.out (Nat.le_refl _))
          have hs6 := hbx.out.size
          clear hb1
          go_wp2_with (first | (at_builtin; refine wpList_append_own _ rfl (.tmp 92) (.tmp 100) _ rfl w5.heap.size 3 i0 (.int .i64 0) 1 8 Try.underlying29 hi hz0 hz1 hz2 rfl (by decide) _ _ _ rfl (HO6.out.alloc _) ⟨w6.heap.size, 0, none⟩ 1 1 [.int .i64 X] rfl rfl (cell_one_new _ _ _) (by simp [Value.oneCell']) (by unfold maxLen; omega) (by omega) (by have := HBW.out.size; simp; omega) ?_; intro v1 w1 hown1 hgrow1 _))
          refine ⟨⟨k + 1, by omega, by go_num, by rw [hsu.out], ?_, below_grown (HBW.out.trans (hbx.out.mono HBW.out.size)) HO6.out (HBW.out.trans (hbx.out.mono HBW.out.size)).size hgrow1⟩, by simp [intOf]; omega⟩
          rw [hst.out, List.length_append, List.map_append]
          exact hown1
      · have hzq2 : ¬ 1073741789 ≤ Z := hzq
        cases hrkb : rk
        · have hst := hno hrkb
          have hsu := hsn hrkb
          have hbe : (BZ != E) = true := by
            have := hrk.out
            rw [hrkb, decide_eq_true (by omega), Bool.true_and] at this
            rw [bne_iff_ne]
            exact of_decide_eq_false this.symm
          clear hno hyes hsn hsy hrf1 hrk hrkb
          go_upto_region 17 with fail
          go_region_held3 (fun w' => (w'.cell? ⟨w.heap.size, 0, none⟩ = some (.int .i64 t) ∧ w'.cell? ⟨w.heap.size, 1, none⟩ = some (.int .i64 n) ∧ w'.cell? ⟨w.heap.size, 2, none⟩ = some (.slice (some ⟨bA, oA, none⟩) cs.length c)) ∧ w'.cell? ⟨p, 5, none⟩ = some (.slice (some ⟨bi, oi, none⟩) l.length ci) ∧ w'.cell? ⟨bi, oi + k, none⟩ = some (.int .i64 X))
            (first | go_keep | (exact ⟨⟨(hb1.cell (p := ⟨w.heap.size, 0, none⟩) h4l).trans c40, (hb1.cell (p := ⟨w.heap.size, 1, none⟩) h4l).trans c41, (hb1.cell (p := ⟨w.heap.size, 2, none⟩) h4l).trans c42⟩, (hb1.cell (p := ⟨p, 5, none⟩) hPl).trans p5, (hb1.cell (p := ⟨bi, oi + k, none⟩) hbir).trans hci⟩))
            (first | (go_at_call 56; refine (HPUB.out _ (Below.refl _ _).drew).mono ?_; rintro e w6 ⟨rfl, hb1⟩) | (go_at_call 57; refine (HWT.out _ (by first | exact (Below.refl _ _).drew | exact ((Below.refl _ _).drew).trans hb1)).mono ?_; rintro e w' ⟨rfl, rfl⟩) | (go_at_call 55; refine (HPOW.out _).mono ?_; rintro e w' ⟨rfl, rfl⟩))
          all_goals
            have hbx := Lib.hid (((Below.refl wr.heap.size wr).drew).trans hb1)
            have HP6 := Lib.hid (HPr.out.later hbx.out)
            have p56 := HP6.out.pk.cell 5
            simp at p56
            have hc6 := (hbx.out.cell (p := ⟨bi, oi + k, none⟩) hbir).trans hci
            have HO6 := Lib.hid (own_below HO.out hbx.out (Nat.le_refl _))
            have hs6 := hbx.out.size
            clear hb1
            go_wp2_with (first | (go_at_call 58; refine (HBASE.out _).mono ?_; rintro e w' ⟨rfl, rfl⟩) | (go_at_call 59; refine (HPT.out _ hbx.out).mono ?_; rintro e w7 ⟨rfl, hb7⟩; have hbx7 := Lib.hid (hbx.out.trans (hb7.mono hbx.out.size)); have HP7 := Lib.hid (HPr.out.later hbx7.out); have p57 := HP7.out.pk.cell 5; simp at p57; have hc7 := (hbx7.out.cell (p := ⟨bi, oi + k, none⟩) hbir).trans hci; have HO7 := Lib.hid (own_below HO.out hbx7.out (Nat.le_refl _)); have hs7 := hbx7.out.size; clear hb7) | (at_builtin; refine wpList_append_own _ rfl (.tmp 92) (.tmp 100) _ rfl w5.heap.size 3 i0 (.int .i64 0) 1 8 Try.underlying29 hi hz0 hz1 hz2 rfl (by decide) _ _ _ rfl (HO7.out.alloc _) ⟨w7.heap.size, 0, none⟩ 1 1 [.int .i64 X] rfl rfl (cell_one_new _ _ _) (by simp [Value.oneCell']) (by unfold maxLen; omega) (by omega) (by have := HBW.out.size; simp; omega) ?_; intro v1 w1 hown1 hgrow1 _))
            refine ⟨⟨k + 1, by omega, by go_num, by rw [hsu.out], ?_, below_grown (HBW.out.trans (hbx7.out.mono HBW.out.size)) HO7.out (HBW.out.trans (hbx7.out.mono HBW.out.size)).size hgrow1⟩, by simp [intOf]; omega⟩
            rw [hst.out, List.length_append, List.map_append]
            exact hown1
        · have hst := hyes hrkb
          have hsu := hsy hrkb
          have hbe : (BZ != E) = false := by
            have := hrk.out
            rw [hrkb, decide_eq_true (by omega), Bool.true_and] at this
            rw [of_decide_eq_true this.symm]
            simp
          clear hno hyes hsn hsy hrf1 hrk hrkb
          go_upto_region 17 with fail
          go_region_held3 (fun w' => (w'.cell? ⟨w.heap.size, 0, none⟩ = some (.int .i64 t) ∧ w'.cell? ⟨w.heap.size, 1, none⟩ = some (.int .i64 n) ∧ w'.cell? ⟨w.heap.size, 2, none⟩ = some (.slice (some ⟨bA, oA, none⟩) cs.length c)) ∧ w'.cell? ⟨p, 5, none⟩ = some (.slice (some ⟨bi, oi, none⟩) l.length ci) ∧ w'.cell? ⟨bi, oi + k, none⟩ = some (.int .i64 X))
            (first | go_keep | (exact ⟨⟨(hb1.cell (p := ⟨w.heap.size, 0, none⟩) h4l).trans c40, (hb1.cell (p := ⟨w.heap.size, 1, none⟩) h4l).trans c41, (hb1.cell (p := ⟨w.heap.size, 2, none⟩) h4l).trans c42⟩, (hb1.cell (p := ⟨p, 5, none⟩) hPl).trans p5, (hb1.cell (p := ⟨bi, oi + k, none⟩) hbir).trans hci⟩))
            (first | (go_at_call 56; refine (HPUB.out _ (Below.refl _ _).drew).mono ?_; rintro e w6 ⟨rfl, hb1⟩) | (go_at_call 57; refine (HWT.out _ (by first | exact (Below.refl _ _).drew | exact ((Below.refl _ _).drew).trans hb1)).mono ?_; rintro e w' ⟨rfl, rfl⟩) | (go_at_call 55; refine (HPOW.out _).mono ?_; rintro e w' ⟨rfl, rfl⟩))
          all_goals
            have hbx := Lib.hid (((Below.refl wr.heap.size wr).drew).trans hb1)
            have HP6 := Lib.hid (HPr.out.later hbx.out)
            have p56 := HP6.out.pk.cell 5
            simp at p56
            have hc6 := (hbx.out.cell (p := ⟨bi, oi + k, none⟩) hbir).trans hci
            have HO6 := Lib.hid (own_below HO.out hbx.out (Nat.le_refl _))
            have hs6 := hbx.out.size
            clear hb1
            have r1 : IntKind.u64.wrap (SM + Z) = SM + Z := u64_id (by omega) (by omega)
            have r2 : (SM + Z).tmod 1073741789 = (SM + Z) % 1073741789 := Int.tmod_eq_emod_of_nonneg (by omega)
            go_wp2_with (first | (go_at_call 58; refine (HBASE.out _).mono ?_; rintro e w' ⟨rfl, rfl⟩) | (go_at_call 59; refine (HPT.out _ hbx.out).mono ?_; rintro e w7 ⟨rfl, hb7⟩; have hbx7 := Lib.hid (hbx.out.trans (hb7.mono hbx.out.size)); have HP7 := Lib.hid (HPr.out.later hbx7.out); have p57 := HP7.out.pk.cell 5; simp at p57; have hc7 := (hbx7.out.cell (p := ⟨bi, oi + k, none⟩) hbir).trans hci; have HO7 := Lib.hid (own_below HO.out hbx7.out (Nat.le_refl _)); have hs7 := hbx7.out.size; clear hb7))
            exact ⟨⟨k + 1, by omega, by go_num, by rw [hsu.out], by rw [hst.out]; exact HO7.out, HBW.out.trans (hbx7.out.mono HBW.out.size)⟩, by simp [intOf]; omega⟩
    · obtain rfl : k = l.length := by omega
      have h8r := H85.out.below hbw H85.out.lt
      have e0 := h8r.cell 0
      have e1 := h8r.cell 1
      have f0 := h8r.frozen 0
      have f1 := h8r.frozen 1
      have H8r := Lib.hid h8r
      have hszr := hbw.size
      clear h8r hbw
      by_cases hw0 : wrongTo rt l l.length = []
      · have g0 : ((wrongTo rt l l.length).length : Int) = 0 := by rw [hw0]; rfl
        have g1 : ¬ (0 : Int) < ((wrongTo rt l l.length).length : Int) := by omega
        have HW0 := Lib.hid hw0
        clear hw0
        go_wp2_with fail
        refine bodyPost_ret (v := .tuple #[.agg #[.int .u64 R, .int .u64 (sumTo rt zs l.length)], .slice none 0 0, .int .i64 0]) ?_ rfl ⟨HB5.out.trans ((HBW.out.mono HB5.out.size).trans (below_two (by omega))), .inr ⟨HX.out, _, rfl, .inl ⟨HW0.out, by rw [HR.out]⟩⟩⟩
        have B := ((H8r.out.set_ 0 (.int .u64 R)).set_ 1 (.int .u64 (sumTo rt zs l.length)))
        have d0 := B.cell 0
        have d1 := B.cell 1
        simp [Go.results, Try.results17, go_sem, d0, d1]
      · have g0 : (0 : Int) < ((wrongTo rt l l.length).length : Int) := by
          have : (wrongTo rt l l.length).length ≠ 0 := fun e => hw0 (List.length_eq_zero_iff.1 e)
          omega
        have HW0 := Lib.hid hw0
        clear hw0
        go_wp2_with fail
        refine bodyPost_ret (v := .tuple #[.agg #[.int .u64 0, .int .u64 0], .slice A3 (wrongTo rt l l.length).length c3, .int .i64 14]) ?_ rfl ⟨HB5.out.trans ((HBW.out.mono HB5.out.size).trans (below_two (by omega))), .inr ⟨HX.out, _, rfl, .inr ⟨HW0.out, _, rfl, ?_⟩⟩⟩
        · have B := ((H8r.out.set_ 0 (.int .u64 0)).set_ 1 (.int .u64 0))
          have d0 := B.cell 0
          have d1 := B.cell 1
          simp [Go.results, Try.results17, go_sem, d0, d1]
        · have h8l := H85.out.lt
          refine (HO.out.kept (row := some (w.heap.size + 1)) (grownBy_set (grownBy_set (World.grownBy.refl _ _) _ _) _ _) ?_).mono (by omega)
          cases hk : (Value.slice A3 (wrongTo rt l l.length).length c3).ownBlock with
          | none => exact .inl rfl
          | some j =>
            have := (HO.out.lt j hk).1
            exact .inr fun e => by cases e; omega
end Go.Proofs.Ytpfpokjaeffbjab.Rag
namespace Go.Proofs.Ytpfpokjaeffbjab.Mem
open Go.RowKit Go.Proofs.Ytpfpokjaeffbjab.Pl Go.Proofs.Ytpfpokjaeffbjab.Rkg
set_option maxRecDepth 100000 in
set_option maxHeartbeats 1000000 in
theorem sameIDs (l : List Int) (u v : Value) (w : World) (hu : Nums .i64 w w.heap.size u l) (hv : Nums .i64 w w.heap.size v l) (hl : l.length ≤ 65536) :
    Calls Try.prog 18 #[u, v] w fun e w' => e = .returned (.bool true) ∧ Below w.heap.size w w' := by
  obtain ⟨A, c, rfl⟩ := Lev.nums_shape hu
  obtain ⟨A2, c2, rfl⟩ := Lev.nums_shape hv
  have HU := Lib.hid hu
  have HV := Lib.hid hv
  have hne : ((l.length : Int) != (l.length : Int)) = false := by rw [bne_eq_false_iff_eq]
  clear hu hv
  go_enter Try.func18, Try.ntmps18
  go_wp2_with fail
  go_loopw [13] (fun i wr => ∃ k m : Nat, k ≤ l.length ∧ i = .int .i64 k ∧ wr = w.drewN m) (fun i _ => l.length - (intOf i).toNat)
  case atStart => exact ⟨0, 0, by omega, rfl, rfl⟩
  case round =>
    obtain ⟨k, m, hk, rfl, rfl⟩ := hrel
    by_cases hlt : k < l.length
    · obtain ⟨b, off, rfl, hb, hc⟩ := nums_at HU.out (by omega)
      obtain ⟨b2, off2, rfl, hb2, hc2⟩ := nums_at HV.out (by omega)
      have x0 := hc k hlt
      have y0 := hc2 k hlt
      clear hc hc2
      generalize l.getD k 0 = p at *
      have z0 : (p != p) = false := by rw [bne_eq_false_iff_eq]
      go_wp2_with fail
      go_quiet (fail)
      go_wp2_with fail
      refine ⟨⟨k + 1, _, by omega, by go_num, rfl⟩, ?_⟩
      simp [intOf]; omega
    · obtain rfl : k = l.length := by omega
      go_wp2_with fail
      go_ret
      exact ⟨rfl, below_drewN (Below.refl _ _) m⟩
end Go.Proofs.Ytpfpokjaeffbjab.Mem
namespace Go.Proofs.Ytpfpokjaeffbjab.Rag
open Go.RowKit Go.Conc Go.Proofs.Ytpfpokjaeffbjab.Cc Go.Proofs.Ytpfpokjaeffbjab.Pl Go.Proofs.Ytpfpokjaeffbjab.Dpl Go.Proofs.Ytpfpokjaeffbjab.Gpl Go.Proofs.Ytpfpokjaeffbjab.Kpl Go.Proofs.Ytpfpokjaeffbjab.Fld Go.Proofs.Ytpfpokjaeffbjab.Mem Go.Proofs.Ytpfpokjaeffbjab.Ver Go.Proofs.Ytpfpokjaeffbjab.Rck Go.Proofs.Ytpfpokjaeffbjab.Rkg Go.Proofs.Ytpfpokjaeffbjab.Agp Go.Proofs.Ytpfpokjaeffbjab.Agt Go.Proofs.Ytpfpokjaeffbjab.Pkg Go.Proofs.Ytpfpokjaeffbjab.Sls Go.Proofs.Ytpfpokjaeffbjab.Grp
set_option linter.unusedVariables false
noncomputable def lgBody : Code := Try.f7.body.getD .skip
noncomputable def lgRest : Code := match (unseq 2 lgBody).2 with | .seq _ b => b | _ => .skip
structure Ans where
  r : Int
  z : Int
  ids : List Int
  e : Int
def ansOf (t n : Int) (cs : List Int) (l : List Cm) (msg : ByteArray) (zs : List Int) (rt : Nat → Bool) : Ans :=
  if aggE t n cs l msg zs.length ≠ 0 then ⟨0, 0, [], aggE t n cs l msg zs.length⟩ else if wrongTo rt l l.length = [] then ⟨allP l (cs.getD 0 0) msg, sumTo rt zs l.length, [], 0⟩ else ⟨0, 0, wrongTo rt l l.length, 14⟩
def Ans.val (a : Ans) (W : Value) : Value := .tuple #[.agg #[.int .u64 a.r, .int .u64 a.z], W, .int .i64 a.e]
theorem nums_nil (k : IntKind) (w : World) (B : Nat) : Nums k w B (.slice none 0 0) [] := ⟨none, 0, rfl, Nat.le_refl _, fun h => absurd h (by simp)⟩
theorem nums_own {w : World} {base : Nat} {e : TypeId} {W : Value} {l : List Int} {k : IntKind} (h : w.ownsRow base e 1 W l.length (l.map (Value.int k))) : Nums k w w.heap.size W l := by
  obtain ⟨h1, ⟨rfl, h2⟩ | ⟨g, cap, cur, rfl, h3, h4, h5, h6, h7, h8⟩⟩ := h
  · obtain rfl := List.length_eq_zero_iff.1 h2
    exact nums_nil _ _ _
  · refine ⟨_, _, rfl, h5, fun hp => ⟨g, 0, rfl, (Array.getElem?_eq_some_iff.1 h4).1, fun i hi => ?_⟩⟩
    rw [Nat.zero_add, cell_of_row w g i cur e (0, 0) h4]
    have h9 : (cur.toList.take (l.length * 1))[i]? = cur[i]? := by rw [List.getElem?_take, if_pos (by omega), Array.getElem?_toList]
    rw [h8] at h9
    rw [← h9, List.getElem?_map, List.getElem?_eq_getElem hi]
    simp [List.getD_eq_getElem?_getD, hi]
theorem refAgg2 {w : World} {t n : Int} {v lv vz : Value} {cs zs : List Int} {l : List Cm} {msg : ByteArray} {rt : Nat → Bool} (hv : Nums .u64 w w.heap.size v cs) (hcl : cs.length ≤ 65536) (hcb : ∀ i, i < cs.length → 0 ≤ cs.getD i 0) (hC : Coms w w.heap.size lv l) (hll : l.length ≤ 65536) (hb : ∀ i, i < l.length → 0 ≤ (l.getD i .zero).d ∧ 0 ≤ (l.getD i .zero).e)
    (hz : Nums .u64 w w.heap.size vz zs) (hzl : zs.length ≤ 65536) (hzb : ∀ k, k < zs.length → 0 ≤ zs.getD k 0 ∧ zs.getD k 0 < 18446744073709551616) (hms : msg.size ≤ 1000000) (hrt : ∀ k, k < l.length → rt k = rightP (zs.getD k 0) (chal (allP l (cs.getD 0 0) msg) (cs.getD 0 0) msg) cs l msg k) :
    Calls Try.prog 17 #[.agg #[.int .i64 t, .int .i64 n, v], .string msg, lv, vz] w fun e w' => Below w.heap.size w w' ∧ ∃ W, e = .returned ((ansOf t n cs l msg zs rt).val W) ∧ Nums .i64 w' w'.heap.size W (ansOf t n cs l msg zs rt).ids := by
  refine (refAggC hv hcl hcb hC hll hb hz hzl hzb hms hrt).mono ?_
  rintro e w' ⟨hbel, ⟨h1, rfl⟩ | ⟨h1, v, rfl, ⟨h2, rfl⟩ | ⟨h2, W, rfl, h3⟩⟩⟩
  · refine ⟨hbel, .slice none 0 0, ?_, ?_⟩
    · unfold ansOf; rw [if_pos h1]; rfl
    · unfold ansOf; rw [if_pos h1]; exact nums_nil _ _ _
  · refine ⟨hbel, .slice none 0 0, ?_, ?_⟩
    · unfold ansOf; rw [if_neg (by simpa using h1), if_pos h2]; rfl
    · unfold ansOf; rw [if_neg (by simpa using h1), if_pos h2]; exact nums_nil _ _ _
  · refine ⟨hbel, W, ?_, ?_⟩
    · unfold ansOf; rw [if_neg (by simpa using h1), if_neg h2]; rfl
    · unfold ansOf; rw [if_neg (by simpa using h1), if_neg h2]; exact nums_own h3
def lgU (msg : ByteArray) (lv vz W : Value) (b4 b9 : Nat) (E : Int) : Array Value := #[undef, .string msg, lv, vz, .pointer (some ⟨b4, 0, none⟩), undef, undef, undef, .bool false, .pointer (some ⟨b9, 0, none⟩), W, .int .i64 E, undef, undef, undef, undef, undef, undef, undef, undef, undef, undef, undef, undef, undef, undef, undef, undef, undef, undef, undef, undef, undef, undef, undef, undef, undef, undef, undef, undef, undef, undef, undef, undef, undef, undef, undef, undef, undef, undef, undef, undef, undef, undef, undef, undef, undef, undef, undef, undef, undef, undef, undef, undef, undef]
set_option maxRecDepth 100000 in
set_option maxHeartbeats 8000000 in
theorem lgRestC {w : World} {t n : Int} {v lv vz W : Value} {cs zs : List Int} {l : List Cm} {msg : ByteArray} {rt : Nat → Bool} {b4 b9 : Nat} {a : Ans} (ha : ansOf t n cs l msg zs rt = a) (hil : a.ids.length ≤ 65536) (hv : Nums .u64 w w.heap.size v cs) (hcl : cs.length ≤ 65536) (hcb : ∀ i, i < cs.length → 0 ≤ cs.getD i 0) (hC : Coms w w.heap.size lv l) (hll : l.length ≤ 65536) (hb : ∀ i, i < l.length → 0 ≤ (l.getD i .zero).d ∧ 0 ≤ (l.getD i .zero).e)
    (hz : Nums .u64 w w.heap.size vz zs) (hzl : zs.length ≤ 65536) (hzb : ∀ k, k < zs.length → 0 ≤ zs.getD k 0 ∧ zs.getD k 0 < 18446744073709551616) (hms : msg.size ≤ 1000000) (hrt : ∀ k, k < l.length → rt k = rightP (zs.getD k 0) (chal (allP l (cs.getD 0 0) msg) (cs.getD 0 0) msg) cs l msg k)
    (g0 : w.cell? ⟨b4, 0, none⟩ = some (.int .i64 t)) (g1 : w.cell? ⟨b4, 1, none⟩ = some (.int .i64 n)) (g2 : w.cell? ⟨b4, 2, none⟩ = some v) (s0 : w.cell? ⟨b9, 0, none⟩ = some (.int .u64 a.r)) (s1 : w.cell? ⟨b9, 1, none⟩ = some (.int .u64 a.z)) (hW : Nums .i64 w w.heap.size W a.ids) :
    lgRest.wp Try.prog (fun e a' w' => e = .ret ∧ a'.defers = [] ∧ a'.tmps[8]? = some (.bool true)) ⟨lgU msg lv vz W b4 b9 a.e, []⟩ w := by
  have HREF := Lib.hid (refAgg2 (w := w) (t := t) (n := n) hv hcl hcb hC hll hb hz hzl hzb hms hrt)
  rw [ha] at HREF
  obtain ⟨A, c, rfl⟩ := Lev.nums_shape hv
  have HW := Lib.hid hW
  clear ha hv hC hz hb hcb hzb hrt hW
  simp only [lgRest, lgBody, unseq, Try.f7, Option.getD_some, lgU]
  obtain ⟨R, Z, I, E⟩ := a
  simp only [] at s0 s1 HW hil ⊢
  have hl9 := World.block_lt_of_cell? w _ s0
  go_wp2_with fail
  refine HREF.out.mono ?_
  rintro e w2 ⟨hb2, W2, rfl, hW2⟩
  have s02 := (hb2.cell (p := ⟨b9, 0, none⟩) hl9).trans s0
  have s12 := (hb2.cell (p := ⟨b9, 1, none⟩) hl9).trans s1
  have HW1 := Lib.hid (HW.out.later hb2)
  have HW2 := Lib.hid hW2
  have hb9 := Nat.lt_of_lt_of_le hl9 hb2.size
  have z0 : (R == R) = true := by rw [beq_iff_eq]
  have z1 : (Z == Z) = true := by rw [beq_iff_eq]
  have z2 : (E == E) = true := by rw [beq_iff_eq]
  have n9 : b9 ≠ w2.heap.size := by omega
  clear s0 s1 hW2 hb2 HW
  simp only [Ans.val]
  go_wp2_with (go_at_call 18; refine (sameIDs I _ _ _ (HW1.out.later (below_box w2 _)) (HW2.out.later (below_box w2 _)) hil).mono ?_; rintro e w5 ⟨rfl, hb5⟩)
def LgN (t n : Int) (v lv vz : Value) (msg : ByteArray) (L1 L2 L3 : Nat) (w : World) (a : Act) (w' : World) : Prop :=
  (L1 ≤ 65536 ∧ msg.size ≤ 65536 ∧ L2 ≤ 65536 ∧ L3 ≤ 65536) ∧ a.tmps.size = 65 ∧ ∃ b4, w.heap.size ≤ b4 ∧ a.tmps[1]? = some (.string msg) ∧ a.tmps[2]? = some lv ∧ a.tmps[3]? = some vz ∧ a.tmps[4]? = some (.pointer (some ⟨b4, 0, none⟩)) ∧ a.tmps[8]? = some (.bool false) ∧
    (∀ i, (9 ≤ i ∧ i < 15) ∨ (34 ≤ i ∧ i < 65) → a.tmps[i]? = some undef) ∧ Blk w' b4 28 #[.int .i64 t, .int .i64 n, v]
def LgR (a : Act) (w' : World) : Prop := a.tmps[8]? = some (.bool true)
set_option maxRecDepth 100000 in
set_option maxHeartbeats 8000000 in
theorem lgPreC {w : World} {t n : Int} {A1 A2 A3 : Option Addr} {L1 L2 L3 c1 c2 c3 : Nat} {msg : ByteArray} :
    wpT Try.prog (LgN t n (.slice A1 L1 c1) (.slice A2 L2 c2) (.slice A3 L3 c3) msg L1 L2 L3 w) LgR (unseq 2 lgBody).1 ⟨#[.agg #[.int .i64 t, .int .i64 n, .slice A1 L1 c1], .string msg, .slice A2 L2 c2, .slice A3 L3 c3, undef, undef, undef, undef, undef, undef, undef, undef, undef, undef, undef, undef, undef, undef, undef, undef, undef, undef, undef, undef, undef, undef, undef, undef, undef, undef, undef, undef, undef, undef, undef, undef, undef, undef, undef, undef, undef, undef, undef, undef, undef, undef, undef, undef, undef, undef, undef, undef, undef, undef, undef, undef, undef, undef, undef, undef, undef, undef, undef, undef, undef], []⟩ w := by
  obtain ⟨B, hB⟩ : ∃ B, B = w.heap.size := ⟨_, rfl⟩
  simp only [lgBody, unseq, Try.f7, Option.getD_some]
  refine wpT_next (fun W => W.heap.size = B) (fun _ _ _ h => h) hB.symm fun w0 hz0 => ?_
  have hnew := fun o => Blk.new w0 28 o
  rw [hz0] at hnew
  have HN := Lib.hid hnew
  have HB := Lib.hid hB
  clear hB hnew
  go_wp2_with fail
  refine wpT_next (fun W => Blk W B 28 #[.int .i64 t, .int .i64 n, .slice A1 L1 c1]) (fun _ _ _ h => h) ?_ fun w1 h4 => ?_
  · exact HN.out _
  have c40 := h4.cell 0
  have c41 := h4.cell 1
  have c42 := h4.cell 2
  simp at c40 c41 c42
  have H4 := Lib.hid h4
  clear h4
  by_cases k1 : L1 ≤ 65536
  case neg =>
    have k1' : 65536 < (L1 : Int) := by omega
    go_wp2_with fail
    first | rfl | exact rfl
  by_cases k2 : msg.size ≤ 65536
  case neg =>
    have k2' : 65536 < (msg.size : Int) := by omega
    have k1' : ¬ 65536 < (L1 : Int) := by omega
    go_wp2_with fail
    first | rfl | exact rfl
  by_cases k3 : L2 ≤ 65536
  case neg =>
    have k3' : 65536 < (L2 : Int) := by omega
    have k2' : ¬ 65536 < (msg.size : Int) := by omega
    have k1' : ¬ 65536 < (L1 : Int) := by omega
    go_wp2_with fail
    first | rfl | exact rfl
  by_cases k4 : L3 ≤ 65536
  case neg =>
    have k4' : 65536 < (L3 : Int) := by omega
    have k3' : ¬ 65536 < (L2 : Int) := by omega
    have k2' : ¬ 65536 < (msg.size : Int) := by omega
    have k1' : ¬ 65536 < (L1 : Int) := by omega
    go_wp2_with fail
    first | rfl | exact rfl
  have k4' : ¬ 65536 < (L3 : Int) := by omega
  have k3' : ¬ 65536 < (L2 : Int) := by omega
  have k2' : ¬ 65536 < (msg.size : Int) := by omega
  have k1' : ¬ 65536 < (L1 : Int) := by omega
  go_wp2_with fail
  exact ⟨⟨k1, k2, k3, k4⟩, rfl, B, by rw [HB.out]; exact Nat.le_refl _, rfl, rfl, rfl, rfl, rfl, fun i hi => by
    match i, hi with
    | 0, h => exact absurd h (by omega)
    | 1, h => exact absurd h (by omega)
    | 2, h => exact absurd h (by omega)
    | 3, h => exact absurd h (by omega)
    | 4, h => exact absurd h (by omega)
    | 5, h => exact absurd h (by omega)
    | 6, h => exact absurd h (by omega)
    | 7, h => exact absurd h (by omega)
    | 8, h => exact absurd h (by omega)
    | 9, _ => exact rfl
    | 10, _ => exact rfl
    | 11, _ => exact rfl
    | 12, _ => exact rfl
    | 13, _ => exact rfl
    | 14, _ => exact rfl
    | 15, h => exact absurd h (by omega)
    | 16, h => exact absurd h (by omega)
    | 17, h => exact absurd h (by omega)
    | 18, h => exact absurd h (by omega)
    | 19, h => exact absurd h (by omega)
    | 20, h => exact absurd h (by omega)
    | 21, h => exact absurd h (by omega)
    | 22, h => exact absurd h (by omega)
    | 23, h => exact absurd h (by omega)
    | 24, h => exact absurd h (by omega)
    | 25, h => exact absurd h (by omega)
    | 26, h => exact absurd h (by omega)
    | 27, h => exact absurd h (by omega)
    | 28, h => exact absurd h (by omega)
    | 29, h => exact absurd h (by omega)
    | 30, h => exact absurd h (by omega)
    | 31, h => exact absurd h (by omega)
    | 32, h => exact absurd h (by omega)
    | 33, h => exact absurd h (by omega)
    | 34, _ => exact rfl
    | 35, _ => exact rfl
    | 36, _ => exact rfl
    | 37, _ => exact rfl
    | 38, _ => exact rfl
    | 39, _ => exact rfl
    | 40, _ => exact rfl
    | 41, _ => exact rfl
    | 42, _ => exact rfl
    | 43, _ => exact rfl
    | 44, _ => exact rfl
    | 45, _ => exact rfl
    | 46, _ => exact rfl
    | 47, _ => exact rfl
    | 48, _ => exact rfl
    | 49, _ => exact rfl
    | 50, _ => exact rfl
    | 51, _ => exact rfl
    | 52, _ => exact rfl
    | 53, _ => exact rfl
    | 54, _ => exact rfl
    | 55, _ => exact rfl
    | 56, _ => exact rfl
    | 57, _ => exact rfl
    | 58, _ => exact rfl
    | 59, _ => exact rfl
    | 60, _ => exact rfl
    | 61, _ => exact rfl
    | 62, _ => exact rfl
    | 63, _ => exact rfl
    | 64, _ => exact rfl
    | i + 65, h => exact absurd h (by omega), H4.out⟩
end Go.Proofs.Ytpfpokjaeffbjab.Rag
