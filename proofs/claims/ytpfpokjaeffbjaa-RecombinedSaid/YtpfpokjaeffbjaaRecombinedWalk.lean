/- The walk of the law Recombined. -/
import Derived.Test.YtpfpokjaeffbjaaDealt
import Derived.Test.YtpfpokjaeffbjaaCheck
import Derived.Test.YtpfpokjaeffbjaaCombine
import Derived.Deep.RegionHeld3
import Derived.Deep.DeepCutAuto
namespace Go.Proofs.Ytpfpokjaeffbjaa.RecombinedW
open Go.RowKit Go.Proofs.Ytpfpokjaeffbjaa.Pl Go.Proofs.Ytpfpokjaeffbjaa.Dpl Go.Proofs.Ytpfpokjaeffbjaa.Gpl Go.Proofs.Ytpfpokjaeffbjaa.Cpl Go.Proofs.Ytpfpokjaeffbjaa.Lag Go.Proofs.Ytpfpokjaeffbjaa.Rpl Go.Proofs.Ytpfpokjaeffbjaa.Fld Go.Proofs.Ytpfpokjaeffbjaa.Mem Go.Proofs.Ytpfpokjaeffbjaa.Sls Go.Proofs.Ytpfpokjaeffbjaa.Ver Go.Proofs.Ytpfpokjaeffbjaa.Dtp Go.Proofs.Ytpfpokjaeffbjaa.Dlt Go.Proofs.Ytpfpokjaeffbjaa.Chk Go.Proofs.Ytpfpokjaeffbjaa.Cmb Go.Proofs.Ytpfpokjaeffbjaa.Dea
set_option linter.unusedVariables false

/-- The chosen signers' shares. -/
def shs (coeffs : List Int) (xs : List Nat) (k : Nat) : List Int := ((ints xs).take k).map (poly coeffs)
theorem shs_length (coeffs : List Int) (xs : List Nat) {k : Nat} (h : k ≤ xs.length) : (shs coeffs xs k).length = k := by
  unfold shs
  rw [List.length_map, List.length_take, ints_length]; omega
theorem shs_step (coeffs : List Int) (xs : List Nat) {k : Nat} (h : k < xs.length) : shs coeffs xs (k + 1) = shs coeffs xs k ++ [poly coeffs ((xs.getD k 0 : Nat) : Int)] := by
  unfold shs
  have hl : k < (ints xs).length := by rw [ints_length]; exact h
  rw [List.take_succ_eq_append_getElem hl, List.map_append, ← Lag.ints_at, List.getD_eq_getElem?_getD, List.getElem?_eq_getElem hl]
  rfl
theorem shs_at (coeffs : List Int) (xs : List Nat) {k : Nat} (h : k < xs.length) : (shs coeffs xs xs.length).getD k 0 = poly coeffs ((ints xs).getD k 0) := by
  unfold shs
  have hl : k < (ints xs).length := by rw [ints_length]; exact h
  rw [← ints_length, List.take_length, List.getD_eq_getElem?_getD, List.getElem?_map, List.getD_eq_getElem?_getD, List.getElem?_eq_getElem hl]
  rfl
theorem combErr_sel {coeffs : List Int} {xs : List Nat} (hr : xs.Pairwise (· < ·)) (hb : ∀ x ∈ xs, 1 ≤ x ∧ x ≤ 9) (k : Nat) (hk : k ≤ xs.length) : combErr (ints xs) (shs coeffs xs xs.length) k = 0 := by
  induction k with
  | zero => rfl
  | succ k ih =>
    have hlt : k < xs.length := by omega
    have h1 := hb _ (getD_mem hlt)
    rw [combErr, if_pos (ih (by omega)), combAt, shs_at coeffs xs hlt]
    have h3 := poly_bd coeffs ((ints xs).getD k 0)
    rw [Lag.ints_at] at h3 ⊢
    rw [if_neg (by omega), if_neg, if_neg (by omega)]
    rintro ⟨h0, h2⟩
    rw [Lag.ints_at] at h2
    have := rise_lt hr (i := k - 1) (j := k) (by omega) hlt
    omega
theorem combE_sel {coeffs : List Int} {xs : List Nat} (hr : xs.Pairwise (· < ·)) (hb : ∀ x ∈ xs, 1 ≤ x ∧ x ≤ 9) (h0 : 0 < xs.length) (h9 : xs.length ≤ 9) : combE (ints xs) (shs coeffs xs xs.length) = 0 :=
  combE_ok _ _ (by rw [ints_length, shs_length _ _ (Nat.le_refl _)]) (by rw [ints_length]; exact h0) (by rw [ints_length]; exact h9) (by rw [ints_length]; exact combErr_sel hr hb _ (Nat.le_refl _))
theorem rec_plain {seed mask : Int} {T N : Nat} (hT : 2 ≤ T) (hTN : T ≤ N) (hN : N ≤ 9) :
    combE (ints (ids mask T N)) (shs (cfs seed T) (ids mask T N) (ids mask T N).length) = 0 ∧ combA (ints (ids mask T N)) (shs (cfs seed T) (ids mask T N) (ids mask T N).length) = cf seed 0 := by
  have hen := idsTo_enough mask T N N hTN (Nat.le_refl _)
  have hle := idsTo_le mask T N N
  have hsel := idsTo_sel mask T N N
  have e : ids mask T N = idsTo mask T N N := rfl
  rw [e]
  have hr : (idsTo mask T N N).Pairwise (· < ·) := by rw [hsel]; exact sel_rise _ _
  have hb : ∀ x ∈ idsTo mask T N N, 1 ≤ x ∧ x ≤ 9 := fun x hx => by
    rw [hsel] at hx
    have := sel_mem _ _ x hx; omega
  have h1 := combE_sel (coeffs := cfs seed T) hr hb (by omega) (by omega)
  refine ⟨h1, ?_⟩
  have hnn : ∀ i, i < (shs (cfs seed T) (idsTo mask T N N) (idsTo mask T N N).length).length → 0 ≤ (shs (cfs seed T) (idsTo mask T N N) (idsTo mask T N N).length).getD i 0 := fun i hi => by
    rw [shs_length _ _ (Nat.le_refl _)] at hi
    rw [shs_at _ _ hi]
    exact (poly_bd _ _).1
  rw [comb_eq _ _ hnn]
  unfold combR
  rw [if_pos h1, ints_length]
  have h2 := recombine (c := fun j => bitAt mask (j + 1) || decide ((idsTo mask T N j).length + N < T + (j + 1))) hN (cfs seed T) (shs (cfs seed T) (idsTo mask T N N) (idsTo mask T N N).length)
    (by rw [cfs_length]; omega) (by rw [cfs_length, ← hsel]; omega) (cfs_bd seed T) (fun k hk => by
      rw [← hsel] at hk ⊢
      exact shs_at _ _ hk)
  rw [← hsel] at h2
  rw [h2, cfs_at seed (by omega)]

theorem nums_at {k : IntKind} {w : World} {B : Nat} {A : Option Addr} {n c : Nat} {l : List Int} (h : Nums k w B (.slice A n c) l) (hp : 0 < l.length) :
    ∃ b off, A = some ⟨b, off, none⟩ ∧ b < B ∧ ∀ i, i < l.length → w.cell? ⟨b, off + i, none⟩ = some (.int k (l.getD i 0)) := by
  obtain ⟨A', c', hv, _, h⟩ := h
  obtain ⟨b, off, hA, r⟩ := h hp
  have : A = A' := by injection hv
  exact ⟨b, off, this.trans hA, r⟩

set_option maxRecDepth 100000 in
set_option maxHeartbeats 8000000 in
theorem walk {w : World} (t : Int) (wt : -9223372036854775808 ≤ t ∧ t ≤ 9223372036854775807) (n : Int) (wn : -9223372036854775808 ≤ n ∧ n ≤ 9223372036854775807) (seed : Int) (ws : 0 ≤ seed ∧ seed < 18446744073709551616)
    (mask : Int) (wm : -9223372036854775808 ≤ mask ∧ mask ≤ 9223372036854775807) (other : Int) (wo : 0 ≤ other ∧ other < 18446744073709551616) :
    Calls Try.prog 12 #[.int .i64 t, .int .i64 n, .int .u64 seed, .int .i64 mask, .int .u64 other] w fun e w' => e = .returned (.bool true) ∧ Below w.heap.size w w' := by
  have hdt := dealtC t n seed mask w wt wn ws
  have hN := nOf_bd n
  have hT := tOf_bd t n
  have hcz := cf_zero ws
  have HD := Lib.hid hdt
  have HCZ := Lib.hid hcz
  generalize nOf n = N at *
  generalize tOf t n = T at *
  obtain ⟨hN1, hN2, -⟩ := hN
  obtain ⟨hT1, hT2, -⟩ := hT
  have hrec := rec_plain (seed := seed) (mask := mask) hT1 hT2 hN2
  have hcf0 : 1 ≤ cf seed 0 ∧ cf seed 0 < 1073741789 := kscalar_bd
  have hg := group_dealt (t := T) (n := N) (l := cfs seed T) (by omega) (by omega) (by omega) (by rw [cfs_length]) (by rw [cfs_at seed (by omega)]; exact hcf0.1) (by rw [cfs_at seed (by omega)]; exact hcf0.2)
  have hyes : ∀ y : Nat, y < N → _ := fun y hy => check_yes hg (cfs_bd seed T) (id := (y : Int) + 1) (by omega) (by omega) (by omega)
  have hno : ∀ (y : Nat) (s : Int), y < N → 0 ≤ s ∧ s < 1073741789 → s ≠ poly (cfs seed T) ((y : Int) + 1) → _ := fun y s hy hs hne => check_no hg (cfs_bd seed T) (id := (y : Int) + 1) (s := s) (by omega) (by omega) (by omega) hs hne
  have hsel := idsTo_sel mask T N N
  have hmem : ∀ k, k < (ids mask T N).length → 1 ≤ (ids mask T N).getD k 0 ∧ (ids mask T N).getD k 0 ≤ N := fun k hk => by
    have h1 := getD_mem hk
    have e : ids mask T N = idsTo mask T N N := rfl
    rw [e, hsel] at h1 ⊢
    exact sel_mem _ _ _ h1
  have hle : (ids mask T N).length ≤ N := idsTo_le mask T N N
  have hge : T ≤ (ids mask T N).length := by
    have h1 := idsTo_enough mask T N N hT2 (Nat.le_refl _)
    have e : ids mask T N = idsTo mask T N N := rfl
    rw [e]; omega
  have hclen : (comms (cfs seed T) (cfs seed T).length).length = T := by rw [comms_length _ (Nat.le_refl _), cfs_length]
  have hcnn : ∀ i, i < (comms (cfs seed T) (cfs seed T).length).length → 0 ≤ (comms (cfs seed T) (cfs seed T).length).getD i 0 := fun i hi => by
    rw [hclen] at hi
    rw [comms_at _ (by rw [cfs_length]; omega)]
    exact (pw_bd 4 _ (by omega)).1
  have hc0 : (comms (cfs seed T) (cfs seed T).length).getD 0 0 = pw 4 (cf seed 0).toNat 2147483579 := by rw [comms_at _ (by rw [cfs_length]; omega), cfs_at seed (by omega)]
  have hslen := sharesP_length (cfs seed T) N
  have hsat : ∀ y, y < N → (sharesP (cfs seed T) N).getD y 0 = poly (cfs seed T) ((y : Int) + 1) := fun y hy => sharesP_at _ hy
  have hstp : ∀ k, k < (ids mask T N).length → shs (cfs seed T) (ids mask T N) (k + 1) = shs (cfs seed T) (ids mask T N) k ++ [poly (cfs seed T) (((ids mask T N).getD k 0 : Nat) : Int)] := fun k hk => shs_step _ _ hk
  have hshl : ∀ k, k ≤ (ids mask T N).length → (shs (cfs seed T) (ids mask T N) k).length = k := fun k hk => shs_length _ _ hk
  have HREC := Lib.hid hrec
  have HYES := Lib.hid hyes
  have HNO := Lib.hid hno
  have HMEM := Lib.hid hmem
  have HCN := Lib.hid hcnn
  have HC0 := Lib.hid hc0
  have HSAT := Lib.hid hsat
  have HSTP := Lib.hid hstp
  have HSHL := Lib.hid hshl
  obtain ⟨wo0, wo1⟩ := wo
  obtain ⟨ws0, ws1⟩ := ws
  have hK := kscalar_bd (x := other)
  have hks := fun W => keepScalar other W wo0
  have hks2 := fun W => keepScalar seed W ws0
  rw [← HCZ.out] at hks2
  have HKS := Lib.hid hks
  have HKS2 := Lib.hid hks2
  clear hdt hcz hrec hyes hno hmem hcnn hc0 hsat hstp hshl hks hks2 wt wn wm hg hsel
  generalize hCS : cfs seed T = coeffs at *
  generalize hXS : ids mask T N = xs at *
  generalize hKK : kscalar other = K at *
  generalize hcc : cf seed 0 = C0 at *
  generalize hCM : comms coeffs coeffs.length = cs at *
  generalize hSH : sharesP coeffs N = sl at *
  clear hCS hXS hKK hcc hCM hSH HCZ
  obtain ⟨i1, hj, hy0, hy1, hy2⟩ := info_parts info_u64
  go_enter Try.func12, Try.ntmps12
  go_wp2_with fail
  refine HD.out.mono ?_
  rintro e w1 ⟨vc, vs, vi, rfl, hc, hs, hi, hb1⟩
  obtain ⟨A1, c1, rfl⟩ := Lev.nums_shape hc
  obtain ⟨A2, c2, rfl⟩ := Lev.nums_shape hs
  obtain ⟨A3, c3, rfl⟩ := Lev.nums_shape hi
  rw [hclen, hslen, ints_length]
  rw [hclen] at hc
  rw [hslen] at hs
  rw [ints_length] at hi
  have hil : (ints xs).length = xs.length := ints_length xs
  obtain ⟨b1, off1, rfl, hbb1, hcl1⟩ := nums_at hc (by omega)
  obtain ⟨b2, off2, rfl, hbb2, hcl2⟩ := nums_at hs (by omega)
  obtain ⟨b3, off3, rfl, hbb3, hcl3⟩ := nums_at hi (by omega)
  have HC := Lib.hid hc
  have HI := Lib.hid hi
  have HC1 := Lib.hid hcl1
  have HC2 := Lib.hid hcl2
  have HC3 := Lib.hid hcl3
  clear hc hs hi hcl1 hcl2 hcl3
  go_wp2_with fail
  go_loopw [15, 38] (fun v i wr => ∃ k : Nat, k ≤ xs.length ∧ i = .int .i64 k ∧ wr.ownsRow w1.heap.size 40 1 v k ((shs coeffs xs k).map (Value.int .u64)) ∧ Blk wr w1.heap.size 31 #[.int .i64 T, .int .i64 N, .slice (some ⟨b1, off1, none⟩) T c1] ∧ Below w1.heap.size w1 wr) (fun _ i _ => xs.length - (intOf i).toNat)
  case atStart => exact ⟨0, by omega, rfl, World.ownsRow_nil _ _ _ _, Blk.new _ _ _, below_box _ _⟩
  case round =>
    obtain ⟨k, hk, rfl, hown, hblk, hbw⟩ := hrel
    have HO := Lib.hid hown
    clear hown
    by_cases hlt : k < xs.length
    · obtain ⟨hm1, hm2⟩ := HMEM.out k hlt
      have hst := Lib.hid (HSTP.out k hlt)
      have hx3 := (hbw.cell (p := ⟨b3, off3 + k, none⟩) hbb3).trans (HC3.out k (by omega))
      rw [Lag.ints_at] at hx3
      obtain ⟨y, hy⟩ : ∃ y, xs.getD k 0 = y + 1 := ⟨xs.getD k 0 - 1, by omega⟩
      rw [hy] at hx3
      have hst2 : Hid (shs coeffs xs (k + 1) = shs coeffs xs k ++ [poly coeffs ((y : Int) + 1)]) := by
        show _ = _
        rw [hst.out, hy]; rfl
      have hyN : y < N := by omega
      have hx2 := (hbw.cell (p := ⟨b2, off2 + y, none⟩) hbb2).trans (HC2.out y (by omega))
      rw [HSAT.out y hyN] at hx2
      have hy1' := HYES.out y hyN
      have hpb := poly_bd coeffs ((y : Int) + 1)
      have hxx : wr.cell? ⟨b3, off3 + k, none⟩ = some (.int .i64 ((y : Int) + 1)) := hx3
      have sA : IntKind.i64.wrap ((y : Int) + 1 - 1) = (y : Int) := by rw [IntKind.wrap_i64]; omega
      have sE : IntKind.i64.wrap (y : Int) = (y : Int) := by rw [IntKind.wrap_i64]; omega
      have sC : (0 : Int) ≤ (y : Int) := by omega
      have sD : (y : Int) < (N : Int) := by omega
      have hcs := hblk.below (Below.refl w1.heap.size wr)
      have HOw := HO
      obtain ⟨wo, rfl⟩ : ∃ wo : World, wo = wr := ⟨_, rfl⟩
      clear hx3 hst hm1 hm2 hcs
      have hsat1 := HSAT.out y hyN
      have hnoy := fun s => HNO.out y s hyN
      generalize hP : poly coeffs ((y : Int) + 1) = P at *
      have HSY := Lib.hid hsat1
      have HNY := Lib.hid hnoy
      have HYY := Lib.hid hy1'
      clear hP hsat1 hnoy hy1'
      go_upto_region 9 with (at_builtin; refine wpList_append_own _ rfl (.tmp 42) (.tmp 48) _ rfl w1.heap.size 40 i1 (.int .u64 0) 1 8 Try.underlying29 hj hy0 hy1 hy2 rfl (by decide) _ _ _ rfl (HO.out.alloc _) ⟨wo.heap.size, 0, none⟩ 1 1 [.int .u64 P] rfl rfl (cell_one_new _ _ _) (by simp [Value.oneCell']) (by unfold maxLen; omega) (by omega) (by have := hbw.size; simp; omega) ?_; intro v1 w2 hown2 hgrow2 _)
      have hbw2 := below_grown hbw HO.out hbw.size hgrow2
      have hblk2 := blk_grown hblk HO.out (by decide) hgrow2
      have c0 : w2.cell? ⟨w1.heap.size, 0, none⟩ = some (.int .i64 T) := hblk2.cell 0
      have c1' : w2.cell? ⟨w1.heap.size, 1, none⟩ = some (.int .i64 N) := hblk2.cell 1
      have c2' : w2.cell? ⟨w1.heap.size, 2, none⟩ = some (.slice (some ⟨b1, off1, none⟩) T c1) := hblk2.cell 2
      have hx22 := (hbw2.cell (p := ⟨b2, off2 + y, none⟩) hbb2).trans (HC2.out y (by omega))
      rw [HSY.out] at hx22
      have hn2 : Nums .u64 w2.drew w2.drew.heap.size (.slice (some ⟨b1, off1, none⟩) T c1) cs := HC.out.later hbw2.drew
      have HN2 := Lib.hid hn2
      have HB2 := Lib.hid hbw2
      have HBK := Lib.hid hblk2
      have HOO := Lib.hid hown2
      have hszB := hblk2.lt
      have hszb2 : b2 < w2.heap.size := by have := hbw2.size; omega
      clear hn2 hbw2 hblk2 hown2 hgrow2 hx2 hxx hbw hblk
      go_region_held3 (fun w' => (w'.cell? ⟨w1.heap.size, 0, none⟩ = some (.int .i64 T) ∧ w'.cell? ⟨w1.heap.size, 1, none⟩ = some (.int .i64 N) ∧ w'.cell? ⟨w1.heap.size, 2, none⟩ = some (.slice (some ⟨b1, off1, none⟩) T c1)) ∧ w'.cell? ⟨b2, off2 + y, none⟩ = some (.int .u64 P))
        (first | go_keep | (exact ⟨⟨(hbk.cell (p := ⟨w1.heap.size, 0, none⟩) hszB).trans c0, (hbk.cell (p := ⟨w1.heap.size, 1, none⟩) hszB).trans c1', (hbk.cell (p := ⟨w1.heap.size, 2, none⟩) hszB).trans c2'⟩, (hbk.cell (p := ⟨b2, off2 + y, none⟩) hszb2).trans hx22⟩))
        (first | (go_at_call 30; refine (checkC T N cs _ ((y : Int) + 1) P _ HN2.out (by omega) HCN.out (by omega)).mono ?_; rintro e w3 ⟨rfl, hbk⟩))
      all_goals
        rw [HYY.out.1, HYY.out.2]
        have hbw3 : Below w1.heap.size w1 w3 := HB2.out.trans (((Below.refl _ _).drew).trans (hbk.mono HB2.out.size))
        have hblk3 := (show Blk w2.drew _ _ _ from HBK.out).below hbk hszB
        have hown3 := own_below (show w2.drew.ownsRow _ _ _ _ _ _ from HOO.out) hbk (Nat.le_refl _)
        have c0 : w3.cell? ⟨w1.heap.size, 0, none⟩ = some (.int .i64 T) := hblk3.cell 0
        have c1' : w3.cell? ⟨w1.heap.size, 1, none⟩ = some (.int .i64 N) := hblk3.cell 1
        have c2' : w3.cell? ⟨w1.heap.size, 2, none⟩ = some (.slice (some ⟨b1, off1, none⟩) T c1) := hblk3.cell 2
        have hx22 := (hbw3.cell (p := ⟨b2, off2 + y, none⟩) hbb2).trans (HC2.out y (by omega))
        rw [HSY.out] at hx22
        have hn3 : Nums .u64 w3.drew w3.drew.heap.size (.slice (some ⟨b1, off1, none⟩) T c1) cs := HC.out.later hbw3.drew
        have HN3 := Lib.hid hn3
        have HB3 := Lib.hid hbw3
        have HBK3 := Lib.hid hblk3
        have HOO3 := Lib.hid hown3
        have hszB := hblk3.lt
        have hszb2 : b2 < w3.heap.size := by have := hbw3.size; omega
        obtain ⟨R, hR⟩ : ∃ R, (P + K) % 1073741789 = R := ⟨_, rfl⟩
        have hRb : (0 ≤ R ∧ R < 1073741789) ∧ R ≠ P := by omega
        have hno2 := HNY.out R hRb.1 hRb.2
        have hR2 : (P + K).tmod 1073741789 = R := by rw [Int.tmod_eq_emod_of_nonneg (by omega)]; exact hR
        have sG : IntKind.u64.wrap (P + K) = P + K := u64_id (by omega) (by omega)
        have HNO2 := Lib.hid hno2
        have HRB := Lib.hid hRb
        clear hn3 hbw3 hblk3 hown3 hbk hno2 hRb
        go_wp2_with fail
        go_region_held3 (fun w' => (w'.cell? ⟨w1.heap.size, 0, none⟩ = some (.int .i64 T) ∧ w'.cell? ⟨w1.heap.size, 1, none⟩ = some (.int .i64 N) ∧ w'.cell? ⟨w1.heap.size, 2, none⟩ = some (.slice (some ⟨b1, off1, none⟩) T c1)) ∧ w'.cell? ⟨b2, off2 + y, none⟩ = some (.int .u64 P))
          (first | go_keep | (exact ⟨⟨(hbk.cell (p := ⟨w1.heap.size, 0, none⟩) hszB).trans c0, (hbk.cell (p := ⟨w1.heap.size, 1, none⟩) hszB).trans c1', (hbk.cell (p := ⟨w1.heap.size, 2, none⟩) hszB).trans c2'⟩, (hbk.cell (p := ⟨b2, off2 + y, none⟩) hszb2).trans hx22⟩))
          (first | (go_at_call 30; refine (checkC T N cs _ ((y : Int) + 1) R _ HN3.out (by omega) HCN.out ⟨HRB.out.1.1, by have := HRB.out.1.2; omega⟩).mono ?_; rintro e w4 ⟨rfl, hbk⟩) | (go_at_call 36; refine (HKS.out _).mono ?_; rintro e w' ⟨rfl, rfl⟩))
        all_goals
          rw [HNO2.out.1, HNO2.out.2]
          have hbw4 : Below w1.heap.size w1 w4 := HB3.out.trans (((Below.refl _ _).drew).trans (hbk.mono HB3.out.size))
          have hblk4 := (show Blk w3.drew _ _ _ from HBK3.out).below hbk hszB
          have hown4 := own_below (show w3.drew.ownsRow _ _ _ _ _ _ from HOO3.out) hbk (Nat.le_refl _)
          have m1 : ((0 : Int) != 0) = false := rfl
          go_wp2_with fail
          refine ⟨⟨k + 1, by omega, by go_num, by rw [hst2.out, List.map_append]; exact hown4, hblk4, hbw4⟩, by simp [intOf]; omega⟩
    · obtain rfl : k = xs.length := by omega
      have hbwf := hb1.trans (hbw.mono hb1.size)
      have hsh := Nums.own (l := shs coeffs xs xs.length) (by rw [HSHL.out _ (Nat.le_refl _)]; exact HO.out)
      obtain ⟨A5, c5, rfl⟩ := own_shape HO.out
      have HSN := Lib.hid hsh
      have hids := HI.out.later hbw
      have HID2 := Lib.hid hids
      have hcmb := combineC (ints xs) (shs coeffs xs xs.length) _ _ wr hids hsh (by omega) (by rw [HSHL.out _ (Nat.le_refl _)]; omega)
      rw [HREC.out.1, HREC.out.2] at hcmb
      have HCMB := Lib.hid hcmb
      clear hsh hids hcmb
      go_wp2_with fail
      refine HCMB.out.mono ?_
      rintro e w5 ⟨rfl, hb5⟩
      have hblk5 := hblk.below hb5 hblk.lt
      have hbw5 := hbw.trans (hb5.mono hbw.size)
      have c0 : w5.cell? ⟨w1.heap.size, 0, none⟩ = some (.int .i64 T) := hblk5.cell 0
      have c1' : w5.cell? ⟨w1.heap.size, 1, none⟩ = some (.int .i64 N) := hblk5.cell 1
      have c2' : w5.cell? ⟨w1.heap.size, 2, none⟩ = some (.slice (some ⟨b1, off1, none⟩) T c1) := hblk5.cell 2
      have hx1 := (hbw5.cell (p := ⟨b1, off1 + 0, none⟩) hbb1).trans (HC1.out 0 (by omega))
      rw [HC0.out, Nat.add_zero] at hx1
      obtain ⟨hc01, hc02⟩ := hcf0
      have hpw : ∀ W, Calls Try.prog 37 #[.int .u64 C0] W fun e w' => e = .returned (.int .u64 (pw 4 C0.toNat 2147483579)) ∧ W = w' := fun W => by
        have h := keepPower C0.toNat W (by omega)
        rw [Int.toNat_of_nonneg (by omega)] at h
        exact h
      have HPW := Lib.hid hpw
      have HBF := Lib.hid (hbwf.trans (hb5.mono hbwf.size))
      have m1 : ((0 : Int) == 0) = true := rfl
      have m2 : (C0 == C0) = true := by rw [beq_iff_eq]
      have m4 : (0 : Int) < (T : Int) := by omega
      clear hpw hbwf hbw5 hb5 hblk hbw hblk5
      generalize pw 4 C0.toNat 2147483579 = PW at *
      have m3 : (PW == PW) = true := by rw [beq_iff_eq]
      go_wp2_with fail
      go_quiet (first | (go_at_call 36; exact quiet_left (HKS2.out _)) | (go_at_call 37; exact quiet_left (HPW.out _)))
      go_wp2_with fail
      go_ret
      exact ⟨rfl, below_drewN HBF.out _⟩
end Go.Proofs.Ytpfpokjaeffbjaa.RecombinedW
