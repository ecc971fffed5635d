/- Check: the reference's. -/
import Derived.Test.YtpfpokjaeffbjabCheck
import Derived.Deep.RegionHeld3
namespace Go.Proofs.Ytpfpokjaeffbjab.Rck
open Go.RowKit Go.Proofs.Ytpfpokjaeffbjab.Pl Go.Proofs.Ytpfpokjaeffbjab.Dpl Go.Proofs.Ytpfpokjaeffbjab.Gpl Go.Proofs.Ytpfpokjaeffbjab.Fld Go.Proofs.Ytpfpokjaeffbjab.Mem Go.Proofs.Ytpfpokjaeffbjab.Ver Go.Proofs.Ytpfpokjaeffbjab.Grp Go.Proofs.Ytpfpokjaeffbjab.Gof

set_option maxRecDepth 100000 in
set_option maxHeartbeats 2000000 in
theorem rightBad (t n : Int) (cs : List Int) (v : Value) (w : World) (hv : Nums .u64 w w.heap.size v cs) (hl : cs.length ≤ 65536)
    (hbad : t < 2 ∨ n < t ∨ 9 < n ∨ (cs.length : Int) ≠ t ∨ cs.getD 0 0 = 1) :
    Calls Try.prog 51 #[.agg #[.int .i64 t, .int .i64 n, v]] w fun e w' => e = .returned (.bool (groupOk t n cs)) ∧ Below w.heap.size w w' := by
  obtain ⟨A, c, rfl, hc, hcell⟩ := hv
  have hE : Hid (groupOk t n cs = false) := by
    show groupOk t n cs = false
    exact groupOk_bad (fun h => by
      obtain ⟨h1, h2, h3, h4, h5⟩ := h
      rcases hbad with h | h | h | h | h
      · omega
      · omega
      · omega
      · exact h h4
      · exact h5 h)
  have HC := Lib.hid hcell
  clear hcell
  by_cases h1 : t < 2
  case pos =>
    clear hbad
    go_enter Try.func51, Try.ntmps51
    go_wp2_with fail
    go_ret
    exact ⟨by rw [hE.out]; rfl, below_box _ _⟩
  by_cases h2 : n < t
  case pos =>
    clear hbad
    go_enter Try.func51, Try.ntmps51
    go_wp2_with fail
    go_ret
    exact ⟨by rw [hE.out]; rfl, below_box _ _⟩
  by_cases h3 : 9 < n
  case pos =>
    clear hbad
    go_enter Try.func51, Try.ntmps51
    go_wp2_with fail
    go_ret
    exact ⟨by rw [hE.out]; rfl, below_box _ _⟩
  by_cases h4 : (cs.length : Int) = t
  case neg =>
    have h4' : ((cs.length : Int) != t) = true := by rw [bne_iff_ne]; omega
    clear hbad h4
    go_enter Try.func51, Try.ntmps51
    go_wp2_with fail
    go_ret
    exact ⟨by rw [hE.out]; rfl, below_box _ _⟩
  have h4' : ((cs.length : Int) != t) = false := by rw [bne_eq_false_iff_eq]; omega
  have h5 : cs.getD 0 0 = 1 := by
    rcases hbad with h | h | h | h | h
    · omega
    · omega
    · omega
    · exact absurd h4 h
    · exact h
  have h6 : (cs.getD 0 0 == 1) = true := by rw [beq_iff_eq]; exact h5
  have hp : 0 < cs.length := by omega
  have hp1 : (0 : Int) < (cs.length : Int) := by omega
  obtain ⟨b, off, rfl, hb, hcells⟩ := HC.out hp
  have hc0 := hcells 0 hp
  rw [Nat.add_zero] at hc0
  clear hcells hbad h4 h5 HC
  generalize hX : cs.getD 0 0 = X at *
  clear hX
  go_enter Try.func51, Try.ntmps51
  go_wp2_with fail
  go_ret
  exact ⟨by rw [hE.out]; rfl, below_box _ _⟩

set_option maxRecDepth 100000 in
set_option maxHeartbeats 2000000 in
theorem rightGood (n : Int) (cs : List Int) (v : Value) (w : World) (hv : Nums .u64 w w.heap.size v cs) (hcb : ∀ i, i < cs.length → 0 ≤ cs.getD i 0)
    (h1 : 2 ≤ cs.length) (h2 : (cs.length : Int) ≤ n) (h3 : n ≤ 9) (h5 : cs.getD 0 0 ≠ 1) :
    Calls Try.prog 51 #[.agg #[.int .i64 cs.length, .int .i64 n, v]] w fun e w' => e = .returned (.bool (groupOk cs.length n cs)) ∧ Below w.heap.size w w' := by
  obtain ⟨A, c, rfl, hc, hcell⟩ := hv
  have hE : Hid (groupOk cs.length n cs = elsTo cs cs.length) := by
    show groupOk cs.length n cs = _
    exact groupOk_els ⟨by omega, h2, h3, rfl, h5⟩
  have HCB := Lib.hid hcb
  obtain ⟨b, off, rfl, hb, hcells⟩ := hcell (by omega)
  have hc0 := hcells 0 (by omega)
  rw [Nat.add_zero] at hc0
  have HC := Lib.hid hcells
  have n1 : ¬ (cs.length : Int) < 2 := by omega
  have n2 : ¬ n < (cs.length : Int) := by omega
  have n3 : ¬ 9 < n := by omega
  have n4 : ((cs.length : Int) != (cs.length : Int)) = false := by rw [bne_eq_false_iff_eq]
  have n5 : (cs.getD 0 0 == 1) = false := by rw [beq_eq_false_iff_ne]; exact h5
  have n6 : (0 : Int) < (cs.length : Int) := by omega
  clear hcell hcells hcb h5
  generalize hX0 : cs.getD 0 0 = X at *
  clear hX0
  go_enter Try.func51, Try.ntmps51
  go_wp2_with fail
  go_loopw [38] (fun i wr => ∃ k : Nat, k ≤ cs.length ∧ i = .int .i64 k ∧ elsTo cs k = true ∧ Below w.heap.size w wr) (fun i _ => cs.length - (intOf i).toNat)
  case atStart => exact ⟨0, by omega, rfl, rfl, below_box _ _⟩
  case round =>
    obtain ⟨k, hk, rfl, hels, hbw⟩ := hrel
    have HEL := Lib.hid hels
    clear hels
    by_cases hlt : k < cs.length
    · have hck := (hbw.cell (p := ⟨b, off + k, none⟩) hb).trans (HC.out k hlt)
      have hcb := HCB.out k hlt
      have hbad : isEl (cs.getD k 0) = false → Hid (groupOk cs.length n cs = false) := fun h => by
        show groupOk cs.length n cs = false
        rw [hE.out]; exact elsTo_bad cs hlt h
      have hgood : isEl (cs.getD k 0) = true → elsTo cs (k + 1) = true := fun h => elsTo_step cs HEL.out h
      have HBAD := Lib.hid hbad
      have HGOOD := Lib.hid hgood
      clear hbad hgood
      generalize hY : cs.getD k 0 = Y at *
      clear hY
      obtain ⟨bl, hbl⟩ : ∃ bl, isEl Y = bl := ⟨_, rfl⟩
      have HBL := Lib.hid hbl
      clear hbl
      cases bl
      case false =>
        have hE2 := HBAD.out HBL.out
        go_wp2_with (go_at_call 99; refine (refElIs _ Y _ hcb HBL.out).mono ?_; rintro e w' ⟨rfl, rfl⟩)
        go_ret
        exact ⟨by rw [hE2.out]; rfl, hbw⟩
      case true =>
        go_wp2_with (go_at_call 99; refine (refElIs _ Y _ hcb HBL.out).mono ?_; rintro e w' ⟨rfl, rfl⟩)
        refine ⟨⟨k + 1, by omega, by go_num, HGOOD.out HBL.out, hbw⟩, by simp [intOf]; omega⟩
    · obtain rfl : k = cs.length := by omega
      have hE2 : Hid (groupOk cs.length n cs = true) := by
        show groupOk cs.length n cs = true
        rw [hE.out]; exact HEL.out
      go_wp2_with fail
      go_ret
      exact ⟨by rw [hE2.out]; rfl, hbw⟩
theorem rightC (t n : Int) (cs : List Int) (v : Value) (w : World) (hv : Nums .u64 w w.heap.size v cs) (hl : cs.length ≤ 65536) (hcb : ∀ i, i < cs.length → 0 ≤ cs.getD i 0) (b : Bool) (hb : groupOk t n cs = b) :
    Calls Try.prog 51 #[.agg #[.int .i64 t, .int .i64 n, v]] w fun e w' => e = .returned (.bool b) ∧ Below w.heap.size w w' := by
  subst hb
  by_cases h : t < 2 ∨ n < t ∨ 9 < n ∨ (cs.length : Int) ≠ t ∨ cs.getD 0 0 = 1
  · exact rightBad t n cs v w hv hl h
  · have e : t = cs.length := by omega
    subst e
    exact rightGood n cs v w hv hcb (by omega) (by omega) (by omega) (by omega)

theorem pubS_mod (cs : List Int) (id : Int) (j : Nat) {C X : Int} (hC : cs.getD j 0 = C) (hX : rpA id j = X) : pubS cs id j * pw C X.toNat 2147483579 % 2147483579 = pubS cs id (j + 1) := by
  rw [pubS, hC, hX]
set_option maxRecDepth 100000 in
set_option maxHeartbeats 2000000 in
/-- The public share of a signer, by the reference. -/
theorem publicC (t n : Int) (cs : List Int) (v : Value) (id : Int) (w : World) (hv : Nums .u64 w w.heap.size v cs) (hl9 : cs.length ≤ 9) (hel : ∀ i, i < cs.length → isEl (cs.getD i 0) = true) (h1 : 1 ≤ id) (h2 : id ≤ 9) :
    Calls Try.prog 56 #[.agg #[.int .i64 t, .int .i64 n, v], .int .i64 id] w fun e w' => e = .returned (.int .u64 (pub cs id)) ∧ Below w.heap.size w w' := by
  obtain ⟨A, c, rfl, hc, hcell⟩ := hv
  have HC := Lib.hid hcell
  have HEL := Lib.hid hel
  have wid : IntKind.u64.wrap id = id := u64_id (by omega) (by omega)
  have wid2 : id % 18446744073709551616 = id := by omega
  clear hcell hel
  go_enter Try.func56, Try.ntmps56
  go_wp2_with fail
  go_loopw [5, 11] (fun o i wr => ∃ j : Nat, j ≤ cs.length ∧ i = .int .i64 j ∧ o = .int .u64 (pubS cs id j) ∧ Below w.heap.size w wr) (fun _ i _ => cs.length - (intOf i).toNat)
  case atStart => exact ⟨0, by omega, rfl, rfl, below_box _ _⟩
  case round =>
    obtain ⟨j, hj, rfl, rfl, hbw⟩ := hrel
    by_cases hjl : j < cs.length
    · obtain ⟨b, off, rfl, hb, hcells⟩ := HC.out (by omega)
      have hck := (hbw.cell (p := ⟨b, off + j, none⟩) hb).trans (hcells j hjl)
      have he := isEl_bd (HEL.out j hjl)
      have PX := Lib.hid (rpA_pw id j)
      have b1 := rpA_bd id j
      have b0 := pubS_bd cs id j
      have wj : IntKind.u64.wrap (j : Int) = (j : Int) := u64_id (by omega) (by omega)
      have wj2 : (j : Int) % 18446744073709551616 = (j : Int) := by omega
      have PM := Lib.hid (pubS_mod cs id j (C := cs.getD j 0) (X := rpA id j) rfl rfl)
      obtain ⟨he1, he2⟩ := he
      obtain ⟨b1, b2⟩ := b1
      obtain ⟨b01, b02⟩ := b0
      have b3 := pw_bd (cs.getD j 0) (rpA id j).toNat (m := 2147483579) (by omega)
      have b4 := mul_lt b01 b02 b3.1 b3.2
      have b5 := mul_wrap b01 (show pubS cs id j < 4294967296 by omega) b3.1 (by omega)
      have b6 : (pubS cs id j * pw (cs.getD j 0) (rpA id j).toNat 2147483579).tmod 2147483579 = pubS cs id j * pw (cs.getD j 0) (rpA id j).toNat 2147483579 % 2147483579 := Int.tmod_eq_emod_of_nonneg b4.1
      have hp1 : ∀ W, Calls Try.prog 55 #[.int .u64 id, .int .u64 j, .int .u64 1073741789] W fun e w' => e = .returned (.int .u64 (rpA id j)) ∧ W = w' := fun W => by
        have := refPowI 1073741789 id j W (by omega) (by omega) (by omega) (by omega) (by omega) (by omega)
        rw [Int.toNat_natCast, ← PX.out] at this
        exact this
      have hp2 : ∀ W, Calls Try.prog 55 #[.int .u64 (cs.getD j 0), .int .u64 (rpA id j), .int .u64 2147483579] W fun e w' => e = .returned (.int .u64 (pw (cs.getD j 0) (rpA id j).toNat 2147483579)) ∧ W = w' := fun W =>
        refPowI 2147483579 (cs.getD j 0) (rpA id j) W (by omega) (by omega) (by omega) (by omega) b1 (by omega)
      have HP1 := Lib.hid hp1
      have HP2 := Lib.hid hp2
      clear hp1 hp2 hcells b3 b4
      generalize pw (cs.getD j 0) (rpA id j).toNat 2147483579 = Z at *
      generalize cs.getD j 0 = C at *
      generalize rpA id j = X at *
      generalize pubS cs id j = O at *
      go_wp2_with fail
      refine (HP1.out _).mono ?_
      rintro e w' ⟨rfl, rfl⟩
      go_wp2_with fail
      refine (HP2.out _).mono ?_
      rintro e w' ⟨rfl, rfl⟩
      go_wp2_with fail
      refine ⟨⟨j + 1, by omega, by go_num, by rw [PM.out], hbw⟩, by simp [intOf]; omega⟩
    · obtain rfl : j = cs.length := by omega
      go_wp2_with fail
      go_ret
      exact ⟨rfl, hbw⟩
set_option maxRecDepth 100000 in
set_option maxHeartbeats 2000000 in
theorem refCheckC (t n : Int) (cs : List Int) (v : Value) (id share : Int) (w : World) (hv : Nums .u64 w w.heap.size v cs) (hl : cs.length ≤ 65536) (hcb : ∀ i, i < cs.length → 0 ≤ cs.getD i 0)
    (hs : 0 ≤ share ∧ share < 18446744073709551616) :
    Calls Try.prog 103 #[.agg #[.int .i64 t, .int .i64 n, v], .int .i64 id, .int .u64 share] w fun e w' => e = .returned (.tuple #[.bool (checkB t n cs id share), .int .i64 (checkE t n cs id share)]) ∧ Below w.heap.size w w' := by
  have hbw := below_box w (.cells #[.int .i64 t, .int .i64 n, v] 28)
  obtain ⟨bo, hbo⟩ : ∃ bo, groupOk t n cs = bo := ⟨_, rfl⟩
  have hof := rightC t n cs v _ (hv.later hbw) hl hcb bo hbo
  have HOF := Lib.hid hof
  have HBW := Lib.hid hbw
  have HV := Lib.hid hv
  obtain ⟨A, c, rfl, -⟩ := hv
  have hblk := Blk.new w 28 #[.int .i64 t, .int .i64 n, .slice A cs.length c]
  have HBLK := Lib.hid hblk
  clear hof hbw hblk
  obtain ⟨hs0, hs1⟩ := hs
  cases bo
  case false =>
    have hE := Lib.hid (checkE_group (id := id) (share := share) hbo)
    have hF := Lib.hid (checkB_bad (t := t) (n := n) (cs := cs) (id := id) (share := share) (by rw [hE.out]; omega))
    clear hbo
    go_enter Try.func103, Try.ntmps103
    go_wp2_with fail
    refine HOF.out.mono ?_
    rintro e w1 ⟨rfl, hbw1⟩
    go_wp2_with fail
    go_ret2
    exact ⟨by rw [hE.out, hF.out]; rfl, HBW.out.trans (hbw1.mono (by simp))⟩
  have hspec := groupOk_spec hbo
  have hat := Lib.hid (fun j (hj : j < cs.length) => groupOk_at hbo hj)
  obtain ⟨s1, s2, s3, s4, s5, s6⟩ := hspec
  go_enter Try.func103, Try.ntmps103
  go_wp2_with fail
  refine HOF.out.mono ?_
  rintro e w1 ⟨rfl, hbw1⟩
  have hblk1 := HBLK.out.below hbw1 HBLK.out.lt
  have c0 : w1.cell? ⟨w.heap.size, 0, none⟩ = some (.int .i64 t) := hblk1.cell 0
  have c1 : w1.cell? ⟨w.heap.size, 1, none⟩ = some (.int .i64 n) := hblk1.cell 1
  have c2 : w1.cell? ⟨w.heap.size, 2, none⟩ = some (.slice A cs.length c) := hblk1.cell 2
  have hbwf : Below w.heap.size w w1 := HBW.out.trans (hbw1.mono (by simp))
  have hnd : Nums .u64 w1.drew w1.drew.heap.size (.slice A cs.length c) cs := (HV.out.later hbwf).later ((Below.refl _ _).drew)
  have hsz := hblk1.lt
  have HND := Lib.hid hnd
  have HW := Lib.hid hbwf
  clear hbwf hbw1 hnd hblk1 s5 s6
  by_cases k1 : id < 1
  case pos =>
    have hE := Lib.hid (checkE_id (id := id) (share := share) hbo (.inl k1))
    have hF := Lib.hid (checkB_bad (t := t) (n := n) (cs := cs) (id := id) (share := share) (by rw [hE.out]; omega))
    clear hbo
    go_wp2_with fail
    go_ret2
    exact ⟨by rw [hE.out, hF.out]; rfl, HW.out⟩
  by_cases k2 : n < id
  case pos =>
    have hE := Lib.hid (checkE_id (id := id) (share := share) hbo (.inr k2))
    have hF := Lib.hid (checkB_bad (t := t) (n := n) (cs := cs) (id := id) (share := share) (by rw [hE.out]; omega))
    clear hbo
    go_wp2_with fail
    go_ret2
    exact ⟨by rw [hE.out, hF.out]; rfl, HW.out⟩
  by_cases k3 : 1073741789 ≤ share
  case pos =>
    have hE := Lib.hid (checkE_sc (id := id) (share := share) hbo (by omega) k3)
    have hF := Lib.hid (checkB_bad (t := t) (n := n) (cs := cs) (id := id) (share := share) (by rw [hE.out]; omega))
    clear hbo
    go_wp2_with fail
    go_ret2
    exact ⟨by rw [hE.out, hF.out]; rfl, HW.out⟩
  have hE := Lib.hid (checkE_ok (id := id) (share := share) hbo (by omega) k3)
  have hF := Lib.hid (checkB_ok hE.out)
  clear hbo
  go_wp2_with fail
  go_region_held3 (fun w' => w'.cell? ⟨w.heap.size, 0, none⟩ = some (.int .i64 t) ∧ w'.cell? ⟨w.heap.size, 1, none⟩ = some (.int .i64 n) ∧ w'.cell? ⟨w.heap.size, 2, none⟩ = some (.slice A cs.length c))
    (first | go_keep | (exact ⟨(hb1.cell (p := ⟨w.heap.size, 0, none⟩) hsz).trans c0, (hb1.cell (p := ⟨w.heap.size, 1, none⟩) hsz).trans c1, (hb1.cell (p := ⟨w.heap.size, 2, none⟩) hsz).trans c2⟩))
    (first | (go_at_call 58; refine (refBaseI share _ hs0 hs1).mono ?_; rintro e w' ⟨rfl, rfl⟩) | (go_at_call 56; refine (publicC t n cs _ id _ HND.out (by omega) hat.out (by omega) (by omega)).mono ?_; rintro e w2 ⟨rfl, hb1⟩))
  all_goals
    go_wp2_with fail
    go_ret2
    exact ⟨by rw [hE.out, hF.out]; rfl, HW.out.trans (((Below.refl _ _).drew).trans (hb1.mono HW.out.size))⟩
end Go.Proofs.Ytpfpokjaeffbjab.Rck
