/- Combine: the program's and the reference's. -/
import Derived.Test.YtpfpokjaeffbjaaRefHash
namespace Go.Proofs.Ytpfpokjaeffbjaa.Cmb
open Go.RowKit Go.Proofs.Ytpfpokjaeffbjaa.Pl Go.Proofs.Ytpfpokjaeffbjaa.Fld Go.Proofs.Ytpfpokjaeffbjaa.Mem Go.Proofs.Ytpfpokjaeffbjaa.Sls

theorem info_scalar : (Try.prog.info? 76).map (fun i => (i.zero, i.size, i.bytes)) = some (some (.int .u64 0), 1, 8) := by kernel_rfl

set_option maxRecDepth 100000 in
set_option maxHeartbeats 1000000 in
theorem combineC (ids shares : List Int) (u v : Value) (w : World) (hu : Nums .i64 w w.heap.size u ids) (hv : Nums .u64 w w.heap.size v shares) (hl : ids.length ≤ 65536) (_hl' : shares.length ≤ 65536) :
    Calls Try.prog 31 #[u, v] w fun e w' => e = .returned (.tuple #[.int .u64 (combA ids shares), .int .i64 (combE ids shares)]) ∧ Below w.heap.size w w' := by
  obtain ⟨A, c, rfl, hc, hcell⟩ := hu
  obtain ⟨A2, c2, rfl, hc2, hcell2⟩ := hv
  have hids : Hid (Nums .i64 w w.heap.size (.slice A ids.length c) ids) := ⟨A, c, rfl, hc, hcell⟩
  have HC := Lib.hid hcell
  have HC2 := Lib.hid hcell2
  clear hcell hcell2
  by_cases h1 : ids.length = shares.length
  case neg =>
    have hE := combE_len ids shares (fun h => h1 h.1)
    have hA : combA ids shares = 0 := by rw [combA, hE]; rfl
    rw [hE, hA]
    have ht : ((ids.length : Int) != (shares.length : Int)) = true := by rw [bne_iff_ne]; omega
    clear hE hA
    go_enter Try.func31, Try.ntmps31
    go_wp2_with fail
    go_ret2
    exact ⟨rfl, Below.refl _ _⟩
  have h1b : ((ids.length : Int) != (shares.length : Int)) = false := by rw [bne_eq_false_iff_eq]; omega
  by_cases h2 : ids.length = 0
  case pos =>
    have hE := combE_len ids shares (fun h => absurd h.2.1 (by omega))
    have hA : combA ids shares = 0 := by rw [combA, hE]; rfl
    rw [hE, hA]
    have ht : ((ids.length : Int) == 0) = true := by rw [beq_iff_eq]; omega
    have H1 := Lib.hid h1
    clear hE hA h1 h2
    go_enter Try.func31, Try.ntmps31
    go_wp2_with fail
    go_ret2
    exact ⟨rfl, Below.refl _ _⟩
  have h2b : ((ids.length : Int) == 0) = false := by rw [beq_eq_false_iff_ne]; omega
  by_cases h3 : ids.length ≤ 9
  case neg =>
    have hE := combE_len ids shares (fun h => h3 h.2.2)
    have hA : combA ids shares = 0 := by rw [combA, hE]; rfl
    rw [hE, hA]
    have H1 := Lib.hid h1
    clear hE hA h1
    go_enter Try.func31, Try.ntmps31
    go_wp2_with fail
    go_ret2
    exact ⟨rfl, Below.refl _ _⟩
  have h2' : 0 < ids.length := by omega
  have H1 := Lib.hid h1
  have l1 : shares.length ≤ ids.length := by omega
  have l2 : ids.length ≤ shares.length := by omega
  clear h1 h2
  obtain ⟨i0, hi, hz0, hz1, hz2⟩ := info_parts info_scalar
  go_enter Try.func31, Try.ntmps31
  go_wp2_with fail
  go_loopw [6, 28] (fun b i wr => ∃ k : Nat, k ≤ ids.length ∧ i = .int .i64 k ∧ combErr ids shares k = 0 ∧ wr.ownsRow w.heap.size 76 1 b k ((partsC ids shares k).map (Value.int .u64)) ∧ Below w.heap.size w wr) (fun _ i _ => ids.length - (intOf i).toNat)
  case atStart => exact ⟨0, by omega, rfl, rfl, World.ownsRow_nil _ _ _ _, Below.refl _ _⟩
  case round =>
    obtain ⟨k, hk, rfl, herr, hown, hbw⟩ := hrel
    have HO := Lib.hid hown
    have HR := Lib.hid herr
    clear hown herr
    by_cases hlt : k < ids.length
    · obtain ⟨b, off, rfl, hb, hcells⟩ := HC.out (by omega)
      obtain ⟨b2, off2, rfl, hb2, hcells2⟩ := HC2.out (by omega)
      have hck := (hbw.cell (p := ⟨b, off + k, none⟩) hb).trans (hcells k hlt)
      have hck2 := (hbw.cell (p := ⟨b2, off2 + k, none⟩) hb2).trans (hcells2 k (by omega))
      have HN := Lib.hid (hids.out.later hbw)
      have eAt : Hid (combAt ids shares k = if ids.getD k 0 < 1 ∨ 9 < ids.getD k 0 then 5 else if 0 < k ∧ ids.getD k 0 ≤ ids.getD (k - 1) 0 then 6 else if 1073741789 ≤ shares.getD k 0 then 2 else 0) := by
        show combAt ids shares k = _
        rfl
      have hprev : 0 < k → wr.cell? ⟨b, off + (k - 1), none⟩ = some (.int .i64 (ids.getD (k - 1) 0)) := fun _ => (hbw.cell (p := ⟨b, off + (k - 1), none⟩) hb).trans (hcells (k - 1) (by omega))
      have HP := Lib.hid hprev
      have hst := partsC_step ids shares k
      clear hcells hcells2 hprev
      have HST := Lib.hid hst
      clear hst
      have fin : ∀ x : Int, combAt ids shares k = x → x ≠ 0 → Hid (combE ids shares = x ∧ combA ids shares = 0) := by
        intro x hx hn
        have hE := combE_at ids shares H1.out h2' h3 hlt HR.out hx hn
        exact ⟨hE, by rw [combA, if_neg (by rw [hE]; exact hn)]⟩
      have FIN := Lib.hid fin
      clear fin
      generalize hX : ids.getD k 0 = x at *
      have HX := Lib.hid hX
      clear hX
      generalize hY : shares.getD k 0 = y at *
      have HY := Lib.hid hY
      clear hY
      by_cases c1 : x < 1 ∨ 9 < x
      · have hF := FIN.out 5 (by rw [eAt.out, if_pos c1]) (by omega)
        rcases c1 with c1 | c1
        · go_wp2_with (go_at_call 41; refine (scalarOf _ _).mono ?_; rintro e w' ⟨rfl, rfl⟩)
          go_ret2
          exact ⟨by rw [hF.out.1, hF.out.2]; rfl, hbw⟩
        · have c2 : ¬ x < 1 := by omega
          go_wp2_with (go_at_call 41; refine (scalarOf _ _).mono ?_; rintro e w' ⟨rfl, rfl⟩)
          go_ret2
          exact ⟨by rw [hF.out.1, hF.out.2]; rfl, hbw⟩
      have c1a : ¬ x < 1 := by omega
      have c1b : ¬ 9 < x := by omega
      have fin2 : (0 < k → ¬ x ≤ ids.getD (k - 1) 0) → ¬ 1073741789 ≤ y → combErr ids shares (k + 1) = 0 := by
        intro hn hy
        rw [combErr, if_pos HR.out, eAt.out, if_neg (by omega), if_neg (fun h => hn h.1 h.2), if_neg hy]
      have FIN2 := Lib.hid fin2
      clear fin2
      by_cases hk0 : 0 < k
      · have hpc := HP.out hk0
        generalize hP : ids.getD (k - 1) 0 = p at *
        have HPP := Lib.hid hP
        clear hP
        by_cases c3 : x ≤ p
        · have hF := FIN.out 6 (by rw [eAt.out, if_neg (by omega), if_pos ⟨hk0, c3⟩]) (by omega)
          go_wp2_with (go_at_call 41; refine (scalarOf _ _).mono ?_; rintro e w' ⟨rfl, rfl⟩)
          go_ret2
          exact ⟨by rw [hF.out.1, hF.out.2]; rfl, hbw⟩
        by_cases c5 : 1073741789 ≤ y
        · have hF := FIN.out 2 (by rw [eAt.out, if_neg (by omega), if_neg (fun h => c3 h.2), if_pos c5]) (by omega)
          have c4 : ¬ y < 1073741789 := by omega
          go_wp2_with (go_at_call 41; refine (scalarNo _ _ (by omega)).mono ?_; rintro e w' ⟨rfl, rfl⟩)
          go_ret2
          exact ⟨by rw [hF.out.1, hF.out.2]; rfl, hbw⟩
        · have c4 : y < 1073741789 := by omega
          have hR := FIN2.out (fun _ => c3) c5
          have HR2 := Lib.hid hR
          clear hR c5
          go_wp2_with (go_at_call 41; refine (scalarYes _ _ (by omega)).mono ?_; rintro e w' ⟨rfl, rfl⟩)
          refine (lagrangeC ids k _ _ HN.out hl hlt).mono ?_
          rintro e w' ⟨rfl, n, rfl⟩
          go_wp2_with (first | (go_at_call 69; refine (stimes _ _ _).mono ?_; rintro e w' ⟨rfl, rfl⟩) | (at_builtin; refine wpList_append_own _ rfl (.tmp 63) (.tmp 69) _ rfl w.heap.size 76 i0 (.int .u64 0) 1 8 Try.underlying75 hi hz0 hz1 hz2 rfl (by decide) _ _ _ rfl (((ownsRow_drewN HO.out n).alloc _)) ⟨wr.heap.size, 0, none⟩ 1 1 [.int .u64 (smul y (lagrange ids k))] rfl rfl (cell_one_new _ _ _) (by simp [Value.oneCell']) (by unfold maxLen; omega) (by omega) (by have := hbw.size; simp; omega) ?_; intro v' w1 hown' hgrow _))
          have hbw2 : Below w.heap.size w w1 := ((below_drewN hbw n).alloc hbw.size _).grown hgrow (by have := hbw.size; simp; omega) (fun k hk => (((ownsRow_drewN HO.out n).alloc (Obj.cells #[.int .u64 0] 76)).lt k hk).1)
          have e5 : (partsC ids shares k).map (Value.int .u64) ++ [.int .u64 (smul y (lagrange ids k))] = (partsC ids shares (k + 1)).map (Value.int .u64) := by
            rw [HST.out, List.map_append]; rfl
          rw [e5] at hown'
          refine ⟨⟨k + 1, by omega, by go_num, HR2.out, hown', hbw2⟩, ?_⟩
          simp [intOf]; omega
      · by_cases c3 : 1073741789 ≤ y
        · have hF := FIN.out 2 (by rw [eAt.out, if_neg (by omega), if_neg (fun h => hk0 h.1), if_pos c3]) (by omega)
          have c4 : ¬ y < 1073741789 := by omega
          go_wp2_with (go_at_call 41; refine (scalarNo _ _ (by omega)).mono ?_; rintro e w' ⟨rfl, rfl⟩)
          go_ret2
          exact ⟨by rw [hF.out.1, hF.out.2]; rfl, hbw⟩
        · have c4 : y < 1073741789 := by omega
          have hR := FIN2.out (fun h => absurd h hk0) c3
          have HR2 := Lib.hid hR
          clear hR c3
          go_wp2_with (go_at_call 41; refine (scalarYes _ _ (by omega)).mono ?_; rintro e w' ⟨rfl, rfl⟩)
          refine (lagrangeC ids k _ _ HN.out hl hlt).mono ?_
          rintro e w' ⟨rfl, n, rfl⟩
          go_wp2_with (first | (go_at_call 69; refine (stimes _ _ _).mono ?_; rintro e w' ⟨rfl, rfl⟩) | (at_builtin; refine wpList_append_own _ rfl (.tmp 63) (.tmp 69) _ rfl w.heap.size 76 i0 (.int .u64 0) 1 8 Try.underlying75 hi hz0 hz1 hz2 rfl (by decide) _ _ _ rfl (((ownsRow_drewN HO.out n).alloc _)) ⟨wr.heap.size, 0, none⟩ 1 1 [.int .u64 (smul y (lagrange ids k))] rfl rfl (cell_one_new _ _ _) (by simp [Value.oneCell']) (by unfold maxLen; omega) (by omega) (by have := hbw.size; simp; omega) ?_; intro v' w1 hown' hgrow _))
          have hbw2 : Below w.heap.size w w1 := ((below_drewN hbw n).alloc hbw.size _).grown hgrow (by have := hbw.size; simp; omega) (fun k hk => (((ownsRow_drewN HO.out n).alloc (Obj.cells #[.int .u64 0] 76)).lt k hk).1)
          have e5 : (partsC ids shares k).map (Value.int .u64) ++ [.int .u64 (smul y (lagrange ids k))] = (partsC ids shares (k + 1)).map (Value.int .u64) := by
            rw [HST.out, List.map_append]; rfl
          rw [e5] at hown'
          refine ⟨⟨k + 1, by omega, by go_num, HR2.out, hown', hbw2⟩, ?_⟩
          simp [intOf]; omega
    · obtain rfl : k = ids.length := by omega
      have HF : Hid (combE ids shares = 0 ∧ combA ids shares = sumS 0 (partsC ids shares ids.length) ids.length) := by
        show combE ids shares = 0 ∧ _
        have h : combE ids shares = 0 := combE_ok ids shares H1.out h2' h3 HR.out
        exact ⟨h, by rw [combA, if_pos h]⟩
      have hpl := partsC_length ids shares ids.length
      have hnum := Nums.own (k := .u64) (l := partsC ids shares ids.length) (by rw [hpl]; exact HO.out)
      have HNUM := Lib.hid hnum
      have HPL := Lib.hid hpl
      clear hnum hpl
      go_wp2_with fail
      refine (foldS 0 _ _ _ HNUM.out (by rw [HPL.out]; omega)).mono ?_
      rintro e w' ⟨rfl, rfl⟩
      go_wp2_with fail
      go_ret2
      exact ⟨by rw [HF.out.1, HF.out.2, HPL.out]; rfl, hbw⟩

set_option maxRecDepth 100000 in
set_option maxHeartbeats 1000000 in
theorem refCombineC (ids shares : List Int) (u v : Value) (w : World) (hu : Nums .i64 w w.heap.size u ids) (hv : Nums .u64 w w.heap.size v shares) (hl : ids.length ≤ 65536) (_hl' : shares.length ≤ 65536)
    (hsb : ∀ i, i < shares.length → 0 ≤ shares.getD i 0) :
    Calls Try.prog 34 #[u, v] w fun e w' => e = .returned (.tuple #[.int .u64 (combR ids shares), .int .i64 (combE ids shares)]) ∧ Below w.heap.size w w' := by
  obtain ⟨A, c, rfl, hc, hcell⟩ := hu
  obtain ⟨A2, c2, rfl, hc2, hcell2⟩ := hv
  have hids : Hid (Nums .i64 w w.heap.size (.slice A ids.length c) ids) := ⟨A, c, rfl, hc, hcell⟩
  have HC := Lib.hid hcell
  have HC2 := Lib.hid hcell2
  have HSB := Lib.hid hsb
  clear hcell hcell2 hsb
  by_cases h2 : ids.length = 0
  case pos =>
    have hE := combE_len ids shares (fun h => absurd h.2.1 (by omega))
    have hA : combR ids shares = 0 := by rw [combR, hE]; rfl
    rw [hE, hA]
    have ht : ((ids.length : Int) == 0) = true := by rw [beq_iff_eq]; omega
    clear hE hA h2
    go_enter Try.func34, Try.ntmps34
    go_wp2_with fail
    go_ret2
    exact ⟨rfl, Below.refl _ _⟩
  have h2b : ((ids.length : Int) == 0) = false := by rw [beq_eq_false_iff_ne]; omega
  by_cases h3 : ids.length ≤ 9
  case neg =>
    have hE := combE_len ids shares (fun h => h3 h.2.2)
    have hA : combR ids shares = 0 := by rw [combR, hE]; rfl
    rw [hE, hA]
    clear hE hA h2
    go_enter Try.func34, Try.ntmps34
    go_wp2_with fail
    go_ret2
    exact ⟨rfl, Below.refl _ _⟩
  by_cases h1 : ids.length = shares.length
  case neg =>
    have hE := combE_len ids shares (fun h => h1 h.1)
    have hA : combR ids shares = 0 := by rw [combR, hE]; rfl
    rw [hE, hA]
    have ht : ((ids.length : Int) != (shares.length : Int)) = true := by rw [bne_iff_ne]; omega
    clear hE hA h2
    go_enter Try.func34, Try.ntmps34
    go_wp2_with fail
    go_ret2
    exact ⟨rfl, Below.refl _ _⟩
  have h1b : ((ids.length : Int) != (shares.length : Int)) = false := by rw [bne_eq_false_iff_eq]; omega
  have h2' : 0 < ids.length := by omega
  have H1 := Lib.hid h1
  have l1 : shares.length ≤ ids.length := by omega
  have l2 : ids.length ≤ shares.length := by omega
  clear h1 h2
  go_enter Try.func34, Try.ntmps34
  go_wp2_with fail
  go_loop [27] (fun i => ∃ k : Nat, k ≤ ids.length ∧ i = .int .i64 k ∧ combErr ids shares k = 0) (fun i => ids.length - (intOf i).toNat)
  case atStart => exact ⟨0, by omega, rfl, rfl⟩
  case round =>
    obtain ⟨k, hk, rfl, herr⟩ := hrel
    have HR := Lib.hid herr
    clear herr
    by_cases hlt : k < ids.length
    · obtain ⟨b, off, rfl, hb, hcells⟩ := HC.out (by omega)
      obtain ⟨b2, off2, rfl, hb2, hcells2⟩ := HC2.out (by omega)
      have hck := hcells k hlt
      have hck2 := hcells2 k (by omega)
      have eAt : Hid (combAt ids shares k = if ids.getD k 0 < 1 ∨ 9 < ids.getD k 0 then 5 else if 0 < k ∧ ids.getD k 0 ≤ ids.getD (k - 1) 0 then 6 else if 1073741789 ≤ shares.getD k 0 then 2 else 0) := by
        show combAt ids shares k = _
        rfl
      have hprev : 0 < k → w.cell? ⟨b, off + (k - 1), none⟩ = some (.int .i64 (ids.getD (k - 1) 0)) := fun _ => hcells (k - 1) (by omega)
      have HP := Lib.hid hprev
      clear hcells hcells2 hprev
      have fin : ∀ x : Int, combAt ids shares k = x → x ≠ 0 → Hid (combE ids shares = x ∧ combR ids shares = 0) := by
        intro x hx hn
        have hE := combE_at ids shares H1.out h2' h3 hlt HR.out hx hn
        exact ⟨hE, by rw [combR, if_neg (by rw [hE]; exact hn)]⟩
      have FIN := Lib.hid fin
      clear fin
      generalize hX : ids.getD k 0 = x at *
      have HX := Lib.hid hX
      clear hX
      generalize hY : shares.getD k 0 = y at *
      have HY := Lib.hid hY
      clear hY
      by_cases c1 : x < 1 ∨ 9 < x
      · have hF := FIN.out 5 (by rw [eAt.out, if_pos c1]) (by omega)
        rcases c1 with c1 | c1
        · go_wp2_with fail
          go_ret2
          exact ⟨by rw [hF.out.1, hF.out.2]; rfl, Below.refl _ _⟩
        · have c2 : ¬ x < 1 := by omega
          go_wp2_with fail
          go_ret2
          exact ⟨by rw [hF.out.1, hF.out.2]; rfl, Below.refl _ _⟩
      have c1a : ¬ x < 1 := by omega
      have c1b : ¬ 9 < x := by omega
      have fin2 : (0 < k → ¬ x ≤ ids.getD (k - 1) 0) → ¬ 1073741789 ≤ y → combErr ids shares (k + 1) = 0 := by
        intro hn hy
        rw [combErr, if_pos HR.out, eAt.out, if_neg (by omega), if_neg (fun h => hn h.1 h.2), if_neg hy]
      have FIN2 := Lib.hid fin2
      clear fin2
      by_cases hk0 : 0 < k
      · have hpc := HP.out hk0
        generalize hP : ids.getD (k - 1) 0 = p at *
        have HPP := Lib.hid hP
        clear hP
        by_cases c3 : x ≤ p
        · have hF := FIN.out 6 (by rw [eAt.out, if_neg (by omega), if_pos ⟨hk0, c3⟩]) (by omega)
          go_wp2_with fail
          go_ret2
          exact ⟨by rw [hF.out.1, hF.out.2]; rfl, Below.refl _ _⟩
        by_cases c5 : 1073741789 ≤ y
        · have hF := FIN.out 2 (by rw [eAt.out, if_neg (by omega), if_neg (fun h => c3 h.2), if_pos c5]) (by omega)
          go_wp2_with fail
          go_ret2
          exact ⟨by rw [hF.out.1, hF.out.2]; rfl, Below.refl _ _⟩
        · have hR := FIN2.out (fun _ => c3) c5
          have HR2 := Lib.hid hR
          clear hR
          go_wp2_with fail
          go_round
          case rel => exact ⟨k + 1, by omega, by go_num, HR2.out⟩
          case measure => simp [intOf]; omega
      · by_cases c3 : 1073741789 ≤ y
        · have hF := FIN.out 2 (by rw [eAt.out, if_neg (by omega), if_neg (fun h => hk0 h.1), if_pos c3]) (by omega)
          go_wp2_with fail
          go_ret2
          exact ⟨by rw [hF.out.1, hF.out.2]; rfl, Below.refl _ _⟩
        · have hR := FIN2.out (fun h => absurd h hk0) c3
          have HR2 := Lib.hid hR
          clear hR
          go_wp2_with fail
          go_round
          case rel => exact ⟨k + 1, by omega, by go_num, HR2.out⟩
          case measure => simp [intOf]; omega
    · obtain rfl : k = ids.length := by omega
      have HF : Hid (combE ids shares = 0 ∧ combR ids shares = rsum ids shares ids.length) := by
        show combE ids shares = 0 ∧ _
        have h : combE ids shares = 0 := combE_ok ids shares H1.out h2' h3 HR.out
        exact ⟨h, by rw [combR, if_pos h]⟩
      have hgood : ∀ i, i < ids.length → 1 ≤ ids.getD i 0 ∧ ids.getD i 0 ≤ 9 ∧ shares.getD i 0 < 1073741789 := fun i hi => combErr_good ids shares HR.out hi
      have HG := Lib.hid hgood
      have hwb := Lib.hid (fun i hi => (⟨(hgood i hi).1, (hgood i hi).2.1⟩ : 1 ≤ ids.getD i 0 ∧ ids.getD i 0 ≤ 9))
      clear hgood
      go_wp2_with fail
      go_loopw [8, 57] (fun s i wr => ∃ k n : Nat, k ≤ ids.length ∧ wr = w.drewN n ∧ i = .int .i64 k ∧ s = .int .u64 (rsum ids shares k)) (fun _ i _ => ids.length - (intOf i).toNat)
      case atStart => exact ⟨0, 0, by omega, rfl, rfl, rfl⟩
      case round =>
        obtain ⟨k, n, hk, rfl, rfl, rfl⟩ := hrel
        by_cases hlt : k < ids.length
        · obtain ⟨b2, off2, rfl, hb2, hcells2⟩ := HC2.out (by omega)
          have hck2 := hcells2 k (by omega)
          clear hcells2
          have eS : Hid (rsum ids shares (k + 1) = (rsum ids shares k + shares.getD k 0 * weight ids k) % 1073741789) := by
            show rsum ids shares (k + 1) = _
            rfl
          have bs := rsum_bd ids shares k
          have bw := wtS_bd ids k ids.length
          rw [show wtS ids k ids.length = weight ids k from rfl] at bw
          have by0 := HSB.out k (by omega)
          have by1 := (HG.out k hlt).2.2
          have bm := mul_lt by0 by1 bw.1 bw.2
          obtain ⟨bm1, bm2⟩ := bm
          obtain ⟨bs1, bs2⟩ := bs
          have hids2 := hids.out
          have HN := Lib.hid hids2
          clear hids2 bw by0 by1
          generalize hY : shares.getD k 0 = y at *
          have HY := Lib.hid hY
          clear hY
          generalize rsum ids shares k = s at *
          have hW : ∀ W, W.heap.size = w.heap.size → (∀ p : Addr, W.cell? p = w.cell? p) → Nums .i64 W W.heap.size (.slice A ids.length c) ids := by
            intro W h1 h2
            rw [h1]
            obtain ⟨A', c', hv, hc', hh⟩ := HN.out
            refine ⟨A', c', hv, hc', fun hp => ?_⟩
            obtain ⟨b, off, e1, e2, e3⟩ := hh hp
            exact ⟨b, off, e1, e2, fun i hi => (h2 _).trans (e3 i hi)⟩
          have HW := Lib.hid hW
          clear hW
          go_wp2_with fail
          go_quiet ((go_at_call 78; exact quiet_add_left (weightC ids k _ _ (HW.out _ rfl (fun _ => rfl)) hl hlt hwb.out)))
          go_wp2_with fail
          refine ⟨⟨k + 1, _, by omega, rfl, by go_num, by rw [eS.out]⟩, ?_⟩
          simp [intOf]; omega
        · obtain rfl : k = ids.length := by omega
          go_wp2_with fail
          go_ret2
          exact ⟨by rw [HF.out.1, HF.out.2]; rfl, below_drewN (Below.refl _ _) n⟩
end Go.Proofs.Ytpfpokjaeffbjaa.Cmb
