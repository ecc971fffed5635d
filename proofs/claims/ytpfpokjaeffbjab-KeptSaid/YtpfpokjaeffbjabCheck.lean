/- Check: the program's and the reference's. -/
import Derived.Test.YtpfpokjaeffbjabGroupOf
import Derived.BigQuiet
namespace Go.Proofs.Ytpfpokjaeffbjab.Chk
open Go.RowKit Go.Proofs.Ytpfpokjaeffbjab.Pl Go.Proofs.Ytpfpokjaeffbjab.Dpl Go.Proofs.Ytpfpokjaeffbjab.Gpl Go.Proofs.Ytpfpokjaeffbjab.Fld Go.Proofs.Ytpfpokjaeffbjab.Mem Go.Proofs.Ytpfpokjaeffbjab.Ver Go.Proofs.Ytpfpokjaeffbjab.Grp Go.Proofs.Ytpfpokjaeffbjab.Gof

set_option maxRecDepth 100000 in
set_option maxHeartbeats 2000000 in
theorem checkC (t n : Int) (cs : List Int) (v : Value) (id share : Int) (w : World) (hv : Nums .u64 w w.heap.size v cs) (hl : cs.length ≤ 65536) (hcb : ∀ i, i < cs.length → 0 ≤ cs.getD i 0)
    (hs : 0 ≤ share ∧ share < 18446744073709551616) :
    Calls Try.prog 26 #[.agg #[.int .i64 t, .int .i64 n, v], .int .i64 id, .int .u64 share] w fun e w' => e = .returned (.tuple #[.bool (checkB t n cs id share), .int .i64 (checkE t n cs id share)]) ∧ Below w.heap.size w w' := by
  have hbw := below_box w (.cells #[.int .i64 t, .int .i64 n, v] 28)
  have hof := ofC t n cs v _ (hv.later hbw) hl hcb
  have HOF := Lib.hid hof
  have HBW := Lib.hid hbw
  obtain ⟨A, c, rfl, -⟩ := hv
  clear hof hbw
  obtain ⟨hs0, hs1⟩ := hs
  go_enter Try.func26, Try.ntmps26
  go_wp2_with fail
  refine HOF.out.mono ?_
  rintro e w1 ⟨hbw1, ⟨hok, rfl⟩ | ⟨hok, g, vc, rfl, hg, hG, hO⟩⟩
  · have hE := Lib.hid (checkE_group (id := id) (share := share) hok)
    have hF := Lib.hid (checkB_bad (t := t) (n := n) (cs := cs) (id := id) (share := share) (by rw [hE.out]; omega))
    clear hok
    go_wp2_with fail
    go_ret2
    exact ⟨by rw [hE.out, hF.out]; rfl, HBW.out.trans (hbw1.mono (by simp))⟩
  have hbwf : Below w.heap.size w w1 := HBW.out.trans (hbw1.mono (by simp))
  have hspec := groupOk_spec hok
  have hat := Lib.hid (fun j (hj : j < cs.length) => groupOk_at hok hj)
  obtain ⟨s1, s2, s3, s4, s5, s6⟩ := hspec
  have hg' : w.heap.size ≤ g := by simp at hg; omega
  obtain ⟨c0, c1, c2, c3, c4⟩ := hG.cells
  have HG := Lib.hid hG
  have HO := Lib.hid hO
  have HW := Lib.hid hbwf
  clear hG hO hbwf hbw1 hg s5 s6 c0 c2 c3 c4
  obtain ⟨b1, e1⟩ : ∃ b, decide (share < 1073741789) = b := ⟨_, rfl⟩
  have E1 := Lib.hid e1
  clear e1
  by_cases c1 : id < 1
  case pos =>
    have hE := Lib.hid (checkE_id (id := id) (share := share) hok (.inl c1))
    have hF := Lib.hid (checkB_bad (t := t) (n := n) (cs := cs) (id := id) (share := share) (by rw [hE.out]; omega))
    clear hok
    cases b1
    all_goals
      go_wp2_with (go_at_call 30; refine (scIs _ share _ E1.out).mono ?_; rintro e w' ⟨rfl, rfl⟩)
      go_ret2
      exact ⟨by rw [hE.out, hF.out]; rfl, HW.out⟩
  by_cases c2 : n < id
  case pos =>
    have hE := Lib.hid (checkE_id (id := id) (share := share) hok (.inr c2))
    have hF := Lib.hid (checkB_bad (t := t) (n := n) (cs := cs) (id := id) (share := share) (by rw [hE.out]; omega))
    clear hok
    cases b1
    all_goals
      go_wp2_with (go_at_call 30; refine (scIs _ share _ E1.out).mono ?_; rintro e w' ⟨rfl, rfl⟩)
      go_ret2
      exact ⟨by rw [hE.out, hF.out]; rfl, HW.out⟩
  cases b1
  case false =>
    have hE := Lib.hid (checkE_sc (id := id) (share := share) hok (by omega) (by have := E1.out; rw [decide_eq_false_iff_not] at this; omega))
    have hF := Lib.hid (checkB_bad (t := t) (n := n) (cs := cs) (id := id) (share := share) (by rw [hE.out]; omega))
    clear hok
    go_wp2_with (go_at_call 30; refine (scIs _ share _ E1.out).mono ?_; rintro e w' ⟨rfl, rfl⟩)
    go_ret2
    exact ⟨by rw [hE.out, hF.out]; rfl, HW.out⟩
  have hE := Lib.hid (checkE_ok (id := id) (share := share) hok (by omega) (by have := E1.out; rw [decide_eq_true_iff] at this; omega))
  have hF := Lib.hid (checkB_ok hE.out)
  obtain ⟨N, rfl⟩ := Int.eq_ofNat_of_zero_le (show 0 ≤ n by omega)
  have hsh := Lib.hid (shareC g t N vc cs _ id w1 HG.out HO.out (by omega) (by omega) (by omega) hat.out (by omega) (by omega))
  clear hok
  go_wp2_with (first | (go_at_call 30; refine (scIs _ share _ E1.out).mono ?_; rintro e w' ⟨rfl, rfl⟩) | (go_at_call 31; refine (baseI share _ hs0 hs1).mono ?_; rintro e w' ⟨rfl, rfl⟩) | (go_at_call 47; refine hsh.out.mono ?_; rintro e w2 ⟨rfl, hG2, hgr⟩))
  go_ret2
  exact ⟨by rw [hE.out, hF.out]; rfl, HW.out.trans (grownBy_below hgr hg' HW.out.size)⟩
end Go.Proofs.Ytpfpokjaeffbjab.Chk
