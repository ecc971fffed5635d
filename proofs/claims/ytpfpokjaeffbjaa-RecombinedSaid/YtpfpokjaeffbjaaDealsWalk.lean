/- The walk of the law Deals. -/
import Derived.Test.YtpfpokjaeffbjaaDeal
import Derived.Test.YtpfpokjaeffbjaaLeave
namespace Go.Proofs.Ytpfpokjaeffbjaa.DealsW
open Go.RowKit Go.Proofs.Ytpfpokjaeffbjaa.Pl Go.Proofs.Ytpfpokjaeffbjaa.Dpl Go.Proofs.Ytpfpokjaeffbjaa.Fld Go.Proofs.Ytpfpokjaeffbjaa.Mem Go.Proofs.Ytpfpokjaeffbjaa.Lev Go.Proofs.Ytpfpokjaeffbjaa.Ver Go.Proofs.Ytpfpokjaeffbjaa.Dea

set_option maxRecDepth 100000 in
set_option maxHeartbeats 1000000 in
/-- 'same' of two slices that read as one list. -/
theorem sameC (l : List Int) (u v : Value) (w : World) (hu : Nums .u64 w w.heap.size u l) (hv : Nums .u64 w w.heap.size v l) (hl : l.length ≤ 65536) :
    Calls Try.prog 20 #[u, v] w fun e w' => e = .returned (.bool true) ∧ Below w.heap.size w w' := by
  obtain ⟨A, c, rfl, hc, hcell⟩ := hu
  obtain ⟨A2, c2, rfl, hc2, hcell2⟩ := hv
  have HC := Lib.hid hcell
  have HC2 := Lib.hid hcell2
  have hne : ((l.length : Int) != (l.length : Int)) = false := by rw [bne_eq_false_iff_eq]
  clear hcell hcell2
  go_enter Try.func20, Try.ntmps20
  go_wp2_with fail
  go_loopw [13] (fun i wr => ∃ k m : Nat, k ≤ l.length ∧ i = .int .i64 k ∧ wr = w.drewN m) (fun i _ => l.length - (intOf i).toNat)
  case atStart => exact ⟨0, 0, by omega, rfl, rfl⟩
  case round =>
    obtain ⟨k, m, hk, rfl, rfl⟩ := hrel
    by_cases hlt : k < l.length
    · obtain ⟨b, off, rfl, hb, hcells⟩ := HC.out (by omega)
      obtain ⟨b2, off2, rfl, hb2, hcells2⟩ := HC2.out (by omega)
      have hck := hcells k hlt
      have hck2 := hcells2 k hlt
      have hxx : (l.getD k 0 != l.getD k 0) = false := by rw [bne_eq_false_iff_eq]
      clear hcells hcells2
      generalize l.getD k 0 = x at *
      go_wp2_with fail
      go_quiet (fail)
      go_wp2_with fail
      refine ⟨⟨k + 1, _, by omega, by go_num, rfl⟩, ?_⟩
      simp [intOf]; omega
    · obtain rfl : k = l.length := by omega
      go_wp2_with fail
      go_ret
      exact ⟨rfl, below_drewN (Below.refl _ _) m⟩

/-- both -/
theorem dealC (t n : Int) (coeffs : List Int) (v : Value) (w : World) (hv : Nums .u64 w w.heap.size v coeffs) (hl : coeffs.length ≤ 65536)
    (hcb : ∀ i, i < coeffs.length → 0 ≤ coeffs.getD i 0 ∧ coeffs.getD i 0 < 18446744073709551616) :
    Calls Try.prog 18 #[.int .i64 t, .int .i64 n, v] w (DealPost t n coeffs (sharesP coeffs n.toNat) w) := by
  by_cases h : t < 2 ∨ n < t ∨ 9 < n ∨ (coeffs.length : Int) ≠ t
  · exact dealBad t n coeffs _ v w hv hl h
  · obtain ⟨N, rfl⟩ := Int.eq_ofNat_of_zero_le (show 0 ≤ n by omega)
    exact dealGood t N coeffs v w hv hl hcb (by omega) (by omega) (by omega) (by omega)
theorem refDealC (t n : Int) (coeffs : List Int) (v : Value) (w : World) (hv : Nums .u64 w w.heap.size v coeffs) (hl : coeffs.length ≤ 65536)
    (hcb : ∀ i, i < coeffs.length → 0 ≤ coeffs.getD i 0 ∧ coeffs.getD i 0 < 18446744073709551616) :
    Calls Try.prog 19 #[.int .i64 t, .int .i64 n, v] w (DealPost t n coeffs (sharesR coeffs n.toNat) w) := by
  by_cases h : t < 2 ∨ n < t ∨ 9 < n ∨ (coeffs.length : Int) ≠ t
  · exact refDealBad t n coeffs _ v w hv hl h
  · obtain ⟨N, rfl⟩ := Int.eq_ofNat_of_zero_le (show 0 ≤ n by omega)
    exact refDealGood t N coeffs v w hv hl hcb (by omega) (by omega) (by omega) (by omega)

set_option maxRecDepth 100000 in
set_option maxHeartbeats 2000000 in
theorem walk {w : World} (t : Int) (_ht : -9223372036854775808 ≤ t ∧ t ≤ 9223372036854775807) (n : Int) (_hn : -9223372036854775808 ≤ n ∧ n ≤ 9223372036854775807) (a2 : Option Addr) (len2 cap2 : Nat) (z2 : List Int) (w2 : IsRow .u64 w a2 len2 cap2 z2) :
    Calls Try.prog 5 #[.int .i64 t, .int .i64 n, .slice a2 len2 cap2] w fun e w' => e = .returned (.bool true) ∧ Below w.heap.size w w' := by
  have l0 := w2.len
  obtain ⟨n0, e0, f0⟩ := w2.nums
  generalize z2.take len2 = coeffs at *
  have hcb : ∀ i, i < coeffs.length → 0 ≤ coeffs.getD i 0 ∧ coeffs.getD i 0 < 18446744073709551616 := fun i hi => wf_u64 (getD_wf f0 hi)
  have HCB := Lib.hid hcb
  have N0 := Lib.hid n0
  clear w2 n0 f0 hcb _ht _hn
  subst e0
  by_cases h0 : 65536 < coeffs.length
  · go_enter Try.func5, Try.ntmps5
    go_wp2_with fail
    go_ret
    exact ⟨rfl, Below.refl _ _⟩
  obtain ⟨i1, hj, hy0, hy1, hy2⟩ := info_parts info_u64
  have hone : ∀ u ∈ coeffs.map (Value.int .u64), u.oneCell' = true := by
    intro u hu
    obtain ⟨x, _, rfl⟩ := List.mem_map.1 hu
    rfl
  have HONE := Lib.hid hone
  clear hone
  go_enter Try.func5, Try.ntmps5
  go_wp2_with (at_builtin; refine wpList_append_row _ rfl (.const (.slice none 0 0)) (.tmp 17) _ rfl w.heap.size 40 i1 (.int .u64 0) 1 8 Try.underlying29 hj hy0 hy1 hy2 rfl (by decide) (.slice none 0 0) 0 [] rfl (World.ownsRow_nil _ _ _ _) w.heap.size _ coeffs.length _ rfl N0.out.row HONE.out (by unfold maxLen; omega) (by omega) (Nat.le_refl _) ?_; intro v1 w1 hown1 hgrow1)
  have hb1 : Below w.heap.size w w1 := (Below.refl _ _).grown hgrow1 (Nat.le_refl _) (fun k hk => by simp [Value.ownBlock] at hk)
  have n1 : Nums .u64 w1 w1.heap.size v1 coeffs := Nums.own (by simpa using hown1)
  have N1 := Lib.hid n1
  clear n1 hown1 hgrow1
  refine (dealC t n coeffs _ _ (N0.out.later hb1) (by omega) HCB.out).mono ?_
  rintro e W2 ⟨hb2, hp⟩
  rcases hp with ⟨hne, rfl⟩ | ⟨he0, vc, vs, rfl, hc2, hs2⟩
  · have HNE := Lib.hid hne
    clear hne
    go_wp2_with fail
    have hb3 := (hb1.trans (hb2.mono hb1.size)).alloc (Nat.le_trans hb1.size hb2.size) (.cells #[.int .i64 0, .int .i64 0, .slice none 0 0] 31)
    have hbl := Blk.new W2 31 #[.int .i64 0, .int .i64 0, .slice none 0 0]
    have N2 := Lib.hid (N1.out.later ((hb2).alloc hb2.size (.cells #[.int .i64 0, .int .i64 0, .slice none 0 0] 31)))
    have N02 := Lib.hid (N0.out.later hb3)
    generalize hW3 : W2.alloc (.cells #[.int .i64 0, .int .i64 0, .slice none 0 0] 31) = W3 at *
    generalize hg3 : W2.heap.size = g3 at *
    have HG3 := Lib.hid hg3
    clear hW3 hg3
    refine (refDealC t n coeffs _ _ N2.out (by omega) HCB.out).mono ?_
    rintro e W4 ⟨hb4, hp⟩
    rcases hp with ⟨hne, rfl⟩ | ⟨he0, vc', vs', rfl, hc4, hs4⟩
    case inr => exact absurd he0 HNE.out
    clear hne
    have hbl4 := hbl.below hb4 hbl.lt
    have hlt4 := hbl4.lt
    have d0 : W4.cell? ⟨g3, 0, none⟩ = some (.int .i64 0) := hbl4.cell 0
    have d1 : W4.cell? ⟨g3, 1, none⟩ = some (.int .i64 0) := hbl4.cell 1
    have d2 : W4.cell? ⟨g3, 2, none⟩ = some (.slice none 0 0) := hbl4.cell 2
    have t1 : (dealE t n coeffs == dealE t n coeffs) = true := by rw [beq_iff_eq]
    clear hbl hbl4
    go_wp2_with fail
    have hb5 : Below w.heap.size w (W4.alloc (.cells #[.int .i64 0, .int .i64 0, .slice none 0 0] 31)) := (hb3.trans (hb4.mono hb3.size)).alloc (Nat.le_trans hb3.size hb4.size) _
    have hb6 : Below W4.heap.size W4 (W4.alloc (.cells #[.int .i64 0, .int .i64 0, .slice none 0 0] 31)) := below_box _ _
    have hb7 : Below W3.heap.size W3 (W4.alloc (.cells #[.int .i64 0, .int .i64 0, .slice none 0 0] 31)) := hb4.trans (hb6.mono hb4.size)
    refine (sameC [] _ _ _ ⟨none, 0, rfl, Nat.le_refl _, fun h => absurd h (by simp)⟩ ⟨none, 0, rfl, Nat.le_refl _, fun h => absurd h (by simp)⟩ (by simp)).mono ?_
    rintro e W5 ⟨rfl, hb8⟩
    go_wp2_with fail
    refine (sameC [] _ _ _ ⟨none, 0, rfl, Nat.le_refl _, fun h => absurd h (by simp)⟩ ⟨none, 0, rfl, Nat.le_refl _, fun h => absurd h (by simp)⟩ (by simp)).mono ?_
    rintro e W6 ⟨rfl, hb9⟩
    go_wp2_with fail
    have hb10 := hb7.trans ((hb8.trans (hb9.mono hb8.size)).mono (hb7.size))
    refine (sameC coeffs _ _ _ (N02.out.later hb10) (N2.out.later hb10) (by omega)).mono ?_
    rintro e W7 ⟨rfl, hb11⟩
    go_wp2_with fail
    go_ret
    exact ⟨rfl, hb3.trans ((hb10.trans (hb11.mono hb10.size)).mono hb3.size)⟩
  · obtain ⟨A3, c3, rfl⟩ := nums_shape hc2
    have HE0 := Lib.hid he0
    have hsq := shares_eq he0 (fun i hi => (HCB.out i hi).1)
    have HSQ := Lib.hid hsq
    have hlen9 := (dealE_ok he0)
    have hlc : (comms coeffs coeffs.length).length ≤ 65536 := by rw [comms_length coeffs (Nat.le_refl _)]; omega
    have hls : (sharesP coeffs n.toNat).length ≤ 65536 := by rw [sharesP_length]; omega
    clear he0 hsq hlen9
    have HC2 := Lib.hid hc2
    have HS2 := Lib.hid hs2
    clear hc2 hs2
    go_wp2_with fail
    have hb3 := (hb1.trans (hb2.mono hb1.size)).alloc (Nat.le_trans hb1.size hb2.size) (.cells #[.int .i64 t, .int .i64 n, .slice A3 (comms coeffs coeffs.length).length c3] 31)
    have hbl := Blk.new W2 31 #[.int .i64 t, .int .i64 n, .slice A3 (comms coeffs coeffs.length).length c3]
    have N2 := Lib.hid (N1.out.later ((hb2).alloc hb2.size (.cells #[.int .i64 t, .int .i64 n, .slice A3 (comms coeffs coeffs.length).length c3] 31)))
    have N02 := Lib.hid (N0.out.later hb3)
    have C3 := Lib.hid (HC2.out.later (below_box W2 (.cells #[.int .i64 t, .int .i64 n, .slice A3 (comms coeffs coeffs.length).length c3] 31)))
    have S3 := Lib.hid (HS2.out.later (below_box W2 (.cells #[.int .i64 t, .int .i64 n, .slice A3 (comms coeffs coeffs.length).length c3] 31)))
    generalize hW3 : W2.alloc (.cells #[.int .i64 t, .int .i64 n, .slice A3 (comms coeffs coeffs.length).length c3] 31) = W3 at *
    generalize hg3 : W2.heap.size = g3 at *
    have HG3 := Lib.hid hg3
    clear hW3 hg3
    refine (refDealC t n coeffs _ _ N2.out (by omega) HCB.out).mono ?_
    rintro e W4 ⟨hb4, hp⟩
    rcases hp with ⟨hne, rfl⟩ | ⟨he0, vc', vs', rfl, hc4, hs4⟩
    case inl => exact absurd HE0.out hne
    obtain ⟨A4, c4, rfl⟩ := nums_shape hc4
    clear he0
    rw [← HSQ.out] at hs4
    have HC4 := Lib.hid hc4
    have HS4 := Lib.hid hs4
    clear hc4 hs4
    have hbl4 := hbl.below hb4 hbl.lt
    have hlt4 := hbl4.lt
    have d0 : W4.cell? ⟨g3, 0, none⟩ = some (.int .i64 t) := hbl4.cell 0
    have d1 : W4.cell? ⟨g3, 1, none⟩ = some (.int .i64 n) := hbl4.cell 1
    have d2 : W4.cell? ⟨g3, 2, none⟩ = some (.slice A3 (comms coeffs coeffs.length).length c3) := hbl4.cell 2
    have t1 : ((0 : Int) == 0) = true := rfl
    have t2 : (t == t) = true := by rw [beq_iff_eq]
    have t3 : (n == n) = true := by rw [beq_iff_eq]
    clear hbl hbl4
    go_wp2_with fail
    have hb5 : Below w.heap.size w (W4.alloc (.cells #[.int .i64 t, .int .i64 n, .slice A4 (comms coeffs coeffs.length).length c4] 31)) := (hb3.trans (hb4.mono hb3.size)).alloc (Nat.le_trans hb3.size hb4.size) _
    have hb6 : Below W4.heap.size W4 (W4.alloc (.cells #[.int .i64 t, .int .i64 n, .slice A4 (comms coeffs coeffs.length).length c4] 31)) := below_box _ _
    have hb7 : Below W3.heap.size W3 (W4.alloc (.cells #[.int .i64 t, .int .i64 n, .slice A4 (comms coeffs coeffs.length).length c4] 31)) := hb4.trans (hb6.mono hb4.size)
    refine (sameC _ _ _ _ (C3.out.later hb7) (HC4.out.later hb6) hlc).mono ?_
    rintro e W5 ⟨rfl, hb8⟩
    go_wp2_with fail
    refine (sameC _ _ _ _ (S3.out.later (hb7.trans (hb8.mono hb7.size))) (HS4.out.later (hb6.trans (hb8.mono hb6.size))) hls).mono ?_
    rintro e W6 ⟨rfl, hb9⟩
    go_wp2_with fail
    have hb10 := hb7.trans ((hb8.trans (hb9.mono hb8.size)).mono (hb7.size))
    refine (sameC coeffs _ _ _ (N02.out.later hb10) (N2.out.later hb10) (by omega)).mono ?_
    rintro e W7 ⟨rfl, hb11⟩
    go_wp2_with fail
    go_ret
    exact ⟨rfl, hb3.trans ((hb10.trans (hb11.mono hb10.size)).mono hb3.size)⟩
end Go.Proofs.Ytpfpokjaeffbjaa.DealsW
