/- The walk of the law Kept. -/
import Derived.Test.YtpfpokjaeffbjabDealt
import Derived.Test.YtpfpokjaeffbjabKeptLib
import Derived.Deep.RegionHeld3
import Derived.Deep.DeepCutAuto
import Derived.Outline
namespace Go.Proofs.Ytpfpokjaeffbjab.KeptW
open Go.RowKit Go.Proofs.Ytpfpokjaeffbjab.Pl Go.Proofs.Ytpfpokjaeffbjab.Dpl Go.Proofs.Ytpfpokjaeffbjab.Gpl Go.Proofs.Ytpfpokjaeffbjab.Kpl Go.Proofs.Ytpfpokjaeffbjab.Mpp Go.Proofs.Ytpfpokjaeffbjab.Spl Go.Proofs.Ytpfpokjaeffbjab.Lag Go.Proofs.Ytpfpokjaeffbjab.Rpl Go.Proofs.Ytpfpokjaeffbjab.Fld Go.Proofs.Ytpfpokjaeffbjab.Mem Go.Proofs.Ytpfpokjaeffbjab.Sls Go.Proofs.Ytpfpokjaeffbjab.Ver Go.Proofs.Ytpfpokjaeffbjab.Dtp Go.Proofs.Ytpfpokjaeffbjab.Dlt Go.Proofs.Ytpfpokjaeffbjab.Kep
open Go.Proofs.Ytpfpokjaeffbjab.Sgn (Only SgAt SgIn ComsBut newSignerC NewPost commitC leftC)
set_option linter.unusedVariables false

theorem info_cm : (Try.prog.info? 37).map (fun i => (i.zero, i.size, i.bytes)) = some (some (.agg #[.int .i64 0, .int .u64 0, .int .u64 0]), 3, 24) := by kernel_rfl
theorem nums_at {k : IntKind} {w : World} {B : Nat} {A : Option Addr} {n c : Nat} {l : List Int} (h : Nums k w B (.slice A n c) l) (hp : 0 < l.length) :
    ∃ b off, A = some ⟨b, off, none⟩ ∧ b < B ∧ ∀ i, i < l.length → w.cell? ⟨b, off + i, none⟩ = some (.int k (l.getD i 0)) := by
  obtain ⟨A', c', hv, _, h⟩ := h
  obtain ⟨b, off, hA, r⟩ := h hp
  have : A = A' := by injection hv
  exact ⟨b, off, this.trans hA, r⟩
/-- A signer of the dealt group is made. -/
theorem newK {t n : Int} {cs : List Int} {v : Value} {id share : Int} (w : World) (hv : Nums .u64 w w.heap.size v cs) (hl : cs.length ≤ 65536) (hcb : ∀ i, i < cs.length → 0 ≤ cs.getD i 0) (hs : 0 ≤ share ∧ share < 18446744073709551616) (h0 : newE t n cs id share = 0) :
    Calls Try.prog 12 #[.agg #[.int .i64 t, .int .i64 n, v], .int .i64 id, .int .u64 share] w fun e w' =>
      ∃ a : Sgn.Loc, e = .returned (.tuple #[.pointer (some ⟨a.S, 0, none⟩), .int .i64 0]) ∧ SgAt w' a ⟨t, n, cs, id, share, []⟩ ∧ (∀ k ∈ a.foot, w.heap.size ≤ k) ∧ Below w.heap.size w w' :=
  (newSignerC t n cs v id share w hv hl hcb hs).mono fun e w' ⟨hb, h⟩ => by
    rcases h with ⟨h1, _⟩ | ⟨_, a, h1, h2, h3⟩
    · exact absurd h0 h1
    · exact ⟨a, h1, h2, h3, hb⟩

set_option maxRecDepth 100000 in
set_option maxHeartbeats 8000000 in
theorem walk {w : World} (seed : Int) (ws : 0 ≤ seed ∧ seed < 18446744073709551616) (order : ByteArray) (wo : order.size ≤ 9223372036854775807) :
    Calls Try.prog 6 #[.int .u64 seed, .string order] w fun e w' => e = .returned (.bool true) ∧ Below w.heap.size w w' := by
  have hdt := dealtC 0 0 seed 0 w (by omega) (by omega) ws
  have n0 : nOf 0 = 2 := by decide
  have t0 : tOf 0 0 = 2 := by decide
  rw [n0, t0] at hdt
  have hg := group_dealt (t := 2) (n := 2) (l := cfs seed 2) (by omega) (by omega) (by omega) (by rw [cfs_length]; rfl) (by rw [cfs_at seed (by omega)]; exact kscalar_bd.1) (by rw [cfs_at seed (by omega)]; exact kscalar_bd.2)
  have c1 := check_yes hg (cfs_bd seed 2) (id := 1) (by omega) (by omega) (by omega)
  have c2 := check_yes hg (cfs_bd seed 2) (id := 2) (by omega) (by omega) (by omega)
  have e1 := newE_ok c1.1 c1.2
  have e2 := newE_ok c2.1 c2.2
  have p1 := poly_bd (cfs seed 2) 1
  have p2 := poly_bd (cfs seed 2) 2
  have ok1 : Ok ⟨2, 2, comms (cfs seed 2) (cfs seed 2).length, 1, poly (cfs seed 2) 1, []⟩ := ⟨hg, by simp, by simp, p1.1, p1.2, by simp, fun q hq => absurd hq List.not_mem_nil, List.Pairwise.nil⟩
  have ok2 : Ok ⟨2, 2, comms (cfs seed 2) (cfs seed 2).length, 2, poly (cfs seed 2) 2, []⟩ := ⟨hg, by simp, by simp, p2.1, p2.2, by simp, fun q hq => absurd hq List.not_mem_nil, List.Pairwise.nil⟩
  have hclen : (comms (cfs seed 2) (cfs seed 2).length).length = 2 := by rw [comms_length _ (Nat.le_refl _), cfs_length]
  have hcnn : ∀ i, i < (comms (cfs seed 2) (cfs seed 2).length).length → 0 ≤ (comms (cfs seed 2) (cfs seed 2).length).getD i 0 := fun i hi => by
    rw [hclen] at hi
    rw [comms_at _ (by rw [cfs_length]; omega)]
    exact (pw_bd 4 _ (by omega)).1
  have s0 : (sharesP (cfs seed 2) 2).getD 0 0 = poly (cfs seed 2) 1 := sharesP_at _ (by omega)
  have s1 : (sharesP (cfs seed 2) 2).getD 1 0 = poly (cfs seed 2) 2 := sharesP_at _ (by omega)
  have hslen := sharesP_length (cfs seed 2) 2
  generalize comms (cfs seed 2) (cfs seed 2).length = cs at *
  generalize sharesP (cfs seed 2) 2 = sl at *
  generalize poly (cfs seed 2) 1 = S1 at *
  generalize poly (cfs seed 2) 2 = S2 at *
  have HD := Lib.hid hdt
  have E1 := Lib.hid e1
  have E2 := Lib.hid e2
  have OK1 := Lib.hid ok1
  have OK2 := Lib.hid ok2
  have HCN := Lib.hid hcnn
  have HS0 := Lib.hid s0
  have HS1 := Lib.hid s1
  obtain ⟨p10, p11⟩ := p1
  obtain ⟨p20, p21⟩ := p2
  clear hdt n0 t0 hg c1 c2 e1 e2 ok1 ok2 hcnn s0 s1
  go_enter Try.func6, Try.ntmps6
  go_wp2_with fail
  refine HD.out.mono ?_
  rintro e w1 ⟨vc, vs, vi, rfl, hc, hs, hi, hb1⟩
  obtain ⟨A1, k1, rfl⟩ := Lev.nums_shape hc
  obtain ⟨A2, k2, rfl⟩ := Lev.nums_shape hs
  obtain ⟨A3, k3, rfl⟩ := Lev.nums_shape hi
  obtain ⟨b2, off2, rfl, hbb2, hcl2⟩ := nums_at hs (by omega)
  have y0 := hcl2 0 (by omega)
  have y1 := hcl2 1 (by omega)
  rw [HS0.out] at y0
  rw [HS1.out] at y1
  rw [hclen] at hc ⊢
  rw [hslen]
  rw [Nat.add_zero] at y0
  have HC := Lib.hid hc
  have HB1 := Lib.hid hb1
  clear hc hs hi hcl2 hb1 HD
  go_wp2_with fail
  have hbx := below_box w1 (.cells #[.int .i64 2, .int .i64 2, .slice A1 2 k1] 28)
  have hblk := Blk.new w1 28 #[.int .i64 2, .int .i64 2, .slice A1 2 k1]
  have hnd := HC.out.later hbx.drew
  have hx0 := (hbx.cell (p := ⟨b2, off2, none⟩) hbb2).trans y0
  have hx1 := (hbx.cell (p := ⟨b2, off2 + 1, none⟩) hbb2).trans y1
  have hbw := HB1.out.trans (hbx.mono HB1.out.size)
  generalize hW2 : w1.alloc (.cells #[.int .i64 2, .int .i64 2, .slice A1 2 k1] 28) = w2 at *
  have hgl := hblk.lt
  have hbl : b2 < w2.heap.size := by have := hbx.size; omega
  generalize hGB : w1.heap.size = GB at *
  have c0 : w2.cell? ⟨GB, 0, none⟩ = some (.int .i64 2) := hblk.cell 0
  have c1 : w2.cell? ⟨GB, 1, none⟩ = some (.int .i64 2) := hblk.cell 1
  have c2 : w2.cell? ⟨GB, 2, none⟩ = some (.slice A1 2 k1) := hblk.cell 2
  have HND := Lib.hid hnd
  have HBLK := Lib.hid hblk
  have HBW := Lib.hid hbw
  clear hW2 hGB hbx hblk hnd hbw y0 y1 HC HB1 hbb2
  go_region_held3 (fun w' => (w'.cell? ⟨GB, 0, none⟩ = some (.int .i64 2) ∧ w'.cell? ⟨GB, 1, none⟩ = some (.int .i64 2) ∧ w'.cell? ⟨GB, 2, none⟩ = some (.slice A1 2 k1)) ∧ w'.cell? ⟨b2, off2, none⟩ = some (.int .u64 S1))
    (first | go_keep | (exact ⟨⟨(hbk.cell (p := ⟨GB, 0, none⟩) hgl).trans c0, (hbk.cell (p := ⟨GB, 1, none⟩) hgl).trans c1, (hbk.cell (p := ⟨GB, 2, none⟩) hgl).trans c2⟩, (hbk.cell (p := ⟨b2, off2, none⟩) hbl).trans hx0⟩))
    (first | (go_at_call 12; refine (newK _ HND.out (by omega) HCN.out (by omega) E1.out).mono ?_; rintro e w3 ⟨a, rfl, hsa, hfa, hbk⟩))
  all_goals
    have hbw3 : Below w.heap.size w w3 := HBW.out.trans (((Below.refl _ _).drew).trans (hbk.mono HBW.out.size))
    have hblk3 := (show Blk w2.drew _ _ _ from HBLK.out).below hbk hgl
    have hc0 : w3.cell? ⟨GB, 0, none⟩ = some (.int .i64 2) := hblk3.cell 0
    have hc1 : w3.cell? ⟨GB, 1, none⟩ = some (.int .i64 2) := hblk3.cell 1
    have hc2 : w3.cell? ⟨GB, 2, none⟩ = some (.slice A1 2 k1) := hblk3.cell 2
    have hx3 := (hbk.cell (p := ⟨b2, off2 + 1, none⟩) hbl).trans hx1
    have hnd3 := (HND.out.later hbk).later (Below.refl w3.heap.size w3).drew
    have hs23 : w2.heap.size ≤ w3.heap.size := hbk.size
    have hgl3 : GB < w3.heap.size := by omega
    have hbl3 : b2 < w3.heap.size := by omega
    have HND3 := Lib.hid hnd3
    have HBW3 := Lib.hid hbw3
    have HSA := Lib.hid hsa
    have hfb : ∀ k ∈ a.foot, w.heap.size ≤ k ∧ k < w3.heap.size := fun k hk => ⟨by have := hfa k hk; have := HBW.out.size; simp at *; omega, hsa.lt k hk⟩
    have HFB := Lib.hid hfb
    clear hbw3 hblk3 hbk c0 c1 c2 hx0 hx1 hnd3 hsa hfa hfb HND HBLK HBW hgl hbl
    go_wp2_with fail
    go_region_held3 (fun w' => (w'.cell? ⟨GB, 0, none⟩ = some (.int .i64 2) ∧ w'.cell? ⟨GB, 1, none⟩ = some (.int .i64 2) ∧ w'.cell? ⟨GB, 2, none⟩ = some (.slice A1 2 k1)) ∧ w'.cell? ⟨b2, off2 + 1, none⟩ = some (.int .u64 S2))
      (first | go_keep | (exact ⟨⟨(hbk.cell (p := ⟨GB, 0, none⟩) hgl3).trans hc0, (hbk.cell (p := ⟨GB, 1, none⟩) hgl3).trans hc1, (hbk.cell (p := ⟨GB, 2, none⟩) hgl3).trans hc2⟩, (hbk.cell (p := ⟨b2, off2 + 1, none⟩) hbl3).trans hx3⟩))
      (first | (go_at_call 12; refine (newK _ HND3.out (by omega) HCN.out (by omega) E2.out).mono ?_; rintro e w4 ⟨b, rfl, hsb, hfb, hbk⟩))
    all_goals
      have hbw4 : Below w.heap.size w w4 := HBW3.out.trans (((Below.refl _ _).drew).trans (hbk.mono HBW3.out.size))
      have hb34 : Below w3.heap.size w3 w4 := ((Below.refl _ _).drew).trans hbk
      have hsa4 : SgAt w4 a ⟨2, 2, cs, 1, S1, []⟩ := HSA.out.keep fun k hk => hb34.block k (HSA.out.lt k hk)
      have hsep : ∀ k ∈ a.foot, k ∉ b.foot := fun k hk hk' => by have := (HFB.out k hk).2; have := hfb k hk'; simp at this; omega
      have hcm := commitC w4 b _ 3 4 hsb OK2.out (by omega) (by omega)
      have hcc : comC ⟨2, 2, cs, 2, S2, []⟩ 3 4 = oth := rfl
      have hce : comE ⟨2, 2, cs, 2, S2, []⟩ 3 4 = 0 := rfl
      rw [hcc, hce] at hcm
      have hkv : keyV oth = .agg #[.int .i64 oth.id, .int .u64 oth.d, .int .u64 oth.e] := rfl
      rw [hkv] at hcm
      have hfb2 : ∀ k ∈ b.foot, w.heap.size ≤ k := fun k hk => by have := hfb k hk; have := HBW3.out.size; simp at *; omega
      have HCM := Lib.hid hcm
      have HBW4 := Lib.hid hbw4
      have HSA4 := Lib.hid hsa4
      have HSEP := Lib.hid hsep
      have HFB2 := Lib.hid hfb2
      have HS34 := Lib.hid hb34.size
      clear hcm hcc hce hkv hbw4 hb34 hsa4 hsep hsb hfb hbk hfb2 hc0 hc1 hc2 hx3 HND3 HBW3 HSA hgl3 hbl3 hs23
      go_wp2_with fail
      refine HCM.out.mono ?_
      rintro e w5 ⟨rfl, -, ho5⟩
      have hsa5 := SgAt.only HSA4.out ho5 HSEP.out
      have hbw5 : Below w.heap.size w w5 := HBW4.out.trans (below_only ho5 HFB2.out HBW4.out.size)
      have hs45 := ho5.size
      have hbx := below_box w5 (.cells #[.int .i64 oth.id, .int .u64 oth.d, .int .u64 oth.e] 37)
      have hsa6 : SgAt (w5.alloc (.cells #[.int .i64 oth.id, .int .u64 oth.d, .int .u64 oth.e] 37)) a ⟨2, 2, cs, 1, S1, []⟩ := hsa5.keep fun k hk => hbx.block k (hsa5.lt k hk)
      have hOB := Blk.new w5 37 #[.int .i64 oth.id, .int .u64 oth.d, .int .u64 oth.e]
      have hbw6 := hbw5.trans (hbx.mono hbw5.size)
      have hfo : ∀ k ∈ a.foot, w.heap.size ≤ k ∧ k < w5.heap.size := fun k hk => ⟨(HFB.out k hk).1, by have := (HFB.out k hk).2; have := HS34.out; omega⟩
      have hz6 : (w5.alloc (.cells #[.int .i64 oth.id, .int .u64 oth.d, .int .u64 oth.e] 37)).heap.size = w5.heap.size + 1 := by simp
      have HSA6 := Lib.hid hsa6
      have HOB := Lib.hid hOB
      have HBW6 := Lib.hid hbw6
      have HFO := Lib.hid hfo
      have HZ6 := Lib.hid hz6
      clear hsa5 hbw5 hs45 hbx hsa6 hOB hbw6 hfo hz6 ho5 HCM HBW4 HSA4 HSEP HFB2 HS34 HFB E1 E2 OK2 HCN HS0 HS1
      go_wp2_with fail
      generalize w5.alloc (.cells #[.int .i64 oth.id, .int .u64 oth.d, .int .u64 oth.e] 37) = w6 at *
      generalize hOBn : w5.heap.size = OB at *
      clear hOBn
      go_loopw [14, 15, 16] (fun v nx i wr => ∃ (k j : Nat) (s : St), k ≤ order.size ∧ k ≤ 200 ∧ i = .int .i64 k ∧ nx = .int .u64 j ∧ j ≤ k + 1 ∧ KOk s j ∧ SgAt wr a s ∧ KW w a OB w6.heap.size wr v s.pl.length (kcs s.pl)) (fun _ _ i _ => 200 - (intOf i).toNat)
      case atStart => exact ⟨0, 1, _, by omega, by omega, rfl, rfl, by omega, ⟨OK1.out, rfl, rfl, rfl, Kp.nil _, by omega, by omega⟩, HSA6.out, ⟨World.ownsRow_nil _ _ _ _, HOB.out, HBW6.out, Nat.le_refl _, HFO.out, by have := HZ6.out; omega⟩⟩
      case round =>
        obtain ⟨k, j, s, hk, hk2, rfl, rfl, hj, hko, hsw, hkw⟩ := hrel
        have HKO := Lib.hid hko
        have HSW := Lib.hid hsw
        have HKW := Lib.hid hkw
        clear hko hsw hkw OK1 HSA6 HOB HBW6 HFO HZ6
        by_cases hlt : k < order.size ∧ k < 200
        · obtain ⟨hl1, hl2⟩ := hlt
          have hK : (k : Int) < 200 := by omega
          obtain ⟨A4, k4, rfl⟩ := own_shape HKW.out.own
          have hc := UInt8.toNat_lt order[k]
          have hkl := HKO.out.j2
          have hj0 := HKO.out.j1
          have hfew := HKO.out.ok.few
          go_upto_region 23 with fail
          generalize order[k].toNat = x at *
          have hx0 : (0 : Int) ≤ (x : Int) := by omega
          by_cases h3 : x % 3 = 0
          · have t1 : ((x : Int) % 3 == 0) = true := by rw [beq_iff_eq]; omega
            clear h3
            by_cases h6 : s.pl.length = 6
            · obtain ⟨f1, f2, f3⟩ := com_full HKO.out h6
              have hcm := commitC wr a s j ((j : Int) + 1) HSW.out HKO.out.ok (by omega) (by omega)
              rw [f1, f2, f3, show keyV .zero = .agg #[.int .i64 0, .int .u64 0, .int .u64 0] from rfl] at hcm
              have HCM := Lib.hid hcm
              have t2 : ((s.pl.length : Int) == 6) = true := by rw [beq_iff_eq]; omega
              clear f1 f2 f3 hcm h6
              go_wp2_with fail
              refine HCM.out.mono ?_
              rintro e w7 ⟨rfl, hs7, ho7⟩
              have hw7 := HKW.out.only ho7
              have hb8 := below_box w7 (.cells #[.int .i64 0, .int .u64 0, .int .u64 0] 37)
              have HS8 := Lib.hid (sg_later hs7 hb8)
              have HW8 := Lib.hid (hw7.later hb8)
              clear hs7 ho7 hw7 hb8 HCM
              go_wp2_with fail
              exact ⟨⟨k + 1, j, s, by omega, by omega, by go_num, rfl, by omega, HKO.out, HS8.out, HW8.out⟩, by simp [intOf]; omega⟩
            · obtain ⟨f1, f2, f3, f4⟩ := com_new HKO.out h6 (by omega)
              obtain ⟨g1, g2, g3⟩ := com_again HKO.out
              have hcm := commitC wr a s j ((j : Int) + 1) HSW.out HKO.out.ok (by omega) (by omega)
              have hcc := kcs_push s.pl ((j : Int), (j : Int) + 1)
              have hcn := cm_nonneg 1 ((j : Int), (j : Int) + 1)
              rw [f1, f2, f3] at hcm
              obtain ⟨s2, hs2⟩ : ∃ s2, s2 = { s with pl := s.pl ++ [((j : Int), (j : Int) + 1)] } := ⟨_, rfl⟩
              have hpl2 : s2.pl = s.pl ++ [((j : Int), (j : Int) + 1)] := by rw [hs2]
              have hpn2 : s2.pl.length = s.pl.length + 1 := by rw [hpl2, List.length_append]; rfl
              rw [← hs2] at f4 g1 g2 g3 hcm
              have hcm2 : ∀ wy, SgAt wy a s2 → Calls Try.prog 13 #[.pointer (some ⟨a.S, 0, none⟩), .int .u64 j, .int .u64 ((j : Int) + 1)] wy fun x w' => x = .returned (.tuple #[.agg #[.int .i64 0, .int .u64 0, .int .u64 0], .int .i64 15]) ∧ SgAt w' a s2 ∧ Only a.foot wy w' := fun wy hy => by
                have h := commitC wy a s2 j ((j : Int) + 1) hy f4.ok (by omega) (by omega)
                rw [g1, g2, g3] at h
                exact h
              have hlf : ∀ wy, SgAt wy a s2 → Calls Try.prog 15 #[.pointer (some ⟨a.S, 0, none⟩)] wy fun e w' => e = .returned (.int .i64 ((s.pl.length + 1 : Nat) : Int)) ∧ SgAt w' a s2 ∧ Only a.foot wy w' := fun wy hy => by
                have h := leftC wy a s2 hy
                rw [hpn2] at h
                exact h
              rw [← hpl2] at hcc
              generalize cmOf 1 ((j : Int), (j : Int) + 1) = c at *
              rw [show keyV c = .agg #[.int .i64 c.id, .int .u64 c.d, .int .u64 c.e] from rfl] at hcm
              have HCM := Lib.hid hcm
              have HCM2 := Lib.hid hcm2
              have HLF := Lib.hid hlf
              have HCC := Lib.hid hcc
              have HKO2 := Lib.hid f4
              have HPN := Lib.hid hpn2
              have t2 : ((s.pl.length : Int) == 6) = false := by rw [beq_eq_false_iff_ne]; omega
              have hle : s.pl.length < 6 := by omega
              clear f1 f2 f3 f4 g1 g2 g3 hcm hcm2 hlf hcc h6 hpl2 hs2 hpn2
              go_wp2_with fail
              refine HCM.out.mono ?_
              rintro e w7 ⟨rfl, hs7, ho7⟩
              have hw7 := HKW.out.only ho7
              have hb8 := below_box w7 (.cells #[.int .i64 c.id, .int .u64 c.d, .int .u64 c.e] 37)
              have HS8 := Lib.hid (sg_later hs7 hb8)
              have HW8 := Lib.hid (hw7.later hb8)
              have hk8 := Blk.new w7 37 #[.int .i64 c.id, .int .u64 c.d, .int .u64 c.e]
              have hC7 := hw7.free (g := w7.heap.size) hw7.sz
              have HK8 := Lib.hid hk8
              have HCM8 := Lib.hid (HCM2.out _ HS8.out)
              clear hs7 ho7 hw7 hb8 HCM hk8 HCM2
              go_wp2_with fail
              refine HCM8.out.mono ?_
              rintro e w9 ⟨rfl, hs9, ho9⟩
              have hw9 := HW8.out.only ho9
              have hk9 := ho9.blk HK8.out hC7
              have hb10 := below_box w9 (.cells #[.int .i64 0, .int .u64 0, .int .u64 0] 37)
              have HS10 := Lib.hid (sg_later hs9 hb10)
              have HW10 := Lib.hid (hw9.later hb10)
              have hk10 := hk9.below hb10 hk9.lt
              have hc0 : (w9.alloc (.cells #[.int .i64 0, .int .u64 0, .int .u64 0] 37)).cell? ⟨w7.heap.size, 0, none⟩ = some (.int .i64 c.id) := hk10.cell 0
              have hc1 : (w9.alloc (.cells #[.int .i64 0, .int .u64 0, .int .u64 0] 37)).cell? ⟨w7.heap.size, 1, none⟩ = some (.int .u64 c.d) := hk10.cell 1
              have hc2 : (w9.alloc (.cells #[.int .i64 0, .int .u64 0, .int .u64 0] 37)).cell? ⟨w7.heap.size, 2, none⟩ = some (.int .u64 c.e) := hk10.cell 2
              have hl7 := hk10.lt
              have hz10 := HW10.out.sz
              clear hs9 ho9 hw9 hk9 hb10 HCM8 HW8 HS8 HK8 hC7 hk10
              go_upto_region 33 with fail
              generalize w9.alloc (.cells #[.int .i64 0, .int .u64 0, .int .u64 0] 37) = w10 at *
              obtain ⟨i0, hi, hz0, hz1, hz2⟩ := info_parts info_cm
              go_wp2_with (at_builtin; refine wpList_append_own _ rfl (.tmp 144) (.tmp 146) _ rfl w6.heap.size 37 i0 (.agg #[.int .i64 0, .int .u64 0, .int .u64 0]) 3 24 Try.underlying40 hi hz0 hz1 hz2 rfl (by decide) _ _ _ rfl (HW10.out.own.alloc _) ⟨w10.heap.size, 0, none⟩ 1 1 [.int .i64 c.id, .int .u64 c.d, .int .u64 c.e] rfl rfl (World.news_of_block (Go.Proofs.Ytpfpokjaeffbjab.Gof.blk_new' _ _ (by simp))) (by simp [Value.oneCell']) (by unfold maxLen; omega) (by omega) (by simp; omega) ?_; intro v1 w11 hown1 hgrow1 _)
              have hsA := sg_later HS10.out (below_box w10 (.cells #[.int .i64 c.id, .int .u64 c.d, .int .u64 c.e] 37))
              have hkA := HW10.out.alloc (.cells #[.int .i64 c.id, .int .u64 c.d, .int .u64 c.e] 37)
              have HS11 := Lib.hid (hkA.sg hgrow1 hsA)
              have HW11 := Lib.hid (hkA.grown (v' := v1) (n' := s.pl.length + 1) (l' := kcs s2.pl) hgrow1 (by rw [HCC.out, comCells_append, comCells_one]; exact hown1))
              have HLF11 := Lib.hid (HLF.out _ HS11.out)
              obtain ⟨A5, k5, rfl⟩ := own_shape hown1
              have t5 : (((s.pl.length + 1 : Nat) : Int) != ((s.pl.length + 1 : Nat) : Int)) = false := by rw [bne_eq_false_iff_eq]
              have t6 : (((s.pl.length : Nat) : Int) + 1 != ((s.pl.length : Nat) : Int) + 1) = false := by rw [bne_eq_false_iff_eq]
              clear hown1 hgrow1 hsA hkA HS10 HW10 HLF hc0 hc1 hc2 hl7 hz10 hi hz0 hz1 hz2
              go_wp2_with fail
              refine HLF11.out.mono ?_
              rintro e w12 ⟨rfl, hs12, ho12⟩
              have HS12 := Lib.hid hs12
              have HW12 := Lib.hid (HW11.out.only ho12)
              clear hs12 ho12 HS11 HW11 HLF11
              go_wp2_with fail
              refine ⟨⟨k + 1, j + 1, s2, by omega, by omega, by go_num, by go_num, by omega, HKO2.out, HS12.out, by rw [HPN.out]; exact HW12.out⟩, by simp [intOf]; omega⟩
          · by_cases h4 : x % 3 = 1 ∧ 0 < s.pl.length
            · obtain ⟨h5, hn0⟩ := h4
              have t1 : ((x : Int) % 3 == 0) = false := by rw [beq_eq_false_iff_ne]; omega
              have t2 : ((x : Int) % 3 == 1) = true := by rw [beq_iff_eq]; omega
              have hn1 : (0 : Int) < (s.pl.length : Int) := by omega
              obtain ⟨jj, hjj⟩ : ∃ jj : Nat, x / 3 % s.pl.length = jj := ⟨_, rfl⟩
              have hjl : jj < s.pl.length := by rw [← hjj]; exact Nat.mod_lt _ hn0
              have hji : ((x : Int) / 3) % (s.pl.length : Int) = (jj : Int) := by rw [← hjj]; simp
              obtain ⟨q, hq⟩ : ∃ q, s.pl[jj]? = some q := ⟨_, List.getElem?_eq_getElem hjl⟩
              have hcat := kcs_at hq
              obtain ⟨bk, kc, hv, hbk, hbl⟩ := HKW.out.own.form hn0
              simp only [Value.slice.injEq] at hv
              obtain ⟨rfl, -, rfl⟩ := hv
              obtain ⟨bb, off, hbb, -, hcl⟩ := (Coms.own (l := kcs s.pl) (by rw [kcs_length]; exact HKW.out.own) : Coms wr wr.heap.size (.slice (some ⟨bk, 0, none⟩) (kcs s.pl).length k4) (kcs s.pl)).at_ (by rw [kcs_length]; exact hn0)
              simp only [Option.some.injEq, Addr.mk.injEq, and_true] at hbb
              obtain ⟨rfl, rfl⟩ := hbb
              obtain ⟨x0, x1, x2⟩ := hcl jj (by rw [kcs_length]; exact hjl)
              rw [hcat] at x0 x1 x2
              simp only [Nat.zero_add] at x0 x1 x2
              have z0 : wr.cell? ⟨OB, 0, none⟩ = some (.int .i64 oth.id) := HKW.out.ob.cell 0
              have z1 : wr.cell? ⟨OB, 1, none⟩ = some (.int .u64 oth.d) := HKW.out.ob.cell 1
              have z2 : wr.cell? ⟨OB, 2, none⟩ = some (.int .u64 oth.e) := HKW.out.ob.cell 2
              have hcn := cm_nonneg 1 q
              have hOBl := HKW.out.lt
              have hbF : bk ∉ a.foot := HKW.out.free hbk
              have hOF : OB ∉ a.foot := fun hk => by have := (HKW.out.foot OB hk).2; omega
              have HK1 : Hid (∀ (o : Obj) (wy : World), Only a.foot (wr.drew.alloc o) wy → (wy.cell? ⟨bk, jj * 3, none⟩ = some (.int .i64 (cmOf 1 q).id) ∧ wy.cell? ⟨bk, jj * 3 + 1, none⟩ = some (.int .u64 (cmOf 1 q).d) ∧ wy.cell? ⟨bk, jj * 3 + 2, none⟩ = some (.int .u64 (cmOf 1 q).e)) ∧
                  (wy.cell? ⟨OB, 0, none⟩ = some (.int .i64 oth.id) ∧ wy.cell? ⟨OB, 1, none⟩ = some (.int .u64 oth.d) ∧ wy.cell? ⟨OB, 2, none⟩ = some (.int .u64 oth.e))) := Lib.hid fun o wy ho => by
                have hA : ∀ i, wy.cell? ⟨bk, i, none⟩ = wr.cell? ⟨bk, i, none⟩ := fun i => (ho.cell (g := bk) (i := i) (by simp; omega) hbF).trans (World.cell?_alloc_lt wr.drew o ⟨bk, i, none⟩ hbl)
                have hB : ∀ i, wy.cell? ⟨OB, i, none⟩ = wr.cell? ⟨OB, i, none⟩ := fun i => (ho.cell (g := OB) (i := i) (by simp; omega) hOF).trans (World.cell?_alloc_lt wr.drew o ⟨OB, i, none⟩ hOBl)
                exact ⟨⟨(hA _).trans x0, (hA _).trans x1, (hA _).trans x2⟩, ⟨(hB _).trans z0, (hB _).trans z1, (hB _).trans z2⟩⟩
              have hsc := HKO.out.sc (List.mem_of_getElem? hq)
              have hon := cm_nonneg 2 (3, 4)
              have HSG : Hid (∀ (T : TypeId), Calls Try.prog 14 #[.pointer (some ⟨a.S, 0, none⟩), .string ⟨#[109]⟩, .slice (some ⟨wr.heap.size, 0, none⟩) 2 2] (wr.drew.alloc (.cells #[.int .i64 (cmOf 1 q).id, .int .u64 (cmOf 1 q).d, .int .u64 (cmOf 1 q).e, .int .i64 oth.id, .int .u64 oth.d, .int .u64 oth.e] T))
                  fun x w' => ∃ v e s', x = .returned (.tuple #[.int .u64 v, .int .i64 e]) ∧ SignRel s ⟨#[109]⟩ [cmOf 1 q, oth] v e s' ∧ SgAt w' a s' ∧ Only a.foot (wr.drew.alloc (.cells #[.int .i64 (cmOf 1 q).id, .int .u64 (cmOf 1 q).d, .int .u64 (cmOf 1 q).e, .int .i64 oth.id, .int .u64 oth.d, .int .u64 oth.e] T)) w') := Lib.hid fun T =>
                signL (l := [cmOf 1 q, oth]) (sg_later (sg_later HSW.out (Below.refl _ _).drew) (below_box _ _)) HKO.out.ok (Blk.new wr.drew T _) rfl (HKW.out.free HKW.out.sz) rfl (by simp) (fun c hc => by
                  rcases List.mem_cons.1 hc with rfl | hc
                  · exact cm_nonneg 1 q
                  · rw [List.mem_singleton.1 hc]; exact cm_nonneg 2 (3, 4)) (by decide)
              have HQ := Lib.hid hq
              have hjb : (0 : Int) ≤ (jj : Int) := by omega
              have hjb2 : (jj : Int) < (s.pl.length : Int) := by omega
              clear h3 h5 hjj hcl hq hcat hcn hsc hon
              go_upto_region 37 with fail
              go_region_held3 (fun w' => (w'.cell? ⟨bk, jj * 3, none⟩ = some (.int .i64 (cmOf 1 q).id) ∧ w'.cell? ⟨bk, jj * 3 + 1, none⟩ = some (.int .u64 (cmOf 1 q).d) ∧ w'.cell? ⟨bk, jj * 3 + 2, none⟩ = some (.int .u64 (cmOf 1 q).e)) ∧
                  (w'.cell? ⟨OB, 0, none⟩ = some (.int .i64 oth.id) ∧ w'.cell? ⟨OB, 1, none⟩ = some (.int .u64 oth.d) ∧ w'.cell? ⟨OB, 2, none⟩ = some (.int .u64 oth.e))) (first | go_keep | (exact HK1.out _ _ ho7))
                (first | (go_at_call 14; refine (HSG.out _).mono ?_; rintro e w7 ⟨v7, e7, s7, rfl, hr7, hs7, ho7⟩))
              all_goals
                have hkw7 := (HKW.out.drew.alloc _).only ho7
                have HKW7 := Lib.hid hkw7
                have HS7 := Lib.hid hs7
                have HC7 := Lib.hid (HK1.out _ _ ho7)
                have hsz7 := ho7.size
                clear hkw7 hs7 ho7 HSG HK1 x0 x1 x2 z0 z1 z2
                rcases sign_hit HKO.out HQ.out hr7 with ⟨rfl, rfl⟩ | ⟨rfl, hs2, hko2, hnq⟩
                · go_wp2_with fail
                  exact ⟨⟨k + 1, j, s7, by omega, by omega, by go_num, rfl, by omega, HKO.out, HS7.out, HKW7.out⟩, by simp [intOf]; omega⟩
                · rw [← hs2] at hko2
                  have hpl2 : s7.pl = s.pl.eraseIdx jj := by rw [hs2]
                  rw [← hpl2] at hnq
                  have hsc := HKO.out.sc (List.mem_of_getElem? HQ.out)
                  obtain ⟨⟨x0, x1, x2⟩, z0, z1, z2⟩ := HC7.out
                  have hbl7 : bk < w7.heap.size := by simp at hsz7; omega
                  have hOBl7 : OB < w7.heap.size := by simp at hsz7; omega
                  have HK1 : Hid (∀ (o : Obj) (wy : World), Only a.foot (w7.drew.alloc o) wy → (wy.cell? ⟨bk, jj * 3, none⟩ = some (.int .i64 (cmOf 1 q).id) ∧ wy.cell? ⟨bk, jj * 3 + 1, none⟩ = some (.int .u64 (cmOf 1 q).d) ∧ wy.cell? ⟨bk, jj * 3 + 2, none⟩ = some (.int .u64 (cmOf 1 q).e)) ∧
                      (wy.cell? ⟨OB, 0, none⟩ = some (.int .i64 oth.id) ∧ wy.cell? ⟨OB, 1, none⟩ = some (.int .u64 oth.d) ∧ wy.cell? ⟨OB, 2, none⟩ = some (.int .u64 oth.e))) := Lib.hid fun o wy ho => by
                    have hA : ∀ i, wy.cell? ⟨bk, i, none⟩ = w7.cell? ⟨bk, i, none⟩ := fun i => (ho.cell (g := bk) (i := i) (by simp; omega) hbF).trans (World.cell?_alloc_lt w7.drew o ⟨bk, i, none⟩ hbl7)
                    have hB : ∀ i, wy.cell? ⟨OB, i, none⟩ = w7.cell? ⟨OB, i, none⟩ := fun i => (ho.cell (g := OB) (i := i) (by simp; omega) hOF).trans (World.cell?_alloc_lt w7.drew o ⟨OB, i, none⟩ hOBl7)
                    exact ⟨⟨(hA _).trans x0, (hA _).trans x1, (hA _).trans x2⟩, ⟨(hB _).trans z0, (hB _).trans z1, (hB _).trans z2⟩⟩
                  have HSG : Hid (∀ (T : TypeId), Calls Try.prog 14 #[.pointer (some ⟨a.S, 0, none⟩), .string ⟨#[110]⟩, .slice (some ⟨w7.heap.size, 0, none⟩) 2 2] (w7.drew.alloc (.cells #[.int .i64 (cmOf 1 q).id, .int .u64 (cmOf 1 q).d, .int .u64 (cmOf 1 q).e, .int .i64 oth.id, .int .u64 oth.d, .int .u64 oth.e] T))
                      fun x w' => ∃ v e s', x = .returned (.tuple #[.int .u64 v, .int .i64 e]) ∧ SignRel s7 ⟨#[110]⟩ [cmOf 1 q, oth] v e s' ∧ SgAt w' a s' ∧ Only a.foot (w7.drew.alloc (.cells #[.int .i64 (cmOf 1 q).id, .int .u64 (cmOf 1 q).d, .int .u64 (cmOf 1 q).e, .int .i64 oth.id, .int .u64 oth.d, .int .u64 oth.e] T)) w') := Lib.hid fun T =>
                    signL (l := [cmOf 1 q, oth]) (sg_later (sg_later HS7.out (Below.refl _ _).drew) (below_box _ _)) hko2.ok (Blk.new w7.drew T _) rfl (HKW7.out.free HKW7.out.sz) rfl (by simp) (fun c hc => by
                      rcases List.mem_cons.1 hc with rfl | hc
                      · exact cm_nonneg 1 q
                      · rw [List.mem_singleton.1 hc]; exact cm_nonneg 2 (3, 4)) (by decide)
                  have HKO2 := Lib.hid hko2
                  have HPL2 := Lib.hid hpl2
                  have HNQ := Lib.hid hnq
                  have HSC := Lib.hid hsc
                  clear hko2 hpl2 hnq hsc hs2 hr7
                  go_upto_region 41 with fail
                  go_region_held3 (fun w' => (w'.cell? ⟨bk, jj * 3, none⟩ = some (.int .i64 (cmOf 1 q).id) ∧ w'.cell? ⟨bk, jj * 3 + 1, none⟩ = some (.int .u64 (cmOf 1 q).d) ∧ w'.cell? ⟨bk, jj * 3 + 2, none⟩ = some (.int .u64 (cmOf 1 q).e)) ∧
                      (w'.cell? ⟨OB, 0, none⟩ = some (.int .i64 oth.id) ∧ w'.cell? ⟨OB, 1, none⟩ = some (.int .u64 oth.d) ∧ w'.cell? ⟨OB, 2, none⟩ = some (.int .u64 oth.e))) (first | go_keep | (exact HK1.out _ _ ho8))
                    (first | (go_at_call 14; refine (HSG.out _).mono ?_; rintro e w8 ⟨v8, e8, s8, rfl, hr8, hs8, ho8⟩))
                  all_goals
                    have hkw8 := (HKW7.out.drew.alloc _).only ho8
                    have HKW8 := Lib.hid hkw8
                    obtain ⟨-, rfl, h87⟩ := sign_lost HKO2.out HSC.out HNQ.out hr8
                    rw [h87] at hs8
                    clear h87
                    have HS8 := Lib.hid hs8
                    clear hkw8 hs8 ho8 hr8 HSG HK1 x0 x1 x2 z0 z1 z2 HC7 HS7 HKW7 hbl7 hOBl7 hsz7
                    go_upto_region 44 with fail
                    have hcap : s.pl.length ≤ k4 := by
                      obtain ⟨_, _, _, hv, h, _⟩ := Row.own HKW8.out.own
                      simp only [Value.slice.injEq] at hv
                      omega
                    have hr1 : Hid (Row w8.drew w8.heap.size 3 (.slice (some ⟨bk, 0, none⟩) jj k4) jj (comCells ((kcs s.pl).take jj))) := Lib.hid (coms_take (w := w8.drew) (kcs_length s.pl) HKW8.out.drew.own (by omega))
                    have HKN : Hid (KW w a OB w6.heap.size w8.drew (.slice none 0 0) 0 []) := Lib.hid ⟨World.ownsRow_nil _ _ _ _, HKW8.out.drew.ob, HKW8.out.drew.bw, HKW8.out.drew.sz, HKW8.out.foot, HKW8.out.obl⟩
                    have HS8d := Lib.hid (sg_later HS8.out (Below.refl _ _).drew)
                    have hz8 := HKW8.out.sz
                    obtain ⟨i0, hi, hz0, hz1, hz2⟩ := info_parts info_cm
                    obtain ⟨j1, hj1⟩ : ∃ j1, jj + 1 = j1 := ⟨_, rfl⟩
                    have HJ1 := Lib.hid hj1
                    have j2 : (jj : Int) ≤ (k4 : Int) := by omega
                    have j3 : (0 : Int) ≤ (j1 : Int) := by omega
                    have j4 : (j1 : Int) ≤ (s.pl.length : Int) := by omega
                    have j5 : (s.pl.length : Int) ≤ (k4 : Int) := by omega
                    have j6 : IntKind.i64.wrap ((jj : Int) + 1) = (j1 : Int) := by rw [IntKind.wrap_i64]; omega
                    have hj1a : jj < j1 := by omega
                    have hj1b : j1 ≤ s.pl.length := by omega
                    clear HS8 hji hn1 hj1
                    by_cases hc9 : j1 = k4
                    · subst hc9
                      go_region_law (first | (refine step_append_row (by rfl) (.const (.slice none 0 0)) (.tmp 194) _ (by rfl) w6.heap.size 37 i0 (.agg #[.int .i64 0, .int .u64 0, .int .u64 0]) 3 24 Try.underlying40 hi hz0 hz1 hz2 rfl (by decide) (.slice none 0 0) 0 [] (by rfl) (World.ownsRow_nil _ _ _ _) w8.heap.size _ jj _ (by go_simp) hr1.out (oneCell_coms _) (by unfold maxLen; omega) (by omega) hz8 ?_; intro v9 w9 hown9 hgrow9; rw [Nat.zero_add, List.nil_append] at hown9; have hw9 := HKN.out.grown (v' := v9) (n' := jj) (l' := (kcs s.pl).take jj) hgrow9 hown9; have hs9 := HKN.out.sg hgrow9 HS8d.out; have ho9 := own_moved' HKW8.out.own (fun g hg => hgrow9.block g (HKW8.out.own.lt g hg).2 (by simp [Value.ownBlock])); have hz9 := hw9.sz; have hr2 := Lib.hid (fun o c h1 h2 => coms_drop (kcs_length s.pl) ho9 (j := j1) (m := s.pl.length - j1) (by omega) rfl o c h1 h2); have hrE := Lib.hid (fun (h0 : s.pl.length - j1 = 0) => show Row w9 w9.heap.size 3 (.slice (some ⟨bk, 0, none⟩) (s.pl.length - j1) 0) (s.pl.length - j1) (comCells ((kcs s.pl).drop j1)) from ⟨by rw [comCells_length, List.length_drop, kcs_length], _, _, rfl, by omega, fun hp => by omega⟩); obtain ⟨A9, c9, rfl⟩ := own_shape hown9) | (refine step_append_row (by rfl) (.tmp 195) (.tmp 199) _ (by rfl) w6.heap.size 37 i0 (.agg #[.int .i64 0, .int .u64 0, .int .u64 0]) 3 24 Try.underlying40 hi hz0 hz1 hz2 rfl (by decide) (.slice A9 jj c9) jj _ (by go_simp) hw9.own w9.heap.size _ (s.pl.length - j1) _ (by go_simp) (hrE.out (by omega)) (oneCell_coms _) (by unfold maxLen; omega) (by omega) hz9 ?_; intro v10 w10 hown10 hgrow10; have hw10 := hw9.grown (v' := v10) (n' := jj + (s.pl.length - j1)) (l' := kcs s7.pl) hgrow10 (by rw [HPL2.out, kcs_erase, comCells_append, HJ1.out]; exact hown10); have hs10 := hw9.sg hgrow10 hs9; obtain ⟨A10, c10, rfl⟩ := own_shape hown10))
                      all_goals
                        have HW10 := Lib.hid hw10
                        have HS10 := Lib.hid hs10
                        have hpn : s7.pl.length = jj + (s.pl.length - j1) := by rw [HPL2.out, List.length_eraseIdx]; split <;> (have := HJ1.out; omega)
                        have hlf := leftC w10 a s7 hs10
                        rw [hpn] at hlf
                        have HLF := Lib.hid hlf
                        have HPN := Lib.hid hpn
                        have h00 : s.pl.length - j1 = 0 := by omega
                        rw [h00, Nat.add_zero] at HW10 HLF HPN
                        have t5 : ((jj : Int) != (jj : Int)) = false := by rw [bne_eq_false_iff_eq]
                        clear hw10 hs10 hlf hpn hown10 hgrow10 h00 hw9 hs9 hr2 hrE hown9 hgrow9 ho9 hz9
                        go_wp2_with fail
                        refine HLF.out.mono ?_
                        rintro e w12 ⟨rfl, hs12, ho12⟩
                        have HS12 := Lib.hid hs12
                        have HW12 := Lib.hid (HW10.out.only ho12)
                        clear hs12 ho12 HS10 HW10 HLF
                        go_wp2_with fail
                        refine ⟨⟨k + 1, j, s7, by omega, by omega, by go_num, rfl, by omega, HKO2.out, HS12.out, by rw [HPN.out]; exact HW12.out⟩, by simp [intOf]; omega⟩
                    · have hc8 : ¬ k4 = j1 := fun h => hc9 h.symm
                      go_region_law (first | (refine step_append_row (by rfl) (.const (.slice none 0 0)) (.tmp 194) _ (by rfl) w6.heap.size 37 i0 (.agg #[.int .i64 0, .int .u64 0, .int .u64 0]) 3 24 Try.underlying40 hi hz0 hz1 hz2 rfl (by decide) (.slice none 0 0) 0 [] (by rfl) (World.ownsRow_nil _ _ _ _) w8.heap.size _ jj _ (by go_simp) hr1.out (oneCell_coms _) (by unfold maxLen; omega) (by omega) hz8 ?_; intro v9 w9 hown9 hgrow9; rw [Nat.zero_add, List.nil_append] at hown9; have hw9 := HKN.out.grown (v' := v9) (n' := jj) (l' := (kcs s.pl).take jj) hgrow9 hown9; have hs9 := HKN.out.sg hgrow9 HS8d.out; have ho9 := own_moved' HKW8.out.own (fun g hg => hgrow9.block g (HKW8.out.own.lt g hg).2 (by simp [Value.ownBlock])); have hz9 := hw9.sz; have hr2 := Lib.hid (fun o c h1 h2 => coms_drop (kcs_length s.pl) ho9 (j := j1) (m := s.pl.length - j1) (by omega) rfl o c h1 h2); have hrE := Lib.hid (fun (h0 : s.pl.length - j1 = 0) => show Row w9 w9.heap.size 3 (.slice (some ⟨bk, 0, none⟩) (s.pl.length - j1) 0) (s.pl.length - j1) (comCells ((kcs s.pl).drop j1)) from ⟨by rw [comCells_length, List.length_drop, kcs_length], _, _, rfl, by omega, fun hp => by omega⟩); obtain ⟨A9, c9, rfl⟩ := own_shape hown9) | (refine step_append_row (by rfl) (.tmp 195) (.tmp 199) _ (by rfl) w6.heap.size 37 i0 (.agg #[.int .i64 0, .int .u64 0, .int .u64 0]) 3 24 Try.underlying40 hi hz0 hz1 hz2 rfl (by decide) (.slice A9 jj c9) jj _ (by go_simp) hw9.own w9.heap.size _ (s.pl.length - j1) _ (by go_simp) (hr2.out (j1 * 3) (k4 - j1) rfl (by omega)) (oneCell_coms _) (by unfold maxLen; omega) (by omega) hz9 ?_; intro v10 w10 hown10 hgrow10; have hw10 := hw9.grown (v' := v10) (n' := jj + (s.pl.length - j1)) (l' := kcs s7.pl) hgrow10 (by rw [HPL2.out, kcs_erase, comCells_append, HJ1.out]; exact hown10); have hs10 := hw9.sg hgrow10 hs9; obtain ⟨A10, c10, rfl⟩ := own_shape hown10))
                      all_goals
                        have HW10 := Lib.hid hw10
                        have HS10 := Lib.hid hs10
                        have hpn : s7.pl.length = jj + (s.pl.length - j1) := by rw [HPL2.out, List.length_eraseIdx]; split <;> (have := HJ1.out; omega)
                        have hlf := leftC w10 a s7 hs10
                        rw [hpn] at hlf
                        have HLF := Lib.hid hlf
                        have HPN := Lib.hid hpn
                        obtain ⟨n2, hn2⟩ : ∃ n2, jj + (s.pl.length - j1) = n2 := ⟨_, rfl⟩
                        rw [hn2] at HW10 HLF HPN ⊢
                        have t5 : ((n2 : Int) != (n2 : Int)) = false := by rw [bne_eq_false_iff_eq]
                        clear hw10 hs10 hlf hpn hown10 hgrow10 hn2 hw9 hs9 hr2 hrE hown9 hgrow9 ho9 hz9
                        go_wp2_with fail
                        refine HLF.out.mono ?_
                        rintro e w12 ⟨rfl, hs12, ho12⟩
                        have HS12 := Lib.hid hs12
                        have HW12 := Lib.hid (HW10.out.only ho12)
                        clear hs12 ho12 HS10 HW10 HLF
                        go_wp2_with fail
                        refine ⟨⟨k + 1, j, s7, by omega, by omega, by go_num, rfl, by omega, HKO2.out, HS12.out, by rw [HPN.out]; exact HW12.out⟩, by simp [intOf]; omega⟩
            · have t1 : ((x : Int) % 3 == 0) = false := by rw [beq_eq_false_iff_ne]; omega
              have hc : (((x : Int) % 3 == 1) = true ∧ ¬ (0 : Int) < (s.pl.length : Int)) ∨ ((x : Int) % 3 == 1) = false := by
                by_cases h5 : x % 3 = 1
                · exact .inl ⟨by rw [beq_iff_eq]; omega, by omega⟩
                · exact .inr (by rw [beq_eq_false_iff_ne]; omega)
              have z0 : wr.cell? ⟨OB, 0, none⟩ = some (.int .i64 oth.id) := HKW.out.ob.cell 0
              have z1 : wr.cell? ⟨OB, 1, none⟩ = some (.int .u64 oth.d) := HKW.out.ob.cell 1
              have z2 : wr.cell? ⟨OB, 2, none⟩ = some (.int .u64 oth.e) := HKW.out.ob.cell 2
              have hOF : OB ∉ a.foot := fun hk => by have := (HKW.out.foot OB hk).2; omega
              have HSG1 : Hid (∀ (wy : World) (T : TypeId), SgAt wy a s → wy.heap.size ∉ a.foot → Calls Try.prog 14 #[.pointer (some ⟨a.S, 0, none⟩), .string ⟨#[109]⟩, .slice (some ⟨wy.heap.size, 0, none⟩) 1 1] (wy.alloc (.cells #[.int .i64 oth.id, .int .u64 oth.d, .int .u64 oth.e] T))
                  fun x w' => x = .returned (.tuple #[.int .u64 0, .int .i64 7]) ∧ SgAt w' a s ∧ Only a.foot (wy.alloc (.cells #[.int .i64 oth.id, .int .u64 oth.d, .int .u64 oth.e] T)) w') := Lib.hid fun wy T hy hg =>
                (signL (l := [oth]) (sg_later hy (below_box _ _)) HKO.out.ok (Blk.new wy T _) rfl hg rfl (by simp) (fun c hc => by rw [List.mem_singleton.1 hc]; exact cm_nonneg 2 (3, 4)) (by decide)).mono (by
                  rintro x w' ⟨v, e, s', rfl, hr, h1, h2⟩
                  obtain ⟨rfl, rfl, rfl⟩ := sign_few HKO.out oth hr
                  exact ⟨rfl, h1, h2⟩)
              have HSG2 : Hid (∀ (wy : World) (T : TypeId), SgAt wy a s → wy.heap.size ∉ a.foot → Calls Try.prog 14 #[.pointer (some ⟨a.S, 0, none⟩), .string ⟨#[109]⟩, .slice (some ⟨wy.heap.size, 0, none⟩) 2 2] (wy.alloc (.cells #[.int .i64 1, .int .u64 4, .int .u64 4, .int .i64 oth.id, .int .u64 oth.d, .int .u64 oth.e] T))
                  fun x w' => x = .returned (.tuple #[.int .u64 0, .int .i64 10]) ∧ SgAt w' a s ∧ Only a.foot (wy.alloc (.cells #[.int .i64 1, .int .u64 4, .int .u64 4, .int .i64 oth.id, .int .u64 oth.d, .int .u64 oth.e] T)) w') := Lib.hid fun wy T hy hg =>
                (signL (l := [⟨1, 4, 4⟩, oth]) (sg_later hy (below_box _ _)) HKO.out.ok (Blk.new wy T _) rfl hg rfl (by simp) (fun c hc => by
                  rcases List.mem_cons.1 hc with rfl | hc
                  · exact ⟨by decide, by decide⟩
                  · rw [List.mem_singleton.1 hc]; exact cm_nonneg 2 (3, 4)) (by decide)).mono (by
                  rintro x w' ⟨v, e, s', rfl, hr, h1, h2⟩
                  obtain ⟨rfl, rfl, rfl⟩ := sign_44 HKO.out hr
                  exact ⟨rfl, h1, h2⟩)
              clear h3 h4
              rcases hc with ⟨t2, t3⟩ | t2
              all_goals
                go_upto_region 17 with fail
              all_goals
                clear t1 t2
                try clear t3
                go_wp2_with fail
                refine (HSG1.out wr _ HSW.out (HKW.out.free HKW.out.sz)).mono ?_
                rintro e w7 ⟨rfl, hs7, ho7⟩
                have hw7 := (HKW.out.alloc (.cells #[.int .i64 oth.id, .int .u64 oth.d, .int .u64 oth.e] 37)).only ho7
                have y0 : w7.cell? ⟨OB, 0, none⟩ = some (.int .i64 oth.id) := hw7.ob.cell 0
                have y1 : w7.cell? ⟨OB, 1, none⟩ = some (.int .u64 oth.d) := hw7.ob.cell 1
                have y2 : w7.cell? ⟨OB, 2, none⟩ = some (.int .u64 oth.e) := hw7.ob.cell 2
                have HS7 := Lib.hid hs7
                have HW7 := Lib.hid hw7
                clear z0 z1 z2 HSG1 hs7 hw7 ho7
                go_wp2_with fail
                refine (HSG2.out w7 _ HS7.out (HW7.out.free HW7.out.sz)).mono ?_
                rintro e w8 ⟨rfl, hs8, ho8⟩
                have hw8 := (HW7.out.alloc (.cells #[.int .i64 1, .int .u64 4, .int .u64 4, .int .i64 oth.id, .int .u64 oth.d, .int .u64 oth.e] 37)).only ho8
                have HS8 := Lib.hid hs8
                have HW8 := Lib.hid hw8
                have HLF := Lib.hid (leftC w8 a s hs8)
                have t5 : ((s.pl.length : Int) != (s.pl.length : Int)) = false := by rw [bne_eq_false_iff_eq]
                clear y0 y1 y2 HSG2 hs8 hw8 ho8 HS7 HW7
                go_wp2_with fail
                refine HLF.out.mono ?_
                rintro e w9 ⟨rfl, hs9, ho9⟩
                have HS9 := Lib.hid hs9
                have HW9 := Lib.hid (HW8.out.only ho9)
                clear hs9 ho9 HLF HS8 HW8
                go_wp2_with fail
                exact ⟨⟨k + 1, j, s, by omega, by omega, by go_num, rfl, by omega, HKO.out, HS9.out, HW9.out⟩, by simp [intOf]; omega⟩
        · have hx : ¬ k < order.size ∨ (k < order.size ∧ ¬ k < 200) := by omega
          rcases hx with h1 | ⟨h1, h2⟩
          · have hf : ¬ (k : Int) < (order.size : Int) := by omega
            go_wp2_with fail
            go_ret
            exact ⟨rfl, HKW.out.bw⟩
          · have hf : ¬ (k : Int) < 200 := by omega
            have hg : (k : Int) < (order.size : Int) := by omega
            go_wp2_with fail
            go_ret
            exact ⟨rfl, HKW.out.bw⟩
end Go.Proofs.Ytpfpokjaeffbjab.KeptW
