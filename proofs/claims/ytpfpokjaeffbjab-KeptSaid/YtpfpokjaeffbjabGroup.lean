/- Group: its public shares, worked out once. -/
import Derived.Test.YtpfpokjaeffbjabVerify
import Derived.Test.YtpfpokjaeffbjabGroupPlain
import Derived.Test.YtpfpokjaeffbjabOnce
namespace Go.Proofs.Ytpfpokjaeffbjab.Grp
open Go.RowKit Go.Proofs.Ytpfpokjaeffbjab.Pl Go.Proofs.Ytpfpokjaeffbjab.Dpl Go.Proofs.Ytpfpokjaeffbjab.Gpl Go.Proofs.Ytpfpokjaeffbjab.Fld Go.Proofs.Ytpfpokjaeffbjab.Mem Go.Proofs.Ytpfpokjaeffbjab.Ver

/-- Block g is a group of threshold t, of n signers, the commitments' slice vc; its Once stands at d, the Once's lock at s; the shares of the signers below k are worked out. -/
def GrpAt (w : World) (g : Nat) (t n : Int) (vc : Value) (d s : Int) (cs : List Int) (k : Nat) : Prop :=
  ∃ C : Array Value, Blk w g 143 C ∧ C.size = 16 ∧ C[0]? = some (.int .i64 t) ∧ C[1]? = some (.int .i64 n) ∧ C[2]? = some vc ∧ C[3]? = some (.int .u32 d) ∧ C[4]? = some (.int .i32 s) ∧
    ∀ i : Nat, 1 ≤ i → i < k → C[6 + i]? = some (.int .u64 (pub cs i))
section
variable {w : World} {g : Nat} {t n : Int} {vc : Value} {d s : Int} {cs : List Int} {k : Nat}
theorem GrpAt.lt (h : GrpAt w g t n vc d s cs k) : g < w.heap.size := h.choose_spec.1.lt
theorem GrpAt.cells (h : GrpAt w g t n vc d s cs k) : w.cell? ⟨g, 0, none⟩ = some (.int .i64 t) ∧ w.cell? ⟨g, 1, none⟩ = some (.int .i64 n) ∧ w.cell? ⟨g, 2, none⟩ = some vc ∧ w.cell? ⟨g, 3, none⟩ = some (.int .u32 d) ∧ w.cell? ⟨g, 4, none⟩ = some (.int .i32 s) := by
  obtain ⟨C, hb, hs, h0, h1, h2, h3, h4, _⟩ := h
  exact ⟨(hb.cell 0).trans h0, (hb.cell 1).trans h1, (hb.cell 2).trans h2, (hb.cell 3).trans h3, (hb.cell 4).trans h4⟩
theorem GrpAt.frozen (h : GrpAt w g t n vc d s cs k) (i : Nat) : w.frozen? ⟨g, i, none⟩ = false := h.choose_spec.1.frozen i
theorem GrpAt.share (h : GrpAt w g t n vc d s cs k) {i : Nat} (h1 : 1 ≤ i) (hi : i < k) : w.cell? ⟨g, 6 + i, none⟩ = some (.int .u64 (pub cs i)) := by
  obtain ⟨C, hb, hs, _, _, _, _, _, h⟩ := h
  exact (hb.cell _).trans (h i h1 hi)
theorem GrpAt.room (h : GrpAt w g t n vc d s cs k) {i : Nat} (hi : i < 16) : ∃ u, w.cell? ⟨g, i, none⟩ = some u := by
  obtain ⟨C, hb, hs, _⟩ := h
  exact ⟨_, (hb.cell i).trans (Array.getElem?_eq_getElem (by omega))⟩
theorem GrpAt.grown {w' : World} {row : Option Nat} (h : GrpAt w g t n vc d s cs k) (hg : w.grownBy w' row) (hne : some g ≠ row) : GrpAt w' g t n vc d s cs k := by
  obtain ⟨C, hb, r⟩ := h
  exact ⟨C, hb.grown hg hne, r⟩
theorem GrpAt.below {w' : World} {B : Nat} (h : GrpAt w g t n vc d s cs k) (hg : Below B w w') (hlt : g < B) : GrpAt w' g t n vc d s cs k := by
  obtain ⟨C, hb, r⟩ := h
  exact ⟨C, hb.below hg hlt, r⟩
theorem GrpAt.lay (h : GrpAt w g t n vc d s cs k) (h1 : 1 ≤ k) (hk : k < 10) : GrpAt (w.setCell ⟨g, 6 + k, none⟩ (.int .u64 (pub cs k))) g t n vc d s cs (k + 1) := by
  obtain ⟨C, hb, hs, h0, h1', h2, h3, h4, h5⟩ := h
  refine ⟨_, hb.set_ (6 + k) _, by rw [Array.size_setIfInBounds]; exact hs, ?_, ?_, ?_, ?_, ?_, ?_⟩
  · rw [Array.getElem?_setIfInBounds_ne (by omega)]; exact h0
  · rw [Array.getElem?_setIfInBounds_ne (by omega)]; exact h1'
  · rw [Array.getElem?_setIfInBounds_ne (by omega)]; exact h2
  · rw [Array.getElem?_setIfInBounds_ne (by omega)]; exact h3
  · rw [Array.getElem?_setIfInBounds_ne (by omega)]; exact h4
  · intro i hi1 hi2
    by_cases e : i = k
    · subst e
      rw [Array.getElem?_setIfInBounds_self_of_lt (by omega)]
    · rw [Array.getElem?_setIfInBounds_ne (by omega)]
      exact h5 i hi1 (by omega)
theorem GrpAt.state (h : GrpAt w g t n vc d s cs k) (s' : Int) : GrpAt (w.setCell ⟨g, 4, none⟩ (.int .i32 s')) g t n vc d s' cs k := by
  obtain ⟨C, hb, hs, h0, h1', h2, h3, h4, h5⟩ := h
  refine ⟨_, hb.set_ 4 _, by rw [Array.size_setIfInBounds]; exact hs, ?_, ?_, ?_, ?_, ?_, ?_⟩
  · rw [Array.getElem?_setIfInBounds_ne (by omega)]; exact h0
  · rw [Array.getElem?_setIfInBounds_ne (by omega)]; exact h1'
  · rw [Array.getElem?_setIfInBounds_ne (by omega)]; exact h2
  · rw [Array.getElem?_setIfInBounds_ne (by omega)]; exact h3
  · rw [Array.getElem?_setIfInBounds_self_of_lt (by omega)]
  · intro i hi1 hi2
    rw [Array.getElem?_setIfInBounds_ne (by omega)]
    exact h5 i hi1 hi2
theorem GrpAt.done (h : GrpAt w g t n vc d s cs k) (d' : Int) : GrpAt (w.setCell ⟨g, 3, none⟩ (.int .u32 d')) g t n vc d' s cs k := by
  obtain ⟨C, hb, hs, h0, h1', h2, h3, h4, h5⟩ := h
  refine ⟨_, hb.set_ 3 _, by rw [Array.size_setIfInBounds]; exact hs, ?_, ?_, ?_, ?_, ?_, ?_⟩
  · rw [Array.getElem?_setIfInBounds_ne (by omega)]; exact h0
  · rw [Array.getElem?_setIfInBounds_ne (by omega)]; exact h1'
  · rw [Array.getElem?_setIfInBounds_ne (by omega)]; exact h2
  · rw [Array.getElem?_setIfInBounds_self_of_lt (by omega)]
  · rw [Array.getElem?_setIfInBounds_ne (by omega)]; exact h4
  · intro i hi1 hi2
    rw [Array.getElem?_setIfInBounds_ne (by omega)]
    exact h5 i hi1 hi2
theorem GrpAt.drew (h : GrpAt w g t n vc d s cs k) : GrpAt w.drew g t n vc d s cs k := h
end
theorem grownBy_set {w w' : World} {g : Nat} (h : w.grownBy w' (some g)) (i : Nat) (u : Value) : w.grownBy (w'.setCell ⟨g, i, none⟩ u) (some g) :=
  ⟨h.os, h.tape, h.output, by have := h.size; simpa using this, fun k hk hne => (Below.heap_setCell w' ⟨g, i, none⟩ u k (fun e => hne (by rw [e]))).trans (h.block k hk hne)⟩
theorem grownBy_drew {w w' : World} {row : Option Nat} (h : w.grownBy w' row) : w.grownBy w'.drew row := ⟨h.os, h.tape, h.output, h.size, h.block⟩
theorem grownBy_trans {a b c : World} {row : Option Nat} (h : a.grownBy b row) (h2 : b.grownBy c row) : a.grownBy c row :=
  ⟨h2.os.trans h.os, h2.tape.trans h.tape, h2.output.trans h.output, Nat.le_trans h.size h2.size, fun k hk hne => (h2.block k (Nat.lt_of_lt_of_le hk h.size) hne).trans (h.block k hk hne)⟩
theorem grownBy_below {w w' : World} {g : Nat} (h : w.grownBy w' (some g)) {B : Nat} (hB : B ≤ g) (hw : B ≤ w.heap.size) : Below B w w' :=
  ⟨h.os, h.tape, h.output, h.size, fun k hk => h.block k (by omega) (fun e => by injection e with e; omega)⟩
/-- The commitments, as the group owns them. -/
def OwnCs (w : World) (base : Nat) (vc : Value) (cs : List Int) : Prop := w.ownsRow base 85 1 vc cs.length (cs.map (Value.int .u64))
theorem OwnCs.form {w : World} {base : Nat} {vc : Value} {cs : List Int} (h : OwnCs w base vc cs) (hp : 0 < cs.length) :
    ∃ gc cap, vc = .slice (some ⟨gc, 0, none⟩) cs.length cap ∧ base ≤ gc ∧ gc < w.heap.size ∧ (∀ i, i < cs.length → w.cell? ⟨gc, i, none⟩ = some (.int .u64 (cs.getD i 0))) ∧ ∀ g C, Blk w g 143 C → g ≠ gc := by
  obtain ⟨gc, cap, rfl, hb, hlt⟩ := World.ownsRow.form h hp
  refine ⟨gc, cap, rfl, hb, hlt, fun i hi => ?_, fun g C hC e => ?_⟩
  · rw [World.ownsRow.cellAt h i (by omega), List.getElem?_map, List.getElem?_eq_getElem hi, List.getD_eq_getElem?_getD, List.getElem?_eq_getElem hi]
    rfl
  · exact own_ne_blk h hC (by decide) (by rw [e]; rfl)

theorem pubS_step (cs : List Int) (id : Int) (j : Nat) : pubS cs id (j + 1) = emul (pubS cs id j) (pw (cs.getD j 0) (rpA id j).toNat 2147483579) := by
  have b1 := pubS_bd cs id j
  have b2 := pw_bd (cs.getD j 0) (rpA id j).toNat (m := 2147483579) (by omega)
  rw [pubS, emul_eq b1.1 (by omega) b2.1 (by omega)]
theorem rpA_step {id : Int} (j : Nat) (h0 : 0 ≤ id) (h1 : id < 100) : rpA id (j + 1) = smul (rpA id j) id := by
  have b := rpA_bd id j
  rw [rpA, smul_eq b.1 (by omega) h0 (by omega)]

set_option maxRecDepth 100000 in
set_option maxHeartbeats 2000000 in
theorem workC (g : Nat) (t : Int) (n : Nat) (vc : Value) (cs : List Int) (d s : Int) (base : Nat) (w : World) (hg : GrpAt w g t n vc d s cs 1) (ho : OwnCs w base vc cs) (hn : n ≤ 9) (hl : 0 < cs.length) (hl9 : cs.length ≤ 9)
    (hel : ∀ i, i < cs.length → isEl (cs.getD i 0) = true) :
    Calls Try.prog 93 #[.pointer (some ⟨g, 0, none⟩)] w fun e w' => e = .returned (.tuple #[]) ∧ GrpAt w' g t n vc d s cs (n + 1) ∧ w.grownBy w' (some g) := by
  obtain ⟨gc, cap, rfl, hbase, hgc, hcell, hne⟩ := ho.form hl
  have hgg : g ≠ gc := by
    obtain ⟨C, hC, _⟩ := hg
    exact hne g C hC
  have HC := Lib.hid hcell
  have HEL := Lib.hid hel
  clear hcell hne hel ho
  go_enter Try.func93, Try.ntmps93
  go_wp2_with fail
  go_loopw [2] (fun i wr => ∃ k : Nat, 1 ≤ k ∧ k ≤ n + 1 ∧ i = .int .i64 k ∧ GrpAt wr g t n (.slice (some ⟨gc, 0, none⟩) cs.length cap) d s cs k ∧ w.grownBy wr (some g)) (fun i _ => n + 1 - (intOf i).toNat)
  case atStart => exact ⟨1, by omega, by omega, rfl, hg, World.grownBy.refl _ _⟩
  case round =>
    obtain ⟨k, hk1, hk, rfl, hG, hgr⟩ := hrel
    obtain ⟨c0, c1, c2, c3, c4⟩ := hG.cells
    have HG := Lib.hid hG
    clear hG
    by_cases hlt : k ≤ n
    · have hlt' : (k : Int) ≤ (n : Int) := by omega
      obtain ⟨wo, rfl⟩ : ∃ wo : World, wo = wr := ⟨_, rfl⟩
      have HGR := Lib.hid hgr
      clear hgr
      go_wp2_with fail
      go_loopw [3, 4, 20] (fun x o i wr => ∃ j : Nat, j ≤ cs.length ∧ i = .int .i64 j ∧ x = .int .u64 (rpA k j) ∧ o = .int .u64 (pubS cs k j) ∧ wr = wo) (fun _ _ i _ => cs.length - (intOf i).toNat)
      case atStart => exact ⟨0, by omega, rfl, rfl, rfl, rfl⟩
      case round =>
        obtain ⟨j, hj, rfl, rfl, rfl, rfl⟩ := hrel
        by_cases hjl : j < cs.length
        · have hcj : wr.cell? ⟨gc, j, none⟩ = some (.int .u64 (cs.getD j 0)) := (World.cell?_of_block (HGR.out.block gc hgc (fun e => hgg (by injection e with e; exact e.symm)))).trans (HC.out j hjl)
          have he := isEl_bd (HEL.out j hjl)
          have P1 := Lib.hid (pubS_step cs k j)
          have P2 := Lib.hid (rpA_step (id := (k : Int)) j (by omega) (by omega))
          have b1 := rpA_bd (k : Int) j
          obtain ⟨b1, b2⟩ := b1
          obtain ⟨he1, he2⟩ := he
          generalize cs.getD j 0 = C at *
          generalize rpA (k : Int) j = X at *
          generalize pubS cs (k : Int) j = O at *
          go_wp2_with (first | (go_at_call 48; refine (powerI C X _ (by omega) he2 b1 (by omega)).mono ?_; rintro e w' ⟨rfl, rfl⟩) | (go_at_call 46; refine (etimes _ _ _).mono ?_; rintro e w' ⟨rfl, rfl⟩) | (go_at_call 70; refine (smallIs k _ (by omega) (by omega)).mono ?_; rintro e w' ⟨rfl, rfl⟩) | (go_at_call 37; refine (stimes _ _ _).mono ?_; rintro e w' ⟨rfl, rfl⟩))
          refine ⟨⟨j + 1, by omega, by go_num, by rw [P2.out], by rw [P1.out], by first | rfl | trivial⟩, by simp [intOf]; omega⟩
        · obtain rfl : j = cs.length := by omega
          obtain ⟨u0, hu0⟩ := HG.out.room (i := 6 + k) (by omega)
          have hz0 := HG.out.frozen (6 + k)
          have q1 : (0 : Int) ≤ (k : Int) := by omega
          have q2 : (k : Int) < 10 := by omega
          have q3 : k < 10 := by omega
          go_wp2_with fail
          refine ⟨⟨k + 1, by omega, by omega, by go_num, HG.out.lay hk1 q3, grownBy_set HGR.out _ _⟩, by simp [intOf]; omega⟩
    · obtain rfl : k = n + 1 := by omega
      have hlt' : ¬ ((n + 1 : Nat) : Int) ≤ (n : Int) := by omega
      go_wp2_with fail
      go_end0
      exact ⟨rfl, HG.out, hgr⟩
/-- The public share of a signer, of a group whose shares were not asked for. -/
theorem shareC (g : Nat) (t : Int) (n : Nat) (vc : Value) (cs : List Int) (base : Nat) (id : Int) (w : World) (hg : GrpAt w g t n vc 0 0 cs 1) (ho : OwnCs w base vc cs) (hn : n ≤ 9) (hl : 0 < cs.length) (hl9 : cs.length ≤ 9)
    (hel : ∀ i, i < cs.length → isEl (cs.getD i 0) = true) (h1 : 1 ≤ id) (h2 : id ≤ n) :
    Calls Try.prog 47 #[.pointer (some ⟨g, 0, none⟩), .int .i64 id] w fun e w' => e = .returned (.int .u64 (pub cs id)) ∧ GrpAt w' g t n vc 1 0 cs (n + 1) ∧ w.grownBy w' (some g) := by
  obtain ⟨k, rfl⟩ := Int.eq_ofNat_of_zero_le (show 0 ≤ id by omega)
  obtain ⟨c0, c1, c2, c3, c4⟩ := hg.cells
  have hG1 := hg.state 1
  have hgr1 : w.grownBy (w.setCell ⟨g, 4, none⟩ (.int .i32 1)) (some g) := grownBy_set (World.grownBy.refl _ _) 4 _
  have ho1 : OwnCs (w.setCell ⟨g, 4, none⟩ (.int .i32 1)) base vc cs := by
    obtain ⟨C, hC, _⟩ := hg
    exact own_far ho hC (by decide) 4 _
  have hwork := (workC g t n vc cs 0 1 base _ hG1 ho1 hn hl hl9 hel).mono (fun e w' h => (⟨h.1, h.2.1, grownBy_trans hgr1 h.2.2⟩ : e = .returned (.tuple #[]) ∧ (GrpAt w' g t n vc 0 1 cs (n + 1) ∧ w.grownBy w' (some g))))
  have hdo := Onc.doC g 3 (.pointer (some ⟨g, 0, none⟩)) w (fun w' => GrpAt w' g t n vc 0 1 cs (n + 1) ∧ w.grownBy w' (some g)) c3 c4 (hg.frozen 4) hwork
    (fun w' h => ⟨h.1.cells.2.2.2.1, h.1.cells.2.2.2.2, h.1.frozen 3, h.1.frozen 4⟩)
  have HDO := Lib.hid hdo
  have hmf : ∀ (fn : Fn) (first cap : Array Value) (w : World), (Instr.makeFunc fn first cap).run Try.prog w = .ok (.func fn first cap) w := fun _ _ _ _ => rfl
  have q1 : (0 : Int) ≤ (k : Int) := by omega
  have q2 : (k : Int) < 10 := by omega
  clear hG1 hgr1 ho1 hwork hdo c0 c1 c2 c3 c4
  go_enter Try.func47, Try.ntmps47
  go_wp2_with fail
  refine HDO.out.mono ?_
  rintro e w1 ⟨rfl, w', ⟨hG, hgr⟩, rfl⟩
  have hF := (hG.drew.done 1).state 0
  have hR := grownBy_set (grownBy_set (grownBy_drew hgr) 3 (.int .u32 1)) 4 (.int .i32 0)
  generalize ((w'.drew.setCell ⟨g, 3, none⟩ (.int .u32 1)).setCell ⟨g, 4, none⟩ (.int .i32 0)) = wf at *
  have hs := hF.share (i := k) (by omega) (by omega)
  have HF := Lib.hid hF
  clear hF hG hgr
  go_wp2_with fail
  go_ret
  exact ⟨rfl, HF.out, hR⟩
end Go.Proofs.Ytpfpokjaeffbjab.Grp
