/- The reference's signers: NewSigner, Left. -/
import Derived.Test.YtpfpokjaeffbjabSigner
import Derived.Test.YtpfpokjaeffbjabRefCheck
import Derived.Test.YtpfpokjaeffbjabRefPackageNums
namespace Go.Proofs.Ytpfpokjaeffbjab.Rsg
open Go.RowKit Go.Proofs.Ytpfpokjaeffbjab.Pl Go.Proofs.Ytpfpokjaeffbjab.Dpl Go.Proofs.Ytpfpokjaeffbjab.Gpl Go.Proofs.Ytpfpokjaeffbjab.Kpl Go.Proofs.Ytpfpokjaeffbjab.Fld Go.Proofs.Ytpfpokjaeffbjab.Mem Go.Proofs.Ytpfpokjaeffbjab.Mpp Go.Proofs.Ytpfpokjaeffbjab.Spl Go.Proofs.Ytpfpokjaeffbjab.Ver Go.Proofs.Ytpfpokjaeffbjab.Rck Go.Proofs.Ytpfpokjaeffbjab.Rkg
open Go.Proofs.Ytpfpokjaeffbjab.Sgn (Only own_block)
set_option linter.unusedVariables false

/-- A pair of nonces with what it commits to: five cells. -/
def prCells1 (id : Int) (q : Int × Int) : List Value := [.int .u64 q.1, .int .u64 q.2, .int .i64 id, .int .u64 (pw 4 q.1.toNat 2147483579), .int .u64 (pw 4 q.2.toNat 2147483579)]
def prCells (id : Int) (pl : List (Int × Int)) : List Value := pl.flatMap (prCells1 id)
theorem prCells_length (id : Int) (l : List (Int × Int)) : (prCells id l).length = l.length * 5 := by
  induction l with
  | nil => rfl
  | cons c l ih =>
    show (prCells1 id c ++ prCells id l).length = _
    rw [List.length_append, ih, List.length_cons]
    simp [prCells1]; omega
theorem prCells_append (id : Int) (a b : List (Int × Int)) : prCells id (a ++ b) = prCells id a ++ prCells id b := by simp [prCells]
theorem prCells_one (id : Int) (q : Int × Int) : prCells id [q] = [.int .u64 q.1, .int .u64 q.2, .int .i64 id, .int .u64 (pw 4 q.1.toNat 2147483579), .int .u64 (pw 4 q.2.toNat 2147483579)] := by simp [prCells, prCells1]
theorem prCells_at (id : Int) (l : List (Int × Int)) (i : Nat) (h : i < l.length) :
    (prCells id l)[i * 5]? = some (.int .u64 (l.getD i (0, 0)).1) ∧ (prCells id l)[i * 5 + 1]? = some (.int .u64 (l.getD i (0, 0)).2) ∧ (prCells id l)[i * 5 + 2]? = some (.int .i64 id) ∧
    (prCells id l)[i * 5 + 3]? = some (.int .u64 (pw 4 (l.getD i (0, 0)).1.toNat 2147483579)) ∧ (prCells id l)[i * 5 + 4]? = some (.int .u64 (pw 4 (l.getD i (0, 0)).2.toNat 2147483579)) := by
  induction l generalizing i with
  | nil => simp at h
  | cons q l ih =>
    have e : prCells id (q :: l) = .int .u64 q.1 :: .int .u64 q.2 :: .int .i64 id :: .int .u64 (pw 4 q.1.toNat 2147483579) :: .int .u64 (pw 4 q.2.toNat 2147483579) :: prCells id l := rfl
    rw [e]
    cases i with
    | zero => exact ⟨rfl, rfl, rfl, rfl, rfl⟩
    | succ i =>
      have := ih i (by simpa using h)
      have e1 : (i + 1) * 5 = i * 5 + 1 + 1 + 1 + 1 + 1 := by omega
      rw [e1, List.getD_cons_succ]
      simpa using this
theorem oneCell_prs (id : Int) (l : List (Int × Int)) : ∀ u ∈ prCells id l, u.oneCell' = true := by
  intro u hu
  simp only [prCells, List.mem_flatMap] at hu
  obtain ⟨c, _, hu⟩ := hu
  simp only [prCells1, List.mem_cons, List.not_mem_nil, or_false] at hu
  rcases hu with rfl | rfl | rfl | rfl | rfl <;> rfl
/-- Where a signer of the reference's lies. -/
structure RLoc where
  S : Nat
  gc : Nat
  cap : Nat
  pv : Value
def RLoc.foot (a : RLoc) : List Nat := a.S :: a.gc :: a.pv.ownBlock.toList
def rCells (t n : Int) (vc : Value) (id share : Int) (pv : Value) : Array Value := #[.int .i64 t, .int .i64 n, vc, .int .i64 id, .int .u64 share, pv]
/-- The slice of the coefficients' commitments. -/
def RLoc.vc (a : RLoc) (cs : List Int) : Value := .slice (some ⟨a.gc, 0, none⟩) cs.length a.cap
/-- A signer of the reference's in memory. -/
structure RSg (w : World) (a : RLoc) (s : St) : Prop where
  sg : Blk w a.S 174 (rCells s.t s.n (a.vc s.cs) s.id s.share a.pv)
  own : w.ownsRow 0 25 1 (a.vc s.cs) s.cs.length (s.cs.map (Value.int .u64))
  prs : w.ownsRow 0 176 5 a.pv s.pl.length (prCells s.id s.pl)
theorem own_moved {w w' : World} {base : Nat} {e : TypeId} {size n : Nat} {v : Value} {xs : List Value} (h : w.ownsRow base e size v n xs) (hb : ∀ g, v.ownBlock = some g → w'.heap[g]? = w.heap[g]?) : w'.ownsRow base e size v n xs := by
  refine ⟨h.1, ?_⟩
  rcases h.2 with h2 | ⟨g, cp, cur, rfl, hbg, hh, r⟩
  · exact .inl h2
  · exact .inr ⟨g, cp, cur, rfl, hbg, (hb g rfl).trans hh, r⟩
theorem own_base {w : World} {base : Nat} {e : TypeId} {size n : Nat} {v : Value} {xs : List Value} (h : w.ownsRow base e size v n xs) : w.ownsRow 0 e size v n xs := by
  refine ⟨h.1, ?_⟩
  rcases h.2 with h2 | ⟨g, cp, cur, rfl, hbg, r⟩
  · exact .inl h2
  · exact .inr ⟨g, cp, cur, rfl, Nat.zero_le _, r⟩
theorem S_in (a : RLoc) : a.S ∈ a.foot := by simp [RLoc.foot]
theorem gc_in (a : RLoc) : a.gc ∈ a.foot := by simp [RLoc.foot]
theorem pv_in {a : RLoc} {g : Nat} (h : a.pv.ownBlock = some g) : g ∈ a.foot := by simp [RLoc.foot, h]
theorem RSg.keep {w w' : World} {a : RLoc} {s : St} (h : RSg w a s) (hb : ∀ k ∈ a.foot, w'.heap[k]? = w.heap[k]?) : RSg w' a s :=
  ⟨(hb a.S (S_in a)).trans h.sg, own_moved h.own fun g hg => hb g ((show a.gc = g by simpa [RLoc.vc, Value.ownBlock] using hg) ▸ gc_in a), own_moved h.prs fun g hg => hb g (pv_in hg)⟩
theorem RSg.lt {w : World} {a : RLoc} {s : St} (h : RSg w a s) : ∀ k ∈ a.foot, k < w.heap.size := by
  intro k hk
  simp only [RLoc.foot, List.mem_cons, Option.mem_toList] at hk
  rcases hk with rfl | rfl | hk
  · exact h.sg.lt
  · exact (h.own.lt _ rfl).2
  · exact (h.prs.lt k hk).2
theorem RSg.later {w w' : World} {a : RLoc} {s : St} (h : RSg w a s) (hb : Below w.heap.size w w') : RSg w' a s := h.keep fun k hk => hb.block k (h.lt k hk)
theorem RSg.cells {w : World} {a : RLoc} {s : St} (h : RSg w a s) : w.cell? ⟨a.S, 0, none⟩ = some (.int .i64 s.t) ∧ w.cell? ⟨a.S, 1, none⟩ = some (.int .i64 s.n) ∧ w.cell? ⟨a.S, 2, none⟩ = some (a.vc s.cs) ∧ w.cell? ⟨a.S, 3, none⟩ = some (.int .i64 s.id) ∧
    w.cell? ⟨a.S, 4, none⟩ = some (.int .u64 s.share) ∧ w.cell? ⟨a.S, 5, none⟩ = some a.pv := ⟨h.sg.cell 0, h.sg.cell 1, h.sg.cell 2, h.sg.cell 3, h.sg.cell 4, h.sg.cell 5⟩
/-- What the reference's NewSigner leaves. -/
def RNewPost (t n : Int) (cs : List Int) (id share : Int) (w : World) (e : Ending) (w' : World) : Prop :=
  Below w.heap.size w w' ∧
  ((newE t n cs id share ≠ 0 ∧ e = .returned (.tuple #[.pointer none, .int .i64 (newE t n cs id share)])) ∨
   (newE t n cs id share = 0 ∧ ∃ a : RLoc, e = .returned (.tuple #[.pointer (some ⟨a.S, 0, none⟩), .int .i64 0]) ∧ RSg w' a ⟨t, n, cs, id, share, []⟩ ∧ ∀ k ∈ a.foot, w.heap.size ≤ k))

set_option maxRecDepth 100000 in
set_option maxHeartbeats 4000000 in
theorem refNewSignerC (t n : Int) (cs : List Int) (v : Value) (id share : Int) (w : World) (hv : Nums .u64 w w.heap.size v cs) (hl : cs.length ≤ 65536) (hcb : ∀ i, i < cs.length → 0 ≤ cs.getD i 0)
    (hs : 0 ≤ share ∧ share < 18446744073709551616) :
    Calls Try.prog 62 #[.agg #[.int .i64 t, .int .i64 n, v], .int .i64 id, .int .u64 share] w (RNewPost t n cs id share w) := by
  have hbw := below_box w (.cells #[.int .i64 t, .int .i64 n, v] 28)
  have hck := Lib.hid (refCheckC t n cs v id share _ (hv.later hbw) hl hcb hs)
  have HBW := Lib.hid hbw
  have HV := Lib.hid hv
  obtain ⟨A, c, rfl, -⟩ := hv
  have HBLK := Lib.hid (Blk.new w 28 #[.int .i64 t, .int .i64 n, .slice A cs.length c])
  have bb0 := HBLK.out.cell 0
  have bb1 := HBLK.out.cell 1
  have bb2 := HBLK.out.cell 2
  clear hbw hcb hs
  obtain ⟨bC, hbC⟩ : ∃ b, checkB t n cs id share = b := ⟨_, rfl⟩
  rw [hbC] at hck
  have HBC := Lib.hid hbC
  clear hbC
  by_cases h0 : checkE t n cs id share = 0
  case neg =>
    have hE := Lib.hid (newE_check h0)
    have HNZ := Lib.hid h0
    have hne : (checkE t n cs id share != 0) = true := by rw [bne_iff_ne]; exact h0
    generalize checkE t n cs id share = x at *
    clear h0
    go_enter Try.func62, Try.ntmps62
    go_wp2_with fail
    refine hck.out.mono ?_
    rintro e w1 ⟨rfl, hb1⟩
    go_wp2_with fail
    go_ret2
    exact ⟨HBW.out.trans (hb1.mono (by simp)), .inl ⟨by rw [hE.out]; exact HNZ.out, by rw [hE.out]; rfl⟩⟩
  rw [h0] at hck
  have H0 := Lib.hid h0
  clear h0
  have m0 : ((0 : Int) != 0) = false := rfl
  cases bC
  case false =>
    have hE := Lib.hid (newE_share H0.out HBC.out)
    go_enter Try.func62, Try.ntmps62
    go_wp2_with fail
    refine hck.out.mono ?_
    rintro e w1 ⟨rfl, hb1⟩
    go_wp2_with fail
    go_ret2
    exact ⟨HBW.out.trans (hb1.mono (by simp)), .inl ⟨by rw [hE.out]; omega, by rw [hE.out]; rfl⟩⟩
  have hE := Lib.hid (newE_ok H0.out HBC.out)
  have hgo := (checkE_spec H0.out).1
  have hgs := groupOk_spec hgo
  have hcl : 0 < cs.length := by omega
  clear hgo hgs
  obtain ⟨i0, hi, hz0, hz1, hz2⟩ := info_parts info_u64'
  have HONE := Lib.hid (show ∀ u ∈ cs.map (Value.int .u64), u.oneCell' = true by intro u hu; rw [List.mem_map] at hu; obtain ⟨x, _, rfl⟩ := hu; rfl)
  go_enter Try.func62, Try.ntmps62
  go_wp2_with fail
  refine hck.out.mono ?_
  rintro e w1 ⟨rfl, hb1⟩
  have hbx1 := HBLK.out.below hb1 HBLK.out.lt
  have c0 : w1.cell? ⟨w.heap.size, 0, none⟩ = some (.int .i64 t) := hbx1.cell 0
  have c1 : w1.cell? ⟨w.heap.size, 1, none⟩ = some (.int .i64 n) := hbx1.cell 1
  have c2 : w1.cell? ⟨w.heap.size, 2, none⟩ = some (.slice A cs.length c) := hbx1.cell 2
  have hbw1 := HBW.out.trans (hb1.mono (by simp))
  have HN1 := Lib.hid (HV.out.later hbw1)
  have HW1 := Lib.hid hbw1
  have HBX1 := Lib.hid hbx1
  clear hbw1 hb1 hbx1 hck bb0 bb1 bb2
  go_wp2_with (at_builtin; refine wpList_append_row _ rfl (.const (.slice none 0 0)) (.tmp 23) _ rfl w1.heap.size 25 i0 (.int .u64 0) 1 8 Try.underlying26 hi hz0 hz1 hz2 rfl (by decide) (.slice none 0 0) 0 [] rfl (World.ownsRow_nil _ _ _ _) w1.heap.size _ cs.length _ rfl HN1.out.row HONE.out (by unfold maxLen; omega) (by omega) (Nat.le_refl _) ?_; intro v2 w2 hown2 hgrow2; rw [Nat.zero_add, List.nil_append] at hown2; obtain ⟨gc, cap, rfl, hgb, hglt⟩ := World.ownsRow.form hown2 hcl; have hb2 : Below w1.heap.size w1 w2 := (Below.refl _ _).grown hgrow2 (Nat.le_refl _) (fun k hk => by simp [Value.ownBlock] at hk); have hbk2 := HBX1.out.below hb2 HBX1.out.lt; have d0 : w2.cell? ⟨w.heap.size, 0, none⟩ = some (.int .i64 t) := hbk2.cell 0; have d1 : w2.cell? ⟨w.heap.size, 1, none⟩ = some (.int .i64 n) := hbk2.cell 1; have d2 : w2.cell? ⟨w.heap.size, 2, none⟩ = some (.slice A cs.length c) := hbk2.cell 2; have fz := hbk2.frozen 2; have HB2 := Lib.hid hb2; have HK2 := Lib.hid hbk2; have HO2 := Lib.hid hown2; have HGB := Lib.hid hgb; clear hgb hglt hown2 hgrow2 hb2 hbk2)
  go_ret2
  have hB3 : Blk (w2.setCell ⟨w.heap.size, 2, none⟩ (.slice (some ⟨gc, 0, none⟩) cs.length cap)) w.heap.size 28 _ := HK2.out.set_ 2 (.slice (some ⟨gc, 0, none⟩) cs.length cap)
  have hO3 := own_far HO2.out HK2.out (by decide) 2 (.slice (some ⟨gc, 0, none⟩) cs.length cap)
  have hw3 : Below w.heap.size w (w2.setCell ⟨w.heap.size, 2, none⟩ (.slice (some ⟨gc, 0, none⟩) cs.length cap)) := (HW1.out.trans (HB2.out.mono HW1.out.size)).setCell (Nat.le_refl _) _
  have hw1s := HW1.out.size
  have hsz3 := hw3.size
  have hb3 := below_box (w2.setCell ⟨w.heap.size, 2, none⟩ (.slice (some ⟨gc, 0, none⟩) cs.length cap)) (.cells (rCells t n (.slice (some ⟨gc, 0, none⟩) cs.length cap) id share (.slice none 0 0)) 174)
  refine ⟨hw3.trans (hb3.mono hsz3), .inr ⟨hE.out, ⟨_, gc, cap, .slice none 0 0⟩, rfl, ⟨blk_new' _ _ (by simp), own_base (own_below hO3 hb3 (Nat.le_refl _)), World.ownsRow_nil _ _ _ _⟩, ?_⟩⟩
  intro k hk
  have := HGB.out
  simp [RLoc.foot, Value.ownBlock] at hk hsz3
  omega

set_option maxRecDepth 100000 in
set_option maxHeartbeats 2000000 in
theorem refLeftC (w : World) (a : RLoc) (s : St) (h : RSg w a s) :
    Calls Try.prog 68 #[.pointer (some ⟨a.S, 0, none⟩)] w fun e w' => e = .returned (.int .i64 s.pl.length) ∧ w = w' := by
  obtain ⟨c0, c1, c2, c3, c4, c5⟩ := h.cells
  obtain ⟨A, c, hv⟩ := own_shape h.prs
  rw [hv] at c5
  clear h hv
  go_enter Try.func68, Try.ntmps68
  go_wp2_with fail
  go_ret
  exact ⟨rfl, rfl⟩
end Go.Proofs.Ytpfpokjaeffbjab.Rsg
