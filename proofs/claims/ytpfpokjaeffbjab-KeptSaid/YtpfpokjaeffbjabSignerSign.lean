/- The program's signers: Sign. -/
import Derived.Test.YtpfpokjaeffbjabSignerCommit
import Derived.Test.YtpfpokjaeffbjabSignPlain
import Derived.Test.YtpfpokjaeffbjabPackageNums
namespace Go.Proofs.Ytpfpokjaeffbjab.Sgn
open Go.RowKit Go.MuLone Go.Conc.Locks Go.Proofs.Ytpfpokjaeffbjab.Pl Go.Proofs.Ytpfpokjaeffbjab.Dpl Go.Proofs.Ytpfpokjaeffbjab.Gpl Go.Proofs.Ytpfpokjaeffbjab.Kpl Go.Proofs.Ytpfpokjaeffbjab.Fld Go.Proofs.Ytpfpokjaeffbjab.Mem Go.Proofs.Ytpfpokjaeffbjab.Mpp Go.Proofs.Ytpfpokjaeffbjab.Spl Go.Proofs.Ytpfpokjaeffbjab.Ver Go.Proofs.Ytpfpokjaeffbjab.Grp Go.Proofs.Ytpfpokjaeffbjab.Gof Go.Proofs.Ytpfpokjaeffbjab.Chk Go.Proofs.Ytpfpokjaeffbjab.Lck Go.Proofs.Ytpfpokjaeffbjab.Pkg
set_option linter.unusedVariables false

section
variable {w : World} {p g : Nat} {vc lv : Value} {t n : Int} {cs : List Int} {l : List Cm} {msg : ByteArray} {base : Nat}
set_option maxRecDepth 100000 in
theorem atX (h : Pk w p g vc lv t n cs l msg base) {k : Nat} (hk : k < l.length) :
    Calls Try.prog 34 #[.pointer (some ⟨p, 0, none⟩), .int .i64 k] w fun e w' => e = .returned (.agg #[.int .i64 (l.getD k .zero).id, .int .u64 (l.getD k .zero).d, .int .u64 (l.getD k .zero).e]) ∧ w' = w.alloc (.cells #[.int .i64 (l.getD k .zero).id, .int .u64 (l.getD k .zero).d, .int .u64 (l.getD k .zero).e] 37) := by
  obtain ⟨p0, p1, p2⟩ := h.cells
  obtain ⟨A, c, rfl⟩ := h.coms.shape
  obtain ⟨b, off, rfl, hb, hc⟩ := h.coms.at_ (by omega)
  obtain ⟨x0, x1, x2⟩ := hc k hk
  have hp := h.pk.lt
  clear h hc
  generalize (l.getD k .zero).id = X at *
  generalize (l.getD k .zero).d = D at *
  generalize (l.getD k .zero).e = E at *
  have k1 : (0 : Int) ≤ (k : Int) := by omega
  have k2 : (k : Int) < (l.length : Int) := by omega
  go_enter Try.func34, Try.ntmps34
  go_wp2_with fail
  refine bodyPost_ret (v := .agg #[.int .i64 X, .int .u64 D, .int .u64 E]) (by simp [results, Try.results34, go_sem]) rfl ?_
  exact ⟨rfl, rfl⟩
/-- A map turned: the package stays. -/
theorem Pk.grownM {w' : World} {M : Nat} {es : Array MapEntry} {cl : Nat} (h : Pk w p g vc lv t n cs l msg base) (hM : w.heap[M]? = some (.map es cl)) (hg : w.grownBy w' (some M)) : Pk w' p g vc lv t n cs l msg base := by
  have hno : ∀ b i, b = M → w.cell? ⟨b, i, none⟩ = none := fun b i e => by subst e; simp [World.cell?, hM]
  have hmv : ∀ b, b < w.heap.size → b ≠ M → w'.heap[b]? = w.heap[b]? := fun b hb hne => hg.block b hb (fun e => hne (by injection e))
  have hcell : ∀ b i u, b < w.heap.size → w.cell? ⟨b, i, none⟩ = some u → w'.cell? ⟨b, i, none⟩ = some u := fun b i u hb h => by
    have hne : b ≠ M := fun e => by rw [hno b i e] at h; cases h
    exact (World.cell?_of_block (hmv b hb hne)).trans h
  have hbk : ∀ {g T C}, Blk w g T C → g ≠ M := fun {g T C} hb e => by
    subst e; unfold Blk at hb; rw [hM] at hb; cases hb
  refine ⟨(hmv p h.pk.lt (hbk h.pk)).trans h.pk, ?_, ?_, ?_⟩
  · obtain ⟨h1, A, c, rfl, hc, h2⟩ := h.coms
    refine ⟨h1, A, c, rfl, hc, fun hp => ?_⟩
    obtain ⟨b, off, rfl, hb, h3⟩ := h2 hp
    exact ⟨b, off, rfl, Nat.lt_of_lt_of_le hb hg.size, fun j u hj => hcell b _ u hb (h3 j u hj)⟩
  · exact h.grp.grown hg (fun e => hbk h.grp.choose_spec.1 (by injection e))
  · refine ⟨h.own.1, ?_⟩
    rcases h.own.2 with h2 | ⟨g', cap, cur, rfl, hb, hh, r⟩
    · exact .inl h2
    · exact .inr ⟨g', cap, cur, rfl, hb, (hmv g' (Array.getElem?_eq_some_iff.1 hh).1 (hbk (T := 85) (C := cur) hh)).trans hh, r⟩
end
/-- Commitments in memory, whatever becomes of these blocks. -/
def ComsBut (X : List Nat) (w : World) (lv : Value) (l : List Cm) : Prop := ∀ w', Only X w w' → Coms w' w'.heap.size lv l
/-- The state midway: the lock held, the package. -/
def SigMid (w : World) (a : Loc) (s : St) (l : List Cm) (msg : ByteArray) (p : Nat) (lv : Value) (wx : World) : Prop :=
  SgIn wx a s ∧ Pk wx p a.g (.slice (some ⟨a.gc, 0, none⟩) s.cs.length a.cap) lv s.t s.n s.cs l msg a.base ∧ Only a.foot w wx
theorem SigMid.later {w : World} {a : Loc} {s : St} {l : List Cm} {msg : ByteArray} {p : Nat} {lv : Value} {wx wy : World} (h : SigMid w a s l msg p lv wx) (hb : Below wx.heap.size wx wy) : SigMid w a s l msg p lv wy :=
  ⟨h.1.later hb, h.2.1.later hb, h.2.2.then_ hb⟩
theorem run_id (x d e : Int) (w : World) : (Instr.field 37 (.agg #[.int .i64 x, .int .u64 d, .int .u64 e]) 0).run Try.prog w = .ok (.int .i64 x) w := by kernel_rfl
set_option maxRecDepth 100000 in
set_option maxHeartbeats 8000000 in
theorem signC (w : World) (a : Loc) (s : St) (msg : ByteArray) (l : List Cm) (lv : Value) (h : SgAt w a s) (hok : Ok s) (hC : ComsBut a.foot w lv l) (hl : l.length ≤ 65536)
    (hb : ∀ i, i < l.length → 0 ≤ (l.getD i .zero).d ∧ 0 ≤ (l.getD i .zero).e) (hms : msg.size ≤ 1000000) (v e : Int) (s' : St) (hr : SignRel s msg l v e s') :
    Calls Try.prog 14 #[.pointer (some ⟨a.S, 0, none⟩), .string msg, lv] w fun x w' => x = .returned (.tuple #[.int .u64 v, .int .i64 e]) ∧ SgAt w' a s' ∧ Only a.foot w w' := by
  have h0 : w.cell? ⟨a.S, 0, none⟩ = some (.int .i32 0) := h.sg.cell 0
  have hz := h.sg.frozen 0
  have hI := h.enter
  have hlk := lock_free muLib ⟨a.S, 0, none⟩ w h0 hz
  have hO1 := (Only.refl a.foot w).set_ (S_mem a) 0 (.int .i32 1)
  have hC1 := hC _ hO1
  obtain ⟨A, c, rfl⟩ := hC1.shape
  have HLK := Lib.hid hlk
  have HI := Lib.hid hI
  have HO1 := Lib.hid hO1
  have HOK := Lib.hid hok
  have HR := Lib.hid hr
  have hpk := Lib.hid (pkgOfC (msg := msg) hI.grp hI.own hC1 hl hb)
  obtain ⟨c0, c2, c3, c4, c5⟩ := hI.cells
  clear h hok h0 hz hI hlk hO1 hC1 hr hC hb c0 c3 c4 c5
  go_enter_defers Try.func14, Try.ntmps14
  go_wp2_with (go_at_call 28; refine HLK.out.mono ?_; rintro e w' ⟨rfl, rfl⟩)
  clear HLK
  generalize w.setCell ⟨a.S, 0, none⟩ (.int .i32 1) = W1 at *
  refine hpk.out.mono ?_
  rintro x W2 ⟨hb2, ⟨hne, rfl⟩ | ⟨h0, p, lv', rfl, hP⟩⟩
  · obtain ⟨rfl, rfl, rfl⟩ := rel_pk HR.out hne
    have t1 : (pkE s'.t s'.n l != 0) = true := by rw [bne_iff_ne]; exact hne
    have hI2 := HI.out.later hb2
    have HO2 := Lib.hid (HO1.out.then_ hb2)
    have HI2 := Lib.hid hI2
    obtain ⟨c0, -⟩ := hI2.cells
    have hz1 := hI2.sg.frozen 0
    obtain ⟨y, hy⟩ : ∃ y, pkE s'.t s'.n l = y := ⟨_, rfl⟩
    have HY := Lib.hid hy
    rw [hy] at t1 ⊢
    clear hb2 hI2 hne HI HO1 hpk hy HR
    go_wp2_with fail
    refine leaves_cons (f := 29) (args := #[.pointer (some ⟨a.S, 0, none⟩)]) (by simp) (by simp [go_sem]) ?_
    refine (unlock_deferred muLib ⟨a.S, 0, none⟩ .returning _ c0 hz1).mono ?_
    rintro x u' w'' ⟨rfl, rfl, rfl⟩
    refine ⟨.tuple #[.int .u64 0, .int .i64 y], by simp [results, Try.results14, go_sem], ?_⟩
    exact ⟨by rw [HY.out], HI2.out.leave, HO2.out.set_ (S_mem a) 0 _⟩
  have H0 := Lib.hid h0
  have hM2 := Lib.hid (show SigMid w a s l msg p lv' W2 from ⟨HI.out.later hb2, hP, HO1.out.then_ hb2⟩)
  have hll := (pkE_spec h0).2.1
  have h9 := HOK.out.spec.2.2.1
  have hlen := lenC hP
  clear hb2 HI HO1 hpk hP h0 c2
  go_wp2_with fail
  refine hlen.mono ?_
  rintro x w' ⟨rfl, rfl⟩
  clear hlen
  go_wp2_with fail
  go_loopw [10, 39] (fun m i wr => ∃ k : Nat, k ≤ l.length ∧ i = .int .i64 k ∧ m = .int .i64 (mineP s.id l k) ∧ SigMid w a s l msg p lv' wr) (fun _ i _ => l.length - (intOf i).toNat)
  case atStart => exact ⟨0, by omega, rfl, rfl, hM2.out⟩
  case round =>
    obtain ⟨k, hk, rfl, rfl, hmid⟩ := hrel
    have HMID := Lib.hid hmid
    clear hmid hM2
    by_cases hlt : k < l.length
    · have hat := Lib.hid (fun wy hb => atX (HMID.out.later (wy := wy) hb).2.1 hlt)
      have hyes := Lib.hid (mineP_yes (id := s.id) (l := l) (k := k))
      have hno := Lib.hid (mineP_no (id := s.id) (l := l) (k := k))
      obtain ⟨c0, c2, c3, c4, c5⟩ := HMID.out.1.cells
      generalize (l.getD k .zero).id = X at *
      generalize (l.getD k .zero).d = D at *
      generalize (l.getD k .zero).e = E at *
      go_upto_region 10 with fail
      have hfd := run_id
      by_cases hX : X = s.id
      · have t1 : (X == s.id) = true := by rw [beq_iff_eq]; exact hX
        go_region_held3 (fun w' => w'.cell? ⟨a.S, 3, none⟩ = some (.int .i64 s.id)) (go_keep)
          (first | (go_at_call 34; refine (hat.out _ (Below.refl _ _).drew).mono ?_; rintro e w' ⟨rfl, rfl⟩))
        all_goals
          go_wp2_with fail
          exact ⟨⟨k + 1, by omega, by go_num, by rw [hyes.out hX], HMID.out.later (below_box wr _).drew⟩, by simp [intOf]; omega⟩
      · have t1 : (X == s.id) = false := by rw [beq_eq_false_iff_ne]; exact hX
        go_region_held3 (fun w' => w'.cell? ⟨a.S, 3, none⟩ = some (.int .i64 s.id)) (go_keep)
          (first | (go_at_call 34; refine (hat.out _ (Below.refl _ _).drew).mono ?_; rintro e w' ⟨rfl, rfl⟩))
        all_goals
          go_wp2_with fail
          exact ⟨⟨k + 1, by omega, by go_num, by rw [hno.out hX], HMID.out.later (below_box wr _).drew⟩, by simp [intOf]; omega⟩
    · obtain rfl : k = l.length := by omega
      clear hlt
      by_cases hneg : mineP s.id l l.length < 0
      case pos =>
        obtain ⟨rfl, rfl, rfl⟩ := rel_none HR.out H0.out hneg
        have t1 : decide (mineP s'.id l l.length < 0) = true := decide_eq_true hneg
        obtain ⟨c0, -⟩ := HMID.out.1.cells
        have hz1 := HMID.out.1.sg.frozen 0
        generalize mineP s'.id l l.length = m at *
        clear hneg HR
        go_wp2_with fail
        refine leaves_cons (f := 29) (args := #[.pointer (some ⟨a.S, 0, none⟩)]) (by simp) (by simp [go_sem]) ?_
        refine (unlock_deferred muLib ⟨a.S, 0, none⟩ .returning _ c0 hz1).mono ?_
        rintro x u' w'' ⟨rfl, rfl, rfl⟩
        refine ⟨.tuple #[.int .u64 0, .int .i64 10], by simp [results, Try.results14, go_sem], ?_⟩
        exact ⟨rfl, HMID.out.1.leave, HMID.out.2.2.set_ (S_mem a) 0 _⟩
      case neg =>
        obtain ⟨m, hml, hmm, hmi⟩ : ∃ m : Nat, m < l.length ∧ mineP s.id l l.length = m ∧ (l.getD m .zero).id = s.id := by
          rcases mineP_spec s.id l l.length with ⟨h1, _⟩ | h1
          · omega
          · exact h1
        have hgd := good_of H0.out
        have HMM := Lib.hid hmm
        have HGD := Lib.hid hgd
        rw [hmm]
        have hid9 := HOK.out.id9
        have hinj : ∀ q ∈ s.pl, ∀ q' ∈ s.pl, cmOf s.id q = cmOf s.id q' → q = q' := fun q h1 q' h2 h3 => cm_inj (HOK.out.sc q h1) (HOK.out.sc q' h2) h3
        have hft : Fits (l.getD m .zero) := by
          obtain ⟨⟨h1, h2⟩, -, ⟨h3, h4⟩, h5, h6⟩ := hgd m hml
          exact ⟨⟨by omega, by omega⟩, ⟨by omega, by omega⟩, by omega, by omega⟩
        obtain ⟨q, bh, hlook, hbh, hbq⟩ := look_any (M := a.M) hid9 hinj hft
        have HBH := Lib.hid hbh
        have HBQ := Lib.hid hbq
        have hat := fun wy hb => atX (HMID.out.later (wy := wy) hb).2.1 hml
        have hkv : keyV (l.getD m .zero) = .agg #[.int .i64 (l.getD m .zero).id, .int .u64 (l.getD m .zero).d, .int .u64 (l.getD m .zero).e] := rfl
        rw [hkv] at hlook
        have HI := HMID.out.1
        have hMw := HI.map
        obtain ⟨c0, c2, c3, c4, c5⟩ := HI.cells
        have hSz := HI.sg.lt
        have HAT := Lib.hid hat
        rw [hmi] at hlook HAT
        clear hmi hat
        obtain ⟨X, hX⟩ : ∃ X, s.id = X := ⟨_, rfl⟩
        rw [hX] at hlook HAT hMw
        obtain ⟨D, hD⟩ : ∃ D, (l.getD m .zero).d = D := ⟨_, rfl⟩
        obtain ⟨E, hE⟩ : ∃ E, (l.getD m .zero).e = E := ⟨_, rfl⟩
        rw [hD, hE] at hlook HAT
        have HX := Lib.hid hX
        have HD := Lib.hid hD
        have HE := Lib.hid hE
        clear hX hD hE hkv
        have hlk1 : (Instr.lookup 73 (.map (some a.M)) (.agg #[.int .i64 X, .int .u64 D, .int .u64 E]) true).run Try.prog (wr.alloc (.cells #[.int .i64 X, .int .u64 D, .int .u64 E] 37)).drew = .ok (.tuple #[.agg #[.int .u64 q.1, .int .u64 q.2], .bool bh]) (wr.alloc (.cells #[.int .i64 X, .int .u64 D, .int .u64 E] 37)).drew :=
          hlook _ (hMw.of_block (heap_alloc_old wr _ hMw.lt))
        have hlk2 : (Instr.lookup 73 (.map (some a.M)) (.agg #[.int .i64 X, .int .u64 D, .int .u64 E]) true).run Try.prog ((wr.alloc (.cells #[.int .i64 X, .int .u64 D, .int .u64 E] 37)).alloc (.cells #[.int .u64 0, .int .u64 0] 88)).drew = .ok (.tuple #[.agg #[.int .u64 q.1, .int .u64 q.2], .bool bh]) ((wr.alloc (.cells #[.int .i64 X, .int .u64 D, .int .u64 E] 37)).alloc (.cells #[.int .u64 0, .int .u64 0] 88)).drew :=
          hlook _ (hMw.of_block ((heap_alloc_old (wr.alloc _) _ (by have := hMw.lt; simp; omega)).trans (heap_alloc_old wr _ hMw.lt)))
        have hlk3 : (Instr.lookup 73 (.map (some a.M)) (.agg #[.int .i64 X, .int .u64 D, .int .u64 E]) true).run Try.prog ((wr.alloc (.cells #[.int .u64 0, .int .u64 0] 88)).alloc (.cells #[.int .i64 X, .int .u64 D, .int .u64 E] 37)).drew = .ok (.tuple #[.agg #[.int .u64 q.1, .int .u64 q.2], .bool bh]) ((wr.alloc (.cells #[.int .u64 0, .int .u64 0] 88)).alloc (.cells #[.int .i64 X, .int .u64 D, .int .u64 E] 37)).drew :=
          hlook _ (hMw.of_block ((heap_alloc_old (wr.alloc _) _ (by have := hMw.lt; simp; omega)).trans (heap_alloc_old wr _ hMw.lt)))
        have t1 : decide ((m : Int) < 0) = false := decide_eq_false (by omega)
        have hfA : wr.heap.size ∉ a.foot ∧ wr.heap.size + 1 ∉ a.foot := ⟨fun hk => by have := HMID.out.1.leave.lt _ hk; simp at this, fun hk => by have := HMID.out.1.leave.lt _ hk; simp at this; omega⟩
        have hbA : ∀ x y : Obj, Below wr.heap.size wr ((wr.alloc x).alloc y).drew := fun x y => ((below_box wr x).alloc (by simp) y).drew
        have hkA : Blk ((wr.alloc (.cells #[.int .i64 X, .int .u64 D, .int .u64 E] 37)).alloc (.cells #[.int .u64 q.1, .int .u64 q.2] 88)).drew (wr.heap.size + 1) 88 #[.int .u64 q.1, .int .u64 q.2] := blk_new' _ _ (by simp)
        have hkB : Blk ((wr.alloc (.cells #[.int .u64 q.1, .int .u64 q.2] 88)).alloc (.cells #[.int .i64 X, .int .u64 D, .int .u64 E] 37)).drew wr.heap.size 88 #[.int .u64 q.1, .int .u64 q.2] := (blk_new' (w := wr) 88 _ rfl).below ((below_box _ _).drew) (by simp)
        have HFA := Lib.hid hfA
        have HBA := Lib.hid hbA
        have HKA := Lib.hid hkA
        have HKB := Lib.hid hkB
        clear hfA hbA hkA hkB
        clear hlook hbh hbq HI hMw hft hinj hmm hgd c0 c2 c3 c4 hneg
        go_upto_region 15 with fail
        go_cut [12, 13] from 55 to 66 (fun pp b wx => ∃ PB, PB ∉ a.foot ∧ pp = .pointer (some ⟨PB, 0, none⟩) ∧ b = .bool bh ∧ Blk wx PB 88 #[.int .u64 q.1, .int .u64 q.2] ∧ SigMid w a s l msg p lv' wx)
        case first =>
          go_region_held3 (fun w' => w'.cell? ⟨a.S, 5, none⟩ = some (.map (some a.M))) (go_keep)
            (first | (go_at_call 34; refine (HAT.out _ (by first | exact (Below.refl _ _).drew | exact (below_box _ _).drew)).mono ?_; rintro e w' ⟨rfl, rfl⟩))
          all_goals
            go_wp2_with fail
            go_meet
            first
              | exact ⟨_, HFA.out.2, rfl, rfl, HKA.out, HMID.out.later (HBA.out _ _)⟩
              | exact ⟨_, HFA.out.1, rfl, rfl, HKB.out, HMID.out.later (HBA.out _ _)⟩
        case rest =>
          obtain ⟨PB, hPB, rfl, rfl, hblk, hmid⟩ := hcut
          rename World => W6
          have HMID6 := Lib.hid hmid
          have HBLK := Lib.hid hblk
          have HPB := Lib.hid hPB
          clear hlk1 hlk2 hlk3 HFA HBA HKA HKB HMID HAT c5 hmid hblk hPB hSz HX HD HE
          cases bh
          case false =>
            obtain ⟨rfl, rfl, rfl⟩ := rel_lost HR.out H0.out HMM.out (fun ⟨q', h1, h2⟩ => by have := HBH.out.2 ⟨q', h1, h2⟩; cases this)
            obtain ⟨c0, -⟩ := HMID6.out.1.cells
            have hz1 := HMID6.out.1.sg.frozen 0
            clear HR
            go_wp2_with fail
            refine leaves_cons (f := 29) (args := #[.pointer (some ⟨a.S, 0, none⟩)]) (by simp) (by simp [go_sem]) ?_
            refine (unlock_deferred muLib ⟨a.S, 0, none⟩ .returning _ c0 hz1).mono ?_
            rintro x u' w'' ⟨rfl, rfl, rfl⟩
            refine ⟨.tuple #[.int .u64 0, .int .i64 10], by simp [results, Try.results14, go_sem], ?_⟩
            exact ⟨rfl, HMID6.out.1.leave, HMID6.out.2.2.set_ (S_mem a) 0 _⟩
          case true =>
            obtain ⟨hq1, hq2⟩ := HBQ.out rfl
            obtain ⟨j, hj, hways⟩ := rel_hit HR.out HOK.out H0.out HMM.out hq1 hq2
            have hsp := HOK.out.spec
            obtain ⟨hcl, hc0⟩ := HOK.out.key
            have hl9 : l.length ≤ 9 := by omega
            have hall := Lib.hid (fun r x => allC HMID6.out.2.1 HGD.out hsp.2.2.1 hl9 hcl ⟨by omega, by omega⟩ hms r x)
            have HJ := Lib.hid hj
            have HQ1 := Lib.hid hq1
            have HQ2 := Lib.hid hq2
            have HCL := Lib.hid hcl
            have HC0 := Lib.hid hc0
            have h9' := Lib.hid hsp.2.2.1
            clear hq1 hq2 hj hsp hcl hc0 HBQ HBH HR
            rcases hways with ⟨ha, rfl, rfl, rfl⟩ | ⟨ha, hv, rfl, rfl⟩
            · have hall' := Lib.hid (hall.out 0 11 (.inl ⟨ha, rfl, rfl⟩))
              clear ha hall
              go_wp2_with fail
              refine hall'.out.mono ?_
              rintro x W7 ⟨rfl, hb7⟩
              have HMID7 := Lib.hid (HMID6.out.later hb7)
              obtain ⟨c0, -⟩ := HMID7.out.1.cells
              have hz1 := HMID7.out.1.sg.frozen 0
              clear hb7 hall'
              go_wp2_with fail
              refine leaves_cons (f := 29) (args := #[.pointer (some ⟨a.S, 0, none⟩)]) (by simp) (by simp [go_sem]) ?_
              refine (unlock_deferred muLib ⟨a.S, 0, none⟩ .returning _ c0 hz1).mono ?_
              rintro x u' w'' ⟨rfl, rfl, rfl⟩
              refine ⟨.tuple #[.int .u64 0, .int .i64 11], by simp [results, Try.results14, go_sem], ?_⟩
              exact ⟨rfl, HMID7.out.1.leave, HMID7.out.2.2.set_ (S_mem a) 0 _⟩
            · have hall' := Lib.hid (hall.out _ 0 (.inr ⟨ha, rfl, rfl⟩))
              have HV := Lib.hid hv
              clear ha hall hv
              have hrb : 0 ≤ allP l (s.cs.getD 0 0) msg ∧ allP l (s.cs.getD 0 0) msg < 2147483579 := by rw [allP_eq]; exact allR_bd _ _ _ _
              obtain ⟨R, hR⟩ : ∃ R, allP l (s.cs.getD 0 0) msg = R := ⟨_, rfl⟩
              rw [hR] at hall' hrb
              have HRR := Lib.hid hR
              clear hR
              go_wp2_with fail
              refine hall'.out.mono ?_
              rintro x W7 ⟨rfl, hb7⟩
              have HMID7 := Lib.hid (HMID6.out.later hb7)
              have HBLK7 := Lib.hid (HBLK.out.below hb7 HBLK.out.lt)
              clear hb7 hall' HMID6 HBLK
              have hat := Lib.hid (fun wy hb => atX (HMID7.out.later (wy := wy) hb).2.1 hml)
              obtain ⟨c0, c2, c3, c4, c5⟩ := HMID7.out.1.cells
              have hM7 := HMID7.out.1.map
              have hSz := HMID7.out.1.sg.lt
              have hbx7 : Below W7.heap.size W7 (W7.alloc (.cells #[.int .i64 (l.getD m .zero).id, .int .u64 (l.getD m .zero).d, .int .u64 (l.getD m .zero).e] 37)).drew := (below_box W7 _).drew
              obtain ⟨W8, hst, hM8, hg8⟩ := run_strike (hM7.of_block (hbx7.block _ hM7.lt)) hid9 HJ.out (fun i q' h1 h2 => HOK.out.at_key HJ.out i q' h1 h2) 0
              have hmid8 := HMID7.out.later hbx7
              obtain ⟨es8, cl8, hmo8, -⟩ := hmid8.1.map
              have hPK8 := Pk.grownM hmid8.2.1 hmo8 hg8
              have hI8 := sgIn_map hmid8.1 hg8 hM8
              have hO8 := hmid8.2.2.grown (M_mem a) hg8
              have hB8 := (HBLK7.out.below hbx7 HBLK7.out.lt).grown hg8 (by simp; exact fun e => HPB.out (e ▸ M_mem a))
              have HM8 := Lib.hid (show SigMid w a { s with pl := s.pl.eraseIdx j } l msg p lv' W8 from ⟨hI8, hPK8, hO8⟩)
              have HB8 := Lib.hid hB8
              have x5 := hI8.cells.2.2.2.2
              rw [HQ2.out] at hst
              have hst' : (Builtin.delete_ #[73, 37] 0 #[.map (some a.M), .agg #[.int .i64 (l.getD m .zero).id, .int .u64 (l.getD m .zero).d, .int .u64 (l.getD m .zero).e]]).run Try.prog (W7.alloc (.cells #[.int .i64 (l.getD m .zero).id, .int .u64 (l.getD m .zero).d, .int .u64 (l.getD m .zero).e] 37)).drew = .ok (.tuple #[]) W8 := hst
              clear hst hM8 hg8 hmid8 hmo8 hPK8 hI8 hO8 hB8 hbx7 hM7 c0 c2 c3 c4
              generalize (l.getD m .zero).id = X at *
              generalize (l.getD m .zero).d = D at *
              generalize (l.getD m .zero).e = E at *
              go_upto_region 21 with fail
              go_cut [14] from 76 to 83 (fun r wx => r = .int .u64 R ∧ Blk wx PB 88 #[.int .u64 q.1, .int .u64 q.2] ∧ SigMid w a { s with pl := s.pl.eraseIdx j } l msg p lv' wx)
              case first =>
                go_region_held3 (fun w' => w'.cell? ⟨a.S, 5, none⟩ = some (.map (some a.M))) (first | go_keep | exact x5)
                  (first | (go_at_call 34; refine (hat.out _ (Below.refl _ _).drew).mono ?_; rintro e w' ⟨rfl, rfl⟩))
                all_goals
                  go_wp2_with fail
                  go_meet
                  exact ⟨rfl, HB8.out, HM8.out⟩
              case rest =>
                obtain ⟨rfl, hB9, hM9⟩ := hcut
                rename World => W9
                have HM9 := Lib.hid hM9
                have HB9 := Lib.hid hB9
                clear c5 x5 hst' hSz HM8 HB8 HMID7 HBLK7 hat hB9 hM9
                have hst9 : ∀ q ∈ s.pl, _ := HOK.out.sc
                obtain ⟨⟨qd0, qd1⟩, qe0, qe1⟩ := hst9 q HQ1.out
                have b0 : W9.cell? ⟨PB, 0, none⟩ = some (.int .u64 q.1) := HB9.out.cell 0
                have b1 : W9.cell? ⟨PB, 1, none⟩ = some (.int .u64 q.2) := HB9.out.cell 1
                have hPB9 := HB9.out.lt
                have hM9d := HM9.out.later (Below.refl _ _).drew
                have hbi := Lib.hid (bindC hM9d.2.1 HGD.out h9'.out hl9 HCL.out ⟨by have := HC0.out; show 0 ≤ s.cs.getD 0 0; omega, by have := HC0.out; show s.cs.getD 0 0 < _; omega⟩ hms hml)
                have HM9d := Lib.hid hM9d
                clear hM9d hst9
                have hbv : Hid (shareP s msg l m q = sadd (sadd q.1 (smul q.2 (bindP l (s.cs.getD 0 0) msg m))) (smul (smul (lagrange (idsOf l l.length) m) s.share) (chal R (s.cs.getD 0 0) msg))) := by
                  show shareP s msg l m q = _
                  rw [← HRR.out]; rfl
                generalize bindP l (s.cs.getD 0 0) msg m = Bd at *
                go_upto_region 22 with fail
                go_cut [14, 15] from 83 to 92 (fun r z wx => r = .int .u64 R ∧ z = .int .u64 (sadd q.1 (smul q.2 Bd)) ∧ SigMid w a { s with pl := s.pl.eraseIdx j } l msg p lv' wx)
                case first =>
                  go_region_held3 (fun w' => w'.cell? ⟨PB, 0, none⟩ = some (.int .u64 q.1) ∧ w'.cell? ⟨PB, 1, none⟩ = some (.int .u64 q.2))
                    (first | go_keep | (exact ⟨(hb1.cell (p := ⟨PB, 0, none⟩) hPB9).trans b0, (hb1.cell (p := ⟨PB, 1, none⟩) hPB9).trans b1⟩))
                    (first | (go_at_call 38; refine hbi.out.mono ?_; rintro e W10 ⟨rfl, hb1⟩) | (go_at_call 37; refine (stimes _ _ _).mono ?_; rintro e w' ⟨rfl, rfl⟩) | (go_at_call 36; refine (splus _ _ _).mono ?_; rintro e w' ⟨rfl, rfl⟩))
                  all_goals
                    go_wp2_with fail
                    go_meet
                    exact ⟨rfl, rfl, HM9d.out.later hb1⟩
                case rest =>
                  obtain ⟨rfl, rfl, hM10⟩ := hcut
                  rename World => W10
                  have HM10 := Lib.hid hM10
                  clear b0 b1 hPB9 hbi HM9d HB9 HM9 hM10
                  obtain ⟨c0, c2, c3, c4, c5⟩ := HM10.out.1.cells
                  clear c0 c3 c5
                  have hkey := Lib.hid (keyC HM10.out.2.1.grp HM10.out.2.1.own HCL.out)
                  obtain ⟨K, hK⟩ : ∃ K, s.cs.getD 0 0 = K := ⟨_, rfl⟩
                  have HK := Lib.hid hK
                  have hKb : 0 ≤ K ∧ K < 18446744073709551616 := by have h1 := HC0.out; rw [hK] at h1; omega
                  have hkey2 : Calls Try.prog 40 #[.pointer (some ⟨a.g, 0, none⟩)] W10 fun e w' => e = .returned (.int .u64 K) ∧ W10 = w' := by rw [← hK]; exact hkey.out
                  have hch := Lib.hid (challengeC R K msg W10 hms ⟨by omega, by omega⟩ hKb)
                  rw [hK] at hbv
                  have HBV := Lib.hid hbv.out
                  have HKEY2 := Lib.hid hkey2
                  clear hK hbv hKb hkey hkey2 hrb
                  go_upto_region 24 with (first | (go_at_call 40; refine HKEY2.out.mono ?_; rintro e w' ⟨rfl, rfl⟩) | (go_at_call 39; refine hch.out.mono ?_; rintro e W11 ⟨rfl, hb11⟩))
                  have hM11 := HM10.out.later hb11
                  have HM11 := Lib.hid hM11
                  have x4 := hM11.1.cells.2.2.2.1
                  have hM11d := hM11.later (Below.refl _ _).drew
                  have hSz11 := hM11.1.sg.lt
                  have hwt := Lib.hid (pkgWeightC hM11d.2.1 hl9 hml)
                  have HM11d := Lib.hid hM11d
                  clear hM11 hM11d hch HKEY2 c2 hb11 HM10
                  generalize lagrange (idsOf l l.length) m = L at *
                  generalize chal R K msg = C at *
                  go_cut [6, 7] from 100 to 111 (fun z e wx => z = .int .u64 (sadd (sadd q.1 (smul q.2 Bd)) (smul (smul L s.share) C)) ∧ e = .int .i64 0 ∧ SigMid w a { s with pl := s.pl.eraseIdx j } l msg p lv' wx)
                  case first =>
                    go_region_held3 (fun w' => w'.cell? ⟨a.S, 4, none⟩ = some (.int .u64 s.share))
                      (first | go_keep | (exact (hb1.cell (p := ⟨a.S, 4, none⟩) hSz11).trans x4))
                      (first | (go_at_call 41; refine hwt.out.mono ?_; rintro e W12 ⟨rfl, hb1⟩) | (go_at_call 37; refine (stimes _ _ _).mono ?_; rintro e w' ⟨rfl, rfl⟩) | (go_at_call 36; refine (splus _ _ _).mono ?_; rintro e w' ⟨rfl, rfl⟩))
                    all_goals
                      go_wp2_with fail
                      go_meet
                      exact ⟨rfl, rfl, HM11d.out.later hb1⟩
                  case rest =>
                    obtain ⟨rfl, rfl, hM12⟩ := hcut
                    rename World => W12
                    have HM12 := Lib.hid hM12
                    obtain ⟨c0, -⟩ := hM12.1.cells
                    have hz1 := hM12.1.sg.frozen 0
                    clear hM12 HM11 HM11d hwt x4 hSz11
                    go_wp2_with fail
                    refine leaves_cons (f := 29) (args := #[.pointer (some ⟨a.S, 0, none⟩)]) (by simp) (by simp [go_sem]) ?_
                    refine (unlock_deferred muLib ⟨a.S, 0, none⟩ .returning _ c0 hz1).mono ?_
                    rintro x u' w'' ⟨rfl, rfl, rfl⟩
                    refine ⟨.tuple #[.int .u64 (sadd (sadd q.1 (smul q.2 Bd)) (smul (smul L s.share) C)), .int .i64 0], by simp [results, Try.results14, go_sem], ?_⟩
                    exact ⟨by rw [HV.out, HBV.out], HM12.out.1.leave, HM12.out.2.2.set_ (S_mem a) 0 _⟩
end Go.Proofs.Ytpfpokjaeffbjab.Sgn
