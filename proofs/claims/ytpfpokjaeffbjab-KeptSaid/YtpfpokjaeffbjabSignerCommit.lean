/- The program's signers: Commit. -/
import Derived.Test.YtpfpokjaeffbjabSigner
namespace Go.Proofs.Ytpfpokjaeffbjab.Sgn
open Go.RowKit Go.MuLone Go.Conc.Locks Go.Proofs.Ytpfpokjaeffbjab.Pl Go.Proofs.Ytpfpokjaeffbjab.Dpl Go.Proofs.Ytpfpokjaeffbjab.Gpl Go.Proofs.Ytpfpokjaeffbjab.Kpl Go.Proofs.Ytpfpokjaeffbjab.Fld Go.Proofs.Ytpfpokjaeffbjab.Mem Go.Proofs.Ytpfpokjaeffbjab.Mpp Go.Proofs.Ytpfpokjaeffbjab.Spl Go.Proofs.Ytpfpokjaeffbjab.Ver Go.Proofs.Ytpfpokjaeffbjab.Grp Go.Proofs.Ytpfpokjaeffbjab.Gof Go.Proofs.Ytpfpokjaeffbjab.Chk Go.Proofs.Ytpfpokjaeffbjab.Lck
set_option linter.unusedVariables false

theorem sgIn_map {w w' : World} {a : Loc} {s : St} {pl : List (Int × Int)} (h : SgIn w a s) (hg : w.grownBy w' (some a.M)) (hM : MapAt w' a.M s.id pl) : SgIn w' a { s with pl := pl } := by
  obtain ⟨n1, n2, n3, n4, n5⟩ := h.leave.apart
  have hlt : ∀ k ∈ a.foot, k < w.heap.size := fun k hk => h.leave.lt k hk |> fun h => by simpa using h
  have hb : ∀ k, k < w.heap.size → k ≠ a.M → w'.heap[k]? = w.heap[k]? := fun k hk hne => hg.block k hk (by simp; exact hne)
  refine ⟨h.sg.grown hg (by simp; exact n3), h.grp.grown hg (by simp; exact n4), own_block h.own (hb _ (hlt _ (by simp [Loc.foot])) n5), hM⟩
/-- The state midway: the lock held, the result's variable zero, the commitment in its variable. -/
def ComMid (w : World) (a : Loc) (s : St) (d e : Int) (B : Nat) (wx : World) : Prop :=
  SgIn wx a s ∧ Blk wx w.heap.size 37 #[.int .i64 0, .int .u64 0, .int .u64 0] ∧ Blk wx B 37 #[.int .i64 s.id, .int .u64 (pw 4 d.toNat 2147483579), .int .u64 (pw 4 e.toNat 2147483579)] ∧ Only a.foot w wx

set_option maxRecDepth 100000 in
set_option maxHeartbeats 8000000 in
theorem commitC (w : World) (a : Loc) (s : St) (d e : Int) (h : SgAt w a s) (hok : Ok s) (hd : 0 ≤ d ∧ d < 18446744073709551616) (he : 0 ≤ e ∧ e < 18446744073709551616) :
    Calls Try.prog 13 #[.pointer (some ⟨a.S, 0, none⟩), .int .u64 d, .int .u64 e] w fun x w' => x = .returned (.tuple #[keyV (comC s d e), .int .i64 (comE s d e)]) ∧ SgAt w' a (comSt s d e) ∧ Only a.foot w w' := by
  have hbox := below_box w (.cells #[.int .i64 0, .int .u64 0, .int .u64 0] 37)
  have hA : SgAt (w.alloc (.cells #[.int .i64 0, .int .u64 0, .int .u64 0] 37)) a s := h.keep fun k hk => hbox.block k (h.lt k hk)
  have hR0 : Blk (w.alloc (.cells #[.int .i64 0, .int .u64 0, .int .u64 0] 37)) w.heap.size 37 #[.int .i64 0, .int .u64 0, .int .u64 0] := Blk.new _ _ _
  have hRf : w.heap.size ∉ a.foot := fun hk => by have := h.lt _ hk; omega
  have hRs : a.S ≠ w.heap.size := fun e => hRf (e ▸ S_mem a)
  have h0 : (w.alloc (.cells #[.int .i64 0, .int .u64 0, .int .u64 0] 37)).cell? ⟨a.S, 0, none⟩ = some (.int .i32 0) := hA.sg.cell 0
  have hz := hA.sg.frozen 0
  have hI := hA.enter
  have hR1 := hR0.far (p := ⟨a.S, 0, none⟩) (Ne.symm hRs) (.int .i32 1)
  have hlk := lock_free muLib ⟨a.S, 0, none⟩ _ h0 hz
  have hO1 := ((Only.refl a.foot w).alloc (.cells #[.int .i64 0, .int .u64 0, .int .u64 0] 37)).set_ (S_mem a) 0 (.int .i32 1)
  have HLK := Lib.hid hlk
  have HI := Lib.hid hI
  have HR1 := Lib.hid hR1
  have HO1 := Lib.hid hO1
  have HRF := Lib.hid hRf
  have HOK := Lib.hid hok
  have hid9 := hok.id9
  have hinj : ∀ q ∈ s.pl, ∀ q' ∈ s.pl, cmOf s.id q = cmOf s.id q' → q = q' := fun q h1 q' h2 h3 => cm_inj (hok.sc q h1) (hok.sc q' h2) h3
  have HINJ := Lib.hid hinj
  obtain ⟨hd0, hd1⟩ := hd
  obtain ⟨he0, he1⟩ := he
  have hszR : w.heap.size < ((w.alloc (.cells #[.int .i64 0, .int .u64 0, .int .u64 0] 37)).setCell ⟨a.S, 0, none⟩ (.int .i32 1)).heap.size := by simp
  obtain ⟨c0, c2, c3, c4, c5⟩ := hI.cells
  clear h hok hbox hA hR0 hRf h0 hz hI hR1 hlk hO1 hinj c0 c2 c4
  go_enter_defers Try.func13, Try.ntmps13
  go_wp2_with (go_at_call 28; refine HLK.out.mono ?_; rintro e w' ⟨rfl, rfl⟩)
  obtain ⟨b1, e1⟩ : ∃ b, decide (d < 1073741789) = b := ⟨_, rfl⟩
  obtain ⟨b2, e2⟩ : ∃ b, decide (e < 1073741789) = b := ⟨_, rfl⟩
  have E1 := Lib.hid e1
  have E2 := Lib.hid e2
  clear e1 e2 HLK
  generalize (w.alloc (.cells #[.int .i64 0, .int .u64 0, .int .u64 0] 37)).setCell ⟨a.S, 0, none⟩ (.int .i32 1) = W1 at *
  refine (scIs b1 d _ E1.out).mono ?_
  rintro x w' ⟨rfl, rfl⟩
  go_wp2_with fail
  refine (scIs b2 e _ E2.out).mono ?_
  rintro x w' ⟨rfl, rfl⟩
  have hB5 : W1.heap.size ∉ a.foot := fun hk => by
    have h1 : ∀ k ∈ a.foot, k < W1.heap.size := fun k hk => HI.out.leave.lt k hk |> fun h => by simpa using h
    exact Nat.lt_irrefl _ (h1 _ hk)
  go_upto_region 5 with fail
  go_cut [12] from 32 to 40 (fun p wx => p = .pointer (some ⟨W1.heap.size, 0, none⟩) ∧ ComMid w a s d e W1.heap.size wx ∧ W1.heap.size < wx.heap.size)
  case first =>
    go_region_held3 (fun w' => w'.cell? ⟨a.S, 3, none⟩ = some (.int .i64 s.id)) (go_keep)
      (first | (go_at_call 31; refine (baseI _ _ (by first | exact hd0 | exact he0) (by first | exact hd1 | exact he1)).mono ?_; rintro x w' ⟨rfl, rfl⟩))
    all_goals
      have hbx5 : Below W1.heap.size W1 (W1.alloc (.cells #[.int .i64 s.id, .int .u64 (pw 4 d.toNat 2147483579), .int .u64 (pw 4 e.toNat 2147483579)] 37)).drew := (below_box _ _).drew
      go_wp2_with fail
      go_meet
      exact ⟨rfl, ⟨HI.out.later hbx5, HR1.out.below hbx5 HR1.out.lt, Blk.new _ _ _, HO1.out.then_ hbx5⟩, by simp⟩
  case rest =>
    obtain ⟨rfl, ⟨hI5, hR5, hC5, hO5⟩, hsz5⟩ := hcut
    rename World => W5
    obtain ⟨q, bh, hlook, hbh, -⟩ := look_any (M := a.M) hid9 HINJ.out (fits_of hid9 (d, e))
    have hM5 := hI5.map
    have hlk1 : (Instr.lookup 73 (.map (some a.M)) (.agg #[.int .i64 s.id, .int .u64 (pw 4 d.toNat 2147483579), .int .u64 (pw 4 e.toNat 2147483579)]) true).run Try.prog W5.drew = .ok (.tuple #[.agg #[.int .u64 q.1, .int .u64 q.2], .bool bh]) W5.drew := hlook W5.drew hM5
    have hlk2 : (Instr.lookup 73 (.map (some a.M)) (.agg #[.int .i64 s.id, .int .u64 (pw 4 d.toNat 2147483579), .int .u64 (pw 4 e.toNat 2147483579)]) true).run Try.prog (W5.alloc (.cells #[.int .u64 0, .int .u64 0] 88)).drew = .ok (.tuple #[.agg #[.int .u64 q.1, .int .u64 q.2], .bool bh]) (W5.alloc (.cells #[.int .u64 0, .int .u64 0] 88)).drew :=
      hlook _ (hM5.of_block (heap_alloc_old W5 _ hM5.lt))
    have hS5 := hI5.sg.lt
    have hpb : ∀ o : Array Value, Below W5.heap.size W5 (W5.alloc (.cells o 88)).drew := fun o => (below_box _ _).drew
    have HPB := Lib.hid hpb
    obtain ⟨f0, f2, f3, f4, f5⟩ := hI5.cells
    have g0 : W5.cell? ⟨W1.heap.size, 0, none⟩ = some (.int .i64 s.id) := hC5.cell 0
    have g1 : W5.cell? ⟨W1.heap.size, 1, none⟩ = some (.int .u64 (pw 4 d.toNat 2147483579)) := hC5.cell 1
    have g2 : W5.cell? ⟨W1.heap.size, 2, none⟩ = some (.int .u64 (pw 4 e.toNat 2147483579)) := hC5.cell 2
    have HI5 := Lib.hid hI5
    have HR5 := Lib.hid hR5
    have HC5 := Lib.hid hC5
    have HO5 := Lib.hid hO5
    have HBH := Lib.hid hbh
    clear hI5 hR5 hC5 hO5 hbh hlook c3 c5 HI HR1 HO1 f0 f2 f4 hpb hM5
    go_upto_region 6 with fail
    go_cut [13, 14] from 41 to 49 (fun pp p wx => p = .bool bh ∧ ComMid w a s d e W1.heap.size wx)
    case first =>
      go_region
      all_goals
        go_wp2_with fail
        go_meet
        exact ⟨rfl, HI5.out.later (HPB.out _), HR5.out.below (HPB.out _) HR5.out.lt, HC5.out.below (HPB.out _) HC5.out.lt, HO5.out.then_ (HPB.out _)⟩
    case rest =>
      obtain ⟨rfl, hI6, hR6, hC6, hO6⟩ := hcut
      clear hlk1 hlk2 hS5 f3 f5 g0 g1 g2 HI5 HR5 HC5 HO5 HPB
      rename World => W6
      have r0 : W6.cell? ⟨w.heap.size, 0, none⟩ = some (.int .i64 0) := hR6.cell 0
      have r1 : W6.cell? ⟨w.heap.size, 1, none⟩ = some (.int .u64 0) := hR6.cell 1
      have r2 : W6.cell? ⟨w.heap.size, 2, none⟩ = some (.int .u64 0) := hR6.cell 2
      have z0 := hR6.frozen 0
      have z1 := hR6.frozen 1
      have z2 := hR6.frozen 2
      have HI6 := Lib.hid hI6
      have HR6 := Lib.hid hR6
      have HC6 := Lib.hid hC6
      have HO6 := Lib.hid hO6
      have hq0 := hO6.size
      clear hI6 hR6 hC6 hO6
      cases b1
      case false =>
        have hE := Lib.hid (comE_sc (s := s) (d := d) (e := e) (.inr (.inr (.inl (by have := E1.out; rw [decide_eq_false_iff_not] at this; omega)))))
        go_wp2_with fail
        have hIe := sgIn_set3 HI6.out HRF.out (.int .i64 0) (.int .u64 0) (.int .u64 0)
        have hRe := blk3 HR6.out (.int .i64 0) (.int .u64 0) (.int .u64 0)
        have hOe := ((HO6.out.new_ (Nat.le_refl w.heap.size) 0 (.int .i64 0)).new_ (Nat.le_refl w.heap.size) 1 (.int .u64 0)).new_ (Nat.le_refl w.heap.size) 2 (.int .u64 0)
        generalize (((W6.setCell ⟨w.heap.size, 0, none⟩ (.int .i64 0)).setCell ⟨w.heap.size, 1, none⟩ (.int .u64 0)).setCell ⟨w.heap.size, 2, none⟩ (.int .u64 0)) = W7 at *
        have hRl := hRe.far (p := ⟨a.S, 0, none⟩) (Ne.symm hRs) (.int .i32 0)
        have x0 : (W7.setCell ⟨a.S, 0, none⟩ (.int .i32 0)).cell? ⟨w.heap.size, 0, none⟩ = some (.int .i64 0) := hRl.cell 0
        have x1 : (W7.setCell ⟨a.S, 0, none⟩ (.int .i32 0)).cell? ⟨w.heap.size, 1, none⟩ = some (.int .u64 0) := hRl.cell 1
        have x2 : (W7.setCell ⟨a.S, 0, none⟩ (.int .i32 0)).cell? ⟨w.heap.size, 2, none⟩ = some (.int .u64 0) := hRl.cell 2
        refine leaves_cons (f := 29) (args := #[.pointer (some ⟨a.S, 0, none⟩)]) (by simp) (by simp [go_sem]) ?_
        refine (unlock_deferred muLib ⟨a.S, 0, none⟩ .returning _ hIe.cells.1 (hIe.sg.frozen 0)).mono ?_
        rintro x u' w'' ⟨rfl, rfl, rfl⟩
        refine ⟨.tuple #[.agg #[.int .i64 0, .int .u64 0, .int .u64 0], .int .i64 2], by simp [results, Try.results13, go_sem, x0, x1, x2], ?_⟩
        have hcb := com_bad (s := s) (d := d) (e := e) (by rw [hE.out]; omega)
        exact ⟨by rw [hcb.2, hE.out]; rfl, by rw [hcb.1]; exact hIe.leave, hOe.set_ (S_mem a) 0 _⟩
      cases b2
      case false =>
        have hE := Lib.hid (comE_sc (s := s) (d := d) (e := e) (.inr (.inr (.inr (by have := E2.out; rw [decide_eq_false_iff_not] at this; omega)))))
        go_wp2_with fail
        have hIe := sgIn_set3 HI6.out HRF.out (.int .i64 0) (.int .u64 0) (.int .u64 0)
        have hRe := blk3 HR6.out (.int .i64 0) (.int .u64 0) (.int .u64 0)
        have hOe := ((HO6.out.new_ (Nat.le_refl w.heap.size) 0 (.int .i64 0)).new_ (Nat.le_refl w.heap.size) 1 (.int .u64 0)).new_ (Nat.le_refl w.heap.size) 2 (.int .u64 0)
        generalize (((W6.setCell ⟨w.heap.size, 0, none⟩ (.int .i64 0)).setCell ⟨w.heap.size, 1, none⟩ (.int .u64 0)).setCell ⟨w.heap.size, 2, none⟩ (.int .u64 0)) = W7 at *
        have hRl := hRe.far (p := ⟨a.S, 0, none⟩) (Ne.symm hRs) (.int .i32 0)
        have x0 : (W7.setCell ⟨a.S, 0, none⟩ (.int .i32 0)).cell? ⟨w.heap.size, 0, none⟩ = some (.int .i64 0) := hRl.cell 0
        have x1 : (W7.setCell ⟨a.S, 0, none⟩ (.int .i32 0)).cell? ⟨w.heap.size, 1, none⟩ = some (.int .u64 0) := hRl.cell 1
        have x2 : (W7.setCell ⟨a.S, 0, none⟩ (.int .i32 0)).cell? ⟨w.heap.size, 2, none⟩ = some (.int .u64 0) := hRl.cell 2
        refine leaves_cons (f := 29) (args := #[.pointer (some ⟨a.S, 0, none⟩)]) (by simp) (by simp [go_sem]) ?_
        refine (unlock_deferred muLib ⟨a.S, 0, none⟩ .returning _ hIe.cells.1 (hIe.sg.frozen 0)).mono ?_
        rintro x u' w'' ⟨rfl, rfl, rfl⟩
        refine ⟨.tuple #[.agg #[.int .i64 0, .int .u64 0, .int .u64 0], .int .i64 2], by simp [results, Try.results13, go_sem, x0, x1, x2], ?_⟩
        have hcb := com_bad (s := s) (d := d) (e := e) (by rw [hE.out]; omega)
        exact ⟨by rw [hcb.2, hE.out]; rfl, by rw [hcb.1]; exact hIe.leave, hOe.set_ (S_mem a) 0 _⟩
      have hdq := E1.out
      have heq := E2.out
      rw [decide_eq_true_iff] at hdq heq
      by_cases hdz : d = 0
      case pos =>
        have hE := Lib.hid (comE_sc (s := s) (d := d) (e := e) (.inl hdz))
        have t1 : (d == 0) = true := by rw [beq_iff_eq]; exact hdz
        clear hdz hdq heq
        go_wp2_with fail
        have hIe := sgIn_set3 HI6.out HRF.out (.int .i64 0) (.int .u64 0) (.int .u64 0)
        have hRe := blk3 HR6.out (.int .i64 0) (.int .u64 0) (.int .u64 0)
        have hOe := ((HO6.out.new_ (Nat.le_refl w.heap.size) 0 (.int .i64 0)).new_ (Nat.le_refl w.heap.size) 1 (.int .u64 0)).new_ (Nat.le_refl w.heap.size) 2 (.int .u64 0)
        generalize (((W6.setCell ⟨w.heap.size, 0, none⟩ (.int .i64 0)).setCell ⟨w.heap.size, 1, none⟩ (.int .u64 0)).setCell ⟨w.heap.size, 2, none⟩ (.int .u64 0)) = W7 at *
        have hRl := hRe.far (p := ⟨a.S, 0, none⟩) (Ne.symm hRs) (.int .i32 0)
        have x0 : (W7.setCell ⟨a.S, 0, none⟩ (.int .i32 0)).cell? ⟨w.heap.size, 0, none⟩ = some (.int .i64 0) := hRl.cell 0
        have x1 : (W7.setCell ⟨a.S, 0, none⟩ (.int .i32 0)).cell? ⟨w.heap.size, 1, none⟩ = some (.int .u64 0) := hRl.cell 1
        have x2 : (W7.setCell ⟨a.S, 0, none⟩ (.int .i32 0)).cell? ⟨w.heap.size, 2, none⟩ = some (.int .u64 0) := hRl.cell 2
        refine leaves_cons (f := 29) (args := #[.pointer (some ⟨a.S, 0, none⟩)]) (by simp) (by simp [go_sem]) ?_
        refine (unlock_deferred muLib ⟨a.S, 0, none⟩ .returning _ hIe.cells.1 (hIe.sg.frozen 0)).mono ?_
        rintro x u' w'' ⟨rfl, rfl, rfl⟩
        refine ⟨.tuple #[.agg #[.int .i64 0, .int .u64 0, .int .u64 0], .int .i64 2], by simp [results, Try.results13, go_sem, x0, x1, x2], ?_⟩
        have hcb := com_bad (s := s) (d := d) (e := e) (by rw [hE.out]; omega)
        exact ⟨by rw [hcb.2, hE.out]; rfl, by rw [hcb.1]; exact hIe.leave, hOe.set_ (S_mem a) 0 _⟩
      have t1 : (d == 0) = false := by rw [beq_eq_false_iff_ne]; exact hdz
      by_cases hez : e = 0
      case pos =>
        have hE := Lib.hid (comE_sc (s := s) (d := d) (e := e) (.inr (.inl hez)))
        have t2 : (e == 0) = true := by rw [beq_iff_eq]; exact hez
        clear hdz hez hdq heq
        go_wp2_with fail
        have hIe := sgIn_set3 HI6.out HRF.out (.int .i64 0) (.int .u64 0) (.int .u64 0)
        have hRe := blk3 HR6.out (.int .i64 0) (.int .u64 0) (.int .u64 0)
        have hOe := ((HO6.out.new_ (Nat.le_refl w.heap.size) 0 (.int .i64 0)).new_ (Nat.le_refl w.heap.size) 1 (.int .u64 0)).new_ (Nat.le_refl w.heap.size) 2 (.int .u64 0)
        generalize (((W6.setCell ⟨w.heap.size, 0, none⟩ (.int .i64 0)).setCell ⟨w.heap.size, 1, none⟩ (.int .u64 0)).setCell ⟨w.heap.size, 2, none⟩ (.int .u64 0)) = W7 at *
        have hRl := hRe.far (p := ⟨a.S, 0, none⟩) (Ne.symm hRs) (.int .i32 0)
        have x0 : (W7.setCell ⟨a.S, 0, none⟩ (.int .i32 0)).cell? ⟨w.heap.size, 0, none⟩ = some (.int .i64 0) := hRl.cell 0
        have x1 : (W7.setCell ⟨a.S, 0, none⟩ (.int .i32 0)).cell? ⟨w.heap.size, 1, none⟩ = some (.int .u64 0) := hRl.cell 1
        have x2 : (W7.setCell ⟨a.S, 0, none⟩ (.int .i32 0)).cell? ⟨w.heap.size, 2, none⟩ = some (.int .u64 0) := hRl.cell 2
        refine leaves_cons (f := 29) (args := #[.pointer (some ⟨a.S, 0, none⟩)]) (by simp) (by simp [go_sem]) ?_
        refine (unlock_deferred muLib ⟨a.S, 0, none⟩ .returning _ hIe.cells.1 (hIe.sg.frozen 0)).mono ?_
        rintro x u' w'' ⟨rfl, rfl, rfl⟩
        refine ⟨.tuple #[.agg #[.int .i64 0, .int .u64 0, .int .u64 0], .int .i64 2], by simp [results, Try.results13, go_sem, x0, x1, x2], ?_⟩
        have hcb := com_bad (s := s) (d := d) (e := e) (by rw [hE.out]; omega)
        exact ⟨by rw [hcb.2, hE.out]; rfl, by rw [hcb.1]; exact hIe.leave, hOe.set_ (S_mem a) 0 _⟩
      have t2 : (e == 0) = false := by rw [beq_eq_false_iff_ne]; exact hez
      have hgood := Lib.hid (show ¬ (d = 0 ∨ e = 0 ∨ 1073741789 ≤ d ∨ 1073741789 ≤ e) by omega)
      have hmem : bh = true ↔ (d, e) ∈ s.pl := by
        rw [HBH.out]
        refine ⟨fun ⟨q', h1, h2⟩ => ?_, fun h => ⟨_, h, rfl⟩⟩
        have e3 := cm_inj (HOK.out.sc q' h1) (q' := (d, e)) ⟨⟨by show 0 < d; omega, hdq⟩, by show 0 < e; omega, heq⟩ h2
        rw [← e3]; exact h1
      have HMEM := Lib.hid hmem
      clear hdz hez hdq heq hmem
      cases bh
      case true =>
        have hE := Lib.hid (comE_has (s := s) hgood.out (HMEM.out.1 rfl))
        go_wp2_with fail
        have hIe := sgIn_set3 HI6.out HRF.out (.int .i64 0) (.int .u64 0) (.int .u64 0)
        have hRe := blk3 HR6.out (.int .i64 0) (.int .u64 0) (.int .u64 0)
        have hOe := ((HO6.out.new_ (Nat.le_refl w.heap.size) 0 (.int .i64 0)).new_ (Nat.le_refl w.heap.size) 1 (.int .u64 0)).new_ (Nat.le_refl w.heap.size) 2 (.int .u64 0)
        generalize (((W6.setCell ⟨w.heap.size, 0, none⟩ (.int .i64 0)).setCell ⟨w.heap.size, 1, none⟩ (.int .u64 0)).setCell ⟨w.heap.size, 2, none⟩ (.int .u64 0)) = W7 at *
        have hRl := hRe.far (p := ⟨a.S, 0, none⟩) (Ne.symm hRs) (.int .i32 0)
        have x0 : (W7.setCell ⟨a.S, 0, none⟩ (.int .i32 0)).cell? ⟨w.heap.size, 0, none⟩ = some (.int .i64 0) := hRl.cell 0
        have x1 : (W7.setCell ⟨a.S, 0, none⟩ (.int .i32 0)).cell? ⟨w.heap.size, 1, none⟩ = some (.int .u64 0) := hRl.cell 1
        have x2 : (W7.setCell ⟨a.S, 0, none⟩ (.int .i32 0)).cell? ⟨w.heap.size, 2, none⟩ = some (.int .u64 0) := hRl.cell 2
        refine leaves_cons (f := 29) (args := #[.pointer (some ⟨a.S, 0, none⟩)]) (by simp) (by simp [go_sem]) ?_
        refine (unlock_deferred muLib ⟨a.S, 0, none⟩ .returning _ hIe.cells.1 (hIe.sg.frozen 0)).mono ?_
        rintro x u' w'' ⟨rfl, rfl, rfl⟩
        refine ⟨.tuple #[.agg #[.int .i64 0, .int .u64 0, .int .u64 0], .int .i64 15], by simp [results, Try.results13, go_sem, x0, x1, x2], ?_⟩
        have hcb := com_bad (s := s) (d := d) (e := e) (by rw [hE.out]; omega)
        exact ⟨by rw [hcb.2, hE.out]; rfl, by rw [hcb.1]; exact hIe.leave, hOe.set_ (S_mem a) 0 _⟩
      have hnm := Lib.hid (show (d, e) ∉ s.pl from fun h => by have := HMEM.out.2 h; cases this)
      have hln := run_len HI6.out.map 3
      have m5 := HI6.out.cells.2.2.2.2
      by_cases hfull : s.pl.length = 6
      case pos =>
        have hE := Lib.hid (comE_full (s := s) hgood.out hnm.out hfull)
        have t3 : ((s.pl.length : Int) == 6) = true := by rw [beq_iff_eq]; omega
        clear hfull
        go_wp2_with fail
        have hIe := sgIn_set3 HI6.out HRF.out (.int .i64 0) (.int .u64 0) (.int .u64 0)
        have hRe := blk3 HR6.out (.int .i64 0) (.int .u64 0) (.int .u64 0)
        have hOe := ((HO6.out.new_ (Nat.le_refl w.heap.size) 0 (.int .i64 0)).new_ (Nat.le_refl w.heap.size) 1 (.int .u64 0)).new_ (Nat.le_refl w.heap.size) 2 (.int .u64 0)
        generalize (((W6.setCell ⟨w.heap.size, 0, none⟩ (.int .i64 0)).setCell ⟨w.heap.size, 1, none⟩ (.int .u64 0)).setCell ⟨w.heap.size, 2, none⟩ (.int .u64 0)) = W7 at *
        have hRl := hRe.far (p := ⟨a.S, 0, none⟩) (Ne.symm hRs) (.int .i32 0)
        have x0 : (W7.setCell ⟨a.S, 0, none⟩ (.int .i32 0)).cell? ⟨w.heap.size, 0, none⟩ = some (.int .i64 0) := hRl.cell 0
        have x1 : (W7.setCell ⟨a.S, 0, none⟩ (.int .i32 0)).cell? ⟨w.heap.size, 1, none⟩ = some (.int .u64 0) := hRl.cell 1
        have x2 : (W7.setCell ⟨a.S, 0, none⟩ (.int .i32 0)).cell? ⟨w.heap.size, 2, none⟩ = some (.int .u64 0) := hRl.cell 2
        refine leaves_cons (f := 29) (args := #[.pointer (some ⟨a.S, 0, none⟩)]) (by simp) (by simp [go_sem]) ?_
        refine (unlock_deferred muLib ⟨a.S, 0, none⟩ .returning _ hIe.cells.1 (hIe.sg.frozen 0)).mono ?_
        rintro x u' w'' ⟨rfl, rfl, rfl⟩
        refine ⟨.tuple #[.agg #[.int .i64 0, .int .u64 0, .int .u64 0], .int .i64 9], by simp [results, Try.results13, go_sem, x0, x1, x2], ?_⟩
        have hcb := com_bad (s := s) (d := d) (e := e) (by rw [hE.out]; omega)
        exact ⟨by rw [hcb.2, hE.out]; rfl, by rw [hcb.1]; exact hIe.leave, hOe.set_ (S_mem a) 0 _⟩
      have hE := Lib.hid (comE_ok (s := s) hgood.out hnm.out hfull)
      have t3 : ((s.pl.length : Int) == 6) = false := by rw [beq_eq_false_iff_ne]; omega
      clear hfull
      have g0 : W6.cell? ⟨W1.heap.size, 0, none⟩ = some (.int .i64 s.id) := HC6.out.cell 0
      have g1 : W6.cell? ⟨W1.heap.size, 1, none⟩ = some (.int .u64 (pw 4 d.toNat 2147483579)) := HC6.out.cell 1
      have g2 : W6.cell? ⟨W1.heap.size, 2, none⟩ = some (.int .u64 (pw 4 e.toNat 2147483579)) := HC6.out.cell 2
      obtain ⟨W8, hst, hM8, hg8⟩ := run_store_new (w := W6.drew) (M := a.M) (pl := s.pl) (show MapAt W6.drew a.M s.id s.pl from HI6.out.map) hid9 (d, e) (fun q' h1 h2 => by have := HBH.out.2 ⟨q', h1, h2⟩; cases this)
      have hst' : (Instr.mapUpdate 73 (.map (some a.M)) (.agg #[.int .i64 s.id, .int .u64 (pw 4 d.toNat 2147483579), .int .u64 (pw 4 e.toNat 2147483579)]) (.agg #[.int .u64 d, .int .u64 e])).run Try.prog W6.drew = .ok () W8 := hst
      have hRM : w.heap.size ≠ a.M := fun e => HRF.out (e ▸ M_mem a)
      have hCM : W1.heap.size ≠ a.M := fun e => hB5 (e ▸ M_mem a)
      have hI8 := sgIn_map (show SgIn W6.drew a s from HI6.out.later (Below.refl _ _).drew) hg8 hM8
      have hR8 := (show Blk W6.drew _ _ _ from HR6.out).grown hg8 (by simp; exact hRM)
      have hC8 := (show Blk W6.drew _ _ _ from HC6.out).grown hg8 (by simp; exact hCM)
      have hO8 := (HO6.out.drew).grown (M_mem a) hg8
      have q0 : W8.cell? ⟨W1.heap.size, 0, none⟩ = some (.int .i64 s.id) := hC8.cell 0
      have q1 : W8.cell? ⟨W1.heap.size, 1, none⟩ = some (.int .u64 (pw 4 d.toNat 2147483579)) := hC8.cell 1
      have q2 : W8.cell? ⟨W1.heap.size, 2, none⟩ = some (.int .u64 (pw 4 e.toNat 2147483579)) := hC8.cell 2
      have s0 : W8.cell? ⟨w.heap.size, 0, none⟩ = some (.int .i64 0) := hR8.cell 0
      have s1 : W8.cell? ⟨w.heap.size, 1, none⟩ = some (.int .u64 0) := hR8.cell 1
      have s2 : W8.cell? ⟨w.heap.size, 2, none⟩ = some (.int .u64 0) := hR8.cell 2
      have y0 := hR8.frozen 0
      have y1 := hR8.frozen 1
      have y2 := hR8.frozen 2
      have HI8 := Lib.hid hI8
      have HR8 := Lib.hid hR8
      have HO8 := Lib.hid hO8
      clear hst hI8 hR8 hC8 hO8 hg8 hM8 hRM hCM
      go_wp2_with fail
      go_region
      all_goals
        go_wp2_with fail
        have hIe := sgIn_set3 HI8.out HRF.out (.int .i64 s.id) (.int .u64 (pw 4 d.toNat 2147483579)) (.int .u64 (pw 4 e.toNat 2147483579))
        have hRe := blk3 HR8.out (.int .i64 s.id) (.int .u64 (pw 4 d.toNat 2147483579)) (.int .u64 (pw 4 e.toNat 2147483579))
        have hOe := ((HO8.out.new_ (Nat.le_refl w.heap.size) 0 (.int .i64 s.id)).new_ (Nat.le_refl w.heap.size) 1 (.int .u64 (pw 4 d.toNat 2147483579))).new_ (Nat.le_refl w.heap.size) 2 (.int .u64 (pw 4 e.toNat 2147483579))
        generalize (((W8.setCell ⟨w.heap.size, 0, none⟩ (.int .i64 s.id)).setCell ⟨w.heap.size, 1, none⟩ (.int .u64 (pw 4 d.toNat 2147483579))).setCell ⟨w.heap.size, 2, none⟩ (.int .u64 (pw 4 e.toNat 2147483579))) = W7 at *
        have hRl := hRe.far (p := ⟨a.S, 0, none⟩) (Ne.symm hRs) (.int .i32 0)
        have x0 : (W7.setCell ⟨a.S, 0, none⟩ (.int .i32 0)).cell? ⟨w.heap.size, 0, none⟩ = some (.int .i64 s.id) := hRl.cell 0
        have x1 : (W7.setCell ⟨a.S, 0, none⟩ (.int .i32 0)).cell? ⟨w.heap.size, 1, none⟩ = some (.int .u64 (pw 4 d.toNat 2147483579)) := hRl.cell 1
        have x2 : (W7.setCell ⟨a.S, 0, none⟩ (.int .i32 0)).cell? ⟨w.heap.size, 2, none⟩ = some (.int .u64 (pw 4 e.toNat 2147483579)) := hRl.cell 2
        refine leaves_cons (f := 29) (args := #[.pointer (some ⟨a.S, 0, none⟩)]) (by simp) (by simp [go_sem]) ?_
        refine (unlock_deferred muLib ⟨a.S, 0, none⟩ .returning _ hIe.cells.1 (hIe.sg.frozen 0)).mono ?_
        rintro x u' w'' ⟨rfl, rfl, rfl⟩
        refine ⟨.tuple #[.agg #[.int .i64 s.id, .int .u64 (pw 4 d.toNat 2147483579), .int .u64 (pw 4 e.toNat 2147483579)], .int .i64 0], by simp [results, Try.results13, go_sem, x0, x1, x2], ?_⟩
        have hcg := com_good (s := s) (d := d) (e := e) hE.out
        exact ⟨by rw [hcg.2, hE.out]; rfl, by rw [hcg.1]; exact hIe.leave, hOe.set_ (S_mem a) 0 _⟩
end Go.Proofs.Ytpfpokjaeffbjab.Sgn
