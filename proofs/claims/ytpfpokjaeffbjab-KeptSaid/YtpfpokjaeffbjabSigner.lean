/- The program's signers: NewSigner, Left, Commit. -/
import Derived.Test.YtpfpokjaeffbjabSigPlain
import Derived.Test.YtpfpokjaeffbjabCheck
import Derived.Test.YtpfpokjaeffbjabLocks
import Derived.Deep.RegionHeld3
import Derived.Deep.DeepCutAuto
import Derived.Defers
import Derived.Deep.RegionLaw
namespace Go.Proofs.Ytpfpokjaeffbjab.Sgn
open Go.RowKit Go.MuLone Go.Conc.Locks Go.Proofs.Ytpfpokjaeffbjab.Pl Go.Proofs.Ytpfpokjaeffbjab.Dpl Go.Proofs.Ytpfpokjaeffbjab.Gpl Go.Proofs.Ytpfpokjaeffbjab.Kpl Go.Proofs.Ytpfpokjaeffbjab.Fld Go.Proofs.Ytpfpokjaeffbjab.Mem Go.Proofs.Ytpfpokjaeffbjab.Mpp Go.Proofs.Ytpfpokjaeffbjab.Spl Go.Proofs.Ytpfpokjaeffbjab.Ver Go.Proofs.Ytpfpokjaeffbjab.Grp Go.Proofs.Ytpfpokjaeffbjab.Gof Go.Proofs.Ytpfpokjaeffbjab.Chk Go.Proofs.Ytpfpokjaeffbjab.Lck
set_option linter.unusedVariables false

/-- The world is as it was but for the blocks named (and new ones). -/
structure Only (X : List Nat) (w w' : World) : Prop where
  os : w'.os = w.os
  tape : w'.tape = w.tape
  output : w'.output = w.output
  size : w.heap.size ≤ w'.heap.size
  block : ∀ k, k < w.heap.size → k ∉ X → w'.heap[k]? = w.heap[k]?
theorem Only.refl (X : List Nat) (w : World) : Only X w w := ⟨rfl, rfl, rfl, Nat.le_refl _, fun _ _ _ => rfl⟩
theorem Only.trans {X : List Nat} {a b c : World} (h : Only X a b) (k : Only X b c) : Only X a c :=
  ⟨k.os.trans h.os, k.tape.trans h.tape, k.output.trans h.output, Nat.le_trans h.size k.size, fun i hi hx => (k.block i (Nat.lt_of_lt_of_le hi h.size) hx).trans (h.block i hi hx)⟩
theorem Only.of_below {X : List Nat} {a b : World} (h : Below a.heap.size a b) : Only X a b := ⟨h.os, h.tape, h.output, h.size, fun i hi _ => h.block i hi⟩
theorem Only.then_ {X : List Nat} {a b c : World} (h : Only X a b) (k : Below b.heap.size b c) : Only X a c := h.trans (.of_below k)
theorem Only.set_ {X : List Nat} {a b : World} (h : Only X a b) {g : Nat} (hg : g ∈ X) (i : Nat) (u : Value) : Only X a (b.setCell ⟨g, i, none⟩ u) :=
  h.trans ⟨rfl, rfl, rfl, by simp, fun k hk hx => Below.heap_setCell b ⟨g, i, none⟩ u k (fun e => hx (by rw [e]; exact hg))⟩
theorem Only.new_ {X : List Nat} {a b : World} (h : Only X a b) {g : Nat} (hg : a.heap.size ≤ g) (i : Nat) (u : Value) : Only X a (b.setCell ⟨g, i, none⟩ u) :=
  ⟨h.os, h.tape, h.output, by have := h.size; simpa using this, fun k hk hx => (Below.heap_setCell b ⟨g, i, none⟩ u k (fun e => by rw [e] at hk; exact absurd hk (by show ¬ g < _; omega))).trans (h.block k hk hx)⟩
theorem Only.grown {X : List Nat} {a b c : World} (h : Only X a b) {g : Nat} (hg : g ∈ X) (k : b.grownBy c (some g)) : Only X a c :=
  h.trans ⟨k.os, k.tape, k.output, k.size, fun i hi hx => k.block i hi (fun e => hx (by injection e with e; rw [e]; exact hg))⟩
theorem Only.alloc {X : List Nat} {a b : World} (h : Only X a b) (o : Obj) : Only X a (b.alloc o) := h.then_ (below_box _ _)
theorem Only.drew {X : List Nat} {a b : World} (h : Only X a b) : Only X a b.drew := ⟨h.os, h.tape, h.output, h.size, h.block⟩
theorem Only.drewN {X : List Nat} {a b : World} (h : Only X a b) (n : Nat) : Only X a (b.drewN n) := ⟨h.os, h.tape, h.output, h.size, h.block⟩
theorem Only.blk {X : List Nat} {a b : World} (h : Only X a b) {g : Nat} {t : TypeId} {cs : Array Value} (hb : Blk a g t cs) (hg : g ∉ X) : Blk b g t cs := (h.block g hb.lt hg).trans hb
theorem Only.cell {X : List Nat} {a b : World} (h : Only X a b) {g i : Nat} (hg : g < a.heap.size) (hx : g ∉ X) : b.cell? ⟨g, i, none⟩ = a.cell? ⟨g, i, none⟩ := World.cell?_of_block (h.block g hg hx)

/-- The cells of a signer. -/
def sgCells (l : Int) (g : Nat) (id share : Int) (M : Nat) : Array Value := #[.int .i32 l, .int .u32 0, .pointer (some ⟨g, 0, none⟩), .int .i64 id, .int .u64 share, .map (some M)]
/-- Where a signer lies. -/
structure Loc where
  S : Nat
  g : Nat
  gc : Nat
  cap : Nat
  M : Nat
  base : Nat
/-- The blocks that a signer is made of. -/
def Loc.foot (a : Loc) : List Nat := [a.S, a.g, a.gc, a.M]
/-- A signer in memory, free. -/
structure SgAt (w : World) (a : Loc) (s : St) : Prop where
  sg : Blk w a.S 82 (sgCells 0 a.g s.id s.share a.M)
  grp : GrpAt w a.g s.t s.n (.slice (some ⟨a.gc, 0, none⟩) s.cs.length a.cap) 0 0 s.cs 1
  own : OwnCs w a.base (.slice (some ⟨a.gc, 0, none⟩) s.cs.length a.cap) s.cs
  map : MapAt w a.M s.id s.pl
theorem own_block {w w' : World} {base : Nat} {e : TypeId} {size n gc cap : Nat} {xs : List Value} (h : w.ownsRow base e size (.slice (some ⟨gc, 0, none⟩) n cap) n xs) (hb : w'.heap[gc]? = w.heap[gc]?) : w'.ownsRow base e size (.slice (some ⟨gc, 0, none⟩) n cap) n xs := by
  refine ⟨h.1, ?_⟩
  rcases h.2 with h2 | ⟨g, cp, cur, hv, hbg, hh, r⟩
  · exact .inl h2
  · simp only [Value.slice.injEq, Option.some.injEq, Addr.mk.injEq, and_true, true_and] at hv
    obtain ⟨rfl, rfl⟩ := hv
    exact .inr ⟨gc, cap, cur, rfl, hbg, hb.trans hh, r⟩
theorem own_lt {w : World} {base : Nat} {e : TypeId} {size n gc cap : Nat} {xs : List Value} (h : w.ownsRow base e size (.slice (some ⟨gc, 0, none⟩) n cap) n xs) : base ≤ gc ∧ gc < w.heap.size := h.lt gc rfl
theorem SgAt.keep {w w' : World} {a : Loc} {s : St} (h : SgAt w a s) (hb : ∀ k ∈ a.foot, w'.heap[k]? = w.heap[k]?) : SgAt w' a s := by
  refine ⟨(hb a.S (by simp [Loc.foot])).trans h.sg, ?_, own_block h.own (hb a.gc (by simp [Loc.foot])), h.map.of_block (hb a.M (by simp [Loc.foot]))⟩
  obtain ⟨C, hC, r⟩ := h.grp
  exact ⟨C, (hb a.g (by simp [Loc.foot])).trans hC, r⟩
theorem SgAt.lt {w : World} {a : Loc} {s : St} (h : SgAt w a s) : ∀ k ∈ a.foot, k < w.heap.size := by
  intro k hk
  simp [Loc.foot] at hk
  rcases hk with rfl | rfl | rfl | rfl
  · exact h.sg.lt
  · exact h.grp.lt
  · exact (own_lt h.own).2
  · exact h.map.lt
/-- Different kinds of blocks are different blocks. -/
theorem SgAt.apart {w : World} {a : Loc} {s : St} (h : SgAt w a s) : a.S ≠ a.g ∧ a.S ≠ a.gc ∧ a.S ≠ a.M ∧ a.g ≠ a.M ∧ a.gc ≠ a.M := by
  obtain ⟨C, hC, -⟩ := h.grp
  obtain ⟨es, cl, hM, -⟩ := h.map
  have hS := h.sg
  have hne : ∀ {g t cs}, Blk w g t cs → g ≠ a.M := fun {g t cs} hg e => by
    subst e
    unfold Blk at hg
    rw [hM] at hg
    cases hg
  refine ⟨Blk.ne_ hS hC (by decide), ?_, hne hS, hne hC, ?_⟩
  · intro e
    exact own_ne_blk h.own hS (by decide) (by rw [e]; rfl)
  · rcases h.own.2 with ⟨hv, -⟩ | ⟨g, cp, cur, hv, _, hh, _⟩
    · cases hv
    · simp only [Value.slice.injEq, Option.some.injEq, Addr.mk.injEq, and_true, true_and] at hv
      obtain ⟨rfl, rfl⟩ := hv
      exact hne (t := 85) (cs := cur) hh
/-- What NewSigner leaves. -/
def NewPost (t n : Int) (cs : List Int) (id share : Int) (w : World) (e : Ending) (w' : World) : Prop :=
  Below w.heap.size w w' ∧
  ((newE t n cs id share ≠ 0 ∧ e = .returned (.tuple #[.pointer none, .int .i64 (newE t n cs id share)])) ∨
   (newE t n cs id share = 0 ∧ ∃ a : Loc, e = .returned (.tuple #[.pointer (some ⟨a.S, 0, none⟩), .int .i64 0]) ∧ SgAt w' a ⟨t, n, cs, id, share, []⟩ ∧ ∀ k ∈ a.foot, w.heap.size ≤ k))

set_option maxRecDepth 100000 in
set_option maxHeartbeats 4000000 in
theorem newSignerC (t n : Int) (cs : List Int) (v : Value) (id share : Int) (w : World) (hv : Nums .u64 w w.heap.size v cs) (hl : cs.length ≤ 65536) (hcb : ∀ i, i < cs.length → 0 ≤ cs.getD i 0)
    (hs : 0 ≤ share ∧ share < 18446744073709551616) :
    Calls Try.prog 12 #[.agg #[.int .i64 t, .int .i64 n, v], .int .i64 id, .int .u64 share] w (NewPost t n cs id share w) := by
  have hbw := below_box w (.cells #[.int .i64 t, .int .i64 n, v] 28)
  have hck := Lib.hid (checkC t n cs v id share _ (hv.later hbw) hl hcb hs)
  have HBW := Lib.hid hbw
  have HV := Lib.hid hv
  have HCB := Lib.hid hcb
  obtain ⟨A, c, rfl, -⟩ := hv
  have HBLK := Lib.hid (Blk.new w 28 #[.int .i64 t, .int .i64 n, .slice A cs.length c])
  clear hbw hcb hs
  obtain ⟨bC, hbC⟩ : ∃ b, checkB t n cs id share = b := ⟨_, rfl⟩
  rw [hbC] at hck
  have HBC := Lib.hid hbC
  clear hbC
  by_cases h0 : checkE t n cs id share = 0
  case neg =>
    have hE := Lib.hid (newE_check h0)
    have HNZ := Lib.hid h0
    have hne : (checkE t n cs id share != 0) = true := by rw [bne_iff_ne]; exact h0
    generalize checkE t n cs id share = x at *
    clear h0
    go_enter Try.func12, Try.ntmps12
    go_wp2_with fail
    refine hck.out.mono ?_
    rintro e w1 ⟨rfl, hb1⟩
    go_wp2_with fail
    go_ret2
    exact ⟨HBW.out.trans (hb1.mono (by simp)), .inl ⟨by rw [hE.out]; exact HNZ.out, by rw [hE.out]; rfl⟩⟩
  rw [h0] at hck
  have H0 := Lib.hid h0
  clear h0
  have m0 : ((0 : Int) != 0) = false := rfl
  cases bC
  case false =>
    have hE := Lib.hid (newE_share H0.out HBC.out)
    go_enter Try.func12, Try.ntmps12
    go_wp2_with fail
    refine hck.out.mono ?_
    rintro e w1 ⟨rfl, hb1⟩
    go_wp2_with fail
    go_ret2
    exact ⟨HBW.out.trans (hb1.mono (by simp)), .inl ⟨by rw [hE.out]; omega, by rw [hE.out]; rfl⟩⟩
  have hE := Lib.hid (newE_ok H0.out HBC.out)
  have hgo := (checkE_spec H0.out).1
  have hgs := groupOk_spec hgo
  have HGO := Lib.hid hgo
  have hcl : 0 < cs.length := by omega
  clear hgo hgs
  have hmm := @run_makeMap Try.prog
  go_enter Try.func12, Try.ntmps12
  go_wp2_with fail
  refine hck.out.mono ?_
  rintro e w1 ⟨rfl, hb1⟩
  have hbx1 := HBLK.out.below hb1 HBLK.out.lt
  have c0 : w1.cell? ⟨w.heap.size, 0, none⟩ = some (.int .i64 t) := hbx1.cell 0
  have c1 : w1.cell? ⟨w.heap.size, 1, none⟩ = some (.int .i64 n) := hbx1.cell 1
  have c2 : w1.cell? ⟨w.heap.size, 2, none⟩ = some (.slice A cs.length c) := hbx1.cell 2
  have hbw1 := HBW.out.trans (hb1.mono (by simp))
  have hof := Lib.hid (ofC t n cs _ w1 (HV.out.later hbw1) hl HCB.out)
  have HW1 := Lib.hid hbw1
  clear hbw1 hb1 hbx1 hck
  go_wp2_with fail
  refine hof.out.mono ?_
  rintro e w2 ⟨hb2, ⟨hbad, rfl⟩ | ⟨hok, g, vc, rfl, hg, hG, hO⟩⟩
  · rw [HGO.out] at hbad; cases hbad
  have hbw2 := HW1.out.trans (hb2.mono HW1.out.size)
  obtain ⟨gc, cap, rfl, hgb, -, -, -⟩ := hO.form hcl
  have HG := Lib.hid hG
  have HO := Lib.hid hO
  have HW2 := Lib.hid hbw2
  have HW1s := Lib.hid HW1.out.size
  clear hG hO hbw2 hb2 hok
  go_wp2_with fail
  go_ret2
  have ha : Below w2.heap.size w2 (w2.alloc (.map #[] 0)) := below_box _ _
  have hb : Below w2.heap.size w2 ((w2.alloc (.map #[] 0)).alloc (.cells (sgCells 0 g id share w2.heap.size) 82)) := ha.alloc (by simp) _
  refine ⟨HW2.out.trans (hb.mono HW2.out.size), .inr ⟨hE.out, ⟨w2.heap.size + 1, g, gc, cap, w2.heap.size, w1.heap.size⟩, rfl, ⟨blk_new' _ _ (by simp), HG.out.below hb HG.out.lt, own_below HO.out hb (Nat.le_refl _), (MapAt.new w2 id).of_block (heap_alloc_old _ _ (by simp))⟩, ?_⟩⟩
  have h1 := HW2.out.size
  have h2 := HW1s.out
  intro k hk
  simp [Loc.foot] at hk
  omega

theorem sg_lock {w : World} {S g M : Nat} {id share : Int} (h : Blk w S 82 (sgCells 0 g id share M)) : Blk (w.setCell ⟨S, 0, none⟩ (.int .i32 1)) S 82 (sgCells 1 g id share M) := h.set_ 0 _
theorem sg_free {w : World} {S g M : Nat} {id share : Int} (h : Blk w S 82 (sgCells 1 g id share M)) : Blk (w.setCell ⟨S, 0, none⟩ (.int .i32 0)) S 82 (sgCells 0 g id share M) := h.set_ 0 _
/-- A signer while its lock is held. -/
structure SgIn (w : World) (a : Loc) (s : St) : Prop where
  sg : Blk w a.S 82 (sgCells 1 a.g s.id s.share a.M)
  grp : GrpAt w a.g s.t s.n (.slice (some ⟨a.gc, 0, none⟩) s.cs.length a.cap) 0 0 s.cs 1
  own : OwnCs w a.base (.slice (some ⟨a.gc, 0, none⟩) s.cs.length a.cap) s.cs
  map : MapAt w a.M s.id s.pl
theorem SgIn.later {w w' : World} {a : Loc} {s : St} (h : SgIn w a s) (hb : Below w.heap.size w w') : SgIn w' a s :=
  ⟨h.sg.below hb h.sg.lt, h.grp.below hb h.grp.lt, own_below h.own hb (Nat.le_refl _), h.map.of_block (hb.block _ h.map.lt)⟩
theorem SgAt.enter {w : World} {a : Loc} {s : St} (h : SgAt w a s) : SgIn (w.setCell ⟨a.S, 0, none⟩ (.int .i32 1)) a s := by
  obtain ⟨n1, n2, n3, -, -⟩ := h.apart
  have hb : ∀ k, k ≠ a.S → (w.setCell ⟨a.S, 0, none⟩ (.int .i32 1)).heap[k]? = w.heap[k]? := fun k hk => Below.heap_setCell _ ⟨a.S, 0, none⟩ _ k hk
  refine ⟨sg_lock h.sg, ?_, own_block h.own (hb _ (Ne.symm n2)), h.map.of_block (hb _ (Ne.symm n3))⟩
  obtain ⟨C, hC, r⟩ := h.grp
  exact ⟨C, (hb _ (Ne.symm n1)).trans hC, r⟩
theorem SgIn.apart {w : World} {a : Loc} {s : St} (h : SgIn w a s) : a.S ≠ a.g ∧ a.S ≠ a.gc ∧ a.S ≠ a.M := by
  obtain ⟨C, hC, -⟩ := h.grp
  obtain ⟨es, cl, hM, -⟩ := h.map
  refine ⟨Blk.ne_ h.sg hC (by decide), fun e => own_ne_blk h.own h.sg (by decide) (by rw [e]; rfl), fun e => ?_⟩
  have hS := h.sg
  unfold Blk at hS
  rw [e, hM] at hS
  cases hS
theorem SgIn.leave {w : World} {a : Loc} {s : St} (h : SgIn w a s) : SgAt (w.setCell ⟨a.S, 0, none⟩ (.int .i32 0)) a s := by
  obtain ⟨n1, n2, n3⟩ := h.apart
  have hb : ∀ k, k ≠ a.S → (w.setCell ⟨a.S, 0, none⟩ (.int .i32 0)).heap[k]? = w.heap[k]? := fun k hk => Below.heap_setCell _ ⟨a.S, 0, none⟩ _ k hk
  refine ⟨sg_free h.sg, ?_, own_block h.own (hb _ (Ne.symm n2)), h.map.of_block (hb _ (Ne.symm n3))⟩
  obtain ⟨C, hC, r⟩ := h.grp
  exact ⟨C, (hb _ (Ne.symm n1)).trans hC, r⟩
theorem SgIn.cells {w : World} {a : Loc} {s : St} (h : SgIn w a s) : w.cell? ⟨a.S, 0, none⟩ = some (.int .i32 1) ∧ w.cell? ⟨a.S, 2, none⟩ = some (.pointer (some ⟨a.g, 0, none⟩)) ∧ w.cell? ⟨a.S, 3, none⟩ = some (.int .i64 s.id) ∧
    w.cell? ⟨a.S, 4, none⟩ = some (.int .u64 s.share) ∧ w.cell? ⟨a.S, 5, none⟩ = some (.map (some a.M)) := ⟨h.sg.cell 0, h.sg.cell 2, h.sg.cell 3, h.sg.cell 4, h.sg.cell 5⟩
theorem S_mem (a : Loc) : a.S ∈ a.foot := by simp [Loc.foot]
theorem M_mem (a : Loc) : a.M ∈ a.foot := by simp [Loc.foot]

set_option maxRecDepth 100000 in
set_option maxHeartbeats 2000000 in
theorem leftC (w : World) (a : Loc) (s : St) (h : SgAt w a s) :
    Calls Try.prog 15 #[.pointer (some ⟨a.S, 0, none⟩)] w fun e w' => e = .returned (.int .i64 s.pl.length) ∧ SgAt w' a s ∧ Only a.foot w w' := by
  have h0 : w.cell? ⟨a.S, 0, none⟩ = some (.int .i32 0) := h.sg.cell 0
  have hz := h.sg.frozen 0
  have hI := h.enter
  have hlk := lock_free muLib ⟨a.S, 0, none⟩ w h0 hz
  have HO := Lib.hid (((Only.refl a.foot w).set_ (S_mem a) 0 (.int .i32 1)).set_ (S_mem a) 0 (.int .i32 0))
  obtain ⟨c0, c2, c3, c4, c5⟩ := hI.cells
  have HI := Lib.hid hI
  have hln := run_len hI.map 3
  have hz1 := hI.sg.frozen 0
  have HLK := Lib.hid hlk
  clear h h0 hz hI hlk
  generalize w.setCell ⟨a.S, 0, none⟩ (.int .i32 1) = w1 at *
  go_enter_defers Try.func15, Try.ntmps15
  go_wp2_with (go_at_call 28; refine HLK.out.mono ?_; rintro e w' ⟨rfl, rfl⟩)
  refine leaves_cons (f := 29) (args := #[.pointer (some ⟨a.S, 0, none⟩)]) (by simp) (by simp [go_sem]) ?_
  refine (unlock_deferred muLib ⟨a.S, 0, none⟩ .returning _ c0 hz1).mono ?_
  rintro e u' w'' ⟨rfl, rfl, rfl⟩
  exact ⟨_, results_tmp rfl _ _ _, rfl, HI.out.leave, HO.out⟩
/-- 'v, ok := m[c]', whatever is there. -/
theorem look_any {M : Nat} {id : Int} {pl : List (Int × Int)} (hid : 1 ≤ id ∧ id ≤ 9) (hinj : ∀ q ∈ pl, ∀ q' ∈ pl, cmOf id q = cmOf id q' → q = q') {c : Cm} (hc : Fits c) :
    ∃ q b, (∀ w : World, MapAt w M id pl → (Instr.lookup 73 (.map (some M)) (keyV c) true).run Try.prog w = .ok (.tuple #[valV q, .bool b]) w) ∧ (b = true ↔ ∃ q' ∈ pl, cmOf id q' = c) ∧ (b = true → q ∈ pl ∧ cmOf id q = c) := by
  by_cases hq : ∃ q' ∈ pl, cmOf id q' = c
  · obtain ⟨q, hq1, hq2⟩ := hq
    exact ⟨q, true, fun w h => run_look_yes h hid hinj hc hq1 hq2, by simp; exact ⟨q.1, q.2, hq1, hq2⟩, fun _ => ⟨hq1, hq2⟩⟩
  · exact ⟨(0, 0), false, fun w h => run_look_no h hid hc (fun q h1 h2 => hq ⟨q, h1, h2⟩), by simp; intro x y h1 h2; exact hq ⟨(x, y), h1, h2⟩, fun h => by cases h⟩
theorem blk3 {w : World} {g : Nat} {T : TypeId} {x y z : Value} (h : Blk w g T #[x, y, z]) (x' y' z' : Value) : Blk (((w.setCell ⟨g, 0, none⟩ x').setCell ⟨g, 1, none⟩ y').setCell ⟨g, 2, none⟩ z') g T #[x', y', z'] := ((h.set_ 0 x').set_ 1 y').set_ 2 z'
theorem sgIn_set3 {w : World} {a : Loc} {s : St} (h : SgIn w a s) {g : Nat} (hg : g ∉ a.foot) (x y z : Value) : SgIn (((w.setCell ⟨g, 0, none⟩ x).setCell ⟨g, 1, none⟩ y).setCell ⟨g, 2, none⟩ z) a s := by
  have hb : ∀ k ∈ a.foot, (((w.setCell ⟨g, 0, none⟩ x).setCell ⟨g, 1, none⟩ y).setCell ⟨g, 2, none⟩ z).heap[k]? = w.heap[k]? := fun k hk => by
    have hne : k ≠ g := fun e => hg (e ▸ hk)
    exact ((Below.heap_setCell _ ⟨g, 2, none⟩ z k hne).trans (Below.heap_setCell _ ⟨g, 1, none⟩ y k hne)).trans (Below.heap_setCell _ ⟨g, 0, none⟩ x k hne)
  refine ⟨(hb a.S (by simp [Loc.foot])).trans h.sg, ?_, own_block h.own (hb a.gc (by simp [Loc.foot])), h.map.of_block (hb a.M (by simp [Loc.foot]))⟩
  obtain ⟨C, hC, r⟩ := h.grp
  exact ⟨C, (hb a.g (by simp [Loc.foot])).trans hC, r⟩

end Go.Proofs.Ytpfpokjaeffbjab.Sgn
