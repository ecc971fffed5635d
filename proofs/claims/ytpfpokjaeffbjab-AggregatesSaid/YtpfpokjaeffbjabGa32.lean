/- Part of the proof: AgL. -/
import Derived.Test.YtpfpokjaeffbjabGa16
import Derived.Test.YtpfpokjaeffbjabGa28
import Derived.Test.YtpfpokjaeffbjabGa29
import Derived.Test.YtpfpokjaeffbjabGa31
namespace Go.Proofs.Ytpfpokjaeffbjab.Cc
open Go.Conc Go.ConcN Go.ConcM Go.RowKit Go.Conc.Lib Go.ConcR.Gen
open Go.ConcR (KK wgBlock WgAt stA smA rd wr mk DC0)
open Go.Proofs.Ytpfpokjaeffbjab.Pl Go.Proofs.Ytpfpokjaeffbjab.Dpl Go.Proofs.Ytpfpokjaeffbjab.Gpl Go.Proofs.Ytpfpokjaeffbjab.Kpl Go.Proofs.Ytpfpokjaeffbjab.Mem Go.Proofs.Ytpfpokjaeffbjab.Ver Go.Proofs.Ytpfpokjaeffbjab.Pkg
open Go.Proofs.Ytpfpokjaeffbjab.Fld hiding base
set_option linter.unusedVariables false
set_option linter.unusedSimpArgs false
def agT (y : Nat → Value) (bx bp bc br bz Wg bS oS cap n : Nat) (k : Int) (j19 j20 j73 j74 j75 j76 j77 j78 j79 : Value) : Array Value := #[y 0, y 1, y 2, y 3, y 4, y 5, y 6, y 7, y 8, y 9, y 10, .pointer (some ⟨bx, 0, none⟩), y 12, .pointer (some ⟨bp, 0, none⟩), y 14, .pointer (some ⟨bc, 0, none⟩), .pointer (some ⟨br, 0, none⟩), .pointer (some ⟨bz, 0, none⟩), .pointer (some ⟨Wg, 0, none⟩), j19, j20, y 21, y 22, y 23, y 24, y 25, y 26, y 27, y 28, y 29, y 30, y 31, y 32, y 33, y 34, y 35, y 36, y 37, y 38, y 39, y 40, y 41, y 42, y 43, y 44, y 45, y 46, y 47, y 48, y 49, y 50, y 51, y 52, y 53, y 54, y 55, y 56, y 57, y 58, y 59, y 60, y 61, y 62, y 63, y 64, y 65, y 66, y 67, y 68, y 69, .slice (some ⟨bS, oS, none⟩) n cap, .int .i64 n, .int .i64 k, j73, j74, j75, j76, j77, j78, j79, y 80, y 81, y 82, y 83, y 84, y 85, y 86, y 87, y 88, y 89, y 90, y 91, y 92, y 93, y 94, y 95, y 96, y 97, y 98, y 99, y 100, y 101, y 102, y 103, y 104, y 105, y 106]
structure AgD (q : Prm) (s : Scene) (K kp : List (Nat × Obj)) (nv : Nat → Int) (cv : Int) (Pb gc lb : Nat) (cs : List Int) (l : List Cm) (msg : ByteArray) (bz bp bx bc br bS oS : Nat) : Prop where
  sub : ∀ b o, (b, o) ∈ kp → (b, o) ∈ K
  sh : ∃ ob, (bS, ob) ∈ K ∧ ∀ (w : World) (k : Nat), w.heap[bS]? = some ob → k < s.n → w.cell? ⟨bS, oS + k, none⟩ = some (.int .u64 (nv k))
  hz : ∃ cap, Box kp bz (.slice (some ⟨s.Zb, 0, none⟩) s.n cap)
  hp : Box kp bp (.pointer (some ⟨Pb, 0, none⟩))
  hx : Box kp bx (.pointer (some ⟨s.Gb, 0, none⟩))
  hc : Box kp bc (.int .u64 cv)
  hr : ∃ cap, Box kp br (.slice (some ⟨s.Rb, 0, none⟩) s.n cap)
  pk : ∃ C e fz cap, (Pb, Obj.cells C e fz) ∈ kp ∧ C.size = 3 ∧ C[0]? = some (.pointer (some ⟨s.Gb, 0, none⟩)) ∧ C[1]? = some (.slice (some ⟨lb, 0, none⟩) l.length cap) ∧ C[2]? = some (.string msg) ∧ l.length ≤ cap
  gcB : ∃ C e fz, (gc, Obj.cells C e fz) ∈ kp ∧ cs.length ≤ C.size ∧ ∀ j, j < cs.length → C[j]? = some (.int .u64 (cs.getD j 0))
  lbB : ∃ C e fz, (lb, Obj.cells C e fz) ∈ kp ∧ 3 * l.length ≤ C.size ∧ ∀ j u, j < 3 * l.length → (comCells l)[j]? = some u → C[j]? = some u
  gp : gc ≠ Pb
  lp : lb ≠ Pb
  lg : lb ≠ gc
  low : q.P.globals.size ≤ Pb ∧ q.P.globals.size ≤ gc ∧ q.P.globals.size ≤ lb ∧ q.P.globals.size ≤ s.Gb
  g0 : ∃ t, s.g0 = .int .i64 t
  g1 : s.g1 = .int .i64 s.nn
  g2 : ∃ cap, s.g2 = .slice (some ⟨gc, 0, none⟩) cs.length cap
  n9 : s.nn ≤ 9
  c9 : cs.length ≤ 9
  c0 : 0 < cs.length
  el : ∀ j, j < cs.length → isEl (cs.getD j 0) = true
  vs : ∀ id : Nat, 1 ≤ id → id ≤ s.nn → s.vals id = pub cs id
  gd : Kpl.Good s.nn l
  l9 : l.length ≤ 9
  ln : l.length = s.n
  ms : msg.size ≤ 1000000
  nb : ∀ k, k < s.n → 0 ≤ nv k ∧ nv k < 18446744073709551616
  cb : 0 ≤ cv ∧ cv < 18446744073709551616
  zv : ∀ k, k < s.n → s.zv k = .int .u64 (nv k)
  rv : ∀ k, k < s.n → s.rv k = .bool (rightP (nv k) cv cs l msg k)
section
variable {q : Prm} {s : Scene} {K kp : List (Nat × Obj)} {nv : Nat → Int} {cv : Int} {Pb gc lb : Nat} {cs : List Int} {l : List Cm} {msg : ByteArray} {bz bp bx bc br bS oS : Nat}
theorem Box.mono {kp kp' : List (Nat × Obj)} {b : Nat} {v : Value} (h : Box kp b v) (hs : ∀ b o, (b, o) ∈ kp → (b, o) ∈ kp') : Box kp' b v := by
  obtain ⟨C, e, fz, h1, h2⟩ := h
  exact ⟨C, e, fz, hs _ _ h1, h2⟩
theorem AgD.wrk (D : AgD q s K kp nv cv Pb gc lb cs l msg bz bp bx bc br bS oS) {k bn bk : Nat} (hk : k < s.n) {kq : List (Nat × Obj)} (hs : ∀ b o, (b, o) ∈ kp → (b, o) ∈ kq) (hn : Box kq bn (.int .u64 (nv k))) (hkb : Box kq bk (.int .i64 k)) :
    WrkD q s kq k (nv k) cv Pb gc lb cs l msg bn bz bk bp bx bc br where
  hn := hn
  hz := let ⟨c, h⟩ := D.hz; ⟨c, h.mono hs⟩
  hk := hkb
  hp := D.hp.mono hs
  hx := D.hx.mono hs
  hc := D.hc.mono hs
  hr := let ⟨c, h⟩ := D.hr; ⟨c, h.mono hs⟩
  pk := let ⟨C, e, fz, cap, h1, h2⟩ := D.pk; ⟨C, e, fz, cap, hs _ _ h1, h2⟩
  gcB := let ⟨C, e, fz, h1, h2⟩ := D.gcB; ⟨C, e, fz, hs _ _ h1, h2⟩
  lbB := let ⟨C, e, fz, h1, h2⟩ := D.lbB; ⟨C, e, fz, hs _ _ h1, h2⟩
  gp := D.gp
  lp := D.lp
  lg := D.lg
  low := D.low
  g0 := D.g0
  g1 := D.g1
  g2 := D.g2
  n9 := D.n9
  c9 := D.c9
  c0 := D.c0
  el := D.el
  vs := D.vs
  gd := D.gd
  l9 := D.l9
  kl := by rw [D.ln]; exact hk
  ln := D.ln
  ms := D.ms
  nb := D.nb k hk
  cb := D.cb
  zv := D.zv k hk
  rv := D.rv k hk
theorem MAt.sub {mw : MW} {dm num : Nat} {K K' : List (Nat × Obj)} {st : St Gho} (h : MAt s mw dm num K st) (hs : ∀ b o, (b, o) ∈ K' → (b, o) ∈ K) : MAt s mw dm num K' st := ⟨h.sc, h.mw, h.dm, h.num, fun b o hb => h.fz b o (hs b o hb), fun b o hb => h.nd b o (hs b o hb)⟩
theorem al_int (w : World) : (Instr.alloc 3 true (.tuple #[])).run Try.prog w = .ok (.pointer (some ⟨w.heap.size, 0, none⟩)) (w.alloc (.cells #[.int .i64 0] 3)) ∧ (Instr.alloc 3 true (.tuple #[])).events Try.prog w #[] = #[] := by
  constructor <;> simp [go_sem]
theorem al_u64 (w : World) : (Instr.alloc 25 true (.tuple #[])).run Try.prog w = .ok (.pointer (some ⟨w.heap.size, 0, none⟩)) (w.alloc (.cells #[.int .u64 0] 25)) ∧ (Instr.alloc 25 true (.tuple #[])).events Try.prog w #[] = #[] := by
  constructor <;> simp [go_sem]
theorem st_int {w : World} {ad : Addr} {u : Value} {v : Int} (hc : w.cell? ad = some u) (hz : w.frozen? ad = false) : (Instr.storeAt 3 (.pointer (some ad)) (.int .i64 v)).run Try.prog w = .ok () (w.setCell ad (.int .i64 v)) ∧ (Instr.storeAt 3 (.pointer (some ad)) (.int .i64 v)).events Try.prog w #[] = #[⟨.cell ad, true, false⟩] := by
  constructor <;> simp [go_sem, hc, hz]
theorem st_u64 {w : World} {ad : Addr} {u : Value} {v : Int} (hc : w.cell? ad = some u) (hz : w.frozen? ad = false) : (Instr.storeAt 25 (.pointer (some ad)) (.int .u64 v)).run Try.prog w = .ok () (w.setCell ad (.int .u64 v)) ∧ (Instr.storeAt 25 (.pointer (some ad)) (.int .u64 v)).events Try.prog w #[] = #[⟨.cell ad, true, false⟩] := by
  constructor <;> simp [go_sem, hc, hz]
theorem n_wgadd : (Try.f42.name == "runtime.NumGoroutine") = false := by kernel_rfl
def wrkCall (Wg bn bz bk bp bx bc br : Nat) : Deferred := { target := .fn (.func 43) #[.pointer (some ⟨Wg, 0, none⟩), .pointer (some ⟨bn, 0, none⟩), .pointer (some ⟨bz, 0, none⟩), .pointer (some ⟨bk, 0, none⟩), .pointer (some ⟨bp, 0, none⟩), .pointer (some ⟨bx, 0, none⟩), .pointer (some ⟨bc, 0, none⟩), .pointer (some ⟨br, 0, none⟩)], args := #[] }
theorem spawn_step {P : Program} {main : Bool} {b : Frame} {a : Act} {kk : List Item} {cs : List Frame} {w : World} {ops : Array Oper} {i : Nat} {rest : List Nat} {o : Oper} {d : Deferred} {f : Fn} {c : Array Value} (ho : ops[i]? = some o) (hw : Region.wanted o (yielded ops a.tmps) = true)
    (hk : b.kind ≠ .early) (hr : (execOp a.eval o).run P w = .ok (.spawn d) w) (hd : d.target = .fn f c) (he : (execOp a.eval o).events P w #[] = #[]) :
    stepG P main (G (b.at a (.inRegion ops (i :: rest) :: kk)) cs) w = .spawn (G (b.at (a.put o.dst undef) (.inRegion ops rest :: kk)) cs) (born P d) w #[] := by
  rw [stepG_spawn ho hw hk hr hd]
  unfold listed
  rw [he, seen_none]
theorem born_wrk (Wg bn bz bk bp bx bc br : Nat) (w : World) : stepG Try.prog false (born Try.prog (wrkCall Wg bn bz bk bp bx bc br)) w =
    .go (G ((baseD 43).at ⟨#[.pointer (some ⟨Wg, 0, none⟩), .pointer (some ⟨bn, 0, none⟩), .pointer (some ⟨bz, 0, none⟩), .pointer (some ⟨bk, 0, none⟩), .pointer (some ⟨bp, 0, none⟩), .pointer (some ⟨bx, 0, none⟩), .pointer (some ⟨bc, 0, none⟩), .pointer (some ⟨br, 0, none⟩), undef, undef, undef, undef, undef, undef, undef, undef, undef, undef, undef, undef, undef, undef, undef, undef, undef, undef, undef, undef, undef, undef, undef, undef, undef, undef, undef, undef, undef, undef, undef, undef, undef, undef, undef, undef], []⟩ [.code wrkBody]) [bot Try.prog]) w #[] := by
  simp [born, wrkCall, stepG, unwind, callDeferred, invoke, callFunc, Try.func43, Try.f43, seen, GStep.after, G, Frame.enter, Frame.at, baseD, bot, wrkBody]
variable (hP : q.P = Try.prog) {bs : List Frame} {y : Nat → Value} {cap : Nat}
include hP
set_option maxRecDepth 100000 in
set_option maxHeartbeats 16000000 in
theorem agLoopGo (D : AgD q s K kp nv cv Pb gc lb cs l msg bz bp bx bc br bS oS) (hcap : s.n ≤ cap)
    (hT : ∀ (st' : St Gho) (j19 j20 j73 j74 j75 j76 j77 j78 j79 : Value), MAt s .sp 0 (s.n0 + s.n) K st' → Inv q st' → TT (cfg q) 0 (TW (cfg q)) (G ((base 16).at ⟨agT y bx bp bc br bz s.Wg bS oS cap s.n (s.n : Int) j19 j20 j73 j74 j75 j76 j77 j78 j79, []⟩ [.code agRest]) bs) st') :
    ∀ (m k : Nat) (st : St Gho) (j19 j20 j73 j74 j75 j76 j77 j78 j79 : Value), m + k = s.n → MAt s .sp 0 (s.n0 + k) K st → Inv q st → TT (cfg q) 0 (TW (cfg q)) (G ((base 16).at ⟨agT y bx bp bc br bz s.Wg bS oS cap s.n (k : Int) j19 j20 j73 j74 j75 j76 j77 j78 j79, []⟩ [.code agRnd, .inLoop agRnd, .inBlock 0, .code agRest]) bs) st
  | 0, k, st, j19, j20, j73, j74, j75, j76, j77, j78, j79, hm, hA, hI => by
    obtain rfl : k = s.n := by omega
    simp only [agRnd, agBlk, agLoopP, agBody, unseq, Try.f16, Option.getD_some, agT]
    have k0 : ¬ ((s.n : Int) < (s.n : Int)) := by omega
    have k1 : decide ((s.n : Int) < (s.n : Int)) = false := by simp
    refine TT.mroad hP hA 80 fun w₀ hF => ?_
    repeat w_go mroad_rely
    refine Goes.stop (fun w₁ r₁ => ⟨rfl, ?_⟩)
    exact hT st _ _ _ _ _ _ _ _ _ hA hI
  | m + 1, k, st, j19, j20, j73, j74, j75, j76, j77, j78, j79, hm, hA, hI => by
    have hk : k < s.n := by omega
    have k0 : (k : Int) < (s.n : Int) := by omega
    have k1 : decide ((k : Int) < (s.n : Int)) = true := by simpa using k0
    have k2 : (0 : Int) ≤ (k : Int) := by omega
    obtain ⟨obS, sh1, sh2⟩ := D.sh
    have ih := agLoopGo D hcap hT m (k + 1)
    simp only [agRnd, agBlk, agLoopP, agBody, unseq, Try.f16, Option.getD_some, agT] at ih ⊢
    refine TT.mroad hP hA 80 fun w₀ hF => ?_
    repeat w_go mroad_rely
    refine Goes.stop (fun w₁ r₁ => ⟨rfl, ?_⟩)
    clear hF r₁ w₁ w₀
    refine TT.mload hP hA (bl := bS) (off := oS + k) (v := .int .u64 (nv k)) (ob := obS) rfl rfl (by k_ne) rfl (by simp [Act.eval]) sh1 (fun w hw => ld_u64 (sh2 w k hw hk)) fun st₂ hA₂ hI₂ hx₂ => ?_
    walk_nrm
    refine TT.malloc hP hA₂ rfl rfl (by k_ne) rfl (fun w => al_int w) fun st₃ bk hA₃ hI₃ hx₃ hex₃ hne₃ _ => ?_
    walk_nrm
    refine TT.malloc hP hA₃ rfl rfl (by k_ne) rfl (fun w => al_u64 w) fun st₄ bn hA₄ hI₄ hx₄ hex₄ hne₄ hnx₄ => ?_
    walk_nrm
    have hbkn : bk ≠ bn := hne₄ bk (.cells #[.int .i64 0] 3 (0, 0)) (by simp)
    refine TT.mstore hP hA₄ (K' := (bn, .cells #[.int .u64 0] 25 (0, 0)) :: (bk, .cells #[.int .i64 k] 3 (0, 0)) :: K) (bl := bk) (off := 0) (v := .int .i64 k) (C := #[.int .i64 0]) (e := 3) rfl rfl (by k_ne) rfl (by simp [Act.eval]) (by simp [Act.eval]) (by simp) (by simp) (fun off => hx₄ _ (hex₃ off)) (fun b o hb => ?_) (by kernel_rfl) (fun w u hc hz => st_int hc hz) fun st₅ hA₅ hI₅ hx₅ => ?_
    · rcases List.mem_cons.1 hb with e | hb
      · cases e; exact .inr ⟨hbkn.symm, by simp⟩
      · rcases List.mem_cons.1 hb with e | hb
        · cases e; exact .inl ⟨rfl, rfl⟩
        · exact .inr ⟨hne₃ b o hb, by simp [hb]⟩
    walk_nrm
    refine TT.mstore hP hA₅ (K' := (bn, .cells #[.int .u64 (nv k)] 25 (0, 0)) :: (bk, .cells #[.int .i64 k] 3 (0, 0)) :: K) (bl := bn) (off := 0) (v := .int .u64 (nv k)) (C := #[.int .u64 0]) (e := 25) rfl rfl (by k_ne) rfl (by simp [Act.eval]) (by simp [Act.eval]) (by simp) (by simp) (fun off => hx₅ _ (hex₄ off)) (fun b o hb => ?_) (by kernel_rfl) (fun w u hc hz => st_u64 hc hz) fun st₆ hA₆ hI₆ _ => ?_
    · rcases List.mem_cons.1 hb with e | hb
      · cases e; exact .inl ⟨rfl, rfl⟩
      · rcases List.mem_cons.1 hb with e | hb
        · cases e; exact .inr ⟨hbkn, by simp⟩
        · exact .inr ⟨hne₄ b o (by simp [hb]), by simp [hb]⟩
    clear hA₅ hI₅ hx₅ hA₄ hI₄ hx₄ hex₄ hA₃ hI₃ hx₃ hex₃ hA₂ hI₂ hx₂ hA hI
    walk_nrm
    refine TT.mroad hP hA₆ 80 fun w₀ hF => ?_
    repeat w_go mroad_rely
    u_call Try.func42 n_wgadd Try.f42 mroad_rely hF
    refine Goes.stop (fun w₁ r₁ => ⟨rfl, ?_⟩)
    clear hF r₁ w₁ w₀
    refine maddGo hP (fun st₇ hA₇ hI₇ => ?_) hA₆
    clear hA₆ hI₆
    walk_nrm
    refine TT.mroad hP hA₇ 40 fun w₀ hF => ?_
    repeat w_go mroad_rely
    refine Goes.stop (fun w₁ r₁ => ⟨rfl, ?_⟩)
    clear hF r₁ w₁ w₀
    have w1 : IntKind.i64.wrap ((k : Int) + 1) = ((k + 1 : Nat) : Int) := by
      have := D.l9
      have := D.ln
      rw [IntKind.wrap_i64]; omega
    refine TT.fork hP hA₇ (k := k) rfl hk fun st₁ hA₁ hI₁ hC₁ => ⟨_, _, spawn_step (d := wrkCall s.Wg bn bz bk bp bx bc br) (f := .func 43) (c := #[.pointer (some ⟨s.Wg, 0, none⟩), .pointer (some ⟨bn, 0, none⟩), .pointer (some ⟨bz, 0, none⟩), .pointer (some ⟨bk, 0, none⟩), .pointer (some ⟨bp, 0, none⟩), .pointer (some ⟨bx, 0, none⟩), .pointer (some ⟨bc, 0, none⟩), .pointer (some ⟨br, 0, none⟩)]) rfl rfl (by k_ne) (by simp [go_sem, wrkCall, Deferred.ofValue]) rfl (by simp [go_sem, Deferred.ofValue]), rfl, rfl, (bn, .cells #[.int .u64 (nv k)] 25 (0, 0)) :: (bk, .cells #[.int .i64 k] 3 (0, 0)) :: kp, (fun b => (∃ o, (b, o) ∈ (bn, Obj.cells #[.int .u64 (nv k)] 25 (0, 0)) :: (bk, Obj.cells #[.int .i64 k] 3 (0, 0)) :: kp) ∧ ∀ off, st₁.γ.ex 0 (ca b off)), (fun b => ∀ off, st₁.γ.rd 0 (ca b off)), fun b hb => hb.2, fun b hb => hb, fun b o hb => ?_, fun st₂ hA₂ hI₂ => ?_, fun st₂ hA₂ hI₂ => ?_⟩
    · have hin : (b, o) ∈ (bn, Obj.cells #[.int .u64 (nv k)] 25 (0, 0)) :: (bk, Obj.cells #[.int .i64 k] 3 (0, 0)) :: K := by
        rcases List.mem_cons.1 hb with e | hb
        · rw [e]; simp
        · rcases List.mem_cons.1 hb with e | hb
          · rw [e]; simp
          · exact List.mem_cons_of_mem _ (List.mem_cons_of_mem _ (D.sub b o hb))
      obtain ⟨f1, f2⟩ := hA₁.fz b o hin
      exact ⟨f2.imp (fun f => ⟨⟨o, hb⟩, f⟩) id, f1⟩
    · have hne : (s.n0 + k == 0) = false := by
        have := hC₁.n0.1
        simp; omega
      refine TT.roadW hP hA₂ (work_ne rfl) 4 fun w₀ hF => Goes.step rfl fun w₁ hw => ?_
      show (stepG Try.prog (s.n0 + k == 0) (born Try.prog (wrkCall s.Wg bn bz bk bp bx bc br)) w₁).goes _
      rw [hne, born_wrk]
      refine ⟨by u_nil, Goes.stop fun w₂ _ => ⟨rfl, ?_⟩⟩
      exact wrkGo hP (D.wrk hk (fun b o hb => by simp [hb]) ⟨_, _, _, List.mem_cons_self .., rfl⟩ ⟨_, _, _, List.mem_cons_of_mem _ (List.mem_cons_self ..), rfl⟩) rfl rfl hA₂ hI₂
    · clear hA₁ hI₁ hC₁ hA₇ hI₇
      walk_nrm
      refine TT.mroad hP hA₂ 60 fun w₀ hF => ?_
      repeat w_nl mroad_rely
      u_c stepG_inLoop mroad_rely hF
      refine Goes.stop (fun w₁ r₁ => ⟨rfl, ?_⟩)
      exact ih st₂ _ _ _ _ _ _ _ _ _ (by omega) (hA₂.sub fun b o hb => by simp [hb]) hI₂
end
end Go.Proofs.Ytpfpokjaeffbjab.Cc
