/- Part of the proof: LgF, LgA, LgB, LgG, LgH, LgI, AggregatesWalk. -/
import Derived.Test.YtpfpokjaeffbjabGa21
import Derived.Test.YtpfpokjaeffbjabGa36
import Derived.Test.YtpfpokjaeffbjabGa38
import Derived.Test.YtpfpokjaeffbjabGa16
namespace Go.Proofs.Ytpfpokjaeffbjab.Cc
open Go.Conc Go.RowKit
set_option linter.unusedVariables false
def lSet : List FuncId := [17, 18, 51, 52, 53, 54, 55, 56, 57, 58, 59, 99, 100, 101, 102]
def lS (f : FuncId) : Bool := lSet.contains f
theorem lS_ok : FnsOk Try.prog lS := by
  intro f hf
  unfold lS lSet at hf
  simp only [List.contains_cons, List.contains_nil, Bool.or_false, Bool.or_eq_true, beq_iff_eq] at hf
  rcases hf with rfl | rfl | rfl | rfl | rfl | rfl | rfl | rfl | rfl | rfl | rfl | rfl | rfl | rfl | rfl
  · exact ⟨_, _, Try.func17, rfl, by kernel_rfl, by kernel_rfl⟩
  · exact ⟨_, _, Try.func18, rfl, by kernel_rfl, by kernel_rfl⟩
  · exact ⟨_, _, Try.func51, rfl, by kernel_rfl, by kernel_rfl⟩
  · exact ⟨_, _, Try.func52, rfl, by kernel_rfl, by kernel_rfl⟩
  · exact ⟨_, _, Try.func53, rfl, by kernel_rfl, by kernel_rfl⟩
  · exact ⟨_, _, Try.func54, rfl, by kernel_rfl, by kernel_rfl⟩
  · exact ⟨_, _, Try.func55, rfl, by kernel_rfl, by kernel_rfl⟩
  · exact ⟨_, _, Try.func56, rfl, by kernel_rfl, by kernel_rfl⟩
  · exact ⟨_, _, Try.func57, rfl, by kernel_rfl, by kernel_rfl⟩
  · exact ⟨_, _, Try.func58, rfl, by kernel_rfl, by kernel_rfl⟩
  · exact ⟨_, _, Try.func59, rfl, by kernel_rfl, by kernel_rfl⟩
  · exact ⟨_, _, Try.func99, rfl, by kernel_rfl, by kernel_rfl⟩
  · exact ⟨_, _, Try.func100, rfl, by kernel_rfl, by kernel_rfl⟩
  · exact ⟨_, _, Try.func101, rfl, by kernel_rfl, by kernel_rfl⟩
  · exact ⟨_, _, Try.func102, rfl, by kernel_rfl, by kernel_rfl⟩
end Go.Proofs.Ytpfpokjaeffbjab.Cc
namespace Go.Proofs.Ytpfpokjaeffbjab.Cc
open Go.Conc Go.ConcN Go.RowKit
open Go.Proofs.Ytpfpokjaeffbjab.Pl Go.Proofs.Ytpfpokjaeffbjab.Dpl Go.Proofs.Ytpfpokjaeffbjab.Gpl Go.Proofs.Ytpfpokjaeffbjab.Kpl Go.Proofs.Ytpfpokjaeffbjab.Mem Go.Proofs.Ytpfpokjaeffbjab.Ver Go.Proofs.Ytpfpokjaeffbjab.Pkg Go.Proofs.Ytpfpokjaeffbjab.Sls Go.Proofs.Ytpfpokjaeffbjab.Agt Go.Proofs.Ytpfpokjaeffbjab.Agp Go.Proofs.Ytpfpokjaeffbjab.Gof Go.Proofs.Ytpfpokjaeffbjab.Rag
open Go.Proofs.Ytpfpokjaeffbjab.Fld hiding base
set_option linter.unusedVariables false
set_option linter.unusedSimpArgs false
theorem TT.scall {q : Prm} {P : Program} (hP : q.P = P) {Ch : Nat → Goroutine → St Gho → Prop} {st : St Gho} {b : Frame} {a : Act} {kk : List Item} {cs : List Frame} {ops : Array Oper} {i : Nat} {rest : List Nat} {o : Oper} {f : FuncId} {args : Array Value} (ho : ops[i]? = some o) (hw : Region.wanted o (yielded ops a.tmps) = true) (hk : b.kind ≠ .early)
    (hr : ∀ w : World, (execOp a.eval o).run P w = .ok (.enter f args) w) (he : ∀ w : World, (execOp a.eval o).events P w #[] = #[])
    (h : TT (cfg q) 0 Ch (G (Frame.enter P f args .normal) (b.at a (.inRegion ops (i :: rest) :: kk) :: cs)) st) : TT (cfg q) 0 Ch (G (b.at a (.inRegion ops (i :: rest) :: kk)) cs) st := by
  subst hP
  refine TT.sroad rfl 4 fun w₀ hF => Goes.step rfl fun w₁ hw₁ => ?_
  show (stepG q.P (0 == 0) (G (b.at a (.inRegion ops (i :: rest) :: kk)) cs) w₁).goes _
  rw [stepG_enter ho hw hk (hr w₁)]
  unfold listed
  rw [he, seen_none]
  exact ⟨⟨rfl, rfl⟩, Goes.stop fun w₂ _ => ⟨rfl, h⟩⟩
theorem aggAns_val {t n : Int} {cs zs : List Int} {l : List Cm} {msg : ByteArray} {num : Nat} {K : List (Nat × Obj)} {v : Value} {st : St Gho} (hz : ∀ k, k < zs.length → 0 ≤ zs.getD k 0) (h : AggAns t n cs l msg zs.length (fun k => zs.getD k 0) num K v st) :
    ∃ (A : Option Addr) (c num' : Nat) (K' : List (Nat × Obj)), v = (ansOf t n cs l msg zs (fun k => rightP (zs.getD k 0) (chal (allP l (cs.getD 0 0) msg) (cs.getD 0 0) msg) cs l msg k)).val (.slice A (ansOf t n cs l msg zs (fun k => rightP (zs.getD k 0) (chal (allP l (cs.getD 0 0) msg) (cs.getD 0 0) msg) cs l msg k)).ids.length c) ∧
      SAt 0 num' K' st ∧ (∀ b o, (b, o) ∈ K → (b, o) ∈ K') ∧ NumsK K' .i64 A c (ansOf t n cs l msg zs (fun k => rightP (zs.getD k 0) (chal (allP l (cs.getD 0 0) msg) (cs.getD 0 0) msg) cs l msg k)).ids := by
  generalize hrt : (fun k => rightP (zs.getD k 0) (chal (allP l (cs.getD 0 0) msg) (cs.getD 0 0) msg) cs l msg k) = rt at h ⊢
  have hnil : NumsK K .i64 none 0 [] := ⟨Nat.le_refl _, .inl rfl, fun h => absurd h (by simp)⟩
  rcases h with ⟨h1, rfl, h2⟩ | ⟨h1, h2⟩
  · refine ⟨none, 0, num, K, ?_, h2, fun _ _ h => h, ?_⟩
    · unfold ansOf; rw [if_pos h1]; rfl
    · unfold ansOf; rw [if_pos h1]; exact hnil
  · rw [hrt] at h2
    have hns := aggNs h1
    rcases h2 with ⟨h3, rfl, h4⟩ | ⟨h3, c, cap, C, rfl, h4, h7, h5, h6⟩
    · refine ⟨none, 0, num + l.length, K, ?_, h4, fun _ _ h => h, ?_⟩
      · unfold ansOf; rw [if_neg (by simpa using h1), if_pos h3]
        have hall := (wrong_iff rt l l.length).1 h3
        have e1 : (List.range l.length).map (fun k => zs.getD k 0) = zs := by
          refine List.ext_getElem (by simp [hns]) fun i i1 i2 => ?_
          simp [List.getD_eq_getElem?_getD, i2]
        have e2 := sumTo_all rt zs (fun k hk => ⟨hz k hk, by
          have := hall k (by omega)
          rw [← hrt] at this
          simp only [rightP, Bool.and_eq_true, decide_eq_true_eq] at this
          exact this.1⟩) l.length (by omega) hall
        rw [e1, e2, hns]
        rfl
      · unfold ansOf; rw [if_neg (by simpa using h1), if_pos h3]; exact hnil
    · refine ⟨some ⟨c, 0, none⟩, cap, num + l.length, _, ?_, h4, fun _ _ h => List.mem_cons_of_mem _ h, ?_⟩
      · unfold ansOf; rw [if_neg (by simpa using h1), if_neg h3]; rfl
      · unfold ansOf; rw [if_neg (by simpa using h1), if_neg h3]
        exact ⟨h7, .inr ⟨c, 0, rfl, C, _, _, List.mem_cons_self ..⟩, fun _ => ⟨c, 0, rfl, C, _, _, List.mem_cons_self .., fun i hi => by rw [Nat.zero_add]; exact h6 i hi⟩⟩
end Go.Proofs.Ytpfpokjaeffbjab.Cc
namespace Go.Proofs.Ytpfpokjaeffbjab.Cc
open Go.Conc Go.ConcN
set_option linter.unusedVariables false
theorem stepG_bottom {P : Program} {b : Frame} {a : Act} {w w' : World} {fn : Func} {todo : List Item} {v : Value} (hn : b.kind = .normal) (hd : a.defers = []) (hf : P.funcs[b.fn]? = some fn) (hi : P.inits.idxOf? b.fn = none) (hr : (results fn a.tmps).run P w = .ok v w') (he : (results fn a.tmps).events P w #[] = #[]) :
    stepG P true (G { b.at a todo with mode := .returning } []) w = .ended (.done v) w' #[] := by
  have hs : seen P b.fn #[] = #[] := seen_none ..
  simp [G, stepG, unwind, doReturn, Frame.at, hn, hd, hf, hr, he, hs, hi, GStep.after]
theorem TT.bottom {q : Prm} {P : Program} (hP : q.P = P) {S : FuncId → Bool} {Ds : Nat → Bool} {ro : Nat → Md} {X : Nat → Prop} {st₀ st : St Gho} {num t : Nat} {K : List (Nat × Obj)} {Ch : Nat → Goroutine → St Gho → Prop} {fn : Func} {b : Frame} {a' : Act} {todo : List Item} (hk : b.kind = .normal) (hfn : P.funcs[b.fn]? = some fn) (hin : P.inits.idxOf? b.fn = none) (hres : fn.results = #[.tmp t]) (hD : Ds t = false)
    (hs : Sh q S Ds ro X st₀ (fun a w => a.tmps[t]? = some (.bool true)) a' st) (hA : SAt 0 num K st₀) (hKX : ∀ b o, (b, o) ∈ K → ¬ X b) (fin : ∀ st₁, SAt 0 num K st₁ → Inv q st₁ → q.Post (.bool true) st₁.w) :
    TT (cfg q) 0 Ch (G { b.at a' todo with mode := .returning } []) st := by
  obtain ⟨ρ, a, s, ha, hd, hd', hH, hV, hro, τ, d, hp⟩ := hs
  have h1 : (msk Ds a.tmps)[t]? = some (.bool true) := by rw [msk_at Ds _ hD]; exact hp
  obtain ⟨v', h2, h3⟩ := ha.get h1
  rw [msk_at Ds _ hD] at h2
  cases h3
  have hA2 : SAt 0 num K st := hA.mn hV.2.2.2.1 hKX
  refine TT.ends hP hA2 fun st₁ hr hA₁ hi => ⟨.bool true, st₁.w, stepG_bottom hk hd' hfn hin ?_ ?_, fin st₁ hA₁ hi⟩
  · unfold results; rw [hres]; simp [go_sem, h2]
  · unfold results; rw [hres]; simp [go_sem, h2]
end Go.Proofs.Ytpfpokjaeffbjab.Cc
namespace Go.Proofs.Ytpfpokjaeffbjab.Cc
open Go.Conc Go.ConcN Go.ConcM Go.RowKit Go.Conc.Lib Go.ConcR.Gen
open Go.ConcR (KK wgBlock WgAt stA smA rd wr mk DC0)
open Go.Proofs.Ytpfpokjaeffbjab.Pl Go.Proofs.Ytpfpokjaeffbjab.Dpl Go.Proofs.Ytpfpokjaeffbjab.Gpl Go.Proofs.Ytpfpokjaeffbjab.Kpl Go.Proofs.Ytpfpokjaeffbjab.Mem Go.Proofs.Ytpfpokjaeffbjab.Ver Go.Proofs.Ytpfpokjaeffbjab.Pkg Go.Proofs.Ytpfpokjaeffbjab.Sls Go.Proofs.Ytpfpokjaeffbjab.Agt Go.Proofs.Ytpfpokjaeffbjab.Agp Go.Proofs.Ytpfpokjaeffbjab.Gof Go.Proofs.Ytpfpokjaeffbjab.Rag
open Go.Proofs.Ytpfpokjaeffbjab.Fld hiding base
set_option linter.unusedVariables false
set_option linter.unusedSimpArgs false
theorem lgPieces_ok : (unseq 2 lgBody).1.all (codeOk Try.prog lS noD) = true := by kernel_rfl
def lgDs : Nat → Bool := fun i => !([1, 2, 3, 4, 8, 9, 10, 11, 12, 13, 14, 43, 44, 45, 46, 47, 48, 49, 50, 51, 52, 53, 54, 55, 56, 57, 58, 59, 60, 61, 62, 63, 64].contains i)
theorem lgRest_ok : codeOk Try.prog lS lgDs lgRest = true := by kernel_rfl
noncomputable def lgR3 : Code := match (unseq 2 lgBody).2 with | .seq a _ => a | _ => .skip
theorem lg_res : Try.f7.results = #[.tmp 8] := by kernel_rfl
theorem lgRes_ok (fn : Func) (h : Try.prog.funcs[(base 7).fn]? = some fn) : fn.results.all (resD lgDs) = true := by
  have e : Try.prog.funcs[(base 7).fn]? = some Try.f7 := Try.func7
  rw [e] at h
  cases h
  show (Try.f7).results.all (resD lgDs) = true
  kernel_rfl
def yArr65 (y : Nat → Value) : Array Value := #[y 0, y 1, y 2, y 3, y 4, y 5, y 6, y 7, y 8, y 9, y 10, y 11, y 12, y 13, y 14, y 15, y 16, y 17, y 18, y 19, y 20, y 21, y 22, y 23, y 24, y 25, y 26, y 27, y 28, y 29, y 30, y 31, y 32, y 33, y 34, y 35, y 36, y 37, y 38, y 39, y 40, y 41, y 42, y 43, y 44, y 45, y 46, y 47, y 48, y 49, y 50, y 51, y 52, y 53, y 54, y 55, y 56, y 57, y 58, y 59, y 60, y 61, y 62, y 63, y 64]
theorem slots65 (T : Array Value) (h : T.size = 65) : ∃ y : Nat → Value, T = yArr65 y ∧ ∀ i v, T[i]? = some v → y i = v := by
  refine ⟨fun i => T.getD i undef, ?_, fun i v hv => ?_⟩
  · have e : T = ((List.range 65).map fun i => T.getD i undef).toArray := by
      refine Array.ext (by simp [h]) fun i h1 h2 => ?_
      simp [Array.getD, h1]
    exact e.trans rfl
  · simp only [Array.getD]
    split
    · rename_i hlt
      rw [Array.getElem?_eq_getElem hlt] at hv
      exact Option.some.inj hv
    · rename_i hlt
      rw [Array.getElem?_eq_none (by omega)] at hv
      cases hv
set_option maxRecDepth 100000 in
theorem lg_lit (t n : Int) (cs zs : List Int) (l : List Cm) (msg : ByteArray) (A1 A2 A3 : Option Addr) (c1 c2 c3 : Nat) : #[.agg #[.int .i64 t, .int .i64 n, .slice A1 cs.length c1], .string msg, .slice A2 l.length c2, .slice A3 zs.length c3] ++ Array.replicate (65 - 4) undef = #[.agg #[.int .i64 t, .int .i64 n, .slice A1 cs.length c1], .string msg, .slice A2 l.length c2, .slice A3 zs.length c3, undef, undef, undef, undef, undef, undef, undef, undef, undef, undef, undef, undef, undef, undef, undef, undef, undef, undef, undef, undef, undef, undef, undef, undef, undef, undef, undef, undef, undef, undef, undef, undef, undef, undef, undef, undef, undef, undef, undef, undef, undef, undef, undef, undef, undef, undef, undef, undef, undef, undef, undef, undef, undef, undef, undef, undef, undef, undef, undef, undef, undef] := by kernel_rfl
theorem ld_grp3 (t n : Int) (x : Value) (hx : (∀ a, x ≠ .agg a) ∧ ∀ a, x ≠ .tuple a) {bl : Nat} (w : World) (h : w.heap[bl]? = some (.cells #[.int .i64 t, .int .i64 n, x] 28 (0, 0))) :
    (Instr.loadAt 28 (.pointer (some ⟨bl, 0, none⟩))).run Try.prog w = .ok (.agg #[.int .i64 t, .int .i64 n, x]) w ∧ ∀ e ∈ (Instr.loadAt 28 (.pointer (some ⟨bl, 0, none⟩))).events Try.prog w #[], ∃ off', e = ⟨.cell ⟨bl, off', none⟩, false, false⟩ := by
  have c0 : w.cell? ⟨bl, 0, none⟩ = some (.int .i64 t) := by simp [World.cell?, h]
  have c1 : w.cell? ⟨bl, 1, none⟩ = some (.int .i64 n) := by simp [World.cell?, h]
  have c2 : w.cell? ⟨bl, 2, none⟩ = some x := by simp [World.cell?, h]
  constructor
  · simp [go_sem, c0, c1, c2]
  · intro e he
    simp [go_sem, c0, c1, c2] at he
    rcases he with rfl | rfl | rfl <;> exact ⟨_, rfl⟩
theorem al_sigL (w : World) : (Instr.alloc 46 true (.tuple #[])).run Try.prog w = .ok (.pointer (some ⟨w.heap.size, 0, none⟩)) (w.alloc (.cells #[.int .u64 0, .int .u64 0] 46)) ∧ (Instr.alloc 46 true (.tuple #[])).events Try.prog w #[] = #[] := by
  constructor <;> simp [go_sem]
theorem st_sigL (r z : Int) {bl : Nat} (w : World) (h : w.heap[bl]? = some (.cells #[.int .u64 0, .int .u64 0] 46 (0, 0))) :
    ∃ w', ((Instr.storeAt 46 (.pointer (some ⟨bl, 0, none⟩)) (.agg #[.int .u64 r, .int .u64 z])).run Try.prog w = .ok () w' ∧ ∀ e ∈ (Instr.storeAt 46 (.pointer (some ⟨bl, 0, none⟩)) (.agg #[.int .u64 r, .int .u64 z])).events Try.prog w #[], ∃ off' x, e = ⟨.cell ⟨bl, off', none⟩, x, false⟩) ∧ w'.heap.size = w.heap.size ∧ w'.os = w.os ∧ w'.output = w.output ∧ (∀ b, b ≠ bl → w'.heap[b]? = w.heap[b]?) ∧ w'.heap[bl]? = some (.cells #[.int .u64 r, .int .u64 z] 46 (0, 0)) := by
  have B : Blk w bl 46 #[.int .u64 0, .int .u64 0] := h
  have e0 := B.cell 0
  have e1 := B.cell 1
  have f0 := B.frozen 0
  have f1 := B.frozen 1
  have B2 := ((B.set_ 0 (.int .u64 r)).set_ 1 (.int .u64 z))
  refine ⟨(w.setCell ⟨bl, 0, none⟩ (.int .u64 r)).setCell ⟨bl, 1, none⟩ (.int .u64 z), ⟨?_, ?_⟩, by simp [World.setCell], rfl, rfl, fun b hb => ?_, B2⟩
  · simp [go_sem, e0, e1, f0, f1]
  · intro e he
    simp [go_sem, e0, e1, f0, f1] at he
    rcases he with rfl | rfl <;> exact ⟨_, _, rfl⟩
  · exact (Below.heap_setCell _ ⟨bl, 1, none⟩ _ b hb).trans (Below.heap_setCell w ⟨bl, 0, none⟩ _ b hb)
end Go.Proofs.Ytpfpokjaeffbjab.Cc
namespace Go.Proofs.Ytpfpokjaeffbjab.Cc
open Go.Conc Go.ConcN Go.ConcM Go.RowKit Go.Conc.Lib Go.ConcR.Gen
open Go.ConcR (KK wgBlock WgAt stA smA rd wr mk DC0)
open Go.Proofs.Ytpfpokjaeffbjab.Pl Go.Proofs.Ytpfpokjaeffbjab.Dpl Go.Proofs.Ytpfpokjaeffbjab.Gpl Go.Proofs.Ytpfpokjaeffbjab.Kpl Go.Proofs.Ytpfpokjaeffbjab.Mem Go.Proofs.Ytpfpokjaeffbjab.Ver Go.Proofs.Ytpfpokjaeffbjab.Pkg Go.Proofs.Ytpfpokjaeffbjab.Sls Go.Proofs.Ytpfpokjaeffbjab.Agt Go.Proofs.Ytpfpokjaeffbjab.Agp Go.Proofs.Ytpfpokjaeffbjab.Gof Go.Proofs.Ytpfpokjaeffbjab.Rag
open Go.Proofs.Ytpfpokjaeffbjab.Fld hiding base
set_option linter.unusedVariables false
set_option linter.unusedSimpArgs false
theorem SlK.same {q : Prm} {S : FuncId → Bool} {dm num : Nat} {K : List (Nat × Obj)} {X : Nat → Prop} {st st' : St Gho} {ρ : Nat → Option Nat} {A : Option Addr} (h : SlK K A) (hA : SAt dm num K st) (hV : VisM q (roM (Cc.mdK K)) X st ρ st') {L c : Nat} {v' : Value} (hr : VR (fun f => S f = true) ρ (.slice A L c) v') : v' = .slice A L c := by
  rcases h with rfl | ⟨b, off, rfl, C, e, fz, h⟩
  · exact hr.nilSliceI
  · obtain ⟨c', h1, rfl⟩ := hr.sliceI
    obtain rfl := (hV.2.2.2.2 b c' h1).2.2 C.size (by unfold roM; rw [hA.mdK h]; rfl)
    rfl
theorem NumsK.sh {K : List (Nat × Obj)} {A : Option Addr} {c : Nat} {zs : List Int} {dm num : Nat} {st : St Gho} (h : NumsK K .u64 A c zs) (hA : SAt dm num K st) : 0 < zs.length → ∃ bS oS nmd, A = some ⟨bS, oS, none⟩ ∧ Cc.mdK K bS = some (.read nmd) ∧ ∃ ob, (bS, ob) ∈ K ∧ ∀ (w : World) (k : Nat), w.heap[bS]? = some ob → k < zs.length → w.cell? ⟨bS, oS + k, none⟩ = some (.int .u64 (zs.getD k 0)) := fun hl => by
  obtain ⟨b, off, e1, C, e, fz, h4, h5⟩ := h.2.2 hl
  exact ⟨b, off, C.size, e1, hA.mdK h4, _, h4, fun w k hw hk => by simp only [World.cell?, hw]; simpa using h5 k hk⟩
section
variable {q : Prm} (hP : q.P = Try.prog) {t n : Int} {cs zs : List Int} {l : List Cm} {msg : ByteArray} {A1 A2 A3 : Option Addr} {c1 c2 c3 : Nat}
include hP
set_option maxRecDepth 100000 in
set_option maxHeartbeats 8000000 in
theorem lgCall {st : St Gho} {num b4 : Nat} {K : List (Nat × Obj)} (hA : SAt 0 num K st) (hI : Inv q st) (hg0 : q.P.globals.size = 0) (hG : q.tG = 143) (hZ : q.tZ = 72) (hR : q.tR = 4) (hW : q.tW = 107)
    (h1 : NumsK K .u64 A1 c1 cs) (h2 : ComsK K A2 c2 l) (h3 : NumsK K .u64 A3 c3 zs) (hcb : ∀ i, i < cs.length → 0 ≤ cs.getD i 0) (hb : ∀ i, i < l.length → 0 ≤ (l.getD i .zero).d ∧ 0 ≤ (l.getD i .zero).e) (hzb : ∀ k, k < zs.length → 0 ≤ zs.getD k 0 ∧ zs.getD k 0 < 18446744073709551616)
    (hcl : cs.length ≤ 65536) (hms : msg.size ≤ 65536) (hll : l.length ≤ 65536) (hzl : zs.length ≤ 65536) (hK4 : (b4, .cells #[.int .i64 t, .int .i64 n, .slice A1 cs.length c1] 28 (0, 0)) ∈ K)
    {y : Nat → Value} (y1 : y 1 = .string msg) (y2 : y 2 = .slice A2 l.length c2) (y3 : y 3 = .slice A3 zs.length c3) (y4 : y 4 = .pointer (some ⟨b4, 0, none⟩)) (y8 : y 8 = .bool false) (yu : ∀ i, (9 ≤ i ∧ i < 15) ∨ (34 ≤ i ∧ i < 65) → y i = undef)
    (fin : ∀ st₁ num' K', SAt 0 num' K' st₁ → (∀ b o, (b, o) ∈ K → (b, o) ∈ K') → Inv q st₁ → q.Post (.bool true) st₁.w) :
    TT (cfg q) 0 (TW (cfg q)) (G ((base 7).at ⟨yArr65 y, []⟩ [.code (unseq 2 lgBody).2]) []) st := by
  have e2 : (unseq 2 lgBody).2 = .seq lgR3 lgRest := rfl
  obtain ⟨AT, hAT⟩ : ∃ AT, AT = lgRest := ⟨_, rfl⟩
  rw [e2, ← hAT]
  have HAT := Lib.hid hAT
  have HYU := Lib.hid yu
  have hd2 : ∀ L c A, (∀ a, Value.slice A L c ≠ .agg a) ∧ ∀ a, Value.slice A L c ≠ .tuple a := fun L c A => ⟨fun a e => (by cases e), fun a e => (by cases e)⟩
  clear hAT yu e2
  simp only [lgR3, lgBody, unseq, Try.f7, Option.getD_some, yArr65, y1, y2, y3, y4, y8]
  refine TT.sroad hP 40 fun w₀ hF => ?_
  repeat w_go sroad_rely
  refine Goes.stop (fun w₁ r₁ => ⟨rfl, ?_⟩)
  clear hF r₁ w₁ w₀
  refine TT.sloadN hP hA (bl := b4) (off := 0) (v := .agg #[.int .i64 t, .int .i64 n, .slice A1 cs.length c1]) rfl rfl (by k_ne) rfl (by simp [Act.eval]) hK4 (fun w hw => ld_grp3 t n _ (hd2 _ _ _) w hw) fun st₂ hA₂ hI₂ _ => ?_
  clear hA hI hd2
  walk_nrm
  refine TT.sroad hP 40 fun w₀ hF => ?_
  repeat w_go sroad_rely
  refine Goes.stop (fun w₁ r₁ => ⟨rfl, ?_⟩)
  clear hF r₁ w₁ w₀
  refine TT.scall hP (f := 16) (args := #[.agg #[.int .i64 t, .int .i64 n, .slice A1 cs.length c1], .string msg, .slice A2 l.length c2, .slice A3 zs.length c3]) rfl rfl (by k_ne) (fun w => ?_) (fun w => ?_) ?_
  · unfold execOp
    simp [resolve, Deferred.ofValue, invoke, callFunc, Try.func16, Try.f16, Act.eval]
  · unfold execOp
    simp [resolve, Deferred.ofValue, invoke, callFunc, Try.func16, Try.f16, Act.eval]
  have hs1 := h1.2.1
  have hs2 := h2.2.1
  have hs3 := h3.2.1
  have hsee := hA₂.seesJ hg0
  refine aggGo hP hA₂ hI₂ hG hZ hR hW (md := Cc.mdK K) (sw := shadJ aS st₂.w (Cc.mdK K)) (shadJ_size ..) hsee.lt (fun k1 k2 k3 k4 => Sh.makeJ hsee hI₂ k1 k2 k3 k4) ?_ (h1.nums hA₂) hcb hcl (h2.coms hA₂) hll hb hzl (by omega) (h3.sh hA₂) h3.1 hzb fun v st₃ hans hI₃ => ?_
  · refine ⟨rfl, fun i v v' e1 e2 => ?_⟩
    rw [e1] at e2
    cases e2
    match i, e1 with
    | 0, e1 =>
      cases e1
      refine .agg rfl fun j u u' f1 f2 => ?_
      rw [f1] at f2
      cases f2
      match j, f1 with
      | 0, f1 => cases f1; exact .int _ _
      | 1, f1 => cases f1; exact .int _ _
      | 2, f1 => cases f1; exact hs1.vr hA₂ _ _
      | j + 3, f1 => simp at f1
    | 1, e1 => cases e1; exact .string _
    | 2, e1 => cases e1; exact hs2.vr hA₂ _ _
    | 3, e1 => cases e1; exact hs3.vr hA₂ _ _
    | i + 4, e1 => simp at e1
  obtain ⟨A, c, num', K', rfl, hA₃, hs₃, hnk⟩ := aggAns_val (fun k hk => (hzb k hk).1) hans
  obtain ⟨an, han⟩ : ∃ an, ansOf t n cs l msg zs (fun k => rightP (zs.getD k 0) (chal (allP l (cs.getD 0 0) msg) (cs.getD 0 0) msg) cs l msg k) = an := ⟨_, rfl⟩
  have hil : an.ids.length ≤ l.length := by
    rw [← han]
    unfold ansOf
    split
    · simp
    · split
      · simp
      · exact wrongTo_len _ _ _
  rw [han] at hnk ⊢
  have HAN := Lib.hid han
  clear hans han hsee hA₂ hI₂
  obtain ⟨R, Z, I, E⟩ := an
  simp only [Ans.val]
  replace hnk : NumsK K' .i64 A c I := hnk
  replace hil : I.length ≤ l.length := hil
  have HNK := Lib.hid hnk
  clear hnk
  rw [Frame.finish_at]
  walk_nrm
  refine TT.sroad hP 60 fun w₀ hF => ?_
  repeat w_go sroad_rely
  refine Goes.stop (fun w₁ r₁ => ⟨rfl, ?_⟩)
  clear hF r₁ w₁ w₀
  refine TT.salloc hP hA₃ rfl rfl (by k_ne) rfl (fun w => al_sigL w) fun st₄ b9 hA₄ hI₄ hx₄ hex₄ hne₄ _ => ?_
  walk_nrm
  refine TT.sstoreN hP hA₄ (K' := (b9, .cells #[.int .u64 R, .int .u64 Z] 46 (0, 0)) :: K') (bl := b9) (off := 0) (v := .agg #[.int .u64 R, .int .u64 Z]) (ob := .cells #[.int .u64 0, .int .u64 0] 46 (0, 0)) (ob' := .cells #[.int .u64 R, .int .u64 Z] 46 (0, 0)) rfl rfl (by k_ne) rfl (by simp [Act.eval]) (by simp [Act.eval]) (List.mem_cons_self ..) hex₄ (fun b o hb => ?_) (fun w hw => st_sigL R Z w hw) fun st₅ hA₅ hI₅ _ => ?_
  · rcases List.mem_cons.1 hb with e | hb
    · cases e; exact .inl ⟨rfl, rfl⟩
    · exact .inr ⟨hne₄ b o hb, List.mem_cons_of_mem _ hb⟩
  clear hA₄ hI₄ hx₄ hex₄ hne₄ hA₃ hI₃
  walk_nrm
  refine TT.sroad hP 60 fun w₀ hF => ?_
  repeat w_go sroad_rely
  refine Goes.stop (fun w₁ r₁ => ⟨rfl, ?_⟩)
  clear hF r₁ w₁ w₀
  obtain rfl := HAT.out
  have hsub : ∀ b o, (b, o) ∈ K → (b, o) ∈ (b9, Obj.cells #[.int .u64 R, .int .u64 Z] 46 (0, 0)) :: K' := fun b o h => List.mem_cons_of_mem _ (hs₃ b o h)
  have hnk5 := HNK.out.mono (K' := (b9, Obj.cells #[.int .u64 R, .int .u64 Z] 46 (0, 0)) :: K') fun b o h => List.mem_cons_of_mem _ h
  have hK9 : (b9, Obj.cells #[.int .u64 R, .int .u64 Z] 46 (0, 0)) ∈ (b9, Obj.cells #[.int .u64 R, .int .u64 Z] 46 (0, 0)) :: K' := List.mem_cons_self ..
  have hK4' := hsub _ _ hK4
  have q1 := h1.mono hsub
  have q2 := h2.mono hsub
  have q3 := h3.mono hsub
  generalize (b9, Obj.cells #[.int .u64 R, .int .u64 Z] 46 (0, 0)) :: K' = K5 at *
  have hsee := hA₅.seesJ hg0
  have hfn : Try.prog.funcs[(base 7).fn]? = some Try.f7 := Try.func7
  refine TT.piece (X := fun _ => False) (N := fun _ _ => False) (R := fun a w => a.tmps[8]? = some (.bool true)) hP lS_ok hI₅ lgRest_ok rfl lgRes_ok (Φ := fun a w => a = ⟨lgU msg (.slice A2 l.length c2) (.slice A3 zs.length c3) (.slice A I.length c) b4 b9 E, []⟩ ∧ ∃ τ d, w = World.on (shadJ lS st₅.w (Cc.mdK K5)) τ d) (ro := roM (Cc.mdK K5)) (st₀ := st₅)
    (Sh.makeJ (a := ⟨lgU msg (.slice A2 l.length c2) (.slice A3 zs.length c3) (.slice A I.length c) b4 b9 E, []⟩) hsee hI₅ ?_ rfl rfl ⟨rfl, st₅.w.tape, st₅.w.drawn, rfl⟩) ?_ ?_ ?_
  · refine ar_msk rfl fun i v v' hd e1 e2 => ?_
    have hi : i ∈ [1, 2, 3, 4, 8, 9, 10, 11, 12, 13, 14, 43, 44, 45, 46, 47, 48, 49, 50, 51, 52, 53, 54, 55, 56, 57, 58, 59, 60, 61, 62, 63, 64] := by simpa only [lgDs, Bool.not_eq_false', List.contains_iff_mem] using hd
    simp only [List.mem_cons, List.not_mem_nil, or_false] at hi
    rcases hi with rfl | rfl | rfl | rfl | rfl | rfl | rfl | rfl | rfl | rfl | rfl | rfl | rfl | rfl | rfl | rfl | rfl | rfl | rfl | rfl | rfl | rfl | rfl | rfl | rfl | rfl | rfl | rfl | rfl | rfl | rfl | rfl | rfl
    · cases e1; cases e2; exact .string _
    · cases e1; cases e2; exact q2.2.1.vr hA₅ _ _
    · cases e1; cases e2; exact q3.2.1.vr hA₅ _ _
    · cases e1; cases e2; exact .ptr _ _ (idM_some (hA₅.mdK hK4'))
    · cases e1; cases e2; exact .bool _
    · cases e1; cases e2; exact .ptr _ _ (idM_some (hA₅.mdK hK9))
    · cases e1; cases e2; exact hnk5.2.1.vr hA₅ _ _
    · cases e1; cases e2; exact .int _ _
    · cases e1; cases e2; show VR (fun f => lS f = true) (idM (Cc.mdK K5)) undef (y 12); rw [HYU.out 12 (by omega)]; exact VR.undef
    · cases e1; cases e2; show VR (fun f => lS f = true) (idM (Cc.mdK K5)) undef (y 13); rw [HYU.out 13 (by omega)]; exact VR.undef
    · cases e1; cases e2; show VR (fun f => lS f = true) (idM (Cc.mdK K5)) undef (y 14); rw [HYU.out 14 (by omega)]; exact VR.undef
    · cases e1; cases e2; show VR (fun f => lS f = true) (idM (Cc.mdK K5)) undef (y 43); rw [HYU.out 43 (by omega)]; exact VR.undef
    · cases e1; cases e2; show VR (fun f => lS f = true) (idM (Cc.mdK K5)) undef (y 44); rw [HYU.out 44 (by omega)]; exact VR.undef
    · cases e1; cases e2; show VR (fun f => lS f = true) (idM (Cc.mdK K5)) undef (y 45); rw [HYU.out 45 (by omega)]; exact VR.undef
    · cases e1; cases e2; show VR (fun f => lS f = true) (idM (Cc.mdK K5)) undef (y 46); rw [HYU.out 46 (by omega)]; exact VR.undef
    · cases e1; cases e2; show VR (fun f => lS f = true) (idM (Cc.mdK K5)) undef (y 47); rw [HYU.out 47 (by omega)]; exact VR.undef
    · cases e1; cases e2; show VR (fun f => lS f = true) (idM (Cc.mdK K5)) undef (y 48); rw [HYU.out 48 (by omega)]; exact VR.undef
    · cases e1; cases e2; show VR (fun f => lS f = true) (idM (Cc.mdK K5)) undef (y 49); rw [HYU.out 49 (by omega)]; exact VR.undef
    · cases e1; cases e2; show VR (fun f => lS f = true) (idM (Cc.mdK K5)) undef (y 50); rw [HYU.out 50 (by omega)]; exact VR.undef
    · cases e1; cases e2; show VR (fun f => lS f = true) (idM (Cc.mdK K5)) undef (y 51); rw [HYU.out 51 (by omega)]; exact VR.undef
    · cases e1; cases e2; show VR (fun f => lS f = true) (idM (Cc.mdK K5)) undef (y 52); rw [HYU.out 52 (by omega)]; exact VR.undef
    · cases e1; cases e2; show VR (fun f => lS f = true) (idM (Cc.mdK K5)) undef (y 53); rw [HYU.out 53 (by omega)]; exact VR.undef
    · cases e1; cases e2; show VR (fun f => lS f = true) (idM (Cc.mdK K5)) undef (y 54); rw [HYU.out 54 (by omega)]; exact VR.undef
    · cases e1; cases e2; show VR (fun f => lS f = true) (idM (Cc.mdK K5)) undef (y 55); rw [HYU.out 55 (by omega)]; exact VR.undef
    · cases e1; cases e2; show VR (fun f => lS f = true) (idM (Cc.mdK K5)) undef (y 56); rw [HYU.out 56 (by omega)]; exact VR.undef
    · cases e1; cases e2; show VR (fun f => lS f = true) (idM (Cc.mdK K5)) undef (y 57); rw [HYU.out 57 (by omega)]; exact VR.undef
    · cases e1; cases e2; show VR (fun f => lS f = true) (idM (Cc.mdK K5)) undef (y 58); rw [HYU.out 58 (by omega)]; exact VR.undef
    · cases e1; cases e2; show VR (fun f => lS f = true) (idM (Cc.mdK K5)) undef (y 59); rw [HYU.out 59 (by omega)]; exact VR.undef
    · cases e1; cases e2; show VR (fun f => lS f = true) (idM (Cc.mdK K5)) undef (y 60); rw [HYU.out 60 (by omega)]; exact VR.undef
    · cases e1; cases e2; show VR (fun f => lS f = true) (idM (Cc.mdK K5)) undef (y 61); rw [HYU.out 61 (by omega)]; exact VR.undef
    · cases e1; cases e2; show VR (fun f => lS f = true) (idM (Cc.mdK K5)) undef (y 62); rw [HYU.out 62 (by omega)]; exact VR.undef
    · cases e1; cases e2; show VR (fun f => lS f = true) (idM (Cc.mdK K5)) undef (y 63); rw [HYU.out 63 (by omega)]; exact VR.undef
    · cases e1; cases e2; show VR (fun f => lS f = true) (idM (Cc.mdK K5)) undef (y 64); rw [HYU.out 64 (by omega)]; exact VR.undef
  · rintro a w τ d ⟨rfl, τ', d', rfl⟩
    refine Code.wp_mono ?_ (lgRestC (w := World.on (shadJ lS st₅.w (Cc.mdK K5)) τ d) (a := ⟨R, Z, I, E⟩) HAN.out (by show I.length ≤ 65536; omega) (q1.nums hA₅) hcl hcb (q2.coms hA₅) hll hb (q3.nums hA₅) hzl hzb (by omega) (fun k hk => rfl) (hA₅.cellJ hK4' rfl (.int _ _)) (hA₅.cellJ hK4' rfl (.int _ _)) (hA₅.cellJ hK4' rfl (q1.2.1.vr hA₅ _ _)) (hA₅.cellJ hK9 rfl (.int _ _)) (hA₅.cellJ hK9 rfl (.int _ _)) (hnk5.nums hA₅))
    rintro e a w' ⟨k1, k2, k3⟩
    exact .inr ⟨k1, k2, k3⟩
  · rintro a2 st' ⟨_, _, _, _, _, _, _, _, _, _, _, hF⟩
    exact hF.elim
  · intro a2 st' todo hs
    exact TT.bottom (Ds := lgDs) hP rfl hfn (by kernel_rfl) lg_res rfl hs hA₅ (fun _ _ _ h => h) fun st₁ k1 k2 => fin st₁ _ _ k1 hsub k2
end
end Go.Proofs.Ytpfpokjaeffbjab.Cc
namespace Go.Proofs.Ytpfpokjaeffbjab.Cc
open Go.Conc Go.ConcN Go.RowKit
open Go.Proofs.Ytpfpokjaeffbjab.Pl Go.Proofs.Ytpfpokjaeffbjab.Dpl Go.Proofs.Ytpfpokjaeffbjab.Gpl Go.Proofs.Ytpfpokjaeffbjab.Kpl Go.Proofs.Ytpfpokjaeffbjab.Mem Go.Proofs.Ytpfpokjaeffbjab.Ver Go.Proofs.Ytpfpokjaeffbjab.Pkg Go.Proofs.Ytpfpokjaeffbjab.Sls Go.Proofs.Ytpfpokjaeffbjab.Agt Go.Proofs.Ytpfpokjaeffbjab.Agp Go.Proofs.Ytpfpokjaeffbjab.Gof Go.Proofs.Ytpfpokjaeffbjab.Rag
open Go.Proofs.Ytpfpokjaeffbjab.Fld hiding base
set_option linter.unusedVariables false
set_option linter.unusedSimpArgs false
section
variable {q : Prm} (hP : q.P = Try.prog) {t n : Int} {cs zs : List Int} {l : List Cm} {msg : ByteArray} {A1 A2 A3 : Option Addr} {c1 c2 c3 : Nat}
theorem lg_har {S : FuncId → Bool} {dm num : Nat} {K : List (Nat × Obj)} {st : St Gho} (hA : SAt dm num K st) (hs1 : SlK K A1) (hs2 : SlK K A2) (hs3 : SlK K A3) : AR (fun f => S f = true) (idM (Cc.mdK K)) #[.agg #[.int .i64 t, .int .i64 n, .slice A1 cs.length c1], .string msg, .slice A2 l.length c2, .slice A3 zs.length c3] #[.agg #[.int .i64 t, .int .i64 n, .slice A1 cs.length c1], .string msg, .slice A2 l.length c2, .slice A3 zs.length c3] := by
  refine ⟨rfl, fun i v v' e1 e2 => ?_⟩
  rw [e1] at e2
  cases e2
  match i, e1 with
  | 0, e1 =>
    cases e1
    refine .agg rfl fun j u u' f1 f2 => ?_
    rw [f1] at f2
    cases f2
    match j, f1 with
    | 0, f1 => cases f1; exact .int _ _
    | 1, f1 => cases f1; exact .int _ _
    | 2, f1 => cases f1; exact hs1.vr hA _ _
    | j + 3, f1 => simp at f1
  | 1, e1 => cases e1; exact .string _
  | 2, e1 => cases e1; exact hs2.vr hA _ _
  | 3, e1 => cases e1; exact hs3.vr hA _ _
  | i + 4, e1 => simp at e1
include hP
set_option maxRecDepth 100000 in
set_option maxHeartbeats 1000000 in
theorem lgGo {st : St Gho} {num : Nat} {K : List (Nat × Obj)} (hA : SAt 0 num K st) (hI : Inv q st) (hg0 : q.P.globals.size = 0) (hG : q.tG = 143) (hZ : q.tZ = 72) (hR : q.tR = 4) (hW : q.tW = 107)
    (h1 : NumsK K .u64 A1 c1 cs) (h2 : ComsK K A2 c2 l) (h3 : NumsK K .u64 A3 c3 zs) (hcb : ∀ i, i < cs.length → 0 ≤ cs.getD i 0) (hb : ∀ i, i < l.length → 0 ≤ (l.getD i .zero).d ∧ 0 ≤ (l.getD i .zero).e) (hzb : ∀ k, k < zs.length → 0 ≤ zs.getD k 0 ∧ zs.getD k 0 < 18446744073709551616)
    (fin : ∀ st₁ num' K', SAt 0 num' K' st₁ → (∀ b o, (b, o) ∈ K → (b, o) ∈ K') → Inv q st₁ → q.Post (.bool true) st₁.w) :
    TT (cfg q) 0 (TW (cfg q)) (G (Frame.enter Try.prog 7 #[.agg #[.int .i64 t, .int .i64 n, .slice A1 cs.length c1], .string msg, .slice A2 l.length c2, .slice A3 zs.length c3] .normal) []) st := by
  have hfn : Try.prog.funcs[(base 7).fn]? = some Try.f7 := Try.func7
  have e0 : Frame.enter Try.prog 7 #[.agg #[.int .i64 t, .int .i64 n, .slice A1 cs.length c1], .string msg, .slice A2 l.length c2, .slice A3 zs.length c3] .normal = (base 7).at ⟨#[.agg #[.int .i64 t, .int .i64 n, .slice A1 cs.length c1], .string msg, .slice A2 l.length c2, .slice A3 zs.length c3] ++ Array.replicate (65 - 4) undef, []⟩ [.code lgBody] := by
    rw [enter_at (P := Try.prog) (c := lgBody) _ Try.func7 rfl]
    rfl
  rw [e0]
  have hsee := hA.seesJ hg0
  have hmk : Sh q lS noD (roM (Cc.mdK K)) (fun _ => False) st (wpT Try.prog (LgN t n (.slice A1 cs.length c1) (.slice A2 l.length c2) (.slice A3 zs.length c3) msg cs.length l.length zs.length (shadJ lS st.w (Cc.mdK K))) LgR (unseq 2 lgBody).1) ⟨#[.agg #[.int .i64 t, .int .i64 n, .slice A1 cs.length c1], .string msg, .slice A2 l.length c2, .slice A3 zs.length c3] ++ Array.replicate (65 - 4) undef, []⟩ st := by
    have ha2 : AR (fun f => lS f = true) (idM (Cc.mdK K)) (msk noD (#[.agg #[.int .i64 t, .int .i64 n, .slice A1 cs.length c1], .string msg, .slice A2 l.length c2, .slice A3 zs.length c3] ++ Array.replicate (65 - 4) undef)) (msk noD (#[.agg #[.int .i64 t, .int .i64 n, .slice A1 cs.length c1], .string msg, .slice A2 l.length c2, .slice A3 zs.length c3] ++ Array.replicate (65 - 4) undef)) := ar_args (lg_har hA h1.2.1 h2.2.1 h3.2.1)
    have hw : wpT Try.prog (LgN t n (.slice A1 cs.length c1) (.slice A2 l.length c2) (.slice A3 zs.length c3) msg cs.length l.length zs.length (shadJ lS st.w (Cc.mdK K))) LgR (unseq 2 lgBody).1 ⟨#[.agg #[.int .i64 t, .int .i64 n, .slice A1 cs.length c1], .string msg, .slice A2 l.length c2, .slice A3 zs.length c3] ++ Array.replicate (65 - 4) undef, []⟩ (World.on (shadJ lS st.w (Cc.mdK K)) st.w.tape st.w.drawn) := by
      rw [lg_lit]
      exact lgPreC (w := World.on (shadJ lS st.w (Cc.mdK K)) st.w.tape st.w.drawn) (t := t) (n := n) (A1 := A1) (A2 := A2) (A3 := A3) (L1 := cs.length) (L2 := l.length) (L3 := zs.length) (c1 := c1) (c2 := c2) (c3 := c3) (msg := msg)
    generalize #[.agg #[.int .i64 t, .int .i64 n, .slice A1 cs.length c1], .string msg, .slice A2 l.length c2, .slice A3 zs.length c3] ++ Array.replicate (65 - 4) undef = TT0 at ha2 hw ⊢
    exact Sh.makeJ (S := lS) (Ds := noD) (a := ⟨TT0, []⟩) (a' := ⟨TT0, []⟩) hsee hI ha2 rfl rfl hw
  have hpc := TT.pieces (k := []) (T := (unseq 2 lgBody).2) (cst := []) (Ch := TW (cfg q)) hP lS_ok hI (b := base 7) rfl (fun fn h => res_no fn h) ?_ ?_ (unseq 2 lgBody).1 (fun c hc => List.all_eq_true.1 lgPieces_ok c hc) _ _ hmk
  · rw [seqR_unseq] at hpc
    exact hpc
  · intro a2' st' hs
    obtain ⟨ρ, a, s, ha, hd, hd', hH, hV, hro, τ, d, ⟨b1, b2, b3, b4⟩, hsz, bk, hge, s1, s2, s3, s4, s8, su, hk⟩ := hs
    rw [shadJ_size] at hge
    have hA' : SAt 0 num K st' := hA.mn hV.2.2.2.1 fun _ _ _ h => h
    rw [msk_no, msk_no] at ha
    have roA : roM (Cc.mdK K) bk = .all := by
      unfold roM
      cases hm : Cc.mdK K bk with
      | none => rfl
      | some m => have := hsee.lt bk m hm; omega
    obtain ⟨v1, u1, r1⟩ := ha.sl s1
    obtain rfl := r1.strI
    obtain ⟨v2, u2, r2⟩ := ha.sl s2
    obtain rfl := h2.2.1.same hA hV r2
    obtain ⟨v3, u3, r3⟩ := ha.sl s3
    obtain rfl := h3.2.1.same hA hV r3
    obtain ⟨v4, u4, r4⟩ := ha.sl s4
    obtain ⟨c4, e4, rfl⟩ := r4.ptrI
    obtain ⟨v8, u8, r8⟩ := ha.sl s8
    obtain rfl := sameI r8 (by simp [plainV, solB])
    obtain ⟨c4', C4, e4', h4, a4⟩ := hH.blkAll roA hk
    rw [e4] at e4'
    cases e4'
    obtain ⟨w1, w2, w3, rfl, x1, x2, x3⟩ := AR.lit3 a4
    obtain rfl := sameI x1 (by simp [plainV, solB])
    obtain rfl := sameI x2 (by simp [plainV, solB])
    obtain rfl := h1.2.1.same hA hV x3
    obtain ⟨f1, f2, f3⟩ := fresh_of hV e4 roA hge
    have hA4 := hA'.more h4 (.inl fun off => f2 _ rfl rfl) f3
    have hsub : ∀ b o, (b, o) ∈ K → (b, o) ∈ (c4, Obj.cells #[.int .i64 t, .int .i64 n, .slice A1 cs.length c1] 28 (0, 0)) :: K := fun b o h => List.mem_cons_of_mem _ h
    obtain ⟨T, df⟩ := a2'
    obtain rfl : df = [] := hd'
    obtain ⟨y, hT, hy⟩ := slots65 T (ha.1 ▸ hsz)
    rw [hT]
    refine lgCall hP hA4 hV.2.1 hg0 hG hZ hR hW (h1.mono hsub) (h2.mono hsub) (h3.mono hsub) hcb hb hzb b1 b2 b3 b4 (List.mem_cons_self ..) (hy _ _ u1) (hy _ _ u2) (hy _ _ u3) (hy _ _ u4) (hy _ _ u8) (fun i hi => ?_) fun st₁ num' K' k1 k2 k3 => fin st₁ num' K' k1 (fun b o h => k2 b o (hsub b o h)) k3
    obtain ⟨v, z1, z2⟩ := ha.sl (su i hi)
    rw [z2.undefI] at z1
    exact hy _ _ z1
  · intro a2' st' todo hs
    exact TT.bottom (Ds := noD) hP rfl hfn (by kernel_rfl) lg_res rfl hs hA (fun _ _ _ h => h) fun st₁ k1 k2 => fin st₁ _ _ k1 (fun _ _ h => h) k2
end
end Go.Proofs.Ytpfpokjaeffbjab.Cc
namespace Go.Proofs.Ytpfpokjaeffbjab.AggregatesW
open Go.Conc Go.ConcN Go.RowKit Go.Proofs.Ytpfpokjaeffbjab.Cc
open Go.Proofs.Ytpfpokjaeffbjab.Pl Go.Proofs.Ytpfpokjaeffbjab.Mem
open Go.ConcM (OsLater)
set_option linter.unusedVariables false
def allK (W : World) : List (Nat × Obj) := (List.range W.heap.size).filterMap fun b => (W.heap[b]?).map fun o => (b, o)
theorem mem_allK {W : World} {b : Nat} {o : Obj} : (b, o) ∈ allK W ↔ W.heap[b]? = some o := by
  unfold allK
  rw [List.mem_filterMap]
  constructor
  · rintro ⟨b', hb, h⟩
    rw [Option.map_eq_some_iff] at h
    obtain ⟨o', h1, h2⟩ := h
    cases h2
    exact h1
  · intro h
    exact ⟨b, List.mem_range.2 (lt_of_block h), by rw [h]; rfl⟩
structure Kept (W W' : World) : Prop where
  os : OsLater W.os W'.os
  output : W'.output = W.output
  size : W.heap.size ≤ W'.heap.size
  block : ∀ b, b < W.heap.size → W'.heap[b]? = W.heap[b]?
noncomputable def prm (W : World) : Prm := { P := Try.prog, tG := 143, tZ := 72, tR := 4, tW := 107, os0 := W.os, out0 := W.output, Post := fun v W' => v = .bool true ∧ Kept W W' }
theorem globals0 : Try.prog.globals.size = 0 := by kernel_rfl
theorem kept_of {W : World} {num : Nat} {K : List (Nat × Obj)} {st : St Gho} (hA : SAt 0 num K st) (hs : ∀ b o, (b, o) ∈ allK W → (b, o) ∈ K) (hI : Inv (prm W) st) : Kept W st.w := by
  have hblk : ∀ b, b < W.heap.size → st.w.heap[b]? = W.heap[b]? := fun b hb => by
    have h1 : W.heap[b]? = some W.heap[b] := Array.getElem?_eq_getElem hb
    rw [h1]
    exact (hA.fz _ _ (hs b _ (mem_allK.2 h1))).1
  refine ⟨hI.base.os, hI.base.out, ?_, hblk⟩
  rcases Nat.lt_or_ge st.w.heap.size W.heap.size with h | h
  · have h1 := hblk st.w.heap.size h
    rw [Array.getElem?_eq_none (Nat.le_refl _), Array.getElem?_eq_getElem h] at h1
    cases h1
  · exact h
theorem runs {W : World} {t n : Int} {cs zs : List Int} {l : List Cm} {msg : ByteArray} {A1 A2 A3 : Option Addr} {c1 c2 c3 : Nat} (h1 : NumsK (allK W) .u64 A1 c1 cs) (h2 : ComsK (allK W) A2 c2 l) (h3 : NumsK (allK W) .u64 A3 c3 zs) (hcb : ∀ i, i < cs.length → 0 ≤ cs.getD i 0) (hb : ∀ i, i < l.length → 0 ≤ (l.getD i .zero).d ∧ 0 ≤ (l.getD i .zero).e) (hzb : ∀ k, k < zs.length → 0 ≤ zs.getD k 0 ∧ zs.getD k 0 < 18446744073709551616) :
    ∃ M last o w' t', runNT Try.prog (M + 1) (solo (G (Frame.enter Try.prog 7 #[.agg #[.int .i64 t, .int .i64 n, .slice A1 cs.length c1], .string msg, .slice A2 l.length c2, .slice A3 zs.length c3] .normal) []) W) #[] = (.ended o w', t') ∧ runN Try.prog M (solo (G (Frame.enter Try.prog 7 #[.agg #[.int .i64 t, .int .i64 n, .slice A1 cs.length c1], .string msg, .slice A2 l.length c2, .slice A3 zs.length c3] .normal) []) W) = .next last ∧ Go.step Try.prog last = .ended o w' ∧
      Conc.Good Try.prog (fun v W' => v = .bool true ∧ Kept W W') last o w' t' := by
  refine runs_of_T (q := prm W) (n := 0) (w₁ := W) (t₁ := #[]) rfl rfl (fun op h => by simp at h) rfl (by show Try.prog.globals.size ≤ _; rw [globals0]; omega) (.refl _) rfl fun st hw hI hK hex hnd => ?_
  have hA : SAt 0 1 (allK W) st := hK _ fun b o h => mem_allK.1 h
  exact lgGo rfl hA hI globals0 rfl rfl rfl rfl h1 h2 h3 hcb hb hzb fun st₁ num' K' k1 k2 k3 => ⟨rfl, kept_of k1 k2 k3⟩
end Go.Proofs.Ytpfpokjaeffbjab.AggregatesW
