/- Part of the proof: DoW, AgO, DnF. -/
import Derived.Test.YtpfpokjaeffbjabGa27
import Derived.Test.YtpfpokjaeffbjabGa21
import Derived.Test.YtpfpokjaeffbjabGa18
import Derived.Lib.Hide
import Derived.Test.YtpfpokjaeffbjabGa22
import Derived.Test.YtpfpokjaeffbjabGa13
namespace Go.Proofs.Ytpfpokjaeffbjab.Cc
open Go.Conc Go.ConcN Go.ConcM Go.RowKit Go.Conc.Lib Go.ConcR.Gen
open Go.ConcR (KK wgBlock WgAt stA smA rd wr mk DC0)
open Go.Proofs.Ytpfpokjaeffbjab.Pl Go.Proofs.Ytpfpokjaeffbjab.Dpl Go.Proofs.Ytpfpokjaeffbjab.Gpl Go.Proofs.Ytpfpokjaeffbjab.Ver
open Go.Proofs.Ytpfpokjaeffbjab.Fld hiding base
set_option linter.unusedVariables false
set_option linter.unusedSimpArgs false
theorem read_step {P : Program} {main : Bool} {b : Frame} {a : Act} {kk : List Item} {cs : List Frame} {w : World} {ops : Array Oper} {i : Nat} {rest : List Nat} {o : Oper} {t : TypeId} {x : Operand} {ad : Addr} {v : Value} (ho : ops[i]? = some o) (hw : Region.wanted o (yielded ops a.tmps) = true) (hk : b.kind ≠ .early) (hop : o.op = .load t x) (hx : a.eval x = .pointer (some ad))
    (h : (Instr.loadAt t (.pointer (some ad))).run P w = .ok v w ∧ (Instr.loadAt t (.pointer (some ad))).events P w #[] = #[⟨.cell ad, false, false⟩]) :
    stepG P main (G (b.at a (.inRegion ops (i :: rest) :: kk)) cs) w = .go (G (b.at (a.put o.dst v) (.inRegion ops rest :: kk)) cs) w (listed P b.fn a o w) ∧ ∀ e ∈ listed P b.fn a o w, e = ⟨.cell ad, false, false⟩ := by
  have hr : (execOp a.eval o).run P w = .ok (.value v) w := by
    unfold execOp
    simp only [hop, hx]
    simp [h.1]
  have he : (execOp a.eval o).events P w #[] = #[⟨.cell ad, false, false⟩] := by
    unfold execOp
    simp only [hop, hx]
    simp [h.1, h.2]
  refine ⟨stepG_value ho hw hk hr, fun e hm => ?_⟩
  have := mem_listed hm
  rw [he] at this
  simpa using this
theorem store_step {P : Program} {main : Bool} {b : Frame} {a : Act} {kk : List Item} {cs : List Frame} {w : World} {ops : Array Oper} {i : Nat} {rest : List Nat} {o : Oper} {t : TypeId} {x y : Operand} {ad : Addr} {v : Value} (ho : ops[i]? = some o) (hw : Region.wanted o (yielded ops a.tmps) = true) (hk : b.kind ≠ .early) (hop : o.op = .store t x y) (hx : a.eval x = .pointer (some ad)) (hy : a.eval y = v)
    (h : (Instr.storeAt t (.pointer (some ad)) v).run P w = .ok () (w.setCell ad v) ∧ (Instr.storeAt t (.pointer (some ad)) v).events P w #[] = #[⟨.cell ad, true, false⟩]) (hn : (P.funcs[b.fn]?).any (·.norace) = false) :
    stepG P main (G (b.at a (.inRegion ops (i :: rest) :: kk)) cs) w = .go (G (b.at (a.put o.dst undef) (.inRegion ops rest :: kk)) cs) (w.setCell ad v) #[⟨.cell ad, true, false⟩] := by
  have hr : (execOp a.eval o).run P w = .ok .skip (w.setCell ad v) := by
    unfold execOp
    simp only [hop, hx, hy]
    simp [h.1]
  have he : (execOp a.eval o).events P w #[] = #[⟨.cell ad, true, false⟩] := by
    unfold execOp
    simp only [hop, hx, hy]
    simp [h.2]
  rw [stepG_none ho hw hk hr]
  unfold listed
  rw [he, seen_def, hn]
  simp [seenStep]
theorem st_el {w : World} {ad : Addr} {u : Value} {v : Int} (hc : w.cell? ad = some u) (hz : w.frozen? ad = false) : (Instr.storeAt 85 (.pointer (some ad)) (.int .u64 v)).run Try.prog w = .ok () (w.setCell ad (.int .u64 v)) ∧ (Instr.storeAt 85 (.pointer (some ad)) (.int .u64 v)).events Try.prog w #[] = #[⟨.cell ad, true, false⟩] := by
  constructor <;> simp [go_sem, hc, hz]
section
variable {q : Prm} {i : Nat} {s : Scene} {x : Wk} {Ch : Nat → Goroutine → St Gho → Prop}
theorem TT.load {P : Program} (hP : q.P = P) {b : Frame} {a : Act} {kk : List Item} {cs : List Frame} {ops : Array Oper} {j : Nat} {rest : List Nat} {o : Oper} {t : TypeId} {y : Operand} {bl off : Nat} {v : Value} {st : St Gho} (hA : At s i x st) (hx : x.wg = .work)
    (ho : ops[j]? = some o) (hw : Region.wanted o (yielded ops a.tmps) = true) (hk : b.kind ≠ .early) (hop : o.op = .load t y) (hy : a.eval y = .pointer (some ⟨bl, off, none⟩))
    (hf : ∀ st₁, Rl i st st₁ → Inv q st₁ → At s i x st₁ → st₁.γ.rd i (ca bl off) ∧ (Instr.loadAt t (.pointer (some ⟨bl, off, none⟩))).run P st₁.w = .ok v st₁.w ∧ (Instr.loadAt t (.pointer (some ⟨bl, off, none⟩))).events P st₁.w #[] = #[⟨.cell ⟨bl, off, none⟩, false, false⟩])
    (h : ∀ st₂, Rl i st st₂ → Inv q st₂ → At s i x st₂ → TT (cfg q) i Ch (G (b.at (a.put o.dst v) (.inRegion ops rest :: kk)) cs) st₂) : TT (cfg q) i Ch (G (b.at a (.inRegion ops (j :: rest) :: kk)) cs) st :=
  TT.read hP hA hx fun st₁ hr hi hA₁ => by
    obtain ⟨f1, f2⟩ := hf st₁ hr hi hA₁
    obtain ⟨s1, s2⟩ := read_step (main := i == 0) (cs := cs) (kk := kk) (rest := rest) ho hw hk hop hy f2
    exact ⟨_, _, s1, rfl, fun e he => ⟨bl, off, s2 e he, f1⟩, h⟩
theorem ld_int {w : World} {ad : Addr} {v : Int} (hc : w.cell? ad = some (.int .i64 v)) : (Instr.loadAt 3 (.pointer (some ad))).run Try.prog w = .ok (.int .i64 v) w ∧ (Instr.loadAt 3 (.pointer (some ad))).events Try.prog w #[] = #[⟨.cell ad, false, false⟩] := by
  constructor <;> simp [go_sem, hc]
theorem ld_els {w : World} {ad : Addr} {v : Value} (hc : w.cell? ad = some v) : (Instr.loadAt 136 (.pointer (some ad))).run Try.prog w = .ok v w ∧ (Instr.loadAt 136 (.pointer (some ad))).events Try.prog w #[] = #[⟨.cell ad, false, false⟩] := by
  constructor <;> simp [go_sem, hc]
theorem ld_el {w : World} {ad : Addr} {v : Value} (hc : w.cell? ad = some v) : (Instr.loadAt 85 (.pointer (some ad))).run Try.prog w = .ok v w ∧ (Instr.loadAt 85 (.pointer (some ad))).events Try.prog w #[] = #[⟨.cell ad, false, false⟩] := by
  constructor <;> simp [go_sem, hc]
theorem At.live {st : St Gho} (h : At s i x st) (hx : x.wg ≠ .lv ∧ x.wg ≠ .gone) : Live i st := .inr (by rw [h.me]; exact hx)
def ComsAt (i gc : Nat) (cs : List Int) (st : St Gho) : Prop := (∀ off, st.γ.rd i (ca gc off)) ∧ ∀ j, j < cs.length → st.w.cell? ⟨gc, j, none⟩ = some (.int .u64 (cs.getD j 0))
theorem ComsAt.rely {gc : Nat} {cs : List Int} {st st₁ : St Gho} (h : ComsAt i gc cs st) (hl : Live i st) (hr : Rl i st st₁) : ComsAt i gc cs st₁ :=
  ⟨fun off => hr.rd hl _ (h.1 off), fun j hj => (cell_of (hr.blk hl gc (.inr h.1))).trans (h.2 j hj)⟩
theorem At.coms {gc : Nat} {cs : List Int} {st : St Gho} (h : At s i x st) {C : Array Value} {e : TypeId} {fz : Nat × Nat} (hk : (gc, Obj.cells C e fz) ∈ x.keep) (hc : ∀ j, j < cs.length → C[j]? = some (.int .u64 (cs.getD j 0))) : ComsAt i gc cs st :=
  ⟨(h.fz _ _ hk).2, fun j hj => by simp only [World.cell?, (h.fz _ _ hk).1]; exact hc j hj⟩
def LaidTo (s : Scene) (k : Nat) (st : St Gho) : Prop := ∀ id, 1 ≤ id → id < k → st.w.cell? ⟨s.Gb, 6 + id, none⟩ = some (.int .u64 (s.vals id))
theorem LaidTo.rely {k : Nat} {st st₁ : St Gho} (h : LaidTo s k st) (hk : k ≤ 10) (hA : At s i x st) (hx : x.wg = .work) (n1 : x.mx = .own .work) (hr : Rl i st st₁) : LaidTo s k st₁ := fun id i1 i2 =>
  (hr.work hA.ne (by rw [hA.me, hx]; simp) (by rw [hA.me, hx]; simp) (by rw [hA.me]; exact n1) s hA.sc (6 + id) (by omega) (by omega)).trans (h id i1 i2)
theorem SceneC.heads {st : St Gho} (h : SceneC q s st) : st.w.cell? ⟨s.Gb, 0, none⟩ = some s.g0 ∧ st.w.cell? ⟨s.Gb, 1, none⟩ = some s.g1 ∧ st.w.cell? ⟨s.Gb, 2, none⟩ = some s.g2 := by
  obtain ⟨C, c1, c2, c3, c4, c5⟩ := h.head
  refine ⟨?_, ?_, ?_⟩ <;> simp [World.cell?, c1, c3, c4, c5]
theorem ar_ints {ρ : Nat → Option Nat} {S : FuncId → Prop} {l : List Value} (h : ∀ v ∈ l, VR S ρ v v) : AR S ρ l.toArray l.toArray := ⟨rfl, fun j v v' h1 h2 => by
  rw [h1] at h2; cases h2
  simp at h1
  exact h v (List.mem_of_getElem? h1)⟩
theorem ar1 {S : FuncId → Prop} {ρ : Nat → Option Nat} {k1 : IntKind} {n1 : Int} : AR S ρ #[.int k1 n1] #[.int k1 n1] := ar_ints (l := [.int k1 n1]) (by intro v hv; simp at hv; subst hv; exact .int _ _)
theorem ar2 {S : FuncId → Prop} {ρ : Nat → Option Nat} {k1 k2 : IntKind} {n1 n2 : Int} : AR S ρ #[.int k1 n1, .int k2 n2] #[.int k1 n1, .int k2 n2] := ar_ints (l := [.int k1 n1, .int k2 n2]) (by intro v hv; simp at hv; rcases hv with rfl | rfl <;> exact .int _ _)
variable (hP : q.P = Try.prog) {b₁ : Frame} {a₁ : Act} {ops₁ : Array Oper} {i₁ : Nat} {rest₁ : List Nat} {k₁ : List Item} {cs₁ : List Frame}
noncomputable def workLoop : Code := (fLoop workBody).getD .skip
def fstC : Code → Code
  | .seq a _ => a
  | c => c
def unB : Code → Code
  | .block _ c => c
  | c => c
def fLoop2 : Code → Option Code
  | .loop c => fLoop c
  | .seq x y => match fLoop2 x with | some c => some c | none => fLoop2 y
  | .block _ c => fLoop2 c
  | _ => none
noncomputable def workIn : Code := (fLoop2 workBody).getD .skip
noncomputable def workR11 : Code := sndC (sndC (sndC (unB (fstC (sndC workLoop)))))
noncomputable def workR2 : Code := sndC (sndC workLoop)
theorem goes_callE {P : Program} {main : Bool} {b : Frame} {a : Act} {k : List Item} {cs : List Frame} {w : World} {ops : Array Oper} {i : Nat} {rest : List Nat} {o : Oper} {K : Goroutine → World → Array Event → Prop} {f : FuncId} {fn : Func} {c : Code} {args : Array Operand} {ats : Array TypeId} {vals : Array Value}
    (ho : ops[i]? = some o) (hw : Region.wanted o (yielded ops a.tmps) = true) (hk : b.kind ≠ .early) (hop : o.op = .call { callee := .value (.func f), args, argTypes := ats })
    (hf : P.funcs[f]? = some fn) (hname : (fn.name == "runtime.NumGoroutine") = false) (hb : fn.body = some c) (hv : args.map a.eval = vals)
    (h : K (G (Frame.enter P f vals .normal) (b.at a (.inRegion ops (i :: rest) :: k) :: cs)) w #[]) :
    (stepG P main (G (b.at a (.inRegion ops (i :: rest) :: k)) cs) w).goes K := by
  have hb' : fn.body.isNone = false := by rw [hb]; rfl
  subst hv
  rw [stepG_enter ho hw hk (run_call_body hop hf hname hb')]
  have : listed P b.fn a o w = #[] := by unfold listed; rw [events_call_body hop hf hname hb']; exact seen_none P _
  rw [this]
  exact h
structure WkS (q : Prm) (i : Nat) (s : Scene) (x : Wk) (gc : Nat) (cs : List Int) (k : Nat) (st : St Gho) : Prop where
  at_ : At s i x st
  inv : Inv q st
  coms : ComsAt i gc cs st
  laid : LaidTo s k st
theorem WkS.rely {gc : Nat} {cs : List Int} {k : Nat} {st st₁ : St Gho} (h : WkS q i s x gc cs k st) (hx : x.wg = .work) (n1 : x.mx = .own .work) (hk : k ≤ 10) (hr : Rl i st st₁) (hi : Inv q st₁) : WkS q i s x gc cs k st₁ :=
  ⟨h.at_.rely (by rw [hx]; simp) hr hi, hi, h.coms.rely (h.at_.live (by rw [hx]; simp)) hr, h.laid.rely hk h.at_ hx n1 hr⟩
theorem n_pow : (Try.f48.name == "runtime.NumGoroutine") = false := by kernel_rfl
theorem n_etimes : (Try.f46.name == "runtime.NumGoroutine") = false := by kernel_rfl
theorem n_stimes : (Try.f37.name == "runtime.NumGoroutine") = false := by kernel_rfl
theorem n_small : (Try.f70.name == "runtime.NumGoroutine") = false := by kernel_rfl
theorem pubS_stepW (cs : List Int) (id : Int) (j : Nat) : pubS cs id (j + 1) = emul (pubS cs id j) (pw (cs.getD j 0) (rpA id j).toNat 2147483579) := by
  have b1 := pubS_bd cs id j
  have b2 := pw_bd (cs.getD j 0) (rpA id j).toNat (m := 2147483579) (by omega)
  rw [pubS, emul_eq b1.1 (by omega) b2.1 (by omega)]
theorem rpA_stepW {id : Int} (j : Nat) (h0 : 0 ≤ id) (h1 : id < 100) : rpA id (j + 1) = smul (rpA id j) id := by
  have b := rpA_bd id j
  rw [rpA, smul_eq b.1 (by omega) h0 (by omega)]
include hP
set_option maxRecDepth 100000 in
set_option maxHeartbeats 16000000 in
theorem workInGo {cs : List Int} {gc : Nat} {cap : Nat} (hx : x.wg = .work) (n1 : x.mx = .own .work) {k : Nat} (hk1 : 1 ≤ k) (hk9 : k ≤ 9) (hl9 : cs.length ≤ 9) (hel : ∀ j, j < cs.length → isEl (cs.getD j 0) = true)
    (hT : ∀ (st : St Gho), WkS q i s x gc cs k st → ∀ (j1 j3 j5 j6 j7 j8 j9 j10 j11 j12 j13 j14 j15 j16 j17 j18 j19 j20 j21 j22 j23 j24 j25 j26 j27 j28 j29 j30 j31 j32 j33 j34 j35 j36 j37 j38 j39 : Value), TT (cfg q) i Ch (G ((base 93).at ⟨#[.pointer (some ⟨s.Gb, 0, none⟩), j1, .int .i64 k, j3, .int .u64 (pub cs k), j5, j6, j7, j8, j9, j10, j11, j12, j13, j14, j15, j16, j17, j18, j19, j20, j21, j22, j23, j24, j25, j26, j27, j28, j29, j30, j31, j32, j33, j34, j35, j36, j37, j38, j39], []⟩ [.code workR11, .inBlock 1, .code workR2, .inLoop workLoop, .inBlock 0]) (b₁.at a₁ (.inRegion ops₁ (i₁ :: rest₁) :: k₁) :: cs₁)) st) :
    ∀ (r j : Nat) (X O : Int) (st : St Gho), j + r = cs.length → X = rpA (k : Int) j → O = pubS cs (k : Int) j → WkS q i s x gc cs k st → ∀ (j1 j5 j6 j7 j8 j9 j10 j11 j12 j13 j14 j15 j16 j17 j21 j22 j23 j24 j25 j26 j27 j28 j29 j30 j31 j32 j33 j34 j35 j36 j37 j38 j39 : Value), TT (cfg q) i Ch (G ((base 93).at ⟨#[.pointer (some ⟨s.Gb, 0, none⟩), j1, .int .i64 k, .int .u64 X, .int .u64 O, j5, j6, j7, j8, j9, j10, j11, j12, j13, j14, j15, j16, j17, .slice (some ⟨gc, 0, none⟩) cs.length cap, .int .i64 cs.length, .int .i64 j, j21, j22, j23, j24, j25, j26, j27, j28, j29, j30, j31, j32, j33, j34, j35, j36, j37, j38, j39], []⟩ [.code workIn, .inLoop workIn, .inBlock 2, .code workR11, .inBlock 1, .code workR2, .inLoop workLoop, .inBlock 0]) (b₁.at a₁ (.inRegion ops₁ (i₁ :: rest₁) :: k₁) :: cs₁)) st := by
  intro r
  induction r with
  | zero =>
    intro j X O st hj hX hO hW j1 j5 j6 j7 j8 j9 j10 j11 j12 j13 j14 j15 j16 j17 j21 j22 j23 j24 j25 j26 j27 j28 j29 j30 j31 j32 j33 j34 j35 j36 j37 j38 j39
    obtain rfl : j = cs.length := by omega
    have hlt : ¬ ((cs.length : Int) < (cs.length : Int)) := by omega
    subst hO
    replace hX := Hd.mk hX
    clear hj
    simp only [workIn, workBody, fLoop, fLoop2, Try.f93, Option.getD_some]
    refine TT.road hP hW.at_ (by simp [hx]) 60 fun w₀ hF => ?_
    repeat w_go road_rely
    exact Goes.stop (fun w₁ r₁ => ⟨rfl, hT st hW _ _ _ _ _ _ _ _ _ _ _ _ _ _ _ _ _ _ _ _ _ _ _ _ _ _ _ _ _ _ _ _ _ _ _ _ _⟩)
  | succ r ih =>
    intro j X O st hj hX hO hW j1 j5 j6 j7 j8 j9 j10 j11 j12 j13 j14 j15 j16 j17 j21 j22 j23 j24 j25 j26 j27 j28 j29 j30 j31 j32 j33 j34 j35 j36 j37 j38 j39
    have hjl : j < cs.length := by omega
    have hlt : ((j : Int) < (cs.length : Int)) := by omega
    have he := isEl_bd (hel j hjl)
    have b1 := rpA_bd (k : Int) j
    have P1 := pubS_stepW cs (k : Int) j
    have P2 := rpA_stepW (id := (k : Int)) j (by omega) (by omega)
    rw [← hO, ← hX] at P1
    rw [← hX] at P2 b1
    have hcj := hW.coms.2 j hjl
    have hcoms := fun (st₁ : St Gho) (hr : Rl i st st₁) => (hW.coms.rely (hW.at_.live (by rw [hx]; simp)) hr).2 j hjl
    generalize cs.getD j 0 = C at he P1 hcoms
    obtain ⟨he1, he2⟩ := he
    obtain ⟨b1, b2⟩ := b1
    clear hcj hO hX
    replace P1 := Hd.mk P1
    replace P2 := Hd.mk P2
    replace hj := Hd.mk hj
    have b1' := Hd.mk b1
    have b2' := Hd.mk b2
    have he2' := Hd.mk he2
    have he1' := Hd.mk he1
    clear b1 b2 he1 he2
    simp only [workIn, workBody, fLoop, fLoop2, Try.f93, Option.getD_some]
    refine TT.road hP hW.at_ (by simp [hx]) 60 fun w₀ hF => ?_
    repeat w_go road_rely
    refine Goes.stop (fun w₁ r₁ => ⟨rfl, ?_⟩)
    clear hF r₁ w₁ w₀
    refine TT.load hP hW.at_ hx rfl rfl (by k_ne) rfl rfl (fun st₁ hr hi hA₁ => ⟨(hW.coms.rely (hW.at_.live (by rw [hx]; simp)) hr).1 j, ld_el (hcoms st₁ hr)⟩) fun st₂ hr₂ hI₂ hA₂ => ?_
    have hW₂ := hW.rely hx n1 (by omega) hr₂ hI₂
    refine TT.road hP hA₂ (by simp [hx]) 60 fun w₀ hF => ?_
    walk_nrm
    repeat w_go road_rely
    u_in road_rely hF
    refine goes_callE rfl rfl (by k_ne) rfl Try.func48 n_pow rfl (by simp [Act.eval]; rfl) ⟨by u_nil, ?_⟩
    refine Goes.stop (fun w₁ r₁ => ⟨rfl, ?_⟩)
    clear hF r₁ w₁ w₀
    refine TT.call hP wS_ok (by kernel_rfl) hA₂ hx hI₂ noVis_sees ar2 (.int _ _) (fun τ d => (powerI C X _ (by have := he1'.un; omega) he2'.un b1'.un (by have := b2'.un; omega)).mono fun e w' h => h.1) fun st₃ hr₃ hI₃ hA₃ => ?_
    have hW₃ := hW₂.rely hx n1 (by omega) hr₃ hI₃
    rw [Frame.finish_at]
    refine TT.road hP hA₃ (by simp [hx]) 60 fun w₀ hF => ?_
    walk_nrm
    repeat w_go road_rely
    u_in road_rely hF
    refine goes_callE rfl rfl (by k_ne) rfl Try.func46 n_etimes rfl (by simp [Act.eval]; rfl) ⟨by u_nil, ?_⟩
    refine Goes.stop (fun w₁ r₁ => ⟨rfl, ?_⟩)
    clear hF r₁ w₁ w₀
    refine TT.call hP wS_ok (by kernel_rfl) hA₃ hx hI₃ noVis_sees ar2 (.int _ _) (fun τ d => (etimes _ _ _).mono fun e w' h => h.1) fun st₄ hr₄ hI₄ hA₄ => ?_
    have hW₄ := hW₃.rely hx n1 (by omega) hr₄ hI₄
    rw [Frame.finish_at]
    refine TT.road hP hA₄ (by simp [hx]) 60 fun w₀ hF => ?_
    walk_nrm
    repeat w_go road_rely
    u_in road_rely hF
    refine goes_callE rfl rfl (by k_ne) rfl Try.func70 n_small rfl (by simp [Act.eval]; rfl) ⟨by u_nil, ?_⟩
    refine Goes.stop (fun w₁ r₁ => ⟨rfl, ?_⟩)
    clear hF r₁ w₁ w₀
    refine TT.call hP wS_ok (by kernel_rfl) hA₄ hx hI₄ noVis_sees ar1 (.int _ _) (fun τ d => (smallIs k _ (by omega) (by omega)).mono fun e w' h => h.1) fun st₅ hr₅ hI₅ hA₅ => ?_
    have hW₅ := hW₄.rely hx n1 (by omega) hr₅ hI₅
    rw [Frame.finish_at]
    refine TT.road hP hA₅ (by simp [hx]) 60 fun w₀ hF => ?_
    walk_nrm
    repeat w_go road_rely
    u_in road_rely hF
    refine goes_callE rfl rfl (by k_ne) rfl Try.func37 n_stimes rfl (by simp [Act.eval]; rfl) ⟨by u_nil, ?_⟩
    refine Goes.stop (fun w₁ r₁ => ⟨rfl, ?_⟩)
    clear hF r₁ w₁ w₀
    refine TT.call hP wS_ok (by kernel_rfl) hA₅ hx hI₅ noVis_sees ar2 (.int _ _) (fun τ d => (stimes _ _ _).mono fun e w' h => h.1) fun st₆ hr₆ hI₆ hA₆ => ?_
    have hW₆ := hW₅.rely hx n1 (by omega) hr₆ hI₆
    rw [Frame.finish_at]
    refine TT.road hP hA₆ (by simp [hx]) 60 fun w₀ hF => ?_
    have hj1 : IntKind.wrap IntKind.i64 ((j : Int) + 1) = ((j + 1 : Nat) : Int) := by rw [IntKind.wrap_i64]; omega
    walk_nrm
    repeat w_nl road_rely
    u_c stepG_inLoop road_rely hF
    refine Goes.stop (fun w₁ r₁ => ⟨rfl, ?_⟩)
    clear hF r₁ w₁ w₀
    exact ih (j + 1) _ _ st₆ (by have := hj.un; omega) P2.un.symm P1.un.symm hW₆ _ _ _ _ _ _ _ _ _ _ _ _ _ _ _ _ _ _ _ _ _ _ _ _ _ _ _ _ _ _ _ _ _
omit hP in
theorem SceneC.room {st : St Gho} (h : SceneC q s st) {off : Nat} (o1 : 6 ≤ off) (o2 : off < 16) : ∃ u, st.w.cell? ⟨s.Gb, off, none⟩ = some u := by
  obtain ⟨C, h1, h2, h3, h4, h5, h6, h7, h8, h9, h10⟩ := h.gb
  obtain ⟨v, hv⟩ := h9 off o1 o2
  exact ⟨_, by simp [World.cell?, h1, hv]; rfl⟩
set_option maxRecDepth 100000 in
set_option maxHeartbeats 16000000 in
theorem workLoopGo {cs : List Int} {gc : Nat} {cap : Nat} (hx : x.wg = .work) (n1 : x.mx = .own .work) (hn9 : s.nn ≤ 9) (hl9 : cs.length ≤ 9) (hel : ∀ j, j < cs.length → isEl (cs.getD j 0) = true)
    (hg1 : s.g1 = .int .i64 s.nn) (hg2 : s.g2 = .slice (some ⟨gc, 0, none⟩) cs.length cap) (hvs : ∀ id : Nat, 1 ≤ id → id ≤ s.nn → s.vals id = pub cs id)
    (hT : ∀ st : St Gho, WkS q i s x gc cs (s.nn + 1) st → TT (cfg q) i Ch (G (b₁.at (a₁.put ((ops₁[i₁]?).bind (·.dst)) (.tuple #[])) (.inRegion ops₁ rest₁ :: k₁)) cs₁) st) :
    ∀ (r k : Nat) (st : St Gho), k + r = s.nn + 1 → 1 ≤ k → WkS q i s x gc cs k st → ∀ (j1 j3 j4 j5 j6 j7 j8 j9 j10 j11 j12 j13 j14 j15 j16 j17 j18 j19 j20 j21 j22 j23 j24 j25 j26 j27 j28 j29 j30 j31 j32 j33 j34 j35 j36 j37 j38 j39 : Value), TT (cfg q) i Ch (G ((base 93).at ⟨#[.pointer (some ⟨s.Gb, 0, none⟩), j1, .int .i64 k, j3, j4, j5, j6, j7, j8, j9, j10, j11, j12, j13, j14, j15, j16, j17, j18, j19, j20, j21, j22, j23, j24, j25, j26, j27, j28, j29, j30, j31, j32, j33, j34, j35, j36, j37, j38, j39], []⟩ [.code workLoop, .inLoop workLoop, .inBlock 0]) (b₁.at a₁ (.inRegion ops₁ (i₁ :: rest₁) :: k₁) :: cs₁)) st := by
  intro r
  induction r with
  | zero =>
    intro k st hk hk1 hW j1 j3 j4 j5 j6 j7 j8 j9 j10 j11 j12 j13 j14 j15 j16 j17 j18 j19 j20 j21 j22 j23 j24 j25 j26 j27 j28 j29 j30 j31 j32 j33 j34 j35 j36 j37 j38 j39
    obtain hke : k = s.nn + 1 := by omega
    have hlt : ¬ (k : Int) ≤ (s.nn : Int) := by omega
    clear hk
    replace hke := Hd.mk hke
    have hk10 : k ≤ 10 := by have := hke.un; omega
    simp only [workLoop, workBody, fLoop, Try.f93, Option.getD_some]
    refine TT.road hP hW.at_ (by simp [hx]) 60 fun w₀ hF => ?_
    repeat w_go road_rely
    refine Goes.stop (fun w₁ r₁ => ⟨rfl, ?_⟩)
    clear hF r₁ w₁ w₀
    refine TT.load hP hW.at_ hx rfl rfl (by k_ne) rfl rfl (fun st₁ hr hi hA₁ => ⟨(hi.scene s hA₁.sc).p.rdG i hA₁.mem 1 (by omega), ld_int ((hi.scene s hA₁.sc).c.heads.2.1.trans (by rw [hg1]))⟩) fun st₂ hr₂ hI₂ hA₂ => ?_
    have hW₂ := hW.rely hx n1 hk10 hr₂ hI₂
    rw [hke.un] at hW₂
    refine TT.road hP hA₂ (by simp [hx]) 60 fun w₀ hF => ?_
    walk_nrm
    repeat w_go road_rely
    u_leave0 Try.func93 road_rely hF
    exact Goes.stop (fun w₁ r₁ => ⟨rfl, hT st₂ hW₂⟩)
  | succ r ih =>
    intro k st hk hk1 hW j1 j3 j4 j5 j6 j7 j8 j9 j10 j11 j12 j13 j14 j15 j16 j17 j18 j19 j20 j21 j22 j23 j24 j25 j26 j27 j28 j29 j30 j31 j32 j33 j34 j35 j36 j37 j38 j39
    have hkn : k ≤ s.nn := by omega
    have hlt : (k : Int) ≤ (s.nn : Int) := by omega
    replace hk := Hd.mk hk
    simp only [workLoop, workBody, fLoop, Try.f93, Option.getD_some]
    refine TT.road hP hW.at_ (by simp [hx]) 60 fun w₀ hF => ?_
    repeat w_go road_rely
    refine Goes.stop (fun w₁ r₁ => ⟨rfl, ?_⟩)
    clear hF r₁ w₁ w₀
    refine TT.load hP hW.at_ hx rfl rfl (by k_ne) rfl rfl (fun st₁ hr hi hA₁ => ⟨(hi.scene s hA₁.sc).p.rdG i hA₁.mem 1 (by omega), ld_int ((hi.scene s hA₁.sc).c.heads.2.1.trans (by rw [hg1]))⟩) fun st₂ hr₂ hI₂ hA₂ => ?_
    have hW₂ := hW.rely hx n1 (by omega) hr₂ hI₂
    refine TT.road hP hA₂ (by simp [hx]) 60 fun w₀ hF => ?_
    walk_nrm
    repeat w_go road_rely
    refine Goes.stop (fun w₁ r₁ => ⟨rfl, ?_⟩)
    clear hF r₁ w₁ w₀
    refine TT.load hP hA₂ hx rfl rfl (by k_ne) rfl rfl (fun st₁ hr hi hA₁ => ⟨(hi.scene s hA₁.sc).p.rdG i hA₁.mem 2 (by omega), ld_els ((hi.scene s hA₁.sc).c.heads.2.2.trans (by rw [hg2]))⟩) fun st₃ hr₃ hI₃ hA₃ => ?_
    have hW₃ := hW₂.rely hx n1 (by omega) hr₃ hI₃
    refine TT.road hP hA₃ (by simp [hx]) 60 fun w₀ hF => ?_
    walk_nrm
    repeat w_but "code.loop" road_rely
    u_c stepG_loop road_rely hF
    refine Goes.stop (fun w₁ r₁ => ⟨rfl, ?_⟩)
    clear hF r₁ w₁ w₀
    refine workInGo hP hx n1 hk1 (by omega) hl9 hel ?_ cs.length 0 1 1 st₃ (by omega) rfl rfl hW₃ _ _ _ _ _ _ _ _ _ _ _ _ _ _ _ _ _ _ _ _ _ _ _ _ _ _ _ _ _ _ _ _ _
    intro st₄ hW₄ j1 j3 j5 j6 j7 j8 j9 j10 j11 j12 j13 j14 j15 j16 j17 j18 j19 j20 j21 j22 j23 j24 j25 j26 j27 j28 j29 j30 j31 j32 j33 j34 j35 j36 j37 j38 j39
    simp only [workR11, workR2, workLoop, workBody, fLoop, sndC, fstC, unB, Try.f93, Option.getD_some]
    have q1 : (0 : Int) ≤ (k : Int) := by omega
    have q2 : (k : Int) < 10 := by omega
    have q3 : k < 10 := by omega
    have hix : ∀ (w : World) (es : Array Event), (Instr.indexAt 141 (.pointer (some ⟨s.Gb, 6, none⟩)) (.int .i64 (k : Int))).events Try.prog w es = es := fun w es => events_indexAt_array _ _ 10 _ _ _ Try.underlying141 ⟨q1, by simpa using q2⟩
    refine TT.road hP hW₄.at_ (by simp [hx]) 60 fun w₀ hF => ?_
    repeat w_go road_rely
    refine Goes.stop (fun w₁ r₁ => ⟨rfl, ?_⟩)
    clear hF r₁ w₁ w₀
    refine TT.share hP hW₄.at_ hx n1 (off := 6 + k) (by omega) (by omega) (pub cs k) fun st₅ hr₅ hA₅ hI₅ hC₅ => ?_
    obtain ⟨u, hu⟩ := hC₅.room (off := 6 + k) (by omega) (by omega)
    have hcm := hW₄.coms.rely (hW₄.at_.live (by rw [hx]; simp)) hr₅
    have hne : gc ≠ s.Gb := fun e => by
      obtain ⟨_, o, ho⟩ := (hI₅.scene s hA₅.sc).p.spec i s.Gb (.inl rfl)
      exact ho (by rw [← e]; exact hcm.1 o)
    refine ⟨_, store_step rfl rfl (by k_ne) rfl rfl rfl (st_el hu (hC₅.gb.cell.2.2.2 _)) (by kernel_rfl), rfl, fun st₆ hA₆ hI₆ hc₆ hs₆ hγ hb₆ => ?_⟩
    have hW₆ : WkS q i s x gc cs (k + 1) st₆ := by
      refine ⟨hA₆, hI₆, ⟨fun o => by rw [hγ]; exact hcm.1 o, fun j hj => (cell_of (hb₆ gc hne)).trans (hcm.2 j hj)⟩, fun id i1 i2 => ?_⟩
      by_cases e : id = k
      · subst e; rw [hc₆, hvs id i1 (by omega)]
      · rw [hs₆ (6 + id) (by omega) (by omega) (by omega)]
        exact hW₄.laid id i1 (by omega)
    have hk1' : IntKind.wrap IntKind.i64 ((k : Int) + 1) = ((k + 1 : Nat) : Int) := by rw [IntKind.wrap_i64]; omega
    clear hc₆ hs₆ hb₆ hγ hcm hu hix
    refine TT.road hP hA₆ (by simp [hx]) 60 fun w₀ hF => ?_
    walk_nrm
    repeat w_nl road_rely
    u_c stepG_inLoop road_rely hF
    refine Goes.stop (fun w₁ r₁ => ⟨rfl, ?_⟩)
    clear hF r₁ w₁ w₀
    exact ih (k + 1) st₆ (by have := hk.un; omega) (by omega) hW₆ _ _ _ _ _ _ _ _ _ _ _ _ _ _ _ _ _ _ _ _ _ _ _ _ _ _ _ _ _ _ _ _ _ _ _ _ _ _
set_option maxRecDepth 100000 in
set_option maxHeartbeats 16000000 in
theorem workGo {cs : List Int} {gc : Nat} {cap : Nat} (hx : x.wg = .work) (hn9 : s.nn ≤ 9) (hl9 : cs.length ≤ 9) (hel : ∀ j, j < cs.length → isEl (cs.getD j 0) = true)
    (hg1 : s.g1 = .int .i64 s.nn) (hg2 : s.g2 = .slice (some ⟨gc, 0, none⟩) cs.length cap) (hvs : ∀ id : Nat, 1 ≤ id → id ≤ s.nn → s.vals id = pub cs id) {C : Array Value} {e : TypeId} {fz : Nat × Nat} (hkeep : (gc, Obj.cells C e fz) ∈ x.keep) (hcs : ∀ j, j < cs.length → C[j]? = some (.int .u64 (cs.getD j 0))) : WorkOk q i Ch s x := by
  intro b₁ a₁ ops₁ i₁ rest₁ k₁ cs₁ st hA hI hT
  simp only [workBody, Try.f93, Option.getD_some]
  refine TT.road hP hA (by simp [hx]) 60 fun w₀ hF => ?_
  repeat w_but "code.loop" road_rely
  u_c stepG_loop road_rely hF
  refine Goes.stop (fun w₁ r₁ => ⟨rfl, ?_⟩)
  clear hF r₁ w₁ w₀
  refine workLoopGo hP (x := { x with mx := .own .work, df := 0 }) hx rfl hn9 hl9 hel hg1 hg2 hvs (fun st₂ hW => hT st₂ hW.at_ hW.inv fun id i1 i2 => hW.laid id i1 (by omega)) s.nn 1 st (by omega) (by omega) ⟨hA, hI, hA.coms hkeep hcs, fun id i1 i2 => by omega⟩ _ _ _ _ _ _ _ _ _ _ _ _ _ _ _ _ _ _ _ _ _ _ _ _ _ _ _ _ _ _ _ _ _ _ _ _ _ _
end
end Go.Proofs.Ytpfpokjaeffbjab.Cc
namespace Go.Proofs.Ytpfpokjaeffbjab.Cc
open Go.Conc Go.ConcN
open Go.ConcM (OsLater)
set_option linter.unusedVariables false
set_option linter.unusedSimpArgs false
theorem alloc_step {P : Program} {main : Bool} {b : Frame} {a : Act} {kk : List Item} {cs : List Frame} {w : World} {ops : Array Oper} {i : Nat} {rest : List Nat} {o : Oper} {t : TypeId} {ob : Obj} (ho : ops[i]? = some o) (hw : Region.wanted o (yielded ops a.tmps) = true) (hk : b.kind ≠ .early) (hop : o.op = .alloc t)
    (h : (Instr.alloc t true (.tuple #[])).run P w = .ok (.pointer (some ⟨w.heap.size, 0, none⟩)) (w.alloc ob) ∧ (Instr.alloc t true (.tuple #[])).events P w #[] = #[]) :
    stepG P main (G (b.at a (.inRegion ops (i :: rest) :: kk)) cs) w = .go (G (b.at (a.put o.dst (.pointer (some ⟨w.heap.size, 0, none⟩))) (.inRegion ops rest :: kk)) cs) (w.alloc ob) #[] := by
  have hr : (execOp a.eval o).run P w = .ok (.value (.pointer (some ⟨w.heap.size, 0, none⟩))) (w.alloc ob) := by
    unfold execOp
    simp only [hop]
    simp [h.1]
  have he : (execOp a.eval o).events P w #[] = #[] := by
    unfold execOp
    simp only [hop]
    simp [h.1, h.2]
  rw [stepG_value ho hw hk hr]
  unfold listed
  rw [he, seen_none]
section
variable {q : Prm} {s : Scene} {mw : MW} {dm num : Nat} {K : List (Nat × Obj)} {Ch : Nat → Goroutine → St Gho → Prop} {P : Program} (hP : q.P = P) {b : Frame} {a : Act} {kk : List Item} {cs : List Frame} {ops : Array Oper} {j : Nat} {rest : List Nat} {o : Oper}
theorem MAt.keeps {st : St Gho} (h : MAt s mw dm num K st) {w' : World} (hw : ∀ b, b < st.w.heap.size → w'.heap[b]? = st.w.heap[b]?) : KeptBy st w' K := fun b o hb => by
  obtain ⟨h1, h2⟩ := h.fz b o hb
  exact ⟨(hw b (lt_of_block h1)).trans h1, h2.imp id .inl, h.nd b o hb⟩
include hP
theorem TT.mload {st : St Gho} (hA : MAt s mw dm num K st) {t : TypeId} {y : Operand} {bl off : Nat} {v : Value} {ob : Obj} (ho : ops[j]? = some o) (hw : Region.wanted o (yielded ops a.tmps) = true) (hk : b.kind ≠ .early) (hop : o.op = .load t y) (hy : a.eval y = .pointer (some ⟨bl, off, none⟩)) (hK : (bl, ob) ∈ K)
    (hf : ∀ w : World, w.heap[bl]? = some ob → (Instr.loadAt t (.pointer (some ⟨bl, off, none⟩))).run P w = .ok v w ∧ (Instr.loadAt t (.pointer (some ⟨bl, off, none⟩))).events P w #[] = #[⟨.cell ⟨bl, off, none⟩, false, false⟩])
    (h : ∀ st₂, MAt s mw dm num K st₂ → Inv q st₂ → (∀ l, st.γ.ex 0 l → st₂.γ.ex 0 l) → TT (cfg q) 0 Ch (G (b.at (a.put o.dst v) (.inRegion ops rest :: kk)) cs) st₂) : TT (cfg q) 0 Ch (G (b.at a (.inRegion ops (j :: rest) :: kk)) cs) st := by
  refine TT.mown hP hA fun st₁ hr hA₁ hi => ?_
  obtain ⟨f1, f2⟩ := hA₁.fz _ _ hK
  obtain ⟨a1, _⟩ := hA₁.apart hi hK
  obtain ⟨s1, s2⟩ := read_step (P := P) (main := (0 : Nat) == 0) (cs := cs) (kk := kk) (rest := rest) ho hw hk hop hy (hf st₁.w f1)
  refine ⟨_, _, _, K, s1, rfl, ⟨Nat.le_refl _, fun e he => ⟨bl, off, false, s2 e he, lt_of_block f1, fun s' hs' => ?_, f2.elim (fun f => .inl (f off)) fun f => .inr (.inl ⟨rfl, f off⟩)⟩, rfl, rfl, fun _ _ => .inl rfl⟩, hA₁.keeps fun _ _ => rfl, fun st₂ _ hA₂ hI₂ hex _ => h st₂ hA₂ hI₂ fun l hl => hex l (hr.ex (.inl rfl) l hl)⟩
  rw [hA₁.sc] at hs'; cases hs'; exact a1
theorem TT.malloc {st : St Gho} (hA : MAt s mw dm num K st) {t : TypeId} {ob : Obj} (ho : ops[j]? = some o) (hw : Region.wanted o (yielded ops a.tmps) = true) (hk : b.kind ≠ .early) (hop : o.op = .alloc t)
    (hf : ∀ w : World, (Instr.alloc t true (.tuple #[])).run P w = .ok (.pointer (some ⟨w.heap.size, 0, none⟩)) (w.alloc ob) ∧ (Instr.alloc t true (.tuple #[])).events P w #[] = #[])
    (h : ∀ st₂ bl, MAt s mw dm num ((bl, ob) :: K) st₂ → Inv q st₂ → (∀ l, st.γ.ex 0 l → st₂.γ.ex 0 l) → (∀ off, st₂.γ.ex 0 (ca bl off)) → (∀ b o, (b, o) ∈ K → b ≠ bl) → (∀ l b, st.γ.ex 0 l → lblk l = some b → b ≠ bl) → TT (cfg q) 0 Ch (G (b.at (a.put o.dst (.pointer (some ⟨bl, 0, none⟩))) (.inRegion ops rest :: kk)) cs) st₂) : TT (cfg q) 0 Ch (G (b.at a (.inRegion ops (j :: rest) :: kk)) cs) st := by
  refine TT.mown hP hA fun st₁ hr hA₁ hi => ?_
  have hsz : (st₁.w.alloc ob).heap.size = st₁.w.heap.size + 1 := Array.size_push ..
  have hold : ∀ b, b < st₁.w.heap.size → (st₁.w.alloc ob).heap[b]? = st₁.w.heap[b]? := fun b hb => (Array.getElem?_push ..).trans (if_neg (by omega))
  have hnew : (st₁.w.alloc ob).heap[st₁.w.heap.size]? = some ob := (Array.getElem?_push ..).trans (if_pos rfl)
  refine ⟨_, _, _, (st₁.w.heap.size, ob) :: K, alloc_step ho hw hk hop (hf st₁.w), rfl, ⟨by omega, fun e he => by simp at he, rfl, rfl, fun b hb => .inl (hold b hb)⟩, fun b o' hb => ?_, fun st₂ _ hA₂ hI₂ hex hnw => h st₂ _ hA₂ hI₂ (fun l hl => hex l (hr.ex (.inl rfl) l hl)) (fun off => hnw _ off (Nat.le_refl _) (by omega)) (fun b o' hb e => ?_) fun l b hl hb e => ?_⟩
  · rcases List.mem_cons.1 hb with e | hb
    · cases e
      exact ⟨hnew, .inr (.inr (Nat.le_refl _)), fun hd => by have := hi.base.dead _ hd; omega⟩
    · exact (hA₁.keeps hold) b o' hb
  · have := lt_of_block (hA₁.fz _ _ hb).1
    omega
  · have := hi.base.tr.apt.low 0 l (hr.ex (.inl rfl) l hl) b hb
    omega
theorem TT.mstore {st : St Gho} (hA : MAt s mw dm num K st) {K' : List (Nat × Obj)} {t : TypeId} {y z : Operand} {bl off : Nat} {v : Value} {C : Array Value} {e : TypeId} (ho : ops[j]? = some o) (hw : Region.wanted o (yielded ops a.tmps) = true) (hk : b.kind ≠ .early) (hop : o.op = .store t y z) (hy : a.eval y = .pointer (some ⟨bl, off, none⟩)) (hz : a.eval z = v) (hK : (bl, .cells C e (0, 0)) ∈ K) (hlt : off < C.size)
    (hex : ∀ off, st.γ.ex 0 (ca bl off)) (hK' : ∀ b o, (b, o) ∈ K' → (b = bl ∧ o = .cells (C.setIfInBounds off v) e (0, 0)) ∨ (b ≠ bl ∧ (b, o) ∈ K)) (hn : (P.funcs[b.fn]?).any (·.norace) = false)
    (hf : ∀ (w : World) (u : Value), w.cell? ⟨bl, off, none⟩ = some u → w.frozen? ⟨bl, off, none⟩ = false → (Instr.storeAt t (.pointer (some ⟨bl, off, none⟩)) v).run P w = .ok () (w.setCell ⟨bl, off, none⟩ v) ∧ (Instr.storeAt t (.pointer (some ⟨bl, off, none⟩)) v).events P w #[] = #[⟨.cell ⟨bl, off, none⟩, true, false⟩])
    (h : ∀ st₂, MAt s mw dm num K' st₂ → Inv q st₂ → (∀ l, st.γ.ex 0 l → st₂.γ.ex 0 l) → TT (cfg q) 0 Ch (G (b.at (a.put o.dst undef) (.inRegion ops rest :: kk)) cs) st₂) : TT (cfg q) 0 Ch (G (b.at a (.inRegion ops (j :: rest) :: kk)) cs) st := by
  refine TT.mown hP hA fun st₁ hr hA₁ hi => ?_
  obtain ⟨f1, f2⟩ := hA₁.fz _ _ hK
  obtain ⟨a1, _⟩ := hA₁.apart hi hK
  have hcell : st₁.w.cell? ⟨bl, off, none⟩ = some C[off] := by simp only [World.cell?, f1]; exact Array.getElem?_eq_getElem hlt
  have hfrz : st₁.w.frozen? ⟨bl, off, none⟩ = false := by simp [World.frozen?, f1]
  have W := aside_setCell st₁.w ⟨bl, off, none⟩ v
  have hblk : (st₁.w.setCell ⟨bl, off, none⟩ v).heap[bl]? = some (.cells (C.setIfInBounds off v) e (0, 0)) := by
    simp [World.setCell, Array.getElem?_modify, f1]
  refine ⟨_, _, _, K', store_step ho hw hk hop hy hz (hf st₁.w _ hcell hfrz) hn, rfl, ⟨Nat.le_of_eq W.size.symm, fun e' he => ?_, W.os, W.output, fun b hb => ?_⟩, fun b o' hb => ?_, fun st₂ _ hA₂ hI₂ hx _ => h st₂ hA₂ hI₂ fun l hl => hx l (hr.ex (.inl rfl) l hl)⟩
  · simp at he; subst he
    exact ⟨bl, off, true, rfl, by rw [W.size]; exact lt_of_block f1, fun s' hs' => (by rw [hA₁.sc] at hs'; cases hs'; exact a1), .inl (hr.ex (.inl rfl) _ (hex off))⟩
  · by_cases e1 : b = bl
    · subst e1; exact .inr fun off => hr.ex (.inl rfl) _ (hex off)
    · exact .inl (W.block b e1)
  · rcases hK' b o' hb with ⟨rfl, rfl⟩ | ⟨e1, hb'⟩
    · exact ⟨hblk, .inl fun off => hr.ex (.inl rfl) _ (hex off), hA₁.nd _ _ hK⟩
    · obtain ⟨g1, g2⟩ := hA₁.fz _ _ hb'
      exact ⟨(W.block b e1).trans g1, g2.imp id .inl, hA₁.nd _ _ hb'⟩
end
end Go.Proofs.Ytpfpokjaeffbjab.Cc
namespace Go.Proofs.Ytpfpokjaeffbjab.Cc
open Go.Conc Go.ConcN Go.ConcM Go.RowKit Go.Conc.Lib Go.ConcR.Gen
open Go.ConcR (KK wgBlock WgAt stA smA rd wr mk DC0)
set_option linter.unusedVariables false
theorem n_bub : (Try.f82.name == "runtime.NumGoroutine") = false := by kernel_rfl
theorem b_bub : Try.f82.body.isNone = true := by kernel_rfl
theorem x_bub : Extern.findNext Try.f82 = none := by kernel_rfl
theorem f_bub : Extern.find Try.f82 = some (fun _ => pure (.bool false)) := by kernel_rfl
theorem n_add64 : (Try.f112.name == "runtime.NumGoroutine") = false := by kernel_rfl
theorem b_add64 : Try.f112.body.isNone = true := by kernel_rfl
theorem x_add64 : Extern.findNext Try.f112 = none := by kernel_rfl
theorem f_add64 : Extern.find Try.f112 = some (Extern.Atomic.update (Op.intArith .add) .u64 true) := by kernel_rfl
theorem n_ld64 : (Try.f113.name == "runtime.NumGoroutine") = false := by kernel_rfl
theorem b_ld64 : Try.f113.body.isNone = true := by kernel_rfl
theorem x_ld64 : Extern.findNext Try.f113 = none := by kernel_rfl
theorem f_ld64 : Extern.find Try.f113 = some (Extern.Atomic.loadT (.int .u64)) := by kernel_rfl
theorem n_st64 : (Try.f114.name == "runtime.NumGoroutine") = false := by kernel_rfl
theorem b_st64 : Try.f114.body.isNone = true := by kernel_rfl
theorem x_st64 : Extern.findNext Try.f114 = none := by kernel_rfl
theorem f_st64 : Extern.find Try.f114 = some (Extern.Atomic.storeT) := by kernel_rfl
theorem n_cas64 : (Try.f117.name == "runtime.NumGoroutine") = false := by kernel_rfl
theorem b_cas64 : Try.f117.body.isNone = true := by kernel_rfl
theorem x_cas64 : Extern.findNext Try.f117 = none := by kernel_rfl
theorem f_cas64 : Extern.find Try.f117 = some (Extern.Atomic.casT (.int .u64)) := by kernel_rfl
theorem n_wsrel : (Try.f91.name == "runtime.NumGoroutine") = false := by kernel_rfl
theorem b_wsrel : Try.f91.body.isNone = true := by kernel_rfl
theorem x_wsrel : Extern.findNext Try.f91 = none := by kernel_rfl
theorem f_wsrel : Extern.find Try.f91 = some (Extern.Sync.semrelease) := by kernel_rfl
theorem n_wsem : (Try.f98.name == "runtime.NumGoroutine") = false := by kernel_rfl
theorem b_wsem : Try.f98.body.isNone = true := by kernel_rfl
theorem x_wsem : Extern.findNext Try.f98 = none := by kernel_rfl
theorem f_wsem : Extern.find Try.f98 = some (Extern.Sync.semacquire) := by kernel_rfl
theorem n_rread : (Try.f87.name == "runtime.NumGoroutine") = false := by kernel_rfl
theorem b_rread : Try.f87.body.isNone = true := by kernel_rfl
theorem x_rread : Extern.findNext Try.f87 = none := by kernel_rfl
theorem f_rread : Extern.find Try.f87 = some (Extern.Race.marked .read) := by kernel_rfl
theorem n_rwrite : (Try.f97.name == "runtime.NumGoroutine") = false := by kernel_rfl
theorem b_rwrite : Try.f97.body.isNone = true := by kernel_rfl
theorem x_rwrite : Extern.findNext Try.f97 = none := by kernel_rfl
theorem f_rwrite : Extern.find Try.f97 = some (Extern.Race.marked .write) := by kernel_rfl
theorem n_wadd : (Try.f42.name == "runtime.NumGoroutine") = false := by kernel_rfl
theorem n_wdone : (Try.f44.name == "runtime.NumGoroutine") = false := by kernel_rfl
theorem n_uadd : (Try.f86.name == "runtime.NumGoroutine") = false := by kernel_rfl
theorem n_uload : (Try.f88.name == "runtime.NumGoroutine") = false := by kernel_rfl
theorem n_ustore : (Try.f89.name == "runtime.NumGoroutine") = false := by kernel_rfl
theorem n_ucas : (Try.f96.name == "runtime.NumGoroutine") = false := by kernel_rfl
theorem u_wgp : Try.prog.underlying 155 = some (.pointer 107) := by kernel_rfl
theorem z_wg : (Try.prog.info? 107).map (fun i => decide (i.size = 0)) = some false := by kernel_rfl
theorem u_u32p : Try.prog.underlying 162 = some (.pointer 76) := by kernel_rfl
theorem z_u32 : (Try.prog.info? 76).map (fun i => decide (i.size = 0)) = some false := by kernel_rfl
section
variable {q : Prm} {i : Nat} {s : Scene} {x : Wk} {Ch : Nat → Goroutine → St Gho → Prop}
theorem TT.roadW {P : Program} (hP : q.P = P) {g : Goroutine} {st : St Gho} (hA : At s i x st) (hx : x.wg ≠ .lv ∧ x.wg ≠ .gone ∧ x.wg ≠ .idle) (n : Nat)
    (h : ∀ w : World, (∃ v, w.cell? ⟨s.Wg, 0, none⟩ = some v) → Goes P (i == 0) (fun _ w₁ => ∃ v, w₁.cell? ⟨s.Wg, 0, none⟩ = some v) DC0 (fun g' _ => g'.status = .running ∧ TT (cfg q) i Ch g' st) n g w) : TT (cfg q) i Ch g st := by
  subst hP
  exact TT.step fun st₁ hr hi => by
    have hr : Rl i st st₁ := hr
    have hi : Inv q st₁ := hi
    have f : ∀ st₁, Rl i st st₁ → Inv q st₁ → ∃ v, st₁.w.cell? ⟨s.Wg, 0, none⟩ = some v := fun st₁ hr hi => ⟨_, ((hi.scene s (hA.rely hx hr hi).sc).c.wgb.cellSt)⟩
    exact (TT.walk (C := cfg q) cfg_ok (F := fun w₁ => ∃ v, w₁.cell? ⟨s.Wg, 0, none⟩ = some v) f (fun st₁ hr hi => (hA.rely hx hr hi).notLv ⟨hx.1, hx.2.1⟩) n g st₁.w (h st₁.w (f st₁ hr hi))).elim st₁ hr hi
theorem roadW_rely {s : Scene} {w₀ w₁ : World} (_ : ∃ v, w₀.cell? ⟨s.Wg, 0, none⟩ = some v) (r : ∃ v, w₁.cell? ⟨s.Wg, 0, none⟩ = some v) : ∃ v, w₁.cell? ⟨s.Wg, 0, none⟩ = some v := r
end
end Go.Proofs.Ytpfpokjaeffbjab.Cc
