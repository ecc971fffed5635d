/- Part of the proof: Wrk. -/
import Derived.Test.YtpfpokjaeffbjabGa30
namespace Go.Proofs.Ytpfpokjaeffbjab.Cc
open Go.Conc Go.ConcN Go.ConcM Go.RowKit Go.Conc.Lib Go.ConcR.Gen
open Go.ConcR (KK wgBlock WgAt stA smA rd wr mk DC0)
open Go.Proofs.Ytpfpokjaeffbjab.Pl Go.Proofs.Ytpfpokjaeffbjab.Dpl Go.Proofs.Ytpfpokjaeffbjab.Gpl Go.Proofs.Ytpfpokjaeffbjab.Kpl Go.Proofs.Ytpfpokjaeffbjab.Mem Go.Proofs.Ytpfpokjaeffbjab.Ver Go.Proofs.Ytpfpokjaeffbjab.Pkg
open Go.Proofs.Ytpfpokjaeffbjab.Fld hiding base
set_option linter.unusedVariables false
set_option linter.unusedSimpArgs false
def bot (P : Program) : Frame := { (default : Frame) with fn := P.funcs.size, defers := [], mode := .panicking [goexitEntry] }
theorem stepG_last {P : Program} {b : Frame} {a : Act} {todo : List Item} {fn : Func} (hn : b.kind = .deferred) (hd : a.defers = []) (hf : P.funcs[b.fn]? = some fn) (hr : fn.results = #[]) (w : World) : stepG P false (G { b.at a todo with mode := .returning } [bot P]) w = .go (G (bot P) []) w #[] := by
  have h1 := results_none hr a.tmps P w
  have h2 := events_results_none (P := P) (w := w) hr a.tmps #[]
  simp [G, stepG, unwind, doReturn, Frame.at, hn, hd, hf, h1, h2, seen, GStep.after, bot, goexitEntry]
theorem stepG_bot (P : Program) (w : World) : stepG P false (G (bot P) []) w = .go { G (bot P) [] with status := .finished } w #[] := by
  have h : (bot P).catches P = false := by
    have e : P.funcs[P.funcs.size]? = none := by simp
    unfold Frame.catches bot
    simp only [e]
    rfl
  simp [G, stepG, unwind, bot, goexitEntry] at h ⊢
  simp [h]
theorem quits_last {P : Program} {b : Frame} {a : Act} {todo : List Item} {fn : Func} (hn : b.kind = .deferred) (hd : a.defers = []) (hf : P.funcs[b.fn]? = some fn) (hr : fn.results = #[]) : QuitsD P 2 0 (G { b.at a todo with mode := .returning } [bot P]) :=
  .inr ⟨rfl, _, #[], by simp, fun w => stepG_last hn hd hf hr w, .inr ⟨rfl, _, #[], by simp, fun w => stepG_bot P w, rfl, rfl⟩⟩
theorem n_scof : (Try.f30.name == "runtime.NumGoroutine") = false := by kernel_rfl
theorem n_fbase : (Try.f31.name == "runtime.NumGoroutine") = false := by kernel_rfl
theorem n_part : (Try.f45.name == "runtime.NumGoroutine") = false := by kernel_rfl
theorem n_pat : (Try.f34.name == "runtime.NumGoroutine") = false := by kernel_rfl
theorem n_weight : (Try.f41.name == "runtime.NumGoroutine") = false := by kernel_rfl
theorem ld_u64 {w : World} {ad : Addr} {v : Value} (hc : w.cell? ad = some v) : (Instr.loadAt 25 (.pointer (some ad))).run Try.prog w = .ok v w ∧ (Instr.loadAt 25 (.pointer (some ad))).events Try.prog w #[] = #[⟨.cell ad, false, false⟩] := by
  constructor <;> simp [go_sem, hc]
theorem ld_scs {w : World} {ad : Addr} {v : Value} (hc : w.cell? ad = some v) : (Instr.loadAt 101 (.pointer (some ad))).run Try.prog w = .ok v w ∧ (Instr.loadAt 101 (.pointer (some ad))).events Try.prog w #[] = #[⟨.cell ad, false, false⟩] := by
  constructor <;> simp [go_sem, hc]
theorem ld_sc {w : World} {ad : Addr} {v : Value} (hc : w.cell? ad = some v) : (Instr.loadAt 72 (.pointer (some ad))).run Try.prog w = .ok v w ∧ (Instr.loadAt 72 (.pointer (some ad))).events Try.prog w #[] = #[⟨.cell ad, false, false⟩] := by
  constructor <;> simp [go_sem, hc]
theorem ld_bools {w : World} {ad : Addr} {v : Value} (hc : w.cell? ad = some v) : (Instr.loadAt 100 (.pointer (some ad))).run Try.prog w = .ok v w ∧ (Instr.loadAt 100 (.pointer (some ad))).events Try.prog w #[] = #[⟨.cell ad, false, false⟩] := by
  constructor <;> simp [go_sem, hc]
theorem ld_pkg {w : World} {ad : Addr} {v : Value} (hc : w.cell? ad = some v) : (Instr.loadAt 90 (.pointer (some ad))).run Try.prog w = .ok v w ∧ (Instr.loadAt 90 (.pointer (some ad))).events Try.prog w #[] = #[⟨.cell ad, false, false⟩] := by
  constructor <;> simp [go_sem, hc]
theorem ld_grp {w : World} {ad : Addr} {v : Value} (hc : w.cell? ad = some v) : (Instr.loadAt 69 (.pointer (some ad))).run Try.prog w = .ok v w ∧ (Instr.loadAt 69 (.pointer (some ad))).events Try.prog w #[] = #[⟨.cell ad, false, false⟩] := by
  constructor <;> simp [go_sem, hc]
theorem ld_intv {w : World} {ad : Addr} {v : Value} (hc : w.cell? ad = some v) : (Instr.loadAt 3 (.pointer (some ad))).run Try.prog w = .ok v w ∧ (Instr.loadAt 3 (.pointer (some ad))).events Try.prog w #[] = #[⟨.cell ad, false, false⟩] := by
  constructor <;> simp [go_sem, hc]
theorem st_sc {w : World} {ad : Addr} {u : Value} {v : Int} (hc : w.cell? ad = some u) (hz : w.frozen? ad = false) : (Instr.storeAt 72 (.pointer (some ad)) (.int .u64 v)).run Try.prog w = .ok () (w.setCell ad (.int .u64 v)) ∧ (Instr.storeAt 72 (.pointer (some ad)) (.int .u64 v)).events Try.prog w #[] = #[⟨.cell ad, true, false⟩] := by
  constructor <;> simp [go_sem, hc, hz]
theorem st_bool {w : World} {ad : Addr} {u : Value} {v : Bool} (hc : w.cell? ad = some u) (hz : w.frozen? ad = false) : (Instr.storeAt 4 (.pointer (some ad)) (.bool v)).run Try.prog w = .ok () (w.setCell ad (.bool v)) ∧ (Instr.storeAt 4 (.pointer (some ad)) (.bool v)).events Try.prog w #[] = #[⟨.cell ad, true, false⟩] := by
  constructor
  · simp [go_sem, hc, hz]
  · simp [go_sem, hc, hz]
    rw [events_store _ _ _ _ _ _ rfl]
    simp [hc, hz]
theorem RowIs.room {b n : Nat} {t : TypeId} {f : Nat → Bool} {v : Nat → Value} {w : World} (h : RowIs b n t f v w) {k : Nat} (hk : k < n) : (∃ u, w.cell? ⟨b, k, none⟩ = some u) ∧ w.frozen? ⟨b, k, none⟩ = false := by
  obtain ⟨Z, z1, z2, _⟩ := h
  exact ⟨⟨Z[k]'(by omega), by simp only [World.cell?, z1]; exact Array.getElem?_eq_getElem (by omega)⟩, by simp [World.frozen?, z1]⟩
section
variable {q : Prm} {i : Nat} {s : Scene} {x : Wk} {Ch : Nat → Goroutine → St Gho → Prop} {K : List (Nat × Obj)} {k : Nat} {nv cv : Int} {Pb gc lb : Nat} {cs : List Int} {l : List Cm} {msg : ByteArray} {bn bz bk bp bx bc br : Nat}
noncomputable def wrkBody : Code := Try.f43.body.getD .skip
def WrkS (q : Prm) (i : Nat) (s : Scene) (x : Wk) (lst : Array Bool) (st : St Gho) : Prop :=
  Inv q st ∧ ∃ x', At s i x' st ∧ x'.keep = x.keep ∧ x'.wg = .work ∧ x'.df = 0 ∧ x'.zw = true ∧ (lst.getD 14 true = false → x' = { x with rw := x'.rw }) ∧ (lst.getD 25 true = true → x'.rw = true) ∧ (x'.mx = .fresh ∨ x'.mx = .out)
theorem WrkS.stay {lst : Array Bool} {st st₁ : St Gho} (h : WrkS q i s x lst st) (hr : Rl i st st₁) (hi : Inv q st₁) : WrkS q i s x lst st₁ := by
  obtain ⟨_, x', hA, h1, h2, h3⟩ := h
  exact ⟨hi, x', hA.rely (work_ne h2) hr hi, h1, h2, h3⟩
theorem WrkS.set {lst : Array Bool} {st : St Gho} {j : Nat} (h : WrkS q i s x lst st) (h25 : j ≠ 25) : WrkS q i s x (lst.setIfInBounds j true) st := by
  obtain ⟨hi, x', hA, h1, h2, h3, h4, h5, h6, h7⟩ := h
  refine ⟨hi, x', hA, h1, h2, h3, h4, fun h => h5 ?_, ?_, h7⟩
  · by_cases e : j = 14
    · subst e
      by_cases hl : 14 < lst.size
      · simp [Array.getD, hl] at h
      · simp [Array.getD, hl] at h
    · rw [getD_set_ne true e] at h; exact h
  · rw [getD_set_ne true h25]; exact h6
theorem WrkS.ground (hK : x.keep = K) {j : Nat} (h25 : j ≠ 25) : Ground q s i K (WrkS q i s x) j where
  at_ := fun l st h => by
    obtain ⟨hi, x', hA, h1, h2, _⟩ := h
    exact ⟨hi, x', h2, h1.trans hK, hA⟩
  stay := fun l st st₁ h hr hi => h.stay hr hi
  set := fun l st _ h => h.set h25
theorem size_of_false {lst : Array Bool} {j : Nat} (h : lst.getD j true = false) : j < lst.size := by
  refine Nat.lt_of_not_le fun hge => ?_
  simp [Array.getD, Nat.not_lt.2 hge] at h
theorem getD_set_self {lst : Array Bool} {j : Nat} (h : j < lst.size) : (lst.setIfInBounds j true).getD j true = true := by simp [Array.getD, h]
theorem store_stepX {P : Program} {main : Bool} {b : Frame} {a : Act} {kk : List Item} {cs : List Frame} {w : World} {ops : Array Oper} {i : Nat} {rest : List Nat} {o : Oper} {X : Sem Next} {ad : Addr} {v : Value} (ho : ops[i]? = some o) (hw : Region.wanted o (yielded ops a.tmps) = true) (hk : b.kind ≠ .early) (he : execOp a.eval o = X) (hr : X.run P w = .ok .skip (w.setCell ad v)) (hev : X.events P w #[] = #[⟨.cell ad, true, false⟩]) (hn : (P.funcs[b.fn]?).any (·.norace) = false) :
    stepG P main (G (b.at a (.inRegion ops (i :: rest) :: kk)) cs) w = .go (G (b.at (a.put o.dst undef) (.inRegion ops rest :: kk)) cs) (w.setCell ad v) #[⟨.cell ad, true, false⟩] := by
  rw [stepG_none ho hw hk (by rw [he]; exact hr)]
  unfold listed
  rw [he, hev, seen_def, hn]
  simp [seenStep]
theorem run_cmid (x d e : Int) (w : World) : (Instr.field 37 (.agg #[.int .i64 x, .int .u64 d, .int .u64 e]) 0).run Try.prog w = .ok (.int .i64 x) w := by kernel_rfl
theorem events_cmid (x d e : Int) (w : World) (es : Array Event) : (Instr.field 37 (.agg #[.int .i64 x, .int .u64 d, .int .u64 e]) 0).events Try.prog w es = es := by kernel_rfl
theorem ar_pi {S : FuncId → Prop} {ρ : Nat → Option Nat} {b : Nat} {k1 : IntKind} {n1 : Int} (h : ρ b = some b) : AR S ρ #[.pointer (some ⟨b, 0, none⟩), .int k1 n1] #[.pointer (some ⟨b, 0, none⟩), .int k1 n1] := ar_ints (l := [.pointer (some ⟨b, 0, none⟩), .int k1 n1]) (by intro v hv; simp at hv; rcases hv with rfl | rfl; exact .ptr _ _ h; exact .int _ _)
theorem vr_cm {S : FuncId → Prop} {ρ : Nat → Option Nat} {k1 k2 k3 : IntKind} {n1 n2 n3 : Int} : VR S ρ (.agg #[.int k1 n1, .int k2 n2, .int k3 n3]) (.agg #[.int k1 n1, .int k2 n2, .int k3 n3]) := .agg' (ar_ints (l := [.int k1 n1, .int k2 n2, .int k3 n3]) (by intro v hv; simp at hv; rcases hv with rfl | rfl | rfl <;> exact .int _ _))
variable (hP : q.P = Try.prog)
include hP
theorem shareDoes (D : WrkD q s K k nv cv Pb gc lb cs l msg bn bz bk bp bx bc br) (hK : x.keep = K) (hx : x = { mx := .fresh, zw := true, rw := false, syn := false, wg := .work, df := 0, keep := K }) {id : Nat} (i1 : 1 ≤ id) (i2 : id ≤ s.nn) {B : Int} (hB : s.vals id = B) {b : Frame} {ops : Array Oper} {kk : List Item} {cc : List Frame} {dst : Option Tmp}
    (lst : Array Bool) (a : Act) (rest : List Nat) (st : St Gho) (hl : lst.getD 14 true = false) (hs : WrkS q i s x lst st) (fin : ∀ st', WrkS q i s x (lst.setIfInBounds 14 true) st' → TT (cfg q) i Ch (G (b.at (a.put dst (.int .u64 B)) (.inRegion ops rest :: kk)) cc) st') (ho : (ops[14]?).bind (·.dst) = dst) :
    TT (cfg q) i Ch (G (Frame.enter Try.prog 47 #[.pointer (some ⟨s.Gb, 0, none⟩), .int .i64 id] .normal) (b.at a (.inRegion ops (14 :: rest) :: kk) :: cc)) st := by
  obtain ⟨hi, x', hA, h1, h2, h3, h4, h5, h6, h7⟩ := hs
  have e := h5 hl
  rw [enter_at (P := Try.prog) _ Try.func47 rfl]
  have hW : WorkOk q i Ch s x' := D.vals h2 (h1.trans hK) hP
  have hA' : At s i { x' with mx := .fresh, df := 0 } st := by
    have : ({ x' with mx := .fresh, df := 0 } : Wk) = x' := by rw [e, hx]
    rw [this]; exact hA
  refine shareGo hP h2 D.n9 hW i1 i2 (fun mx st' hm hA₁ hI₁ => ?_) hA'
  rw [hB, ho]
  refine fin st' ⟨hI₁, _, hA₁, h1, h2, rfl, h4, fun h => ?_, fun h => ?_, hm⟩
  · rw [getD_set_self (size_of_false hl)] at h; cases h
  · rw [getD_set_ne true (by decide : (14 : Nat) ≠ 25)] at h; exact h6 h
set_option maxRecDepth 100000 in
set_option maxHeartbeats 16000000 in
theorem wrkGo (D : WrkD q s K k nv cv Pb gc lb cs l msg bn bz bk bp bx bc br) (hi : i = s.n0 + k) (hxx : x = { mx := .fresh, zw := false, rw := false, syn := false, wg := .work, df := 0, keep := K }) {st : St Gho} (hA : At s i x st) (hI : Inv q st) :
    TT (cfg q) i Ch (G ((baseD 43).at ⟨#[.pointer (some ⟨s.Wg, 0, none⟩), .pointer (some ⟨bn, 0, none⟩), .pointer (some ⟨bz, 0, none⟩), .pointer (some ⟨bk, 0, none⟩), .pointer (some ⟨bp, 0, none⟩), .pointer (some ⟨bx, 0, none⟩), .pointer (some ⟨bc, 0, none⟩), .pointer (some ⟨br, 0, none⟩), undef, undef, undef, undef, undef, undef, undef, undef, undef, undef, undef, undef, undef, undef, undef, undef, undef, undef, undef, undef, undef, undef, undef, undef, undef, undef, undef, undef, undef, undef, undef, undef, undef, undef, undef, undef], []⟩ [.code wrkBody]) [bot Try.prog]) st := by
  have hx : x.wg = .work := by rw [hxx]
  have hK : x.keep = K := by rw [hxx]
  simp only [wrkBody, Try.f43, Option.getD_some]
  refine TT.roadW hP hA (work_ne hx) 80 fun w₀ hF => ?_
  repeat w_go roadW_rely
  u_defer roadW_rely hF
  repeat w_go roadW_rely
  refine Goes.stop (fun w₁ r₁ => ⟨rfl, ?_⟩)
  clear hF r₁ w₁ w₀
  refine TT.load hP hA hx rfl rfl (by k_ne) rfl rfl (fun st₁ hr hi hA₁ => ⟨(hA₁.box hK D.hn).1, ld_u64 (hA₁.box hK D.hn).2⟩) fun st₂ hr₂ hI₂ hA₂ => ?_
  refine TT.roadW hP hA₂ (work_ne hx) 80 fun w₀ hF => ?_
  walk_nrm
  repeat w_go roadW_rely
  u_in roadW_rely hF
  refine goes_callE rfl rfl (by k_ne) rfl Try.func30 n_scof rfl (by simp [Act.eval]; rfl) ⟨by u_nil, ?_⟩
  refine Goes.stop (fun w₁ r₁ => ⟨rfl, ?_⟩)
  clear hF r₁ w₁ w₀
  refine TT.call hP wS_ok (by kernel_rfl) hA₂ hx hI₂ noVis_sees ar1 (.tuple rfl fun j v v' h1 h2 => ?_) (fun τ d => (scalarOf nv _).mono fun e w' h => h.1) fun st₃ hr₃ hI₃ hA₃ => ?_
  · rw [h1] at h2; cases h2
    match j, h1 with
    | 0, h1 => simp at h1; subst h1; exact .int _ _
    | 1, h1 => simp at h1; subst h1; exact .bool _
    | j + 2, h1 => simp at h1
  rw [Frame.finish_at]
  refine TT.roadW hP hA₃ (work_ne hx) 80 fun w₀ hF => ?_
  walk_nrm
  repeat w_go roadW_rely
  refine Goes.stop (fun w₁ r₁ => ⟨rfl, ?_⟩)
  clear hF r₁ w₁ w₀ hr₃ hr₂ hI₂ hA₂
  obtain ⟨capz, hz⟩ := D.hz
  refine TT.load hP hA₃ hx rfl rfl (by k_ne) rfl rfl (fun st₁ hr hi hA₁ => ⟨(hA₁.box hK hz).1, ld_scs (hA₁.box hK hz).2⟩) fun st₄ hr₄ hI₄ hA₄ => ?_
  walk_nrm
  refine TT.load hP hA₄ hx rfl rfl (by k_ne) rfl rfl (fun st₁ hr hi hA₁ => ⟨(hA₁.box hK D.hk).1, ld_int (hA₁.box hK D.hk).2⟩) fun st₅ hr₅ hI₅ hA₅ => ?_
  have hks : k < s.n := by rw [← D.ln]; exact D.kl
  have k1 : (0 : Int) ≤ (k : Int) := by omega
  have k2 : (k : Int) < (s.n : Int) := by omega
  refine TT.roadW hP hA₅ (work_ne hx) 80 fun w₀ hF => ?_
  walk_nrm
  repeat w_go roadW_rely
  refine Goes.stop (fun w₁ r₁ => ⟨rfl, ?_⟩)
  clear hF r₁ w₁ w₀ hr₄ hr₅ hI₄ hA₄
  refine TT.rowZb hP hA₅ hx hi (by rw [D.zv]; simp) fun st₆ hr₆ hI₆ hA₆ hC₆ => ?_
  obtain ⟨⟨u, hu⟩, hf⟩ := hC₆.zb.room hks
  refine ⟨_, by rw [D.zv]; exact store_step rfl rfl (by k_ne) rfl rfl rfl (st_sc hu hf) (by kernel_rfl), rfl, fun st₇ hA₇ hI₇ _ _ => ?_⟩
  clear hu hf hC₆ hA₆ hI₆ hr₆
  refine TT.roadW hP hA₇ (work_ne hx) 80 fun w₀ hF => ?_
  walk_nrm
  repeat w_but "code.region" roadW_rely
  refine Goes.stop (fun w₁ r₁ => ⟨rfl, ?_⟩)
  clear hF r₁ w₁ w₀
  obtain ⟨y, hy⟩ : ∃ y : Wk, y = { x with zw := true } := ⟨_, rfl⟩
  have hKy : y.keep = K := by rw [hy]; exact hK
  have hA₈ : At s i y st₇ := by rw [hy]; exact hA₇
  have hy' : y = { mx := .fresh, zw := true, rw := false, syn := false, wg := .work, df := 0, keep := K } := by rw [hy, hxx]
  have hxy : y.wg = .work := by rw [hy']
  clear hA₇ hA₅ hI₅ hA hI hA₃ hI₃ hz
  obtain ⟨capr, hr⟩ := D.hr
  refine TT.ask hP hA₈ hxy fun st₁ hA₁ hI₁ => ⟨_, stepG_region_draw, rfl, fun st₂ hA₂ hI₂ hsh => ?_⟩
  have hmix : Try.prog.follows .mixedOrders = true := by kernel_rfl
  simp only [Region.schedule, hmix, Bool.true_or, if_true, Region.linearise]
  refine anyT_sound (S := WrkS q i s y) (md := .any) (F := fun l a => l.getD 25 true = true ∧ a.defers = [dcall 44 #[.pointer (some ⟨s.Wg, 0, none⟩)]]) ?_ ?_ _ _ _ _ st₂ ?_ ?_
  · intro lst a st' ⟨hl, hd⟩ hs
    obtain ⟨hI', x', hA', h1, h2, h3, h4, _, h6, h7⟩ := hs
    obtain ⟨tm, df⟩ := a
    simp only at hd
    subst hd
    refine TT.roadW hP hA' (work_ne h2) 60 fun w₀ hF => ?_
    repeat w_go roadW_rely
    u_in roadW_rely hF
    rw [stepG_unwind_enter rfl Try.func44 n_wdone rfl]
    simp only [goes_go]
    refine ⟨by u_nil, ?_⟩
    walk_nrmf Try.f44
    refine Goes.stop (fun w₁ r₁ => ⟨rfl, ?_⟩)
    exact doneGo hP rfl (quits_last rfl rfl Try.func43 rfl) h2 h3 h4 (h6 hl) h7 hA'
  · intro j lst a o rest st' ho hl hw hs h
    refine skip_quiet (s := s) hP (fun l st hs => ?_) (fun st hs => hs.set ?_) ho hw hs h
    · have hs2 := hs
      obtain ⟨_, x', hA', _, h2, _⟩ := hs2
      exact ⟨⟨x', work_ne h2, hA'⟩, fun st₁ hr hi => hs.stay hr hi⟩
    · rintro rfl
      simp at ho
      subst ho
      simp [Region.wanted] at hw
  · by_cases hok : nv < 1073741789
    · obtain ⟨hkey1, hkey2⟩ := isEl_bd (D.el 0 D.c0)
      have hkey : 0 ≤ cs.getD 0 0 ∧ cs.getD 0 0 < 18446744073709551616 := ⟨by omega, by omega⟩
      obtain ⟨⟨i1, i2⟩, -⟩ := D.gd k D.kl
      obtain ⟨id, hid⟩ := Int.eq_ofNat_of_zero_le (show 0 ≤ (l.getD k .zero).id by omega)
      have hid1 : 1 ≤ id := by omega
      obtain ⟨cd, hcd⟩ : ∃ cd, (l.getD k .zero).d = cd := ⟨_, rfl⟩
      obtain ⟨ce, hce⟩ : ∃ ce, (l.getD k .zero).e = ce := ⟨_, rfl⟩
      have hfr := run_cmid id cd ce
      have hfe := events_cmid id cd ce
      have hid2 : id ≤ s.nn := by omega
      have hrv := D.rv
      unfold rightP at hrv
      rw [hid, decide_eq_true hok, Bool.true_and] at hrv
      obtain ⟨Z, hZ⟩ : ∃ Z, Z = pw 4 nv.toNat 2147483579 := ⟨_, rfl⟩
      obtain ⟨A, hAA⟩ : ∃ A, A = partP l (cs.getD 0 0) msg k := ⟨_, rfl⟩
      obtain ⟨B, hBB⟩ : ∃ B, B = pub cs id := ⟨_, rfl⟩
      obtain ⟨W, hW⟩ : ∃ W, W = lagrange (idsOf l l.length) k := ⟨_, rfl⟩
      obtain ⟨X, hX⟩ : ∃ X, X = smul cv W := ⟨_, rfl⟩
      obtain ⟨E, hE⟩ : ∃ E, E = pw B X.toNat 2147483579 := ⟨_, rfl⟩
      obtain ⟨M, hM⟩ : ∃ M, M = emul A E := ⟨_, rfl⟩
      rw [← hZ, ← hAA, ← hBB, ← hW, ← hX, ← hE, ← hM] at hrv
      have hB : 0 ≤ B ∧ B < 2147483579 := by rw [hBB]; exact pub_bd _ _
      have hXb : 0 ≤ X ∧ X < 1073741789 := by rw [hX]; exact smul_bd _ _
      have hPb : idOf (visW Pb s.Gb gc lb cs.length (3 * l.length)) Pb = some Pb := idOf_some (n := 3) (by simp [visW])
      have hB' : s.vals id = B := by rw [hBB]; exact D.vs id hid1 hid2
      simp only [hok, decide_true]
      clear i1 i2 hkey1 hkey2 hsh hI₁ hA₁
      change AnyT (cfg q) i Ch _ _ [] _ _ .any _ 26 #[false, false, false, false, false, false, false, false, false, false, false, false, false, false, false, false, false, false, false, false, false, false, false, false, false, false] _
      refine anyT_take (i' := 0) (v := .slice (some ⟨s.Rb, 0, none⟩) s.n capr) rfl (by kernel_rfl) (by kernel_rfl) (by kernel_rfl) (.inl ⟨rfl, Does.box hP (WrkS.ground hKy (by decide)) rfl (by decide) rfl rfl hr fun w hc => ld_bools hc⟩) ?_
      walk_nrm
      refine anyT_take (i' := 1) (v := .int .i64 k) rfl (by kernel_rfl) (by kernel_rfl) (by kernel_rfl) (.inl ⟨rfl, Does.box hP (WrkS.ground hKy (by decide)) rfl (by decide) rfl rfl D.hk fun w hc => ld_intv hc⟩) ?_
      walk_nrm
      refine anyT_take (i' := 2) (v := .bool true) rfl (by kernel_rfl) (by kernel_rfl) (by kernel_rfl) (.inl ⟨rfl, Does.calm hP (WrkS.ground hKy (by decide)) rfl (by decide) (fun w => by go_simp) (fun w => by simp [go_sem, Act.eval, Act.put, *])⟩) ?_
      walk_nrm
      refine anyT_take (i' := 3) (v := .bool true) rfl (by kernel_rfl) (by kernel_rfl) (by kernel_rfl) (.inl ⟨rfl, Does.calm hP (WrkS.ground hKy (by decide)) rfl (by decide) (fun w => by go_simp) (fun w => by simp [go_sem, Act.eval, Act.put, *])⟩) ?_
      walk_nrm
      refine anyT_take (i' := 4) (v := .int .u64 nv) rfl (by kernel_rfl) (by kernel_rfl) (by kernel_rfl) (.inl ⟨rfl, Does.calm hP (WrkS.ground hKy (by decide)) rfl (by decide) (fun w => by go_simp) (fun w => by simp [go_sem, Act.eval, Act.put, *])⟩) ?_
      walk_nrm
      refine anyT_take (i' := 5) (v := .int .u64 Z) rfl (by kernel_rfl) (by kernel_rfl) (by kernel_rfl) (.inl ⟨rfl, Does.lone (args := #[.int .u64 nv]) hP wS_ok (WrkS.ground hKy (by decide)) (by kernel_rfl) rfl (by decide) rfl Try.func31 n_fbase rfl (by first | (simp [Act.eval]; done) | (simp [Act.eval]; rfl)) (fun _ _ _ _ _ => noVis_sees) ar1 (.int _ _) (fun _ _ _ _ _ _ _ => (baseI nv _ D.nb.1 D.nb.2).mono fun e w' h => by rw [hZ]; exact h.1)⟩) ?_
      walk_nrm
      refine anyT_take (i' := 6) (v := .pointer (some ⟨Pb, 0, none⟩)) rfl (by kernel_rfl) (by kernel_rfl) (by kernel_rfl) (.inl ⟨rfl, Does.box hP (WrkS.ground hKy (by decide)) rfl (by decide) rfl rfl D.hp fun w hc => ld_pkg hc⟩) ?_
      walk_nrm
      refine anyT_take (i' := 7) (v := .int .i64 k) rfl (by kernel_rfl) (by kernel_rfl) (by kernel_rfl) (.inl ⟨rfl, Does.box hP (WrkS.ground hKy (by decide)) rfl (by decide) rfl rfl D.hk fun w hc => ld_intv hc⟩) ?_
      walk_nrm
      refine anyT_take (i' := 8) (v := .int .u64 A) rfl (by kernel_rfl) (by kernel_rfl) (by kernel_rfl) (.inl ⟨rfl, Does.lone (args := #[.pointer (some ⟨Pb, 0, none⟩), .int .i64 k]) hP wS_ok (WrkS.ground hKy (by decide)) (by kernel_rfl) rfl (by decide) rfl Try.func45 n_part rfl (by first | (simp [Act.eval]; done) | (simp [Act.eval]; rfl)) (fun x' st hA hk hI => D.sees hA hk hI) (ar_pi hPb) (.int _ _) (fun x' st τ d hA hk hI => by obtain ⟨lv, hpk⟩ := D.pkw hA hk hI τ d; exact (partW hpk D.gd (by have := D.n9; omega) D.l9 D.c0 hkey D.ms D.kl).mono fun e w' h => by rw [hAA]; exact h.1)⟩) ?_
      walk_nrm
      refine anyT_take (i' := 9) (v := .pointer (some ⟨s.Gb, 0, none⟩)) rfl (by kernel_rfl) (by kernel_rfl) (by kernel_rfl) (.inl ⟨rfl, Does.box hP (WrkS.ground hKy (by decide)) rfl (by decide) rfl rfl D.hx fun w hc => ld_grp hc⟩) ?_
      walk_nrm
      refine anyT_take (i' := 10) (v := .pointer (some ⟨Pb, 0, none⟩)) rfl (by kernel_rfl) (by kernel_rfl) (by kernel_rfl) (.inl ⟨rfl, Does.box hP (WrkS.ground hKy (by decide)) rfl (by decide) rfl rfl D.hp fun w hc => ld_pkg hc⟩) ?_
      walk_nrm
      refine anyT_take (i' := 11) (v := .int .i64 k) rfl (by kernel_rfl) (by kernel_rfl) (by kernel_rfl) (.inl ⟨rfl, Does.box hP (WrkS.ground hKy (by decide)) rfl (by decide) rfl rfl D.hk fun w hc => ld_intv hc⟩) ?_
      walk_nrm
      refine anyT_take (i' := 12) (v := .agg #[.int .i64 id, .int .u64 cd, .int .u64 ce]) rfl (by kernel_rfl) (by kernel_rfl) (by kernel_rfl) (.inl ⟨rfl, Does.lone (args := #[.pointer (some ⟨Pb, 0, none⟩), .int .i64 k]) hP wS_ok (WrkS.ground hKy (by decide)) (by kernel_rfl) rfl (by decide) rfl Try.func34 n_pat rfl (by first | (simp [Act.eval]; done) | (simp [Act.eval]; rfl)) (fun x' st hA hk hI => D.sees hA hk hI) (ar_pi hPb) vr_cm (fun x' st τ d hA hk hI => by obtain ⟨lv, hpk⟩ := D.pkw hA hk hI τ d; exact (atW hpk D.kl).mono fun e w' h => by rw [← hid, ← hcd, ← hce]; exact h.1)⟩) ?_
      walk_nrm
      refine anyT_take (i' := 13) (v := .int .i64 id) rfl (by kernel_rfl) (by kernel_rfl) (by kernel_rfl) (.inl ⟨rfl, Does.calm hP (WrkS.ground hKy (by decide)) rfl (by decide) (fun w => by go_simp) (fun w => by simp [go_sem, Act.eval, Act.put, *])⟩) ?_
      walk_nrm
      refine anyT_take (i' := 14) (v := .int .u64 B) rfl (by kernel_rfl) (by kernel_rfl) (by kernel_rfl) (.inl ⟨rfl, Does.call (s := s) (args := #[.pointer (some ⟨s.Gb, 0, none⟩), .int .i64 id]) hP rfl (by decide) rfl Try.func47 n_share rfl (by first | (simp [Act.eval]; done) | (simp [Act.eval]; rfl)) (fun l st hs => by have hs2 := hs; obtain ⟨_, x', hA', _, h2, _⟩ := hs2; exact ⟨⟨x', work_ne h2, hA'⟩, fun st₁ hr hi => hs.stay hr hi⟩) (fun lst a rest st hl hs fin => shareDoes hP D hKy hy' hid1 hid2 hB' lst a rest st hl hs fin rfl)⟩) ?_
      walk_nrm
      refine anyT_take (i' := 15) (v := .int .u64 cv) rfl (by kernel_rfl) (by kernel_rfl) (by kernel_rfl) (.inl ⟨rfl, Does.box hP (WrkS.ground hKy (by decide)) rfl (by decide) rfl rfl D.hc fun w hc => ld_sc hc⟩) ?_
      walk_nrm
      refine anyT_take (i' := 16) (v := .pointer (some ⟨Pb, 0, none⟩)) rfl (by kernel_rfl) (by kernel_rfl) (by kernel_rfl) (.inl ⟨rfl, Does.box hP (WrkS.ground hKy (by decide)) rfl (by decide) rfl rfl D.hp fun w hc => ld_pkg hc⟩) ?_
      walk_nrm
      refine anyT_take (i' := 17) (v := .int .i64 k) rfl (by kernel_rfl) (by kernel_rfl) (by kernel_rfl) (.inl ⟨rfl, Does.box hP (WrkS.ground hKy (by decide)) rfl (by decide) rfl rfl D.hk fun w hc => ld_intv hc⟩) ?_
      walk_nrm
      refine anyT_take (i' := 18) (v := .int .u64 W) rfl (by kernel_rfl) (by kernel_rfl) (by kernel_rfl) (.inl ⟨rfl, Does.lone (args := #[.pointer (some ⟨Pb, 0, none⟩), .int .i64 k]) hP wS_ok (WrkS.ground hKy (by decide)) (by kernel_rfl) rfl (by decide) rfl Try.func41 n_weight rfl (by first | (simp [Act.eval]; done) | (simp [Act.eval]; rfl)) (fun x' st hA hk hI => D.sees hA hk hI) (ar_pi hPb) (.int _ _) (fun x' st τ d hA hk hI => by obtain ⟨lv, hpk⟩ := D.pkw hA hk hI τ d; exact (pkgWeightW hpk D.l9 D.kl).mono fun e w' h => by rw [hW]; exact h.1)⟩) ?_
      walk_nrm
      refine anyT_take (i' := 19) (v := .int .u64 X) rfl (by kernel_rfl) (by kernel_rfl) (by kernel_rfl) (.inl ⟨rfl, Does.lone (args := #[.int .u64 cv, .int .u64 W]) hP wS_ok (WrkS.ground hKy (by decide)) (by kernel_rfl) rfl (by decide) rfl Try.func37 n_stimes rfl (by first | (simp [Act.eval]; done) | (simp [Act.eval]; rfl)) (fun _ _ _ _ _ => noVis_sees) ar2 (.int _ _) (fun _ _ _ _ _ _ _ => (stimes _ _ _).mono fun e w' h => by rw [hX]; exact h.1)⟩) ?_
      walk_nrm
      refine anyT_take (i' := 20) (v := .int .u64 E) rfl (by kernel_rfl) (by kernel_rfl) (by kernel_rfl) (.inl ⟨rfl, Does.lone (args := #[.int .u64 B, .int .u64 X]) hP wS_ok (WrkS.ground hKy (by decide)) (by kernel_rfl) rfl (by decide) rfl Try.func48 n_pow rfl (by first | (simp [Act.eval]; done) | (simp [Act.eval]; rfl)) (fun _ _ _ _ _ => noVis_sees) ar2 (.int _ _) (fun _ _ _ _ _ _ _ => (powerI B X _ hB.1 hB.2 hXb.1 (by omega)).mono fun e w' h => by rw [hE]; exact h.1)⟩) ?_
      walk_nrm
      refine anyT_take (i' := 21) (v := .int .u64 M) rfl (by kernel_rfl) (by kernel_rfl) (by kernel_rfl) (.inl ⟨rfl, Does.lone (args := #[.int .u64 A, .int .u64 E]) hP wS_ok (WrkS.ground hKy (by decide)) (by kernel_rfl) rfl (by decide) rfl Try.func46 n_etimes rfl (by first | (simp [Act.eval]; done) | (simp [Act.eval]; rfl)) (fun _ _ _ _ _ => noVis_sees) ar2 (.int _ _) (fun _ _ _ _ _ _ _ => (etimes _ _ _).mono fun e w' h => by rw [hM]; exact h.1)⟩) ?_
      walk_nrm
      refine anyT_take (i' := 22) (v := .bool (Z == M)) rfl (by kernel_rfl) (by kernel_rfl) (by kernel_rfl) (.inl ⟨rfl, Does.calm hP (WrkS.ground hKy (by decide)) rfl (by decide) (fun w => by go_simp) (fun w => by simp [go_sem, Act.eval, Act.put, *])⟩) ?_
      walk_nrm
      refine anyT_take (i' := 23) (v := .bool (Z == M)) rfl (by kernel_rfl) (by kernel_rfl) (by kernel_rfl) (.inl ⟨rfl, Does.calm hP (WrkS.ground hKy (by decide)) rfl (by decide) (fun w => by go_simp) (fun w => by simp [go_sem, Act.eval, Act.put, *])⟩) ?_
      walk_nrm
      refine anyT_take (i' := 24) (v := .pointer (some ⟨s.Rb, k, none⟩)) rfl (by kernel_rfl) (by kernel_rfl) (by kernel_rfl) (.inl ⟨rfl, Does.calm hP (WrkS.ground hKy (by decide)) rfl (by decide) (fun w => by go_simp) (fun w => by simp [go_sem, Act.eval, Act.put, *])⟩) ?_
      walk_nrm
      replace hrv : s.rv k = .bool (Z == M) := hrv
      refine anyT_take (i' := 25) (v := undef) rfl (by kernel_rfl) (by kernel_rfl) (by kernel_rfl) (.inl ⟨rfl, ?_⟩) ⟨by kernel_rfl, by kernel_rfl, rfl⟩
      intro lst a rest st hl hs he hw hn
      obtain ⟨hi', x', hA', h1, h2, h3, h4, h5, h6, h7⟩ := hs
      refine TT.rowRb hP hA' h2 hi (by rw [hrv]; simp) fun st₁ hr₁ hI₁ hA₁ hC₁ => ?_
      obtain ⟨⟨u, hu⟩, hf⟩ := hC₁.rb.room hks
      refine ⟨_, ?_, rfl, fun st₂ hA₂ hI₂ _ _ => hn st₂ ?_⟩
      · rw [hrv]
        refine store_stepX rfl hw (by decide) he ?_ ?_ (by kernel_rfl)
        · unfold execOp
          simp [Act.eval, Act.put, (st_bool hu hf).1]
        · unfold execOp
          simp [Act.eval, Act.put, (st_bool hu hf).1, (st_bool hu hf).2]
      · refine ⟨hI₂, _, hA₂, h1, h2, h3, h4, fun h => ?_, fun _ => rfl, h7⟩
        rw [getD_set_ne true (by decide : (25 : Nat) ≠ 14)] at h
        have e := h5 h
        rw [e]
    · have hok' : decide (nv < 1073741789) = false := decide_eq_false hok
      rw [hok']
      clear hsh hI₁ hA₁
      change AnyT (cfg q) i Ch _ _ [] _ _ .any _ 26 #[false, false, false, false, false, false, false, false, false, false, false, false, false, false, false, false, false, false, false, false, false, false, false, false, false, false] _
      refine anyT_take (i' := 0) (v := .slice (some ⟨s.Rb, 0, none⟩) s.n capr) rfl (by kernel_rfl) (by kernel_rfl) (by kernel_rfl) (.inl ⟨rfl, Does.box hP (WrkS.ground hKy (by decide)) rfl (by decide) rfl rfl hr fun w hc => ld_bools hc⟩) ?_
      walk_nrm
      refine anyT_take (i' := 1) (v := .int .i64 k) rfl (by kernel_rfl) (by kernel_rfl) (by kernel_rfl) (.inl ⟨rfl, Does.box hP (WrkS.ground hKy (by decide)) rfl (by decide) rfl rfl D.hk fun w hc => ld_intv hc⟩) ?_
      walk_nrm
      refine anyT_take (i' := 2) (v := .bool false) rfl (by kernel_rfl) (by kernel_rfl) (by kernel_rfl) (.inl ⟨rfl, Does.calm hP (WrkS.ground hKy (by decide)) rfl (by decide) (fun w => by go_simp) (fun w => by simp [go_sem, Act.eval, Act.put, *])⟩) ?_
      walk_nrm
      refine anyT_take (i' := 3) (v := .bool false) rfl (by kernel_rfl) (by kernel_rfl) (by kernel_rfl) (.inl ⟨rfl, Does.calm hP (WrkS.ground hKy (by decide)) rfl (by decide) (fun w => by go_simp) (fun w => by simp [go_sem, Act.eval, Act.put, *])⟩) ?_
      walk_nrm
      refine anyT_take (i' := 4) (v := undef) rfl (by kernel_rfl) (by kernel_rfl) (by kernel_rfl) (.inr ⟨rfl, rfl⟩) ?_
      walk_nrm
      refine anyT_take (i' := 5) (v := undef) rfl (by kernel_rfl) (by kernel_rfl) (by kernel_rfl) (.inr ⟨rfl, rfl⟩) ?_
      walk_nrm
      refine anyT_take (i' := 6) (v := undef) rfl (by kernel_rfl) (by kernel_rfl) (by kernel_rfl) (.inr ⟨rfl, rfl⟩) ?_
      walk_nrm
      refine anyT_take (i' := 7) (v := undef) rfl (by kernel_rfl) (by kernel_rfl) (by kernel_rfl) (.inr ⟨rfl, rfl⟩) ?_
      walk_nrm
      refine anyT_take (i' := 8) (v := undef) rfl (by kernel_rfl) (by kernel_rfl) (by kernel_rfl) (.inr ⟨rfl, rfl⟩) ?_
      walk_nrm
      refine anyT_take (i' := 9) (v := undef) rfl (by kernel_rfl) (by kernel_rfl) (by kernel_rfl) (.inr ⟨rfl, rfl⟩) ?_
      walk_nrm
      refine anyT_take (i' := 10) (v := undef) rfl (by kernel_rfl) (by kernel_rfl) (by kernel_rfl) (.inr ⟨rfl, rfl⟩) ?_
      walk_nrm
      refine anyT_take (i' := 11) (v := undef) rfl (by kernel_rfl) (by kernel_rfl) (by kernel_rfl) (.inr ⟨rfl, rfl⟩) ?_
      walk_nrm
      refine anyT_take (i' := 12) (v := undef) rfl (by kernel_rfl) (by kernel_rfl) (by kernel_rfl) (.inr ⟨rfl, rfl⟩) ?_
      walk_nrm
      refine anyT_take (i' := 13) (v := undef) rfl (by kernel_rfl) (by kernel_rfl) (by kernel_rfl) (.inr ⟨rfl, rfl⟩) ?_
      walk_nrm
      refine anyT_take (i' := 14) (v := undef) rfl (by kernel_rfl) (by kernel_rfl) (by kernel_rfl) (.inr ⟨rfl, rfl⟩) ?_
      walk_nrm
      refine anyT_take (i' := 15) (v := undef) rfl (by kernel_rfl) (by kernel_rfl) (by kernel_rfl) (.inr ⟨rfl, rfl⟩) ?_
      walk_nrm
      refine anyT_take (i' := 16) (v := undef) rfl (by kernel_rfl) (by kernel_rfl) (by kernel_rfl) (.inr ⟨rfl, rfl⟩) ?_
      walk_nrm
      refine anyT_take (i' := 17) (v := undef) rfl (by kernel_rfl) (by kernel_rfl) (by kernel_rfl) (.inr ⟨rfl, rfl⟩) ?_
      walk_nrm
      refine anyT_take (i' := 18) (v := undef) rfl (by kernel_rfl) (by kernel_rfl) (by kernel_rfl) (.inr ⟨rfl, rfl⟩) ?_
      walk_nrm
      refine anyT_take (i' := 19) (v := undef) rfl (by kernel_rfl) (by kernel_rfl) (by kernel_rfl) (.inr ⟨rfl, rfl⟩) ?_
      walk_nrm
      refine anyT_take (i' := 20) (v := undef) rfl (by kernel_rfl) (by kernel_rfl) (by kernel_rfl) (.inr ⟨rfl, rfl⟩) ?_
      walk_nrm
      refine anyT_take (i' := 21) (v := undef) rfl (by kernel_rfl) (by kernel_rfl) (by kernel_rfl) (.inr ⟨rfl, rfl⟩) ?_
      walk_nrm
      refine anyT_take (i' := 22) (v := undef) rfl (by kernel_rfl) (by kernel_rfl) (by kernel_rfl) (.inr ⟨rfl, rfl⟩) ?_
      walk_nrm
      refine anyT_take (i' := 23) (v := .bool false) rfl (by kernel_rfl) (by kernel_rfl) (by kernel_rfl) (.inl ⟨rfl, Does.calm hP (WrkS.ground hKy (by decide)) rfl (by decide) (fun w => by go_simp) (fun w => by simp [go_sem, Act.eval, Act.put, *])⟩) ?_
      walk_nrm
      refine anyT_take (i' := 24) (v := .pointer (some ⟨s.Rb, k, none⟩)) rfl (by kernel_rfl) (by kernel_rfl) (by kernel_rfl) (.inl ⟨rfl, Does.calm hP (WrkS.ground hKy (by decide)) rfl (by decide) (fun w => by go_simp) (fun w => by simp [go_sem, Act.eval, Act.put, *])⟩) ?_
      walk_nrm
      have hrv : s.rv k = .bool false := by rw [D.rv]; unfold rightP; rw [hok', Bool.false_and]
      refine anyT_take (i' := 25) (v := undef) rfl (by kernel_rfl) (by kernel_rfl) (by kernel_rfl) (.inl ⟨rfl, ?_⟩) ⟨by kernel_rfl, by kernel_rfl, rfl⟩
      intro lst a rest st hl hs he hw hn
      obtain ⟨hi', x', hA', h1, h2, h3, h4, h5, h6, h7⟩ := hs
      refine TT.rowRb hP hA' h2 hi (by rw [hrv]; simp) fun st₁ hr₁ hI₁ hA₁ hC₁ => ?_
      obtain ⟨⟨u, hu⟩, hf⟩ := hC₁.rb.room hks
      refine ⟨_, ?_, rfl, fun st₂ hA₂ hI₂ _ _ => hn st₂ ?_⟩
      · rw [hrv]
        refine store_stepX rfl hw (by decide) he ?_ ?_ (by kernel_rfl)
        · unfold execOp
          simp [Act.eval, Act.put, (st_bool hu hf).1]
        · unfold execOp
          simp [Act.eval, Act.put, (st_bool hu hf).1, (st_bool hu hf).2]
      · refine ⟨hI₂, _, hA₂, h1, h2, h3, h4, fun h => ?_, fun _ => rfl, h7⟩
        rw [getD_set_ne true (by decide : (25 : Nat) ≠ 14)] at h
        have e := h5 h
        rw [e]
  · exact ⟨hI₂, y, hA₂, rfl, hxy, by rw [hy'], by rw [hy'], fun _ => rfl, fun h => by simp at h, by rw [hy']; exact .inl rfl⟩
end
end Go.Proofs.Ytpfpokjaeffbjab.Cc
