/- Part of the proof: WrkD, Dn. -/
import Derived.Test.YtpfpokjaeffbjabGa29
import Derived.Test.YtpfpokjaeffbjabGa13
import Derived.Test.YtpfpokjaeffbjabGa21
import Derived.Test.YtpfpokjaeffbjabGa28
import Derived.Conc.WgArith
namespace Go.Proofs.Ytpfpokjaeffbjab.Cc
open Go.Conc Go.ConcN Go.ConcM Go.RowKit Go.Conc.Lib Go.ConcR.Gen
open Go.ConcR (KK wgBlock WgAt stA smA rd wr mk DC0)
open Go.Proofs.Ytpfpokjaeffbjab.Pl Go.Proofs.Ytpfpokjaeffbjab.Dpl Go.Proofs.Ytpfpokjaeffbjab.Gpl Go.Proofs.Ytpfpokjaeffbjab.Kpl Go.Proofs.Ytpfpokjaeffbjab.Mem Go.Proofs.Ytpfpokjaeffbjab.Ver Go.Proofs.Ytpfpokjaeffbjab.Pkg
open Go.Proofs.Ytpfpokjaeffbjab.Fld hiding base
set_option linter.unusedVariables false
set_option linter.unusedSimpArgs false
def Box (K : List (Nat × Obj)) (b : Nat) (v : Value) : Prop := ∃ C e fz, (b, Obj.cells C e fz) ∈ K ∧ C[0]? = some v
def rightP (nv cv : Int) (cs : List Int) (l : List Cm) (msg : ByteArray) (k : Nat) : Bool :=
  decide (nv < 1073741789) && decide (pw 4 nv.toNat 2147483579 = emul (partP l (cs.getD 0 0) msg k) (pw (pub cs (l.getD k .zero).id) (smul cv (lagrange (idsOf l l.length) k)).toNat 2147483579))
structure WrkD (q : Prm) (s : Scene) (K : List (Nat × Obj)) (k : Nat) (nv cv : Int) (Pb gc lb : Nat) (cs : List Int) (l : List Cm) (msg : ByteArray) (bn bz bk bp bx bc br : Nat) : Prop where
  hn : Box K bn (.int .u64 nv)
  hz : ∃ cap, Box K bz (.slice (some ⟨s.Zb, 0, none⟩) s.n cap)
  hk : Box K bk (.int .i64 k)
  hp : Box K bp (.pointer (some ⟨Pb, 0, none⟩))
  hx : Box K bx (.pointer (some ⟨s.Gb, 0, none⟩))
  hc : Box K bc (.int .u64 cv)
  hr : ∃ cap, Box K br (.slice (some ⟨s.Rb, 0, none⟩) s.n cap)
  pk : ∃ C e fz cap, (Pb, Obj.cells C e fz) ∈ K ∧ C.size = 3 ∧ C[0]? = some (.pointer (some ⟨s.Gb, 0, none⟩)) ∧ C[1]? = some (.slice (some ⟨lb, 0, none⟩) l.length cap) ∧ C[2]? = some (.string msg) ∧ l.length ≤ cap
  gcB : ∃ C e fz, (gc, Obj.cells C e fz) ∈ K ∧ cs.length ≤ C.size ∧ ∀ j, j < cs.length → C[j]? = some (.int .u64 (cs.getD j 0))
  lbB : ∃ C e fz, (lb, Obj.cells C e fz) ∈ K ∧ 3 * l.length ≤ C.size ∧ ∀ j u, j < 3 * l.length → (comCells l)[j]? = some u → C[j]? = some u
  gp : gc ≠ Pb
  lp : lb ≠ Pb
  lg : lb ≠ gc
  low : q.P.globals.size ≤ Pb ∧ q.P.globals.size ≤ gc ∧ q.P.globals.size ≤ lb ∧ q.P.globals.size ≤ s.Gb
  g0 : ∃ t, s.g0 = .int .i64 t
  g1 : s.g1 = .int .i64 s.nn
  g2 : ∃ cap, s.g2 = .slice (some ⟨gc, 0, none⟩) cs.length cap
  n9 : s.nn ≤ 9
  c9 : cs.length ≤ 9
  c0 : 0 < cs.length
  el : ∀ j, j < cs.length → isEl (cs.getD j 0) = true
  vs : ∀ id : Nat, 1 ≤ id → id ≤ s.nn → s.vals id = pub cs id
  gd : Kpl.Good s.nn l
  l9 : l.length ≤ 9
  kl : k < l.length
  ln : l.length = s.n
  ms : msg.size ≤ 1000000
  nb : 0 ≤ nv ∧ nv < 18446744073709551616
  cb : 0 ≤ cv ∧ cv < 18446744073709551616
  zv : s.zv k = .int .u64 nv
  rv : s.rv k = .bool (rightP nv cv cs l msg k)
def visW (Pb Gb gc lb m n : Nat) : Nat → Option Nat := fun b => if b = Pb then some 3 else if b = Gb then some 3 else if b = gc then some m else if b = lb then some n else none
section
variable {q : Prm} {i : Nat} {s : Scene} {x : Wk} {K : List (Nat × Obj)} {k : Nat} {nv cv : Int} {Pb gc lb : Nat} {cs : List Int} {l : List Cm} {msg : ByteArray} {bn bz bk bp bx bc br : Nat}
theorem At.box {st : St Gho} (hA : At s i x st) (hK : x.keep = K) {b : Nat} {v : Value} (hb : Box K b v) : st.γ.rd i (ca b 0) ∧ st.w.cell? ⟨b, 0, none⟩ = some v := by
  obtain ⟨C, e, fz, h1, h2⟩ := hb
  rw [← hK] at h1
  obtain ⟨a, b⟩ := hA.fz _ _ h1
  exact ⟨b 0, by simp only [World.cell?, a]; exact h2⟩
theorem WrkD.vals (D : WrkD q s K k nv cv Pb gc lb cs l msg bn bz bk bp bx bc br) (hx : x.wg = .work) (hK : x.keep = K) (hP : q.P = Try.prog) {Ch : Nat → Goroutine → St Gho → Prop} : WorkOk q i Ch s x := by
  obtain ⟨cap, hg2⟩ := D.g2
  obtain ⟨C, e, fz, h1, h2, h3⟩ := D.gcB
  exact workGo hP hx D.n9 D.c9 D.el D.g1 hg2 D.vs (by rw [hK]; exact h1) h3
theorem WrkD.sees (D : WrkD q s K k nv cv Pb gc lb cs l msg bn bz bk bp bx bc br) {S : FuncId → Bool} {st : St Gho} (hA : At s i x st) (hK : x.keep = K) (hI : Inv q st) : Sees q S i (visW Pb s.Gb gc lb cs.length (3 * l.length)) st := by
  obtain ⟨CP, eP, fP, cap, p1, p2, p3, p4, p5, p6⟩ := D.pk
  obtain ⟨CG, eG, fG, g1, g2, g3⟩ := D.gcB
  obtain ⟨CL, eL, fL, l1, l2, l3⟩ := D.lbB
  rw [← hK] at p1 g1 l1
  have aP := hA.apart hI p1
  have aG := hA.apart hI g1
  have aL := hA.apart hI l1
  have vP : visW Pb s.Gb gc lb cs.length (3 * l.length) Pb = some 3 := by simp [visW]
  have vS : visW Pb s.Gb gc lb cs.length (3 * l.length) s.Gb = some 3 := by simp [visW]
  have vG : visW Pb s.Gb gc lb cs.length (3 * l.length) gc = some cs.length := by simp [visW, D.gp, aG.1]
  have vL : visW Pb s.Gb gc lb cs.length (3 * l.length) lb = some (3 * l.length) := by simp [visW, D.lp, aL.1, D.lg]
  have iS := idOf_some vS
  have iG := idOf_some vG
  have iL := idOf_some vL
  obtain ⟨C0, a1, a2, a3, a4, a5⟩ := (hI.scene s hA.sc).c.head
  obtain ⟨t0, ht0⟩ := D.g0
  obtain ⟨capg, hg2⟩ := D.g2
  intro b n hv
  unfold visW at hv
  split at hv
  · rename_i e; subst e
    cases hv
    refine ⟨D.low.1, .inl (hA.fz _ _ p1).2, CP, eP, fP, (hA.fz _ _ p1).1, by omega, fun j v hj hv => ?_⟩
    match j, hj with
    | 0, _ => rw [p3] at hv; cases hv; exact .ptr _ _ iS
    | 1, _ => rw [p4] at hv; cases hv; exact .slice _ _ _ _ iL
    | 2, _ => rw [p5] at hv; cases hv; exact .string _
    | j + 3, hj => omega
  split at hv
  · rename_i e; subst e
    cases hv
    refine ⟨D.low.2.2.2, .inr ⟨Nat.le_refl _, s, hA.sc, rfl⟩, C0, _, _, a1, a2, fun j v hj hv => ?_⟩
    match j, hj with
    | 0, _ => rw [a3, ht0] at hv; cases hv; exact .int _ _
    | 1, _ => rw [a4, D.g1] at hv; cases hv; exact .int _ _
    | 2, _ => rw [a5, hg2] at hv; cases hv; exact .slice _ _ _ _ iG
    | j + 3, hj => omega
  split at hv
  · rename_i e; subst e
    cases hv
    refine ⟨D.low.2.1, .inl (hA.fz _ _ g1).2, CG, eG, fG, (hA.fz _ _ g1).1, g2, fun j v hj hv => ?_⟩
    rw [g3 j hj] at hv; cases hv; exact .int _ _
  split at hv
  · rename_i e; subst e
    cases hv
    refine ⟨D.low.2.2.1, .inl (hA.fz _ _ l1).2, CL, eL, fL, (hA.fz _ _ l1).1, l2, fun j v hj hv => ?_⟩
    have hlen : j < (comCells l).length := by rw [comCells_length]; omega
    have := l3 j _ hj (List.getElem?_eq_getElem hlen)
    rw [this] at hv; cases hv
    have hm := List.getElem_mem hlen
    generalize (comCells l)[j] = u at hm ⊢
    simp only [comCells, List.mem_flatMap] at hm
    obtain ⟨c, _, hu⟩ := hm
    simp only [Cm.cells, List.mem_cons, List.not_mem_nil, or_false] at hu
    rcases hu with rfl | rfl | rfl <;> exact .int _ _
  · cases hv
theorem WrkD.pkw (D : WrkD q s K k nv cv Pb gc lb cs l msg bn bz bk bp bx bc br) {st : St Gho} (hA : At s i x st) (hK : x.keep = K) (hI : Inv q st) (τ : Nat → Question → Nat) (d : Nat) :
    ∃ lv, PkW (World.on (shadowOf st.w (visW Pb s.Gb gc lb cs.length (3 * l.length))) τ d) Pb s.Gb lv cs l msg := by
  obtain ⟨CP, eP, fP, cap, p1, p2, p3, p4, p5, p6⟩ := D.pk
  obtain ⟨CG, eG, fG, g1, g2, g3⟩ := D.gcB
  obtain ⟨CL, eL, fL, l1, l2, l3⟩ := D.lbB
  rw [← hK] at p1 g1 l1
  have aP := hA.apart hI p1
  have aG := hA.apart hI g1
  have aL := hA.apart hI l1
  have vP : visW Pb s.Gb gc lb cs.length (3 * l.length) Pb = some 3 := by simp [visW]
  have vS : visW Pb s.Gb gc lb cs.length (3 * l.length) s.Gb = some 3 := by simp [visW]
  have vG : visW Pb s.Gb gc lb cs.length (3 * l.length) gc = some cs.length := by simp [visW, D.gp, aG.1]
  have vL : visW Pb s.Gb gc lb cs.length (3 * l.length) lb = some (3 * l.length) := by simp [visW, D.lp, aL.1, D.lg]
  obtain ⟨C0, a1, a2, a3, a4, a5⟩ := (hI.scene s hA.sc).c.head
  obtain ⟨capg, hg2⟩ := D.g2
  have bP := shadow_block vP (hA.fz _ _ p1).1
  have bS := shadow_block vS a1
  have bG := shadow_block vG (hA.fz _ _ g1).1
  have bL := shadow_block vL (hA.fz _ _ l1).1
  have hs := shadow_size st.w (visW Pb s.Gb gc lb cs.length (3 * l.length))
  have cell : ∀ {b n : Nat} {C : Array Value} {e : TypeId}, (shadowOf st.w (visW Pb s.Gb gc lb cs.length (3 * l.length))).heap[b]? = some (.cells (C.extract 0 n) e (0, n)) → ∀ {o : Nat}, o < n → n ≤ C.size → (World.on (shadowOf st.w (visW Pb s.Gb gc lb cs.length (3 * l.length))) τ d).cell? ⟨b, o, none⟩ = C[o]? := by
    intro b n C e hb o ho hn
    show World.cell? (shadowOf st.w _) _ = _
    simp only [World.cell?, hb]
    have e1 : (C.extract 0 n)[o]? = C[o]? := by
      rw [Array.getElem?_extract]
      simp only [Nat.zero_add]
      by_cases h : o < n - 0
      · simp; omega
      · omega
    exact e1
  have lt : ∀ {b : Nat} {o : Obj}, st.w.heap[b]? = some o → b < (World.on (shadowOf st.w (visW Pb s.Gb gc lb cs.length (3 * l.length))) τ d).heap.size := fun h => by
    show _ < (shadowOf st.w _).heap.size
    rw [hs]; exact lt_of_block h
  refine ⟨_, ⟨⟨(cell bP (by omega) (by omega)).trans p3, (cell bP (by omega) (by omega)).trans p4, (cell bP (by omega) (by omega)).trans p5⟩, lt (hA.fz _ _ p1).1, ?_, gc, capg, (cell bS (by omega) (by omega)).trans (a5.trans (by rw [hg2])), lt a1, lt (hA.fz _ _ g1).1, fun h => (cell bG h g2).trans (g3 0 h)⟩⟩
  refine ⟨by rw [comCells_length], _, _, rfl, p6, fun hp => ⟨lb, 0, rfl, lt (hA.fz _ _ l1).1, fun j u hj => ?_⟩⟩
  have hlt := (List.getElem?_eq_some_iff.1 hj).1
  rw [comCells_length] at hlt
  rw [Nat.zero_add]
  exact (cell bL (by omega) l2).trans (l3 j u (by omega) hj)
variable {Ch : Nat → Goroutine → St Gho → Prop} {b : Frame} {ops : Array Oper} {kk : List Item} {cc : List Frame} {S : Array Bool → St Gho → Prop}
structure Ground (q : Prm) (s : Scene) (i : Nat) (K : List (Nat × Obj)) (S : Array Bool → St Gho → Prop) (j : Nat) : Prop where
  at_ : ∀ l st, S l st → Inv q st ∧ ∃ x : Wk, x.wg = .work ∧ x.keep = K ∧ At s i x st
  stay : ∀ l st st₁, S l st → Rl i st st₁ → Inv q st₁ → S l st₁
  set : ∀ l st, l.getD j true = false → S l st → S (l.setIfInBounds j true) st
theorem work_ne {w : WG} (h : w = .work) : w ≠ .lv ∧ w ≠ .gone ∧ w ≠ .idle := by rw [h]; simp
theorem Does.calm {P : Program} (hP : q.P = P) {j : Nat} {o : Oper} {X : Sem Next} {v : Value} (G : Ground q s i K S j) (ho : ops[j]? = some o) (hk : b.kind ≠ .early)
    (hrun : ∀ w, X.run P w = .ok (.value v) w) (hev : ∀ w, X.events P w #[] = #[]) : Does (cfg q) i Ch b ops kk cc S j o X v :=
  Does.quiet hP ho hk (fun l st hl hs => by
    obtain ⟨_, x, hx, _, hA⟩ := G.at_ l st hs
    exact ⟨⟨x, work_ne hx, hA⟩, fun st₁ hr hi => G.stay _ _ _ (G.set l st hl hs) hr hi⟩) hrun fun a w h => by unfold listed; rw [h, hev]; exact seen_none P _
theorem Does.box {P : Program} (hP : q.P = P) {j : Nat} {o : Oper} {a₀ : Act} {v : Value} {bb : Nat} {t : TypeId} {y : Operand} (G : Ground q s i K S j) (ho : ops[j]? = some o) (hk : b.kind ≠ .early) (hop : o.op = .load t y) (hy : a₀.eval y = .pointer (some ⟨bb, 0, none⟩)) (hb : Box K bb v)
    (hld : ∀ w : World, w.cell? ⟨bb, 0, none⟩ = some v → (Instr.loadAt t (.pointer (some ⟨bb, 0, none⟩))).run P w = .ok v w ∧ (Instr.loadAt t (.pointer (some ⟨bb, 0, none⟩))).events P w #[] = #[⟨.cell ⟨bb, 0, none⟩, false, false⟩]) : Does (cfg q) i Ch b ops kk cc S j o (execOp a₀.eval o) v :=
  Does.reads hP ho hk fun l st hl hs => by
    obtain ⟨_, x, hx, hK, hA⟩ := G.at_ l st hs
    refine ⟨⟨x, hx, hA⟩, fun st₁ hr hi => ?_⟩
    have hA₁ := hA.rely (work_ne hx) hr hi
    obtain ⟨b1, b2⟩ := hA₁.box hK hb
    obtain ⟨r1, r2⟩ := hld st₁.w b2
    have hr' : (execOp a₀.eval o).run P st₁.w = .ok (.value v) st₁.w := by
      unfold execOp
      simp only [hop, hy]
      simp [r1]
    have he' : (execOp a₀.eval o).events P st₁.w #[] = #[⟨.cell ⟨bb, 0, none⟩, false, false⟩] := by
      unfold execOp
      simp only [hop, hy]
      simp [r1, r2]
    refine ⟨G.stay _ _ _ (G.set l st hl hs) hr hi, hr', fun a he e hm => ?_⟩
    have := mem_listed hm
    rw [he, he'] at this
    simp at this
    exact ⟨bb, 0, this, b1⟩
theorem Does.lone {P : Program} (hP : q.P = P) {SF : FuncId → Bool} (F : FnsOk P SF) {j : Nat} {o : Oper} {a₀ : Act} {v : Value} {f : FuncId} {fn : Func} {c : Code} {ars : Array Operand} {ats : Array TypeId} {args : Array Value} (G : Ground q s i K S j) (hS : SF f = true) (ho : ops[j]? = some o) (hk : b.kind ≠ .early) (hop : o.op = .call { callee := .value (.func f), args := ars, argTypes := ats })
    (hf : P.funcs[f]? = some fn) (hname : (fn.name == "runtime.NumGoroutine") = false) (hb : fn.body = some c) (hargs : ars.map a₀.eval = args) {vis : Nat → Option Nat} (hV : ∀ (x : Wk) (st : St Gho), At s i x st → x.keep = K → Inv q st → Sees q SF i vis st)
    (ha : AR (fun f => SF f = true) (idOf vis) args args) (hv : VR (fun f => SF f = true) (idOf vis) v v) (hC : ∀ (x : Wk) (st : St Gho) τ d, At s i x st → x.keep = K → Inv q st → Calls P f args (World.on (shadowOf st.w vis) τ d) fun e w' => e = .returned v) (hsol : solB 4 v = true := by first | rfl | simp [solB]) : Does (cfg q) i Ch b ops kk cc S j o (execOp a₀.eval o) v := by
  refine Does.call (s := s) hP ho hk hop hf hname hb hargs (fun l st hs => ?_) fun l a rest st hl hs fin => ?_
  · obtain ⟨_, x, hx, _, hA⟩ := G.at_ l st hs
    exact ⟨⟨x, work_ne hx, hA⟩, fun st₁ hr hi => G.stay _ _ _ hs hr hi⟩
  · obtain ⟨hI, x, hx, hK, hA⟩ := G.at_ l st hs
    refine TT.call hP F hS hA hx hI (hV x st hA hK hI) ha hv (fun τ d => hC x st τ d hA hK hI) (hs := hsol) fun st' hr hi _ => ?_
    have e : (b.at a (.inRegion ops (j :: rest) :: kk)).finish v = b.at (a.put o.dst v) (.inRegion ops rest :: kk) := by rw [Frame.finish_at, ho]; rfl
    rw [e]
    exact fin st' (G.stay _ _ _ (G.set l st hl hs) hr hi)
theorem skip_quiet {P : Program} (hP : q.P = P) (hS : ∀ l st, S l st → (∃ x : Wk, (x.wg ≠ .lv ∧ x.wg ≠ .gone ∧ x.wg ≠ .idle) ∧ At s i x st) ∧ ∀ st₁, Rl i st st₁ → Inv q st₁ → S l st₁) {j : Nat} {l : Array Bool} {a : Act} {o : Oper} {rest : List Nat} {st : St Gho}
    (hset : ∀ st, S l st → S (l.setIfInBounds j true) st) (ho : ops[j]? = some o) (hw : Region.wanted o (yielded ops a.tmps) = false) (hs : S l st) (h : ∀ st', S (l.setIfInBounds j true) st' → TT (cfg q) i Ch (Go.Conc.G (b.at (a.put o.dst undef) (.inRegion ops rest :: kk)) cc) st') : TT (cfg q) i Ch (Go.Conc.G (b.at a (.inRegion ops (j :: rest) :: kk)) cc) st := by
  subst hP
  obtain ⟨⟨x, hx, hA⟩, hS'⟩ := hS l st hs
  refine TT.step fun st₁ hr hi => ⟨fun hl => absurd hl ((hA.rely hx hr hi).notLv ⟨hx.1, hx.2.1⟩), ?_⟩
  have hstep : stepG (cfg q).P (i == 0) (Go.Conc.G (b.at a (.inRegion ops (j :: rest) :: kk)) cc) st₁.w = .go (Go.Conc.G (b.at (a.put o.dst undef) (.inRegion ops rest :: kk)) cc) st₁.w #[] := stepG_unwanted ho hw
  unfold StepK
  rw [hstep]
  have e : (⟨st₁.w, st₁.t ++ MemOp.ofEvents i (Go.Conc.G (b.at a (.inRegion ops (j :: rest) :: kk)) cc).frame.fn (Go.Conc.G (b.at a (.inRegion ops (j :: rest) :: kk)) cc).frame.place #[], st₁.γ⟩ : St Gho) = st₁ := by rw [ofEvents_none, Array.append_empty]
  refine .inr ⟨st₁.γ, by rw [e]; exact hi, by rw [e], fun j hj => by rw [e]; exact Rl.refl j st₁, .inr fun k _ hw => by rw [e]; exact hw, ?_⟩
  rw [e]
  exact .inl ⟨rfl, h st₁ (hset st₁ (hS' st₁ hr hi))⟩
end
end Go.Proofs.Ytpfpokjaeffbjab.Cc
namespace Go.Proofs.Ytpfpokjaeffbjab.Cc
open Go.Conc Go.ConcN Go.ConcM Go.RowKit Go.Conc.Lib Go.ConcR.Gen
open Go.ConcR (KK wgBlock WgAt stA smA rd wr mk DC0)
open Go.ConcM (OsLater)
set_option linter.unusedVariables false
set_option linter.unusedSimpArgs false
theorem quits_pad {P : Program} : ∀ {n d : Nat} {g : Goroutine}, QuitsD P n d g → ∀ k, QuitsD P (n + k) d g
  | 0, d, g, h, 0 => h
  | 0, d, g, h, k + 1 => by rw [Nat.zero_add]; exact .inl h
  | n + 1, d, g, h, k => by
    rw [Nat.add_right_comm]
    exact h.imp id fun ⟨a, g', es, b, c, e⟩ => ⟨a, g', es, b, c, quits_pad e k⟩
theorem cntW_le (p : WG → Bool) (γ : Gho) (s : Scene) : cntW p γ s ≤ s.n := by
  unfold cntW
  exact Nat.le_trans (List.countP_le_length) (by simp)
section
variable {q : Prm} {i : Nat} {s : Scene} {x : Wk}
theorem evw_rw (off : Nat) (h : off < 2) : ∀ e ∈ (#[⟨.cell ⟨s.Wg, off, none⟩, false, true⟩, ⟨.cell ⟨s.Wg, off, none⟩, true, true⟩] : Array Event), ∃ o y, e = ⟨ca s.Wg o, y, true⟩ ∧ o < 2 := by
  intro e he
  simp at he
  rcases he with rfl | rfl
  · exact ⟨off, false, rfl, h⟩
  · exact ⟨off, true, rfl, h⟩
theorem evw_r (off : Nat) (h : off < 2) : ∀ e ∈ (#[⟨.cell ⟨s.Wg, off, none⟩, false, true⟩] : Array Event), ∃ o y, e = ⟨ca s.Wg o, y, true⟩ ∧ o < 2 := by
  intro e he
  simp at he
  subst he
  exact ⟨off, false, rfl, h⟩
theorem evw_w (off : Nat) (h : off < 2) : ∀ e ∈ (#[⟨.cell ⟨s.Wg, off, none⟩, true, true⟩] : Array Event), ∃ o y, e = ⟨ca s.Wg o, y, true⟩ ∧ o < 2 := by
  intro e he
  simp at he
  subst he
  exact ⟨off, true, rfl, h⟩
theorem wgl_d2 {mw : MW} {c d2 d3 d4 st sm : Nat} (h : WgL mw c d2 d3 d4 st sm) (h2 : 1 ≤ d2) : mw = .rg ∧ c = 0 ∧ st = 1 ∧ sm = 0 ∧ d2 + d3 = 1 ∧ d4 = 0 := by
  cases mw <;> simp only [WgL] at h
  all_goals (first | (exfalso; omega) | skip)
  rcases h with h | h | h | h
  · exfalso; omega
  · exact ⟨rfl, h⟩
  · exfalso; omega
  · exfalso; omega
theorem wgl_d3 {mw : MW} {c d2 d3 d4 st sm : Nat} (h : WgL mw c d2 d3 d4 st sm) (h2 : 1 ≤ d3) : mw = .rg ∧ c = 0 ∧ st = 1 ∧ sm = 0 ∧ d2 + d3 = 1 ∧ d4 = 0 := by
  cases mw <;> simp only [WgL] at h
  all_goals (first | (exfalso; omega) | skip)
  rcases h with h | h | h | h
  · exfalso; omega
  · exact ⟨rfl, h⟩
  · exfalso; omega
  · exfalso; omega
theorem wgl_d4 {mw : MW} {c d2 d3 d4 st sm : Nat} (h : WgL mw c d2 d3 d4 st sm) (h2 : 1 ≤ d4) : mw = .rg ∧ c = 0 ∧ st = 0 ∧ sm = 0 ∧ d2 + d3 = 0 ∧ d4 = 1 := by
  cases mw <;> simp only [WgL] at h
  all_goals (first | (exfalso; omega) | skip)
  rcases h with h | h | h | h
  · exfalso; omega
  · exfalso; omega
  · exact ⟨rfl, h.1, h.2.1, h.2.2.1, by omega, h.2.2.2.2.2⟩
  · exfalso; omega
theorem wg_eff {st : St Gho} (c : SceneC q s st) (off : Nat) (v : Value) : (st.w.setCell ⟨s.Wg, off, none⟩ v).heap.size = st.w.heap.size ∧ (∀ b, b ≠ s.Wg → (st.w.setCell ⟨s.Wg, off, none⟩ v).heap[b]? = st.w.heap[b]?) ∧ OsLater st.w.os (st.w.setCell ⟨s.Wg, off, none⟩ v).os ∧ (st.w.setCell ⟨s.Wg, off, none⟩ v).output = st.w.output := by
  have A := aside_setCell st.w ⟨s.Wg, off, none⟩ v
  exact ⟨A.size, fun b hb => A.block b hb, by rw [A.os]; exact .refl _, A.output⟩
end
section
variable {q : Prm} (hP : q.P = Try.prog) {i : Nat} {s : Scene} {x : Wk} {Ch : Nat → Goroutine → St Gho → Prop}
noncomputable def doneBody : Code := Try.f44.body.getD .skip
include hP
set_option maxRecDepth 100000 in
set_option maxHeartbeats 16000000 in
theorem doneGo {c : Frame} {cs₀ : List Frame} (hc : c.mode = .returning) {qt : Nat} (hq : QuitsD Try.prog qt 0 (G c cs₀)) (hx : x.wg = .work) (hdf : x.df = 0) (hz : x.zw = true) (hr : x.rw = true) (hm : x.mx = .fresh ∨ x.mx = .out) {st : St Gho} (hA : At s i x st) :
    TT (cfg q) i Ch (G ((baseD 44).at ⟨#[.pointer (some ⟨s.Wg, 0, none⟩), undef, undef, undef], []⟩ [.code doneBody]) (c :: cs₀)) st := by
  simp only [doneBody, Try.f44, Option.getD_some]
  refine TT.roadW hP hA (by simp [hx]) 80 fun w₀ hF => ?_
  repeat w_go roadW_rely
  u_call Try.func42 n_wadd Try.f42 roadW_rely hF
  repeat w_go roadW_rely
  m_convG Try.prog Try.underlying157 u_wgp z_wg hF.choose_spec roadW_rely hF
  refine Goes.stop (fun w₁ r₁ => ⟨rfl, ?_⟩)
  clear hF r₁ w₁ w₀
  refine TT.rel hP hA hx hdf hz hr hm fun st₁ hA₁ hI₁ hC₁ => ⟨_, stepG_markAt .releaseMerge (by simp) rfl rfl (by k_ne) rfl Try.func79 n_rel b_rel x_rel f_rel (by simp [Act.eval]; rfl), rfl, fun st₂ hA₂ hI₂ => ?_⟩
  clear hC₁ hI₁ hA₁
  refine TT.roadW hP hA₂ (by simp) 80 fun w₀ hF => ?_
  walk_nrm
  repeat w_go roadW_rely
  refine Goes.stop (fun w₁ r₁ => ⟨rfl, ?_⟩)
  clear hF r₁ w₁ w₀
  refine TT.wgs hP hA₂ (by simp) fun st₃ hA₃ hI₃ hC₃ => ⟨_, _, _, .deaf, st₃.γ.gs, st₃.γ.gm, stepG_mark0 .disable (by simp) rfl rfl (by k_ne) rfl Try.func80 n_disable b_disable x_disable f_disable, rfl, by simp [WG.cr], wgev_mute (by simp [Event.mute]), ⟨rfl, fun _ _ => rfl, .refl _, rfl⟩, hC₃.wgb, ?_, .inr rfl, fun st₄ hA₄ hI₄ _ => ?_⟩
  · intro c d2 d3 d4 h1 h2 h3 h4
    simp [WG.cd] at h1 h2 h3 h4
    rw [h1, h2, h3, h4]
    exact hC₃.wgl
  clear hC₃ hI₃ hA₃
  refine TT.roadW hP hA₄ (by simp) 80 fun w₀ hF => ?_
  walk_nrm
  repeat w_go roadW_rely
  u_defer roadW_rely hF
  repeat w_go roadW_rely
  u_in roadW_rely hF
  rw [stepG_entry_pure (.bool false) rfl rfl (by k_ne) rfl Try.func82 n_bub b_bub x_bub f_bub]
  simp only [goes_go]
  refine ⟨by u_nil, ?_⟩
  walk_nrm
  repeat w_go roadW_rely
  u_call Try.func86 n_uadd Try.f86 roadW_rely hF
  repeat w_go roadW_rely
  refine Goes.stop (fun w₁ r₁ => ⟨rfl, ?_⟩)
  clear hF r₁ w₁ w₀
  refine TT.wgs hP hA₄ (by simp) fun st₅ hA₅ hI₅ hC₅ => ?_
  have hL := hC₅.wgl
  have hn := hC₅.n0.2.2.2
  have hc1 : 1 ≤ cntW WG.cd st₅.γ s := cntW_pos hA₅.lo (hA₅.hi hI₅) (by rw [hA₅.me]; rfl)
  have hc9 : cntW WG.cd st₅.γ s ≤ 9 := Nat.le_trans (cntW_le _ _ _) hn
  by_cases hlast : st₅.γ.mw = .rg ∧ cntW WG.cd st₅.γ s = 1
  ·
    obtain ⟨hgs, hgm⟩ : st₅.γ.gs = 4294967297 ∧ st₅.γ.gm = 0 := by
      rw [hlast.1] at hL
      simp only [WgL] at hL
      omega
    have hw := hC₅.wgb
    rw [hgs, hgm] at hw
    have e1 : IntKind.u64.wrap ((4294967297 : Nat) + 18446744069414584320 : Int) = ((1 : Nat) : Int) := by decide
    refine ⟨_, _, _, .d2, 1, 0, (stepG_add_atomic rfl rfl (by k_ne) rfl Try.func112 n_add64 b_add64 x_add64 .u64 f_add64 rfl rfl hw.cellSt (hw.thaw 0)).trans (by rw [e1]; rfl), rfl, by simp [WG.cr], wgev_atoms (by show 0 < deafBehind x.df #[⟨.mark .disable, false, true⟩]; rw [hdf]; decide) (evw_rw 0 (by omega)), wg_eff hC₅ 0 _, hw.setSt 1, ?_, .inr hgm.symm, fun st₆ hA₆ hI₆ hg₆ => ?_⟩
    · intro c d2 d3 d4 h1 h2 h3 h4
      have hL := hL
      rw [hlast.1] at hL ⊢
      simp only [WgL] at hL ⊢
      simp [WG.cd] at h1 h2 h3 h4
      have hl := hlast.2
      obtain ⟨k2, k3, k4⟩ : cntW (· == .d2) st₅.γ s = 0 ∧ cntW (· == .d3) st₅.γ s = 0 ∧ cntW (· == .d4) st₅.γ s = 0 := by
        rcases hL with h | h | h | h
        · exact ⟨h.2.2.2.1, h.2.2.2.2.1, h.2.2.2.2.2⟩
        all_goals (have := h.1; omega)
      exact .inr (.inl ⟨by omega, trivial, trivial, by omega, by omega⟩)
    clear hw e1 hgs hgm hL hc1 hc9 hlast hC₅ hI₅ hA₅ hg₆ hn
    have b1 : bits .and .u64 1 2147483648 = 0 := by decide
    have b2 : bits .and .u64 1 2147483647 = 1 := by decide
    have b3 : IntKind.wrap .u32 1 = 1 := by decide
    have b4 : IntKind.wrap .i32 0 = 0 := by decide
    refine TT.roadW hP hA₆ (by simp) 160 fun w₀ hF => ?_
    simp only [Int.natCast_one]
    walk_nrm
    repeat w_go roadW_rely
    u_leave1 Try.func86 roadW_rely hF
    repeat w_go roadW_rely
    u_call Try.func88 n_uload Try.f88 roadW_rely hF
    repeat w_go roadW_rely
    refine Goes.stop (fun w₁ r₁ => ⟨rfl, ?_⟩)
    clear hF r₁ w₁ w₀
    have hd6 : 0 < deafBehind (deafBehind x.df #[⟨.mark .disable, false, true⟩]) #[⟨.cell (stA s.Wg), false, true⟩, ⟨.cell (stA s.Wg), true, true⟩] := by rw [hdf]; exact Nat.lt_of_lt_of_eq (by omega : 0 < 1) rfl
    refine TT.wgs hP hA₆ (by simp) fun st₇ hA₇ hI₇ hC₇ => ?_
    obtain ⟨k1, k2, k3, k4, k5, k6⟩ := wgl_d2 hC₇.wgl (cntW_pos hA₇.lo (hA₇.hi hI₇) (by rw [hA₇.me]; rfl))
    have hw := hC₇.wgb
    rw [k3, k4] at hw
    refine ⟨_, _, _, .d3, 1, 0, stepG_load_atomic rfl rfl (by k_ne) rfl Try.func113 n_ld64 b_ld64 x_ld64 .u64 f_ld64 rfl hw.cellSt, rfl, by simp [WG.cr], wgev_atoms hd6 (evw_r 0 (by omega)), ⟨rfl, fun _ _ => rfl, .refl _, rfl⟩, hw, ?_, .inr k4.symm, fun st₈ hA₈ hI₈ hg₈ => ?_⟩
    · intro c d2 d3 d4 h1 h2 h3 h4
      rw [k1]
      simp only [WgL]
      simp [WG.cd] at h1 h2 h3 h4
      exact .inr (.inl ⟨by omega, trivial, trivial, by omega, by omega⟩)
    clear hw k1 k2 k3 k4 k5 k6 hC₇ hI₇ hA₇ hg₈
    refine TT.roadW hP hA₈ (by simp) 160 fun w₀ hF => ?_
    simp only [Int.natCast_one]
    walk_nrm
    repeat w_go roadW_rely
    u_leave1 Try.func88 roadW_rely hF
    repeat w_go roadW_rely
    u_call Try.func89 n_ustore Try.f89 roadW_rely hF
    repeat w_go roadW_rely
    refine Goes.stop (fun w₁ r₁ => ⟨rfl, ?_⟩)
    clear hF r₁ w₁ w₀
    refine TT.wgs hP hA₈ (by simp) fun st₉ hA₉ hI₉ hC₉ => ?_
    obtain ⟨k1, k2, k3, k4, k5, k6⟩ := wgl_d3 hC₉.wgl (cntW_pos hA₉.lo (hA₉.hi hI₉) (by rw [hA₉.me]; rfl))
    have hw := hC₉.wgb
    rw [k3, k4] at hw
    refine ⟨_, _, _, .d4, 0, 0, stepG_store_atomic rfl rfl (by k_ne) rfl Try.func114 n_st64 b_st64 x_st64 f_st64 rfl rfl hw.cellSt (hw.thaw 0), rfl, by simp [WG.cr], wgev_atoms hd6 (evw_w 0 (by omega)), wg_eff hC₉ 0 _, hw.setSt 0, ?_, .inr k4.symm, fun stV hAA hIA hgA => ?_⟩
    · intro c d2 d3 d4 h1 h2 h3 h4
      rw [k1]
      simp only [WgL]
      simp [WG.cd] at h1 h2 h3 h4
      exact .inr (.inr (.inl ⟨by omega, trivial, trivial, by omega, by omega, by omega⟩))
    clear hw k1 k2 k3 k4 k5 k6 hC₉ hI₉ hA₉ hgA
    refine TT.roadW hP hAA (by simp) 160 fun w₀ hF => ?_
    walk_nrm
    repeat w_go roadW_rely
    u_leave0 Try.func89 roadW_rely hF
    repeat w_go roadW_rely
    refine Goes.stop (fun w₁ r₁ => ⟨rfl, ?_⟩)
    clear hF r₁ w₁ w₀
    refine TT.wgs hP hAA (by simp) fun stB hAB hIB hCB => ?_
    obtain ⟨k1, k2, k3, k4, k5, k6⟩ := wgl_d4 hCB.wgl (cntW_pos hAB.lo (hAB.hi hIB) (by rw [hAB.me]; rfl))
    have hw := hCB.wgb
    rw [k3, k4] at hw
    have e1 : IntKind.u32.wrap ((0 : Nat) + 1 : Int) = ((1 : Nat) : Int) := by decide
    refine ⟨_, _, _, .lv, 0, 1, (stepG_semrelease rfl rfl (by k_ne) rfl Try.func91 n_wsrel b_wsrel x_wsrel f_wsrel (by simp [Act.eval]; rfl) hw.cellSm (hw.thaw 1)).trans (by rw [e1]; rfl), rfl, by simp [WG.cr], wgev_sem, wg_eff hCB 1 _, hw.setSm 1, ?_, .inl (mayWake_entry rfl rfl Try.func91 b_wsrel), fun stC hAC hIC hgC => ?_⟩
    · intro c d2 d3 d4 h1 h2 h3 h4
      rw [k1]
      simp only [WgL]
      simp [WG.cd] at h1 h2 h3 h4
      exact .inr (.inr (.inr ⟨by omega, trivial, trivial, by omega, by omega, by omega⟩))
    clear hw k1 k2 k3 k4 k5 k6 e1 hCB hIB hAB hgC
    have quit : ∀ g : Goroutine, g.status = .running → (∃ n, QuitsD Try.prog n 1 g) → TT (cfg q) i Ch g stC := fun g hg ⟨n, hn⟩ => TT.quits hP n g stC hAC.ne hAC.lt (congrArg Wk.wg hAC.me) hg (by
      rw [hAC.me]
      have e : deafBehind (deafBehind (deafBehind (deafBehind (deafBehind x.df #[⟨.mark .disable, false, true⟩]) #[⟨.cell (stA s.Wg), false, true⟩, ⟨.cell (stA s.Wg), true, true⟩]) #[⟨.cell (stA s.Wg), false, true⟩]) #[⟨.cell (stA s.Wg), true, true⟩]) (semEvents (smA s.Wg)) = 1 := by rw [hdf]; rfl
      exact (congrArg (fun d => QuitsD Try.prog n d g) e).mpr hn)
    refine quit _ rfl ?_
    clear quit
    refine ⟨qt + 300, ?_⟩
    walk_nrm
    repeat q_go
    refine QuitsD.unwind_mark .enable rfl (by simp) rfl Try.func81 n_enable b_enable x_enable f_enable ?_
    simp only [deafBehind_enable1]
    q_leave0 Try.func42
    repeat q_go
    exact QuitsD.leaveD rfl rfl Try.func44 rfl hc (quits_pad hq _)
  · obtain ⟨v, wt, hgs, hwt, hv, h0, hgm⟩ : ∃ v wt : Nat, st₅.γ.gs = (v + 1) * 4294967296 + wt ∧ wt ≤ 1 ∧ v ≤ 10 ∧ (v = 0 → wt = 0) ∧ st₅.γ.gm = 0 := by
      have key : ∀ (mw : MW) (c d2 d3 d4 gs gm : Nat), WgL mw c d2 d3 d4 gs gm → 1 ≤ c → c ≤ 9 → ¬ (mw = .rg ∧ c = 1) → ∃ v wt : Nat, gs = (v + 1) * 4294967296 + wt ∧ wt ≤ 1 ∧ v ≤ 10 ∧ (v = 0 → wt = 0) ∧ gm = 0 := by
        intro mw c d2 d3 d4 gs gm h h1 h9 hne
        cases mw <;> simp only [WgL] at h
        · exact ⟨c - 1, 0, by omega, by omega, by omega, by omega, by omega⟩
        · exact ⟨c, 0, by omega, by omega, by omega, by omega, by omega⟩
        · exact ⟨c - 1, 0, by omega, by omega, by omega, by omega, by omega⟩
        · have : c ≠ 1 := fun e => hne ⟨rfl, e⟩
          rcases h with h | h | h | h
          · exact ⟨c - 1, 1, by omega, by omega, by omega, by omega, by omega⟩
          all_goals (have := h.1; omega)
        · omega
      exact key _ _ _ _ _ _ _ hL hc1 hc9 hlast
    have hw := hC₅.wgb
    rw [hgs, hgm] at hw
    have e1 : IntKind.u64.wrap ((((v + 1) * 4294967296 + wt : Nat) : Int) + 18446744069414584320) = ((v * 4294967296 + wt : Nat) : Int) := by rw [IntKind.wrap_u64]; omega
    refine ⟨_, _, _, .lv, v * 4294967296 + wt, 0, (stepG_add_atomic rfl rfl (by k_ne) rfl Try.func112 n_add64 b_add64 x_add64 .u64 f_add64 rfl rfl hw.cellSt (hw.thaw 0)).trans (by rw [e1]; rfl), rfl, by simp [WG.cr], wgev_atoms (by show 0 < deafBehind x.df #[⟨.mark .disable, false, true⟩]; rw [hdf]; decide) (evw_rw 0 (by omega)), wg_eff hC₅ 0 _, hw.setSt _, ?_, .inr hgm.symm, fun st₆ hA₆ hI₆ hg₆ => ?_⟩
    · intro c d2 d3 d4 h1 h2 h3 h4
      simp [WG.cd] at h1 h2 h3 h4
      have key : ∀ (mw : MW) (C D2 D3 D4 gs gm c d2 d3 d4 : Nat), WgL mw C D2 D3 D4 gs gm → 1 ≤ C → C ≤ 9 → ¬ (mw = .rg ∧ C = 1) → gs = (v + 1) * 4294967296 + wt → gm = 0 → c + 1 = C → d2 = D2 → d3 = D3 → d4 = D4 → WgL mw c d2 d3 d4 (v * 4294967296 + wt) 0 := by
        intro mw C D2 D3 D4 gs gm c d2 d3 d4 h a1 a9 hne e1 e2 e3 e4 e5 e6
        subst e4 e5 e6
        cases mw <;> simp only [WgL] at h ⊢
        · exact ⟨by omega, trivial, h.2.2.1, h.2.2.2.1, h.2.2.2.2⟩
        · exact ⟨by omega, trivial, h.2.2.1, h.2.2.2.1, h.2.2.2.2⟩
        · exact ⟨by omega, trivial, h.2.2.1, h.2.2.2.1, h.2.2.2.2⟩
        · have : C ≠ 1 := fun e => hne ⟨rfl, e⟩
          rcases h with h | h | h | h
          · exact .inl ⟨by omega, by omega, trivial, h.2.2.2⟩
          all_goals (have := h.1; omega)
        · omega
      exact key _ _ _ _ _ _ _ _ _ _ _ hL hc1 hc9 hlast hgs hgm h1 h2 h3 h4
    have quit : ∀ g : Goroutine, g.status = .running → (∃ n, QuitsD Try.prog n 1 g) → TT (cfg q) i Ch g st₆ := fun g hg ⟨n, hn⟩ => TT.quits hP n g st₆ hA₆.ne hA₆.lt (congrArg Wk.wg hA₆.me) hg (by
      rw [hA₆.me]
      have e : deafBehind (deafBehind x.df #[⟨.mark .disable, false, true⟩]) #[⟨.cell (stA s.Wg), false, true⟩, ⟨.cell (stA s.Wg), true, true⟩] = 1 := by rw [hdf]; rfl
      exact (congrArg (fun d => QuitsD Try.prog n d g) e).mpr hn)
    refine quit _ rfl ?_
    clear quit hA₆ hI₆ hg₆ hw e1 hgs hgm hL hc1 hc9 hlast hC₅ hI₅ hA₅
    rcases Nat.eq_zero_or_pos v with rfl | hvp
    · obtain rfl := h0 rfl
      clear h0 hwt hv
      simp only [Nat.zero_mul, Nat.zero_add, Nat.add_zero, Int.natCast_zero]
      have b1 : bits .and .u64 0 2147483648 = 0 := by decide
      have b2 : bits .and .u64 0 2147483647 = 0 := by decide
      have b3 : IntKind.wrap .u32 0 = 0 := by decide
      have b4 : IntKind.wrap .i32 0 = 0 := by decide
      refine ⟨qt + 300, ?_⟩
      walk_nrm
      repeat q_go
      q_leave1 Try.func86
      repeat q_go
      refine QuitsD.unwind_mark .enable rfl (by simp) rfl Try.func81 n_enable b_enable x_enable f_enable ?_
      simp only [deafBehind_enable1]
      q_leave0 Try.func42
      repeat q_go
      exact QuitsD.leaveD rfl rfl Try.func44 rfl hc (quits_pad hq _)
    · have hS0 : ((v * 4294967296 + wt : Nat) : Int) = (v : Int) * 4294967296 + (wt : Int) := by omega
      rw [hS0]
      have b1 : bits .and .u64 ((v : Int) * 4294967296 + (wt : Int)) 2147483648 = 0 := st_flag v wt (by omega) hwt
      have b2 : bits .and .u64 ((v : Int) * 4294967296 + (wt : Int)) 2147483647 = (wt : Int) := st_waiters v wt (by omega) hwt
      have a1 : ((v : Int) * 4294967296 + (wt : Int)) / 4294967296 = (v : Int) := by omega
      have a2 : 0 ≤ (v : Int) * 4294967296 + (wt : Int) ∧ (v : Int) * 4294967296 + (wt : Int) < 9223372036854775808 := by omega
      generalize (v : Int) * 4294967296 + (wt : Int) = S at *
      have v1 : IntKind.wrap .i32 (v : Int) = (v : Int) := by rw [IntKind.wrap_i32]; omega
      have v2 : (0 : Int) < (v : Int) := by omega
      have v3 : ¬ (v : Int) < 0 := by omega
      have v4 : (decide ((0 : Int) < (v : Int))) = true := decide_eq_true v2
      have v5 : (decide ((v : Int) < 0)) = false := decide_eq_false v3
      clear hS0 h0
      obtain rfl | rfl : wt = 0 ∨ wt = 1 := by omega
      · simp only [Int.natCast_zero] at b2 ⊢
        have b3 : IntKind.wrap .u32 0 = 0 := by decide
        refine ⟨qt + 300, ?_⟩
        walk_nrm
        repeat q_go
        q_leave1 Try.func86
        repeat q_go
        refine QuitsD.unwind_mark .enable rfl (by simp) rfl Try.func81 n_enable b_enable x_enable f_enable ?_
        simp only [deafBehind_enable1]
        q_leave0 Try.func42
        repeat q_go
        exact QuitsD.leaveD rfl rfl Try.func44 rfl hc (quits_pad hq _)
      · simp only [Int.natCast_one] at b2 ⊢
        have b3 : IntKind.wrap .u32 1 = 1 := by decide
        refine ⟨qt + 300, ?_⟩
        walk_nrm
        repeat q_go
        q_leave1 Try.func86
        repeat q_go
        refine QuitsD.unwind_mark .enable rfl (by simp) rfl Try.func81 n_enable b_enable x_enable f_enable ?_
        simp only [deafBehind_enable1]
        q_leave0 Try.func42
        repeat q_go
        exact QuitsD.leaveD rfl rfl Try.func44 rfl hc (quits_pad hq _)
end
end Go.Proofs.Ytpfpokjaeffbjab.Cc
