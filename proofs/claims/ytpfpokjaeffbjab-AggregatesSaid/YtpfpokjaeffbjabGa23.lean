/- Part of the proof: LkH, LkR, LkA, LkB, LkC. -/
import Derived.Test.YtpfpokjaeffbjabGa22
namespace Go.Proofs.Ytpfpokjaeffbjab.Cc
open Go.Conc Go.ConcN Go.ConcM Go.RowKit Go.Conc.Lib Go.ConcR.Gen
open Go.ConcR (KK wgBlock WgAt stA smA rd wr mk DC0)
set_option linter.unusedVariables false
set_option linter.unusedSimpArgs false
def fLoop : Code → Option Code
  | .loop c => some c
  | .seq x y => match fLoop x with | some c => some c | none => fLoop y
  | .block _ c => fLoop c
  | _ => none
def fRest : Code → Option Code
  | .seq (.block _ _) r => some r
  | .seq _ y => fRest y
  | _ => none
def fIf (t : Nat) : Code → Option Code
  | .cond (.tmp u) a b => if u = t then some a else (match fIf t a with | some c => some c | none => fIf t b)
  | .cond _ a b => match fIf t a with | some c => some c | none => fIf t b
  | .seq a b => match fIf t a with | some c => some c | none => fIf t b
  | .loop a => fIf t a
  | .block _ a => fIf t a
  | _ => none
def sndC : Code → Code
  | .seq _ b => b
  | c => c
noncomputable def slowBody : Code := Try.f105.body.getD .skip
noncomputable def slowLoop : Code := (fLoop slowBody).getD .skip
noncomputable def slowRest : Code := (fRest slowBody).getD .skip
noncomputable def slowQ : Code := sndC ((fIf 80 slowBody).getD .skip)
noncomputable def slowS : Code := sndC (sndC slowQ)
noncomputable def slowW : Code := sndC slowS
noncomputable def slowL : Code := sndC slowW
section
variable {q : Prm} {i : Nat} {s : Scene} {x : Wk} {Ch : Nat → Goroutine → St Gho → Prop}
variable {b₁ : Frame} {a₁ : Act} {ops₁ : Array Oper} {i₁ : Nat} {rest₁ : List Nat} {k₁ : List Item} {cs₁ : List Frame}
structure Rd (s : Scene) (st : St Gho) (pr l w z N : Nat) : Prop where
  le : phi st.γ s ≤ pr
  eq : phi st.γ s = pr → st.γ.L = l ∧ st.γ.W = w ∧ st.γ.S = z ∧ st.γ.N = N
  l1 : l ≤ 1
  w1 : w ≤ 1
  z1 : z ≤ 1
  n9 : N ≤ 9
theorem Rd.later {s : Scene} {st st₁ : St Gho} {pr l w z N : Nat} (h : Rd s st pr l w z N) (h1 : phi st₁.γ s ≤ phi st.γ s) (h2 : phi st₁.γ s = phi st.γ s → st₁.γ.L = st.γ.L ∧ st₁.γ.W = st.γ.W ∧ st₁.γ.S = st.γ.S ∧ st₁.γ.N = st.γ.N) : Rd s st₁ pr l w z N := by
  refine ⟨Nat.le_trans h1 h.le, fun e => ?_, h.l1, h.w1, h.z1, h.n9⟩
  have hle := h.le
  obtain ⟨a, b, c, d⟩ := h2 (by omega)
  obtain ⟨a', b', c', d'⟩ := h.eq (by omega)
  exact ⟨a.trans a', b.trans b', c.trans c', d.trans d'⟩
theorem MuI.nine {m : Nat → MX} {a n L W S N tn th : Nat} (h : MuI m a n L W S N tn th) (hn : n ≤ 9) : N ≤ 9 ∧ tn + th ≤ 10 := by
  have hq := h.que
  have hb := h.bd
  have hw := h.wok
  have hs := h.st
  have : cnt MX.isQ m a n + cnt MX.isWH m a n ≤ n := by
    unfold cnt
    have e1 : ∀ l : List Nat, l.countP (fun k => MX.isQ (m (a + k))) + l.countP (fun k => MX.isWH (m (a + k))) ≤ l.length := by
      intro l
      induction l with
      | nil => simp
      | cons k l ih =>
        rw [List.countP_cons, List.countP_cons, List.length_cons]
        have hd : ¬ (MX.isQ (m (a + k)) = true ∧ MX.isWH (m (a + k)) = true) := by cases m (a + k) <;> simp [MX.isQ, MX.isWH]
        generalize List.countP (fun k => MX.isQ (m (a + k))) l = u at ih ⊢
        generalize List.countP (fun k => MX.isWH (m (a + k))) l = v at ih ⊢
        rcases Bool.eq_false_or_eq_true (MX.isQ (m (a + k))) with c1 | c1 <;> rcases Bool.eq_false_or_eq_true (MX.isWH (m (a + k))) with c2 | c2
        · exact absurd ⟨c1, c2⟩ hd
        all_goals simp only [c1, c2, Bool.false_eq_true, ↓reduceIte]; omega
    have := e1 (List.range n)
    simpa using this
  omega
theorem Rd.now {st : St Gho} (h : SceneC q s st) : Rd s st (phi st.γ s) st.γ.L st.γ.W st.γ.S st.γ.N :=
  ⟨Nat.le_refl _, fun _ => ⟨rfl, rfl, rfl, rfl⟩, h.mu.bd.1, h.mu.bd.2.1, h.mu.bd.2.2, (h.mu.nine h.n0.2.2.2).1⟩
def HdAt (q : Prm) (i : Nat) (Ch : Nat → Goroutine → St Gho → Prop) (s : Scene) (b₁ : Frame) (a₁ : Act) (ops₁ : Array Oper) (i₁ : Nat) (rest₁ : List Nat) (k₁ : List Item) (cs₁ : List Frame) (aw sv : Bool) (it wst old : Int) (st : St Gho) : Prop :=
  ∀ (j1 j7 j8 j9 j10 j11 j12 j13 j14 j15 j16 j17 j18 j19 j20 j21 j22 j23 j24 j25 j26 j27 j28 j29 j30 j31 j32 j33 j34 j35 j36 j37 j38 j39 j40 j41 j42 j43 j44 j45 j46 j47 j48 j49 j50 j51 j52 j53 j54 j55 j56 j57 j58 j59 j60 j61 j62 j63 j64 j65 j66 j67 j68 j69 j70 j71 j72 j73 j74 j75 j76 j77 j78 j79 j80 j81 j82 j83 j84 j85 j86 j87 j88 j89 j90 j91 j92 j93 j94 j95 j96 j97 j98 j99 j100 j101 j102 j103 j104 j105 j106 j107 j108 j109 j110 j111 j112 j113 j114 j115 j116 j117 j118 j119 j120 j121 j122 j123 j124 j125 j126 j127 j128 j129 j130 j131 j132 j133 j134 j135 j136 j137 j138 : Value), TT (cfg q) i Ch (G ((base 105).at ⟨#[.pointer (some ⟨s.Gb, 4, none⟩), j1, .int .i64 wst, .bool sv, .bool aw, .int .i64 it, .int .i32 old, j7, j8, j9, j10, j11, j12, j13, j14, j15, j16, j17, j18, j19, j20, j21, j22, j23, j24, j25, j26, j27, j28, j29, j30, j31, j32, j33, j34, j35, j36, j37, j38, j39, j40, j41, j42, j43, j44, j45, j46, j47, j48, j49, j50, j51, j52, j53, j54, j55, j56, j57, j58, j59, j60, j61, j62, j63, j64, j65, j66, j67, j68, j69, j70, j71, j72, j73, j74, j75, j76, j77, j78, j79, j80, j81, j82, j83, j84, j85, j86, j87, j88, j89, j90, j91, j92, j93, j94, j95, j96, j97, j98, j99, j100, j101, j102, j103, j104, j105, j106, j107, j108, j109, j110, j111, j112, j113, j114, j115, j116, j117, j118, j119, j120, j121, j122, j123, j124, j125, j126, j127, j128, j129, j130, j131, j132, j133, j134, j135, j136, j137, j138], []⟩ [.code slowLoop, .inLoop slowLoop, .inBlock 0, .code slowRest]) (b₁.at a₁ (.inRegion ops₁ (i₁ :: rest₁) :: k₁) :: cs₁)) st
def HdP (q : Prm) (i : Nat) (Ch : Nat → Goroutine → St Gho → Prop) (s : Scene) (x : Wk) (b₁ : Frame) (a₁ : Act) (ops₁ : Array Oper) (i₁ : Nat) (rest₁ : List Nat) (k₁ : List Item) (cs₁ : List Frame) (μ : Nat) : Prop :=
  ∀ (pr : Nat) (it : Int) (aw sv : Bool) (wst : Int) (l w z N : Nat) (st : St Gho), 5 * pr + (4 - it).toNat = μ → 0 ≤ it → it ≤ 4 → At s i { x with mx := .cont aw, df := 1 } st → Inv q st → Rd s st pr l w z N → (aw = true → w = 1 ∧ z = 0) → (aw = false → sv = false) → HdAt q i Ch s b₁ a₁ ops₁ i₁ rest₁ k₁ cs₁ aw sv it wst (enc l w z N) st
def Aft (q : Prm) (i : Nat) (Ch : Nat → Goroutine → St Gho → Prop) (s : Scene) (x : Wk) (b₁ : Frame) (a₁ : Act) (ops₁ : Array Oper) (i₁ : Nat) (rest₁ : List Nat) (k₁ : List Item) (cs₁ : List Frame) : Prop :=
  ∀ st : St Gho, At s i { x with mx := .own .chk, df := 0 } st → Inv q st → TT (cfg q) i Ch (G (b₁.at (a₁.put ((ops₁[i₁]?).bind (·.dst)) (.tuple #[])) (.inRegion ops₁ rest₁ :: k₁)) cs₁) st
end
end Go.Proofs.Ytpfpokjaeffbjab.Cc
namespace Go.Proofs.Ytpfpokjaeffbjab.Cc
open Go.Conc Go.ConcN Go.ConcM Go.RowKit Go.Conc.Lib Go.ConcR.Gen
open Go.ConcR (KK wgBlock WgAt stA smA rd wr mk DC0)
set_option linter.unusedVariables false
set_option linter.unusedSimpArgs false
section
variable {q : Prm} (hP : q.P = Try.prog) {i : Nat} {s : Scene} {x : Wk} {Ch : Nat → Goroutine → St Gho → Prop}
variable {b₁ : Frame} {a₁ : Act} {ops₁ : Array Oper} {i₁ : Nat} {rest₁ : List Nat} {k₁ : List Item} {cs₁ : List Frame}
include hP
set_option maxRecDepth 100000 in
set_option maxHeartbeats 16000000 in
theorem lockRest (hx : x.wg = .work) (hT : Aft q i Ch s x b₁ a₁ ops₁ i₁ rest₁ k₁ cs₁) {st : St Gho} (hA₂ : At s i { x with mx := .own .chk, df := 1 } st) (j1 j2 j3 j4 j5 j6 j7 j8 j9 j10 j11 j12 j13 j14 j15 j16 j17 j18 j19 j20 j21 j22 j23 j24 j25 j26 j27 j28 j29 j30 j31 j32 j33 j34 j35 j36 j37 j38 j39 j40 j41 j42 j43 j44 j45 j46 j47 j48 j49 j50 j51 j52 j53 j54 j55 j56 j57 j58 j59 j60 j61 j62 j63 j64 j65 j66 j67 j68 j69 j70 j71 j72 j73 j74 j75 j76 j77 j78 j79 j80 j81 j82 j83 j84 j85 j86 j87 j88 j89 j90 j91 j92 j93 j94 j95 j96 j97 j98 j99 j100 j101 j102 j103 j104 j105 j106 j107 j108 j109 j110 j111 j112 j113 j114 j115 j116 j117 j118 j119 j120 j121 j122 j123 j124 j125 j126 j127 j128 j129 j130 j131 j132 j133 j134 j135 j136 j137 j138 : Value) :
    TT (cfg q) i Ch (G ((base 105).at ⟨#[.pointer (some ⟨s.Gb, 4, none⟩), j1, j2, j3, j4, j5, j6, j7, j8, j9, j10, j11, j12, j13, j14, j15, j16, j17, j18, j19, j20, j21, j22, j23, j24, j25, j26, j27, j28, j29, j30, j31, j32, j33, j34, j35, j36, j37, j38, j39, j40, j41, j42, j43, j44, j45, j46, j47, j48, j49, j50, j51, j52, j53, j54, j55, j56, j57, j58, j59, j60, j61, j62, j63, j64, j65, j66, j67, j68, j69, j70, j71, j72, j73, j74, j75, j76, j77, j78, j79, j80, j81, j82, j83, j84, j85, j86, j87, j88, j89, j90, j91, j92, j93, j94, j95, j96, j97, j98, j99, j100, j101, j102, j103, j104, j105, j106, j107, j108, j109, j110, j111, j112, j113, j114, j115, j116, j117, j118, j119, j120, j121, j122, j123, j124, j125, j126, j127, j128, j129, j130, j131, j132, j133, j134, j135, j136, j137, j138], []⟩ [.code slowRest]) (b₁.at a₁ (.inRegion ops₁ (i₁ :: rest₁) :: k₁) :: cs₁)) st := by
  simp only [slowQ, slowS, slowW, slowL, sndC, fIf, slowLoop, slowRest, slowBody, fLoop, fRest, Try.f105, Option.getD_some, Nat.reduceEqDiff, ↓reduceIte]
  refine TT.road hP hA₂ (by simp [hx]) 60 fun w₀ hF => ?_
  repeat w_go road_rely
  refine Goes.stop (fun w₁ r₁ => ⟨rfl, ?_⟩)
  clear hF r₁ w₁ w₀
  refine TT.pas hP hA₂ hx rfl (by simp) fun st₃ hA₃ hI₃ hC₃ => ⟨_, _, _, 0, stepG_mark0 .enable (by simp) rfl rfl (by k_ne) rfl Try.func81 n_enable b_enable x_enable f_enable, rfl, df_en 0, rfl, MuEff.refl _, evs_mk .enable (by simp), fun st₄ hA₄ hI₄ _ _ _ _ => ?_⟩
  clear hC₃ hA₃ hI₃
  refine TT.road hP hA₄ (by simp [hx]) 60 fun w₀ hF => ?_
  walk_nrm
  repeat w_go road_rely
  m_convG Try.prog Try.underlying157 u_pim z_im hF.choose_spec road_rely hF
  refine Goes.stop (fun w₁ r₁ => ⟨rfl, ?_⟩)
  clear hF r₁ w₁ w₀
  refine TT.pas hP hA₄ hx rfl (by simp) fun st₅ hA₅ hI₅ hC₅ => ⟨_, _, _, 0, stepG_markAt .acquire (by simp) rfl rfl (by k_ne) rfl Try.func94 n_acq b_acq x_acq f_acq (by simp [Act.eval]; rfl), rfl, df_at _ _ (by simp), rfl, MuEff.refl _, evs_mk _ (by simp), fun st₆ hA₆ hI₆ _ _ _ _ => ?_⟩
  clear hC₅ hA₅ hI₅
  refine TT.road hP hA₆ (by simp [hx]) 60 fun w₀ hF => ?_
  walk_nrm
  repeat w_go road_rely
  u_leave0 Try.func105 road_rely hF
  refine Goes.stop (fun w₁ r₁ => ⟨rfl, ?_⟩)
  exact hT st₆ hA₆ hI₆
end
end Go.Proofs.Ytpfpokjaeffbjab.Cc
namespace Go.Proofs.Ytpfpokjaeffbjab.Cc
open Go.Conc Go.ConcN Go.ConcM Go.RowKit Go.Conc.Lib Go.ConcR.Gen
open Go.ConcR (KK wgBlock WgAt stA smA rd wr mk DC0)
set_option linter.unusedVariables false
set_option linter.unusedSimpArgs false
section
variable {q : Prm} (hP : q.P = Try.prog) {i : Nat} {s : Scene} {x : Wk} {Ch : Nat → Goroutine → St Gho → Prop}
variable {b₁ : Frame} {a₁ : Act} {ops₁ : Array Oper} {i₁ : Nat} {rest₁ : List Nat} {k₁ : List Item} {cs₁ : List Frame}
include hP
set_option maxRecDepth 100000 in
set_option maxHeartbeats 16000000 in
theorem free0 (hx : x.wg = .work) (hT : Aft q i Ch s x b₁ a₁ ops₁ i₁ rest₁ k₁ cs₁) {μ : Nat} (ih : ∀ μ', μ' < μ → HdP q i Ch s x b₁ a₁ ops₁ i₁ rest₁ k₁ cs₁ μ') {pr : Nat} {it wst : Int} {w N : Nat} {st : St Gho} (h0 : 0 ≤ it) (h4' : it ≤ 4) (hμ : 5 * pr + (4 - it).toNat = μ) (hA : At s i { x with mx := .cont false, df := 1 } st) (hI : Inv q st) (hR : Rd s st pr 0 w 0 N) :
    HdAt q i Ch s b₁ a₁ ops₁ i₁ rest₁ k₁ cs₁ false false it wst (enc 0 w 0 N) st := by
  have h5 : bits BinOp.and IntKind.i32 (enc 0 w 0 N) 5 = 0 := e_and5 0 w 0 N (by omega) hR.w1 (by omega) (by have := hR.n9; omega)
  have h4 : bits BinOp.and IntKind.i32 (enc 0 w 0 N) 4 = 0 := e_and4 0 w 0 N (by omega) hR.w1 (by omega) (by have := hR.n9; omega)
  have o1 : bits BinOp.or IntKind.i32 (enc 0 w 0 N) 1 = enc 1 w 0 N := e_or1 0 w 0 N (by omega) hR.w1 (by omega) (by have := hR.n9; omega)
  intro j1 j7 j8 j9 j10 j11 j12 j13 j14 j15 j16 j17 j18 j19 j20 j21 j22 j23 j24 j25 j26 j27 j28 j29 j30 j31 j32 j33 j34 j35 j36 j37 j38 j39 j40 j41 j42 j43 j44 j45 j46 j47 j48 j49 j50 j51 j52 j53 j54 j55 j56 j57 j58 j59 j60 j61 j62 j63 j64 j65 j66 j67 j68 j69 j70 j71 j72 j73 j74 j75 j76 j77 j78 j79 j80 j81 j82 j83 j84 j85 j86 j87 j88 j89 j90 j91 j92 j93 j94 j95 j96 j97 j98 j99 j100 j101 j102 j103 j104 j105 j106 j107 j108 j109 j110 j111 j112 j113 j114 j115 j116 j117 j118 j119 j120 j121 j122 j123 j124 j125 j126 j127 j128 j129 j130 j131 j132 j133 j134 j135 j136 j137 j138
  simp only [slowLoop, slowRest, slowBody, fLoop, fRest, Try.f105, Option.getD_some]
  refine TT.road hP hA (by simp [hx]) 140 fun w₀ hF => ?_
  repeat w_go road_rely
  refine Goes.stop (fun w₁ r₁ => ⟨rfl, ?_⟩)
  clear hF r₁ w₁ w₀
  refine TT.mu hP hA hx (mx := .cont false) rfl (by simp) fun st₁ hA₁ hI₁ hC₁ p1 p2 p3 p4 => ?_
  have hR₁ := hR.later p1 p2
  by_cases hit : enc st₁.γ.L st₁.γ.W st₁.γ.S st₁.γ.N = enc 0 w 0 N
  · obtain ⟨e1, e2, e3, e4⟩ := enc_inj hit hC₁.mu.bd ⟨by omega, hR.w1, by omega⟩
    refine ⟨_, _, _, .own .chk, 1, 1, st₁.γ.W - Bool.toNat false, st₁.γ.S, st₁.γ.N, st₁.γ.tn, st₁.γ.th, stepG_cas_hit rfl rfl (by k_ne) rfl Try.func104 n_cas b_cas x_cas .i32 f_cas rfl rfl rfl (hit ▸ hC₁.gb.cell.2.1) (hC₁.gb.cell.2.2.2 4), rfl, df_rw _ _, by simp, by simp, hC₁.mu.take hA₁.lo (hA₁.hi hI₁) false (mm_at hA₁) ⟨e1, e3⟩, hC₁.gb.swap rfl (by rw [e2, e3, e4]; rfl), MuEff.set _ 4 _ (by omega), .inl (by simp [crd]), .inl (Nat.le_refl _), evs_rw 4 (.inl rfl), .inr (Nat.le_refl _), fun st₂ hA₂ hI₂ _ _ _ _ => ?_⟩
    clear hit hR₁ hC₁ hA₁ hI₁
    refine TT.road hP hA₂ (by simp [hx]) 60 fun w₀ hF => ?_
    walk_nrm
    repeat w_but "code.exit" road_rely
    w_go road_rely
    refine Goes.stop (fun w₁ r₁ => ⟨rfl, ?_⟩)
    exact lockRest hP hx hT hA₂ _ _ _ _ _ _ _ _ _ _ _ _ _ _ _ _ _ _ _ _ _ _ _ _ _ _ _ _ _ _ _ _ _ _ _ _ _ _ _ _ _ _ _ _ _ _ _ _ _ _ _ _ _ _ _ _ _ _ _ _ _ _ _ _ _ _ _ _ _ _ _ _ _ _ _ _ _ _ _ _ _ _ _ _ _ _ _ _ _ _ _ _ _ _ _ _ _ _ _ _ _ _ _ _ _ _ _ _ _ _ _ _ _ _ _ _ _ _ _ _ _ _ _ _ _ _ _ _ _ _ _ _ _ _ _ _ _ _
  · refine ⟨_, _, _, .cont false, 1, st₁.γ.L, st₁.γ.W, st₁.γ.S, st₁.γ.N, st₁.γ.tn, st₁.γ.th, stepG_cas_miss rfl rfl (by k_ne) rfl Try.func104 n_cas b_cas x_cas .i32 f_cas rfl rfl rfl hC₁.gb.cell.2.1 (hC₁.gb.cell.2.2.2 4) hit, rfl, df_r _ _, by simp, by simp, MuI.still hC₁ hA₁ rfl, hC₁.gb.stay rfl rfl, MuEff.refl _, .inr ⟨rfl, rfl, rfl, rfl, rfl⟩, .inl (Nat.le_refl _), evs_r 4 (by omega), .inr (Nat.le_refl _), fun st₂ hA₂ hI₂ _ w₂ _ f₂ => ?_⟩
    have hlt : phi st₂.γ s < pr := by
      refine Nat.lt_of_le_of_ne (by have := hR₁.le; omega) fun e => hit ?_
      obtain ⟨a, b, c, d⟩ := hR₁.eq (by omega)
      rw [a, b, c, d]
    clear hit hR₁ hC₁ hA₁ hI₁
    refine TT.road hP hA₂ (by simp [hx]) 60 fun w₀ hF => ?_
    walk_nrm
    repeat w_go road_rely
    refine Goes.stop (fun w₁ r₁ => ⟨rfl, ?_⟩)
    clear hF r₁ w₁ w₀
    refine TT.pas hP hA₂ hx rfl (by simp) fun st₃ hA₃ hI₃ hC₃ => ⟨_, _, _, 1, stepG_loadQ rfl rfl (by k_ne) rfl rfl hC₃.gb.cell.2.1 q_slow, rfl, rfl, rfl, MuEff.refl _, evs_nil, fun st₄ hA₄ hI₄ _ w₄ f₄ _ => ?_⟩
    have hR₄ := Rd.now (hI₄.scene s hA₄.sc).c
    rw [w₄.1, w₄.2.1, w₄.2.2.1, w₄.2.2.2] at hR₄
    clear hC₃ hA₃ hI₃
    refine TT.road hP hA₄ (by simp [hx]) 60 fun w₀ hF => ?_
    walk_nrm
    repeat w_nl road_rely
    u_c stepG_inLoop road_rely hF
    refine Goes.stop (fun w₁ r₁ => ⟨rfl, ?_⟩)
    exact ih _ (by omega) _ it false false wst _ _ _ _ st₄ rfl h0 h4' hA₄ hI₄ hR₄ (by simp) (by simp) _ _ _ _ _ _ _ _ _ _ _ _ _ _ _ _ _ _ _ _ _ _ _ _ _ _ _ _ _ _ _ _ _ _ _ _ _ _ _ _ _ _ _ _ _ _ _ _ _ _ _ _ _ _ _ _ _ _ _ _ _ _ _ _ _ _ _ _ _ _ _ _ _ _ _ _ _ _ _ _ _ _ _ _ _ _ _ _ _ _ _ _ _ _ _ _ _ _ _ _ _ _ _ _ _ _ _ _ _ _ _ _ _ _ _ _ _ _ _ _ _ _ _ _ _ _ _ _ _ _ _ _ _
end
end Go.Proofs.Ytpfpokjaeffbjab.Cc
namespace Go.Proofs.Ytpfpokjaeffbjab.Cc
open Go.Conc Go.ConcN Go.ConcM Go.RowKit Go.Conc.Lib Go.ConcR.Gen
open Go.ConcR (KK wgBlock WgAt stA smA rd wr mk DC0)
set_option linter.unusedVariables false
set_option linter.unusedSimpArgs false
section
variable {q : Prm} (hP : q.P = Try.prog) {i : Nat} {s : Scene} {x : Wk} {Ch : Nat → Goroutine → St Gho → Prop}
variable {b₁ : Frame} {a₁ : Act} {ops₁ : Array Oper} {i₁ : Nat} {rest₁ : List Nat} {k₁ : List Item} {cs₁ : List Frame}
include hP
set_option maxRecDepth 100000 in
set_option maxHeartbeats 16000000 in
theorem wokeN (hx : x.wg = .work) (hT : Aft q i Ch s x b₁ a₁ ops₁ i₁ rest₁ k₁ cs₁) {pr : Nat} (ih : ∀ μ', μ' < 5 * pr → HdP q i Ch s x b₁ a₁ ops₁ i₁ rest₁ k₁ cs₁ μ') {sv : Bool} {wst : Int} {st : St Gho} (hA : At s i { x with mx := .woken false, df := 1 } st) (hI : Inv q st) (hp : phi st.γ s < pr) (j1 j4 j5 j6 j7 j8 j9 j10 j11 j12 j13 j14 j15 j16 j17 j18 j19 j20 j21 j22 j23 j24 j25 j26 j27 j28 j29 j30 j31 j32 j33 j34 j35 j36 j37 j38 j39 j40 j41 j42 j43 j44 j45 j46 j47 j48 j49 j50 j51 j52 j53 j54 j55 j56 j57 j58 j59 j60 j61 j62 j63 j64 j65 j66 j67 j68 j69 j70 j71 j72 j73 j74 j75 j76 j77 j78 j79 j80 j81 j82 j83 j84 j85 j86 j87 j88 j89 j90 j91 j92 j93 j94 j95 j96 j97 j98 j99 j100 j101 j102 j103 j104 j105 j106 j107 j108 j109 j110 j111 j112 j113 j114 j115 j116 j117 j118 j119 j120 j121 j122 j123 j124 j125 j126 j127 j128 j129 j130 j131 j132 j133 j134 j135 j136 j137 j138 : Value) :
    TT (cfg q) i Ch (G ((base 105).at ⟨#[.pointer (some ⟨s.Gb, 4, none⟩), j1, .int .i64 wst, .bool sv, j4, j5, j6, j7, j8, j9, j10, j11, j12, j13, j14, j15, j16, j17, j18, j19, j20, j21, j22, j23, j24, j25, j26, j27, j28, j29, j30, j31, j32, j33, j34, j35, j36, j37, j38, j39, j40, j41, j42, j43, j44, j45, j46, j47, j48, j49, j50, j51, j52, j53, j54, j55, j56, j57, j58, j59, j60, j61, j62, j63, j64, j65, j66, j67, j68, j69, j70, j71, j72, j73, j74, j75, j76, j77, j78, j79, j80, j81, j82, j83, j84, j85, j86, j87, j88, j89, j90, j91, j92, j93, j94, j95, j96, j97, j98, j99, j100, j101, j102, j103, j104, j105, j106, j107, j108, j109, j110, j111, j112, j113, j114, j115, j116, j117, j118, j119, j120, j121, j122, j123, j124, j125, j126, j127, j128, j129, j130, j131, j132, j133, j134, j135, j136, j137, j138], []⟩ [.code slowW, .inBlock 1, .inLoop slowLoop, .inBlock 0, .code slowRest]) (b₁.at a₁ (.inRegion ops₁ (i₁ :: rest₁) :: k₁) :: cs₁)) st := by
  simp only [slowQ, slowS, slowW, slowL, sndC, fIf, slowLoop, slowRest, slowBody, fLoop, fRest, Try.f105, Option.getD_some, Nat.reduceEqDiff, ↓reduceIte]
  cases sv
  · refine TT.road hP hA (by simp [hx]) 60 fun w₀ hF => ?_
    repeat w_go road_rely
    refine Goes.stop (fun w₁ r₁ => ⟨rfl, ?_⟩)
    clear hF r₁ w₁ w₀
    refine TT.pas hP hA hx (mx := .woken false) rfl (by simp) fun st₃ hA₃ hI₃ hC₃ => ⟨_, _, _, 1, stepG_nanotime rfl rfl (by k_ne) rfl Try.func121 n_nano b_nano x_nano f_nano q_nano, rfl, rfl, rfl, MuEff.later _, evs_nil, fun st₄ hA₄ hI₄ _ _ f₄ _ => ?_⟩
    have hp₄ : phi st₄.γ s < pr := by omega
    generalize ((st₃.w.os.mono + st₃.w.tick : Nat) : Int) = tw
    clear hC₃ hA₃ hI₃ hA hI hp f₄
    refine TT.road hP hA₄ (by simp [hx]) 60 fun w₀ hF => ?_
    walk_nrm
    repeat w_go road_rely
    refine Goes.stop (fun w₁ r₁ => ⟨rfl, ?_⟩)
    clear hF r₁ w₁ w₀
    refine TT.mu hP hA₄ hx (mx := .woken false) rfl (by simp) fun st₅ hA₅ hI₅ hC₅ q1 q2 _ _ => ⟨_, _, _, .cont true, 1, st₅.γ.L, st₅.γ.W, st₅.γ.S, st₅.γ.N, st₅.γ.tn, st₅.γ.th, stepG_loadQ rfl rfl (by k_ne) rfl rfl hC₅.gb.cell.2.1 q_slow, rfl, rfl, by simp, by simp, hC₅.mu.again hA₅.lo (hA₅.hi hI₅) (mm_at hA₅), hC₅.gb.stay rfl rfl, MuEff.refl _, .inl (by simp [crd]), .inl (Nat.le_refl _), evs_nil, .inr (Nat.le_refl _), fun st₆ hA₆ hI₆ _ w₆ _ f₆ => ?_⟩
    obtain ⟨hW, hS⟩ := hC₅.mu.atWN hA₅.lo (hA₅.hi hI₅) (mm_at hA₅)
    have hR₆ := Rd.now (hI₆.scene s hA₆.sc).c
    rw [w₆.1, w₆.2.1, w₆.2.2.1, w₆.2.2.2] at hR₆
    have hn := (hC₅.mu.nine hC₅.n0.2.2.2).1
    have hl := hC₅.mu.bd.1
    have h4 : bits BinOp.and IntKind.i32 (enc st₅.γ.L st₅.γ.W st₅.γ.S st₅.γ.N) 4 = 0 := by rw [hS]; exact e_and4 _ _ 0 _ hl hC₅.mu.bd.2.1 (by omega) (by omega)
    have lt₆ : phi st₆.γ s < pr := by simp only [crd] at f₆; omega
    generalize ho : enc st₅.γ.L st₅.γ.W st₅.γ.S st₅.γ.N = old at h4
    refine TT.road hP hA₆ (by simp [hx]) 60 fun w₀ hF => ?_
    walk_nrm
    repeat w_nl road_rely
    u_c stepG_inLoop road_rely hF
    refine Goes.stop (fun w₁ r₁ => ⟨rfl, ?_⟩)
    rw [← ho]
    exact ih _ (by omega) _ 0 true _ _ _ _ _ _ st₆ rfl (by omega) (by omega) hA₆ hI₆ hR₆ (fun _ => ⟨hW, hS⟩) (by simp) _ _ _ _ _ _ _ _ _ _ _ _ _ _ _ _ _ _ _ _ _ _ _ _ _ _ _ _ _ _ _ _ _ _ _ _ _ _ _ _ _ _ _ _ _ _ _ _ _ _ _ _ _ _ _ _ _ _ _ _ _ _ _ _ _ _ _ _ _ _ _ _ _ _ _ _ _ _ _ _ _ _ _ _ _ _ _ _ _ _ _ _ _ _ _ _ _ _ _ _ _ _ _ _ _ _ _ _ _ _ _ _ _ _ _ _ _ _ _ _ _ _ _ _ _ _ _ _ _ _ _ _ _
  · refine TT.road hP hA (by simp [hx]) 60 fun w₀ hF => ?_
    repeat w_go road_rely
    refine Goes.stop (fun w₁ r₁ => ⟨rfl, ?_⟩)
    clear hF r₁ w₁ w₀
    refine TT.mu hP hA hx (mx := .woken false) rfl (by simp) fun st₅ hA₅ hI₅ hC₅ q1 q2 _ _ => ⟨_, _, _, .cont true, 1, st₅.γ.L, st₅.γ.W, st₅.γ.S, st₅.γ.N, st₅.γ.tn, st₅.γ.th, stepG_loadQ rfl rfl (by k_ne) rfl rfl hC₅.gb.cell.2.1 q_slow, rfl, rfl, by simp, by simp, hC₅.mu.again hA₅.lo (hA₅.hi hI₅) (mm_at hA₅), hC₅.gb.stay rfl rfl, MuEff.refl _, .inl (by simp [crd]), .inl (Nat.le_refl _), evs_nil, .inr (Nat.le_refl _), fun st₆ hA₆ hI₆ _ w₆ _ f₆ => ?_⟩
    obtain ⟨hW, hS⟩ := hC₅.mu.atWN hA₅.lo (hA₅.hi hI₅) (mm_at hA₅)
    have hR₆ := Rd.now (hI₆.scene s hA₆.sc).c
    rw [w₆.1, w₆.2.1, w₆.2.2.1, w₆.2.2.2] at hR₆
    have hn := (hC₅.mu.nine hC₅.n0.2.2.2).1
    have hl := hC₅.mu.bd.1
    have h4 : bits BinOp.and IntKind.i32 (enc st₅.γ.L st₅.γ.W st₅.γ.S st₅.γ.N) 4 = 0 := by rw [hS]; exact e_and4 _ _ 0 _ hl hC₅.mu.bd.2.1 (by omega) (by omega)
    have lt₆ : phi st₆.γ s < pr := by simp only [crd] at f₆; omega
    generalize ho : enc st₅.γ.L st₅.γ.W st₅.γ.S st₅.γ.N = old at h4
    refine TT.road hP hA₆ (by simp [hx]) 60 fun w₀ hF => ?_
    walk_nrm
    repeat w_nl road_rely
    u_c stepG_inLoop road_rely hF
    refine Goes.stop (fun w₁ r₁ => ⟨rfl, ?_⟩)
    rw [← ho]
    exact ih _ (by omega) _ 0 true _ _ _ _ _ _ st₆ rfl (by omega) (by omega) hA₆ hI₆ hR₆ (fun _ => ⟨hW, hS⟩) (by simp) _ _ _ _ _ _ _ _ _ _ _ _ _ _ _ _ _ _ _ _ _ _ _ _ _ _ _ _ _ _ _ _ _ _ _ _ _ _ _ _ _ _ _ _ _ _ _ _ _ _ _ _ _ _ _ _ _ _ _ _ _ _ _ _ _ _ _ _ _ _ _ _ _ _ _ _ _ _ _ _ _ _ _ _ _ _ _ _ _ _ _ _ _ _ _ _ _ _ _ _ _ _ _ _ _ _ _ _ _ _ _ _ _ _ _ _ _ _ _ _ _ _ _ _ _ _ _ _ _ _ _ _ _
end
end Go.Proofs.Ytpfpokjaeffbjab.Cc
namespace Go.Proofs.Ytpfpokjaeffbjab.Cc
open Go.Conc Go.ConcN Go.ConcM Go.RowKit Go.Conc.Lib Go.ConcR.Gen
open Go.ConcR (KK wgBlock WgAt stA smA rd wr mk DC0)
set_option linter.unusedVariables false
set_option linter.unusedSimpArgs false
section
variable {q : Prm} (hP : q.P = Try.prog) {i : Nat} {s : Scene} {x : Wk} {Ch : Nat → Goroutine → St Gho → Prop}
variable {b₁ : Frame} {a₁ : Act} {ops₁ : Array Oper} {i₁ : Nat} {rest₁ : List Nat} {k₁ : List Item} {cs₁ : List Frame}
include hP
set_option maxRecDepth 100000 in
set_option maxHeartbeats 16000000 in
theorem handL (hx : x.wg = .work) (hT : Aft q i Ch s x b₁ a₁ ops₁ i₁ rest₁ k₁ cs₁) {sv : Bool} {st : St Gho} (hA : At s i { x with mx := .woken true, df := 1 } st) (j1 j2 j4 j5 j6 j7 j8 j9 j10 j11 j12 j13 j14 j15 j16 j17 j18 j19 j20 j21 j22 j23 j24 j25 j26 j27 j28 j29 j30 j31 j32 j33 j34 j35 j36 j37 j38 j39 j40 j41 j42 j43 j44 j45 j46 j47 j48 j49 j50 j51 j52 j53 j54 j55 j56 j57 j58 j59 j60 j61 j62 j63 j64 j65 j66 j67 j68 j69 j70 j71 j72 j73 j74 j75 j76 j77 j78 j79 j80 j81 j82 j83 j84 j85 j86 j87 j88 j89 j90 j91 j92 j93 j94 j95 j96 j97 j98 j99 j100 j101 j102 j103 j104 j105 j106 j107 j108 j109 j110 j111 j112 j113 j114 j115 j116 j117 j118 j119 j120 j121 j122 j123 j124 j125 j126 j127 j128 j129 j130 j131 j132 j133 j134 j135 j136 j137 j138 : Value) :
    TT (cfg q) i Ch (G ((base 105).at ⟨#[.pointer (some ⟨s.Gb, 4, none⟩), j1, j2, .bool sv, j4, j5, j6, j7, j8, j9, j10, j11, j12, j13, j14, j15, j16, j17, j18, j19, j20, j21, j22, j23, j24, j25, j26, j27, j28, j29, j30, j31, j32, j33, j34, j35, j36, j37, j38, j39, j40, j41, j42, j43, j44, j45, j46, j47, j48, j49, j50, j51, j52, j53, j54, j55, j56, j57, j58, j59, j60, j61, j62, j63, j64, j65, j66, j67, j68, j69, j70, j71, j72, j73, j74, j75, j76, j77, j78, j79, j80, j81, j82, j83, j84, j85, j86, j87, j88, j89, j90, j91, j92, j93, j94, j95, j96, j97, j98, j99, j100, j101, j102, j103, j104, j105, j106, j107, j108, j109, j110, j111, j112, j113, j114, j115, j116, j117, j118, j119, j120, j121, j122, j123, j124, j125, j126, j127, j128, j129, j130, j131, j132, j133, j134, j135, j136, j137, j138], []⟩ [.code slowL, .inBlock 1, .inLoop slowLoop, .inBlock 0, .code slowRest]) (b₁.at a₁ (.inRegion ops₁ (i₁ :: rest₁) :: k₁) :: cs₁)) st := by
  simp only [slowQ, slowS, slowW, slowL, sndC, fIf, slowLoop, slowRest, slowBody, fLoop, fRest, Try.f105, Option.getD_some, Nat.reduceEqDiff, ↓reduceIte]
  refine TT.road hP hA (by simp [hx]) 60 fun w₀ hF => ?_
  repeat w_go road_rely
  refine Goes.stop (fun w₁ r₁ => ⟨rfl, ?_⟩)
  clear hF r₁ w₁ w₀
  refine TT.pas hP hA hx (mx := .woken true) rfl (by simp) fun st₃ hA₃ hI₃ hC₃ => ⟨_, _, _, 1, stepG_loadQ rfl rfl (by k_ne) rfl rfl hC₃.gb.cell.2.1 q_slow, rfl, rfl, rfl, MuEff.refl _, evs_nil, fun st₄ hA₄ hI₄ _ w₄ _ _ => ?_⟩
  obtain ⟨hL, hW, hS, h1⟩ := hC₃.mu.atWH hA₃.lo (hA₃.hi hI₃) (mm_at hA₃)
  have n4 : st₄.γ.N = st₃.γ.N := w₄.2.2.2
  have hn := (hC₃.mu.nine hC₃.n0.2.2.2).1
  generalize st₃.γ.N = N₀ at n4 h1 hn ⊢
  rw [hL, hW, hS]
  have h4 : bits BinOp.and IntKind.i32 (enc 0 0 1 N₀) 4 = 4 := e_and4 0 0 1 N₀ (by omega) (by omega) (by omega) (by omega)
  have h3 : bits BinOp.and IntKind.i32 (enc 0 0 1 N₀) 3 = 0 := e_and3 0 0 1 N₀ (by omega) (by omega) (by omega) (by omega)
  obtain ⟨nn, hd, hnn⟩ : ∃ nn : Int, enc 0 0 1 N₀ / 8 = nn ∧ nn = N₀ := ⟨_, e_div 0 0 1 N₀ (by omega) (by omega) (by omega), rfl⟩
  have hz : (nn == 0) = false := by simp; omega
  have h12 : nn = 1 ∨ (nn == 1) = false := by simp; omega
  have h2 : nn ≠ 1 → 2 ≤ N₀ := by omega
  clear hL hW hS hC₃ hA₃ hI₃ hnn w₄
  generalize enc 0 0 1 N₀ = old at h4 h3 hd ⊢
  rcases h12 with h12 | h12
  · cases sv
    · refine TT.road hP hA₄ (by simp [hx]) 80 fun w₀ hF => ?_
      walk_nrm
      repeat w_go road_rely
      refine Goes.stop (fun w₁ r₁ => ⟨rfl, ?_⟩)
      clear hF r₁ w₁ w₀
      refine TT.mu hP hA₄ hx (mx := .woken true) rfl (by simp) fun st₁ hA₁ hI₁ hC₁ p1 p2 p3 p4 => ?_
      obtain ⟨e1, e2, e3, e4⟩ := hC₁.mu.atWH hA₁.lo (hA₁.hi hI₁) (mm_at hA₁)
      have hn1 := (hC₁.mu.nine hC₁.n0.2.2.2).1
      have p4 := p4 rfl
      refine ⟨_, _, _, .own .chk, 1, 1, 0, 0, st₁.γ.N - 1, st₁.γ.tn, st₁.γ.th, stepG_add_atomic rfl rfl (by k_ne) rfl Try.func106 n_add b_add x_add .i32 f_add rfl rfl hC₁.gb.cell.2.1 (hC₁.gb.cell.2.2.2 4), rfl, df_rw _ _, by simp, by simp, hC₁.mu.handed hA₁.lo (hA₁.hi hI₁) (mm_at hA₁) 0 (.inl rfl), hC₁.gb.swap rfl (by rw [e1, e2, e3, IntKind.wrap_i32]; unfold enc; omega), MuEff.set _ 4 _ (by omega), .inl (by simp [crd]), .inr fun j hj j1 j2 => hC₁.mu.onlyWH hA₁.lo (hA₁.hi hI₁) (mm_at hA₁) hj j1 j2, evs_rw 4 (.inl rfl), .inr (Nat.le_refl _), fun st₂ hA₂ hI₂ _ _ _ _ => ?_⟩
      clear hC₁ hA₁ hI₁ e1 e2 e3 e4 hn1 p1 p2 p3 p4
      refine TT.road hP hA₂ (by simp [hx]) 60 fun w₀ hF => ?_
      walk_nrm
      repeat w_but "code.exit" road_rely
      w_go road_rely
      refine Goes.stop (fun w₁ r₁ => ⟨rfl, ?_⟩)
      exact lockRest hP hx hT hA₂ _ _ _ _ _ _ _ _ _ _ _ _ _ _ _ _ _ _ _ _ _ _ _ _ _ _ _ _ _ _ _ _ _ _ _ _ _ _ _ _ _ _ _ _ _ _ _ _ _ _ _ _ _ _ _ _ _ _ _ _ _ _ _ _ _ _ _ _ _ _ _ _ _ _ _ _ _ _ _ _ _ _ _ _ _ _ _ _ _ _ _ _ _ _ _ _ _ _ _ _ _ _ _ _ _ _ _ _ _ _ _ _ _ _ _ _ _ _ _ _ _ _ _ _ _ _ _ _ _ _ _ _ _ _ _ _ _ _
    · refine TT.road hP hA₄ (by simp [hx]) 80 fun w₀ hF => ?_
      walk_nrm
      repeat w_go road_rely
      refine Goes.stop (fun w₁ r₁ => ⟨rfl, ?_⟩)
      clear hF r₁ w₁ w₀
      refine TT.mu hP hA₄ hx (mx := .woken true) rfl (by simp) fun st₁ hA₁ hI₁ hC₁ p1 p2 p3 p4 => ?_
      obtain ⟨e1, e2, e3, e4⟩ := hC₁.mu.atWH hA₁.lo (hA₁.hi hI₁) (mm_at hA₁)
      have hn1 := (hC₁.mu.nine hC₁.n0.2.2.2).1
      have p4 := p4 rfl
      refine ⟨_, _, _, .own .chk, 1, 1, 0, 0, st₁.γ.N - 1, st₁.γ.tn, st₁.γ.th, stepG_add_atomic rfl rfl (by k_ne) rfl Try.func106 n_add b_add x_add .i32 f_add rfl rfl hC₁.gb.cell.2.1 (hC₁.gb.cell.2.2.2 4), rfl, df_rw _ _, by simp, by simp, hC₁.mu.handed hA₁.lo (hA₁.hi hI₁) (mm_at hA₁) 0 (.inl rfl), hC₁.gb.swap rfl (by rw [e1, e2, e3, IntKind.wrap_i32]; unfold enc; omega), MuEff.set _ 4 _ (by omega), .inl (by simp [crd]), .inr fun j hj j1 j2 => hC₁.mu.onlyWH hA₁.lo (hA₁.hi hI₁) (mm_at hA₁) hj j1 j2, evs_rw 4 (.inl rfl), .inr (Nat.le_refl _), fun st₂ hA₂ hI₂ _ _ _ _ => ?_⟩
      clear hC₁ hA₁ hI₁ e1 e2 e3 e4 hn1 p1 p2 p3 p4
      refine TT.road hP hA₂ (by simp [hx]) 60 fun w₀ hF => ?_
      walk_nrm
      repeat w_but "code.exit" road_rely
      w_go road_rely
      refine Goes.stop (fun w₁ r₁ => ⟨rfl, ?_⟩)
      exact lockRest hP hx hT hA₂ _ _ _ _ _ _ _ _ _ _ _ _ _ _ _ _ _ _ _ _ _ _ _ _ _ _ _ _ _ _ _ _ _ _ _ _ _ _ _ _ _ _ _ _ _ _ _ _ _ _ _ _ _ _ _ _ _ _ _ _ _ _ _ _ _ _ _ _ _ _ _ _ _ _ _ _ _ _ _ _ _ _ _ _ _ _ _ _ _ _ _ _ _ _ _ _ _ _ _ _ _ _ _ _ _ _ _ _ _ _ _ _ _ _ _ _ _ _ _ _ _ _ _ _ _ _ _ _ _ _ _ _ _ _ _ _ _ _
  · cases sv
    · refine TT.road hP hA₄ (by simp [hx]) 80 fun w₀ hF => ?_
      walk_nrm
      repeat w_go road_rely
      refine Goes.stop (fun w₁ r₁ => ⟨rfl, ?_⟩)
      clear hF r₁ w₁ w₀
      refine TT.mu hP hA₄ hx (mx := .woken true) rfl (by simp) fun st₁ hA₁ hI₁ hC₁ p1 p2 p3 p4 => ?_
      obtain ⟨e1, e2, e3, e4⟩ := hC₁.mu.atWH hA₁.lo (hA₁.hi hI₁) (mm_at hA₁)
      have hn1 := (hC₁.mu.nine hC₁.n0.2.2.2).1
      have p4 := p4 rfl
      refine ⟨_, _, _, .own .chk, 1, 1, 0, 0, st₁.γ.N - 1, st₁.γ.tn, st₁.γ.th, stepG_add_atomic rfl rfl (by k_ne) rfl Try.func106 n_add b_add x_add .i32 f_add rfl rfl hC₁.gb.cell.2.1 (hC₁.gb.cell.2.2.2 4), rfl, df_rw _ _, by simp, by simp, hC₁.mu.handed hA₁.lo (hA₁.hi hI₁) (mm_at hA₁) 0 (.inl rfl), hC₁.gb.swap rfl (by rw [e1, e2, e3, IntKind.wrap_i32]; unfold enc; omega), MuEff.set _ 4 _ (by omega), .inl (by simp [crd]), .inr fun j hj j1 j2 => hC₁.mu.onlyWH hA₁.lo (hA₁.hi hI₁) (mm_at hA₁) hj j1 j2, evs_rw 4 (.inl rfl), .inr (Nat.le_refl _), fun st₂ hA₂ hI₂ _ _ _ _ => ?_⟩
      clear hC₁ hA₁ hI₁ e1 e2 e3 e4 hn1 p1 p2 p3 p4
      refine TT.road hP hA₂ (by simp [hx]) 60 fun w₀ hF => ?_
      walk_nrm
      repeat w_but "code.exit" road_rely
      w_go road_rely
      refine Goes.stop (fun w₁ r₁ => ⟨rfl, ?_⟩)
      exact lockRest hP hx hT hA₂ _ _ _ _ _ _ _ _ _ _ _ _ _ _ _ _ _ _ _ _ _ _ _ _ _ _ _ _ _ _ _ _ _ _ _ _ _ _ _ _ _ _ _ _ _ _ _ _ _ _ _ _ _ _ _ _ _ _ _ _ _ _ _ _ _ _ _ _ _ _ _ _ _ _ _ _ _ _ _ _ _ _ _ _ _ _ _ _ _ _ _ _ _ _ _ _ _ _ _ _ _ _ _ _ _ _ _ _ _ _ _ _ _ _ _ _ _ _ _ _ _ _ _ _ _ _ _ _ _ _ _ _ _ _ _ _ _ _
    · have h2 := h2 (by simpa using h12)
      refine TT.road hP hA₄ (by simp [hx]) 80 fun w₀ hF => ?_
      walk_nrm
      repeat w_go road_rely
      refine Goes.stop (fun w₁ r₁ => ⟨rfl, ?_⟩)
      clear hF r₁ w₁ w₀
      refine TT.mu hP hA₄ hx (mx := .woken true) rfl (by simp) fun st₁ hA₁ hI₁ hC₁ p1 p2 p3 p4 => ?_
      obtain ⟨e1, e2, e3, e4⟩ := hC₁.mu.atWH hA₁.lo (hA₁.hi hI₁) (mm_at hA₁)
      have hn1 := (hC₁.mu.nine hC₁.n0.2.2.2).1
      have p4 := p4 rfl
      refine ⟨_, _, _, .own .chk, 1, 1, 0, 1, st₁.γ.N - 1, st₁.γ.tn, st₁.γ.th, stepG_add_atomic rfl rfl (by k_ne) rfl Try.func106 n_add b_add x_add .i32 f_add rfl rfl hC₁.gb.cell.2.1 (hC₁.gb.cell.2.2.2 4), rfl, df_rw _ _, by simp, by simp, hC₁.mu.handed hA₁.lo (hA₁.hi hI₁) (mm_at hA₁) 1 (.inr ⟨rfl, by omega⟩), hC₁.gb.swap rfl (by rw [e1, e2, e3, IntKind.wrap_i32]; unfold enc; omega), MuEff.set _ 4 _ (by omega), .inl (by simp [crd]), .inr fun j hj j1 j2 => hC₁.mu.onlyWH hA₁.lo (hA₁.hi hI₁) (mm_at hA₁) hj j1 j2, evs_rw 4 (.inl rfl), .inr (Nat.le_refl _), fun st₂ hA₂ hI₂ _ _ _ _ => ?_⟩
      clear hC₁ hA₁ hI₁ e1 e2 e3 e4 hn1 p1 p2 p3 p4
      refine TT.road hP hA₂ (by simp [hx]) 60 fun w₀ hF => ?_
      walk_nrm
      repeat w_but "code.exit" road_rely
      w_go road_rely
      refine Goes.stop (fun w₁ r₁ => ⟨rfl, ?_⟩)
      exact lockRest hP hx hT hA₂ _ _ _ _ _ _ _ _ _ _ _ _ _ _ _ _ _ _ _ _ _ _ _ _ _ _ _ _ _ _ _ _ _ _ _ _ _ _ _ _ _ _ _ _ _ _ _ _ _ _ _ _ _ _ _ _ _ _ _ _ _ _ _ _ _ _ _ _ _ _ _ _ _ _ _ _ _ _ _ _ _ _ _ _ _ _ _ _ _ _ _ _ _ _ _ _ _ _ _ _ _ _ _ _ _ _ _ _ _ _ _ _ _ _ _ _ _ _ _ _ _ _ _ _ _ _ _ _ _ _ _ _ _ _ _ _ _ _
set_option maxRecDepth 100000 in
set_option maxHeartbeats 16000000 in
theorem wokeH (hx : x.wg = .work) (hT : Aft q i Ch s x b₁ a₁ ops₁ i₁ rest₁ k₁ cs₁) {sv : Bool} {wst : Int} {st : St Gho} (hA : At s i { x with mx := .woken true, df := 1 } st) (j1 j4 j5 j6 j7 j8 j9 j10 j11 j12 j13 j14 j15 j16 j17 j18 j19 j20 j21 j22 j23 j24 j25 j26 j27 j28 j29 j30 j31 j32 j33 j34 j35 j36 j37 j38 j39 j40 j41 j42 j43 j44 j45 j46 j47 j48 j49 j50 j51 j52 j53 j54 j55 j56 j57 j58 j59 j60 j61 j62 j63 j64 j65 j66 j67 j68 j69 j70 j71 j72 j73 j74 j75 j76 j77 j78 j79 j80 j81 j82 j83 j84 j85 j86 j87 j88 j89 j90 j91 j92 j93 j94 j95 j96 j97 j98 j99 j100 j101 j102 j103 j104 j105 j106 j107 j108 j109 j110 j111 j112 j113 j114 j115 j116 j117 j118 j119 j120 j121 j122 j123 j124 j125 j126 j127 j128 j129 j130 j131 j132 j133 j134 j135 j136 j137 j138 : Value) :
    TT (cfg q) i Ch (G ((base 105).at ⟨#[.pointer (some ⟨s.Gb, 4, none⟩), j1, .int .i64 wst, .bool sv, j4, j5, j6, j7, j8, j9, j10, j11, j12, j13, j14, j15, j16, j17, j18, j19, j20, j21, j22, j23, j24, j25, j26, j27, j28, j29, j30, j31, j32, j33, j34, j35, j36, j37, j38, j39, j40, j41, j42, j43, j44, j45, j46, j47, j48, j49, j50, j51, j52, j53, j54, j55, j56, j57, j58, j59, j60, j61, j62, j63, j64, j65, j66, j67, j68, j69, j70, j71, j72, j73, j74, j75, j76, j77, j78, j79, j80, j81, j82, j83, j84, j85, j86, j87, j88, j89, j90, j91, j92, j93, j94, j95, j96, j97, j98, j99, j100, j101, j102, j103, j104, j105, j106, j107, j108, j109, j110, j111, j112, j113, j114, j115, j116, j117, j118, j119, j120, j121, j122, j123, j124, j125, j126, j127, j128, j129, j130, j131, j132, j133, j134, j135, j136, j137, j138], []⟩ [.code slowW, .inBlock 1, .inLoop slowLoop, .inBlock 0, .code slowRest]) (b₁.at a₁ (.inRegion ops₁ (i₁ :: rest₁) :: k₁) :: cs₁)) st := by
  simp only [slowQ, slowS, slowW, slowL, sndC, fIf, slowLoop, slowRest, slowBody, fLoop, fRest, Try.f105, Option.getD_some, Nat.reduceEqDiff, ↓reduceIte]
  cases sv
  · refine TT.road hP hA (by simp [hx]) 60 fun w₀ hF => ?_
    repeat w_go road_rely
    refine Goes.stop (fun w₁ r₁ => ⟨rfl, ?_⟩)
    clear hF r₁ w₁ w₀
    refine TT.pas hP hA hx (mx := .woken true) rfl (by simp) fun st₃ hA₃ hI₃ hC₃ => ⟨_, _, _, 1, stepG_nanotime rfl rfl (by k_ne) rfl Try.func121 n_nano b_nano x_nano f_nano q_nano, rfl, rfl, rfl, MuEff.later _, evs_nil, fun st₄ hA₄ hI₄ _ _ f₄ _ => ?_⟩
    generalize ((st₃.w.os.mono + st₃.w.tick : Nat) : Int) = tw
    clear hC₃ hA₃ hI₃ hA f₄
    refine TT.road hP hA₄ (by simp [hx]) 60 fun w₀ hF => ?_
    walk_nrm
    repeat w_but "code.seq" road_rely
    refine Goes.stop (fun w₁ r₁ => ⟨rfl, ?_⟩)
    exact handL hP hx hT hA₄ _ _ _ _ _ _ _ _ _ _ _ _ _ _ _ _ _ _ _ _ _ _ _ _ _ _ _ _ _ _ _ _ _ _ _ _ _ _ _ _ _ _ _ _ _ _ _ _ _ _ _ _ _ _ _ _ _ _ _ _ _ _ _ _ _ _ _ _ _ _ _ _ _ _ _ _ _ _ _ _ _ _ _ _ _ _ _ _ _ _ _ _ _ _ _ _ _ _ _ _ _ _ _ _ _ _ _ _ _ _ _ _ _ _ _ _ _ _ _ _ _ _ _ _ _ _ _ _ _ _ _ _ _ _ _ _ _
  · refine TT.road hP hA (by simp [hx]) 60 fun w₀ hF => ?_
    w_go road_rely
    repeat w_but "code.seq" road_rely
    refine Goes.stop (fun w₁ r₁ => ⟨rfl, ?_⟩)
    exact handL hP hx hT hA _ _ _ _ _ _ _ _ _ _ _ _ _ _ _ _ _ _ _ _ _ _ _ _ _ _ _ _ _ _ _ _ _ _ _ _ _ _ _ _ _ _ _ _ _ _ _ _ _ _ _ _ _ _ _ _ _ _ _ _ _ _ _ _ _ _ _ _ _ _ _ _ _ _ _ _ _ _ _ _ _ _ _ _ _ _ _ _ _ _ _ _ _ _ _ _ _ _ _ _ _ _ _ _ _ _ _ _ _ _ _ _ _ _ _ _ _ _ _ _ _ _ _ _ _ _ _ _ _ _ _ _ _ _ _ _ _
end
end Go.Proofs.Ytpfpokjaeffbjab.Cc
