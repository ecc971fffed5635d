/- Part of the proof: LkE, LkG. -/
import Derived.Test.YtpfpokjaeffbjabGa23
namespace Go.Proofs.Ytpfpokjaeffbjab.Cc
open Go.Conc Go.ConcN Go.ConcM Go.RowKit Go.Conc.Lib Go.ConcR.Gen
open Go.ConcR (KK wgBlock WgAt stA smA rd wr mk DC0)
set_option linter.unusedVariables false
set_option linter.unusedSimpArgs false
section
variable {q : Prm} (hP : q.P = Try.prog) {i : Nat} {s : Scene} {x : Wk} {Ch : Nat → Goroutine → St Gho → Prop}
variable {b₁ : Frame} {a₁ : Act} {ops₁ : Array Oper} {i₁ : Nat} {rest₁ : List Nat} {k₁ : List Item} {cs₁ : List Frame}
include hP
set_option maxRecDepth 100000 in
set_option maxHeartbeats 16000000 in
theorem semAt (hx : x.wg = .work) (hT : Aft q i Ch s x b₁ a₁ ops₁ i₁ rest₁ k₁ cs₁) {pr : Nat} (ih : ∀ μ', μ' < 5 * pr → HdP q i Ch s x b₁ a₁ ops₁ i₁ rest₁ k₁ cs₁ μ') {sv : Bool} {wst : Int} {st : St Gho} (hA : At s i { x with mx := .queued, df := 1 } st) (hI : Inv q st) (hp : phi st.γ s < pr) (j1 j4 j5 j6 j7 j8 j9 j10 j11 j12 j13 j14 j15 j16 j17 j18 j19 j20 j21 j22 j23 j24 j25 j26 j27 j28 j29 j30 j31 j32 j33 j34 j35 j36 j37 j38 j39 j40 j41 j42 j43 j44 j45 j46 j47 j48 j49 j50 j51 j52 j53 j54 j55 j56 j57 j58 j59 j60 j61 j62 j63 j64 j65 j66 j67 j68 j69 j70 j71 j72 j73 j74 j75 j76 j77 j78 j79 j80 j81 j82 j83 j84 j85 j86 j87 j88 j89 j90 j91 j92 j93 j94 j95 j96 j97 j98 j99 j100 j101 j102 j103 j104 j105 j106 j107 j108 j109 j110 j111 j112 j113 j114 j115 j116 j117 j118 j119 j120 j121 j122 j123 j124 j125 j126 j127 j128 j129 j130 j131 j132 j133 j134 j135 j136 j137 j138 : Value) :
    TT (cfg q) i Ch (G ((base 105).at ⟨#[.pointer (some ⟨s.Gb, 4, none⟩), j1, .int .i64 wst, .bool sv, j4, j5, j6, j7, j8, j9, j10, j11, j12, j13, j14, j15, j16, j17, j18, j19, j20, j21, j22, j23, j24, j25, j26, j27, j28, j29, j30, j31, j32, j33, j34, j35, j36, j37, j38, j39, j40, j41, j42, j43, j44, j45, j46, j47, j48, j49, j50, j51, j52, j53, j54, j55, j56, j57, j58, j59, j60, j61, j62, j63, j64, j65, j66, j67, j68, j69, j70, j71, j72, j73, j74, j75, j76, j77, j78, j79, j80, j81, j82, j83, j84, j85, j86, j87, j88, j89, j90, j91, j92, j93, j94, j95, j96, j97, j98, j99, j100, j101, j102, j103, j104, j105, j106, j107, j108, j109, j110, j111, j112, j113, j114, j115, j116, j117, j118, j119, j120, j121, j122, j123, j124, j125, j126, j127, j128, j129, j130, j131, j132, j133, j134, j135, j136, j137, j138], []⟩ [.code slowS, .inBlock 1, .inLoop slowLoop, .inBlock 0, .code slowRest]) (b₁.at a₁ (.inRegion ops₁ (i₁ :: rest₁) :: k₁) :: cs₁)) st := by
  simp only [slowQ, slowS, slowW, slowL, sndC, fIf, slowLoop, slowRest, slowBody, fLoop, fRest, Try.f105, Option.getD_some, Nat.reduceEqDiff, ↓reduceIte]
  refine TT.road hP hA (by simp [hx]) 60 fun w₀ hF => ?_
  repeat w_go road_rely
  refine Goes.stop (fun w₁ r₁ => ⟨rfl, ?_⟩)
  clear hF r₁ w₁ w₀
  refine TT.sem (P := Try.prog) hP hA hx rfl rfl (fun w hc => stepG_semacquire_wait rfl rfl rfl Try.func122 n_sem b_sem x_sem f_sem (by simp [Act.eval]) hc) ⟨_, fun w n hc hn hz => stepG_semacquire rfl rfl (by k_ne) rfl Try.func122 n_sem b_sem x_sem f_sem (by simp [Act.eval]) hc hn hz, rfl, fun st₂ hA₂ hI₂ hlt => ?_, fun st₂ hA₂ hI₂ hlt => ?_⟩
  · refine TT.road hP hA₂ (by simp [hx]) 60 fun w₀ hF => ?_
    walk_nrm
    repeat w_but "code.seq" road_rely
    refine Goes.stop (fun w₁ r₁ => ⟨rfl, ?_⟩)
    exact wokeN hP hx hT ih hA₂ hI₂ (by omega) _ _ _ _ _ _ _ _ _ _ _ _ _ _ _ _ _ _ _ _ _ _ _ _ _ _ _ _ _ _ _ _ _ _ _ _ _ _ _ _ _ _ _ _ _ _ _ _ _ _ _ _ _ _ _ _ _ _ _ _ _ _ _ _ _ _ _ _ _ _ _ _ _ _ _ _ _ _ _ _ _ _ _ _ _ _ _ _ _ _ _ _ _ _ _ _ _ _ _ _ _ _ _ _ _ _ _ _ _ _ _ _ _ _ _ _ _ _ _ _ _ _ _ _ _ _ _ _ _ _ _ _ _ _ _ _
  · refine TT.road hP hA₂ (by simp [hx]) 60 fun w₀ hF => ?_
    walk_nrm
    repeat w_but "code.seq" road_rely
    refine Goes.stop (fun w₁ r₁ => ⟨rfl, ?_⟩)
    exact wokeH hP hx hT hA₂ _ _ _ _ _ _ _ _ _ _ _ _ _ _ _ _ _ _ _ _ _ _ _ _ _ _ _ _ _ _ _ _ _ _ _ _ _ _ _ _ _ _ _ _ _ _ _ _ _ _ _ _ _ _ _ _ _ _ _ _ _ _ _ _ _ _ _ _ _ _ _ _ _ _ _ _ _ _ _ _ _ _ _ _ _ _ _ _ _ _ _ _ _ _ _ _ _ _ _ _ _ _ _ _ _ _ _ _ _ _ _ _ _ _ _ _ _ _ _ _ _ _ _ _ _ _ _ _ _ _ _ _ _ _ _ _
set_option maxRecDepth 100000 in
set_option maxHeartbeats 16000000 in
theorem queueAt (hx : x.wg = .work) (hT : Aft q i Ch s x b₁ a₁ ops₁ i₁ rest₁ k₁ cs₁) {pr : Nat} (ih : ∀ μ', μ' < 5 * pr → HdP q i Ch s x b₁ a₁ ops₁ i₁ rest₁ k₁ cs₁ μ') {sv : Bool} {wst : Int} {st : St Gho} (hA : At s i { x with mx := .queued, df := 1 } st) (hI : Inv q st) (hp : phi st.γ s < pr) (j1 j4 j5 j6 j7 j8 j9 j10 j11 j12 j13 j14 j15 j16 j17 j18 j19 j20 j21 j22 j23 j24 j25 j26 j27 j28 j29 j30 j31 j32 j33 j34 j35 j36 j37 j38 j39 j40 j41 j42 j43 j44 j45 j46 j47 j48 j49 j50 j51 j52 j53 j54 j55 j56 j57 j58 j59 j60 j61 j62 j63 j64 j65 j66 j67 j68 j69 j70 j71 j72 j73 j74 j75 j76 j77 j78 j79 j80 j81 j82 j83 j84 j85 j86 j87 j88 j89 j90 j91 j92 j93 j94 j95 j96 j97 j98 j99 j100 j101 j102 j103 j104 j105 j106 j107 j108 j109 j110 j111 j112 j113 j114 j115 j116 j117 j118 j119 j120 j121 j122 j123 j124 j125 j126 j127 j128 j129 j130 j131 j132 j133 j134 j135 j136 j137 j138 : Value) :
    TT (cfg q) i Ch (G ((base 105).at ⟨#[.pointer (some ⟨s.Gb, 4, none⟩), j1, .int .i64 wst, .bool sv, j4, j5, j6, j7, j8, j9, j10, j11, j12, j13, j14, j15, j16, j17, j18, j19, j20, j21, j22, j23, j24, j25, j26, j27, j28, j29, j30, j31, j32, j33, j34, j35, j36, j37, j38, j39, j40, j41, j42, j43, j44, j45, j46, j47, j48, j49, j50, j51, j52, j53, j54, j55, j56, j57, j58, j59, j60, j61, j62, j63, j64, j65, j66, j67, j68, j69, j70, j71, j72, j73, j74, j75, j76, j77, j78, j79, j80, j81, j82, j83, j84, j85, j86, j87, j88, j89, j90, j91, j92, j93, j94, j95, j96, j97, j98, j99, j100, j101, j102, j103, j104, j105, j106, j107, j108, j109, j110, j111, j112, j113, j114, j115, j116, j117, j118, j119, j120, j121, j122, j123, j124, j125, j126, j127, j128, j129, j130, j131, j132, j133, j134, j135, j136, j137, j138], []⟩ [.code slowQ, .inBlock 1, .inLoop slowLoop, .inBlock 0, .code slowRest]) (b₁.at a₁ (.inRegion ops₁ (i₁ :: rest₁) :: k₁) :: cs₁)) st := by
  by_cases hz : wst = 0
  · subst hz
    simp only [slowQ, slowS, slowW, slowL, sndC, fIf, slowLoop, slowRest, slowBody, fLoop, fRest, Try.f105, Option.getD_some, Nat.reduceEqDiff, ↓reduceIte]
    refine TT.road hP hA (by simp [hx]) 60 fun w₀ hF => ?_
    repeat w_go road_rely
    refine Goes.stop (fun w₁ r₁ => ⟨rfl, ?_⟩)
    clear hF r₁ w₁ w₀
    refine TT.pas hP hA hx (mx := .queued) rfl (by simp) fun st₃ hA₃ hI₃ hC₃ => ⟨_, _, _, 1, stepG_nanotime rfl rfl (by k_ne) rfl Try.func121 n_nano b_nano x_nano f_nano q_nano, rfl, rfl, rfl, MuEff.later _, evs_nil, fun st₄ hA₄ hI₄ _ _ f₄ _ => ?_⟩
    generalize ((st₃.w.os.mono + st₃.w.tick : Nat) : Int) = tw
    have hp₄ : phi st₄.γ s < pr := by omega
    clear hC₃ hA₃ hI₃ hA hp f₄
    refine TT.road hP hA₄ (by simp [hx]) 60 fun w₀ hF => ?_
    walk_nrm
    repeat w_but "code.seq" road_rely
    refine Goes.stop (fun w₁ r₁ => ⟨rfl, ?_⟩)
    exact semAt hP hx hT ih hA₄ hI₄ hp₄ _ _ _ _ _ _ _ _ _ _ _ _ _ _ _ _ _ _ _ _ _ _ _ _ _ _ _ _ _ _ _ _ _ _ _ _ _ _ _ _ _ _ _ _ _ _ _ _ _ _ _ _ _ _ _ _ _ _ _ _ _ _ _ _ _ _ _ _ _ _ _ _ _ _ _ _ _ _ _ _ _ _ _ _ _ _ _ _ _ _ _ _ _ _ _ _ _ _ _ _ _ _ _ _ _ _ _ _ _ _ _ _ _ _ _ _ _ _ _ _ _ _ _ _ _ _ _ _ _ _ _ _ _ _ _ _
  · have hz1 : (wst == 0) = false := by simpa using hz
    have hz2 : (wst != 0) = true := by simpa using hz
    clear hz
    simp only [slowQ, slowS, slowW, slowL, sndC, fIf, slowLoop, slowRest, slowBody, fLoop, fRest, Try.f105, Option.getD_some, Nat.reduceEqDiff, ↓reduceIte]
    refine TT.road hP hA (by simp [hx]) 60 fun w₀ hF => ?_
    w_go road_rely
    repeat w_but "code.seq" road_rely
    w_go road_rely
    w_go road_rely
    repeat w_but "code.seq" road_rely
    refine Goes.stop (fun w₁ r₁ => ⟨rfl, ?_⟩)
    exact semAt hP hx hT ih hA hI hp _ _ _ _ _ _ _ _ _ _ _ _ _ _ _ _ _ _ _ _ _ _ _ _ _ _ _ _ _ _ _ _ _ _ _ _ _ _ _ _ _ _ _ _ _ _ _ _ _ _ _ _ _ _ _ _ _ _ _ _ _ _ _ _ _ _ _ _ _ _ _ _ _ _ _ _ _ _ _ _ _ _ _ _ _ _ _ _ _ _ _ _ _ _ _ _ _ _ _ _ _ _ _ _ _ _ _ _ _ _ _ _ _ _ _ _ _ _ _ _ _ _ _ _ _ _ _ _ _ _ _ _ _ _ _ _
end
end Go.Proofs.Ytpfpokjaeffbjab.Cc
namespace Go.Proofs.Ytpfpokjaeffbjab.Cc
open Go.Conc Go.ConcN Go.ConcM Go.RowKit Go.Conc.Lib Go.ConcR.Gen
open Go.ConcR (KK wgBlock WgAt stA smA rd wr mk DC0)
set_option linter.unusedVariables false
set_option linter.unusedSimpArgs false
section
variable {q : Prm} (hP : q.P = Try.prog) {i : Nat} {s : Scene} {x : Wk} {Ch : Nat → Goroutine → St Gho → Prop}
variable {b₁ : Frame} {a₁ : Act} {ops₁ : Array Oper} {i₁ : Nat} {rest₁ : List Nat} {k₁ : List Item} {cs₁ : List Frame}
include hP
set_option maxRecDepth 100000 in
set_option maxHeartbeats 16000000 in
theorem free1_false (hx : x.wg = .work) (hT : Aft q i Ch s x b₁ a₁ ops₁ i₁ rest₁ k₁ cs₁) {μ pr : Nat} (ih : ∀ μ', μ' < μ → HdP q i Ch s x b₁ a₁ ops₁ i₁ rest₁ k₁ cs₁ μ') {it wst : Int} {st : St Gho} (h0 : 0 ≤ it) (h4' : it ≤ 4) {N : Nat} (hμ : 5 * pr + (4 - it).toNat = μ) (hA : At s i { x with mx := .cont true, df := 1 } st) (hR : Rd s st pr 0 1 0 N) :
    HdAt q i Ch s b₁ a₁ ops₁ i₁ rest₁ k₁ cs₁ true false it wst (enc 0 1 0 N) st := by
  have h5 : bits BinOp.and IntKind.i32 (enc 0 1 0 N) 5 = 0 := e_and5 0 1 0 N (by omega) (by first | omega | exact hR.w1) (by omega) (by have := hR.n9; omega)
  have h4 : bits BinOp.and IntKind.i32 (enc 0 1 0 N) 4 = 0 := e_and4 0 1 0 N (by omega) (by first | omega | exact hR.w1) (by omega) (by have := hR.n9; omega)
  have h1 : bits BinOp.and IntKind.i32 (enc 0 1 0 N) 1 = 0 := e_and1 0 1 0 N (by omega) (by first | omega | exact hR.w1) (by omega) (by have := hR.n9; omega)
  have o1 : bits BinOp.or IntKind.i32 (enc 0 1 0 N) 1 = enc 1 1 0 N := e_or1 0 1 0 N (by omega) (by first | omega | exact hR.w1) (by omega) (by have := hR.n9; omega)
  have h2 : bits BinOp.and IntKind.i32 (enc 1 1 0 N) 2 = 2 := e_and2 1 1 0 N (by omega) (by first | omega | exact hR.w1) (by omega) (by have := hR.n9; omega)
  have n2 : bits BinOp.andNot IntKind.i32 (enc 1 1 0 N) 2 = enc 1 0 0 N := e_not2 1 1 0 N (by omega) (by first | omega | exact hR.w1) (by omega) (by have := hR.n9; omega)
  intro j1 j7 j8 j9 j10 j11 j12 j13 j14 j15 j16 j17 j18 j19 j20 j21 j22 j23 j24 j25 j26 j27 j28 j29 j30 j31 j32 j33 j34 j35 j36 j37 j38 j39 j40 j41 j42 j43 j44 j45 j46 j47 j48 j49 j50 j51 j52 j53 j54 j55 j56 j57 j58 j59 j60 j61 j62 j63 j64 j65 j66 j67 j68 j69 j70 j71 j72 j73 j74 j75 j76 j77 j78 j79 j80 j81 j82 j83 j84 j85 j86 j87 j88 j89 j90 j91 j92 j93 j94 j95 j96 j97 j98 j99 j100 j101 j102 j103 j104 j105 j106 j107 j108 j109 j110 j111 j112 j113 j114 j115 j116 j117 j118 j119 j120 j121 j122 j123 j124 j125 j126 j127 j128 j129 j130 j131 j132 j133 j134 j135 j136 j137 j138
  simp only [slowLoop, slowRest, slowBody, fLoop, fRest, Try.f105, Option.getD_some]
  refine TT.road hP hA (by simp [hx]) 140 fun w₀ hF => ?_
  repeat w_go road_rely
  refine Goes.stop (fun w₁ r₁ => ⟨rfl, ?_⟩)
  clear hF r₁ w₁ w₀
  refine TT.mu hP hA hx (mx := .cont true) rfl (by simp) fun st₁ hA₁ hI₁ hC₁ p1 p2 p3 p4 => ?_
  have hR₁ := hR.later p1 p2
  by_cases hit : enc st₁.γ.L st₁.γ.W st₁.γ.S st₁.γ.N = enc 0 1 0 N
  · obtain ⟨e1, e2, e3, e4⟩ := enc_inj hit hC₁.mu.bd ⟨by omega, by first | omega | exact hR.w1, by omega⟩
    refine ⟨_, _, _, .own .chk, 1, 1, st₁.γ.W - Bool.toNat true, st₁.γ.S, st₁.γ.N, st₁.γ.tn, st₁.γ.th, stepG_cas_hit rfl rfl (by k_ne) rfl Try.func104 n_cas b_cas x_cas .i32 f_cas rfl rfl rfl (hit ▸ hC₁.gb.cell.2.1) (hC₁.gb.cell.2.2.2 4), rfl, df_rw _ _, by simp, by simp, hC₁.mu.take hA₁.lo (hA₁.hi hI₁) true (mm_at hA₁) ⟨e1, e3⟩, hC₁.gb.swap rfl (by rw [e2, e3, e4]; rfl), MuEff.set _ 4 _ (by omega), .inl (by simp [crd]), .inl (Nat.le_refl _), evs_rw 4 (.inl rfl), .inr (Nat.le_refl _), fun st₂ hA₂ hI₂ _ _ _ _ => ?_⟩
    clear hit hR₁ hC₁ hA₁ hI₁
    refine TT.road hP hA₂ (by simp [hx]) 60 fun w₀ hF => ?_
    walk_nrm
    repeat w_but "code.exit" road_rely
    w_go road_rely
    refine Goes.stop (fun w₁ r₁ => ⟨rfl, ?_⟩)
    exact lockRest hP hx hT hA₂ _ _ _ _ _ _ _ _ _ _ _ _ _ _ _ _ _ _ _ _ _ _ _ _ _ _ _ _ _ _ _ _ _ _ _ _ _ _ _ _ _ _ _ _ _ _ _ _ _ _ _ _ _ _ _ _ _ _ _ _ _ _ _ _ _ _ _ _ _ _ _ _ _ _ _ _ _ _ _ _ _ _ _ _ _ _ _ _ _ _ _ _ _ _ _ _ _ _ _ _ _ _ _ _ _ _ _ _ _ _ _ _ _ _ _ _ _ _ _ _ _ _ _ _ _ _ _ _ _ _ _ _ _ _ _ _ _ _
  · refine ⟨_, _, _, .cont true, 1, st₁.γ.L, st₁.γ.W, st₁.γ.S, st₁.γ.N, st₁.γ.tn, st₁.γ.th, stepG_cas_miss rfl rfl (by k_ne) rfl Try.func104 n_cas b_cas x_cas .i32 f_cas rfl rfl rfl hC₁.gb.cell.2.1 (hC₁.gb.cell.2.2.2 4) hit, rfl, df_r _ _, by simp, by simp, MuI.still hC₁ hA₁ rfl, hC₁.gb.stay rfl rfl, MuEff.refl _, .inr ⟨rfl, rfl, rfl, rfl, rfl⟩, .inl (Nat.le_refl _), evs_r 4 (by omega), .inr (Nat.le_refl _), fun st₂ hA₂ hI₂ _ w₂ _ f₂ => ?_⟩
    have hlt : phi st₂.γ s < pr := by
      refine Nat.lt_of_le_of_ne (by have := hR₁.le; omega) fun e => hit ?_
      obtain ⟨a, b, c, d⟩ := hR₁.eq (by omega)
      rw [a, b, c, d]
    clear hit hR₁ hC₁ hA₁ hI₁
    refine TT.road hP hA₂ (by simp [hx]) 60 fun w₀ hF => ?_
    walk_nrm
    repeat w_go road_rely
    refine Goes.stop (fun w₁ r₁ => ⟨rfl, ?_⟩)
    clear hF r₁ w₁ w₀
    refine TT.pas hP hA₂ hx (mx := .cont true) rfl (by simp) fun st₃ hA₃ hI₃ hC₃ => ⟨_, _, _, 1, stepG_loadQ rfl rfl (by k_ne) rfl rfl hC₃.gb.cell.2.1 q_slow, rfl, rfl, rfl, MuEff.refl _, evs_nil, fun st₄ hA₄ hI₄ _ w₄ f₄ _ => ?_⟩
    have hR₄ := Rd.now (hI₄.scene s hA₄.sc).c
    rw [w₄.1, w₄.2.1, w₄.2.2.1, w₄.2.2.2] at hR₄
    refine TT.road hP hA₄ (by simp [hx]) 60 fun w₀ hF => ?_
    walk_nrm
    repeat w_nl road_rely
    u_c stepG_inLoop road_rely hF
    refine Goes.stop (fun w₁ r₁ => ⟨rfl, ?_⟩)
    have hWS := hC₃.mu.atCT hA₃.lo (hA₃.hi hI₃) (mm_at hA₃)
    exact ih _ (by omega) _ it true false wst _ _ _ _ st₄ rfl h0 h4' hA₄ hI₄ hR₄ (fun _ => ⟨hWS.1, hWS.2.1⟩) (by simp) _ _ _ _ _ _ _ _ _ _ _ _ _ _ _ _ _ _ _ _ _ _ _ _ _ _ _ _ _ _ _ _ _ _ _ _ _ _ _ _ _ _ _ _ _ _ _ _ _ _ _ _ _ _ _ _ _ _ _ _ _ _ _ _ _ _ _ _ _ _ _ _ _ _ _ _ _ _ _ _ _ _ _ _ _ _ _ _ _ _ _ _ _ _ _ _ _ _ _ _ _ _ _ _ _ _ _ _ _ _ _ _ _ _ _ _ _ _ _ _ _ _ _ _ _ _ _ _ _ _ _ _ _
set_option maxRecDepth 100000 in
set_option maxHeartbeats 16000000 in
theorem free1_true (hx : x.wg = .work) (hT : Aft q i Ch s x b₁ a₁ ops₁ i₁ rest₁ k₁ cs₁) {μ pr : Nat} (ih : ∀ μ', μ' < μ → HdP q i Ch s x b₁ a₁ ops₁ i₁ rest₁ k₁ cs₁ μ') {it wst : Int} {st : St Gho} (h0 : 0 ≤ it) (h4' : it ≤ 4) {N : Nat} (hμ : 5 * pr + (4 - it).toNat = μ) (hA : At s i { x with mx := .cont true, df := 1 } st) (hR : Rd s st pr 0 1 0 N) :
    HdAt q i Ch s b₁ a₁ ops₁ i₁ rest₁ k₁ cs₁ true true it wst (enc 0 1 0 N) st := by
  have h5 : bits BinOp.and IntKind.i32 (enc 0 1 0 N) 5 = 0 := e_and5 0 1 0 N (by omega) (by first | omega | exact hR.w1) (by omega) (by have := hR.n9; omega)
  have h4 : bits BinOp.and IntKind.i32 (enc 0 1 0 N) 4 = 0 := e_and4 0 1 0 N (by omega) (by first | omega | exact hR.w1) (by omega) (by have := hR.n9; omega)
  have h1 : bits BinOp.and IntKind.i32 (enc 0 1 0 N) 1 = 0 := e_and1 0 1 0 N (by omega) (by first | omega | exact hR.w1) (by omega) (by have := hR.n9; omega)
  have o1 : bits BinOp.or IntKind.i32 (enc 0 1 0 N) 1 = enc 1 1 0 N := e_or1 0 1 0 N (by omega) (by first | omega | exact hR.w1) (by omega) (by have := hR.n9; omega)
  have h2 : bits BinOp.and IntKind.i32 (enc 1 1 0 N) 2 = 2 := e_and2 1 1 0 N (by omega) (by first | omega | exact hR.w1) (by omega) (by have := hR.n9; omega)
  have n2 : bits BinOp.andNot IntKind.i32 (enc 1 1 0 N) 2 = enc 1 0 0 N := e_not2 1 1 0 N (by omega) (by first | omega | exact hR.w1) (by omega) (by have := hR.n9; omega)
  intro j1 j7 j8 j9 j10 j11 j12 j13 j14 j15 j16 j17 j18 j19 j20 j21 j22 j23 j24 j25 j26 j27 j28 j29 j30 j31 j32 j33 j34 j35 j36 j37 j38 j39 j40 j41 j42 j43 j44 j45 j46 j47 j48 j49 j50 j51 j52 j53 j54 j55 j56 j57 j58 j59 j60 j61 j62 j63 j64 j65 j66 j67 j68 j69 j70 j71 j72 j73 j74 j75 j76 j77 j78 j79 j80 j81 j82 j83 j84 j85 j86 j87 j88 j89 j90 j91 j92 j93 j94 j95 j96 j97 j98 j99 j100 j101 j102 j103 j104 j105 j106 j107 j108 j109 j110 j111 j112 j113 j114 j115 j116 j117 j118 j119 j120 j121 j122 j123 j124 j125 j126 j127 j128 j129 j130 j131 j132 j133 j134 j135 j136 j137 j138
  simp only [slowLoop, slowRest, slowBody, fLoop, fRest, Try.f105, Option.getD_some]
  refine TT.road hP hA (by simp [hx]) 140 fun w₀ hF => ?_
  repeat w_go road_rely
  refine Goes.stop (fun w₁ r₁ => ⟨rfl, ?_⟩)
  clear hF r₁ w₁ w₀
  refine TT.mu hP hA hx (mx := .cont true) rfl (by simp) fun st₁ hA₁ hI₁ hC₁ p1 p2 p3 p4 => ?_
  have hR₁ := hR.later p1 p2
  by_cases hit : enc st₁.γ.L st₁.γ.W st₁.γ.S st₁.γ.N = enc 0 1 0 N
  · obtain ⟨e1, e2, e3, e4⟩ := enc_inj hit hC₁.mu.bd ⟨by omega, by first | omega | exact hR.w1, by omega⟩
    refine ⟨_, _, _, .own .chk, 1, 1, st₁.γ.W - Bool.toNat true, st₁.γ.S, st₁.γ.N, st₁.γ.tn, st₁.γ.th, stepG_cas_hit rfl rfl (by k_ne) rfl Try.func104 n_cas b_cas x_cas .i32 f_cas rfl rfl rfl (hit ▸ hC₁.gb.cell.2.1) (hC₁.gb.cell.2.2.2 4), rfl, df_rw _ _, by simp, by simp, hC₁.mu.take hA₁.lo (hA₁.hi hI₁) true (mm_at hA₁) ⟨e1, e3⟩, hC₁.gb.swap rfl (by rw [e2, e3, e4]; rfl), MuEff.set _ 4 _ (by omega), .inl (by simp [crd]), .inl (Nat.le_refl _), evs_rw 4 (.inl rfl), .inr (Nat.le_refl _), fun st₂ hA₂ hI₂ _ _ _ _ => ?_⟩
    clear hit hR₁ hC₁ hA₁ hI₁
    refine TT.road hP hA₂ (by simp [hx]) 60 fun w₀ hF => ?_
    walk_nrm
    repeat w_but "code.exit" road_rely
    w_go road_rely
    refine Goes.stop (fun w₁ r₁ => ⟨rfl, ?_⟩)
    exact lockRest hP hx hT hA₂ _ _ _ _ _ _ _ _ _ _ _ _ _ _ _ _ _ _ _ _ _ _ _ _ _ _ _ _ _ _ _ _ _ _ _ _ _ _ _ _ _ _ _ _ _ _ _ _ _ _ _ _ _ _ _ _ _ _ _ _ _ _ _ _ _ _ _ _ _ _ _ _ _ _ _ _ _ _ _ _ _ _ _ _ _ _ _ _ _ _ _ _ _ _ _ _ _ _ _ _ _ _ _ _ _ _ _ _ _ _ _ _ _ _ _ _ _ _ _ _ _ _ _ _ _ _ _ _ _ _ _ _ _ _ _ _ _ _
  · refine ⟨_, _, _, .cont true, 1, st₁.γ.L, st₁.γ.W, st₁.γ.S, st₁.γ.N, st₁.γ.tn, st₁.γ.th, stepG_cas_miss rfl rfl (by k_ne) rfl Try.func104 n_cas b_cas x_cas .i32 f_cas rfl rfl rfl hC₁.gb.cell.2.1 (hC₁.gb.cell.2.2.2 4) hit, rfl, df_r _ _, by simp, by simp, MuI.still hC₁ hA₁ rfl, hC₁.gb.stay rfl rfl, MuEff.refl _, .inr ⟨rfl, rfl, rfl, rfl, rfl⟩, .inl (Nat.le_refl _), evs_r 4 (by omega), .inr (Nat.le_refl _), fun st₂ hA₂ hI₂ _ w₂ _ f₂ => ?_⟩
    have hlt : phi st₂.γ s < pr := by
      refine Nat.lt_of_le_of_ne (by have := hR₁.le; omega) fun e => hit ?_
      obtain ⟨a, b, c, d⟩ := hR₁.eq (by omega)
      rw [a, b, c, d]
    clear hit hR₁ hC₁ hA₁ hI₁
    refine TT.road hP hA₂ (by simp [hx]) 60 fun w₀ hF => ?_
    walk_nrm
    repeat w_go road_rely
    refine Goes.stop (fun w₁ r₁ => ⟨rfl, ?_⟩)
    clear hF r₁ w₁ w₀
    refine TT.pas hP hA₂ hx (mx := .cont true) rfl (by simp) fun st₃ hA₃ hI₃ hC₃ => ⟨_, _, _, 1, stepG_loadQ rfl rfl (by k_ne) rfl rfl hC₃.gb.cell.2.1 q_slow, rfl, rfl, rfl, MuEff.refl _, evs_nil, fun st₄ hA₄ hI₄ _ w₄ f₄ _ => ?_⟩
    have hR₄ := Rd.now (hI₄.scene s hA₄.sc).c
    rw [w₄.1, w₄.2.1, w₄.2.2.1, w₄.2.2.2] at hR₄
    refine TT.road hP hA₄ (by simp [hx]) 60 fun w₀ hF => ?_
    walk_nrm
    repeat w_nl road_rely
    u_c stepG_inLoop road_rely hF
    refine Goes.stop (fun w₁ r₁ => ⟨rfl, ?_⟩)
    have hWS := hC₃.mu.atCT hA₃.lo (hA₃.hi hI₃) (mm_at hA₃)
    exact ih _ (by omega) _ it true true wst _ _ _ _ st₄ rfl h0 h4' hA₄ hI₄ hR₄ (fun _ => ⟨hWS.1, hWS.2.1⟩) (by simp) _ _ _ _ _ _ _ _ _ _ _ _ _ _ _ _ _ _ _ _ _ _ _ _ _ _ _ _ _ _ _ _ _ _ _ _ _ _ _ _ _ _ _ _ _ _ _ _ _ _ _ _ _ _ _ _ _ _ _ _ _ _ _ _ _ _ _ _ _ _ _ _ _ _ _ _ _ _ _ _ _ _ _ _ _ _ _ _ _ _ _ _ _ _ _ _ _ _ _ _ _ _ _ _ _ _ _ _ _ _ _ _ _ _ _ _ _ _ _ _ _ _ _ _ _ _ _ _ _ _ _ _ _
set_option maxRecDepth 100000 in
set_option maxHeartbeats 16000000 in
theorem starv0 (hx : x.wg = .work) (hT : Aft q i Ch s x b₁ a₁ ops₁ i₁ rest₁ k₁ cs₁) {μ pr : Nat} (ih : ∀ μ', μ' < μ → HdP q i Ch s x b₁ a₁ ops₁ i₁ rest₁ k₁ cs₁ μ') {it wst : Int} {st : St Gho} (h0 : 0 ≤ it) (h4' : it ≤ 4) {w N : Nat} (hμ : 5 * pr + (4 - it).toNat = μ) (hA : At s i { x with mx := .cont false, df := 1 } st) (hR : Rd s st pr 0 w 1 N) :
    HdAt q i Ch s b₁ a₁ ops₁ i₁ rest₁ k₁ cs₁ false false it wst (enc 0 w 1 N) st := by
  have h5 : bits BinOp.and IntKind.i32 (enc 0 w 1 N) 5 = 4 := e_and5 0 w 1 N (by omega) (by first | omega | exact hR.w1) (by omega) (by have := hR.n9; omega)
  have h4 : bits BinOp.and IntKind.i32 (enc 0 w 1 N) 4 = 4 := e_and4 0 w 1 N (by omega) (by first | omega | exact hR.w1) (by omega) (by have := hR.n9; omega)
  have o8 : IntKind.wrap IntKind.i32 (enc 0 w 1 N + 8) = enc 0 w 1 (N + 1) := e_add8 0 w 1 N (by omega) (by first | omega | exact hR.w1) (by omega) (by have := hR.n9; omega)
  intro j1 j7 j8 j9 j10 j11 j12 j13 j14 j15 j16 j17 j18 j19 j20 j21 j22 j23 j24 j25 j26 j27 j28 j29 j30 j31 j32 j33 j34 j35 j36 j37 j38 j39 j40 j41 j42 j43 j44 j45 j46 j47 j48 j49 j50 j51 j52 j53 j54 j55 j56 j57 j58 j59 j60 j61 j62 j63 j64 j65 j66 j67 j68 j69 j70 j71 j72 j73 j74 j75 j76 j77 j78 j79 j80 j81 j82 j83 j84 j85 j86 j87 j88 j89 j90 j91 j92 j93 j94 j95 j96 j97 j98 j99 j100 j101 j102 j103 j104 j105 j106 j107 j108 j109 j110 j111 j112 j113 j114 j115 j116 j117 j118 j119 j120 j121 j122 j123 j124 j125 j126 j127 j128 j129 j130 j131 j132 j133 j134 j135 j136 j137 j138
  simp only [slowLoop, slowRest, slowBody, fLoop, fRest, Try.f105, Option.getD_some]
  refine TT.road hP hA (by simp [hx]) 140 fun w₀ hF => ?_
  repeat w_go road_rely
  refine Goes.stop (fun w₁ r₁ => ⟨rfl, ?_⟩)
  clear hF r₁ w₁ w₀
  refine TT.mu hP hA hx (mx := .cont false) rfl (by simp) fun st₁ hA₁ hI₁ hC₁ p1 p2 p3 p4 => ?_
  have hR₁ := hR.later p1 p2
  by_cases hit : enc st₁.γ.L st₁.γ.W st₁.γ.S st₁.γ.N = enc 0 w 1 N
  · obtain ⟨e1, e2, e3, e4⟩ := enc_inj hit hC₁.mu.bd ⟨by omega, by first | omega | exact hR.w1, by omega⟩
    refine ⟨_, _, _, .queued, 1, st₁.γ.L, st₁.γ.W - Bool.toNat false, st₁.γ.S, st₁.γ.N + 1, st₁.γ.tn, st₁.γ.th, stepG_cas_hit rfl rfl (by k_ne) rfl Try.func104 n_cas b_cas x_cas .i32 f_cas rfl rfl rfl (hit ▸ hC₁.gb.cell.2.1) (hC₁.gb.cell.2.2.2 4), rfl, df_rw _ _, by simp, by simp, hC₁.mu.queue hA₁.lo (hA₁.hi hI₁) false (mm_at hA₁) (.inr e3), hC₁.gb.swap rfl (by rw [e1, e2, e3, e4]; rfl), MuEff.set _ 4 _ (by omega), .inl (by simp [crd]), .inl (by omega), evs_rw 4 (.inl rfl), .inr (Nat.le_refl _), fun st₂ hA₂ hI₂ _ _ _ f₂ => ?_⟩
    have lt₂ : phi st₂.γ s < pr := by have := hR₁.le; simp only [crd] at f₂; omega
    clear hit hR₁ hC₁ hA₁ hI₁
    refine TT.road hP hA₂ (by simp [hx]) 60 fun w₀ hF => ?_
    walk_nrm
    w_but "code.seq" road_rely
    w_but "code.seq" road_rely
    w_go road_rely
    w_go road_rely
    repeat w_but "code.seq" road_rely
    refine Goes.stop (fun w₁ r₁ => ⟨rfl, ?_⟩)
    exact queueAt hP hx hT (fun μ' h => ih μ' (by omega)) hA₂ hI₂ lt₂ _ _ _ _ _ _ _ _ _ _ _ _ _ _ _ _ _ _ _ _ _ _ _ _ _ _ _ _ _ _ _ _ _ _ _ _ _ _ _ _ _ _ _ _ _ _ _ _ _ _ _ _ _ _ _ _ _ _ _ _ _ _ _ _ _ _ _ _ _ _ _ _ _ _ _ _ _ _ _ _ _ _ _ _ _ _ _ _ _ _ _ _ _ _ _ _ _ _ _ _ _ _ _ _ _ _ _ _ _ _ _ _ _ _ _ _ _ _ _ _ _ _ _ _ _ _ _ _ _ _ _ _ _ _ _ _
  · refine ⟨_, _, _, .cont false, 1, st₁.γ.L, st₁.γ.W, st₁.γ.S, st₁.γ.N, st₁.γ.tn, st₁.γ.th, stepG_cas_miss rfl rfl (by k_ne) rfl Try.func104 n_cas b_cas x_cas .i32 f_cas rfl rfl rfl hC₁.gb.cell.2.1 (hC₁.gb.cell.2.2.2 4) hit, rfl, df_r _ _, by simp, by simp, MuI.still hC₁ hA₁ rfl, hC₁.gb.stay rfl rfl, MuEff.refl _, .inr ⟨rfl, rfl, rfl, rfl, rfl⟩, .inl (Nat.le_refl _), evs_r 4 (by omega), .inr (Nat.le_refl _), fun st₂ hA₂ hI₂ _ w₂ _ f₂ => ?_⟩
    have hlt : phi st₂.γ s < pr := by
      refine Nat.lt_of_le_of_ne (by have := hR₁.le; omega) fun e => hit ?_
      obtain ⟨a, b, c, d⟩ := hR₁.eq (by omega)
      rw [a, b, c, d]
    clear hit hR₁ hC₁ hA₁ hI₁
    refine TT.road hP hA₂ (by simp [hx]) 60 fun w₀ hF => ?_
    walk_nrm
    repeat w_go road_rely
    refine Goes.stop (fun w₁ r₁ => ⟨rfl, ?_⟩)
    clear hF r₁ w₁ w₀
    refine TT.pas hP hA₂ hx (mx := .cont false) rfl (by simp) fun st₃ hA₃ hI₃ hC₃ => ⟨_, _, _, 1, stepG_loadQ rfl rfl (by k_ne) rfl rfl hC₃.gb.cell.2.1 q_slow, rfl, rfl, rfl, MuEff.refl _, evs_nil, fun st₄ hA₄ hI₄ _ w₄ f₄ _ => ?_⟩
    have hR₄ := Rd.now (hI₄.scene s hA₄.sc).c
    rw [w₄.1, w₄.2.1, w₄.2.2.1, w₄.2.2.2] at hR₄
    clear hC₃ hA₃ hI₃
    refine TT.road hP hA₄ (by simp [hx]) 60 fun w₀ hF => ?_
    walk_nrm
    repeat w_nl road_rely
    u_c stepG_inLoop road_rely hF
    refine Goes.stop (fun w₁ r₁ => ⟨rfl, ?_⟩)
    exact ih _ (by omega) _ it false false wst _ _ _ _ st₄ rfl h0 h4' hA₄ hI₄ hR₄ (by simp) (by simp) _ _ _ _ _ _ _ _ _ _ _ _ _ _ _ _ _ _ _ _ _ _ _ _ _ _ _ _ _ _ _ _ _ _ _ _ _ _ _ _ _ _ _ _ _ _ _ _ _ _ _ _ _ _ _ _ _ _ _ _ _ _ _ _ _ _ _ _ _ _ _ _ _ _ _ _ _ _ _ _ _ _ _ _ _ _ _ _ _ _ _ _ _ _ _ _ _ _ _ _ _ _ _ _ _ _ _ _ _ _ _ _ _ _ _ _ _ _ _ _ _ _ _ _ _ _ _ _ _ _ _ _ _
set_option maxRecDepth 100000 in
set_option maxHeartbeats 16000000 in
theorem starv1 (hx : x.wg = .work) (hT : Aft q i Ch s x b₁ a₁ ops₁ i₁ rest₁ k₁ cs₁) {μ pr : Nat} (ih : ∀ μ', μ' < μ → HdP q i Ch s x b₁ a₁ ops₁ i₁ rest₁ k₁ cs₁ μ') {it wst : Int} {st : St Gho} (h0 : 0 ≤ it) (h4' : it ≤ 4) {w N : Nat} (hμ : 5 * pr + (4 - it).toNat = μ) (hA : At s i { x with mx := .cont false, df := 1 } st) (hR : Rd s st pr 1 w 1 N) :
    HdAt q i Ch s b₁ a₁ ops₁ i₁ rest₁ k₁ cs₁ false false it wst (enc 1 w 1 N) st := by
  have h5 : bits BinOp.and IntKind.i32 (enc 1 w 1 N) 5 = 5 := e_and5 1 w 1 N (by omega) (by first | omega | exact hR.w1) (by omega) (by have := hR.n9; omega)
  have h4 : bits BinOp.and IntKind.i32 (enc 1 w 1 N) 4 = 4 := e_and4 1 w 1 N (by omega) (by first | omega | exact hR.w1) (by omega) (by have := hR.n9; omega)
  have o8 : IntKind.wrap IntKind.i32 (enc 1 w 1 N + 8) = enc 1 w 1 (N + 1) := e_add8 1 w 1 N (by omega) (by first | omega | exact hR.w1) (by omega) (by have := hR.n9; omega)
  intro j1 j7 j8 j9 j10 j11 j12 j13 j14 j15 j16 j17 j18 j19 j20 j21 j22 j23 j24 j25 j26 j27 j28 j29 j30 j31 j32 j33 j34 j35 j36 j37 j38 j39 j40 j41 j42 j43 j44 j45 j46 j47 j48 j49 j50 j51 j52 j53 j54 j55 j56 j57 j58 j59 j60 j61 j62 j63 j64 j65 j66 j67 j68 j69 j70 j71 j72 j73 j74 j75 j76 j77 j78 j79 j80 j81 j82 j83 j84 j85 j86 j87 j88 j89 j90 j91 j92 j93 j94 j95 j96 j97 j98 j99 j100 j101 j102 j103 j104 j105 j106 j107 j108 j109 j110 j111 j112 j113 j114 j115 j116 j117 j118 j119 j120 j121 j122 j123 j124 j125 j126 j127 j128 j129 j130 j131 j132 j133 j134 j135 j136 j137 j138
  simp only [slowLoop, slowRest, slowBody, fLoop, fRest, Try.f105, Option.getD_some]
  refine TT.road hP hA (by simp [hx]) 140 fun w₀ hF => ?_
  repeat w_go road_rely
  refine Goes.stop (fun w₁ r₁ => ⟨rfl, ?_⟩)
  clear hF r₁ w₁ w₀
  refine TT.mu hP hA hx (mx := .cont false) rfl (by simp) fun st₁ hA₁ hI₁ hC₁ p1 p2 p3 p4 => ?_
  have hR₁ := hR.later p1 p2
  by_cases hit : enc st₁.γ.L st₁.γ.W st₁.γ.S st₁.γ.N = enc 1 w 1 N
  · obtain ⟨e1, e2, e3, e4⟩ := enc_inj hit hC₁.mu.bd ⟨by omega, by first | omega | exact hR.w1, by omega⟩
    refine ⟨_, _, _, .queued, 1, st₁.γ.L, st₁.γ.W - Bool.toNat false, st₁.γ.S, st₁.γ.N + 1, st₁.γ.tn, st₁.γ.th, stepG_cas_hit rfl rfl (by k_ne) rfl Try.func104 n_cas b_cas x_cas .i32 f_cas rfl rfl rfl (hit ▸ hC₁.gb.cell.2.1) (hC₁.gb.cell.2.2.2 4), rfl, df_rw _ _, by simp, by simp, hC₁.mu.queue hA₁.lo (hA₁.hi hI₁) false (mm_at hA₁) (.inr e3), hC₁.gb.swap rfl (by rw [e1, e2, e3, e4]; rfl), MuEff.set _ 4 _ (by omega), .inl (by simp [crd]), .inl (by omega), evs_rw 4 (.inl rfl), .inr (Nat.le_refl _), fun st₂ hA₂ hI₂ _ _ _ f₂ => ?_⟩
    have lt₂ : phi st₂.γ s < pr := by have := hR₁.le; simp only [crd] at f₂; omega
    clear hit hR₁ hC₁ hA₁ hI₁
    refine TT.road hP hA₂ (by simp [hx]) 60 fun w₀ hF => ?_
    walk_nrm
    w_but "code.seq" road_rely
    w_but "code.seq" road_rely
    w_go road_rely
    w_go road_rely
    repeat w_but "code.seq" road_rely
    refine Goes.stop (fun w₁ r₁ => ⟨rfl, ?_⟩)
    exact queueAt hP hx hT (fun μ' h => ih μ' (by omega)) hA₂ hI₂ lt₂ _ _ _ _ _ _ _ _ _ _ _ _ _ _ _ _ _ _ _ _ _ _ _ _ _ _ _ _ _ _ _ _ _ _ _ _ _ _ _ _ _ _ _ _ _ _ _ _ _ _ _ _ _ _ _ _ _ _ _ _ _ _ _ _ _ _ _ _ _ _ _ _ _ _ _ _ _ _ _ _ _ _ _ _ _ _ _ _ _ _ _ _ _ _ _ _ _ _ _ _ _ _ _ _ _ _ _ _ _ _ _ _ _ _ _ _ _ _ _ _ _ _ _ _ _ _ _ _ _ _ _ _ _ _ _ _
  · refine ⟨_, _, _, .cont false, 1, st₁.γ.L, st₁.γ.W, st₁.γ.S, st₁.γ.N, st₁.γ.tn, st₁.γ.th, stepG_cas_miss rfl rfl (by k_ne) rfl Try.func104 n_cas b_cas x_cas .i32 f_cas rfl rfl rfl hC₁.gb.cell.2.1 (hC₁.gb.cell.2.2.2 4) hit, rfl, df_r _ _, by simp, by simp, MuI.still hC₁ hA₁ rfl, hC₁.gb.stay rfl rfl, MuEff.refl _, .inr ⟨rfl, rfl, rfl, rfl, rfl⟩, .inl (Nat.le_refl _), evs_r 4 (by omega), .inr (Nat.le_refl _), fun st₂ hA₂ hI₂ _ w₂ _ f₂ => ?_⟩
    have hlt : phi st₂.γ s < pr := by
      refine Nat.lt_of_le_of_ne (by have := hR₁.le; omega) fun e => hit ?_
      obtain ⟨a, b, c, d⟩ := hR₁.eq (by omega)
      rw [a, b, c, d]
    clear hit hR₁ hC₁ hA₁ hI₁
    refine TT.road hP hA₂ (by simp [hx]) 60 fun w₀ hF => ?_
    walk_nrm
    repeat w_go road_rely
    refine Goes.stop (fun w₁ r₁ => ⟨rfl, ?_⟩)
    clear hF r₁ w₁ w₀
    refine TT.pas hP hA₂ hx (mx := .cont false) rfl (by simp) fun st₃ hA₃ hI₃ hC₃ => ⟨_, _, _, 1, stepG_loadQ rfl rfl (by k_ne) rfl rfl hC₃.gb.cell.2.1 q_slow, rfl, rfl, rfl, MuEff.refl _, evs_nil, fun st₄ hA₄ hI₄ _ w₄ f₄ _ => ?_⟩
    have hR₄ := Rd.now (hI₄.scene s hA₄.sc).c
    rw [w₄.1, w₄.2.1, w₄.2.2.1, w₄.2.2.2] at hR₄
    clear hC₃ hA₃ hI₃
    refine TT.road hP hA₄ (by simp [hx]) 60 fun w₀ hF => ?_
    walk_nrm
    repeat w_nl road_rely
    u_c stepG_inLoop road_rely hF
    refine Goes.stop (fun w₁ r₁ => ⟨rfl, ?_⟩)
    exact ih _ (by omega) _ it false false wst _ _ _ _ st₄ rfl h0 h4' hA₄ hI₄ hR₄ (by simp) (by simp) _ _ _ _ _ _ _ _ _ _ _ _ _ _ _ _ _ _ _ _ _ _ _ _ _ _ _ _ _ _ _ _ _ _ _ _ _ _ _ _ _ _ _ _ _ _ _ _ _ _ _ _ _ _ _ _ _ _ _ _ _ _ _ _ _ _ _ _ _ _ _ _ _ _ _ _ _ _ _ _ _ _ _ _ _ _ _ _ _ _ _ _ _ _ _ _ _ _ _ _ _ _ _ _ _ _ _ _ _ _ _ _ _ _ _ _ _ _ _ _ _ _ _ _ _ _ _ _ _ _ _ _ _
end
end Go.Proofs.Ytpfpokjaeffbjab.Cc
