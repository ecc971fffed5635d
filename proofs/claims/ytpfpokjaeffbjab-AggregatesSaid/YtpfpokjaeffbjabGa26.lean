/- Part of the proof: LkItt, LkJ, LkU, LkV. -/
import Derived.Test.YtpfpokjaeffbjabGa24
import Derived.Test.YtpfpokjaeffbjabGa25
import Derived.Test.YtpfpokjaeffbjabGa23
namespace Go.Proofs.Ytpfpokjaeffbjab.Cc
open Go.Conc Go.ConcN Go.ConcM Go.RowKit Go.Conc.Lib Go.ConcR.Gen
open Go.ConcR (KK wgBlock WgAt stA smA rd wr mk DC0)
set_option linter.unusedVariables false
set_option linter.unusedSimpArgs false
section
variable {q : Prm} (hP : q.P = Try.prog) {i : Nat} {s : Scene} {x : Wk} {Ch : Nat → Goroutine → St Gho → Prop}
variable {b₁ : Frame} {a₁ : Act} {ops₁ : Array Oper} {i₁ : Nat} {rest₁ : List Nat} {k₁ : List Item} {cs₁ : List Frame}
include hP
set_option maxRecDepth 100000 in
set_option maxHeartbeats 16000000 in
theorem held_tt (hx : x.wg = .work) (hT : Aft q i Ch s x b₁ a₁ ops₁ i₁ rest₁ k₁ cs₁) {μ pr : Nat} (ih : ∀ μ', μ' < μ → HdP q i Ch s x b₁ a₁ ops₁ i₁ rest₁ k₁ cs₁ μ') {it wst : Int} {st : St Gho} (h0 : 0 ≤ it) (h4' : it ≤ 4) {N : Nat} (hμ : 5 * pr + (4 - it).toNat = μ) (hA : At s i { x with mx := .cont true, df := 1 } st) (hR : Rd s st pr 1 1 0 N) :
    HdAt q i Ch s b₁ a₁ ops₁ i₁ rest₁ k₁ cs₁ true true it wst (enc 1 1 0 N) st := by
  have h5 : bits BinOp.and IntKind.i32 (enc 1 1 0 N) 5 = 1 := e_and5 1 1 0 N (by omega) (by first | omega | exact hR.w1) (by omega) (by have := hR.n9; omega)
  have h4 : bits BinOp.and IntKind.i32 (enc 1 1 0 N) 4 = 0 := e_and4 1 1 0 N (by omega) (by first | omega | exact hR.w1) (by omega) (by have := hR.n9; omega)
  have o1 : bits BinOp.or IntKind.i32 (enc 1 1 0 N) 1 = (enc 1 1 0 N) := e_or1 1 1 0 N (by omega) (by first | omega | exact hR.w1) (by omega) (by have := hR.n9; omega)
  have o8 : IntKind.wrap IntKind.i32 (enc 1 1 0 N + 8) = enc 1 1 0 (N + 1) := e_add8 1 1 0 N (by omega) (by first | omega | exact hR.w1) (by omega) (by have := hR.n9; omega)
  have h1 : bits BinOp.and IntKind.i32 (enc 1 1 0 N) 1 = 1 := e_and1 1 1 0 N (by omega) (by first | omega | exact hR.w1) (by omega) (by have := hR.n9; omega)
  have o4 : bits BinOp.or IntKind.i32 (enc 1 1 0 (N + 1)) 4 = enc 1 1 1 (N + 1) := e_or4 1 1 0 (N + 1) (by omega) (by first | omega | exact hR.w1) (by omega) (by have := hR.n9; omega)
  have h2 : bits BinOp.and IntKind.i32 (enc 1 1 1 (N + 1)) 2 = 2 := e_and2 1 1 1 (N + 1) (by omega) (by first | omega | exact hR.w1) (by omega) (by have := hR.n9; omega)
  have n2 : bits BinOp.andNot IntKind.i32 (enc 1 1 1 (N + 1)) 2 = enc 1 0 1 (N + 1) := e_not2 1 1 1 (N + 1) (by omega) (by first | omega | exact hR.w1) (by omega) (by have := hR.n9; omega)
  have hlt : it < 4 → IntKind.wrap IntKind.i64 (it + 1) = it + 1 := fun h => by unfold IntKind.wrap; simp [IntKind.bits, IntKind.signed]; omega
  intro j1 j7 j8 j9 j10 j11 j12 j13 j14 j15 j16 j17 j18 j19 j20 j21 j22 j23 j24 j25 j26 j27 j28 j29 j30 j31 j32 j33 j34 j35 j36 j37 j38 j39 j40 j41 j42 j43 j44 j45 j46 j47 j48 j49 j50 j51 j52 j53 j54 j55 j56 j57 j58 j59 j60 j61 j62 j63 j64 j65 j66 j67 j68 j69 j70 j71 j72 j73 j74 j75 j76 j77 j78 j79 j80 j81 j82 j83 j84 j85 j86 j87 j88 j89 j90 j91 j92 j93 j94 j95 j96 j97 j98 j99 j100 j101 j102 j103 j104 j105 j106 j107 j108 j109 j110 j111 j112 j113 j114 j115 j116 j117 j118 j119 j120 j121 j122 j123 j124 j125 j126 j127 j128 j129 j130 j131 j132 j133 j134 j135 j136 j137 j138
  simp only [slowLoop, slowRest, slowBody, fLoop, fRest, Try.f105, Option.getD_some]
  refine TT.road hP hA (by simp [hx]) 140 fun w₀ hF => ?_
  repeat w_go road_rely
  refine Goes.stop (fun w₁ r₁ => ⟨rfl, ?_⟩)
  clear hF r₁ w₁ w₀
  by_cases h4i : it < 4
  · have hw := hlt h4i
    clear hlt
    refine TT.pas hP hA hx (mx := .cont true) rfl (by simp) fun st₃ hA₃ hI₃ hC₃ => ⟨_, _, _, 1, stepG_canSpin_ask rfl rfl (by k_ne) rfl Try.func118 n_spin b_spin x_spin f_spin (k := .i64) (n := it) (by simp [Act.eval]) h4i, rfl, rfl, rfl, MuEff.asked _, evs_nil, fun st₄ hA₄ hI₄ _ _ f₄ _ => ?_⟩
    generalize st₃.w.spins = sp
    clear hC₃ hA₃ hI₃ hA
    cases sp
    · have hR := hR.later f₄.1 f₄.2
      have hA : At s i { x with mx := .cont true, df := 1 } st₄ := hA₄
      clear hA₄
      refine TT.road hP hA (by simp [hx]) 140 fun w₀ hF => ?_
      walk_nrm
      repeat w_go road_rely
      refine Goes.stop (fun w₁ r₁ => ⟨rfl, ?_⟩)
      clear hF r₁ w₁ w₀
      refine TT.mu hP hA hx (mx := .cont true) rfl (by simp) fun st₁ hA₁ hI₁ hC₁ p1 p2 p3 p4 => ?_
      have hR₁ := hR.later p1 p2
      by_cases hit : enc st₁.γ.L st₁.γ.W st₁.γ.S st₁.γ.N = enc 1 1 0 N
      · obtain ⟨e1, e2, e3, e4⟩ := enc_inj hit hC₁.mu.bd ⟨by omega, by first | omega | exact hR.w1, by omega⟩
        refine ⟨_, _, _, .queued, 1, st₁.γ.L, st₁.γ.W - 1, 1, st₁.γ.N + 1, st₁.γ.tn, st₁.γ.th, stepG_cas_hit rfl rfl (by k_ne) rfl Try.func104 n_cas b_cas x_cas .i32 f_cas rfl rfl rfl (hit ▸ hC₁.gb.cell.2.1) (hC₁.gb.cell.2.2.2 4), rfl, df_rw _ _, by simp, by simp, hC₁.mu.starve hA₁.lo (hA₁.hi hI₁) (mm_at hA₁) e1, hC₁.gb.swap rfl (by simp [e1, e2, e4]), MuEff.set _ 4 _ (by omega), .inl (by simp [crd]), .inl (by omega), evs_rw 4 (.inl rfl), .inr (Nat.le_refl _), fun st₂ hA₂ hI₂ _ _ _ f₂ => ?_⟩
        have lt₂ : phi st₂.γ s < pr := by have := hR₁.le; simp only [crd] at f₂; omega
        clear hit hR₁ hC₁ hA₁ hI₁
        refine TT.road hP hA₂ (by simp [hx]) 60 fun w₀ hF => ?_
        walk_nrm
        w_but "code.seq" road_rely
        w_but "code.seq" road_rely
        w_go road_rely
        w_go road_rely
        repeat w_but "code.seq" road_rely
        refine Goes.stop (fun w₁ r₁ => ⟨rfl, ?_⟩)
        exact queueAt hP hx hT (fun μ' h => ih μ' (by omega)) hA₂ hI₂ lt₂ _ _ _ _ _ _ _ _ _ _ _ _ _ _ _ _ _ _ _ _ _ _ _ _ _ _ _ _ _ _ _ _ _ _ _ _ _ _ _ _ _ _ _ _ _ _ _ _ _ _ _ _ _ _ _ _ _ _ _ _ _ _ _ _ _ _ _ _ _ _ _ _ _ _ _ _ _ _ _ _ _ _ _ _ _ _ _ _ _ _ _ _ _ _ _ _ _ _ _ _ _ _ _ _ _ _ _ _ _ _ _ _ _ _ _ _ _ _ _ _ _ _ _ _ _ _ _ _ _ _ _ _ _ _ _ _
      · refine ⟨_, _, _, .cont true, 1, st₁.γ.L, st₁.γ.W, st₁.γ.S, st₁.γ.N, st₁.γ.tn, st₁.γ.th, stepG_cas_miss rfl rfl (by k_ne) rfl Try.func104 n_cas b_cas x_cas .i32 f_cas rfl rfl rfl hC₁.gb.cell.2.1 (hC₁.gb.cell.2.2.2 4) hit, rfl, df_r _ _, by simp, by simp, MuI.still hC₁ hA₁ rfl, hC₁.gb.stay rfl rfl, MuEff.refl _, .inr ⟨rfl, rfl, rfl, rfl, rfl⟩, .inl (Nat.le_refl _), evs_r 4 (by omega), .inr (Nat.le_refl _), fun st₂ hA₂ hI₂ _ w₂ _ f₂ => ?_⟩
        have hlt : phi st₂.γ s < pr := by
          refine Nat.lt_of_le_of_ne (by have := hR₁.le; omega) fun e => hit ?_
          obtain ⟨a, b, c, d⟩ := hR₁.eq (by omega)
          rw [a, b, c, d]
        clear hit hR₁ hC₁ hA₁ hI₁
        refine TT.road hP hA₂ (by simp [hx]) 60 fun w₀ hF => ?_
        walk_nrm
        repeat w_go road_rely
        refine Goes.stop (fun w₁ r₁ => ⟨rfl, ?_⟩)
        clear hF r₁ w₁ w₀
        refine TT.pas hP hA₂ hx (mx := .cont true) rfl (by simp) fun st₃ hA₃ hI₃ hC₃ => ⟨_, _, _, 1, stepG_loadQ rfl rfl (by k_ne) rfl rfl hC₃.gb.cell.2.1 q_slow, rfl, rfl, rfl, MuEff.refl _, evs_nil, fun st₄ hA₄ hI₄ _ w₄ f₄ _ => ?_⟩
        have hR₄ := Rd.now (hI₄.scene s hA₄.sc).c
        rw [w₄.1, w₄.2.1, w₄.2.2.1, w₄.2.2.2] at hR₄
        refine TT.road hP hA₄ (by simp [hx]) 60 fun w₀ hF => ?_
        walk_nrm
        repeat w_nl road_rely
        u_c stepG_inLoop road_rely hF
        refine Goes.stop (fun w₁ r₁ => ⟨rfl, ?_⟩)
        have hWS := hC₃.mu.atCT hA₃.lo (hA₃.hi hI₃) (mm_at hA₃)
        exact ih _ (by omega) _ it true true wst _ _ _ _ st₄ rfl h0 h4' hA₄ hI₄ hR₄ (fun _ => ⟨hWS.1, hWS.2.1⟩) (by simp) _ _ _ _ _ _ _ _ _ _ _ _ _ _ _ _ _ _ _ _ _ _ _ _ _ _ _ _ _ _ _ _ _ _ _ _ _ _ _ _ _ _ _ _ _ _ _ _ _ _ _ _ _ _ _ _ _ _ _ _ _ _ _ _ _ _ _ _ _ _ _ _ _ _ _ _ _ _ _ _ _ _ _ _ _ _ _ _ _ _ _ _ _ _ _ _ _ _ _ _ _ _ _ _ _ _ _ _ _ _ _ _ _ _ _ _ _ _ _ _ _ _ _ _ _ _ _ _ _ _ _ _ _
    · have hle : phi st₄.γ s ≤ pr := (hR.later f₄.1 f₄.2).le
      refine TT.road hP hA₄ (by simp [hx]) 80 fun w₀ hF => ?_
      walk_nrm
      repeat w_go road_rely
      u_in road_rely hF
      rw [stepG_entry_pure (.tuple #[]) rfl rfl (by k_ne) rfl Try.func119 n_do b_do x_do f_do]
      simp only [goes_go]
      refine ⟨by u_nil, ?_⟩
      walk_nrm
      repeat w_go road_rely
      refine Goes.stop (fun w₁ r₁ => ⟨rfl, ?_⟩)
      clear hF r₁ w₁ w₀
      refine TT.pas hP hA₄ hx (mx := .cont true) rfl (by simp) fun st₅ hA₅ hI₅ hC₅ => ⟨_, _, _, 1, stepG_loadQ rfl rfl (by k_ne) rfl rfl hC₅.gb.cell.2.1 q_slow, rfl, rfl, rfl, MuEff.refl _, evs_nil, fun st₆ hA₆ hI₆ _ w₆ f₆ _ => ?_⟩
      have hR₆ := Rd.now (hI₆.scene s hA₆.sc).c
      rw [w₆.1, w₆.2.1, w₆.2.2.1, w₆.2.2.2] at hR₆
      refine TT.road hP hA₆ (by simp [hx]) 60 fun w₀ hF => ?_
      walk_nrm
      repeat w_nl road_rely
      u_c stepG_inLoop road_rely hF
      refine Goes.stop (fun w₁ r₁ => ⟨rfl, ?_⟩)
      have hWS := hC₅.mu.atCT hA₅.lo (hA₅.hi hI₅) (mm_at hA₅)
      exact ih _ (by omega) _ (it + 1) true true wst _ _ _ _ st₆ rfl (by omega) (by omega) hA₆ hI₆ hR₆ (fun _ => ⟨hWS.1, hWS.2.1⟩) (by simp) _ _ _ _ _ _ _ _ _ _ _ _ _ _ _ _ _ _ _ _ _ _ _ _ _ _ _ _ _ _ _ _ _ _ _ _ _ _ _ _ _ _ _ _ _ _ _ _ _ _ _ _ _ _ _ _ _ _ _ _ _ _ _ _ _ _ _ _ _ _ _ _ _ _ _ _ _ _ _ _ _ _ _ _ _ _ _ _ _ _ _ _ _ _ _ _ _ _ _ _ _ _ _ _ _ _ _ _ _ _ _ _ _ _ _ _ _ _ _ _ _ _ _ _ _ _ _ _ _ _ _ _ _
  · clear hlt
    refine TT.pas hP hA hx (mx := .cont true) rfl (by simp) fun st₃ hA₃ hI₃ hC₃ => ⟨_, _, _, 1, stepG_canSpin_no rfl rfl (by k_ne) rfl Try.func118 n_spin b_spin x_spin f_spin (k := .i64) (n := it) (by simp [Act.eval]) (by omega), rfl, rfl, rfl, MuEff.refl _, evs_nil, fun st₄ hA₄ hI₄ _ _ f₄ _ => ?_⟩
    clear hC₃ hA₃ hI₃ hA
    have hR := hR.later f₄.1 f₄.2
    have hA : At s i { x with mx := .cont true, df := 1 } st₄ := hA₄
    clear hA₄
    refine TT.road hP hA (by simp [hx]) 140 fun w₀ hF => ?_
    walk_nrm
    repeat w_go road_rely
    refine Goes.stop (fun w₁ r₁ => ⟨rfl, ?_⟩)
    clear hF r₁ w₁ w₀
    refine TT.mu hP hA hx (mx := .cont true) rfl (by simp) fun st₁ hA₁ hI₁ hC₁ p1 p2 p3 p4 => ?_
    have hR₁ := hR.later p1 p2
    by_cases hit : enc st₁.γ.L st₁.γ.W st₁.γ.S st₁.γ.N = enc 1 1 0 N
    · obtain ⟨e1, e2, e3, e4⟩ := enc_inj hit hC₁.mu.bd ⟨by omega, by first | omega | exact hR.w1, by omega⟩
      refine ⟨_, _, _, .queued, 1, st₁.γ.L, st₁.γ.W - 1, 1, st₁.γ.N + 1, st₁.γ.tn, st₁.γ.th, stepG_cas_hit rfl rfl (by k_ne) rfl Try.func104 n_cas b_cas x_cas .i32 f_cas rfl rfl rfl (hit ▸ hC₁.gb.cell.2.1) (hC₁.gb.cell.2.2.2 4), rfl, df_rw _ _, by simp, by simp, hC₁.mu.starve hA₁.lo (hA₁.hi hI₁) (mm_at hA₁) e1, hC₁.gb.swap rfl (by simp [e1, e2, e4]), MuEff.set _ 4 _ (by omega), .inl (by simp [crd]), .inl (by omega), evs_rw 4 (.inl rfl), .inr (Nat.le_refl _), fun st₂ hA₂ hI₂ _ _ _ f₂ => ?_⟩
      have lt₂ : phi st₂.γ s < pr := by have := hR₁.le; simp only [crd] at f₂; omega
      clear hit hR₁ hC₁ hA₁ hI₁
      refine TT.road hP hA₂ (by simp [hx]) 60 fun w₀ hF => ?_
      walk_nrm
      w_but "code.seq" road_rely
      w_but "code.seq" road_rely
      w_go road_rely
      w_go road_rely
      repeat w_but "code.seq" road_rely
      refine Goes.stop (fun w₁ r₁ => ⟨rfl, ?_⟩)
      exact queueAt hP hx hT (fun μ' h => ih μ' (by omega)) hA₂ hI₂ lt₂ _ _ _ _ _ _ _ _ _ _ _ _ _ _ _ _ _ _ _ _ _ _ _ _ _ _ _ _ _ _ _ _ _ _ _ _ _ _ _ _ _ _ _ _ _ _ _ _ _ _ _ _ _ _ _ _ _ _ _ _ _ _ _ _ _ _ _ _ _ _ _ _ _ _ _ _ _ _ _ _ _ _ _ _ _ _ _ _ _ _ _ _ _ _ _ _ _ _ _ _ _ _ _ _ _ _ _ _ _ _ _ _ _ _ _ _ _ _ _ _ _ _ _ _ _ _ _ _ _ _ _ _ _ _ _ _
    · refine ⟨_, _, _, .cont true, 1, st₁.γ.L, st₁.γ.W, st₁.γ.S, st₁.γ.N, st₁.γ.tn, st₁.γ.th, stepG_cas_miss rfl rfl (by k_ne) rfl Try.func104 n_cas b_cas x_cas .i32 f_cas rfl rfl rfl hC₁.gb.cell.2.1 (hC₁.gb.cell.2.2.2 4) hit, rfl, df_r _ _, by simp, by simp, MuI.still hC₁ hA₁ rfl, hC₁.gb.stay rfl rfl, MuEff.refl _, .inr ⟨rfl, rfl, rfl, rfl, rfl⟩, .inl (Nat.le_refl _), evs_r 4 (by omega), .inr (Nat.le_refl _), fun st₂ hA₂ hI₂ _ w₂ _ f₂ => ?_⟩
      have hlt : phi st₂.γ s < pr := by
        refine Nat.lt_of_le_of_ne (by have := hR₁.le; omega) fun e => hit ?_
        obtain ⟨a, b, c, d⟩ := hR₁.eq (by omega)
        rw [a, b, c, d]
      clear hit hR₁ hC₁ hA₁ hI₁
      refine TT.road hP hA₂ (by simp [hx]) 60 fun w₀ hF => ?_
      walk_nrm
      repeat w_go road_rely
      refine Goes.stop (fun w₁ r₁ => ⟨rfl, ?_⟩)
      clear hF r₁ w₁ w₀
      refine TT.pas hP hA₂ hx (mx := .cont true) rfl (by simp) fun st₃ hA₃ hI₃ hC₃ => ⟨_, _, _, 1, stepG_loadQ rfl rfl (by k_ne) rfl rfl hC₃.gb.cell.2.1 q_slow, rfl, rfl, rfl, MuEff.refl _, evs_nil, fun st₄ hA₄ hI₄ _ w₄ f₄ _ => ?_⟩
      have hR₄ := Rd.now (hI₄.scene s hA₄.sc).c
      rw [w₄.1, w₄.2.1, w₄.2.2.1, w₄.2.2.2] at hR₄
      refine TT.road hP hA₄ (by simp [hx]) 60 fun w₀ hF => ?_
      walk_nrm
      repeat w_nl road_rely
      u_c stepG_inLoop road_rely hF
      refine Goes.stop (fun w₁ r₁ => ⟨rfl, ?_⟩)
      have hWS := hC₃.mu.atCT hA₃.lo (hA₃.hi hI₃) (mm_at hA₃)
      exact ih _ (by omega) _ it true true wst _ _ _ _ st₄ rfl h0 h4' hA₄ hI₄ hR₄ (fun _ => ⟨hWS.1, hWS.2.1⟩) (by simp) _ _ _ _ _ _ _ _ _ _ _ _ _ _ _ _ _ _ _ _ _ _ _ _ _ _ _ _ _ _ _ _ _ _ _ _ _ _ _ _ _ _ _ _ _ _ _ _ _ _ _ _ _ _ _ _ _ _ _ _ _ _ _ _ _ _ _ _ _ _ _ _ _ _ _ _ _ _ _ _ _ _ _ _ _ _ _ _ _ _ _ _ _ _ _ _ _ _ _ _ _ _ _ _ _ _ _ _ _ _ _ _ _ _ _ _ _ _ _ _ _ _ _ _ _ _ _ _ _ _ _ _ _
end
end Go.Proofs.Ytpfpokjaeffbjab.Cc
namespace Go.Proofs.Ytpfpokjaeffbjab.Cc
open Go.Conc Go.ConcN Go.ConcM Go.RowKit Go.Conc.Lib Go.ConcR.Gen
open Go.ConcR (KK wgBlock WgAt stA smA rd wr mk DC0)
set_option linter.unusedVariables false
set_option linter.unusedSimpArgs false
section
variable {q : Prm} (hP : q.P = Try.prog) {i : Nat} {s : Scene} {x : Wk} {Ch : Nat → Goroutine → St Gho → Prop}
variable {b₁ : Frame} {a₁ : Act} {ops₁ : Array Oper} {i₁ : Nat} {rest₁ : List Nat} {k₁ : List Item} {cs₁ : List Frame}
include hP
theorem headGo (hx : x.wg = .work) (hT : Aft q i Ch s x b₁ a₁ ops₁ i₁ rest₁ k₁ cs₁) : ∀ μ, HdP q i Ch s x b₁ a₁ ops₁ i₁ rest₁ k₁ cs₁ μ := by
  intro μ
  induction μ using Nat.strongRecOn with
  | _ μ ih =>
  intro pr it aw sv wst l w z N st hμ h0 h4 hA hI hR ha hs
  have hl := hR.l1
  have hz := hR.z1
  rcases (by omega : z = 0 ∨ z = 1) with rfl | rfl
  · rcases (by omega : l = 0 ∨ l = 1) with rfl | rfl
    · cases aw
      · obtain rfl := hs rfl
        exact free0 hP hx hT ih h0 h4 hμ hA hI hR
      · obtain ⟨rfl, -⟩ := ha rfl
        cases sv
        · exact free1_false hP hx hT ih h0 h4 hμ hA hR
        · exact free1_true hP hx hT ih h0 h4 hμ hA hR
    · cases aw
      · obtain rfl := hs rfl
        exact held_ff hP hx hT ih h0 h4 hμ hA hR
      · obtain ⟨rfl, -⟩ := ha rfl
        cases sv
        · exact held_tf hP hx hT ih h0 h4 hμ hA hR
        · exact held_tt hP hx hT ih h0 h4 hμ hA hR
  · cases aw
    · obtain rfl := hs rfl
      rcases (by omega : l = 0 ∨ l = 1) with rfl | rfl
      · exact starv0 hP hx hT ih h0 h4 hμ hA hR
      · exact starv1 hP hx hT ih h0 h4 hμ hA hR
    · have := (ha rfl).2
      omega
set_option maxRecDepth 100000 in
set_option maxHeartbeats 16000000 in
theorem slowGo (hx : x.wg = .work) (hT : Aft q i Ch s x b₁ a₁ ops₁ i₁ rest₁ k₁ cs₁) {st : St Gho} (hA : At s i { x with mx := .fresh, df := 1 } st) : TT (cfg q) i Ch (G ((base 105).at ⟨#[.pointer (some ⟨s.Gb, 4, none⟩), undef, undef, undef, undef, undef, undef, undef, undef, undef, undef, undef, undef, undef, undef, undef, undef, undef, undef, undef, undef, undef, undef, undef, undef, undef, undef, undef, undef, undef, undef, undef, undef, undef, undef, undef, undef, undef, undef, undef, undef, undef, undef, undef, undef, undef, undef, undef, undef, undef, undef, undef, undef, undef, undef, undef, undef, undef, undef, undef, undef, undef, undef, undef, undef, undef, undef, undef, undef, undef, undef, undef, undef, undef, undef, undef, undef, undef, undef, undef, undef, undef, undef, undef, undef, undef, undef, undef, undef, undef, undef, undef, undef, undef, undef, undef, undef, undef, undef, undef, undef, undef, undef, undef, undef, undef, undef, undef, undef, undef, undef, undef, undef, undef, undef, undef, undef, undef, undef, undef, undef, undef, undef, undef, undef, undef, undef, undef, undef, undef, undef, undef, undef, undef, undef, undef, undef, undef, undef], []⟩ [.code slowBody]) (b₁.at a₁ (.inRegion ops₁ (i₁ :: rest₁) :: k₁) :: cs₁)) st := by
  simp only [slowBody, Try.f105, Option.getD_some]
  refine TT.road hP hA (by simp [hx]) 80 fun w₀ hF => ?_
  repeat w_go road_rely
  refine Goes.stop (fun w₁ r₁ => ⟨rfl, ?_⟩)
  clear hF r₁ w₁ w₀
  refine TT.mu hP hA hx (mx := .fresh) rfl (by simp) fun st₅ hA₅ hI₅ hC₅ q1 q2 _ _ => ⟨_, _, _, .cont false, 1, st₅.γ.L, st₅.γ.W, st₅.γ.S, st₅.γ.N, st₅.γ.tn, st₅.γ.th, stepG_loadQ rfl rfl (by k_ne) rfl rfl hC₅.gb.cell.2.1 q_slow, rfl, rfl, by simp, by simp, hC₅.mu.slow hA₅.lo (hA₅.hi hI₅) (mm_at hA₅), hC₅.gb.stay rfl rfl, MuEff.refl _, .inl (by simp [crd]), .inl (Nat.le_refl _), evs_nil, .inr (Nat.le_refl _), fun st₆ hA₆ hI₆ _ w₆ _ f₆ => ?_⟩
  have hR₆ := Rd.now (hI₆.scene s hA₆.sc).c
  rw [w₆.1, w₆.2.1, w₆.2.2.1, w₆.2.2.2] at hR₆
  refine TT.road hP hA₆ (by simp [hx]) 60 fun w₀ hF => ?_
  walk_nrm
  repeat w_but "code.loop" road_rely
  u_c stepG_loop road_rely hF
  refine Goes.stop (fun w₁ r₁ => ⟨rfl, ?_⟩)
  exact headGo hP hx hT _ _ 0 false false 0 _ _ _ _ st₆ rfl (by omega) (by omega) hA₆ hI₆ hR₆ (by simp) (by simp) _ _ _ _ _ _ _ _ _ _ _ _ _ _ _ _ _ _ _ _ _ _ _ _ _ _ _ _ _ _ _ _ _ _ _ _ _ _ _ _ _ _ _ _ _ _ _ _ _ _ _ _ _ _ _ _ _ _ _ _ _ _ _ _ _ _ _ _ _ _ _ _ _ _ _ _ _ _ _ _ _ _ _ _ _ _ _ _ _ _ _ _ _ _ _ _ _ _ _ _ _ _ _ _ _ _ _ _ _ _ _ _ _ _ _ _ _ _ _ _ _ _ _ _ _ _ _ _ _ _ _ _ _
noncomputable def lockBody : Code := Try.f28.body.getD .skip
set_option maxRecDepth 100000 in
set_option maxHeartbeats 16000000 in
theorem lockGo (hx : x.wg = .work) (hT : Aft q i Ch s x b₁ a₁ ops₁ i₁ rest₁ k₁ cs₁) {st : St Gho} (hA : At s i { x with mx := .fresh, df := 0 } st) : TT (cfg q) i Ch (G ((base 28).at ⟨#[.pointer (some ⟨s.Gb, 4, none⟩), undef, undef, undef, undef, undef], []⟩ [.code lockBody]) (b₁.at a₁ (.inRegion ops₁ (i₁ :: rest₁) :: k₁) :: cs₁)) st := by
  simp only [lockBody, Try.f28, Option.getD_some]
  refine TT.road hP hA (by simp [hx]) 80 fun w₀ hF => ?_
  repeat w_go road_rely
  u_call Try.func71 n_ilock Try.f71 road_rely hF
  repeat w_go road_rely
  refine Goes.stop (fun w₁ r₁ => ⟨rfl, ?_⟩)
  clear hF r₁ w₁ w₀
  refine TT.pas hP hA hx (mx := .fresh) rfl (by simp) fun st₁ hA₁ hI₁ hC₁ => ⟨_, _, _, 1, stepG_mark0 .disable (by simp) rfl rfl (by k_ne) rfl Try.func80 n_disable b_disable x_disable f_disable, rfl, df_dis 0, rfl, MuEff.refl _, evs_mk .disable (by simp), fun st₂ hA₂ hI₂ _ w₂ f₂ _ => ?_⟩
  clear hC₁ hA₁ hI₁
  refine TT.road hP hA₂ (by simp [hx]) 80 fun w₀ hF => ?_
  walk_nrm
  repeat w_go road_rely
  refine Goes.stop (fun w₁ r₁ => ⟨rfl, ?_⟩)
  clear hF r₁ w₁ w₀
  refine TT.mu hP hA₂ hx (mx := .fresh) rfl (by simp) fun st₃ hA₃ hI₃ hC₃ p1 p2 p3 p4 => ?_
  by_cases hit : enc st₃.γ.L st₃.γ.W st₃.γ.S st₃.γ.N = 0
  · obtain ⟨e1, e2, e3, e4⟩ := enc_inj (hit.trans (by simp [enc] : (0 : Int) = enc 0 0 0 0)) hC₃.mu.bd (by omega)
    refine ⟨_, _, _, .own .chk, 1, 1, 0, 0, 0, st₃.γ.tn, st₃.γ.th, stepG_cas_hit rfl rfl (by k_ne) rfl Try.func104 n_cas b_cas x_cas .i32 f_cas rfl rfl rfl (hit ▸ hC₃.gb.cell.2.1) (hC₃.gb.cell.2.2.2 4), rfl, df_rw _ _, by simp, by simp, hC₃.mu.fast hA₃.lo (hA₃.hi hI₃) (mm_at hA₃) ⟨e1, e2, e3, e4⟩, hC₃.gb.swap rfl (by simp [enc]), MuEff.set _ 4 _ (by omega), .inl (by simp [crd]), .inl (by omega), evs_rw 4 (.inl rfl), .inr (Nat.le_refl _), fun st₄ hA₄ hI₄ _ _ _ _ => ?_⟩
    clear hC₃ hA₃ hI₃ hit e1 e2 e3 e4 p1 p2 p3 p4
    refine TT.road hP hA₄ (by simp [hx]) 80 fun w₀ hF => ?_
    walk_nrm
    repeat w_go road_rely
    refine Goes.stop (fun w₁ r₁ => ⟨rfl, ?_⟩)
    clear hF r₁ w₁ w₀
    refine TT.pas hP hA₄ hx (mx := .own .chk) rfl (by simp) fun st₅ hA₅ hI₅ hC₅ => ⟨_, _, _, 0, stepG_mark0 .enable (by simp) rfl rfl (by k_ne) rfl Try.func81 n_enable b_enable x_enable f_enable, rfl, df_en 0, rfl, MuEff.refl _, evs_mk .enable (by simp), fun st₆ hA₆ hI₆ _ w₆ f₆ _ => ?_⟩
    clear hC₅ hA₅ hI₅
    refine TT.road hP hA₆ (by simp [hx]) 80 fun w₀ hF => ?_
    walk_nrm
    repeat w_go road_rely
    m_convG Try.prog Try.underlying157 u_pim z_im hF.choose_spec road_rely hF
    refine Goes.stop (fun w₁ r₁ => ⟨rfl, ?_⟩)
    clear hF r₁ w₁ w₀
    refine TT.pas hP hA₆ hx (mx := .own .chk) rfl (by simp) fun st₇ hA₇ hI₇ hC₇ => ⟨_, _, _, 0, stepG_markAt .acquire (by simp) rfl rfl (by k_ne) rfl Try.func94 n_acq b_acq x_acq f_acq (by simp [Act.eval]; rfl), rfl, df_at _ _ (by simp), rfl, MuEff.refl _, evs_mk _ (by simp), fun st₈ hA₈ hI₈ _ w₈ f₈ _ => ?_⟩
    clear hC₇ hA₇ hI₇
    refine TT.road hP hA₈ (by simp [hx]) 80 fun w₀ hF => ?_
    walk_nrm
    repeat w_go road_rely
    u_leave0 Try.func71 road_rely hF
    repeat w_go road_rely
    u_leave0 Try.func28 road_rely hF
    refine Goes.stop (fun w₁ r₁ => ⟨rfl, ?_⟩)
    exact hT st₈ hA₈ hI₈
  · refine ⟨_, _, _, .fresh, 1, st₃.γ.L, st₃.γ.W, st₃.γ.S, st₃.γ.N, st₃.γ.tn, st₃.γ.th, stepG_cas_miss rfl rfl (by k_ne) rfl Try.func104 n_cas b_cas x_cas .i32 f_cas rfl rfl rfl hC₃.gb.cell.2.1 (hC₃.gb.cell.2.2.2 4) hit, rfl, df_r _ _, by simp, by simp, MuI.still hC₃ hA₃ rfl, hC₃.gb.stay rfl rfl, MuEff.refl _, .inr ⟨rfl, rfl, rfl, rfl, rfl⟩, .inl (Nat.le_refl _), evs_r 4 (by omega), .inr (Nat.le_refl _), fun st₄ hA₄ hI₄ _ w₄ _ f₄ => ?_⟩
    clear hC₃ hA₃ hI₃ hit p1 p2 p3 p4
    refine TT.road hP hA₄ (by simp [hx]) 80 fun w₀ hF => ?_
    walk_nrm
    repeat w_go road_rely
    u_call Try.func105 n_slow Try.f105 road_rely hF
    refine Goes.stop (fun w₁ r₁ => ⟨rfl, ?_⟩)
    clear hF r₁ w₁ w₀
    refine slowGo hP hx ?_ hA₄
    intro st₅ hA₅ hI₅
    walk_nrm
    refine TT.road hP hA₅ (by simp [hx]) 80 fun w₀ hF => ?_
    repeat w_go road_rely
    u_leave0 Try.func71 road_rely hF
    repeat w_go road_rely
    u_leave0 Try.func28 road_rely hF
    refine Goes.stop (fun w₁ r₁ => ⟨rfl, ?_⟩)
    exact hT st₅ hA₅ hI₅
end
end Go.Proofs.Ytpfpokjaeffbjab.Cc
namespace Go.Proofs.Ytpfpokjaeffbjab.Cc
open Go.Conc Go.ConcN Go.ConcM Go.RowKit Go.Conc.Lib Go.ConcR.Gen
open Go.ConcR (KK wgBlock WgAt stA smA rd wr mk DC0)
set_option linter.unusedVariables false
set_option linter.unusedSimpArgs false
section
variable {q : Prm} (hP : q.P = Try.prog) {i : Nat} {s : Scene} {x : Wk} {Ch : Nat → Goroutine → St Gho → Prop}
variable {b₁ : Frame} {a₁ : Act} {ops₁ : Array Oper} {i₁ : Nat} {rest₁ : List Nat} {k₁ : List Item} {cs₁ : List Frame}
structure Hd (p : Prop) : Prop where
  un : p
noncomputable def ulBody : Code := Try.f107.body.getD .skip
noncomputable def ulLoop : Code := (fLoop ((fIf 12 ulBody).getD .skip)).getD .skip
def AftU (q : Prm) (i : Nat) (Ch : Nat → Goroutine → St Gho → Prop) (s : Scene) (x : Wk) (b₁ : Frame) (a₁ : Act) (ops₁ : Array Oper) (i₁ : Nat) (rest₁ : List Nat) (k₁ : List Item) (cs₁ : List Frame) : Prop :=
  ∀ (mx : MX) (st : St Gho), (mx = .out ∨ ∃ old : Int, mx = .ul old ∧ ∀ N' : Nat, 1 ≤ N' → old ≠ (8 * N' : Nat)) → At s i { x with mx := mx, df := 1 } st → TT (cfg q) i Ch (G (b₁.at (a₁.put ((ops₁[i₁]?).bind (·.dst)) (.tuple #[])) (.inRegion ops₁ rest₁ :: k₁)) cs₁) st
include hP
set_option maxRecDepth 100000 in
set_option maxHeartbeats 16000000 in
theorem ulHead (hx : x.wg = .work) (hT : AftU q i Ch s x b₁ a₁ ops₁ i₁ rest₁ k₁ cs₁) : ∀ (pr l w z N : Nat) (st : St Gho), At s i { x with mx := .ul (enc l w z N), df := 1 } st → Rd s st pr l w z N → ∀ j1 j2 j3 j5 j6 j7 j8 j9 j10 j11 j12 j13 j14 j15 j16 j17 j18 j19 j20 j21 j22 j23 j24 j25 j26 j27 j28 j29 j30 j31 j32 j33 j34 j35 j36 j37 j38 j39 j40 j41 j42 : Value, ∀ old : Int, old = enc l w z N → TT (cfg q) i Ch (G ((base 107).at ⟨#[.pointer (some ⟨s.Gb, 4, none⟩), j1, j2, j3, .int .i32 old, j5, j6, j7, j8, j9, j10, j11, j12, j13, j14, j15, j16, j17, j18, j19, j20, j21, j22, j23, j24, j25, j26, j27, j28, j29, j30, j31, j32, j33, j34, j35, j36, j37, j38, j39, j40, j41, j42], []⟩ [.code ulLoop, .inLoop ulLoop, .inBlock 0]) (b₁.at a₁ (.inRegion ops₁ (i₁ :: rest₁) :: k₁) :: cs₁)) st := by
  intro pr
  induction pr using Nat.strongRecOn with
  | _ pr ih =>
  intro l w z N st hA hR j1 j2 j3 j5 j6 j7 j8 j9 j10 j11 j12 j13 j14 j15 j16 j17 j18 j19 j20 j21 j22 j23 j24 j25 j26 j27 j28 j29 j30 j31 j32 j33 j34 j35 j36 j37 j38 j39 j40 j41 j42 old ho
  have b1 := hR.l1
  have b2 := hR.w1
  have b3 := hR.z1
  have b4 := hR.n9
  have h7 : bits BinOp.and IntKind.i32 old 7 = ((l + 2 * w + 4 * z : Nat) : Int) := by rw [ho]; exact e_and7 _ _ _ _ b1 b2 b3 (by omega)
  obtain ⟨nn, hd, hnn⟩ : ∃ nn : Int, old / 8 = nn ∧ nn = N := ⟨_, by rw [ho]; exact e_div _ _ _ _ b1 b2 b3, rfl⟩
  by_cases h0 : N = 0
  ·
    obtain rfl : nn = 0 := by omega
    replace ho := Hd.mk ho
    clear h7 hnn
    simp only [ulLoop, ulBody, fLoop, fIf, Try.f107, Option.getD_some, Nat.reduceEqDiff, ↓reduceIte]
    refine TT.road hP hA (by simp [hx]) 60 fun w₀ hF => ?_
    repeat w_go road_rely
    u_leave0 Try.func107 road_rely hF
    refine Goes.stop (fun w₁ r₁ => ⟨rfl, ?_⟩)
    exact hT _ st (.inr ⟨_, rfl, fun N' h => by unfold enc; omega⟩) hA
  have hz0 : (nn == 0) = false := by simp; omega
  by_cases h8 : l + 2 * w + 4 * z = 0
  · have h7 : bits BinOp.and IntKind.i32 old 7 = 0 := by rw [h7, h8]; rfl
    obtain ⟨rfl, rfl, rfl⟩ : l = 0 ∧ w = 0 ∧ z = 0 := by omega
    have h9 : IntKind.wrap IntKind.i32 (old - 8) = enc 0 0 0 (N - 1) := by rw [ho]; exact e_sub8 _ _ _ _ b1 b2 b3 (by omega) (by omega)
    have h2 : bits BinOp.or IntKind.i32 (enc 0 0 0 (N - 1)) 2 = enc 0 1 0 (N - 1) := e_or2 _ _ _ _ b1 b2 b3 (by omega)
    replace ho := Hd.mk ho
    clear hnn
    simp only [ulLoop, ulBody, fLoop, fIf, Try.f107, Option.getD_some, Nat.reduceEqDiff, ↓reduceIte]
    refine TT.road hP hA (by simp [hx]) 80 fun w₀ hF => ?_
    repeat w_go road_rely
    refine Goes.stop (fun w₁ r₁ => ⟨rfl, ?_⟩)
    clear hF r₁ w₁ w₀
    refine TT.mu hP hA hx (mx := .ul (enc 0 0 0 N)) rfl (by simp) fun st₁ hA₁ hI₁ hC₁ p1 p2 p3 p4 => ?_
    have hR₁ := hR.later p1 p2
    replace ho := ho.un
    by_cases hit : enc st₁.γ.L st₁.γ.W st₁.γ.S st₁.γ.N = old
    · obtain ⟨e1, e2, e3, e4⟩ := enc_inj (hit.trans ho) hC₁.mu.bd ⟨by omega, by omega, by omega⟩
      refine ⟨_, _, _, .rel, 1, st₁.γ.L, 1, st₁.γ.S, st₁.γ.N - 1, st₁.γ.tn, st₁.γ.th, stepG_cas_hit rfl rfl (by k_ne) rfl Try.func104 n_cas b_cas x_cas .i32 f_cas rfl rfl rfl (hit ▸ hC₁.gb.cell.2.1) (hC₁.gb.cell.2.2.2 4), rfl, df_rw _ _, by simp, by simp, hC₁.mu.grab hA₁.lo (hA₁.hi hI₁) (mm_at hA₁) ⟨e1, e2, e3, by omega⟩, hC₁.gb.swap rfl (by rw [e1, e3, e4]), MuEff.set _ 4 _ (by omega), .inl (by simp [crd]), .inr fun j _ j1 j2 => hC₁.mu.noWH e3 j1 j2, evs_rw 4 (.inl rfl), .inr (Nat.le_refl _), fun st₂ hA₂ hI₂ _ _ _ f₂ => ?_⟩
      clear hit hR₁ hC₁ hA₁ hI₁ ho e1 e2 e3 e4
      refine TT.road hP hA₂ (by simp [hx]) 80 fun w₀ hF => ?_
      walk_nrm
      repeat w_go road_rely
      refine Goes.stop (fun w₁ r₁ => ⟨rfl, ?_⟩)
      clear hF r₁ w₁ w₀
      refine TT.mu hP hA₂ hx (mx := .rel) rfl (by simp) fun st₅ hA₅ hI₅ hC₅ q1 q2 q3 q4 => ?_
      have ht := (hC₅.mu.nine hC₅.n0.2.2.2).2
      refine ⟨_, _, _, .out, 1, st₅.γ.L, st₅.γ.W, st₅.γ.S, st₅.γ.N, st₅.γ.tn + 1, st₅.γ.th, stepG_semrelease rfl rfl (by k_ne) rfl Try.func124 n_srel b_srel x_srel f_srel (by simp [Act.eval]) hC₅.gb.cell.2.2.1 (hC₅.gb.cell.2.2.2 5), rfl, df_sem _ _, by simp, by simp, hC₅.mu.raiseN hA₅.lo (hA₅.hi hI₅) (mm_at hA₅), hC₅.gb.sema (by rw [IntKind.wrap_u32]; omega), MuEff.set _ 5 _ (by omega), .inl (by simp [crd]; omega), .inl (Nat.le_refl _), evs_sem, .inl (mayWake_entry rfl rfl Try.func124 b_srel), fun st₆ hA₆ hI₆ _ _ _ _ => ?_⟩
      clear hC₅ hA₅ hI₅ q1 q2 q3 q4 ht
      refine TT.road hP hA₆ (by simp [hx]) 80 fun w₀ hF => ?_
      walk_nrm
      repeat w_go road_rely
      u_leave0 Try.func107 road_rely hF
      refine Goes.stop (fun w₁ r₁ => ⟨rfl, ?_⟩)
      exact hT _ st₆ (.inl rfl) hA₆
    · refine ⟨_, _, _, .ul (enc 0 0 0 N), 1, st₁.γ.L, st₁.γ.W, st₁.γ.S, st₁.γ.N, st₁.γ.tn, st₁.γ.th, stepG_cas_miss rfl rfl (by k_ne) rfl Try.func104 n_cas b_cas x_cas .i32 f_cas rfl rfl rfl hC₁.gb.cell.2.1 (hC₁.gb.cell.2.2.2 4) hit, rfl, df_r _ _, by simp, by simp, MuI.still hC₁ hA₁ rfl, hC₁.gb.stay rfl rfl, MuEff.refl _, .inr ⟨rfl, rfl, rfl, rfl, rfl⟩, .inl (Nat.le_refl _), evs_r 4 (by omega), .inr (Nat.le_refl _), fun st₂ hA₂ hI₂ _ w₂ _ f₂ => ?_⟩
      have hlt : phi st₂.γ s < pr := by
        refine Nat.lt_of_le_of_ne (by have := hR₁.le; omega) fun e => hit ?_
        obtain ⟨a, b, c, d⟩ := hR₁.eq (by omega)
        rw [a, b, c, d, ho]
      clear hit hR₁ hC₁ hA₁ hI₁ ho
      refine TT.road hP hA₂ (by simp [hx]) 80 fun w₀ hF => ?_
      walk_nrm
      repeat w_go road_rely
      refine Goes.stop (fun w₁ r₁ => ⟨rfl, ?_⟩)
      clear hF r₁ w₁ w₀
      refine TT.mu hP hA₂ hx (mx := .ul (enc 0 0 0 N)) rfl (by simp) fun st₅ hA₅ hI₅ hC₅ q1 q2 _ _ => ⟨_, _, _, .ul (enc st₅.γ.L st₅.γ.W st₅.γ.S st₅.γ.N), 1, st₅.γ.L, st₅.γ.W, st₅.γ.S, st₅.γ.N, st₅.γ.tn, st₅.γ.th, stepG_loadQ rfl rfl (by k_ne) rfl rfl hC₅.gb.cell.2.1 q_uslow, rfl, rfl, by simp, by simp, hC₅.mu.look hA₅.lo (hA₅.hi hI₅) (mm_at hA₅), hC₅.gb.stay rfl rfl, MuEff.refl _, .inr ⟨by simp [crd], rfl, rfl, rfl, rfl⟩, .inl (Nat.le_refl _), evs_nil, .inr (Nat.le_refl _), fun st₆ hA₆ hI₆ _ w₆ _ f₆ => ?_⟩
      have hR₆ := Rd.now (hI₆.scene s hA₆.sc).c
      rw [w₆.1, w₆.2.1, w₆.2.2.1, w₆.2.2.2] at hR₆
      have f₆ : phi st₆.γ s = phi st₅.γ s := by simp only [crd] at f₆; omega
      refine TT.road hP hA₆ (by simp [hx]) 60 fun w₀ hF => ?_
      walk_nrm
      repeat w_nl road_rely
      u_c stepG_inLoop road_rely hF
      refine Goes.stop (fun w₁ r₁ => ⟨rfl, ?_⟩)
      exact ih _ (by omega) _ _ _ _ st₆ hA₆ hR₆ _ _ _ _ _ _ _ _ _ _ _ _ _ _ _ _ _ _ _ _ _ _ _ _ _ _ _ _ _ _ _ _ _ _ _ _ _ _ _ _ _ _ rfl
  ·
    have h7' : (bits BinOp.and IntKind.i32 old 7 != 0) = true := by rw [h7]; simp; omega
    replace ho := Hd.mk ho
    clear h7 hnn
    simp only [ulLoop, ulBody, fLoop, fIf, Try.f107, Option.getD_some, Nat.reduceEqDiff, ↓reduceIte]
    refine TT.road hP hA (by simp [hx]) 60 fun w₀ hF => ?_
    repeat w_go road_rely
    u_leave0 Try.func107 road_rely hF
    refine Goes.stop (fun w₁ r₁ => ⟨rfl, ?_⟩)
    exact hT _ st (.inr ⟨_, rfl, fun N' h => by unfold enc; omega⟩) hA
end
end Go.Proofs.Ytpfpokjaeffbjab.Cc
namespace Go.Proofs.Ytpfpokjaeffbjab.Cc
open Go.Conc Go.ConcN Go.ConcM Go.RowKit Go.Conc.Lib Go.ConcR.Gen
open Go.ConcR (KK wgBlock WgAt stA smA rd wr mk DC0)
set_option linter.unusedVariables false
set_option linter.unusedSimpArgs false
section
variable {q : Prm} (hP : q.P = Try.prog) {i : Nat} {s : Scene} {x : Wk} {Ch : Nat → Goroutine → St Gho → Prop}
variable {b₁ : Frame} {a₁ : Act} {ops₁ : Array Oper} {i₁ : Nat} {rest₁ : List Nat} {k₁ : List Item} {cs₁ : List Frame}
def AftX (q : Prm) (i : Nat) (Ch : Nat → Goroutine → St Gho → Prop) (s : Scene) (x : Wk) (b₁ : Frame) (a₁ : Act) (ops₁ : Array Oper) (i₁ : Nat) (rest₁ : List Nat) (k₁ : List Item) (cs₁ : List Frame) : Prop :=
  ∀ st : St Gho, At s i { x with mx := .out, df := 0 } st → Inv q st → TT (cfg q) i Ch (G (b₁.at (a₁.put ((ops₁[i₁]?).bind (·.dst)) (.tuple #[])) (.inRegion ops₁ rest₁ :: k₁)) cs₁) st
noncomputable def iulBody : Code := Try.f72.body.getD .skip
include hP
set_option maxRecDepth 100000 in
set_option maxHeartbeats 16000000 in
theorem iunlockGo (hx : x.wg = .work) (hT : AftX q i Ch s x b₁ a₁ ops₁ i₁ rest₁ k₁ cs₁) {o : OwnS} (ho : o ≠ .work) {st : St Gho} (hA : At s i { x with mx := .own o, df := 0 } st) : TT (cfg q) i Ch (G ((base 72).at ⟨#[.pointer (some ⟨s.Gb, 4, none⟩), undef, undef, undef, undef, undef, undef, undef, undef, undef, undef, undef, undef, undef, undef, undef, undef, undef, undef, undef, undef], []⟩ [.code iulBody]) (b₁.at a₁ (.inRegion ops₁ (i₁ :: rest₁) :: k₁) :: cs₁)) st := by
  have ho : MX.own o ≠ .own .work := by simpa using ho
  simp only [iulBody, Try.f72, Option.getD_some]
  refine TT.road hP hA (by simp [hx]) 80 fun w₀ hF => ?_
  repeat w_go road_rely
  refine Goes.stop (fun w₁ r₁ => ⟨rfl, ?_⟩)
  clear hF r₁ w₁ w₀
  refine TT.pas hP hA hx (mx := .own o) rfl ho fun st₁ hA₁ hI₁ hC₁ => ⟨_, _, _, 0, stepG_loadQ rfl rfl (by k_ne) rfl rfl hC₁.gb.cell.2.1 q_iunlock, rfl, rfl, rfl, MuEff.refl _, evs_nil, fun st₂ hA₂ hI₂ _ w₂ f₂ _ => ?_⟩
  clear hC₁ hA₁ hI₁
  refine TT.road hP hA₂ (by simp [hx]) 80 fun w₀ hF => ?_
  walk_nrm
  repeat w_go road_rely
  m_convG Try.prog Try.underlying157 u_pim z_im hF.choose_spec road_rely hF
  refine Goes.stop (fun w₁ r₁ => ⟨rfl, ?_⟩)
  clear hF r₁ w₁ w₀
  refine TT.pas hP hA₂ hx (mx := .own o) rfl ho fun st₃ hA₃ hI₃ hC₃ => ⟨_, _, _, 0, stepG_markAt .releaseMerge (by simp) rfl rfl (by k_ne) rfl Try.func79 n_rel b_rel x_rel f_rel (by simp [Act.eval]; rfl), rfl, df_at _ _ (by simp), rfl, MuEff.refl _, evs_mk _ (by simp), fun st₄ hA₄ hI₄ _ w₄ f₄ _ => ?_⟩
  clear hC₃ hA₃ hI₃
  refine TT.road hP hA₄ (by simp [hx]) 80 fun w₀ hF => ?_
  walk_nrm
  repeat w_go road_rely
  refine Goes.stop (fun w₁ r₁ => ⟨rfl, ?_⟩)
  clear hF r₁ w₁ w₀
  refine TT.pas hP hA₄ hx (mx := .own o) rfl ho fun st₅ hA₅ hI₅ hC₅ => ⟨_, _, _, 1, stepG_mark0 .disable (by simp) rfl rfl (by k_ne) rfl Try.func80 n_disable b_disable x_disable f_disable, rfl, df_dis 0, rfl, MuEff.refl _, evs_mk .disable (by simp), fun st₆ hA₆ hI₆ _ w₆ f₆ _ => ?_⟩
  clear hC₅ hA₅ hI₅
  refine TT.road hP hA₆ (by simp [hx]) 80 fun w₀ hF => ?_
  walk_nrm
  repeat w_go road_rely
  refine Goes.stop (fun w₁ r₁ => ⟨rfl, ?_⟩)
  clear hF r₁ w₁ w₀
  refine TT.mu hP hA₆ hx (mx := .own o) rfl ho fun st₇ hA₇ hI₇ hC₇ p1 p2 p3 p4 => ?_
  have e1 := hC₇.mu.atOwn hA₇.lo (hA₇.hi hI₇) (mm_at hA₇)
  have hn := (hC₇.mu.nine hC₇.n0.2.2.2).1
  have hb := hC₇.mu.bd
  have hv : IntKind.wrap .i32 (enc st₇.γ.L st₇.γ.W st₇.γ.S st₇.γ.N + -1) = enc 0 st₇.γ.W st₇.γ.S st₇.γ.N := by rw [e1, IntKind.wrap_i32]; unfold enc; omega
  by_cases hS : st₇.γ.S = 1
  ·
    refine ⟨_, _, _, .unl, 1, 0, st₇.γ.W, st₇.γ.S, st₇.γ.N, st₇.γ.tn, st₇.γ.th, stepG_add_atomic rfl rfl (by k_ne) rfl Try.func106 n_add b_add x_add .i32 f_add rfl rfl hC₇.gb.cell.2.1 (hC₇.gb.cell.2.2.2 4), rfl, df_rw _ _, by simp, by simp, hC₇.mu.letGoH hA₇.lo (hA₇.hi hI₇) (mm_at hA₇) hS, hC₇.gb.swap rfl hv, MuEff.set _ 4 _ (by omega), .inl (by simp [crd]), .inl (Nat.le_refl _), evs_rw 4 (.inl rfl), .inr (Nat.le_refl _), fun st₈ hA₈ hI₈ _ w₈ _ f₈ => ?_⟩
    rw [hv]
    rw [hS]
    have hw := hb.2.1
    generalize st₇.γ.W = W₀ at hw ⊢
    generalize st₇.γ.N = N₀ at hn ⊢
    have hne : (enc 0 W₀ 1 N₀ != 0) = true := by simp [enc]; omega
    have h1 : IntKind.wrap IntKind.i32 (enc 0 W₀ 1 N₀ + 1) = enc 1 W₀ 1 N₀ := by rw [IntKind.wrap_i32]; unfold enc; omega
    have h11 : bits BinOp.and IntKind.i32 (enc 1 W₀ 1 N₀) 1 = 1 := e_and1 1 W₀ 1 N₀ (by omega) hw (by omega) (by omega)
    have h4 : bits BinOp.and IntKind.i32 (enc 0 W₀ 1 N₀) 4 = 4 := e_and4 0 W₀ 1 N₀ (by omega) hw (by omega) (by omega)
    clear hv e1 hS hb hC₇ hA₇ hI₇ p1 p2 p3 p4 f₈ w₈
    refine TT.road hP hA₈ (by simp [hx]) 80 fun w₀ hF => ?_
    walk_nrm
    repeat w_go road_rely
    u_call Try.func107 n_uslow Try.f107 road_rely hF
    repeat w_go road_rely
    refine Goes.stop (fun w₁ r₁ => ⟨rfl, ?_⟩)
    clear hF r₁ w₁ w₀
    refine TT.mu hP hA₈ hx (mx := .unl) rfl (by simp) fun stA hAA hIA hCA q1 q2 q3 q4 => ?_
    have ht := (hCA.mu.nine hCA.n0.2.2.2).2
    refine ⟨_, _, _, .out, 1, stA.γ.L, stA.γ.W, stA.γ.S, stA.γ.N, stA.γ.tn, stA.γ.th + 1, stepG_semrelease rfl rfl (by k_ne) rfl Try.func124 n_srel b_srel x_srel f_srel (by simp [Act.eval]) hCA.gb.cell.2.2.1 (hCA.gb.cell.2.2.2 5), rfl, df_sem _ _, by simp, by simp, hCA.mu.raiseH hAA.lo (hAA.hi hIA) (mm_at hAA), hCA.gb.sema (by rw [IntKind.wrap_u32]; omega), MuEff.set _ 5 _ (by omega), .inl (by simp [crd]; omega), .inl (Nat.le_refl _), evs_sem, .inl (mayWake_entry rfl rfl Try.func124 b_srel), fun st₉ hA₉ hI₉ _ _ _ _ => ?_⟩
    clear hCA hAA hIA q1 q2 q3 q4 ht
    refine TT.road hP hA₉ (by simp [hx]) 80 fun w₀ hF => ?_
    walk_nrm
    repeat w_go road_rely
    u_leave0 Try.func107 road_rely hF
    repeat w_go road_rely
    refine Goes.stop (fun w₁ r₁ => ⟨rfl, ?_⟩)
    clear hF r₁ w₁ w₀
    refine TT.pas hP hA₉ hx (mx := .out) rfl (by simp) fun stB hAB hIB hCB => ⟨_, _, _, 0, stepG_mark0 .enable (by simp) rfl rfl (by k_ne) rfl Try.func81 n_enable b_enable x_enable f_enable, rfl, df_en 0, rfl, MuEff.refl _, evs_mk .enable (by simp), fun stC hAC hIC _ wC fC _ => ?_⟩
    clear hCB hAB hIB
    refine TT.road hP hAC (by simp [hx]) 80 fun w₀ hF => ?_
    walk_nrm
    repeat w_go road_rely
    u_leave0 Try.func72 road_rely hF
    refine Goes.stop (fun w₁ r₁ => ⟨rfl, ?_⟩)
    exact hT stC hAC hIC
  have hS : st₇.γ.S = 0 := by have := hb.2.2; omega
  by_cases h0 : st₇.γ.W = 0 ∧ st₇.γ.N = 0
  ·
    refine ⟨_, _, _, .out, 1, 0, st₇.γ.W, st₇.γ.S, st₇.γ.N, st₇.γ.tn, st₇.γ.th, stepG_add_atomic rfl rfl (by k_ne) rfl Try.func106 n_add b_add x_add .i32 f_add rfl rfl hC₇.gb.cell.2.1 (hC₇.gb.cell.2.2.2 4), rfl, df_rw _ _, by simp, by simp, hC₇.mu.letGo hA₇.lo (hA₇.hi hI₇) (mm_at hA₇) ⟨h0.1, hS, h0.2⟩, hC₇.gb.swap rfl hv, MuEff.set _ 4 _ (by omega), .inl (by simp [crd]), .inl (Nat.le_refl _), evs_rw 4 (.inl rfl), .inr (Nat.le_refl _), fun st₈ hA₈ hI₈ _ w₈ _ f₈ => ?_⟩
    rw [hv]
    have he : enc 0 st₇.γ.W st₇.γ.S st₇.γ.N = 0 := by rw [hS, h0.1, h0.2]; rfl
    rw [he]
    clear hv e1 hS hb hC₇ hA₇ hI₇ p1 p2 p3 p4 f₈ w₈ h0 he hn
    refine TT.road hP hA₈ (by simp [hx]) 80 fun w₀ hF => ?_
    walk_nrm
    repeat w_go road_rely
    refine Goes.stop (fun w₁ r₁ => ⟨rfl, ?_⟩)
    clear hF r₁ w₁ w₀
    refine TT.pas hP hA₈ hx (mx := .out) rfl (by simp) fun stB hAB hIB hCB => ⟨_, _, _, 0, stepG_mark0 .enable (by simp) rfl rfl (by k_ne) rfl Try.func81 n_enable b_enable x_enable f_enable, rfl, df_en 0, rfl, MuEff.refl _, evs_mk .enable (by simp), fun stC hAC hIC _ wC fC _ => ?_⟩
    clear hCB hAB hIB
    refine TT.road hP hAC (by simp [hx]) 80 fun w₀ hF => ?_
    walk_nrm
    repeat w_go road_rely
    u_leave0 Try.func72 road_rely hF
    refine Goes.stop (fun w₁ r₁ => ⟨rfl, ?_⟩)
    exact hT stC hAC hIC
  ·
    have hul : enc 0 st₇.γ.W 0 st₇.γ.N = ((2 * st₇.γ.W + 8 * st₇.γ.N : Nat) : Int) := by unfold enc; omega
    refine ⟨_, _, _, .ul (enc 0 st₇.γ.W 0 st₇.γ.N), 1, 0, st₇.γ.W, st₇.γ.S, st₇.γ.N, st₇.γ.tn, st₇.γ.th, stepG_add_atomic rfl rfl (by k_ne) rfl Try.func106 n_add b_add x_add .i32 f_add rfl rfl hC₇.gb.cell.2.1 (hC₇.gb.cell.2.2.2 4), rfl, df_rw _ _, by simp, by simp, by rw [hul]; exact hC₇.mu.letGoN hA₇.lo (hA₇.hi hI₇) (mm_at hA₇) hS, hC₇.gb.swap rfl hv, MuEff.set _ 4 _ (by omega), .inl (by simp [crd]), .inl (Nat.le_refl _), evs_rw 4 (.inl rfl), .inr (Nat.le_refl _), fun st₈ hA₈ hI₈ _ w₈ _ f₈ => ?_⟩
    rw [hv]
    rw [hS]
    have hR₈ := Rd.now (hI₈.scene s hA₈.sc).c
    rw [w₈.1, w₈.2.1, w₈.2.2.1, w₈.2.2.2, hS] at hR₈
    have hw := hb.2.1
    have hne : (enc 0 st₇.γ.W 0 st₇.γ.N != 0) = true := by simp [enc]; omega
    clear hv e1 hS hb hC₇ hA₇ hI₇ p1 p2 p3 p4 f₈ w₈ hul h0
    generalize st₇.γ.W = W₀ at *
    generalize st₇.γ.N = N₀ at *
    have h1 : IntKind.wrap IntKind.i32 (enc 0 W₀ 0 N₀ + 1) = enc 1 W₀ 0 N₀ := by rw [IntKind.wrap_i32]; unfold enc; omega
    have h11 : bits BinOp.and IntKind.i32 (enc 1 W₀ 0 N₀) 1 = 1 := e_and1 1 W₀ 0 N₀ (by omega) hw (by omega) (by omega)
    have h4 : bits BinOp.and IntKind.i32 (enc 0 W₀ 0 N₀) 4 = 0 := e_and4 0 W₀ 0 N₀ (by omega) hw (by omega) (by omega)
    refine TT.road hP hA₈ (by simp [hx]) 80 fun w₀ hF => ?_
    walk_nrm
    repeat w_go road_rely
    u_call Try.func107 n_uslow Try.f107 road_rely hF
    repeat w_but "code.loop" road_rely
    u_c stepG_loop road_rely hF
    refine Goes.stop (fun w₁ r₁ => ⟨rfl, ?_⟩)
    refine ulHead hP hx ?_ _ _ _ _ _ st₈ hA₈ hR₈ _ _ _ _ _ _ _ _ _ _ _ _ _ _ _ _ _ _ _ _ _ _ _ _ _ _ _ _ _ _ _ _ _ _ _ _ _ _ _ _ _ _ rfl
    intro mx stA hm hAA
    walk_nrm
    refine TT.road hP hAA (by simp [hx]) 80 fun w₀ hF => ?_
    repeat w_go road_rely
    refine Goes.stop (fun w₁ r₁ => ⟨rfl, ?_⟩)
    clear hF r₁ w₁ w₀
    rcases hm with rfl | ⟨old, rfl, hold⟩
    · refine TT.pas hP hAA hx (mx := .out) rfl (by simp) fun stB hAB hIB hCB => ⟨_, _, _, 0, stepG_mark0 .enable (by simp) rfl rfl (by k_ne) rfl Try.func81 n_enable b_enable x_enable f_enable, rfl, df_en 0, rfl, MuEff.refl _, evs_mk .enable (by simp), fun stC hAC hIC _ _ _ _ => ?_⟩
      clear hCB hAB hIB
      refine TT.road hP hAC (by simp [hx]) 80 fun w₀ hF => ?_
      walk_nrm
      repeat w_go road_rely
      u_leave0 Try.func72 road_rely hF
      refine Goes.stop (fun w₁ r₁ => ⟨rfl, ?_⟩)
      exact hT stC hAC hIC
    · refine TT.mu hP hAA hx (mx := .ul old) rfl (by simp) fun stB hAB hIB hCB q1 q2 _ _ => ⟨_, _, _, .out, 0, stB.γ.L, stB.γ.W, stB.γ.S, stB.γ.N, stB.γ.tn, stB.γ.th, stepG_mark0 .enable (by simp) rfl rfl (by k_ne) rfl Try.func81 n_enable b_enable x_enable f_enable, rfl, df_en 0, by simp, by simp, hCB.mu.leave hAB.lo (hAB.hi hIB) (mm_at hAB) hold, hCB.gb.stay rfl rfl, MuEff.refl _, .inl (by simp [crd]), .inl (Nat.le_refl _), evs_mk .enable (by simp), .inr (Nat.le_refl _), fun stC hAC hIC _ _ _ _ => ?_⟩
      clear hCB hAB hIB q1 q2
      refine TT.road hP hAC (by simp [hx]) 80 fun w₀ hF => ?_
      walk_nrm
      repeat w_go road_rely
      u_leave0 Try.func72 road_rely hF
      refine Goes.stop (fun w₁ r₁ => ⟨rfl, ?_⟩)
      exact hT stC hAC hIC
end
end Go.Proofs.Ytpfpokjaeffbjab.Cc
