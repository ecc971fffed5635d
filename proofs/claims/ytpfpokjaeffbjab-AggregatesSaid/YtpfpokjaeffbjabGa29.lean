/- Part of the proof: MAdd, MWait, MWt, DoS. -/
import Derived.Test.YtpfpokjaeffbjabGa28
import Derived.Test.YtpfpokjaeffbjabGa15
import Derived.Conc.WgArith
import Derived.Test.YtpfpokjaeffbjabGa26
namespace Go.Proofs.Ytpfpokjaeffbjab.Cc
open Go.Conc Go.ConcN Go.ConcM Go.RowKit Go.Conc.Lib Go.ConcR.Gen
open Go.ConcR (KK wgBlock WgAt stA smA rd wr mk DC0)
open Go.ConcM (OsLater)
set_option linter.unusedVariables false
set_option linter.unusedSimpArgs false
section
variable {q : Prm} {s : Scene}
theorem evm_mk (m : Mark) (h : (∀ a, m ≠ .release a) ∧ (∀ a, m ≠ .read a) ∧ ∀ a, m ≠ .write a) : ∀ e ∈ (#[⟨.mark m, false, true⟩] : Array Event), EvM s e := by
  intro e he
  simp at he; subst he
  exact .inl ⟨m, rfl, h⟩
theorem evm_rw (off : Nat) (h : off < 2) : ∀ e ∈ (#[⟨.cell ⟨s.Wg, off, none⟩, false, true⟩, ⟨.cell ⟨s.Wg, off, none⟩, true, true⟩] : Array Event), EvM s e := by
  intro e he
  simp at he
  rcases he with rfl | rfl
  · exact .inr (.inl ⟨off, false, rfl, h⟩)
  · exact .inr (.inl ⟨off, true, rfl, h⟩)
theorem evm_r (off : Nat) (h : off < 2) : ∀ e ∈ (#[⟨.cell ⟨s.Wg, off, none⟩, false, true⟩] : Array Event), EvM s e := by
  intro e he
  simp at he; subst he
  exact .inr (.inl ⟨off, false, rfl, h⟩)
theorem evm_said : ∀ e ∈ (#[⟨.mark (.read ⟨s.Wg, 1, none⟩), false, true⟩] : Array Event), EvM s e := by
  intro e he
  simp at he; subst he
  exact .inr (.inr ⟨1, by omega, .inl rfl⟩)
theorem evm_saidw : ∀ e ∈ (#[⟨.mark (.write ⟨s.Wg, 1, none⟩), false, true⟩] : Array Event), EvM s e := by
  intro e he
  simp at he; subst he
  exact .inr (.inr ⟨1, by omega, .inr rfl⟩)
theorem mwg_eff {st : St Gho} (off : Nat) (v : Value) : (st.w.setCell ⟨s.Wg, off, none⟩ v).heap.size = st.w.heap.size ∧ (∀ b, b ≠ s.Wg → (st.w.setCell ⟨s.Wg, off, none⟩ v).heap[b]? = st.w.heap[b]?) ∧ OsLater st.w.os (st.w.setCell ⟨s.Wg, off, none⟩ v).os ∧ (st.w.setCell ⟨s.Wg, off, none⟩ v).output = st.w.output := by
  have A := aside_setCell st.w ⟨s.Wg, off, none⟩ v
  exact ⟨A.size, fun b hb => A.block b hb, by rw [A.os]; exact .refl _, A.output⟩
theorem cntW_le9 {st : St Gho} (c : SceneC q s st) (p : WG → Bool) : cntW p st.γ s ≤ 9 := by
  unfold cntW
  exact Nat.le_trans (Nat.le_trans List.countP_le_length (by simp)) c.n0.2.2.2
variable (hP : q.P = Try.prog) {num : Nat} {K : List (Nat × Obj)} {Ch : Nat → Goroutine → St Gho → Prop}
variable {b₁ : Frame} {a₁ : Act} {ops₁ : Array Oper} {i₁ : Nat} {rest₁ : List Nat} {k₁ : List Item} {cs₁ : List Frame}
noncomputable def addBody : Code := Try.f42.body.getD .skip
include hP
set_option maxRecDepth 100000 in
set_option maxHeartbeats 16000000 in
theorem maddGo (hT : ∀ st' : St Gho, MAt s .ad 0 num K st' → Inv q st' → TT (cfg q) 0 Ch (G (b₁.at (a₁.put ((ops₁[i₁]?).bind (·.dst)) (.tuple #[])) (.inRegion ops₁ rest₁ :: k₁)) cs₁) st') {st : St Gho} (hA : MAt s .sp 0 num K st) :
    TT (cfg q) 0 Ch (G ((base 42).at ⟨#[.pointer (some ⟨s.Wg, 0, none⟩), .int .i64 1, undef, undef, undef, undef, undef, undef, undef, undef, undef, undef, undef, undef, undef, undef, undef, undef, undef, undef, undef, undef, undef, undef, undef, undef, undef, undef, undef, undef, undef, undef, undef, undef, undef, undef, undef, undef, undef, undef, undef, undef, undef, undef, undef, undef, undef, undef, undef, undef, undef, undef, undef, undef, undef, undef, undef, undef, undef, undef, undef, undef, undef, undef, undef, undef, undef, undef, undef, undef, undef, undef, undef, undef, undef, undef, undef, undef, undef, undef, undef, undef, undef, undef, undef, undef, undef, undef, undef, undef, undef, undef, undef, undef, undef, undef, undef, undef, undef, undef, undef, undef, undef, undef, undef, undef, undef, undef, undef, undef, undef, undef, undef, undef, undef, undef, undef], []⟩ [.code addBody]) (b₁.at a₁ (.inRegion ops₁ (i₁ :: rest₁) :: k₁) :: cs₁)) st := by
  simp only [addBody, Try.f42, Option.getD_some]
  refine TT.mroad hP hA 80 fun w₀ hF => ?_
  repeat w_go mroad_rely
  refine Goes.stop (fun w₁ r₁ => ⟨rfl, ?_⟩)
  clear hF r₁ w₁ w₀
  refine TT.mwg hP hA fun st₁ hA₁ hI₁ hC₁ _ _ => ⟨_, _, _, .sp, st₁.γ.gs, st₁.γ.gm, stepG_mark0 .disable (by simp) rfl rfl (by k_ne) rfl Try.func80 n_disable b_disable x_disable f_disable, rfl, evm_mk .disable (by simp), ⟨rfl, fun _ _ => rfl, .refl _, rfl⟩, hC₁.wgb, by simp, by simp, by have := hC₁.wgl; rw [hA₁.mw] at this; exact this, fun st₂ hA₂ hI₂ _ _ => ?_⟩
  clear hC₁ hI₁ hA₁
  refine TT.mroad hP hA₂ 80 fun w₀ hF => ?_
  walk_nrm
  repeat w_go mroad_rely
  u_defer mroad_rely hF
  repeat w_go mroad_rely
  u_in mroad_rely hF
  rw [stepG_entry_pure (.bool false) rfl rfl (by k_ne) rfl Try.func82 n_bub b_bub x_bub f_bub]
  simp only [goes_go]
  refine ⟨by u_nil, ?_⟩
  walk_nrm
  repeat w_go mroad_rely
  u_call Try.func86 n_uadd Try.f86 mroad_rely hF
  repeat w_go mroad_rely
  refine Goes.stop (fun w₁ r₁ => ⟨rfl, ?_⟩)
  clear hF r₁ w₁ w₀
  refine TT.mwg hP hA₂ fun st₃ hA₃ hI₃ hC₃ _ _ => ?_
  have hL := hC₃.wgl
  rw [hA₃.mw] at hL
  obtain ⟨w1, w2, w3, w4, w5⟩ := hL
  have hc9 := cntW_le9 hC₃ WG.cd
  have hw := hC₃.wgb
  rw [w1, w2] at hw
  generalize hcc : cntW WG.cd st₃.γ s = c at *
  have e1 : IntKind.u64.wrap (((c * 4294967296 : Nat) : Int) + 4294967296) = (((c + 1) * 4294967296 : Nat) : Int) := by rw [IntKind.wrap_u64]; omega
  refine ⟨_, _, _, .ad, (c + 1) * 4294967296, 0, (stepG_add_atomic rfl rfl (by k_ne) rfl Try.func112 n_add64 b_add64 x_add64 .u64 f_add64 rfl rfl hw.cellSt (hw.thaw 0)).trans (by rw [e1]; rfl), rfl, evm_rw 0 (by omega), mwg_eff 0 _, hw.setSt _, by simp, by simp, ?_, fun st₄ hA₄ hI₄ hg₄ _ => ?_⟩
  · exact ⟨rfl, rfl, w3, w4, w5⟩
  clear hw e1 w1 w2 w3 w4 w5 hcc hC₃ hI₃ hA₃ hg₄
  have hS0 : (((c + 1) * 4294967296 : Nat) : Int) = ((c + 1 : Nat) : Int) * 4294967296 + ((0 : Nat) : Int) := by omega
  rw [hS0]
  have b1 : bits .and .u64 (((c + 1 : Nat) : Int) * 4294967296 + ((0 : Nat) : Int)) 2147483648 = 0 := st_flag (c + 1) 0 (by omega) (by omega)
  have b2 : bits .and .u64 (((c + 1 : Nat) : Int) * 4294967296 + ((0 : Nat) : Int)) 2147483647 = ((0 : Nat) : Int) := st_waiters (c + 1) 0 (by omega) (by omega)
  have a1 : (((c + 1 : Nat) : Int) * 4294967296 + ((0 : Nat) : Int)) / 4294967296 = ((c + 1 : Nat) : Int) := by omega
  have a2 : 0 ≤ ((c + 1 : Nat) : Int) * 4294967296 + ((0 : Nat) : Int) ∧ ((c + 1 : Nat) : Int) * 4294967296 + ((0 : Nat) : Int) < 9223372036854775808 := by omega
  generalize ((c + 1 : Nat) : Int) * 4294967296 + ((0 : Nat) : Int) = S at *
  simp only [Int.natCast_zero] at b2
  have b3 : IntKind.wrap .u32 0 = 0 := by decide
  obtain ⟨V, hV⟩ : ∃ V : Int, V = ((c + 1 : Nat) : Int) := ⟨_, rfl⟩
  rw [← hV] at a1
  have v1 : IntKind.wrap .i32 V = V := by rw [IntKind.wrap_i32]; omega
  have v2 : (0 : Int) < V := by omega
  have v3 : ¬ V < 0 := by omega
  have hdm : deafBehind (deafBehind 0 #[⟨.mark .disable, false, true⟩]) #[⟨.cell (stA s.Wg), false, true⟩, ⟨.cell (stA s.Wg), true, true⟩] = 1 := rfl
  replace hA₄ : MAt s .ad 1 num K st₄ := hA₄
  clear hdm hA₂ hI₂ hS0
  refine TT.mroad hP hA₄ 200 fun w₀ hF => ?_
  walk_nrm
  by_cases hc0 : c = 0
  · have hV1 : V = 1 := by omega
    subst hV1
    clear hV hc9 hc0 v2 v3 v1
    have v1 : IntKind.wrap .i32 1 = 1 := by decide
    repeat w_go mroad_rely
    u_leave1 Try.func86 mroad_rely hF
    repeat w_go mroad_rely
    m_convG Try.prog Try.underlying157 u_u32p z_u32 hF.2.choose_spec mroad_rely hF
    refine Goes.stop (fun w₁ r₁ => ⟨rfl, ?_⟩)
    clear hF r₁ w₁ w₀
    refine TT.mwg hP hA₄ fun st₅ hA₅ hI₅ hC₅ _ _ => ⟨_, _, _, .ad, st₅.γ.gs, st₅.γ.gm, stepG_markAt .read (by simp) rfl rfl (by k_ne) rfl Try.func87 n_rread b_rread x_rread f_rread (ad := ⟨s.Wg, 1, none⟩) (by simp [Act.eval] <;> rfl), rfl, evm_said, ⟨rfl, fun _ _ => rfl, .refl _, rfl⟩, hC₅.wgb, by simp, by simp, by have := hC₅.wgl; rw [hA₅.mw] at this; exact this, fun st₆ hA₆ hI₆ _ _ => ?_⟩
    replace hA₆ : MAt s .ad 1 num K st₆ := hA₆
    refine TT.mroad hP hA₆ 200 fun w₀ hF => ?_
    walk_nrm
    repeat w_go mroad_rely
    refine Goes.stop (fun w₁ r₁ => ⟨rfl, ?_⟩)
    clear hF r₁ w₁ w₀
    refine TT.mwg hP hA₆ fun stA hAA hIA hCA _ _ => ⟨_, _, _, .ad, stA.γ.gs, stA.γ.gm, stepG_unwind_entry (v := .tuple #[]) rfl Try.func81 n_enable b_enable x_enable f_enable (by simp [Extern.Race.none_]) (by simp) (by intro x hx; simp at hx; subst hx; exact ⟨rfl, fun g h => by cases h⟩), rfl, evm_mk .enable (by simp), ⟨rfl, fun _ _ => rfl, .refl _, rfl⟩, hCA.wgb, by simp, by simp, by have := hCA.wgl; rw [hAA.mw] at this; exact this, fun stB hAB hIB _ _ => ?_⟩
    refine TT.mroad hP hAB 40 fun w₀ hF => ?_
    u_leave0 Try.func42 mroad_rely hF
    refine Goes.stop (fun w₁ r₁ => ⟨rfl, ?_⟩)
    exact hT stB (by have e : deafBehind 1 #[⟨.mark .enable, false, true⟩] = 0 := rfl; rw [← e]; exact hAB) hIB
  · have hV1 : (V == 1) = false := by simp; omega
    clear hV hc9 hc0
    repeat w_go mroad_rely
    u_leave1 Try.func86 mroad_rely hF
    repeat w_go mroad_rely
    refine Goes.stop (fun w₁ r₁ => ⟨rfl, ?_⟩)
    clear hF r₁ w₁ w₀
    refine TT.mwg hP hA₄ fun stA hAA hIA hCA _ _ => ⟨_, _, _, .ad, stA.γ.gs, stA.γ.gm, stepG_unwind_entry (v := .tuple #[]) rfl Try.func81 n_enable b_enable x_enable f_enable (by simp [Extern.Race.none_]) (by simp) (by intro x hx; simp at hx; subst hx; exact ⟨rfl, fun g h => by cases h⟩), rfl, evm_mk .enable (by simp), ⟨rfl, fun _ _ => rfl, .refl _, rfl⟩, hCA.wgb, by simp, by simp, by have := hCA.wgl; rw [hAA.mw] at this; exact this, fun stB hAB hIB _ _ => ?_⟩
    refine TT.mroad hP hAB 40 fun w₀ hF => ?_
    u_leave0 Try.func42 mroad_rely hF
    refine Goes.stop (fun w₁ r₁ => ⟨rfl, ?_⟩)
    exact hT stB (by have e : deafBehind 1 #[⟨.mark .enable, false, true⟩] = 0 := rfl; rw [← e]; exact hAB) hIB
end
end Go.Proofs.Ytpfpokjaeffbjab.Cc
namespace Go.Proofs.Ytpfpokjaeffbjab.Cc
open Go.Conc Go.ConcN Go.ConcM Go.RowKit Go.Conc.Lib Go.ConcR.Gen
open Go.ConcR (KK wgBlock WgAt stA smA rd wr mk DC0)
open Go.ConcM (OsLater)
set_option linter.unusedVariables false
set_option linter.unusedSimpArgs false
section
variable {q : Prm} {s : Scene}
variable (hP : q.P = Try.prog) {num : Nat} {K : List (Nat × Obj)} {Ch : Nat → Goroutine → St Gho → Prop}
variable {b₁ : Frame} {a₁ : Act} {ops₁ : Array Oper} {i₁ : Nat} {rest₁ : List Nat} {k₁ : List Item} {cs₁ : List Frame}
noncomputable def waitBody : Code := Try.f49.body.getD .skip
noncomputable def waitLoop : Code := (fLoop waitBody).getD .skip
def AftW (q : Prm) (s : Scene) (num : Nat) (K : List (Nat × Obj)) (Ch : Nat → Goroutine → St Gho → Prop) (b₁ : Frame) (a₁ : Act) (ops₁ : Array Oper) (i₁ : Nat) (rest₁ : List Nat) (k₁ : List Item) (cs₁ : List Frame) : Prop :=
  ∀ st₂, SAt 0 num K st₂ → Inv q st₂ → GbDone q s st₂.w →
        (∃ Z : Array Value, st₂.w.heap[s.Zb]? = some (.cells Z q.tZ) ∧ Z.size = s.n ∧ ∀ k, k < s.n → Z[k]? = some (s.zv k)) → (∃ R : Array Value, st₂.w.heap[s.Rb]? = some (.cells R q.tR) ∧ R.size = s.n ∧ ∀ k, k < s.n → R[k]? = some (s.rv k)) →
        (∀ l b, l.isMemory = true → lblk l = some b → b < st₂.w.heap.size → ¬ st₂.γ.dead b → st₂.γ.ex 0 l) → ¬ st₂.γ.dead s.Gb → ¬ st₂.γ.dead s.Zb → ¬ st₂.γ.dead s.Rb → TT (cfg q) 0 Ch (G (b₁.at (a₁.put ((ops₁[i₁]?).bind (·.dst)) (.tuple #[])) (.inRegion ops₁ rest₁ :: k₁)) cs₁) st₂
include hP
set_option maxRecDepth 100000 in
set_option maxHeartbeats 16000000 in
theorem waitLoopGo (hT : AftW q s num K Ch b₁ a₁ ops₁ i₁ rest₁ k₁ cs₁) (hnum : num = s.n0 + s.n) : ∀ (μ : Nat) (mw : MW) (st : St Gho), (mw = .sp ∨ mw = .wt) → MAt s mw 1 num K st → psi st.γ s ≤ μ → ∀ (j1 j2 j3 j4 j5 j6 j7 j8 j9 j10 j11 j12 j13 j14 j15 j16 j17 j18 j19 j20 j21 j22 j23 j24 j25 j26 j27 j28 j29 j30 j31 j32 j33 j34 j35 j36 j37 j38 j39 j40 j41 j42 j43 j44 j45 j46 j47 j48 j49 j50 j51 j52 j53 j54 j55 j56 j57 j58 j59 j60 j61 j62 j63 j64 j65 j66 j67 j68 j69 j70 j71 j72 j73 j74 j75 j76 j77 j78 j79 j80 j81 j82 j83 : Value), TT (cfg q) 0 Ch (G ((base 49).at ⟨#[.pointer (some ⟨s.Wg, 0, none⟩), j1, j2, j3, j4, j5, j6, j7, j8, j9, j10, j11, j12, j13, j14, j15, j16, j17, j18, j19, j20, j21, j22, j23, j24, j25, j26, j27, j28, j29, j30, j31, j32, j33, j34, j35, j36, j37, j38, j39, j40, j41, j42, j43, j44, j45, j46, j47, j48, j49, j50, j51, j52, j53, j54, j55, j56, j57, j58, j59, j60, j61, j62, j63, j64, j65, j66, j67, j68, j69, j70, j71, j72, j73, j74, j75, j76, j77, j78, j79, j80, j81, j82, j83], []⟩ [.code waitLoop, .inLoop waitLoop, .inBlock 0]) (b₁.at a₁ (.inRegion ops₁ (i₁ :: rest₁) :: k₁) :: cs₁)) st := by
  intro μ
  induction μ using Nat.strongRecOn with
  | _ μ ih =>
  intro mw st hmw hA hμ j1 j2 j3 j4 j5 j6 j7 j8 j9 j10 j11 j12 j13 j14 j15 j16 j17 j18 j19 j20 j21 j22 j23 j24 j25 j26 j27 j28 j29 j30 j31 j32 j33 j34 j35 j36 j37 j38 j39 j40 j41 j42 j43 j44 j45 j46 j47 j48 j49 j50 j51 j52 j53 j54 j55 j56 j57 j58 j59 j60 j61 j62 j63 j64 j65 j66 j67 j68 j69 j70 j71 j72 j73 j74 j75 j76 j77 j78 j79 j80 j81 j82 j83
  have hL0 : ∀ (c d2 d3 d4 st sm : Nat), WgL mw c d2 d3 d4 st sm → st = c * 4294967296 ∧ sm = 0 ∧ d2 = 0 ∧ d3 = 0 ∧ d4 = 0 := by
    intro c d2 d3 d4 st sm h
    rcases hmw with rfl | rfl <;> exact h
  replace hL0 := Hd.mk hL0
  simp only [waitLoop, waitBody, fLoop, Try.f49, Option.getD_some]
  refine TT.mroad hP hA 80 fun w₀ hF => ?_
  repeat w_go mroad_rely
  u_call Try.func88 n_uload Try.f88 mroad_rely hF
  repeat w_go mroad_rely
  refine Goes.stop (fun w₁ r₁ => ⟨rfl, ?_⟩)
  clear hF r₁ w₁ w₀
  refine TT.mwg hP hA fun st₁ hA₁ hI₁ hC₁ p1 p2 => ?_
  have hL := hC₁.wgl
  rw [hA₁.mw] at hL
  obtain ⟨w1, w2, w3, w4, w5⟩ := hL0.un _ _ _ _ _ _ hL
  have hc9 := cntW_le9 hC₁ WG.cd
  have hw := hC₁.wgb
  rw [w1, w2] at hw
  by_cases hc0 : cntW WG.cd st₁.γ s = 0
  ·
    rw [hc0] at hw w1
    refine ⟨_, _, _, .pas, 0, 0, stepG_load_atomic rfl rfl (by k_ne) rfl Try.func113 n_ld64 b_ld64 x_ld64 .u64 f_ld64 rfl hw.cellSt, rfl, evm_r 0 (by omega), ⟨rfl, fun _ _ => rfl, .refl _, rfl⟩, hw, by simp, fun _ => hnum, by rw [hc0]; exact ⟨rfl, rfl, rfl, w3, w4, w5⟩, fun st₂ hA₂ hI₂ _ _ => ?_⟩
    replace hA₂ : MAt s .pas 1 num K st₂ := hA₂
    clear hw w1 w2 w3 w4 w5 hc0 hc9 hC₁ hI₁ hA₁ p1 p2 hL ih hμ
    have b2 : bits .and .u64 0 2147483647 = 0 := by decide
    have b3 : IntKind.wrap .u32 0 = 0 := by decide
    have b4 : IntKind.wrap .i32 0 = 0 := by decide
    refine TT.mroad hP hA₂ 80 fun w₀ hF => ?_
    simp only [Nat.zero_mul, Int.natCast_zero]
    walk_nrm
    repeat w_go mroad_rely
    u_leave1 Try.func88 mroad_rely hF
    repeat w_go mroad_rely
    refine Goes.stop (fun w₁ r₁ => ⟨rfl, ?_⟩)
    clear hF r₁ w₁ w₀
    refine TT.mwg hP hA₂ fun st₃ hA₃ hI₃ hC₃ _ _ => ⟨_, _, _, .pas, st₃.γ.gs, st₃.γ.gm, stepG_mark0 .enable (by simp) rfl rfl (by k_ne) rfl Try.func81 n_enable b_enable x_enable f_enable, rfl, evm_mk .enable (by simp), ⟨rfl, fun _ _ => rfl, .refl _, rfl⟩, hC₃.wgb, by simp, fun _ => hnum, by have := hC₃.wgl; rw [hA₃.mw] at this; exact this, fun st₄ hA₄ hI₄ _ _ => ?_⟩
    replace hA₄ : MAt s .pas 0 num K st₄ := hA₄
    clear hC₃ hI₃ hA₃ hA₂ hI₂
    refine TT.mroad hP hA₄ 80 fun w₀ hF => ?_
    walk_nrm
    repeat w_go mroad_rely
    m_convG Try.prog Try.underlying157 u_wgp z_wg hF.1.choose_spec mroad_rely hF
    refine Goes.stop (fun w₁ r₁ => ⟨rfl, ?_⟩)
    clear hF r₁ w₁ w₀
    refine TT.join hP hA₄ fun st₅ hA₅ hI₅ hC₅ => ⟨_, stepG_markAt .acquire (by simp) rfl rfl (by k_ne) rfl Try.func94 n_acq b_acq x_acq f_acq (by simp [Act.eval]; rfl), rfl, fun st₆ hA₆ hI₆ f1 f2 f3 f4 f5 f6 f7 => ?_⟩
    refine TT.sroad hP 80 fun w₀ hF => ?_
    walk_nrm
    repeat w_go sroad_rely
    u_leave0 Try.func49 sroad_rely hF
    exact Goes.stop (fun w₁ r₁ => ⟨rfl, hT st₆ hA₆ hI₆ f1 f2 f3 f4 f5 f6 f7⟩)
  · refine ⟨_, _, _, .wt, cntW WG.cd st₁.γ s * 4294967296, 0, stepG_load_atomic rfl rfl (by k_ne) rfl Try.func113 n_ld64 b_ld64 x_ld64 .u64 f_ld64 rfl hw.cellSt, rfl, evm_r 0 (by omega), ⟨rfl, fun _ _ => rfl, .refl _, rfl⟩, hw, by simp, fun _ => hnum, ⟨rfl, rfl, w3, w4, w5⟩, fun st₂ hA₂ hI₂ hg₂ hps₂ => ?_⟩
    replace hA₂ : MAt s .wt 1 num K st₂ := hA₂
    have hμ₂ : psi st₂.γ s ≤ μ := by omega
    clear hw w1 w2 w3 w4 w5 hC₁ hI₁ hA₁ p1 p2 hL hps₂ hμ
    generalize cntW WG.cd st₁.γ s = c at *
    have hS0 : ((c * 4294967296 : Nat) : Int) = ((c : Nat) : Int) * 4294967296 + ((0 : Nat) : Int) := by omega
    rw [hS0]
    have b1 : bits .and .u64 (((c : Nat) : Int) * 4294967296 + ((0 : Nat) : Int)) 2147483648 = 0 := st_flag c 0 (by omega) (by omega)
    have b2 : bits .and .u64 (((c : Nat) : Int) * 4294967296 + ((0 : Nat) : Int)) 2147483647 = ((0 : Nat) : Int) := st_waiters c 0 (by omega) (by omega)
    have a1 : (((c : Nat) : Int) * 4294967296 + ((0 : Nat) : Int)) / 4294967296 = ((c : Nat) : Int) := by omega
    have a2 : 0 ≤ ((c : Nat) : Int) * 4294967296 + ((0 : Nat) : Int) ∧ ((c : Nat) : Int) * 4294967296 + ((0 : Nat) : Int) < 9223372036854775808 := by omega
    obtain ⟨S, hS⟩ : ∃ S : Int, S = ((c : Nat) : Int) * 4294967296 + ((0 : Nat) : Int) := ⟨_, rfl⟩
    rw [← hS] at b1 b2 a1 a2 ⊢
    have a3 : IntKind.wrap .u64 (S + 1) = S + 1 := by rw [IntKind.wrap_u64]; omega
    obtain ⟨V, hV⟩ : ∃ V : Int, V = (c : Int) := ⟨_, rfl⟩
    rw [← hV] at a1
    have v1 : IntKind.wrap .i32 V = V := by rw [IntKind.wrap_i32]; omega
    have v2 : (V == 0) = false := by simp; omega
    have b3 : IntKind.wrap .u32 0 = 0 := by decide
    simp only [Int.natCast_zero] at b2
    replace hS := Hd.mk hS
    replace hV := Hd.mk hV
    replace hg₂ := Hd.mk hg₂
    replace hc0 := Hd.mk hc0
    replace hc9 := Hd.mk hc9
    clear hS0
    refine TT.mroad hP hA₂ 160 fun w₀ hF => ?_
    walk_nrm
    repeat w_go mroad_rely
    u_leave1 Try.func88 mroad_rely hF
    repeat w_go mroad_rely
    u_call Try.func96 n_ucas Try.f96 mroad_rely hF
    repeat w_go mroad_rely
    refine Goes.stop (fun w₁ r₁ => ⟨rfl, ?_⟩)
    clear hF r₁ w₁ w₀
    refine TT.mwg hP hA₂ fun st₃ hA₃ hI₃ hC₃ p1 p2 => ?_
    have hL := hC₃.wgl
    rw [hA₃.mw] at hL
    obtain ⟨w1, w2, w3, w4, w5⟩ := hL
    have hw := hC₃.wgb
    rw [w2] at hw
    have hSv : ((c * 4294967296 : Nat) : Int) = S := by have := hS.un; omega
    by_cases hhit : st₃.γ.gs = c * 4294967296
    ·
      have hcc : cntW WG.cd st₃.γ s = c := by omega
      rw [hhit, hSv] at hw
      have hS1 : S + 1 = ((c * 4294967296 + 1 : Nat) : Int) := by omega
      refine ⟨_, _, _, .rg, c * 4294967296 + 1, 0, stepG_cas_hit rfl rfl (by k_ne) rfl Try.func117 n_cas64 b_cas64 x_cas64 .u64 f_cas64 rfl rfl rfl hw.cellSt (hw.thaw 0), rfl, evm_rw 0 (by omega), mwg_eff 0 _, by have := hw.setSt (S + 1); rw [hS1] at this; rw [hS1]; exact this, by simp, fun _ => hnum, by rw [hcc]; exact .inl ⟨by have := hc0.un; omega, rfl, rfl, w3, w4, w5⟩, fun st₄ hA₄ hI₄ hg₄ _ => ?_⟩
      replace hA₄ : MAt s .rg 1 num K st₄ := hA₄
      clear hw w1 w2 w3 w4 w5 hcc hhit hC₃ hI₃ hA₃ p1 p2 ih hμ₂ hg₂ hg₄ hS1 hSv hA₂ hI₂
      refine TT.mroad hP hA₄ 160 fun w₀ hF => ?_
      walk_nrm
      repeat w_go mroad_rely
      u_leave1 Try.func96 mroad_rely hF
      repeat w_go mroad_rely
      m_convG Try.prog Try.underlying157 u_u32p z_u32 hF.2.choose_spec mroad_rely hF
      refine Goes.stop (fun w₁ r₁ => ⟨rfl, ?_⟩)
      clear hF r₁ w₁ w₀
      refine TT.mwg hP hA₄ fun st₅ hA₅ hI₅ hC₅ _ _ => ⟨_, _, _, .rg, st₅.γ.gs, st₅.γ.gm, stepG_markAt .write (by simp) rfl rfl (by k_ne) rfl Try.func97 n_rwrite b_rwrite x_rwrite f_rwrite (ad := ⟨s.Wg, 1, none⟩) (by simp [Act.eval] <;> rfl), rfl, evm_saidw, ⟨rfl, fun _ _ => rfl, .refl _, rfl⟩, hC₅.wgb, by simp, fun _ => hnum, by have := hC₅.wgl; rw [hA₅.mw] at this; exact this, fun st₆ hA₆ hI₆ _ _ => ?_⟩
      replace hA₆ : MAt s .rg 1 num K st₆ := hA₆
      clear hC₅ hI₅ hA₅ hA₄ hI₄
      refine TT.mroad hP hA₆ 160 fun w₀ hF => ?_
      walk_nrm
      repeat w_go mroad_rely
      refine Goes.stop (fun w₁ r₁ => ⟨rfl, ?_⟩)
      clear hF r₁ w₁ w₀
      refine TT.msem hP hA₆ hnum rfl rfl (fun w hc => stepG_semacquire_wait rfl rfl rfl Try.func98 n_wsem b_wsem x_wsem f_wsem (by simp [Act.eval]; rfl) hc) (fun w hc hz => stepG_semacquire rfl rfl (by k_ne) rfl Try.func98 n_wsem b_wsem x_wsem f_wsem (by simp [Act.eval]; rfl) hc (by simp) hz) fun st₇ hA₇ hI₇ => ?_
      clear hA₆ hI₆
      refine TT.mroad hP hA₇ 160 fun w₀ hF => ?_
      walk_nrm
      repeat w_go mroad_rely
      u_call Try.func88 n_uload Try.f88 mroad_rely hF
      repeat w_go mroad_rely
      refine Goes.stop (fun w₁ r₁ => ⟨rfl, ?_⟩)
      clear hF r₁ w₁ w₀
      refine TT.mwg hP hA₇ fun st₈ hA₈ hI₈ hC₈ _ _ => ?_
      have hL := hC₈.wgl
      rw [hA₈.mw] at hL
      have hgs : st₈.γ.gs = 0 := hL.2.1
      have hgm : st₈.γ.gm = 0 := hL.2.2.1
      have hw := hC₈.wgb
      rw [hgs, hgm] at hw
      rw [hgs, hgm] at hL
      refine ⟨_, _, _, .pas, 0, 0, stepG_load_atomic rfl rfl (by k_ne) rfl Try.func113 n_ld64 b_ld64 x_ld64 .u64 f_ld64 rfl hw.cellSt, rfl, evm_r 0 (by omega), ⟨rfl, fun _ _ => rfl, .refl _, rfl⟩, hw, by simp, fun _ => hnum, hL, fun st₉ hA₉ hI₉ _ _ => ?_⟩
      replace hA₉ : MAt s .pas 1 num K st₉ := hA₉
      clear hw hL hgs hgm hC₈ hI₈ hA₈ hA₇ hI₇
      refine TT.mroad hP hA₉ 80 fun w₀ hF => ?_
      simp only [Int.natCast_zero]
      walk_nrm
      repeat w_go mroad_rely
      u_leave1 Try.func88 mroad_rely hF
      repeat w_go mroad_rely
      refine Goes.stop (fun w₁ r₁ => ⟨rfl, ?_⟩)
      clear hF r₁ w₁ w₀
      refine TT.mwg hP hA₉ fun st₃ hA₃ hI₃ hC₃ _ _ => ⟨_, _, _, .pas, st₃.γ.gs, st₃.γ.gm, stepG_mark0 .enable (by simp) rfl rfl (by k_ne) rfl Try.func81 n_enable b_enable x_enable f_enable, rfl, evm_mk .enable (by simp), ⟨rfl, fun _ _ => rfl, .refl _, rfl⟩, hC₃.wgb, by simp, fun _ => hnum, by have := hC₃.wgl; rw [hA₃.mw] at this; exact this, fun st₄ hA₄ hI₄ _ _ => ?_⟩
      replace hA₄ : MAt s .pas 0 num K st₄ := hA₄
      clear hC₃ hI₃ hA₃
      refine TT.mroad hP hA₄ 80 fun w₀ hF => ?_
      walk_nrm
      repeat w_go mroad_rely
      m_convG Try.prog Try.underlying157 u_wgp z_wg hF.1.choose_spec mroad_rely hF
      refine Goes.stop (fun w₁ r₁ => ⟨rfl, ?_⟩)
      clear hF r₁ w₁ w₀
      refine TT.join hP hA₄ fun st₅ hA₅ hI₅ hC₅ => ⟨_, stepG_markAt .acquire (by simp) rfl rfl (by k_ne) rfl Try.func94 n_acq b_acq x_acq f_acq (by simp [Act.eval]; rfl), rfl, fun st₆ hA₆ hI₆ f1 f2 f3 f4 f5 f6 f7 => ?_⟩
      refine TT.sroad hP 80 fun w₀ hF => ?_
      walk_nrm
      repeat w_go sroad_rely
      u_leave0 Try.func49 sroad_rely hF
      exact Goes.stop (fun w₁ r₁ => ⟨rfl, hT st₆ hA₆ hI₆ f1 f2 f3 f4 f5 f6 f7⟩)
    ·
      have hlt : psi st₃.γ s < μ := by
        refine Nat.lt_of_le_of_ne (Nat.le_trans p1 hμ₂) fun e => ?_
        have := p2 (by omega)
        have := hg₂.un
        omega
      have hmiss : ((st₃.γ.gs : Nat) : Int) ≠ S := by omega
      refine ⟨_, _, _, .wt, st₃.γ.gs, 0, stepG_cas_miss rfl rfl (by k_ne) rfl Try.func117 n_cas64 b_cas64 x_cas64 .u64 f_cas64 rfl rfl rfl hw.cellSt (hw.thaw 0) hmiss, rfl, evm_r 0 (by omega), ⟨rfl, fun _ _ => rfl, .refl _, rfl⟩, hw, by simp, fun _ => hnum, ⟨w1, rfl, w3, w4, w5⟩, fun st₄ hA₄ hI₄ hg₄ hps₄ => ?_⟩
      replace hA₄ : MAt s .wt 1 num K st₄ := hA₄
      have hps : psi st₄.γ s < μ := by omega
      clear hw w1 w2 w3 w4 w5 hC₃ hI₃ hA₃ p1 p2 hμ₂ hg₂ hg₄ hSv hA₂ hI₂ hhit hmiss hlt hps₄
      refine TT.mroad hP hA₄ 160 fun w₀ hF => ?_
      walk_nrm
      repeat w_go mroad_rely
      u_leave1 Try.func96 mroad_rely hF
      repeat w_nl mroad_rely
      u_c stepG_inLoop mroad_rely hF
      refine Goes.stop (fun w₁ r₁ => ⟨rfl, ?_⟩)
      clear hF r₁ w₁ w₀
      exact ih _ hps .wt st₄ (.inr rfl) hA₄ (Nat.le_refl _) _ _ _ _ _ _ _ _ _ _ _ _ _ _ _ _ _ _ _ _ _ _ _ _ _ _ _ _ _ _ _ _ _ _ _ _ _ _ _ _ _ _ _ _ _ _ _ _ _ _ _ _ _ _ _ _ _ _ _ _ _ _ _ _ _ _ _ _ _ _ _ _ _ _ _ _ _ _ _ _ _ _ _
end
end Go.Proofs.Ytpfpokjaeffbjab.Cc
namespace Go.Proofs.Ytpfpokjaeffbjab.Cc
open Go.Conc Go.ConcN Go.ConcM Go.RowKit Go.Conc.Lib Go.ConcR.Gen
open Go.ConcR (KK wgBlock WgAt stA smA rd wr mk DC0)
open Go.ConcM (OsLater)
set_option linter.unusedVariables false
set_option linter.unusedSimpArgs false
section
variable {q : Prm} {s : Scene}
variable (hP : q.P = Try.prog) {num : Nat} {K : List (Nat × Obj)} {Ch : Nat → Goroutine → St Gho → Prop}
variable {b₁ : Frame} {a₁ : Act} {ops₁ : Array Oper} {i₁ : Nat} {rest₁ : List Nat} {k₁ : List Item} {cs₁ : List Frame}
include hP
set_option maxRecDepth 100000 in
set_option maxHeartbeats 16000000 in
theorem waitGo (hT : AftW q s num K Ch b₁ a₁ ops₁ i₁ rest₁ k₁ cs₁) (hnum : num = s.n0 + s.n) {st : St Gho} (hA : MAt s .sp 0 num K st) :
    TT (cfg q) 0 Ch (G ((base 49).at ⟨#[.pointer (some ⟨s.Wg, 0, none⟩), undef, undef, undef, undef, undef, undef, undef, undef, undef, undef, undef, undef, undef, undef, undef, undef, undef, undef, undef, undef, undef, undef, undef, undef, undef, undef, undef, undef, undef, undef, undef, undef, undef, undef, undef, undef, undef, undef, undef, undef, undef, undef, undef, undef, undef, undef, undef, undef, undef, undef, undef, undef, undef, undef, undef, undef, undef, undef, undef, undef, undef, undef, undef, undef, undef, undef, undef, undef, undef, undef, undef, undef, undef, undef, undef, undef, undef, undef, undef, undef, undef, undef, undef], []⟩ [.code waitBody]) (b₁.at a₁ (.inRegion ops₁ (i₁ :: rest₁) :: k₁) :: cs₁)) st := by
  simp only [waitBody, Try.f49, Option.getD_some]
  refine TT.mroad hP hA 80 fun w₀ hF => ?_
  repeat w_go mroad_rely
  refine Goes.stop (fun w₁ r₁ => ⟨rfl, ?_⟩)
  clear hF r₁ w₁ w₀
  refine TT.mwg hP hA fun st₁ hA₁ hI₁ hC₁ _ _ => ⟨_, _, _, .sp, st₁.γ.gs, st₁.γ.gm, stepG_mark0 .disable (by simp) rfl rfl (by k_ne) rfl Try.func80 n_disable b_disable x_disable f_disable, rfl, evm_mk .disable (by simp), ⟨rfl, fun _ _ => rfl, .refl _, rfl⟩, hC₁.wgb, by simp, by simp, by have := hC₁.wgl; rw [hA₁.mw] at this; exact this, fun st₂ hA₂ hI₂ _ _ => ?_⟩
  replace hA₂ : MAt s .sp 1 num K st₂ := hA₂
  clear hC₁ hI₁ hA₁
  refine TT.mroad hP hA₂ 80 fun w₀ hF => ?_
  walk_nrm
  repeat w_but "code.loop" mroad_rely
  u_c stepG_loop mroad_rely hF
  refine Goes.stop (fun w₁ r₁ => ⟨rfl, ?_⟩)
  clear hF r₁ w₁ w₀
  have h := waitLoopGo hP hT hnum (psi st₂.γ s) .sp st₂ (.inl rfl) hA₂ (Nat.le_refl _)
  simp only [waitLoop, waitBody, fLoop, Try.f49, Option.getD_some] at h
  exact h _ _ _ _ _ _ _ _ _ _ _ _ _ _ _ _ _ _ _ _ _ _ _ _ _ _ _ _ _ _ _ _ _ _ _ _ _ _ _ _ _ _ _ _ _ _ _ _ _ _ _ _ _ _ _ _ _ _ _ _ _ _ _ _ _ _ _ _ _ _ _ _ _ _ _ _ _ _ _ _ _ _ _
end
end Go.Proofs.Ytpfpokjaeffbjab.Cc
namespace Go.Proofs.Ytpfpokjaeffbjab.Cc
open Go.Conc Go.ConcN Go.ConcM Go.RowKit Go.Conc.Lib Go.ConcR.Gen
open Go.ConcR (KK wgBlock WgAt stA smA rd wr mk DC0)
set_option linter.unusedVariables false
set_option linter.unusedSimpArgs false
section
variable {q : Prm} (hP : q.P = Try.prog) {i : Nat} {s : Scene} {x : Wk} {Ch : Nat → Goroutine → St Gho → Prop}
variable {b₁ : Frame} {a₁ : Act} {ops₁ : Array Oper} {i₁ : Nat} {rest₁ : List Nat} {k₁ : List Item} {cs₁ : List Frame}
noncomputable def shareBody : Code := Try.f47.body.getD .skip
theorem SceneC.share {st : St Gho} (h : SceneC q s st) (hD : st.γ.D = 1) {id : Nat} (i1 : 1 ≤ id) (i2 : id ≤ s.nn) : st.w.cell? ⟨s.Gb, 6 + id, none⟩ = some (.int .u64 (s.vals id)) := by
  obtain ⟨C, h1, h2, h3, h4, h5, h6, h7, h8, h9, h10⟩ := h.gb
  simp only [World.cell?, h1]
  exact h10 hD id i1 i2
include hP
set_option maxRecDepth 100000 in
set_option maxHeartbeats 16000000 in
theorem shareGo (hx : x.wg = .work) (hnn : s.nn ≤ 9) (hW : WorkOk q i Ch s x) {id : Nat} (i1 : 1 ≤ id) (i2 : id ≤ s.nn)
    (hT : ∀ (mx : MX) (st' : St Gho), mx = .fresh ∨ mx = .out → At s i { x with mx := mx, df := 0, syn := true } st' → Inv q st' → TT (cfg q) i Ch (G (b₁.at (a₁.put ((ops₁[i₁]?).bind (·.dst)) (.int .u64 (s.vals id))) (.inRegion ops₁ rest₁ :: k₁)) cs₁) st')
    {st : St Gho} (hA : At s i { x with mx := .fresh, df := 0 } st) :
    TT (cfg q) i Ch (G ((base 47).at ⟨#[.pointer (some ⟨s.Gb, 0, none⟩), .int .i64 id, undef, undef, undef, undef, undef, undef, undef, undef, undef, undef, undef, undef, undef, undef, undef], []⟩ [.code shareBody]) (b₁.at a₁ (.inRegion ops₁ (i₁ :: rest₁) :: k₁) :: cs₁)) st := by
  have hmf : ∀ (fn : Fn) (first cap : Array Value) (w : World), (Instr.makeFunc fn first cap).run Try.prog w = .ok (.func fn first cap) w := fun _ _ _ _ => rfl
  have hme : ∀ (fn : Fn) (first cap : Array Value) (w : World) (es : Array Event), (Instr.makeFunc fn first cap).events Try.prog w es = es := fun _ _ _ _ _ => rfl
  have q1 : (0 : Int) ≤ (id : Int) := by omega
  have q2 : (id : Int) < 10 := by omega
  have q3 : id < 10 := by omega
  have hix : ∀ (w : World) (es : Array Event), (Instr.indexAt 141 (.pointer (some ⟨s.Gb, 6, none⟩)) (.int .i64 (id : Int))).events Try.prog w es = es := fun w es => events_indexAt_array _ _ 10 _ _ _ Try.underlying141 ⟨q1, by simpa using q2⟩
  simp only [shareBody, Try.f47, Option.getD_some]
  refine TT.road hP hA (by simp [hx]) 80 fun w₀ hF => ?_
  repeat w_go road_rely
  u_call Try.func92 n_do1 Try.f92 road_rely hF
  refine Goes.stop (fun w₁ r₁ => ⟨rfl, ?_⟩)
  clear hF r₁ w₁ w₀
  refine doGo hP hx hnn hW ?_ hA
  intro mx st₁ hm hA₁ hI₁
  walk_nrm
  refine TT.road hP hA₁ (by simp [hx]) 80 fun w₀ hF => ?_
  repeat w_go road_rely
  refine Goes.stop (fun w₁ r₁ => ⟨rfl, ?_⟩)
  clear hF r₁ w₁ w₀
  refine TT.load hP hA₁ hx rfl rfl (by k_ne) rfl rfl (fun st₂ hr hi hA₂ => ⟨(hi.scene s hA₂.sc).p.rdS i hA₂.lo (by rw [hA₂.me]) (6 + id) (by omega) (by omega), ld_el ((hi.scene s hA₂.sc).c.share ((hi.scene s hA₂.sc).c.syn i hA₂.lo (by rw [hA₂.me])) i1 i2)⟩) fun st₃ hr₃ hI₃ hA₃ => ?_
  refine TT.road hP hA₃ (by simp [hx]) 80 fun w₀ hF => ?_
  walk_nrm
  repeat w_go road_rely
  u_leave1 Try.func47 road_rely hF
  exact Goes.stop (fun w₁ r₁ => ⟨rfl, hT mx st₃ hm hA₃ hI₃⟩)
end
end Go.Proofs.Ytpfpokjaeffbjab.Cc
