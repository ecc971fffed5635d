/- Part of the proof: DoF, DoA, DoB, DoC. -/
import Derived.Test.YtpfpokjaeffbjabGa22
import Derived.Test.YtpfpokjaeffbjabGa11
import Derived.Test.YtpfpokjaeffbjabGa12
import Derived.Test.YtpfpokjaeffbjabGa26
namespace Go.Proofs.Ytpfpokjaeffbjab.Cc
open Go.Conc Go.ConcN Go.ConcM Go.RowKit Go.Conc.Lib Go.ConcR.Gen
open Go.ConcR (KK wgBlock WgAt stA smA rd wr mk DC0)
set_option linter.unusedVariables false
theorem n_ld32 : (Try.f125.name == "runtime.NumGoroutine") = false := by kernel_rfl
theorem b_ld32 : Try.f125.body.isNone = true := by kernel_rfl
theorem x_ld32 : Extern.findNext Try.f125 = none := by kernel_rfl
theorem f_ld32 : Extern.find Try.f125 = some (Extern.Atomic.loadT (.int .u32)) := by kernel_rfl
theorem n_st32 : (Try.f127.name == "runtime.NumGoroutine") = false := by kernel_rfl
theorem b_st32 : Try.f127.body.isNone = true := by kernel_rfl
theorem x_st32 : Extern.findNext Try.f127 = none := by kernel_rfl
theorem f_st32 : Extern.find Try.f127 = some Extern.Atomic.storeT := by kernel_rfl
theorem n_bload : (Try.f115.name == "runtime.NumGoroutine") = false := by kernel_rfl
theorem n_bstore : (Try.f126.name == "runtime.NumGoroutine") = false := by kernel_rfl
theorem n_b32 : (Try.f128.name == "runtime.NumGoroutine") = false := by kernel_rfl
theorem n_do1 : (Try.f92.name == "runtime.NumGoroutine") = false := by kernel_rfl
theorem n_doslow : (Try.f116.name == "runtime.NumGoroutine") = false := by kernel_rfl
theorem n_lock : (Try.f28.name == "runtime.NumGoroutine") = false := by kernel_rfl
theorem n_unlock : (Try.f29.name == "runtime.NumGoroutine") = false := by kernel_rfl
theorem n_work : (Try.f93.name == "runtime.NumGoroutine") = false := by kernel_rfl
theorem n_share : (Try.f47.name == "runtime.NumGoroutine") = false := by kernel_rfl
end Go.Proofs.Ytpfpokjaeffbjab.Cc
namespace Go.Proofs.Ytpfpokjaeffbjab.Cc
open Go.Conc Go.ConcN Go.ConcM Go.RowKit Go.Conc.Lib Go.ConcR.Gen
open Go.ConcR (KK wgBlock WgAt stA smA rd wr mk DC0)
set_option linter.unusedVariables false
set_option linter.unusedSimpArgs false
section
variable {q : Prm} (hP : q.P = Try.prog) {i : Nat} {s : Scene} {x : Wk} {Ch : Nat → Goroutine → St Gho → Prop}
variable {b₁ : Frame} {a₁ : Act} {ops₁ : Array Oper} {i₁ : Nat} {rest₁ : List Nat} {k₁ : List Item} {cs₁ : List Frame}
noncomputable def bloadBody : Code := Try.f115.body.getD .skip
include hP
set_option maxRecDepth 100000 in
set_option maxHeartbeats 8000000 in
theorem bloadGo (hx : x.wg = .work) (hdf : x.df = 0) (n1 : x.mx ≠ .own .work)
    (h1 : ∀ st' : St Gho, At s i { x with syn := true } st' → Inv q st' → st'.γ.D = 1 → TT (cfg q) i Ch (G (b₁.at (a₁.put ((ops₁[i₁]?).bind (·.dst)) (.bool true)) (.inRegion ops₁ rest₁ :: k₁)) cs₁) st')
    (h0 : x.mx ≠ .own .chk → ∀ st' : St Gho, At s i x st' → Inv q st' → TT (cfg q) i Ch (G (b₁.at (a₁.put ((ops₁[i₁]?).bind (·.dst)) (.bool false)) (.inRegion ops₁ rest₁ :: k₁)) cs₁) st')
    (hw : x.mx = .own .chk → ∀ st' : St Gho, At s i { x with mx := .own .work } st' → Inv q st' → TT (cfg q) i Ch (G (b₁.at (a₁.put ((ops₁[i₁]?).bind (·.dst)) (.bool false)) (.inRegion ops₁ rest₁ :: k₁)) cs₁) st')
    {st : St Gho} (hA : At s i x st) : TT (cfg q) i Ch (G ((base 115).at ⟨#[.pointer (some ⟨s.Gb, 3, none⟩), undef, undef, undef, undef, undef, undef, undef], []⟩ [.code bloadBody]) (b₁.at a₁ (.inRegion ops₁ (i₁ :: rest₁) :: k₁) :: cs₁)) st := by
  simp only [bloadBody, Try.f115, Option.getD_some]
  refine TT.road hP hA (by simp [hx]) 60 fun w₀ hF => ?_
  repeat w_go road_rely
  refine Goes.stop (fun w₁ r₁ => ⟨rfl, ?_⟩)
  clear hF r₁ w₁ w₀
  refine TT.load3 hP hA hx hdf n1 fun st₁ hA₁ hI₁ hC₁ => ⟨_, stepG_load_atomic rfl rfl (by k_ne) rfl Try.func125 n_ld32 b_ld32 x_ld32 .u32 f_ld32 rfl hC₁.gb.cell.1, rfl, fun hD st₂ hA₂ hI₂ hD₂ => ?_, fun hD hm st₂ hA₂ hI₂ => ?_, fun hD hm st₂ hA₂ hI₂ => ?_⟩
  all_goals (rw [hD]; clear hD hC₁ hI₁ hA₁)
  · refine TT.road hP hA₂ (by simp [hx]) 60 fun w₀ hF => ?_
    walk_nrm
    repeat w_go road_rely
    u_leave1 Try.func115 road_rely hF
    refine Goes.stop (fun w₁ r₁ => ⟨rfl, ?_⟩)
    exact h1 st₂ hA₂ hI₂ hD₂
  · refine TT.road hP hA₂ (by simp [hx]) 60 fun w₀ hF => ?_
    walk_nrm
    repeat w_go road_rely
    u_leave1 Try.func115 road_rely hF
    refine Goes.stop (fun w₁ r₁ => ⟨rfl, ?_⟩)
    exact h0 hm st₂ hA₂ hI₂
  · refine TT.road hP hA₂ (by simp [hx]) 60 fun w₀ hF => ?_
    walk_nrm
    repeat w_go road_rely
    u_leave1 Try.func115 road_rely hF
    refine Goes.stop (fun w₁ r₁ => ⟨rfl, ?_⟩)
    exact hw hm st₂ hA₂ hI₂
end
end Go.Proofs.Ytpfpokjaeffbjab.Cc
namespace Go.Proofs.Ytpfpokjaeffbjab.Cc
open Go.Conc Go.ConcN Go.ConcM Go.RowKit Go.Conc.Lib Go.ConcR.Gen
open Go.ConcR (KK wgBlock WgAt stA smA rd wr mk DC0)
set_option linter.unusedVariables false
set_option linter.unusedSimpArgs false
section
variable {q : Prm} (hP : q.P = Try.prog) {i : Nat} {s : Scene} {x : Wk} {Ch : Nat → Goroutine → St Gho → Prop} {cs₁ : List Frame}
noncomputable def bstoreBody : Code := Try.f126.body.getD .skip
noncomputable def bstoreOps : Array Oper := match bstoreBody with | .region _ ops _ => ops | _ => #[]
def StoreS (q : Prm) (i : Nat) (s : Scene) (x : Wk) (l : Array Bool) (st : St Gho) : Prop :=
  if l.getD 5 true = true then At s i { x with mx := .own .dn, syn := true } st ∧ Inv q st
  else At s i x st ∧ Inv q st ∧ ∀ id, 1 ≤ id → id ≤ s.nn → st.w.cell? ⟨s.Gb, 6 + id, none⟩ = some (.int .u64 (s.vals id))
theorem StoreS.keep {l : Array Bool} {j : Nat} (hj : j ≠ 5) {st : St Gho} (hx : x.wg = .work) (n1 : x.mx = .own .work) (hnn : s.nn ≤ 9) (h : StoreS q i s x l st) : (∃ x : Wk, (x.wg ≠ .lv ∧ x.wg ≠ .gone ∧ x.wg ≠ .idle) ∧ At s i x st) ∧ ∀ st₁, Rl i st st₁ → Inv q st₁ → StoreS q i s x (l.setIfInBounds j true) st₁ := by
  unfold StoreS at h ⊢
  rw [getD_set_ne true hj]
  split at h
  · rename_i e
    refine ⟨⟨_, by simp [hx], h.1⟩, fun st₁ hr hi => ?_⟩
    rw [if_pos e]
    exact ⟨h.1.rely (by simp [hx]) hr hi, hi⟩
  · rename_i e
    refine ⟨⟨x, by simp [hx], h.1⟩, fun st₁ hr hi => ?_⟩
    rw [if_neg e]
    refine ⟨h.1.rely (by simp [hx]) hr hi, hi, fun id i1 i2 => ?_⟩
    exact (hr.work h.1.ne (by rw [h.1.me, hx]; simp) (by rw [h.1.me, hx]; simp) (by rw [h.1.me]; exact n1) s h.1.sc (6 + id) (by omega) (by omega)).trans (h.2.2 id i1 i2)
theorem StoreS.stay {l : Array Bool} {st : St Gho} (hx : x.wg = .work) (n1 : x.mx = .own .work) (hnn : s.nn ≤ 9) (h : StoreS q i s x l st) : (∃ x : Wk, (x.wg ≠ .lv ∧ x.wg ≠ .gone ∧ x.wg ≠ .idle) ∧ At s i x st) ∧ ∀ st₁, Rl i st st₁ → Inv q st₁ → StoreS q i s x l st₁ := by
  unfold StoreS at h ⊢
  split at h
  · rename_i e
    refine ⟨⟨_, by simp [hx], h.1⟩, fun st₁ hr hi => ?_⟩
    rw [if_pos e]
    exact ⟨h.1.rely (by simp [hx]) hr hi, hi⟩
  · rename_i e
    refine ⟨⟨x, by simp [hx], h.1⟩, fun st₁ hr hi => ?_⟩
    rw [if_neg e]
    refine ⟨h.1.rely (by simp [hx]) hr hi, hi, fun id i1 i2 => ?_⟩
    exact (hr.work h.1.ne (by rw [h.1.me, hx]; simp) (by rw [h.1.me, hx]; simp) (by rw [h.1.me]; exact n1) s h.1.sc (6 + id) (by omega) (by omega)).trans (h.2.2 id i1 i2)
theorem StoreS.inv {l : Array Bool} {st : St Gho} (h : StoreS q i s x l st) : Inv q st := by
  unfold StoreS at h
  split at h
  · exact h.2
  · exact h.2.1
include hP
set_option maxRecDepth 100000 in
set_option maxHeartbeats 16000000 in
theorem b32Go {x' : Wk} (hx : x'.wg ≠ .lv ∧ x'.wg ≠ .gone ∧ x'.wg ≠ .idle) {b₁ : Frame} {a₁ : Act} {ops₁ : Array Oper} {i₁ : Nat} {rest₁ : List Nat} {k₁ : List Item} {st : St Gho} (hA : At s i x' st)
    (hT : TT (cfg q) i Ch (G (b₁.at (a₁.put ((ops₁[i₁]?).bind (·.dst)) (.int .u32 1)) (.inRegion ops₁ rest₁ :: k₁)) cs₁) st) :
    TT (cfg q) i Ch (G (Frame.enter Try.prog 128 #[.bool true] .normal) (b₁.at a₁ (.inRegion ops₁ (i₁ :: rest₁) :: k₁) :: cs₁)) st := by
  rw [enter_at (P := Try.prog) _ Try.func128 rfl]
  simp only [Try.f128]
  refine TT.road hP hA hx 60 fun w₀ hF => ?_
  walk_nrm
  repeat w_go road_rely
  u_leave1 Try.func128 road_rely hF
  exact Goes.stop (fun w₁ r₁ => ⟨rfl, hT⟩)
set_option maxRecDepth 100000 in
set_option maxHeartbeats 16000000 in
theorem bstoreGo (hx : x.wg = .work) (hdf : x.df = 0) (n1 : x.mx = .own .work) (hnn : s.nn ≤ 9) (hmix : Try.prog.follows .mixedOrders = true) {c : Frame} (hc : c.mode = .returning)
    (hT : ∀ st' : St Gho, At s i { x with mx := .own .dn, syn := true } st' → Inv q st' → TT (cfg q) i Ch (G c cs₁) st')
    {st : St Gho} (hA : At s i x st) (hv : ∀ id, 1 ≤ id → id ≤ s.nn → st.w.cell? ⟨s.Gb, 6 + id, none⟩ = some (.int .u64 (s.vals id))) :
    TT (cfg q) i Ch (G ((baseD 126).at ⟨#[.pointer (some ⟨s.Gb, 3, none⟩), .bool true, undef, undef, undef, undef, undef, undef, undef, undef], []⟩ [.code bstoreBody]) (c :: cs₁)) st := by
  simp only [bstoreBody, Try.f126, Option.getD_some]
  refine TT.ask hP hA hx fun st₁ hA₁ hI₁ => ⟨_, stepG_region_draw, rfl, fun st₂ hA₂ hI₂ hsh => ?_⟩
  simp only [Region.schedule, hmix, Bool.true_or, if_true, Region.linearise]
  have hv₂ : ∀ id, 1 ≤ id → id ≤ s.nn → st₂.w.cell? ⟨s.Gb, 6 + id, none⟩ = some (.int .u64 (s.vals id)) := fun id i1 i2 => (hsh n1 (6 + id) (by omega) (by omega)).trans (hv id i1 i2)
  refine anyT_sound (S := StoreS q i s x) (md := .any) (F := fun l a => l.getD 5 true = true ∧ a.defers = []) ?_ ?_ _ _ _ _ st₂ ?_ ?_
  · intro l a st' ⟨hl, hd⟩ hs
    unfold StoreS at hs
    rw [if_pos hl] at hs
    obtain ⟨tm, df⟩ := a
    simp only at hd
    subst hd
    refine TT.road hP hs.1 (by simp [hx]) 60 fun w₀ hF => ?_
    repeat w_go road_rely
    u_in road_rely hF
    rw [stepG_leave_deferred rfl rfl Try.func126 (results_none rfl _ _ _) (events_results_none rfl _ _) hc]
    simp only [goes_go]
    refine ⟨by u_nil, ?_⟩
    refine Goes.stop (fun w₁ r₁ => ⟨rfl, ?_⟩)
    exact hT st' hs.1 hs.2
  · intro j l a o rest st' ho _ hw
    exfalso
    rcases j with _ | _ | _ | _ | _ | _ | j <;> simp at ho <;> subst ho <;> simp [Region.wanted] at hw
  · have keep : ∀ (j : Nat), j ≠ 5 → ∀ (l : Array Bool) (st : St Gho), l.getD j true = false → StoreS q i s x l st → (∃ x : Wk, (x.wg ≠ .lv ∧ x.wg ≠ .gone ∧ x.wg ≠ .idle) ∧ At s i x st) ∧ ∀ st₁, Rl i st st₁ → Inv q st₁ → StoreS q i s x (l.setIfInBounds j true) st₁ := fun j hj l st _ hs => hs.keep hj hx n1 hnn
    change AnyT (cfg q) i Ch _ _ [] _ _ .any _ 6 #[false, false, false, false, false, false] _
    refine anyT_take (i' := 0) (v := .pointer (some ⟨s.Gb, 3, none⟩)) rfl (by kernel_rfl) (by kernel_rfl) (by kernel_rfl) (.inl ⟨rfl, Does.quiet hP rfl (by decide) (keep 0 (by decide)) (fun w => rfl) (fun a w h => by unfold listed; rw [h]; rfl)⟩) ?_
    refine anyT_take (i' := 1) (v := .pointer (some ⟨s.Gb, 3, none⟩)) rfl (by kernel_rfl) (by kernel_rfl) (by kernel_rfl) (.inl ⟨rfl, Does.quiet hP rfl (by decide) (keep 1 (by decide)) (fun w => rfl) (fun a w h => by unfold listed; rw [h]; rfl)⟩) ?_
    refine anyT_take (i' := 2) (v := .pointer (some ⟨s.Gb, 3, none⟩)) rfl (by kernel_rfl) (by kernel_rfl) (by kernel_rfl) (.inl ⟨rfl, Does.quiet hP rfl (by decide) (keep 2 (by decide)) (fun w => rfl) (fun a w h => by unfold listed; rw [h]; rfl)⟩) ?_
    refine anyT_take (i' := 3) (v := .bool true) rfl (by kernel_rfl) (by kernel_rfl) (by kernel_rfl) (.inl ⟨rfl, Does.quiet hP rfl (by decide) (keep 3 (by decide)) (fun w => rfl) (fun a w h => by unfold listed; rw [h]; rfl)⟩) ?_
    refine anyT_take (i' := 4) (v := .int .u32 1) rfl (by kernel_rfl) (by kernel_rfl) (by kernel_rfl) (.inl ⟨rfl, Does.call hP rfl (by decide) rfl Try.func128 n_b32 rfl (by simp [Act.eval, Act.put]; rfl) (fun l st hs => hs.stay hx n1 hnn) ?_⟩) ?_
    · intro l a rest st hl hs fin
      obtain ⟨⟨x', hx', hAx⟩, -⟩ := hs.stay hx n1 hnn
      refine b32Go hP hx' hAx ?_
      exact fin st ((keep 4 (by decide) l st hl hs).2 st (Rl.refl i st) hs.inv)
    refine anyT_take (i' := 5) (v := .tuple #[]) rfl (by kernel_rfl) (by kernel_rfl) (by kernel_rfl) (.inl ⟨rfl, ?_⟩) ⟨by kernel_rfl, by kernel_rfl, rfl⟩
    intro l a rest st hl hs he hw hn
    have hlen : 5 < l.size := by
      refine Nat.lt_of_not_le fun hge => ?_
      simp [Array.getD, Nat.not_lt.2 hge] at hl
    unfold StoreS at hs
    rw [if_neg (by rw [hl]; decide)] at hs
    have e1 := he.trans (show _ = callFunc 127 #[.pointer (some ⟨s.Gb, 3, none⟩), .int .u32 1] from (execOp_call_func rfl).trans (by simp [Act.eval, Act.put]))
    refine TT.store3 hP hs.1 hx hdf n1 hs.2.2 hnn fun st₁ hA₁ hI₁ hC₁ => ⟨_, ?_, rfl, fun st₂ hA₂ hI₂ => hn st₂ ?_⟩
    · have hr := run_call_store (P := Try.prog) Try.func127 n_st32 b_st32 x_st32 f_st32 hC₁.gb.cell.1 (hC₁.gb.cell.2.2.2 3) (k := .u32) (y := 1)
      have hv := events_call_store (P := Try.prog) Try.func127 n_st32 b_st32 x_st32 f_st32 hC₁.gb.cell.1 (hC₁.gb.cell.2.2.2 3) (k := .u32) (y := 1)
      rw [stepG_value (v := .tuple #[]) (w' := st₁.w.setCell ⟨s.Gb, 3, none⟩ (.int .u32 1)) rfl hw (by decide) (by rw [e1]; exact hr)]
      unfold listed
      rw [e1, hv, seen_extern_sync]
    · unfold StoreS
      rw [if_pos (by simp [Array.getD, hlen])]
      exact ⟨hA₂, hI₂⟩
  · unfold StoreS
    rw [if_neg (by decide)]
    exact ⟨hA₂, hI₂, hv₂⟩
end
end Go.Proofs.Ytpfpokjaeffbjab.Cc
namespace Go.Proofs.Ytpfpokjaeffbjab.Cc
open Go.Conc Go.ConcN Go.ConcM Go.RowKit Go.Conc.Lib Go.ConcR.Gen
open Go.ConcR (KK wgBlock WgAt stA smA rd wr mk DC0)
set_option linter.unusedVariables false
set_option linter.unusedSimpArgs false
theorem goes_callv {P : Program} {main : Bool} {b : Frame} {a : Act} {k : List Item} {cs : List Frame} {w : World} {ops : Array Oper} {i : Nat} {rest : List Nat} {o : Oper} {K : Goroutine → World → Array Event → Prop} {f : FuncId} {fn : Func} {c : Code} {y : Operand} {ats : Array TypeId} {first : Array Value}
    (ho : ops[i]? = some o) (hw : Region.wanted o (yielded ops a.tmps) = true) (hk : b.kind ≠ .early) (hop : o.op = .call { callee := .value y, args := #[], argTypes := ats }) (hy : a.eval y = .func (.func f) first #[])
    (hf : P.funcs[f]? = some fn) (hname : (fn.name == "runtime.NumGoroutine") = false) (hb : fn.body = some c)
    (h : K (G ((base f).at { tmps := first ++ Array.replicate (fn.ntmps - first.size) undef, defers := [] } [.code c]) (b.at a (.inRegion ops (i :: rest) :: k) :: cs)) w #[]) :
    (stepG P main (G (b.at a (.inRegion ops (i :: rest) :: k)) cs) w).goes K := by
  have h1 : ¬ fn.name = "runtime.NumGoroutine" := by simpa using hname
  have hr : (execOp a.eval o).run P w = .ok (.enter f first) w := by
    unfold execOp
    simp [hop, resolve, Deferred.ofValue, invoke, callFunc, hf, h1, hb, hy]
  have he : (execOp a.eval o).events P w #[] = #[] := by
    unfold execOp
    simp [hop, resolve, Deferred.ofValue, invoke, callFunc, hf, h1, hb, hy]
  rw [stepG_enter ho hw hk hr, enter_at _ hf hb]
  have : listed P b.fn a o w = #[] := by unfold listed; rw [he]; exact seen_none P _
  rw [this]
  exact h
section
variable {q : Prm} (hP : q.P = Try.prog) {i : Nat} {s : Scene} {x : Wk} {Ch : Nat → Goroutine → St Gho → Prop}
variable {b₁ : Frame} {a₁ : Act} {ops₁ : Array Oper} {i₁ : Nat} {rest₁ : List Nat} {k₁ : List Item} {cs₁ : List Frame}
def Laid (s : Scene) (st : St Gho) : Prop := ∀ id, 1 ≤ id → id ≤ s.nn → st.w.cell? ⟨s.Gb, 6 + id, none⟩ = some (.int .u64 (s.vals id))
noncomputable def workBody : Code := Try.f93.body.getD .skip
def WorkOk (q : Prm) (i : Nat) (Ch : Nat → Goroutine → St Gho → Prop) (s : Scene) (x : Wk) : Prop :=
  ∀ (b₁ : Frame) (a₁ : Act) (ops₁ : Array Oper) (i₁ : Nat) (rest₁ : List Nat) (k₁ : List Item) (cs₁ : List Frame) (st : St Gho), At s i { x with mx := .own .work, df := 0 } st → Inv q st →
    (∀ st' : St Gho, At s i { x with mx := .own .work, df := 0 } st' → Inv q st' → Laid s st' → TT (cfg q) i Ch (G (b₁.at (a₁.put ((ops₁[i₁]?).bind (·.dst)) (.tuple #[])) (.inRegion ops₁ rest₁ :: k₁)) cs₁) st') →
    TT (cfg q) i Ch (G ((base 93).at ⟨#[.pointer (some ⟨s.Gb, 0, none⟩), undef, undef, undef, undef, undef, undef, undef, undef, undef, undef, undef, undef, undef, undef, undef, undef, undef, undef, undef, undef, undef, undef, undef, undef, undef, undef, undef, undef, undef, undef, undef, undef, undef, undef, undef, undef, undef, undef, undef], []⟩ [.code workBody]) (b₁.at a₁ (.inRegion ops₁ (i₁ :: rest₁) :: k₁) :: cs₁)) st
noncomputable def unlockBody : Code := Try.f29.body.getD .skip
include hP
set_option maxRecDepth 100000 in
set_option maxHeartbeats 16000000 in
theorem dunlockGo (hx : x.wg = .work) {c : Frame} (hc : c.mode = .returning) (hT : ∀ st' : St Gho, At s i { x with mx := .out, df := 0 } st' → Inv q st' → TT (cfg q) i Ch (G c cs₁) st') {o : OwnS} (ho : o ≠ .work) {st : St Gho} (hA : At s i { x with mx := .own o, df := 0 } st) :
    TT (cfg q) i Ch (G ((baseD 29).at ⟨#[.pointer (some ⟨s.Gb, 4, none⟩), undef, undef, undef, undef, undef], []⟩ [.code unlockBody]) (c :: cs₁)) st := by
  simp only [unlockBody, Try.f29, Option.getD_some]
  refine TT.road hP hA (by simp [hx]) 80 fun w₀ hF => ?_
  repeat w_go road_rely
  u_call Try.func72 n_iunlock Try.f72 road_rely hF
  refine Goes.stop (fun w₁ r₁ => ⟨rfl, ?_⟩)
  clear hF r₁ w₁ w₀
  refine iunlockGo hP hx ?_ ho hA
  intro st₅ hA₅ hI₅
  walk_nrm
  refine TT.road hP hA₅ (by simp [hx]) 80 fun w₀ hF => ?_
  repeat w_go road_rely
  u_in road_rely hF
  rw [stepG_leave_deferred rfl rfl Try.func29 (results_none rfl _ _ _) (events_results_none rfl _ _) hc]
  simp only [goes_go]
  refine ⟨by u_nil, ?_⟩
  exact Goes.stop (fun w₁ r₁ => ⟨rfl, hT st₅ hA₅ hI₅⟩)
noncomputable def dslowBody : Code := Try.f116.body.getD .skip
set_option maxRecDepth 100000 in
set_option maxHeartbeats 16000000 in
theorem dslowGo (hx : x.wg = .work) (hnn : s.nn ≤ 9) (hW : WorkOk q i Ch s x)
    (hT : ∀ st' : St Gho, At s i { x with mx := .out, df := 0, syn := true } st' → Inv q st' → TT (cfg q) i Ch (G (b₁.at (a₁.put ((ops₁[i₁]?).bind (·.dst)) (.tuple #[])) (.inRegion ops₁ rest₁ :: k₁)) cs₁) st')
    {st : St Gho} (hA : At s i { x with mx := .fresh, df := 0 } st) :
    TT (cfg q) i Ch (G ((base 116).at ⟨#[.pointer (some ⟨s.Gb, 3, none⟩), .func (.func 93) #[.pointer (some ⟨s.Gb, 0, none⟩)] #[], undef, undef, undef, undef, undef, undef, undef, undef, undef, undef, undef, undef, undef, undef, undef, undef, undef, undef, undef], []⟩ [.code dslowBody]) (b₁.at a₁ (.inRegion ops₁ (i₁ :: rest₁) :: k₁) :: cs₁)) st := by
  simp only [dslowBody, Try.f116, Option.getD_some]
  refine TT.road hP hA (by simp [hx]) 80 fun w₀ hF => ?_
  repeat w_go road_rely
  u_call Try.func28 n_lock Try.f28 road_rely hF
  refine Goes.stop (fun w₁ r₁ => ⟨rfl, ?_⟩)
  clear hF r₁ w₁ w₀
  refine lockGo hP hx ?_ hA
  intro st₁ hA₁ hI₁
  walk_nrm
  refine TT.road hP hA₁ (by simp [hx]) 80 fun w₀ hF => ?_
  repeat w_go road_rely
  u_defer road_rely hF
  repeat w_go road_rely
  u_call Try.func115 n_bload Try.f115 road_rely hF
  refine Goes.stop (fun w₁ r₁ => ⟨rfl, ?_⟩)
  clear hF r₁ w₁ w₀
  refine bloadGo hP (x := { x with mx := .own .chk, df := 0 }) hx rfl (by simp) ?_ (fun h => absurd rfl h) ?_ hA₁
  ·
    intro st₂ hA₂ hI₂ hD₂
    walk_nrm
    refine TT.road hP hA₂ (by simp [hx]) 80 fun w₀ hF => ?_
    repeat w_go road_rely
    u_in road_rely hF
    rw [stepG_unwind_enter rfl Try.func29 n_unlock rfl]
    simp only [goes_go]
    refine ⟨by u_nil, ?_⟩
    walk_nrmf Try.f29
    refine Goes.stop (fun w₁ r₁ => ⟨rfl, ?_⟩)
    clear hF r₁ w₁ w₀
    refine dunlockGo hP (x := { x with syn := true }) hx rfl ?_ (o := .chk) (by simp) hA₂
    intro st₃ hA₃ hI₃
    refine TT.road hP hA₃ (by simp [hx]) 80 fun w₀ hF => ?_
    u_leave0 Try.func116 road_rely hF
    exact Goes.stop (fun w₁ r₁ => ⟨rfl, hT st₃ hA₃ hI₃⟩)
  · intro _ st₂ hA₂ hI₂
    walk_nrm
    refine TT.road hP hA₂ (by simp [hx]) 80 fun w₀ hF => ?_
    repeat w_go road_rely
    u_defer road_rely hF
    repeat w_go road_rely
    u_in road_rely hF
    refine goes_callv rfl rfl (by k_ne) rfl rfl Try.func93 n_work rfl ⟨by u_nil, ?_⟩
    walk_nrmf Try.f93
    refine Goes.stop (fun w₁ r₁ => ⟨rfl, ?_⟩)
    clear hF r₁ w₁ w₀
    refine hW _ _ _ _ _ _ _ st₂ hA₂ hI₂ ?_
    intro st₃ hA₃ hI₃ hL₃
    walk_nrm
    refine TT.road hP hA₃ (by simp [hx]) 80 fun w₀ hF => ?_
    repeat w_go road_rely
    u_in road_rely hF
    rw [stepG_unwind_enter rfl Try.func126 n_bstore rfl]
    simp only [goes_go]
    refine ⟨by u_nil, ?_⟩
    walk_nrmf Try.f126
    refine Goes.stop (fun w₁ r₁ => ⟨rfl, ?_⟩)
    clear hF r₁ w₁ w₀
    refine bstoreGo hP (x := { x with mx := .own .work, df := 0 }) hx rfl rfl hnn (by kernel_rfl) rfl ?_ hA₃ hL₃
    intro st₄ hA₄ hI₄
    refine TT.road hP hA₄ (by simp [hx]) 80 fun w₀ hF => ?_
    u_in road_rely hF
    rw [stepG_unwind_enter rfl Try.func29 n_unlock rfl]
    simp only [goes_go]
    refine ⟨by u_nil, ?_⟩
    walk_nrmf Try.f29
    refine Goes.stop (fun w₁ r₁ => ⟨rfl, ?_⟩)
    clear hF r₁ w₁ w₀
    refine dunlockGo hP (x := { x with syn := true }) hx rfl ?_ (o := .dn) (by simp) hA₄
    intro st₅ hA₅ hI₅
    refine TT.road hP hA₅ (by simp [hx]) 80 fun w₀ hF => ?_
    u_leave0 Try.func116 road_rely hF
    exact Goes.stop (fun w₁ r₁ => ⟨rfl, hT st₅ hA₅ hI₅⟩)
noncomputable def doBody : Code := Try.f92.body.getD .skip
set_option maxRecDepth 100000 in
set_option maxHeartbeats 16000000 in
theorem doGo (hx : x.wg = .work) (hnn : s.nn ≤ 9) (hW : WorkOk q i Ch s x)
    (hT : ∀ (mx : MX) (st' : St Gho), mx = .fresh ∨ mx = .out → At s i { x with mx := mx, df := 0, syn := true } st' → Inv q st' → TT (cfg q) i Ch (G (b₁.at (a₁.put ((ops₁[i₁]?).bind (·.dst)) (.tuple #[])) (.inRegion ops₁ rest₁ :: k₁)) cs₁) st')
    {st : St Gho} (hA : At s i { x with mx := .fresh, df := 0 } st) :
    TT (cfg q) i Ch (G ((base 92).at ⟨#[.pointer (some ⟨s.Gb, 3, none⟩), .func (.func 93) #[.pointer (some ⟨s.Gb, 0, none⟩)] #[], undef, undef, undef, undef, undef, undef, undef, undef, undef, undef], []⟩ [.code doBody]) (b₁.at a₁ (.inRegion ops₁ (i₁ :: rest₁) :: k₁) :: cs₁)) st := by
  simp only [doBody, Try.f92, Option.getD_some]
  refine TT.road hP hA (by simp [hx]) 80 fun w₀ hF => ?_
  repeat w_go road_rely
  u_call Try.func115 n_bload Try.f115 road_rely hF
  refine Goes.stop (fun w₁ r₁ => ⟨rfl, ?_⟩)
  clear hF r₁ w₁ w₀
  refine bloadGo hP (x := { x with mx := .fresh, df := 0 }) hx rfl (by simp) ?_ (fun _ => ?_) (fun h => by cases h) hA
  · intro st₂ hA₂ hI₂ hD₂
    walk_nrm
    refine TT.road hP hA₂ (by simp [hx]) 80 fun w₀ hF => ?_
    repeat w_go road_rely
    u_leave0 Try.func92 road_rely hF
    exact Goes.stop (fun w₁ r₁ => ⟨rfl, hT .fresh st₂ (.inl rfl) hA₂ hI₂⟩)
  · intro st₂ hA₂ hI₂
    walk_nrm
    refine TT.road hP hA₂ (by simp [hx]) 80 fun w₀ hF => ?_
    repeat w_go road_rely
    u_call Try.func116 n_doslow Try.f116 road_rely hF
    refine Goes.stop (fun w₁ r₁ => ⟨rfl, ?_⟩)
    clear hF r₁ w₁ w₀
    refine dslowGo hP hx hnn hW ?_ hA₂
    intro st₃ hA₃ hI₃
    walk_nrm
    refine TT.road hP hA₃ (by simp [hx]) 80 fun w₀ hF => ?_
    repeat w_go road_rely
    u_leave0 Try.func92 road_rely hF
    exact Goes.stop (fun w₁ r₁ => ⟨rfl, hT .out st₃ (.inr rfl) hA₃ hI₃⟩)
end
end Go.Proofs.Ytpfpokjaeffbjab.Cc
