/- Part of the proof: Any, Mu3, Read, Lv. -/
import Derived.Test.YtpfpokjaeffbjabGa9
import Derived.Conc.CompanyDraw
import Derived.Test.YtpfpokjaeffbjabGa11
namespace Go.Proofs.Ytpfpokjaeffbjab.Cc
open Go.Conc Go.ConcN
set_option linter.unusedVariables false
section
variable {Γ : Type} (C : Cfg Γ) (i : Nat) (Ch : Nat → Goroutine → St Γ → Prop) (b : Frame) (ops : Array Oper) (k : List Item) (cs : List Frame) (S : Array Bool → St Γ → Prop)
def Does (j : Nat) (o : Oper) (X : Sem Next) (v : Value) : Prop :=
  ∀ (l : Array Bool) (a : Act) (rest : List Nat) (st : St Γ), l.getD j true = false → S l st → execOp a.eval o = X → Region.wanted o (yielded ops a.tmps) = true → (∀ st', S (l.setIfInBounds j true) st' → TT C i Ch (G (b.at (a.put o.dst v) (.inRegion ops rest :: k)) cs) st') → TT C i Ch (G (b.at a (.inRegion ops (j :: rest) :: k)) cs) st
def OpT (j : Nat) (K : Act → Prop) (a : Act) : Prop :=
  match ops[j]? with
  | none => False
  | some o => if Region.wanted o (yielded ops a.tmps) then ∃ v, Does C i Ch b ops k cs S j o (execOp a.eval o) v ∧ K (a.put o.dst v) else K (a.put o.dst undef)
def AnyT (md : Region.Mode) (F : Array Bool → Act → Prop) : Nat → Array Bool → Act → Prop
  | 0, listed, a => Region.ready md ops listed = [] ∧ F listed a
  | n + 1, listed, a => (Region.ready md ops listed = [] → F listed a) ∧ ∀ j ∈ Region.ready md ops listed, OpT C i Ch b ops k cs S j (AnyT md F n (listed.setIfInBounds j true)) a
end
section
variable {Γ : Type} {C : Cfg Γ} {i : Nat} {Ch : Nat → Goroutine → St Γ → Prop} {b : Frame} {ops : Array Oper} {k : List Item} {cs : List Frame} {S : Array Bool → St Γ → Prop}
theorem OpT.mono {j : Nat} {K K' : Act → Prop} {a : Act} (h : OpT C i Ch b ops k cs S j K a) (hk : ∀ a, K a → K' a) : OpT C i Ch b ops k cs S j K' a := by
  unfold OpT at *
  split
  · simp_all
  · rename_i o ho
    simp only [ho] at h
    split
    · rename_i hw
      simp only [hw, if_true] at h
      obtain ⟨v, h1, h2⟩ := h
      exact ⟨v, h1, hk _ h2⟩
    · rename_i hw
      simp only [hw] at h
      exact hk _ h
theorem anyT_sound {md : Region.Mode} {F : Array Bool → Act → Prop} (hF : ∀ l a st, F l a → S l st → TT C i Ch (G (b.at a (.inRegion ops [] :: k)) cs) st)
    (sk : ∀ (j : Nat) (l : Array Bool) (a : Act) (o : Oper) (rest : List Nat) (st : St Γ), ops[j]? = some o → l.getD j true = false → Region.wanted o (yielded ops a.tmps) = false → S l st → (∀ st', S (l.setIfInBounds j true) st' → TT C i Ch (G (b.at (a.put o.dst undef) (.inRegion ops rest :: k)) cs) st') → TT C i Ch (G (b.at a (.inRegion ops (j :: rest) :: k)) cs) st) :
    ∀ (n t : Nat) (listed : Array Bool) (a : Act) (st : St Γ), AnyT C i Ch b ops k cs S md F n listed a → S listed st → TT C i Ch (G (b.at a (.inRegion ops (Region.linearise.go md ops n t listed []) :: k)) cs) st := by
  intro n
  induction n with
  | zero => intro t listed a st h hs; exact hF listed a st h.2 hs
  | succ n ih =>
    intro t listed a st h hs
    obtain ⟨h₀, h₁⟩ := h
    simp only [Region.linearise.go]
    change TT C i Ch (G (b.at a (.inRegion ops (match (Region.ready md ops listed)[t % (Region.ready md ops listed).length]? with
      | some i => Region.linearise.go md ops n (t / (Region.ready md ops listed).length) (listed.setIfInBounds i true) [i]
      | none => [].reverse) :: k)) cs) st
    cases hi : (Region.ready md ops listed)[t % (Region.ready md ops listed).length]? with
    | none =>
      have hnil : Region.ready md ops listed = [] := by
        cases hr : Region.ready md ops listed with
        | nil => rfl
        | cons x xs =>
          rw [hr] at hi
          have hlt : t % (x :: xs).length < (x :: xs).length := Nat.mod_lt _ (by simp)
          simp at hi
          simp at hlt
          omega
      exact hF listed a st (h₀ hnil) hs
    | some j =>
      simp only []
      rw [linearise_go_acc, List.reverse_singleton, List.singleton_append]
      have hmj := List.mem_of_getElem? hi
      have hun := (mem_ready.1 hmj).1
      have h := h₁ j hmj
      unfold OpT at h
      split at h
      · exact h.elim
      · rename_i o ho
        split at h
        · rename_i hw
          obtain ⟨v, h1, h2⟩ := h
          exact h1 listed a _ st hun hs rfl hw fun st' hs' => ih _ _ _ st' h2 hs'
        · rename_i hw
          exact sk j listed a o _ st ho hun (by simpa using hw) hs fun st' hs' => ih _ _ _ st' h hs'
variable (C i Ch b ops k cs S) in
def YieldsT (j : Nat) (o : Oper) (v : Value) (a : Act) : Prop :=
  (Region.wanted o (yielded ops a.tmps) = true ∧ Does C i Ch b ops k cs S j o (execOp a.eval o) v) ∨ (Region.wanted o (yielded ops a.tmps) = false ∧ v = undef)
theorem YieldsT.of_same {j : Nat} {o : Oper} {v : Value} {a a' : Act} (hy : YieldsT C i Ch b ops k cs S j o v a) (he : execOp a'.eval o = execOp a.eval o) (hw : Region.wanted o (yielded ops a'.tmps) = Region.wanted o (yielded ops a.tmps)) : YieldsT C i Ch b ops k cs S j o v a' := by
  unfold YieldsT at *
  rw [he, hw]; exact hy
theorem YieldsT.op {j : Nat} {o : Oper} {v : Value} {a : Act} (hj : ops[j]? = some o) (hy : YieldsT C i Ch b ops k cs S j o v a) {K : Act → Prop} (h : K (a.put o.dst v)) : OpT C i Ch b ops k cs S j K a := by
  unfold OpT
  simp only [hj]
  rcases hy with ⟨hw, hv⟩ | ⟨hw, rfl⟩
  · simp only [hw, if_true]; exact ⟨v, hv, h⟩
  · simp only [hw, Bool.false_eq_true, if_false]; exact h
theorem OpT_putIf {i' j : Nat} {oi oj : Oper} {v : Value} (hj : ops[j]? = some oj) (hap : oi.apart ops oj = true) (hsi : ∀ cs b, oi.op ≠ .select cs b) (hsj : ∀ cs b, oj.op ≠ .select cs b) {K : Act → Prop} {a : Act}
    (hy : YieldsT C i Ch b ops k cs S i' oi v a) (h : OpT C i Ch b ops k cs S j K (a.put oi.dst v)) : OpT C i Ch b ops k cs S j (fun a' => YieldsT C i Ch b ops k cs S i' oi v a' ∧ K (a'.put oi.dst v)) a := by
  obtain ⟨h1, h2, h3⟩ := Oper.apart_spec hap
  have keep : ∀ (a : Act), YieldsT C i Ch b ops k cs S i' oi v a → ∀ u, YieldsT C i Ch b ops k cs S i' oi v (a.put oj.dst u) := fun a hy u =>
    hy.of_same (execOp_put oi hsi a oj.dst u h3) (wanted_put oi a oj.dst u h3)
  unfold OpT at *
  simp only [hj] at *
  rw [wanted_put oj a oi.dst v h1, execOp_put oj hsj a oi.dst v h1] at h
  split
  · rename_i hw
    simp only [hw, if_true] at h
    obtain ⟨u, h4, h5⟩ := h
    exact ⟨u, h4, keep a hy u, by rw [← Act.put_comm a v u h2]; exact h5⟩
  · rename_i hw
    simp only [hw] at h
    exact ⟨keep a hy _, by rw [← Act.put_comm a v undef h2]; exact h⟩
theorem anyT_first {md : Region.Mode} {F : Array Bool → Act → Prop} {i' : Nat} {oi : Oper} {v : Value} (hi : ops[i']? = some oi) (hsel : ∀ (j : Nat) (o : Oper) cs b, ops[j]? = some o → o.op ≠ .select cs b) :
    ∀ (n : Nat) (listed : Array Bool) (a : Act),
      (∀ j oj, ops[j]? = some oj → j ≠ i' → listed.getD j true = false → (∀ e ∈ oj.after, Region.binds md e = true → e.on ≠ i') → oi.apart ops oj = true) →
      i' ∈ Region.ready md ops listed → YieldsT C i Ch b ops k cs S i' oi v a →
      AnyT C i Ch b ops k cs S md F n (listed.setIfInBounds i' true) (a.put oi.dst v) → AnyT C i Ch b ops k cs S md F (n + 1) listed a := by
  intro n
  induction n with
  | zero =>
    intro listed a _ hr hy H
    refine ⟨fun h => (by rw [h] at hr; cases hr), fun j hj => ?_⟩
    by_cases hji : j = i'
    · subst hji; exact hy.op hi H
    · have := ready_mono hj hji
      rw [H.1] at this
      cases this
  | succ n ih =>
    intro listed a hfree hr hy H
    refine ⟨fun h => (by rw [h] at hr; cases hr), fun j hj => ?_⟩
    by_cases hji : j = i'
    · subst hji; exact hy.op hi H
    · have h1 := H.2 j (ready_mono hj hji)
      obtain ⟨hjun, oj, hoj, hall⟩ := mem_ready.1 hj
      have hnot : ∀ e ∈ oj.after, Region.binds md e = true → e.on ≠ i' := fun e he hb heq => by
        have h1 := hall e he hb
        have h0 := (mem_ready.1 hr).1
        rw [heq] at h1
        rcases Nat.lt_or_ge i' listed.size with h' | h'
        · simp [h'] at h0 h1; rw [h0] at h1; cases h1
        · simp [Array.getElem?_eq_none h'] at h1
      have h2 := OpT_putIf hoj (hfree j oj hoj hji hjun hnot) (fun cs b => hsel i' oi cs b hi) (fun cs b => hsel j oj cs b hoj) hy h1
      have hfree' : ∀ k ok, ops[k]? = some ok → k ≠ i' → (listed.setIfInBounds j true).getD k true = false →
          (∀ e ∈ ok.after, Region.binds md e = true → e.on ≠ i') → oi.apart ops ok = true := fun k ok hk hki hun hno => by
        refine hfree k ok hk hki ?_ hno
        by_cases hjk : j = k
        · subst hjk; exact hjun
        · rw [getD_set_ne true hjk] at hun; exact hun
      refine OpT.mono h2 fun a' h3 => ih (listed.setIfInBounds j true) a' hfree' (ready_mono hr (Ne.symm hji)) h3.1 ?_
      rw [Array.setIfInBounds_comm _ _ hji]
      exact h3.2
theorem anyT_take {md : Region.Mode} {F : Array Bool → Act → Prop} {i' : Nat} {oi : Oper} {v : Value} {n : Nat} {listed : Array Bool} {a : Act} (hi : ops[i']? = some oi) (hs : Region.noSelect ops = true) (hf : Region.free md ops listed i' = true) (hr : (Region.ready md ops listed).contains i' = true)
    (hy : YieldsT C i Ch b ops k cs S i' oi v a) (h : AnyT C i Ch b ops k cs S md F n (listed.setIfInBounds i' true) (a.put oi.dst v)) : AnyT C i Ch b ops k cs S md F (n + 1) listed a :=
  anyT_first hi (Region.noSelect_spec hs) n listed a (Region.free_spec hi hf) (by simpa using hr) hy h
end
end Go.Proofs.Ytpfpokjaeffbjab.Cc
namespace Go.Proofs.Ytpfpokjaeffbjab.Cc
open Go.Conc Go.ConcN
set_option linter.unusedVariables false
section
variable {q : Prm} {i : Nat} {s : Scene} {x : Wk} {Ch : Nat → Goroutine → St Gho → Prop}
theorem TT.ask {P : Program} (hP : q.P = P) {g : Goroutine} {st : St Gho} (hA : At s i x st) (hx : x.wg = .work)
    (h : ∀ st₁, At s i x st₁ → Inv q st₁ → ∃ g', stepG P (i == 0) g st₁.w = .go g' st₁.w.asked #[] ∧ g'.status = .running ∧
      ∀ st₂, At s i x st₂ → Inv q st₂ → (x.mx = .own .work → ∀ o, 6 ≤ o → o < 16 → st₂.w.cell? ⟨s.Gb, o, none⟩ = st.w.cell? ⟨s.Gb, o, none⟩) → TT (cfg q) i Ch g' st₂) : TT (cfg q) i Ch g st := by
  subst hP
  refine TT.act fun st₁ hr hi => ?_
  have hA₁ := hA.rely (by rw [hx]; simp) hr hi
  obtain ⟨g', h1, h2, h3⟩ := h st₁ hA₁ hi
  have hold : st₁.γ.old ≤ i := by unfold Gho.old; rw [hA₁.sc]; exact hA₁.lo
  have k := hi.own hA₁.lt (.inr hold) (fun _ => by rw [hA₁.me]; exact hx) (fn := g.frame.fn) (pos := g.frame.place) (es := #[]) (w' := st₁.w.asked) (Nat.le_refl _) (by simp) (by simp) (by simp) (.refl _) rfl (fun b _ => .inl rfl) (by simp)
  refine ⟨hA₁.notLv (by rw [hx]; simp), g', _, _, _, h1, h2, ?_, k, .inr fun _ _ h => h, h3 _ (hA₁.next hi rfl rfl rfl hA₁.me (fun _ h => h) fun _ _ _ _ _ => rfl) k.1 fun hm o o1 o2 => ?_⟩
  · rfl
  · exact hr.work hA.ne (by rw [hA.me, hx]; simp) (by rw [hA.me, hx]; simp) (by rw [hA.me]; exact hm) s hA.sc o o1 o2
variable {b : Frame} {ops : Array Oper} {k : List Item} {cs : List Frame} {S : Array Bool → St Gho → Prop}
theorem Does.quiet {P : Program} (hP : q.P = P) {j : Nat} {o : Oper} {X : Sem Next} {v : Value} (ho : ops[j]? = some o) (hk : b.kind ≠ .early) (hS : ∀ l st, l.getD j true = false → S l st → (∃ x : Wk, (x.wg ≠ .lv ∧ x.wg ≠ .gone ∧ x.wg ≠ .idle) ∧ At s i x st) ∧ ∀ st₁, Rl i st st₁ → Inv q st₁ → S (l.setIfInBounds j true) st₁)
    (hrun : ∀ w, X.run P w = .ok (.value v) w) (hev : ∀ (a : Act) (w : World), execOp a.eval o = X → listed P b.fn a o w = #[]) : Does (cfg q) i Ch b ops k cs S j o X v := by
  subst hP
  intro l a rest st hl hs he hw hn
  obtain ⟨⟨x, hx, hA⟩, hS'⟩ := hS l st hl hs
  refine TT.step fun st₁ hr hi => ⟨fun hl => absurd hl ((hA.rely hx hr hi).notLv ⟨hx.1, hx.2.1⟩), ?_⟩
  have hstep : stepG (cfg q).P (i == 0) (G (b.at a (.inRegion ops (j :: rest) :: k)) cs) st₁.w = .go (G (b.at (a.put o.dst v) (.inRegion ops rest :: k)) cs) st₁.w #[] := by
    have := stepG_value (P := q.P) (main := i == 0) (cs := cs) (k := k) (rest := rest) (w := st₁.w) ho hw hk (by rw [he]; exact hrun st₁.w)
    rw [hev a st₁.w he] at this
    exact this
  unfold StepK
  rw [hstep]
  have e : (⟨st₁.w, st₁.t ++ MemOp.ofEvents i (G (b.at a (.inRegion ops (j :: rest) :: k)) cs).frame.fn (G (b.at a (.inRegion ops (j :: rest) :: k)) cs).frame.place #[], st₁.γ⟩ : St Gho) = st₁ := by rw [ofEvents_none, Array.append_empty]
  refine .inr ⟨st₁.γ, by rw [e]; exact hi, by rw [e], fun j hj => by rw [e]; exact Rl.refl j st₁, .inr fun k _ hw => by rw [e]; exact hw, ?_⟩
  rw [e]
  exact .inl ⟨rfl, hn st₁ (hS' st₁ hr hi)⟩
theorem Does.enter {P : Program} (hP : q.P = P) {j : Nat} {o : Oper} {X : Sem Next} {v : Value} {f : FuncId} {args : Array Value} (ho : ops[j]? = some o) (hk : b.kind ≠ .early) (hS : ∀ l st, S l st → (∃ x : Wk, (x.wg ≠ .lv ∧ x.wg ≠ .gone ∧ x.wg ≠ .idle) ∧ At s i x st) ∧ ∀ st₁, Rl i st st₁ → Inv q st₁ → S l st₁)
    (hrun : ∀ w, X.run P w = .ok (.enter f args) w) (hev : ∀ (a : Act) (w : World), execOp a.eval o = X → listed P b.fn a o w = #[])
    (hT : ∀ (l : Array Bool) (a : Act) (rest : List Nat) (st : St Gho), l.getD j true = false → S l st → (∀ st', S (l.setIfInBounds j true) st' → TT (cfg q) i Ch (G (b.at (a.put o.dst v) (.inRegion ops rest :: k)) cs) st') → TT (cfg q) i Ch (G (Frame.enter P f args .normal) (b.at a (.inRegion ops (j :: rest) :: k) :: cs)) st) : Does (cfg q) i Ch b ops k cs S j o X v := by
  subst hP
  intro l a rest st hl hs he hw hn
  obtain ⟨⟨x, hx, hA⟩, hS'⟩ := hS l st hs
  refine TT.step fun st₁ hr hi => ⟨fun hl => absurd hl ((hA.rely hx hr hi).notLv ⟨hx.1, hx.2.1⟩), ?_⟩
  have hstep : stepG (cfg q).P (i == 0) (G (b.at a (.inRegion ops (j :: rest) :: k)) cs) st₁.w = .go (G (Frame.enter q.P f args .normal) (b.at a (.inRegion ops (j :: rest) :: k) :: cs)) st₁.w #[] := by
    have := stepG_enter (P := q.P) (main := i == 0) (cs := cs) (k := k) (rest := rest) (w := st₁.w) ho hw hk (by rw [he]; exact hrun st₁.w)
    rw [hev a st₁.w he] at this
    exact this
  unfold StepK
  rw [hstep]
  have e : (⟨st₁.w, st₁.t ++ MemOp.ofEvents i (G (b.at a (.inRegion ops (j :: rest) :: k)) cs).frame.fn (G (b.at a (.inRegion ops (j :: rest) :: k)) cs).frame.place #[], st₁.γ⟩ : St Gho) = st₁ := by rw [ofEvents_none, Array.append_empty]
  refine .inr ⟨st₁.γ, by rw [e]; exact hi, by rw [e], fun j hj => by rw [e]; exact Rl.refl j st₁, .inr fun k _ hw => by rw [e]; exact hw, ?_⟩
  rw [e]
  exact .inl ⟨rfl, hT l a rest st₁ hl (hS' st₁ hr hi) hn⟩
theorem Does.call {P : Program} (hP : q.P = P) {j : Nat} {o : Oper} {a₀ : Act} {v : Value} {f : FuncId} {fn : Func} {c : Code} {as : Array Operand} {ats : Array TypeId} {args : Array Value} (ho : ops[j]? = some o) (hk : b.kind ≠ .early) (hop : o.op = .call { callee := .value (.func f), args := as, argTypes := ats })
    (hf : P.funcs[f]? = some fn) (hname : (fn.name == "runtime.NumGoroutine") = false) (hb : fn.body = some c) (hargs : as.map a₀.eval = args) (hS : ∀ l st, S l st → (∃ x : Wk, (x.wg ≠ .lv ∧ x.wg ≠ .gone ∧ x.wg ≠ .idle) ∧ At s i x st) ∧ ∀ st₁, Rl i st st₁ → Inv q st₁ → S l st₁)
    (hT : ∀ (l : Array Bool) (a : Act) (rest : List Nat) (st : St Gho), l.getD j true = false → S l st → (∀ st', S (l.setIfInBounds j true) st' → TT (cfg q) i Ch (G (b.at (a.put o.dst v) (.inRegion ops rest :: k)) cs) st') → TT (cfg q) i Ch (G (Frame.enter P f args .normal) (b.at a (.inRegion ops (j :: rest) :: k) :: cs)) st) : Does (cfg q) i Ch b ops k cs S j o (execOp a₀.eval o) v := by
  have hb' : fn.body.isNone = false := by rw [hb]; rfl
  subst hargs
  refine Does.enter hP ho hk hS (fun w => run_call_body hop hf hname hb') (fun a w _ => ?_) hT
  unfold listed
  rw [events_call_body hop hf hname hb']
  exact seen_none P _
end
end Go.Proofs.Ytpfpokjaeffbjab.Cc
namespace Go.Proofs.Ytpfpokjaeffbjab.Cc
open Go.Conc Go.ConcN
open Go.ConcR (KK wgBlock WgAt stA smA rd wr mk DC0)
open Go.ConcM (OsLater)
set_option linter.unusedVariables false
theorem cell_of {w w' : World} {b off : Nat} (h : w'.heap[b]? = w.heap[b]?) : w'.cell? ⟨b, off, none⟩ = w.cell? ⟨b, off, none⟩ := by simp [World.cell?, h]
def Reads (i : Nat) (γ : Gho) (es : Array Event) : Prop := ∀ e ∈ es, ∃ b off, e = ⟨.cell ⟨b, off, none⟩, false, false⟩ ∧ γ.rd i (ca b off)
section
variable {q : Prm} {i : Nat} {s : Scene} {x : Wk}
theorem Rl.still (i : Nat) (st : St Gho) (t : Trace) : Rl i st ⟨st.w, t, st.γ⟩ :=
  ⟨Nat.le_refl _, fun _ _ h => h, fun _ _ h => h, fun _ _ _ => rfl, fun _ => rfl, fun _ => ⟨rfl, rfl, rfl, fun _ => .rfl⟩, fun _ => rfl, fun _ _ _ _ _ => ⟨Nat.le_refl _, fun _ => ⟨rfl, rfl, rfl, rfl⟩, fun h => h⟩, fun _ _ _ => ⟨Nat.le_refl _, fun _ => rfl⟩, fun _ _ _ _ _ _ _ _ _ => rfl, fun _ _ => rfl, fun _ _ _ => Nat.le_refl _, Nat.le_refl _⟩
theorem Inv.read {st : St Gho} (h : Inv q st) (hA : At s i x st) (hx : x.wg = .work) {es : Array Event} (hR : Reads i st.γ es) (fn : FuncId) (pos : String) :
    Inv q ⟨st.w, st.t ++ MemOp.ofEvents i fn pos es, st.γ⟩ ∧ ∀ j, j ≠ i → Rl j st ⟨st.w, st.t ++ MemOp.ofEvents i fn pos es, st.γ⟩ := by
  obtain ⟨c, p, t⟩ := h.scene s hA.sc
  have A := h.base.tr.apt
  have hl := c.lts
  have tch : ∀ {e : Event}, e ∈ es → ∀ {y : Touch}, (MemAct.ofEvent e).touch? = some y → ∃ b off, y = ⟨ca b off, false, .plain⟩ ∧ st.γ.rd i (ca b off) := by
    intro e he y hy
    obtain ⟨b, off, rfl, hr⟩ := hR e he
    cases hy
    exact ⟨b, off, rfl, hr⟩
  have hops : ∀ op ∈ MemOp.ofEvents i fn pos es, op.g = i := fun op ho => by obtain ⟨e, _, rfl⟩ := mem_ops ho; rfl
  refine h.gen hA.sc hA.mem (γ' := st.γ) rfl rfl (fun _ => .rfl) (fun e he y hy => ?_) (fun e he a => ?_) (fun _ e he y hy => by obtain ⟨b, off, rfl, _⟩ := tch he hy; simp) (fun T => T) (fun j hj l => ⟨id, id⟩) h.base.pool rfl (fun b => .inl rfl) (.refl _) rfl (fun _ _ => rfl) (fun _ => ⟨rfl, rfl⟩) (fun e => absurd e hA.ne) (fun _ => ?_) ?_ p ?_ ⟨Nat.le_refl _, fun _ => ⟨rfl, rfl, rfl, rfl⟩, id⟩ (fun _ => ⟨Nat.le_refl _, fun _ => rfl⟩) (fun j hj e => ⟨rfl, fun _ _ _ => rfl⟩) (.inl (Nat.le_refl _))
  · obtain ⟨b, off, rfl, hr⟩ := tch he hy
    exact ⟨.inr (.inr (.inl ⟨hr, rfl⟩)), fun b' hb' => A.rlow _ _ hr _ hb'⟩
  · obtain ⟨b, off, rfl, hr⟩ := hR e he
    simp
  · refine ⟨(deafBehind_quiet fun e he => ?_).symm, by rw [hA.me, hx]; simp⟩
    obtain ⟨b, off, rfl, hr⟩ := hR e he
    simp
  · exact ⟨c.n0, c.gb, c.wgb, c.zb, c.rb, c.ne, c.mu, c.D1, c.work, c.dn, c.syn, c.new, c.on, c.fin, c.all, c.wgl⟩
  · refine ⟨fun h0 hn g hg off o1 o2 => ?_, fun h1 => ?_, fun j hj hj2 hw => ?_⟩
    · refine (t.sh0 h0 hn g hg off o1 o2).app fun op hop b hb e => ?_
      obtain ⟨e', he, rfl⟩ := mem_ops hop
      obtain ⟨b', off', rfl, hr⟩ := tch he hb
      have e : ca b' off' = ca s.Gb off := e
      rw [e] at hr
      exact absurd hr ((p.noS hn i off o1 o2).2.2 h0)
    · obtain ⟨r, r1, r2, r3⟩ := t.sh1 h1
      have hp := lt_of_act? r1.1
      refine ⟨r, r1.app fun op hop sync e => ?_, (heard_old hp).2 r2, fun off o1 o2 k a ha e hw => ?_⟩
      · obtain ⟨e', he, rfl⟩ := mem_ops hop
        obtain ⟨b', off', rfl, hr⟩ := hR e' he
        cases e
      · rcases touchAt_app ha with ⟨hlt, ha'⟩ | ⟨_, op, hop, hx, hxa⟩
        · exact (r3 off o1 o2 k a ha' e hw).app _
        · obtain ⟨e', he, rfl⟩ := mem_ops hop
          obtain ⟨b', off', rfl, hr⟩ := tch he hxa
          cases hw
    · have hw : (st.γ.wk j).wg ≠ .work := hw
      have hji : j ≠ i := fun e => hw (by rw [e, hA.me]; exact hx)
      obtain ⟨r, r1, r2⟩ := t.rel j hj hj2 hw
      have other : ∀ k, st.t.size ≤ k → (st.t ++ MemOp.ofEvents i fn pos es).g? k ≠ some j := fun k hk hg => by
        obtain ⟨op, ho, hog⟩ := Option.map_eq_some_iff.1 hg
        rcases getElem?_append_cases ho with ⟨hlt2, _⟩ | ⟨_, hou⟩
        · omega
        · exact hji (hog.symm.trans (hops op hou))
      refine ⟨r, r1.app fun k hk hg => absurd hg (other k hk), fun k a hrk hg ha => ?_⟩
      rcases Nat.lt_or_ge k st.t.size with hlt | hge
      · exact r2 k a hrk (by simpa only [Trace.g?, getElem?_append_old hlt] using hg) (by rw [touchAt_old hlt] at ha; exact ha)
      · exact absurd hg (other k hge)
variable {Ch : Nat → Goroutine → St Gho → Prop}
theorem TT.read {P : Program} (hP : q.P = P) {g : Goroutine} {st : St Gho} (hA : At s i x st) (hx : x.wg = .work)
    (h : ∀ st₁, Rl i st st₁ → Inv q st₁ → At s i x st₁ → ∃ g' es, stepG P (i == 0) g st₁.w = .go g' st₁.w es ∧ g'.status = .running ∧ Reads i st₁.γ es ∧
      ∀ st₂, Rl i st st₂ → Inv q st₂ → At s i x st₂ → TT (cfg q) i Ch g' st₂) : TT (cfg q) i Ch g st := by
  subst hP
  refine TT.act fun st₁ hr hi => ?_
  have hA₁ := hA.rely (by rw [hx]; simp) hr hi
  obtain ⟨g', es, h1, h2, h3, h4⟩ := h st₁ hr hi hA₁
  have k := hi.read hA₁ hx h3 g.frame.fn g.frame.place
  exact ⟨hA₁.notLv (by rw [hx]; simp), g', _, _, st₁.γ, h1, h2, rfl, k, .inr fun _ _ h => h, h4 _ (hr.trans (Rl.still i st₁ _)) k.1 (hA₁.next hi rfl rfl rfl hA₁.me (fun _ h => h) fun _ _ _ _ _ => rfl)⟩
variable {b : Frame} {ops : Array Oper} {k : List Item} {cs : List Frame} {S : Array Bool → St Gho → Prop}
theorem Does.reads {P : Program} (hP : q.P = P) {j : Nat} {o : Oper} {X : Sem Next} {v : Value} (ho : ops[j]? = some o) (hk : b.kind ≠ .early)
    (hS : ∀ l st, l.getD j true = false → S l st → (∃ x : Wk, x.wg = .work ∧ At s i x st) ∧ ∀ st₁, Rl i st st₁ → Inv q st₁ → S (l.setIfInBounds j true) st₁ ∧ X.run P st₁.w = .ok (.value v) st₁.w ∧ ∀ (a : Act), execOp a.eval o = X → Reads i st₁.γ (listed P b.fn a o st₁.w)) : Does (cfg q) i Ch b ops k cs S j o X v := by
  intro l a rest st hl hs he hw hn
  obtain ⟨⟨x, hx, hA⟩, hS'⟩ := hS l st hl hs
  refine TT.read hP hA hx fun st₁ hr hi hA₁ => ⟨_, _, stepG_value ho hw hk (by rw [he]; exact (hS' st₁ hr hi).2.1), rfl, (hS' st₁ hr hi).2.2 a he, fun st₂ hr₂ hi₂ hA₂ => hn st₂ (hS' st₂ hr₂ hi₂).1⟩
end
end Go.Proofs.Ytpfpokjaeffbjab.Cc
namespace Go.Proofs.Ytpfpokjaeffbjab.Cc
open Go.Conc Go.ConcN
open Go.ConcR (KK wgBlock WgAt stA smA rd wr mk DC0)
open Go.ConcM (OsLater)
set_option linter.unusedVariables false
theorem mute_touch {e : Event} (h : e.mute = true) : (MemAct.ofEvent e).touch? = none ∧ ∀ a, e.loc ≠ .mark (.release a) := by
  obtain ⟨l, w, s⟩ := e
  cases l with
  | mark m => cases m <;> first | (cases h; done) | exact ⟨rfl, by simp⟩
  | _ => cases h
theorem mute_ops {i : Nat} {fn : FuncId} {pos : String} {es : Array Event} (h : ∀ e ∈ es, Event.mute e = true) : ∀ op ∈ MemOp.ofEvents i fn pos es, op.g = i ∧ op.act.touch? = none ∧ ∀ a, op.act ≠ .mark (.release a) := by
  intro op ho
  obtain ⟨e, he, rfl⟩ := mem_ops ho
  obtain ⟨h1, h2⟩ := mute_touch (h e he)
  exact ⟨rfl, h1, fun a hm => h2 a ((ofEvent_mark e _).1 hm)⟩
theorem sum_map_le {f g : Nat → Nat} (h : ∀ k, f k ≤ g k) : ∀ l : List Nat, (l.map f).sum ≤ (l.map g).sum
  | [] => Nat.le_refl _
  | k :: l => by simp only [List.map_cons, List.sum_cons]; have := h k; have := sum_map_le h l; omega
theorem mute_counts {t u : Trace} (hu : ∀ op ∈ u, op.act.touch? = none) {k : Nat} (hk : t.size ≤ k) : ¬ (t ++ u).counts k ∧ touchAt (t ++ u) k = none := by
  have key : ∀ y, touchAt (t ++ u) k = some y → False := by
    intro y hy
    rcases touchAt_app hy with ⟨hlt, _⟩ | ⟨_, op, hop, _, hx⟩
    · omega
    · rw [hu op hop] at hx; cases hx
  refine ⟨fun ⟨y, hy, _⟩ => key y ?_, ?_⟩
  · unfold touchAt; exact hy
  · cases h : touchAt (t ++ u) k with
    | none => rfl
    | some y => exact (key y h).elim
section
variable {q : Prm} {i : Nat}
theorem Inv.leave {st : St Gho} (h : Inv q st) (hi : i ≠ 0) (hlt : i < st.γ.num) (hlv : (st.γ.wk i).wg = .lv) {es : Array Event} (hm : ∀ e ∈ es, Event.mute e = true) {w' : WG} (hw : w' = .lv ∨ (w' = .gone ∧ deafBehind (st.γ.wk i).df es = 0)) (fn : FuncId) (pos : String) :
    Inv q ⟨st.w, st.t ++ MemOp.ofEvents i fn pos es, { st.γ with wk := upd st.γ.wk i { st.γ.wk i with df := deafBehind (st.γ.wk i).df es, wg := w' } }⟩ ∧
    ∀ j, j ≠ i → Rl j st ⟨st.w, st.t ++ MemOp.ofEvents i fn pos es, { st.γ with wk := upd st.γ.wk i { st.γ.wk i with df := deafBehind (st.γ.wk i).df es, wg := w' } }⟩ := by
  have A := h.base.tr.apt
  have hops := mute_ops (i := i) (fn := fn) (pos := pos) hm
  generalize hu : MemOp.ofEvents i fn pos es = u at hops ⊢
  have hg : ∀ op ∈ u, op.g = i := fun op ho => (hops op ho).1
  have ht : ∀ op ∈ u, op.act.touch? = none := fun op ho => (hops op ho).2.1
  have at_ : ∀ j, upd st.γ.wk i { st.γ.wk i with df := deafBehind (st.γ.wk i).df es, wg := w' } j = if j = i then { st.γ.wk i with df := deafBehind (st.γ.wk i).df es, wg := w' } else st.γ.wk j := fun j => rfl
  have hmx : ∀ j, (upd st.γ.wk i { st.γ.wk i with df := deafBehind (st.γ.wk i).df es, wg := w' } j).mx = (st.γ.wk j).mx := fun j => by
    rw [at_]; split
    · rename_i e; subst e; rfl
    · rfl
  have hzw : ∀ j, (upd st.γ.wk i { st.γ.wk i with df := deafBehind (st.γ.wk i).df es, wg := w' } j).zw = (st.γ.wk j).zw := fun j => by
    rw [at_]; split
    · rename_i e; subst e; rfl
    · rfl
  have hrw : ∀ j, (upd st.γ.wk i { st.γ.wk i with df := deafBehind (st.γ.wk i).df es, wg := w' } j).rw = (st.γ.wk j).rw := fun j => by
    rw [at_]; split
    · rename_i e; subst e; rfl
    · rfl
  have hsyn : ∀ j, (upd st.γ.wk i { st.γ.wk i with df := deafBehind (st.γ.wk i).df es, wg := w' } j).syn = (st.γ.wk j).syn := fun j => by
    rw [at_]; split
    · rename_i e; subst e; rfl
    · rfl
  have hwi : (upd st.γ.wk i { st.γ.wk i with df := deafBehind (st.γ.wk i).df es, wg := w' } i).wg = w' := by rw [at_, if_pos rfl]
  have hwn : ∀ j, j ≠ i → upd st.γ.wk i { st.γ.wk i with df := deafBehind (st.γ.wk i).df es, wg := w' } j = st.γ.wk j := fun j hj => by rw [at_, if_neg hj]
  have w1 : w' ≠ .work ∧ w' ≠ .idle ∧ w'.cd = false ∧ (w' == .d2) = false ∧ (w' == .d3) = false ∧ (w' == .d4) = false ∧ w'.cr ≤ 1 := by
    rcases hw with e | ⟨e, _⟩ <;> subst e <;> decide
  have hcnt : ∀ (p : WG → Bool) (s : Scene), p .lv = false → p w' = false → cntW p { st.γ with wk := upd st.γ.wk i { st.γ.wk i with df := deafBehind (st.γ.wk i).df es, wg := w' } } s = cntW p st.γ s := fun p s h1 h2 => by
    unfold cntW
    refine congrArg (fun f => List.countP f _) (funext fun k => ?_)
    show p (upd st.γ.wk i _ (s.n0 + k)).wg = p (st.γ.wk (s.n0 + k)).wg
    by_cases e : s.n0 + k = i
    · rw [e, hwi, hlv, h1, h2]
    · rw [hwn _ e]
  have hmm : ({ st.γ with wk := upd st.γ.wk i { st.γ.wk i with df := deafBehind (st.γ.wk i).df es, wg := w' } } : Gho).mm = st.γ.mm := funext fun j => hmx j
  have htr : TrI (st.t ++ u) st.γ.num st.w.heap.size st.γ.ex st.γ.rd st.γ.sh := by
    refine (h.base.tr.step (Nat.le_refl _) hlt hg (fun op ho x hx => ?_) (fun op ho x hx => ?_) (fun op ho => (hops op ho).2.2)).sub A (fun g l hl => .inl hl) (fun g l hl => .inl hl) fun g l hl => .inl hl
    · rw [ht op ho] at hx; cases hx
    · rw [ht op ho] at hx; cases hx
  have hpsi : ∀ s, st.γ.sc = some s → psi { st.γ with wk := upd st.γ.wk i { st.γ.wk i with df := deafBehind (st.γ.wk i).df es, wg := w' } } s ≤ psi st.γ s := fun s _ => by
    unfold psi
    refine sum_map_le (fun k => ?_) _
    show (upd st.γ.wk i _ (s.n0 + k)).wg.cr ≤ (st.γ.wk (s.n0 + k)).wg.cr
    by_cases e : s.n0 + k = i
    · rw [e, hwi, hlv]; exact w1.2.2.2.2.2.2
    · rw [hwn _ e]; exact Nat.le_refl _
  refine ⟨⟨⟨h.base.pos, htr, h.base.gsz, ?_, fun j hj hj2 => ?_, fun j hj => ?_, h.base.os, h.base.out, fun j hj hj2 => ?_, h.base.dead, fun k a ha hme => ?_, fun k g hk hne hlt2 hc => ?_, h.base.pool, fun j hj => ?_, fun j hj => ?_, fun k a ha hk => ?_, h.base.dsc⟩, h.solo, fun s hs => ?_⟩, fun j hj => ?_⟩
  · show Deaf (st.t ++ u) 0 = st.γ.dm
    rw [Deaf_other st.t hi _ hg, h.base.dfm]
  · show Deaf (st.t ++ u) j = (upd st.γ.wk i _ j).df
    have hj2 : j < st.γ.num := hj2
    by_cases e : j = i
    · subst e
      rw [at_, if_pos rfl, ← hu, Deaf_own, h.base.dfw j hj hj2]
    · rw [hwn j e, Deaf_other st.t (Ne.symm e) _ hg, h.base.dfw j hj hj2]
  · have hj : (upd st.γ.wk i { st.γ.wk i with df := deafBehind (st.γ.wk i).df es, wg := w' } j).wg = .gone := hj
    show j ≠ 0 ∧ j < st.γ.num ∧ (upd st.γ.wk i _ j).df = 0
    by_cases e : j = i
    · subst e
      rw [hwi] at hj
      refine ⟨hi, hlt, ?_⟩
      rw [at_, if_pos rfl]
      rcases hw with e | ⟨_, e⟩
      · rw [e] at hj; cases hj
      · exact e
    · rw [hwn j e] at hj ⊢; exact h.base.gone j hj
  · show (upd st.γ.wk i { st.γ.wk i with df := deafBehind (st.γ.wk i).df es, wg := w' } j).wg = .lv ∨ (upd st.γ.wk i { st.γ.wk i with df := deafBehind (st.γ.wk i).df es, wg := w' } j).wg = .gone
    by_cases e : j = i
    · subst e; rw [hwi]; exact hw.imp id (·.1)
    · rw [hwn j e]; exact h.base.old j hj hj2
  · show (∃ b, lblk a.loc = some b ∧ st.γ.dead b) ∨ Knows (st.t ++ u) 0 k ∨ ∃ g, (st.t ++ u).g? k = some g ∧ st.γ.old ≤ g
    rcases touchAt_app ha with ⟨hlt2, ha'⟩ | ⟨_, op, hop, _, hxa⟩
    · rcases h.base.know k a ha' hme with h1 | h1 | ⟨g, h1, h2⟩
      · exact .inl h1
      · exact .inr (.inl (h1.app _))
      · exact .inr (.inr ⟨g, by simp only [Trace.g?, getElem?_append_old hlt2] at h1 ⊢; exact h1, h2⟩)
    · rw [ht op hop] at hxa; cases hxa
  · have hc : (st.t ++ u).counts k := hc
    rcases Nat.lt_or_ge k st.t.size with hk2 | hk2
    · have hk' : st.t.g? k = some g := by simpa only [Trace.g?, getElem?_append_old hk2] using hk
      obtain ⟨j, h1, h2⟩ := h.base.ho k g hk' hne hlt2 (by rw [counts_old hk2] at hc; exact hc)
      have hj : j < st.t.size := by
        unfold Trace.g? at h1
        obtain ⟨op, ho, _⟩ := Option.map_eq_some_iff.1 h1
        exact lt_size_of_getElem? ho
      exact ⟨j, by simp only [Trace.g?, getElem?_append_old hj] at h1 ⊢; exact h1, hb_app _ h2⟩
    · exact absurd hc (mute_counts ht hk2).1
  · show (upd st.γ.wk i _ j).mx = .fresh ∨ _ = _
    rw [hmx]; exact h.base.omx j hj
  · have hj : st.γ.num ≤ j := hj
    exact (hwn j (by omega)).trans (h.base.nw j hj)
  · show (st.t ++ u).g? k = some 0
    rcases touchAt_app ha with ⟨hlt2, ha'⟩ | ⟨_, op, hop, _, hxa⟩
    · have := h.base.said k a ha' hk
      simp only [Trace.g?, getElem?_append_old hlt2] at this ⊢
      exact this
    · rw [ht op hop] at hxa; cases hxa
  · have hs : st.γ.sc = some s := hs
    obtain ⟨c, p, t⟩ := h.scene s hs
    refine ⟨?_, ?_, ?_⟩
    · exact {
        n0 := c.n0
        gb := c.gb
        wgb := c.wgb
        zb := by
          obtain ⟨Z, z1, z2, z3, z4⟩ := c.zb
          exact ⟨Z, z1, z2, z3, fun k k1 k2 => z4 k k1 ((hzw _).symm.trans k2)⟩
        rb := by
          obtain ⟨Z, z1, z2, z3, z4⟩ := c.rb
          exact ⟨Z, z1, z2, z3, fun k k1 k2 => z4 k k1 ((hrw _).symm.trans k2)⟩
        ne := c.ne
        mu := by have := c.mu; rw [← hmm] at this; exact this
        D1 := c.D1
        work := fun j hj => c.work j ((hmx j).symm.trans hj)
        dn := fun j hj => c.dn j ((hmx j).symm.trans hj)
        syn := fun j h0 hj => c.syn j h0 ((hsyn j).symm.trans hj)
        new := fun j hj => by
          have hne : j ≠ i := by have hj : st.γ.num ≤ j := hj; omega
          show upd st.γ.wk i _ j = _
          rw [hwn j hne]; exact c.new j hj
        on := fun j h1 h2 => by
          show (upd st.γ.wk i _ j).wg ≠ _
          by_cases e : j = i
          · rw [e, hwi]; exact w1.2.1
          · rw [hwn j e]; exact c.on j h1 h2
        fin := fun j h1 h2 h3 => by
          have h2 : (upd st.γ.wk i { st.γ.wk i with df := deafBehind (st.γ.wk i).df es, wg := w' } j).wg ≠ .idle := h2
          have h3 : (upd st.γ.wk i { st.γ.wk i with df := deafBehind (st.γ.wk i).df es, wg := w' } j).wg ≠ .work := h3
          have := c.fin j h1 (by
            by_cases e : j = i
            · rw [e, hlv]; simp
            · rw [hwn j e] at h2; exact h2) (by
            by_cases e : j = i
            · rw [e, hlv]; simp
            · rw [hwn j e] at h3; exact h3)
          exact ⟨(hzw j).trans this.1, (hrw j).trans this.2.1, by have := this.2.2; rw [← hmx j] at this; exact this⟩
        all := c.all
        wgl := by
          have w := c.wgl
          rw [← hcnt WG.cd s rfl w1.2.2.1, ← hcnt (· == .d2) s rfl w1.2.2.2.1, ← hcnt (· == .d3) s rfl w1.2.2.2.2.1, ← hcnt (· == .d4) s rfl w1.2.2.2.2.2.1] at w
          exact w }
    · refine ⟨p.spec, fun k k1 k2 k3 => p.exZ k k1 k2 ?_, p.exM, p.rdG, p.shG, fun j hj => p.exS j ((hmx j).symm.trans hj), fun j h0 hj => p.rdS j h0 ((hsyn j).symm.trans hj), fun hn => p.noS fun j hj => hn j ((hmx j).trans hj)⟩
      have k3 : (upd st.γ.wk i { st.γ.wk i with df := deafBehind (st.γ.wk i).df es, wg := w' } (s.n0 + k)).wg = .work := k3
      by_cases e : s.n0 + k = i
      · rw [e, hwi] at k3; exact absurd k3 w1.1
      · rw [hwn _ e] at k3; exact k3
    · refine t.app hg rfl rfl (fun hn j hj => hn j ((hmx j).trans hj)) (fun j _ _ hw => ?_) (fun op ho y hy => ?_) fun _ _ k hk _ => ?_
      · have hw : (upd st.γ.wk i { st.γ.wk i with df := deafBehind (st.γ.wk i).df es, wg := w' } j).wg ≠ .work := hw
        by_cases e : j = i
        · rw [e, hlv]; simp
        · rw [hwn j e] at hw; exact hw
      · rw [ht op ho] at hy; cases hy
      · obtain ⟨a, b⟩ := mute_counts (t := st.t) ht hk
        exact ⟨a, fun y hy => by rw [b] at hy; cases hy⟩
  · refine Rl.other hj (size := 0) A (Nat.le_refl _) (fun l hl => hl) (fun l hl => hl) (fun b => .inl rfl) (fun k hk => hwn k hk) (fun _ => ⟨rfl, rfl, rfl, fun _ => .rfl⟩) rfl (fun s hs => ?_) (fun s hs _ => ⟨hpsi s hs, fun _ => rfl⟩) (fun hw => ⟨rfl, fun s hs off o1 o2 => rfl⟩) (fun _ _ _ => Nat.le_refl _) (Nat.le_refl _)
    unfold phi
    have e := hmm
    refine ⟨?_, fun _ => ⟨rfl, rfl, rfl, rfl⟩, id⟩
    show pot (Gho.mm { st.γ with wk := upd st.γ.wk i { st.γ.wk i with df := deafBehind (st.γ.wk i).df es, wg := w' } }) s.n0 s.n (st.γ.tn + st.γ.th) ≤ _
    rw [e]
    exact Nat.le_refl _
variable {Ch : Nat → Goroutine → St Gho → Prop}
theorem TT.quits {P : Program} (hP : q.P = P) : ∀ (n : Nat) (g : Goroutine) (st : St Gho), i ≠ 0 → i < st.γ.num → (st.γ.wk i).wg = .lv → g.status = .running → QuitsD P n (st.γ.wk i).df g → TT (cfg q) i Ch g st := by
  subst hP
  intro n
  induction n with
  | zero => intro g st _ _ _ hs hq; rw [hq.1] at hs; cases hs
  | succ n ih =>
    intro g st hi hlt hlv hs hq
    refine TT.step fun st₁ hr hI => ?_
    have hr : Rl i st st₁ := hr
    have hI : Inv q st₁ := hI
    have hme := hr.me hi
    have hlt₁ : i < st₁.γ.num := Nat.lt_of_lt_of_le hlt hr.num
    have hd : Deaf st₁.t i = (st.γ.wk i).df := by rw [hI.base.dfw i (by omega) hlt₁, hme]
    refine ⟨fun _ => ⟨n + 1, by rw [hd]; exact hq⟩, ?_⟩
    rcases hq with ⟨h1, _⟩ | ⟨_, g', es, hm, hst, hq⟩
    · rw [h1] at hs; cases hs
    have h0 : (i == 0) = false := by simp [hi]
    have hstep : stepG (cfg q).P (i == 0) g st₁.w = .go g' st₁.w es := by rw [h0]; exact hst st₁.w
    unfold StepK
    rw [hstep]
    rcases hq.status with hs' | hs'
    · obtain ⟨a, b⟩ := hI.leave hi hlt₁ (by rw [hme]; exact hlv) hm (w' := .lv) (.inl rfl) g.frame.fn g.frame.place
      refine .inr ⟨{ st₁.γ with wk := upd st₁.γ.wk i { st₁.γ.wk i with df := deafBehind (st₁.γ.wk i).df es, wg := .lv } }, a, rfl, b, .inr fun k hk hw => ?_, .inl ⟨hs', ?_⟩⟩
      · exact wt_same (st := st₁) (by rfl) (by rfl) (by rfl) (by rfl) (fun k hk => by exact upd_ne _ _ hk) k hk hw
      · refine ih g' _ hi hlt₁ (congrArg Wk.wg (upd_self _ _ _)) hs' ?_
        show QuitsD q.P n (upd st₁.γ.wk i { st₁.γ.wk i with df := deafBehind (st₁.γ.wk i).df es, wg := .lv } i).df g'
        rw [upd_self, hme]
        exact hq
    · have hd0 : deafBehind (st.γ.wk i).df es = 0 := by
        cases n with
        | zero => exact hq.2
        | succ n =>
          rcases hq with ⟨_, h⟩ | ⟨h, _⟩
          · exact h
          · rw [hs'] at h; cases h
      obtain ⟨a, b⟩ := hI.leave hi hlt₁ (by rw [hme]; exact hlv) hm (w' := .gone) (.inr ⟨rfl, by rw [hme]; exact hd0⟩) g.frame.fn g.frame.place
      refine .inr ⟨{ st₁.γ with wk := upd st₁.γ.wk i { st₁.γ.wk i with df := deafBehind (st₁.γ.wk i).df es, wg := .gone } }, a, rfl, b, .inr fun k hk hw => ?_, .inr ⟨hs', hi, hi, congrArg Wk.wg (upd_self _ _ _)⟩⟩
      exact wt_same (st := st₁) (by rfl) (by rfl) (by rfl) (by rfl) (fun k hk => by exact upd_ne _ _ hk) k hk hw
end
end Go.Proofs.Ytpfpokjaeffbjab.Cc
