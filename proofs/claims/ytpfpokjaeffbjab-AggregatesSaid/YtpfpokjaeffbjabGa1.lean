/- Part of the proof: Log, TrI. -/
import Derived.Conc.Crowd
import Derived.Conc.QuitsD
import Derived.Conc.Deaf
import Derived.Conc.CrowdTrace
namespace Go.Proofs.Ytpfpokjaeffbjab.Cc
open Go.Conc
structure St (Γ : Type) where
  w : World
  t : Trace
  γ : Γ
def St.at {Γ : Type} (st : St Γ) (d : Nat) : St Γ := { st with w := st.w.at d }
structure Cfg (Γ : Type) where
  P : Program
  Inv : St Γ → Prop
  Rel : Nat → St Γ → St Γ → Prop
  Waits : Nat → St Γ → Prop
  Gone : Nat → St Γ → Prop
  Lv : Nat → St Γ → Prop
  num : St Γ → Nat
  Post : Value → World → Prop
inductive Rk (Γ : Type) : Type
  | leaf : Rk Γ
  | mk (f : Goroutine → St Γ → Rk Γ) : Rk Γ
instance {Γ : Type} : Inhabited (Rk Γ) := ⟨.leaf⟩
def RkLt {Γ : Type} (r' r : Rk Γ) : Prop := ∃ f g st, r = .mk f ∧ r' = f g st
theorem RkLt.acc {Γ : Type} (r : Rk Γ) : Acc RkLt r := by
  induction r with
  | leaf => exact ⟨_, fun y ⟨_, _, _, h, _⟩ => by cases h⟩
  | mk f ih => exact ⟨_, fun y ⟨f', g, st, h, e⟩ => by cases h; subst e; exact ih g st⟩
theorem RkLt.wf {Γ : Type} : WellFounded (RkLt (Γ := Γ)) := ⟨RkLt.acc⟩
def RowLt {Γ : Type} (l' l : List (Rk Γ)) : Prop := ∃ k r r', l[k]? = some r ∧ RkLt r' r ∧ l' = l.set k r'
theorem RowLt.acc {Γ : Type} (l : List (Rk Γ)) : Acc RowLt l := by
  induction l with
  | nil => exact ⟨_, fun y ⟨k, r, r', h, _⟩ => by simp at h⟩
  | cons r l ih =>
    have key : ∀ r, Acc RkLt r → ∀ l, Acc RowLt l → Acc (RowLt (Γ := Γ)) (r :: l) := by
      intro r hr
      induction hr with
      | intro r _ ihr =>
        intro l hl
        induction hl with
        | intro l hl' ihl =>
          refine ⟨_, fun y ⟨k, a, a', h, hlt, e⟩ => ?_⟩
          subst e
          match k, h with
          | 0, h =>
            simp at h; subst h
            exact ihr a' hlt l ⟨l, hl'⟩
          | k + 1, h => exact ihl _ ⟨k, a, a', by simpa using h, hlt, rfl⟩
    exact key r (RkLt.acc r) l ih
theorem RowLt.wf {Γ : Type} : WellFounded (RowLt (Γ := Γ)) := ⟨RowLt.acc⟩
def MLt {Γ : Type} : Rk Γ × List (Rk Γ) × Nat → Rk Γ × List (Rk Γ) × Nat → Prop := Prod.Lex RkLt (Prod.Lex RowLt Nat.lt)
theorem MLt.wf {Γ : Type} : WellFounded (MLt (Γ := Γ)) := (Prod.lex ⟨RkLt, RkLt.wf⟩ (Prod.lex ⟨RowLt, RowLt.wf⟩ ⟨Nat.lt, Nat.lt_wfRel.wf⟩)).wf
section
variable {Γ : Type} (C : Cfg Γ) (i : Nat) (Ch : Nat → Goroutine → St Γ → Prop) (K : Goroutine → St Γ → Prop)
def Ends (i : Nat) (g : Goroutine) (st : St Γ) (o : Outcome) (w' : World) (es : Array Event) : Prop :=
  i = 0 ∧ (∃ v, o = .done v ∧ C.Post v w') ∧ (∀ said, ¬ Race said (st.t ++ MemOp.ofEvents 0 g.frame.fn g.frame.place es)) ∧ Trace.HandedOver (st.t ++ MemOp.ofEvents 0 g.frame.fn g.frame.place es) ∧
    ∀ j, 0 < j → j < C.num st → C.Lv j st
def StepK (g : Goroutine) (st : St Γ) : Prop :=
  match stepG C.P (i == 0) g st.w with
  | .go g' w' es =>
    (g' = { g with status := .blocked } ∧ g.offers = none ∧ w' = st.w ∧ es = #[] ∧ C.Waits i st) ∨
    ∃ γ', C.Inv ⟨w', st.t ++ MemOp.ofEvents i g.frame.fn g.frame.place es, γ'⟩ ∧ C.num ⟨w', st.t ++ MemOp.ofEvents i g.frame.fn g.frame.place es, γ'⟩ = C.num st ∧
      (∀ j, j ≠ i → C.Rel j st ⟨w', st.t ++ MemOp.ofEvents i g.frame.fn g.frame.place es, γ'⟩) ∧
      (mayWake C.P g = true ∨ ∀ k, k ≠ i → C.Waits k st → C.Waits k ⟨w', st.t ++ MemOp.ofEvents i g.frame.fn g.frame.place es, γ'⟩) ∧
      ((g'.status = .running ∧ K g' ⟨w', st.t ++ MemOp.ofEvents i g.frame.fn g.frame.place es, γ'⟩) ∨ (g'.status = .finished ∧ i ≠ 0 ∧ C.Gone i ⟨w', st.t ++ MemOp.ofEvents i g.frame.fn g.frame.place es, γ'⟩))
  | .spawn g' child w' es =>
    ∃ γ', C.Inv ⟨w', (MemOp.ofEvents i g.frame.fn g.frame.place es).push { g := i, fn := g.frame.fn, pos := g.frame.place, act := .go (C.num st) } |>.push { g := C.num st, fn := child.frame.fn, pos := g.frame.place, act := .start } |> (st.t ++ ·), γ'⟩ ∧
      (let st' : St Γ := ⟨w', (MemOp.ofEvents i g.frame.fn g.frame.place es).push { g := i, fn := g.frame.fn, pos := g.frame.place, act := .go (C.num st) } |>.push { g := C.num st, fn := child.frame.fn, pos := g.frame.place, act := .start } |> (st.t ++ ·), γ'⟩
       C.num st' = C.num st + 1 ∧ (∀ j, j ≠ i → j < C.num st → C.Rel j st st') ∧ (∀ k, k ≠ i → C.Waits k st → C.Waits k st') ∧
       g'.status = .running ∧ K g' st' ∧ i = 0 ∧ child.status = .running ∧ Ch (C.num st) child st')
  | .ended o w' es => Ends C i g st o w' es
  | _ => False
theorem StepK.mono {C : Cfg Γ} {i : Nat} {Ch : Nat → Goroutine → St Γ → Prop} {K K' : Goroutine → St Γ → Prop} {g : Goroutine} {st : St Γ} (h : StepK C i Ch K g st) (k : ∀ g' st', K g' st' → K' g' st') : StepK C i Ch K' g st := by
  revert h
  unfold StepK
  cases stepG C.P (i == 0) g st.w with
  | go g' w' es =>
    simp only
    rintro (h | ⟨γ', h1, h2, h3, h4, h5⟩)
    · exact .inl h
    · exact .inr ⟨γ', h1, h2, h3, h4, h5.imp (fun ⟨a, b⟩ => ⟨a, k _ _ b⟩) id⟩
  | spawn g' child w' es =>
    simp only
    rintro ⟨γ', h1, h2, h3, h4, h5, h6, h7⟩
    exact ⟨γ', h1, h2, h3, h4, h5, k _ _ h6, h7⟩
  | ended o w' es => exact id
  | _ => exact id
def T : Rk Γ → Goroutine → St Γ → Prop
  | .leaf, _, _ => False
  | .mk f, g, st => ∀ st₁, C.Rel i st st₁ → C.Inv st₁ →
      (C.Lv i st₁ → ∃ q, QuitsD C.P q (Deaf st₁.t i) g) ∧ StepK C i Ch (fun g' st' => T (f g' st') g' st') g st₁
def TT (g : Goroutine) (st : St Γ) : Prop := ∃ r, T C i Ch r g st
end
section
variable {Γ : Type} {C : Cfg Γ} {i : Nat} {Ch : Nat → Goroutine → St Γ → Prop}
theorem TT.step {g : Goroutine} {st : St Γ} (h : ∀ st₁, C.Rel i st st₁ → C.Inv st₁ → (C.Lv i st₁ → ∃ q, QuitsD C.P q (Deaf st₁.t i) g) ∧ StepK C i Ch (TT C i Ch) g st₁) : TT C i Ch g st := by
  classical
  refine ⟨.mk fun g' st' => if h : TT C i Ch g' st' then h.choose else .leaf, fun st₁ hr hi => ⟨(h st₁ hr hi).1, (h st₁ hr hi).2.mono fun g' st' hk => ?_⟩⟩
  simp only [dif_pos hk]
  exact hk.choose_spec
theorem T.rely (trans : ∀ a b c, C.Rel i a b → C.Rel i b c → C.Rel i a c) {r : Rk Γ} {g : Goroutine} {st st' : St Γ} (h : T C i Ch r g st) (hr : C.Rel i st st') : T C i Ch r g st' := by
  cases r with
  | leaf => exact h
  | mk f => exact fun st₁ h₁ hi => h st₁ (trans _ _ _ hr h₁) hi
theorem TT.rely (trans : ∀ a b c, C.Rel i a b → C.Rel i b c → C.Rel i a c) {g : Goroutine} {st st' : St Γ} (h : TT C i Ch g st) (hr : C.Rel i st st') : TT C i Ch g st' :=
  let ⟨r, hr'⟩ := h; ⟨r, hr'.rely trans hr⟩
theorem TT.elim {g : Goroutine} {st : St Γ} (h : TT C i Ch g st) (st₁ : St Γ) (hr : C.Rel i st st₁) (hi : C.Inv st₁) : (C.Lv i st₁ → ∃ q, QuitsD C.P q (Deaf st₁.t i) g) ∧ StepK C i Ch (TT C i Ch) g st₁ := by
  obtain ⟨r, hr'⟩ := h
  cases r with
  | leaf => exact hr'.elim
  | mk f => exact ⟨(hr' st₁ hr hi).1, (hr' st₁ hr hi).2.mono fun g' st' hk => ⟨_, hk⟩⟩
end
structure Cfg.Ok {Γ : Type} (C : Cfg Γ) : Prop where
  refl : ∀ i st, C.Rel i st st
  trans : ∀ i a b c, C.Rel i a b → C.Rel i b c → C.Rel i a c
  gone : ∀ i a b, C.Rel i a b → C.Gone i a → C.Gone i b
  goneDeaf : ∀ i st, C.Inv st → i < C.num st → C.Gone i st → Deaf st.t i = 0
  lvWaits : ∀ i st, C.Waits i st → C.Lv i st → False
  drawInv : ∀ st d, C.Inv st → C.Inv (st.at d)
  drawRel : ∀ i st d, C.Rel i st (st.at d)
  drawNum : ∀ st d, C.num (st.at d) = C.num st
  drawWaits : ∀ i st d, C.Waits i st → C.Waits i (st.at d)
  pos : ∀ st, C.Inv st → 0 < C.num st
  noDead : ∀ st, C.Inv st → (∀ i, i < C.num st → C.Waits i st ∨ (i ≠ 0 ∧ C.Gone i st)) → False
section
variable {Γ : Type} (C : Cfg Γ)
def NoCh : Nat → Goroutine → St Γ → Prop := fun _ _ _ => False
def TW (j : Nat) (g : Goroutine) (st : St Γ) : Prop := TT C j NoCh g st
def TM (g : Goroutine) (st : St Γ) : Prop := TT C 0 (TW C) g st
def TA (i : Nat) (r : Rk Γ) (g : Goroutine) (st : St Γ) : Prop := if i = 0 then T C 0 (TW C) r g st else T C i NoCh r g st
def GI (i : Nat) (r : Rk Γ) (g : Goroutine) (st : St Γ) : Prop :=
  (g.status = .running ∧ TA C i r g st) ∨ (∃ h : Goroutine, h.status = .running ∧ h.offers = none ∧ g = { h with status := .blocked } ∧ C.Waits i st ∧ TA C i r h st) ∨ (g.status = .finished ∧ i ≠ 0 ∧ C.Gone i st)
def rankAt (r0 : Rk Γ) (rs : List (Rk Γ)) (i : Nat) : Rk Γ := if i = 0 then r0 else rs.getD (i - 1) .leaf
def running (gs : Array Goroutine) : Nat := gs.toList.countP fun g => g.status == .running
inductive MI : Rk Γ × List (Rk Γ) × Nat → Machine → Trace → Prop
  | mk (r0 : Rk Γ) (rs : List (Rk Γ)) (gs : Array Goroutine) (w : World) (sl : Option (Nat × Nat)) (t : Trace) (γ : Γ) (hn : gs.size = C.num ⟨w, t, γ⟩) (hl : rs.length + 1 = gs.size) (hi : C.Inv ⟨w, t, γ⟩)
      (hg : ∀ i g, gs[i]? = some g → GI C i (rankAt r0 rs i) g ⟨w, t, γ⟩) : MI (r0, rs, running gs) (crowd gs w sl) t
end
section
variable {Γ : Type} {C : Cfg Γ}
theorem TA.rely (ok : C.Ok) {i : Nat} {r : Rk Γ} {g : Goroutine} {st st' : St Γ} (h : TA C i r g st) (hr : C.Rel i st st') : TA C i r g st' := by
  unfold TA at h ⊢
  split
  · rename_i h0; subst h0; rw [if_pos rfl] at h; exact h.rely (ok.trans 0) hr
  · rename_i h0; rw [if_neg h0] at h; exact h.rely (ok.trans i) hr
theorem TA.node {i : Nat} {r : Rk Γ} {g : Goroutine} {st : St Γ} (ok : C.Ok) (h : TA C i r g st) (hi : C.Inv st) : (C.Lv i st → ∃ q, QuitsD C.P q (Deaf st.t i) g) ∧
    StepK C i (fun j g st => i = 0 ∧ TW C j g st) (fun g' st' => ∃ r', RkLt r' r ∧ TA C i r' g' st') g st := by
  unfold TA at h
  split at h
  · rename_i h0
    subst h0
    cases r with
    | leaf => exact h.elim
    | mk f =>
      refine ⟨(h st (ok.refl _ _) hi).1, ?_⟩
      have h2 := (h st (ok.refl _ _) hi).2
      have h3 : StepK C 0 (TW C) (fun g' st' => ∃ r', RkLt r' (.mk f) ∧ TA C 0 r' g' st') g st := h2.mono fun g' st' hk => ⟨f g' st', ⟨f, g', st', rfl, rfl⟩, by unfold TA; rw [if_pos rfl]; exact hk⟩
      revert h3
      unfold StepK
      cases stepG C.P (0 == 0) g st.w with
      | spawn g' child w' es =>
        simp only
        rintro ⟨γ', a, b, c, d, e, k, l, m, n⟩
        exact ⟨γ', a, b, c, d, e, k, l, m, trivial, n⟩
      | _ => exact id
  · rename_i h0
    cases r with
    | leaf => exact h.elim
    | mk f =>
      refine ⟨(h st (ok.refl _ _) hi).1, ?_⟩
      have h2 := (h st (ok.refl _ _) hi).2
      have h3 : StepK C i NoCh (fun g' st' => ∃ r', RkLt r' (.mk f) ∧ TA C i r' g' st') g st := h2.mono fun g' st' hk => ⟨f g' st', ⟨f, g', st', rfl, rfl⟩, by unfold TA; rw [if_neg h0]; exact hk⟩
      revert h3
      unfold StepK
      cases stepG C.P (i == 0) g st.w with
      | spawn g' child w' es =>
        simp only
        rintro ⟨γ', a, b, c, d, e, k, l, m, n⟩
        exact n.elim
      | _ => exact id
theorem GI.rely (ok : C.Ok) {i : Nat} {r : Rk Γ} {g : Goroutine} {st st' : St Γ} (h : GI C i r g st) (hr : C.Rel i st st') (hw : C.Waits i st → C.Waits i st') : GI C i r g st' := by
  rcases h with ⟨h1, h2⟩ | ⟨h, h1, h2, h3, h4, h5⟩ | ⟨h1, h2, h3⟩
  · exact .inl ⟨h1, h2.rely ok hr⟩
  · exact .inr (.inl ⟨h, h1, h2, h3, hw h4, h5.rely ok hr⟩)
  · exact .inr (.inr ⟨h1, h2, ok.gone _ _ _ hr h3⟩)
theorem GI.woken (ok : C.Ok) {i : Nat} {r : Rk Γ} {g a b : Goroutine} {w' : World} {st st' : St Γ} (h : GI C i r g st) (hr : C.Rel i st st') (hb : b.status = .running ∨ b.status = .finished)
    (hw : mayWake C.P a = true ∨ (C.Waits i st → C.Waits i st')) : GI C i r (Go.Conc.woken C.P a b w' g) st' := by
  rcases hw with hw | hw
  · have e : Go.Conc.woken C.P a b w' g = g.again w' := by
      unfold Go.Conc.woken
      rw [if_pos]
      rw [hw]
      rcases hb with hb | hb <;> simp [hb]
    rw [e]
    rcases h with ⟨h1, h2⟩ | ⟨h, h1, h2, h3, h4, h5⟩ | ⟨h1, h2, h3⟩
    · rw [again_running _ (.inl h1)]; exact .inl ⟨h1, h2.rely ok hr⟩
    · subst h3
      have : ({ h with status := .blocked } : Goroutine).again w' = h := by
        unfold Goroutine.again
        simp only [h2]
        cases h; simp at h1 h2 ⊢; exact ⟨h1.symm, h2.symm⟩
      rw [this]
      exact .inl ⟨h1, TA.rely ok h5 hr⟩
    · rw [again_running _ (.inr h1)]; exact .inr (.inr ⟨h1, h2, ok.gone _ _ _ hr h3⟩)
  · have hg : GI C i r g st' := GI.rely ok h hr hw
    clear h
    unfold Go.Conc.woken
    split
    · rcases hg with ⟨h1, h2⟩ | ⟨h, h1, h2, h3, h4, h5⟩ | ⟨h1, h2, h3⟩
      · rw [again_running _ (.inl h1)]; exact .inl ⟨h1, h2⟩
      · subst h3
        have : ({ h with status := .blocked } : Goroutine).again w' = h := by
          unfold Goroutine.again
          simp only [h2]
          cases h; simp at h1 h2 ⊢; exact ⟨h1.symm, h2.symm⟩
        rw [this]
        exact .inl ⟨h1, h5⟩
      · rw [again_running _ (.inr h1)]; exact .inr (.inr ⟨h1, h2, h3⟩)
    · exact hg
theorem GI.awake {i : Nat} {r : Rk Γ} {g : Goroutine} {st : St Γ} (h : GI C i r g st) : Go.Conc.awake g := by
  intro t ht
  rcases h with ⟨h1, _⟩ | ⟨h, h1, h2, h3, _⟩ | ⟨h1, _⟩
  · rw [h1] at ht; cases ht
  · subst h3; cases ht
  · rw [h1] at ht; cases ht
theorem rankAt_set0 (r0 r : Rk Γ) (rs : List (Rk Γ)) (i : Nat) (hi : i ≠ 0) : rankAt r rs i = rankAt r0 rs i := by simp [rankAt, hi]
theorem rankAt_set {r0 r : Rk Γ} {rs : List (Rk Γ)} {i j : Nat} (hi : i ≠ 0) (hij : j ≠ i) : rankAt r0 (rs.set (i - 1) r) j = rankAt r0 rs j := by
  unfold rankAt
  split
  · rfl
  · rename_i hj
    simp only [List.getD_eq_getElem?_getD]
    rw [List.getElem?_set_ne (by omega)]
theorem rankAt_self {r0 r : Rk Γ} {rs : List (Rk Γ)} {i : Nat} (hi : i ≠ 0) (hl : i - 1 < rs.length) : rankAt r0 (rs.set (i - 1) r) i = r := by
  unfold rankAt
  rw [if_neg hi]
  simp [List.getD_eq_getElem?_getD, hl]
theorem running_set {gs : Array Goroutine} {i : Nat} {g g' : Goroutine} (h : gs[i]? = some g) (h1 : g.status = .running) (h2 : g'.status ≠ .running) : running (gs.setIfInBounds i g') < running gs := by
  obtain ⟨hlt, rfl⟩ := Array.getElem?_eq_some_iff.1 h
  unfold running
  rw [Array.toList_setIfInBounds]
  have key : ∀ (l : List Goroutine) (i : Nat) (h : i < l.length), l[i].status = .running → (l.set i g').countP (fun g => g.status == .running) < l.countP (fun g => g.status == .running) := by
    intro l
    induction l with
    | nil => intro i h; simp at h
    | cons a l ih =>
      intro i h hs
      cases i with
      | zero =>
        simp at hs
        have : (g'.status == GoStatus.running) = false := by simpa using h2
        simp [hs, this]
      | succ i =>
        simp only [List.set_cons_succ, List.countP_cons]
        have := ih i (by simpa using h) (by simpa using hs)
        omega
  exact key gs.toList i (by simpa using hlt) (by simpa using h1)
theorem MI.step (ok : C.Ok) {μ : Rk Γ × List (Rk Γ) × Nat} {m : Machine} {t : Trace} (h : MI C μ m t) :
    (∃ o w ops, stepT C.P m = (.ended o w, ops) ∧ Good C.P C.Post m o w (t ++ ops)) ∨ ∃ m' ops μ', stepT C.P m = (.next m', ops) ∧ MLt μ' μ ∧ MI C μ' m' (t ++ ops) := by
  obtain ⟨r0, rs, gs, w, sl, t, γ, hn, hl, hi, hg⟩ := h
  have aw : ∀ g ∈ gs, awake g := fun g hgm => by
    obtain ⟨i, hi'⟩ := Array.mem_iff_getElem?.1 hgm
    exact (hg i g hi').awake
  have some1 : ∃ (i : Nat) (g : Goroutine), gs[i]? = some g ∧ g.status = .running := by
    apply Classical.byContradiction
    intro hno
    refine ok.noDead _ hi fun i hlt => ?_
    rw [← hn] at hlt
    rcases hg i gs[i] (Array.getElem?_eq_getElem hlt) with ⟨h1, _⟩ | ⟨h, h1, h2, h3, h4, _⟩ | ⟨h1, h2, h3⟩
    · exact absurd ⟨i, gs[i], Array.getElem?_eq_getElem hlt, h1⟩ hno
    · exact .inl h4
    · exact .inr ⟨h2, h3⟩
  obtain ⟨i, g, d, sl', hgi, hs, hstep⟩ := crowd_pick (P := C.P) (w := w) (sl := sl) aw some1
  have hi₁ : C.Inv ⟨w.at d, t, γ⟩ := ok.drawInv ⟨w, t, γ⟩ d hi
  have hn₁ : gs.size = C.num ⟨w.at d, t, γ⟩ := hn.trans (ok.drawNum ⟨w, t, γ⟩ d).symm
  have hg₁ : ∀ j h, gs[j]? = some h → GI C j (rankAt r0 rs j) h ⟨w.at d, t, γ⟩ := fun j h hj => (hg j h hj).rely ok (ok.drawRel j ⟨w, t, γ⟩ d) (ok.drawWaits j ⟨w, t, γ⟩ d)
  have hlt : i < gs.size := (Array.getElem?_eq_some_iff.1 hgi).1
  have hT : TA C i (rankAt r0 rs i) g ⟨w.at d, t, γ⟩ := by
    rcases hg₁ i g hgi with ⟨_, h2⟩ | ⟨h, h1, h2, h3, _⟩ | ⟨h1, _⟩
    · exact h2
    · subst h3; cases hs
    · rw [hs] at h1; cases h1
  obtain ⟨hlv, hk⟩ := hT.node ok hi₁
  unfold StepK at hk
  have newRanks : ∀ r', RkLt r' (rankAt r0 rs i) → ∃ r0' rs', rs'.length = rs.length ∧ rankAt r0' rs' i = r' ∧ (∀ j, j ≠ i → rankAt r0' rs' j = rankAt r0 rs j) ∧ ∀ k k', MLt (r0', rs', k) (r0, rs, k') := by
    intro r' hr'
    by_cases h0 : i = 0
    · subst h0
      exact ⟨r', rs, rfl, by simp [rankAt], fun j hj => rankAt_set0 _ _ _ _ hj, fun k k' => .left _ _ (by simpa [rankAt] using hr')⟩
    · have hil : i - 1 < rs.length := by omega
      refine ⟨r0, rs.set (i - 1) r', by simp, rankAt_self h0 hil, fun j hj => rankAt_set h0 hj, fun k k' => .right _ (.left _ _ ⟨i - 1, rs[i - 1], r', by simp [hil], ?_, rfl⟩)⟩
      simpa [rankAt, h0, List.getD_eq_getElem?_getD, hil] using hr'
  cases hsg : stepG C.P (i == 0) g (w.at d) with
  | go g' w' es =>
    rw [hsg] at hk
    simp only at hk
    rcases hk with ⟨rfl, hoff, rfl, rfl, hwt⟩ | ⟨γ', hi', hnum, hrel, hwk, hend⟩
    ·
      refine .inr ⟨_, _, (r0, rs, running (gs.setIfInBounds i { g with status := .blocked })), hstep.trans (runT_crowd_go hgi hsg), .right _ (.right _ (running_set hgi hs (by simp))), ?_⟩
      have e : gs.map (woken C.P g { g with status := .blocked } (w.at d)) = gs := by
        have : woken C.P g { g with status := .blocked } (w.at d) = id := by funext o; simp [woken]
        rw [this, Array.map_id]
      rw [e, ofEvents_none, Array.append_empty]
      refine .mk r0 rs _ _ _ _ γ (by simpa using hn₁) (by simpa using hl) hi₁ fun j h hj => ?_
      rw [Array.getElem?_setIfInBounds] at hj
      split at hj
      · rename_i hij
        subst hij
        simp at hj
        subst hj
        exact .inr (.inl ⟨g, hs, hoff, rfl, hwt, hT⟩)
      · exact hg₁ j h hj
    · have hb : g'.status = .running ∨ g'.status = .finished := hend.imp (·.1) (·.1)
      have others : ∀ (r0' : Rk Γ) (rs' : List (Rk Γ)), (∀ j, j ≠ i → rankAt r0' rs' j = rankAt r0 rs j) → ∀ j h, j ≠ i → (gs.map (woken C.P g g' w'))[j]? = some h → GI C j (rankAt r0' rs' j) h ⟨w', t ++ MemOp.ofEvents i g.frame.fn g.frame.place es, γ'⟩ := by
        intro r0' rs' hrk j h hj hjh
        rw [Array.getElem?_map] at hjh
        cases ho : gs[j]? with
        | none => rw [ho] at hjh; cases hjh
        | some o =>
          rw [ho] at hjh
          simp only [Option.map_some, Option.some.injEq] at hjh
          subst hjh
          rw [hrk j hj]
          exact (hg₁ j o ho).woken ok (hrel j hj) hb (hwk.imp id fun x => x j hj)
      rcases hend with ⟨hrun, r', hlt', hT'⟩ | ⟨hfin, hne, hgone⟩
      · obtain ⟨r0', rs', e1, e2, e3, e4⟩ := newRanks r' hlt'
        refine .inr ⟨_, _, (r0', rs', running ((gs.map (woken C.P g g' w')).setIfInBounds i g')), hstep.trans (runT_crowd_go hgi hsg), e4 _ _, ?_⟩
        refine .mk r0' rs' _ _ _ _ γ' (by simp only [Array.size_setIfInBounds, Array.size_map]; rw [hnum]; exact hn₁) (by simpa [e1] using hl) hi' fun j h hj => ?_
        rw [Array.getElem?_setIfInBounds] at hj
        split at hj
        · rename_i hij
          subst hij
          simp only [Array.size_map, hlt, if_true, Option.some.injEq] at hj
          subst hj
          rw [e2]
          exact .inl ⟨hrun, hT'⟩
        · rename_i hij
          exact others r0' rs' e3 j h (Ne.symm hij) hj
      · have hr0 : RkLt (rankAt r0 rs i) (rankAt r0 rs i) ∨ True := .inr trivial
        have hex : ∃ r', RkLt r' (rankAt r0 rs i) := by
          unfold TA at hT
          rw [if_neg hne] at hT
          cases hr : rankAt r0 rs i with
          | leaf => rw [hr] at hT; exact hT.elim
          | mk f => exact ⟨f g ⟨w, t, γ⟩, f, g, ⟨w, t, γ⟩, rfl, rfl⟩
        obtain ⟨r', hlt'⟩ := hex
        obtain ⟨r0', rs', e1, e2, e3, e4⟩ := newRanks r' hlt'
        refine .inr ⟨_, _, (r0', rs', running ((gs.map (woken C.P g g' w')).setIfInBounds i g')), hstep.trans (runT_crowd_go hgi hsg), e4 _ _, ?_⟩
        refine .mk r0' rs' _ _ _ _ γ' (by simp only [Array.size_setIfInBounds, Array.size_map]; rw [hnum]; exact hn₁) (by simpa [e1] using hl) hi' fun j h hj => ?_
        rw [Array.getElem?_setIfInBounds] at hj
        split at hj
        · rename_i hij
          subst hij
          simp [hlt] at hj
          subst hj
          exact .inr (.inr ⟨hfin, hne, hgone⟩)
        · rename_i hij
          exact others r0' rs' e3 j h (Ne.symm hij) hj
  | spawn g' child w' es =>
    rw [hsg] at hk
    simp only at hk
    obtain ⟨γ', hi', hnum, hrel, hwt, hrun, ⟨r', hlt', hT'⟩, hi0, hcr, -, rc, hTc⟩ := hk
    subst hi0
    rw [← hn₁] at hi' hnum hrel hwt hT' hTc
    refine .inr ⟨_, _, (r', rs ++ [rc], running ((gs.setIfInBounds 0 g').push child)), hstep.trans (runT_crowd_spawn hgi hsg), .left _ _ (by simpa [rankAt] using hlt'), ?_⟩
    refine .mk r' (rs ++ [rc]) _ _ _ _ γ' ?_ ?_ hi' fun j h hj => ?_
    · simp only [Array.size_push, Array.size_setIfInBounds]; rw [hnum]
    · simp only [Array.size_push, Array.size_setIfInBounds, List.length_append, List.length_singleton]; omega
    · rw [Array.getElem?_push] at hj
      simp only [Array.size_setIfInBounds] at hj
      split at hj
      · rename_i hjs
        cases hj
        subst hjs
        refine .inl ⟨hcr, ?_⟩
        have hne : gs.size ≠ 0 := by omega
        unfold TA
        rw [if_neg hne]
        have : rankAt r' (rs ++ [rc]) gs.size = rc := by
          unfold rankAt
          rw [if_neg hne, List.getD_eq_getElem?_getD, List.getElem?_append_right (by omega)]
          have : gs.size - 1 - rs.length = 0 := by omega
          simp [this]
        rw [this]
        exact hTc
      · rename_i hjs
        rw [Array.getElem?_setIfInBounds] at hj
        split at hj
        · rename_i h0
          subst h0
          simp at hj
          subst hj
          exact .inl ⟨hrun, by simpa [rankAt] using hT'⟩
        · rename_i h0
          have hjlt : j < gs.size := (Array.getElem?_eq_some_iff.1 hj).1
          have : rankAt r' (rs ++ [rc]) j = rankAt r0 rs j := by
            unfold rankAt
            rw [if_neg (Ne.symm h0), if_neg (Ne.symm h0), List.getD_eq_getElem?_getD, List.getD_eq_getElem?_getD, List.getElem?_append_left (by omega)]
          rw [this]
          exact (hg₁ j h hj).rely ok (hrel j (Ne.symm h0) hjlt) (hwt j (Ne.symm h0))
  | ended o w' es =>
    rw [hsg] at hk
    simp only at hk
    obtain ⟨hi0, ⟨v, rfl, hp⟩, hrace, hho, hall⟩ := hk
    subst hi0
    have hq : ∀ j h, gs[j]? = some h → j ≠ 0 → ∃ q, QuitsD C.P q (Deaf t j) h := by
      intro j h hj hne
      have hjlt : j < gs.size := (Array.getElem?_eq_some_iff.1 hj).1
      have hlj : C.Lv j ⟨w.at d, t, γ⟩ := hall j (by omega) (by rw [← hn₁]; exact hjlt)
      rcases hg₁ j h hj with ⟨h1, h2⟩ | ⟨h', h1, h2, h3, h4, h5⟩ | ⟨h1, h2, h3⟩
      · exact (h2.node ok hi₁).1 hlj
      · exact (ok.lvWaits _ _ h4 hlj).elim
      · exact ⟨0, h1, ok.goneDeaf _ _ hi₁ (by rw [← hn₁]; exact hjlt) h3⟩
    have hrun : runT C.P (crowd gs (w.at d) sl') 0 = (.ended (.done v) w', MemOp.ofEvents 0 g.frame.fn g.frame.place es) := by
      obtain ⟨hlt, rfl⟩ := Array.getElem?_eq_some_iff.1 hgi
      have hsw := swapAt_of_lt hlt { (default : Goroutine) with status := .finished }
      have hsg' : stepG C.P (0 == 0) gs[0] (w.at d) = .ended (.done v) w' es := hsg
      unfold runT crowd
      simp only [hsw, hsg', GStep.es]
    refine .inl ⟨_, _, _, hstep.trans hrun, v, rfl, hp, hrace, hho, ⟨fun h hh => ?_, rfl⟩, fun j h hj hne => ?_⟩
    · obtain ⟨k, hk⟩ := List.mem_iff_getElem?.1 hh
      rw [List.getElem?_drop] at hk
      obtain ⟨q, hq'⟩ := hq (1 + k) h (by simpa [crowd] using hk) (by omega)
      exact ⟨q, hq'.leaves⟩
    · obtain ⟨q, hq'⟩ := hq j h hj hne
      refine ⟨q, ?_⟩
      have e : (t ++ MemOp.ofEvents 0 g.frame.fn g.frame.place es).deaf j (t ++ MemOp.ofEvents 0 g.frame.fn g.frame.place es).size = Deaf t j := by
        show Deaf (t ++ MemOp.ofEvents 0 g.frame.fn g.frame.place es) j = Deaf t j
        refine Deaf_other t hne.symm _ (fun op ho => ?_)
        rw [ofEvents_eq] at ho
        obtain ⟨e, _, rfl⟩ := Array.mem_map.1 ho
        rfl
      rw [e]; exact hq'.hears _
  | _ => rw [hsg] at hk; exact hk.elim
theorem MI.runs (ok : C.Ok) {μ : Rk Γ × List (Rk Γ) × Nat} {m : Machine} {t : Trace} (h : MI C μ m t) :
    ∃ N last o w' t', runNT C.P (N + 1) m t = (.ended o w', t') ∧ runN C.P N m = .next last ∧ Go.step C.P last = .ended o w' ∧ Good C.P C.Post last o w' t' :=
  run_of_inv MLt.wf (MI C) (fun m o w t => Good C.P C.Post m o w t) (fun _ _ _ h => h.step ok) μ m t h
end
end Go.Proofs.Ytpfpokjaeffbjab.Cc
namespace Go.Proofs.Ytpfpokjaeffbjab.Cc
open Go.Conc Go.ConcN
set_option linter.unusedVariables false
def lblk : Loc → Option Nat
  | .cell a => some a.block
  | .obj r => some r
  | _ => none
structure Apt (size : Nat) (ex rd sh : Nat → Loc → Prop) : Prop where
  ee : ∀ g g' l, ex g l → ex g' l → g = g'
  er : ∀ g g' l, ex g l → ¬ rd g' l
  es : ∀ g g' l, ex g l → ¬ sh g' l
  rs : ∀ g g' l, rd g l → ¬ sh g' l
  low : ∀ g l, ex g l → ∀ b, lblk l = some b → b < size
  rlow : ∀ g l, rd g l → ∀ b, lblk l = some b → b < size
  slow : ∀ g l, sh g l → ∀ b, lblk l = some b → b < size
  mem : ∀ g l, ex g l ∨ rd g l ∨ sh g l → l.isMemory = true
structure TrI (t : Trace) (num size : Nat) (ex rd sh : Nat → Loc → Prop) : Prop where
  nr : ∀ said, ¬ Race said t
  apt : Apt size ex rd sh
  ex : ∀ g l, ex g l → Perm t g l
  rd : ∀ g l, rd g l → PermW t g l
  sh : ∀ g l, sh g l → ∀ i a, touchAt t i = some a → a.loc = l → (a.kind = .plain → Knows t g i) ∧ (a.kind = .said → t.g? i = some 0)
  low : ∀ i a, touchAt t i = some a → ∀ b, lblk a.loc = some b → b < size ∨ ∀ g, g < num → Knows t g i
  gs : ∀ (i : Nat) (op : MemOp), t[i]? = some op → op.g < num
  norel : ∀ (i : Nat) (op : MemOp), t[i]? = some op → ∀ a, op.act = .mark (.release a) → ∀ k, k ≤ i → t.g? k = some 0
def May (size : Nat) (ex rd sh : Nat → Loc → Prop) (g : Nat) (x : Touch) : Prop :=
  x.loc.isMemory = false ∨ ex g x.loc ∨ (rd g x.loc ∧ x.write = false) ∨ (sh g x.loc ∧ (x.kind = .atomic ∨ (x.kind = .said ∧ g = 0))) ∨ ∃ b, lblk x.loc = some b ∧ size ≤ b
def exGrow (ex : Nat → Loc → Prop) (g size size' : Nat) : Nat → Loc → Prop := fun g' l => ex g' l ∨ (g' = g ∧ ∃ b, lblk l = some b ∧ size ≤ b ∧ b < size')
theorem Apt.grow {size size' : Nat} {ex rd sh : Nat → Loc → Prop} (h : Apt size ex rd sh) (hs : size ≤ size') (g : Nat) : Apt size' (exGrow ex g size size') rd sh := by
  refine ⟨fun g1 g2 l h1 h2 => ?_, fun g1 g2 l h1 h2 => ?_, fun g1 g2 l h1 h2 => ?_, h.rs, fun g1 l h1 b hb => ?_, fun g1 l h1 b hb => Nat.lt_of_lt_of_le (h.rlow g1 l h1 b hb) hs, fun g1 l h1 b hb => Nat.lt_of_lt_of_le (h.slow g1 l h1 b hb) hs, fun g1 l h1 => ?_⟩
  · rcases h1 with h1 | ⟨rfl, b, hb, h3, h4⟩ <;> rcases h2 with h2 | ⟨rfl, b', hb', h3', h4'⟩
    · exact h.ee _ _ _ h1 h2
    · have := h.low _ _ h1 _ hb'; omega
    · have := h.low _ _ h2 _ hb; omega
    · rfl
  · rcases h1 with h1 | ⟨rfl, b, hb, h3, h4⟩
    · exact h.er _ _ _ h1 h2
    · have := h.rlow _ _ h2 _ hb; omega
  · rcases h1 with h1 | ⟨rfl, b, hb, h3, h4⟩
    · exact h.es _ _ _ h1 h2
    · have := h.slow _ _ h2 _ hb; omega
  · rcases h1 with h1 | ⟨rfl, b', hb', h3, h4⟩
    · exact Nat.lt_of_lt_of_le (h.low g1 l h1 b hb) hs
    · rw [hb] at hb'; cases hb'; exact h4
  · rcases h1 with (h1 | ⟨_, b, hb, _⟩) | h1
    · exact h.mem g1 l (.inl h1)
    · cases l <;> first | rfl | cases hb
    · exact h.mem g1 l (.inr h1)
section
variable {t u : Trace} {num size size' : Nat} {ex rd sh : Nat → Loc → Prop}
theorem touchAt_app {i : Nat} {a : Touch} (h : touchAt (t ++ u) i = some a) : (i < t.size ∧ touchAt t i = some a) ∨ (t.size ≤ i ∧ ∃ op ∈ u, (t ++ u)[i]? = some op ∧ op.act.touch? = some a) := by
  obtain ⟨x, hx, hxa⟩ := touch_of h
  rcases getElem?_append_cases hx with ⟨hi, hx'⟩ | ⟨hi, hxu⟩
  · exact .inl ⟨hi, by rw [touchAt_of hx']; exact hxa⟩
  · exact .inr ⟨hi, x, hxu, hx, hxa⟩
theorem TrI.step (h : TrI t num size ex rd sh) (hs : size ≤ size') {g : Nat} (hg : g < num) (hu : ∀ op ∈ u, op.g = g) (hok : ∀ op ∈ u, ∀ x, op.act.touch? = some x → May size ex rd sh g x)
    (hl : ∀ op ∈ u, ∀ x, op.act.touch? = some x → ∀ b, lblk x.loc = some b → b < size') (hn : ∀ op ∈ u, ∀ a, op.act ≠ .mark (.release a)) : TrI (t ++ u) num size' (exGrow ex g size size') rd sh := by
  have A := h.apt
  have isM : ∀ {l : Loc} {b : Nat}, lblk l = some b → l.isMemory = true := fun {l b} hb => by cases l <;> first | rfl | cases hb
  refine ⟨fun said => ?_, A.grow hs g, fun g' l hl' => ?_, fun g' l hl' => ?_, fun g' l hl' i a ha e => ?_, fun i a ha b hb => ?_, fun i op hi => ?_, fun i op hi a => ?_⟩
  · refine noRace_append (h.nr said) hu fun i a ha op hop b hb hc => ?_
    obtain ⟨hloc, hmem, hw, hk⟩ := hc
    rcases hok op hop b hb with h1 | h1 | ⟨h1, h2⟩ | ⟨h1, h2⟩ | ⟨c, h1, h2⟩
    · rw [← hloc, hmem] at h1; cases h1
    · exact h.ex g _ h1 i a ha hloc
    · exact h.rd g _ h1 i a ha hloc (hw.resolve_right (by simp [h2]))
    · obtain ⟨s1, s2⟩ := h.sh g _ h1 i a ha hloc
      rcases h2 with h2 | ⟨h2, rfl⟩
      · rcases hk with hk | hk | ⟨_, _, hk⟩
        · exact s1 hk
        · rw [h2] at hk; cases hk
        · rw [h2] at hk; cases hk
      · rcases hk with hk | hk | ⟨_, hk, _⟩
        · exact s1 hk
        · rw [h2] at hk; cases hk
        · obtain ⟨x, hx, hxa⟩ := touch_of ha
          have := s2 hk
          simp only [Trace.g?, hx, Option.map_some, Option.some.injEq] at this
          have k := knows_own hx
          rwa [this] at k
    · rcases h.low i a ha c (hloc ▸ h1) with h3 | h3
      · omega
      · exact h3 g hg
  · rcases hl' with hl' | ⟨rfl, c, hc, h3, h4⟩
    · refine (h.ex g' l hl').app fun op hop b hb e => ?_
      rw [hu op hop]
      rcases hok op hop b hb with h1 | h1 | ⟨h1, h2⟩ | ⟨h1, h2⟩ | ⟨c, h1, h2⟩
      · have := A.mem g' l (.inl hl'); rw [← e, h1] at this; cases this
      · exact A.ee _ _ _ (e ▸ h1) hl'
      · exact absurd (e ▸ h1) (A.er _ _ _ hl')
      · exact absurd (e ▸ h1) (A.es _ _ _ hl')
      · have := A.low _ _ hl' c (e ▸ h1); omega
    · intro i a ha e
      rcases touchAt_app ha with ⟨_, ha'⟩ | ⟨_, op, hop, hx, hxa⟩
      · rcases h.low i a ha' c (e ▸ hc) with h5 | h5
        · omega
        · exact (h5 _ hg).app u
      · have := knows_own hx
        rwa [hu op hop] at this
  · refine (h.rd g' l hl').app fun op hop b hb e hw => ?_
    rw [hu op hop]
    rcases hok op hop b hb with h1 | h1 | ⟨h1, h2⟩ | ⟨h1, h2⟩ | ⟨c, h1, h2⟩
    · have := A.mem g' l (.inr (.inl hl')); rw [← e, h1] at this; cases this
    · exact absurd hl' (A.er _ _ _ (e ▸ h1))
    · rw [h2] at hw; cases hw
    · exact absurd (e ▸ h1) (A.rs _ _ _ hl')
    · have := A.rlow _ _ hl' c (e ▸ h1); omega
  · rcases touchAt_app ha with ⟨hlt, ha'⟩ | ⟨_, op, hop, hx, hxa⟩
    · obtain ⟨s1, s2⟩ := h.sh g' l hl' i a ha' e
      exact ⟨fun hk => (s1 hk).app u, fun hk => by
        have := s2 hk
        obtain ⟨x, hx, _⟩ := touch_of ha'
        simp only [Trace.g?, getElem?_append_old hlt] at this ⊢
        exact this⟩
    · rcases hok op hop a hxa with h1 | h1 | ⟨h1, h2⟩ | ⟨h1, h2⟩ | ⟨c, h1, h2⟩
      · have := A.mem g' l (.inr (.inr hl')); rw [← e, h1] at this; cases this
      · exact absurd hl' (e ▸ A.es _ _ _ h1)
      · exact absurd hl' (e ▸ A.rs _ _ _ h1)
      · rcases h2 with h2 | ⟨h2, rfl⟩
        · exact ⟨fun hk => (by rw [h2] at hk; cases hk), fun hk => (by rw [h2] at hk; cases hk)⟩
        · refine ⟨fun hk => (by rw [h2] at hk; cases hk), fun _ => ?_⟩
          simp only [Trace.g?, hx, Option.map_some, hu op hop]
      · have := A.slow _ _ hl' c (e ▸ h1); omega
  · rcases touchAt_app ha with ⟨_, ha'⟩ | ⟨_, op, hop, hx, hxa⟩
    · exact (h.low i a ha' b hb).imp (fun h => Nat.lt_of_lt_of_le h hs) fun h g hg => (h g hg).app u
    · exact .inl (hl op hop a hxa b hb)
  · rcases getElem?_append_cases hi with ⟨_, hi'⟩ | ⟨_, hiu⟩
    · exact h.gs i op hi'
    · rw [hu op hiu]; exact hg
  · rcases getElem?_append_cases hi with ⟨_, hi'⟩ | ⟨_, hiu⟩
    · intro e k hk
      have := h.norel i op hi' a e k hk
      have hlt : k < t.size := Nat.lt_of_le_of_lt hk (lt_size_of_getElem? hi')
      simp only [Trace.g?, getElem?_append_old hlt] at this ⊢
      exact this
    · exact fun e => absurd e (hn op hiu a)
theorem TrI.sub (h : TrI t num size ex rd sh) {ex' rd' sh' : Nat → Loc → Prop} (A : Apt size ex' rd' sh') (he : ∀ g l, ex' g l → ex g l) (hr : ∀ g l, rd' g l → rd g l ∨ ex g l) (hs : ∀ g l, sh' g l → sh g l ∨ ex g l ∧ ∀ i a, touchAt t i = some a → a.loc = l → a.kind = .said → t.g? i = some 0) : TrI t num size ex' rd' sh' := by
  refine ⟨h.nr, A, fun g l hl => h.ex g l (he g l hl), fun g l hl => ?_, fun g l hl i a ha e => ?_, h.low, h.gs, h.norel⟩
  · rcases hr g l hl with h1 | h1
    · exact h.rd g l h1
    · exact PermW.of (h.ex g l h1)
  · rcases hs g l hl with h1 | ⟨h1, h2⟩
    · exact h.sh g l h1 i a ha e
    · exact ⟨fun _ => h.ex g l h1 i a ha e, fun hk => h2 i a ha e hk⟩
theorem TrI.fork (h : TrI t num size ex rd sh) (hpos : 0 < num) {x y : MemOp} (hx : x.g = 0 ∧ x.act = .go num) (hy : y.g = num ∧ y.act = .start) (h0 : Deaf t 0 = 0) {ex' rd' sh' : Nat → Loc → Prop} (A : Apt size ex' rd' sh')
    (he : ∀ g l, ex' g l → if g = num then ex 0 l else ex g l) (hr : ∀ g l, rd' g l → if g = num then rd 0 l ∨ ex 0 l else rd g l ∨ ex g l) (hs : ∀ g l, sh' g l → if g = num then sh 0 l else sh g l) :
    TrI (t ++ #[x, y]) (num + 1) size ex' rd' sh' := by
  have hk : Deaf t num = 0 := Deaf_absent fun i op hi e => by have := h.gs i op hi; omega
  have hnt : ∀ op ∈ #[x, y], ∀ b, op.act.touch? = some b → False := by
    intro op hop b hb
    simp only [List.mem_toArray, List.mem_cons, List.not_mem_nil, or_false] at hop
    rcases hop with rfl | rfl
    · rw [hx.2] at hb; cases hb
    · rw [hy.2] at hb; cases hb
  have old : ∀ {i : Nat} {a : Touch}, touchAt (t ++ #[x, y]) i = some a → i < t.size ∧ touchAt t i = some a := by
    intro i a ha
    rcases touchAt_app ha with h1 | ⟨_, op, hop, _, hxa⟩
    · exact h1
    · exact (hnt op hop a hxa).elim
  have kn : ∀ {i : Nat}, Knows t 0 i → Knows (t ++ #[x, y]) num i := fun hi => fork_knows hx hy h0 hk hi
  refine ⟨fun said => ?_, A, fun g l hl i a ha e => ?_, fun g l hl i a ha e hw => ?_, fun g l hl i a ha e => ?_, fun i a ha b hb => (h.low i a (old ha).2 b hb).imp id fun k g hg => (Nat.lt_succ_iff_lt_or_eq.1 hg).elim (fun hg => (k g hg).app _) fun e => e ▸ kn (k 0 hpos), fun i op hi => ?_, fun i op hi a => ?_⟩
  · have e : t ++ #[x, y] = (t ++ #[x]) ++ #[y] := by apply Array.ext'; simp
    rw [e]
    refine noRace_append (g := num) (noRace_append (g := 0) (h.nr said) (fun op hop => by simp at hop; rw [hop]; exact hx.1) (fun i a _ op hop b hb _ => (hnt op (by simp at hop ⊢; exact .inl hop) b hb).elim))
      (fun op hop => by simp at hop; rw [hop]; exact hy.1) (fun i a _ op hop b hb _ => (hnt op (by simp at hop ⊢; exact .inr hop) b hb).elim)
  · have := he g l hl
    split at this
    · rename_i e'; subst e'; exact kn (h.ex 0 l this i a (old ha).2 e)
    · exact (h.ex g l this i a (old ha).2 e).app _
  · have := hr g l hl
    split at this
    · rename_i e'; subst e'
      rcases this with h1 | h1
      · exact kn (h.rd 0 l h1 i a (old ha).2 e hw)
      · exact kn (h.ex 0 l h1 i a (old ha).2 e)
    · rcases this with h1 | h1
      · exact (h.rd g l h1 i a (old ha).2 e hw).app _
      · exact (h.ex g l h1 i a (old ha).2 e).app _
  · have := hs g l hl
    have gq : ∀ {k : Nat}, t.g? i = some k → (t ++ #[x, y]).g? i = some k := fun h' => by simp only [Trace.g?, getElem?_append_old (old ha).1] at h' ⊢; exact h'
    split at this
    · rename_i e'; subst e'
      obtain ⟨s1, s2⟩ := h.sh 0 l this i a (old ha).2 e
      exact ⟨fun hk => kn (s1 hk), fun hk => gq (s2 hk)⟩
    · obtain ⟨s1, s2⟩ := h.sh g l this i a (old ha).2 e
      exact ⟨fun hk => (s1 hk).app _, fun hk => gq (s2 hk)⟩
  · rcases getElem?_append_cases hi with ⟨_, hi'⟩ | ⟨_, hiu⟩
    · have := h.gs i op hi'; omega
    · simp only [List.mem_toArray, List.mem_cons, List.not_mem_nil, or_false] at hiu
      rcases hiu with rfl | rfl
      · rw [hx.1]; omega
      · rw [hy.1]; omega
  · rcases getElem?_append_cases hi with ⟨_, hi'⟩ | ⟨_, hiu⟩
    · intro e k hk
      have := h.norel i op hi' a e k hk
      have hlt : k < t.size := Nat.lt_of_le_of_lt hk (lt_size_of_getElem? hi')
      simp only [Trace.g?, getElem?_append_old hlt] at this ⊢
      exact this
    · simp only [List.mem_toArray, List.mem_cons, List.not_mem_nil, or_false] at hiu
      rcases hiu with rfl | rfl
      · rw [hx.2]; simp
      · rw [hy.2]; simp
end
end Go.Proofs.Ytpfpokjaeffbjab.Cc
