/- Part of the proof: Tape, Lift. -/
import Derived.Test.YtpfpokjaeffbjabGa7
import Derived.Test.YtpfpokjaeffbjabGa1
namespace Go.Proofs.Ytpfpokjaeffbjab.Cc
open Go.Conc
set_option linter.unusedVariables false
section
variable (P : Program) (S : FuncId → Bool) (ro : Nat → Md) (Ds : Nat → Bool) (Ks K : List Item) (Stop : Frame → World → Prop)
def Sim (f : Frame) (base : List Frame) (s : World) : Prop := ∃ ρ f' base' w, KR P S Ds Ks K ρ (f :: base) (f' :: base') ∧ HR P.globals.size (fun f => S f = true) ro ρ s w ∧ ∀ b, s.heap.size ≤ b → ro b = .all
inductive Rch : Frame → List Frame → World → Prop
  | stop {f : Frame} {s : World} (h : Stop f s) : Rch f [] s
  | step {f g : Frame} {base b2 : List Frame} {s s1 : World} {es : Array Event} (h : stepG P true (G f (base ++ [trapFrame])) s = .go (G g (b2 ++ [trapFrame])) s1 es) (l : SLcl P (G f (base ++ [trapFrame])) (G g (b2 ++ [trapFrame])) s s1 es)
      (m : Sim P S ro Ds Ks K g b2 s1) (k : Rch g b2 s1) : Rch f base s
inductive LT : Frame → List Frame → World → Prop
  | stop {f : Frame} {s : World} (τ : Tape) (d : Nat) (h : Stop f (World.on s τ d)) : LT f [] s
  | step {f : Frame} {base : List Frame} {s : World} (nx : Tape → Nat → Frame × List Frame × World) (h : ∀ τ d, ∃ es, stepG P true (G f (base ++ [trapFrame])) (World.on s τ d) = .go (G (nx τ d).1 ((nx τ d).2.1 ++ [trapFrame])) (nx τ d).2.2 es)
      (m : ∀ τ d, Sim P S ro Ds Ks K (nx τ d).1 (nx τ d).2.1 (nx τ d).2.2) (k : ∀ τ d, LT (nx τ d).1 (nx τ d).2.1 (nx τ d).2.2) : LT f base s
end
section
variable {P : Program} {S : FuncId → Bool} {ro : Nat → Md} {Ds : Nat → Bool} {Ks K : List Item} {Stop : Frame → World → Prop}
theorem HR.on {G : Nat} {S : FuncId → Prop} {ρ : Nat → Option Nat} {s w : World} (h : HR G S ro ρ s w) (τ : Tape) (d : Nat) (τ' : Tape) (d' : Nat) : HR G S ro ρ (World.on s τ d) (World.on w τ' d') := ⟨h.inj, h.row, h.hole, h.low, h.gs, h.gw⟩
theorem KR.bare {ρ : Nat → Option Nat} {l l' : List Frame} (h : KR P S Ds Ks K ρ l l') : ∀ f ∈ l, f.defers = [] := by
  have one : ∀ {ρ : Nat → Option Nat} {Ds : Nat → Bool} {Ks K : List Item} {f f' : Frame}, FR P S ρ Ds Ks K f f' → f.defers = [] := fun h => by
    cases h with
    | run X a b c d e f g r => exact d
    | ret a b c d e g r => exact d
  induction h with
  | one h => intro f hf; simp at hf; subst hf; exact one h
  | @cons ρ f f' c c' r r' h hS hp ih =>
    intro x hx
    rcases List.mem_cons.1 hx with rfl | hx
    · exact one h
    · have := ih ρ undef undef (.refl _) .undef
      rcases List.mem_cons.1 hx with e | hx
      · subst e
        have := this (x.finish undef) (List.mem_cons_self ..)
        revert this
        unfold Frame.finish
        split <;> exact id
      · exact this x (by simp [hx])
theorem raise_is (c : Frame) (vs : List PanicEntry) : (∃ ch, (c.raise vs).mode = .panicking ch) ∧ (c.raise vs).defers = c.defers := by
  unfold Frame.raise
  split <;> exact ⟨⟨_, rfl⟩, rfl⟩
theorem panics_dead (hStop : ∀ f s, Stop f s → ∀ c, f.mode ≠ .panicking c) : ∀ (n : Nat) (base : List Frame) (f : Frame) (w : World) (chain : List PanicEntry), f.mode = .panicking chain → f.defers = [] → (∀ x ∈ base, x.defers = []) →
    ∀ fr' w', runN P n (lone f (base ++ [trapFrame]) w) = .next (lone fr' [trapFrame] w') → ¬ Stop fr' w'
  | 0, base, f, w, chain, hm, hd, hb, fr', w', hr, hs => by
    simp only [runN, Stepped.next.injEq] at hr
    have : f = fr' := by
      have := congrArg (fun m => (m.gs[0]?).map (·.frame)) hr
      simpa [lone] using this
    exact hStop fr' w' hs chain (this ▸ hm)
  | n + 1, base, f, w, chain, hm, hd, hb, fr', w', hr, hs => by
    by_cases hc : f.catches P = true
    · have : step P (lone f (base ++ [trapFrame]) w) = .ended (.unsupported (.noEntry "a panic or Goexit out of a method that fmt calls behind a cut's door") (f.pos P)) w :=
        step_lone_ended (by simp [stepG, unwind, hm, hd, hc])
      simp only [runN, this] at hr; cases hr
    · cases base with
      | nil =>
        have : step P (lone f [trapFrame] w) = .next (lone (trapFrame.raise chain) [] w) := step_lone_go (by simp [stepG, unwind, hm, hd, hc])
        simp only [List.nil_append, runN, this] at hr
        cases n with
        | zero =>
          simp only [runN, Stepped.next.injEq] at hr
          have := congrArg (fun m => (m.gs[0]?).map (·.callers)) hr
          simp [lone] at this
        | succ n =>
          have : ∃ o w1, step P (lone (trapFrame.raise chain) [] w) = .ended o w1 := ⟨_, _, step_lone_ended (by simp [stepG, unwind, trapFrame, Frame.raise, callDeferred]; exact ⟨rfl, rfl⟩)⟩
          obtain ⟨o, w1, this⟩ := this
          simp only [runN, this] at hr; cases hr
      | cons c base =>
        have : step P (lone f (c :: (base ++ [trapFrame])) w) = .next (lone (c.raise chain) (base ++ [trapFrame]) w) := step_lone_go (by simp [stepG, unwind, hm, hd, hc])
        simp only [List.cons_append, runN, this] at hr
        obtain ⟨⟨ch, h1⟩, h2⟩ := raise_is c chain
        exact panics_dead hStop n base (c.raise chain) w ch h1 (h2.trans (hb c (by simp))) (fun x hx => hb x (by simp [hx])) fr' w' hr hs
theorem atEnd_dead {f : Frame} {w : World} (hm : f.mode = .returning) (hd : f.defers = []) (hk : f.kind = .normal) : ∀ (n : Nat) (fr' : Frame) (w' : World), runN P (n + 1) (lone f [trapFrame] w) ≠ .next (lone fr' [trapFrame] w') := by
  intro n fr' w' hr
  have key : (∃ o w1, step P (lone f [trapFrame] w) = .ended o w1) ∨ ∃ w1, step P (lone f [trapFrame] w) = .next (lone trapFrame [] w1) := by
    cases hf : P.funcs[f.fn]? with
    | none => exact .inr ⟨w, step_lone_go (by simp [stepG, unwind, hm, hd, hf, doReturn, hk, trapFrame, trapItem, Frame.finish])⟩
    | some fn =>
      cases hres : (Go.results fn f.tmps).run P w with
      | ok v w1 => exact .inr ⟨w1, step_lone_go (by simp [stepG, unwind, hm, hd, hf, doReturn, hk, hres, trapFrame, trapItem, Frame.finish, GStep.after])⟩
      | halt hh w1 => exact .inl (by
          cases hh <;> exact ⟨_, _, step_lone_ended (by simp [stepG, unwind, hm, hd, hf, hres, GStep.after]; exact ⟨rfl, rfl⟩)⟩)
  rcases key with ⟨o, w1, e⟩ | ⟨w1, e⟩
  · simp only [runN, e] at hr; cases hr
  · simp only [runN, e] at hr
    cases n with
    | zero =>
      simp only [runN, Stepped.next.injEq] at hr
      have := congrArg (fun m => (m.gs[0]?).map (·.callers)) hr
      simp [lone] at this
    | succ n =>
      have : ∃ o w2, step P (lone trapFrame [] w1) = .ended o w2 := ⟨_, _, step_lone_ended (by simp [stepG, stepG.exec, trapFrame, trapItem]; exact ⟨rfl, rfl⟩)⟩
      obtain ⟨o, w2, e2⟩ := this
      simp only [runN, e2] at hr; cases hr
theorem Sim.on {f : Frame} {base : List Frame} {s : World} (h : Sim P S ro Ds Ks K f base s) (τ : Tape) (d : Nat) : Sim P S ro Ds Ks K f base (World.on s τ d) := by
  obtain ⟨ρ, f', base', w, h1, h2, h3⟩ := h
  exact ⟨ρ, f', base', World.on w τ d, h1, h2.on τ d τ d, h3⟩
theorem SLcl.at {g g1 : Goroutine} {s s1 : World} {es : Array Event} (h : SLcl P g g1 s s1 es) {τ : Tape} {d : Nat} (e : ∃ c, s1.drawn = s.drawn + c ∧ ∀ j, j < c → τ (d + j) = s.tape (s.drawn + j)) :
    ∃ c, s1.drawn = s.drawn + c ∧ s1.tape = s.tape ∧ stepG P true g (World.on s τ d) = .go g1 (World.on s1 τ (d + c)) es ∧ SLcl P g g1 (World.on s τ d) (World.on s1 τ (d + c)) es := by
  obtain ⟨h1, c, h2, h3⟩ := h
  obtain ⟨c', e1, e2⟩ := e
  obtain rfl : c' = c := by omega
  exact ⟨c', h2, h1, h3 τ d e2, rfl, c', rfl, fun τ' d' hτ => h3 τ' d' fun j hj => (hτ j hj).trans (e2 j hj)⟩
theorem rch_of_run (F : FnsOk P S) (hKs : KsOk Ks K) (hStop : ∀ f s, Stop f s → ∀ c, f.mode ≠ .panicking c) : ∀ (n : Nat) {f : Frame} {base : List Frame} {s : World}, Sim P S ro Ds Ks K f base s →
    ∀ fr' w', runN P n (lone f (base ++ [trapFrame]) s) = .next (lone fr' [trapFrame] w') → Stop fr' w' → Rch P S ro Ds Ks K Stop f base s
  | 0, f, base, s, hs, fr', w', hr, h => by
    simp only [runN, Stepped.next.injEq] at hr
    have e1 : f = fr' := by have := congrArg (fun m => (m.gs[0]?).map (·.frame)) hr; simpa [lone] using this
    have e2 : base ++ [trapFrame] = [trapFrame] := by have := congrArg (fun m => (m.gs[0]?).map (·.callers)) hr; simpa [lone] using this
    have e3 : s = w' := congrArg (·.world) hr
    have e4 : base = [] := by cases base with
      | nil => rfl
      | cons a l => have := congrArg List.length e2; simp at this
    subst e1 e3 e4
    exact .stop h
  | n + 1, f, base, s, hs, fr', w', hr, h => by
    obtain ⟨ρ, f', base', w, h1, h2, h3⟩ := hs
    have hr2 : HR P.globals.size (fun f => S f = true) ro ρ s (World.on w s.tape s.drawn) := h2.on s.tape s.drawn s.tape s.drawn
    rcases step_alike F hKs h1 hr2 rfl rfl h3 with ⟨g, b2, s1, es1, e1, l1, g', b2', w1, ρ1, es, -, k1, m1⟩ | ⟨rfl, hm⟩ | hb
    · have e2 : step P (lone f (base ++ [trapFrame]) s) = .next (lone g (b2 ++ [trapFrame]) s1) := step_lone_go (by
        show (stepG P true (G f (base ++ [trapFrame])) s).bare = _
        rw [e1]; rfl)
      simp only [runN, e2] at hr
      have hs1 : Sim P S ro Ds Ks K g b2 s1 := ⟨ρ1, g', b2', w1, k1, m1.hr, fun b hb => h3 b (Nat.le_trans m1.ssize hb)⟩
      exact .step e1 l1 hs1 (rch_of_run F hKs hStop n hs1 fr' w' hr h)
    · exfalso
      have hd := h1.bare f (by simp)
      have hk : f.kind = .normal := by
        cases h1 with
        | one h => cases h with
          | run X a b c d e' f g r => exact b
          | ret a b c d e' g r => exact b
      exact atEnd_dead hm hd hk n fr' w' hr
    · exfalso
      rcases hb with ⟨o, w1, es, e⟩ | ⟨fr, w1, es, ch, e, hm, hd⟩
      · have e2 : step P (lone f (base ++ [trapFrame]) s) = .ended o w1 := step_lone_ended (by
          show (stepG P true (G f (base ++ [trapFrame])) s).bare = _
          rw [e]; rfl)
        simp only [runN, e2] at hr; cases hr
      · have e2 : step P (lone f (base ++ [trapFrame]) s) = .next (lone fr (base ++ [trapFrame]) w1) := step_lone_go (by
          show (stepG P true (G f (base ++ [trapFrame])) s).bare = _
          rw [e]; rfl)
        simp only [runN, e2] at hr
        exact panics_dead hStop n base fr w1 ch hm hd (fun x hx => h1.bare x (by simp [hx])) fr' w' hr h
theorem Rch.shift (hinv : ∀ f s τ d, Stop f s → Stop f (World.on s τ d)) {f : Frame} {base : List Frame} {s : World} (h : Rch P S ro Ds Ks K Stop f base s) : ∀ τ d, (∀ j, τ (d + j) = s.tape (s.drawn + j)) → Rch P S ro Ds Ks K Stop f base (World.on s τ d) := by
  induction h with
  | stop h => exact fun τ d _ => .stop (hinv _ _ _ _ h)
  | step h l m k ih =>
    intro τ d hτ
    obtain ⟨-, c, hc, -⟩ := id l
    obtain ⟨c', e1, e0, e2, e3⟩ := l.at (τ := τ) (d := d) ⟨c, hc, fun j _ => hτ j⟩
    refine .step e2 e3 (m.on _ _) (ih τ (d + c') fun j => ?_)
    rw [e0, e1, show d + c' + j = d + (c' + j) by omega, hτ, Nat.add_assoc]
theorem LT.of_all (hinv : ∀ f s τ d, Stop f s → Stop f (World.on s τ d)) {f : Frame} {base : List Frame} {s : World} (hsim : Sim P S ro Ds Ks K f base s) (h : ∀ τ d, Rch P S ro Ds Ks K Stop f base (World.on s τ d)) : LT P S ro Ds Ks K Stop f base s := by
  classical
  apply Classical.byContradiction
  intro hno
  let Nd := { x : Frame × List Frame × World // (∀ τ d, Rch P S ro Ds Ks K Stop x.1 x.2.1 (World.on x.2.2 τ d)) ∧ ¬ LT P S ro Ds Ks K Stop x.1 x.2.1 x.2.2 }
  have next : ∀ x : Nd, ∃ (τ : Tape) (d : Nat) (y : Nd) (es : Array Event), stepG P true (G x.1.1 (x.1.2.1 ++ [trapFrame])) (World.on x.1.2.2 τ d) = .go (G y.1.1 (y.1.2.1 ++ [trapFrame])) y.1.2.2 es ∧
      SLcl P (G x.1.1 (x.1.2.1 ++ [trapFrame])) (G y.1.1 (y.1.2.1 ++ [trapFrame])) (World.on x.1.2.2 τ d) y.1.2.2 es := by
    rintro ⟨⟨f, base, s⟩, hR, hL⟩
    simp only at hR hL ⊢
    have h1 : ∃ τ d, ∀ g b2 s1 es, stepG P true (G f (base ++ [trapFrame])) (World.on s τ d) = .go (G g (b2 ++ [trapFrame])) s1 es → Sim P S ro Ds Ks K g b2 s1 → ¬ LT P S ro Ds Ks K Stop g b2 s1 := by
      apply Classical.byContradiction
      intro hn
      apply hL
      have : ∀ τ d, ∃ q : Frame × List Frame × World, (∃ es, stepG P true (G f (base ++ [trapFrame])) (World.on s τ d) = .go (G q.1 (q.2.1 ++ [trapFrame])) q.2.2 es) ∧ Sim P S ro Ds Ks K q.1 q.2.1 q.2.2 ∧ LT P S ro Ds Ks K Stop q.1 q.2.1 q.2.2 := by
        intro τ d
        apply Classical.byContradiction
        intro hq
        exact hn ⟨τ, d, fun g b2 s1 es e hm hl => hq ⟨(g, b2, s1), ⟨es, e⟩, hm, hl⟩⟩
      exact .step (fun τ d => (this τ d).choose) (fun τ d => (this τ d).choose_spec.1) (fun τ d => (this τ d).choose_spec.2.1) fun τ d => (this τ d).choose_spec.2.2
    obtain ⟨τ1, d1, hbad⟩ := h1
    generalize hs0 : World.on s τ1 d1 = s0
    have hr := hR τ1 d1
    rw [hs0] at hr hbad
    cases hr with
    | stop hst => exact absurd (LT.stop τ1 d1 (hs0 ▸ hst)) hL
    | @step _ g _ b2 _ s1 es e l m k =>
      refine ⟨τ1, d1, ⟨(g, b2, s1), ?_, hbad g b2 s1 es e m⟩, es, by rw [hs0]; exact e, by rw [hs0]; exact l⟩
      intro τ d
      obtain ⟨-, c, hc, -⟩ := id l
      have hd0 : s0.drawn = d1 := by rw [← hs0]; rfl
      have ht0 : s0.tape = τ1 := by rw [← hs0]; rfl
      let τ' : Tape := fun n q => if n < c then τ1 (d1 + n) q else τ (d + (n - c)) q
      have ag : ∀ j, j < c → τ' (0 + j) = s0.tape (s0.drawn + j) := fun j hj => by
        funext q
        rw [hd0, ht0]
        show (if 0 + j < c then τ1 (d1 + (0 + j)) q else _) = _
        rw [if_pos (by omega), Nat.zero_add]
      obtain ⟨c', e1, e0, e2, e3⟩ := l.at (τ := τ') (d := 0) ⟨c, hc, ag⟩
      have hcc : c' = c := by omega
      subst hcc
      have hy : Rch P S ro Ds Ks K Stop g b2 (World.on s1 τ' (0 + c')) := by
        have h2 := hR τ' 0
        have es0 : World.on s τ' 0 = World.on s0 τ' 0 := by rw [← hs0]; rfl
        rw [es0] at h2
        generalize hs2 : World.on s0 τ' 0 = s2 at h2 e2
        cases h2 with
        | stop hst => exact absurd (LT.stop τ' 0 (by rw [es0, hs2]; exact hst)) hL
        | @step _ g' _ b2' _ s1' es' e' l' m' k' =>
          rw [e2] at e'
          simp only [GStep.go.injEq, G, Goroutine.mk.injEq, and_true] at e'
          obtain ⟨⟨rfl, hb⟩, rfl, rfl⟩ := e'
          obtain rfl := List.append_cancel_right hb
          exact k'
      have := hy.shift hinv τ d fun j => by
        funext q
        show τ (d + j) q = (if 0 + c' + j < c' then τ1 (d1 + (0 + c' + j)) q else τ (d + (0 + c' + j - c')) q)
        rw [if_neg (by omega)]
        congr 2
        omega
      exact this
  let nxt : Nd → Nd := fun x => (next x).choose_spec.choose_spec.choose
  let tp : Nd → Tape := fun x => (next x).choose
  let dd : Nd → Nat := fun x => (next x).choose_spec.choose
  have spec : ∀ x : Nd, ∃ (es : Array Event), stepG P true (G x.1.1 (x.1.2.1 ++ [trapFrame])) (World.on x.1.2.2 (tp x) (dd x)) = .go (G (nxt x).1.1 ((nxt x).1.2.1 ++ [trapFrame])) (nxt x).1.2.2 es ∧
      SLcl P (G x.1.1 (x.1.2.1 ++ [trapFrame])) (G (nxt x).1.1 ((nxt x).1.2.1 ++ [trapFrame])) (World.on x.1.2.2 (tp x) (dd x)) (nxt x).1.2.2 es := fun x => (next x).choose_spec.choose_spec.choose_spec
  let x0 : Nd := ⟨(f, base, s), h, hno⟩
  let sq : Nat → Nd := fun k => Nat.rec x0 (fun _ x => nxt x) k
  have sq_succ : ∀ k, sq (k + 1) = nxt (sq k) := fun _ => rfl
  let cc : Nat → Nat := fun k => (nxt (sq k)).1.2.2.drawn - dd (sq k)
  let D : Nat → Nat := fun k => Nat.rec 0 (fun k n => n + cc k) k
  have D_succ : ∀ k, D (k + 1) = D k + cc k := fun _ => rfl
  have D_mono : ∀ j k, j ≤ k → D j ≤ D k := fun j k hjk => by
    induction hjk with
    | refl => exact Nat.le_refl _
    | step _ ih => exact Nat.le_trans ih (by rw [D_succ]; omega)
  let tau : Tape := fun m q => if hm : ∃ k, D k ≤ m ∧ m < D (k + 1) then tp (sq hm.choose) (dd (sq hm.choose) + (m - D hm.choose)) q else 0
  have tau_at : ∀ k j, j < cc k → tau (D k + j) = tp (sq k) (dd (sq k) + j) := by
    intro k j hj
    funext q
    have hm : ∃ k', D k' ≤ D k + j ∧ D k + j < D (k' + 1) := ⟨k, by omega, by rw [D_succ]; omega⟩
    have hk : hm.choose = k := by
      obtain ⟨h1, h2⟩ := hm.choose_spec
      rcases Nat.lt_trichotomy hm.choose k with h3 | h3 | h3
      · have := D_mono _ _ h3; rw [Nat.succ_eq_add_one] at this; omega
      · exact h3
      · have := D_mono _ _ h3; rw [Nat.succ_eq_add_one, D_succ] at this; omega
    show (if hm : ∃ k', D k' ≤ D k + j ∧ D k + j < D (k' + 1) then tp (sq hm.choose) (dd (sq hm.choose) + (D k + j - D hm.choose)) q else 0) = _
    rw [dif_pos hm, hk]
    congr 2
    omega
  have never : ∀ {f : Frame} {base : List Frame} {s' : World}, Rch P S ro Ds Ks K Stop f base s' → ∀ k, f = (sq k).1.1 → base = (sq k).1.2.1 → s' = World.on (sq k).1.2.2 tau (D k) → False := by
    intro f base s' hr
    induction hr with
    | @stop f s' hst =>
      intro k e1 e2 e3
      have := (sq k).2.2
      rw [← e1, ← e2] at this
      exact this (.stop tau (D k) (e3 ▸ hst))
    | @step f g base b2 s' s1 es e l m kk ih =>
      intro k e1 e2 e3
      obtain ⟨es2, p1, p2⟩ := spec (sq k)
      obtain ⟨-, c, hc, -⟩ := id p2
      have hcc : cc k = c := by
        show (nxt (sq k)).1.2.2.drawn - dd (sq k) = c
        rw [hc]
        show dd (sq k) + c - dd (sq k) = c
        omega
      obtain ⟨c', q1, q0, q2, q3⟩ := p2.at (τ := tau) (d := D k) ⟨c, hc, fun j hj => tau_at k j (by omega)⟩
      have hc' : c' = c := by omega
      subst hc'
      have e4 : stepG P true (G f (base ++ [trapFrame])) s' = .go (G (nxt (sq k)).1.1 ((nxt (sq k)).1.2.1 ++ [trapFrame])) (World.on (nxt (sq k)).1.2.2 tau (D k + c')) es2 := by
        rw [e1, e2, e3]; exact q2
      rw [e4] at e
      simp only [GStep.go.injEq, G, Goroutine.mk.injEq, and_true] at e
      obtain ⟨⟨h1, h2⟩, h3, -⟩ := e
      have h2 := List.append_cancel_right h2
      exact ih (k + 1) (by rw [sq_succ]; exact h1.symm) (by rw [sq_succ]; exact h2.symm) (by rw [sq_succ, D_succ, hcc]; exact h3.symm)
  exact never (h tau 0) 0 rfl rfl rfl
end
end Go.Proofs.Ytpfpokjaeffbjab.Cc
namespace Go.Proofs.Ytpfpokjaeffbjab.Cc
open Go.Conc
set_option linter.unusedVariables false
section
variable {Γ : Type} (C : Cfg Γ) (S : FuncId → Bool) (ro : Nat → Md) (i : Nat) (Vis : (Nat → Option Nat) → St Γ → Prop)
structure Own : Prop where
  stable : ∀ ρ st st₁, Vis ρ st → C.Rel i st st₁ → C.Inv st₁ → Vis ρ st₁ ∧ ∀ s, HR C.P.globals.size (fun f => S f = true) ro ρ s st.w → HR C.P.globals.size (fun f => S f = true) ro ρ s st₁.w
  lv : ∀ ρ st, Vis ρ st → ¬ C.Lv i st
  step : ∀ ρ st s ρ1 s1 w1 es fn pos, Vis ρ st → C.Inv st → Mv C.P.globals.size (fun f => S f = true) ro ρ s st.w ρ1 s1 w1 es →
    ∃ γ', C.Inv ⟨w1, st.t ++ MemOp.ofEvents i fn pos es, γ'⟩ ∧ C.num ⟨w1, st.t ++ MemOp.ofEvents i fn pos es, γ'⟩ = C.num st ∧ (∀ j, j ≠ i → C.Rel j st ⟨w1, st.t ++ MemOp.ofEvents i fn pos es, γ'⟩) ∧
      (∀ k, k ≠ i → C.Waits k st → C.Waits k ⟨w1, st.t ++ MemOp.ofEvents i fn pos es, γ'⟩) ∧ Vis ρ1 ⟨w1, st.t ++ MemOp.ofEvents i fn pos es, γ'⟩
end
section
variable {Γ : Type} {C : Cfg Γ} {S : FuncId → Bool} {ro : Nat → Md} {i : Nat} {Vis : (Nat → Option Nat) → St Γ → Prop} {Ch : Nat → Goroutine → St Γ → Prop} {Ds : Nat → Bool} {Ks K : List Item} {Stop : Frame → World → Prop}
theorem StepK.own {g g' : Goroutine} {st : St Γ} {w' : World} {es : Array Event} {Kk : Goroutine → St Γ → Prop} (h : stepG C.P (i == 0) g st.w = .go g' w' es) (hs : g'.status = .running) {γ' : Γ}
    (h1 : C.Inv ⟨w', st.t ++ MemOp.ofEvents i g.frame.fn g.frame.place es, γ'⟩) (h2 : C.num ⟨w', st.t ++ MemOp.ofEvents i g.frame.fn g.frame.place es, γ'⟩ = C.num st)
    (h3 : ∀ j, j ≠ i → C.Rel j st ⟨w', st.t ++ MemOp.ofEvents i g.frame.fn g.frame.place es, γ'⟩) (h4 : mayWake C.P g = true ∨ ∀ k, k ≠ i → C.Waits k st → C.Waits k ⟨w', st.t ++ MemOp.ofEvents i g.frame.fn g.frame.place es, γ'⟩)
    (h5 : Kk g' ⟨w', st.t ++ MemOp.ofEvents i g.frame.fn g.frame.place es, γ'⟩) : StepK C i Ch Kk g st := by
  unfold StepK
  rw [h]
  exact .inr ⟨γ', h1, h2, h3, h4, .inl ⟨hs, h5⟩⟩
theorem lift_tree (F : FnsOk C.P S) (hKs : KsOk Ks K) (pv : Own C S ro i Vis) {f : Frame} {base : List Frame} {s : World} (h : LT C.P S ro Ds Ks K Stop f base s) : ∀ (ρ : Nat → Option Nat) (f' : Frame) (base' tail : List Frame) (st : St Γ),
    KR C.P S Ds Ks K ρ (f :: base) (f' :: base') → HR C.P.globals.size (fun f => S f = true) ro ρ s st.w → Vis ρ st → (∀ b, s.heap.size ≤ b → ro b = .all) →
    (∀ ρ' fr fr' s' st', Ext ρ ρ' → FR C.P S ρ' Ds Ks K fr fr' → (∃ τ d, Stop fr (World.on s' τ d)) → HR C.P.globals.size (fun f => S f = true) ro ρ' s' st'.w → Vis ρ' st' → (∀ b, s'.heap.size ≤ b → ro b = .all) → TT C i Ch (G fr' tail) st') →
    TT C i Ch (G f' (base' ++ tail)) st := by
  induction h with
  | @stop f s τ d hst =>
    intro ρ f' base' tail st hK hH hV hro fin
    cases hK with
    | one hF => exact fin ρ f f' s st (Ext.refl ρ) hF ⟨τ, d, hst⟩ hH hV hro
  | @step f base s nx hstep hsim hk ih =>
    intro ρ f' base' tail st hK hH hV hro fin
    refine TT.step fun st₁ hr hi => ?_
    obtain ⟨hV1, hst⟩ := pv.stable ρ st st₁ hV hr hi
    refine ⟨fun hl => absurd hl (pv.lv _ _ hV1), ?_⟩
    have hH1 : HR C.P.globals.size (fun f => S f = true) ro ρ (World.on s st₁.w.tape st₁.w.drawn) st₁.w := by
      have := hst s hH
      exact ⟨this.inj, this.row, this.hole, this.low, this.gs, this.gw⟩
    obtain ⟨es0, e0⟩ := hstep st₁.w.tape st₁.w.drawn
    have hm0 := hsim st₁.w.tape st₁.w.drawn
    have ih0 := ih st₁.w.tape st₁.w.drawn
    generalize nx st₁.w.tape st₁.w.drawn = q at e0 hm0 ih0
    rcases step_alike F hKs hK hH1 rfl rfl hro with ⟨g, b2, s1, es1, e1, l1, g', b2', w1, ρ1, es, er, k1, m1⟩ | ⟨rfl, hm⟩ | hb
    · rw [e0] at e1
      simp only [GStep.go.injEq, G, Goroutine.mk.injEq, and_true] at e1
      obtain ⟨⟨h1, h2⟩, h3, -⟩ := e1
      have h2 := List.append_cancel_right h2
      subst h1 h2 h3
      have m1' : Mv C.P.globals.size (fun f => S f = true) ro ρ (World.on s st₁.w.tape st₁.w.drawn) st₁.w ρ1 q.2.2 w1 es := m1
      obtain ⟨γ', i1, i2, i3, i4, i5⟩ := pv.step ρ st₁ _ ρ1 _ w1 es f'.fn f'.place hV1 hi m1'
      refine StepK.own (er _ tail) rfl i1 i2 i3 (.inr i4) ?_
      exact ih0 ρ1 g' b2' tail _ k1 m1.hr i5 (fun b hb => hro b (Nat.le_trans m1.ssize hb)) fun ρ' fr fr' s' st' he => fin ρ' fr fr' s' st' (m1.ext.trans he)
    · exfalso
      have hd := hK.bare f (by simp)
      have hk : f.kind = .normal := by
        cases hK with
        | one h => cases h with
          | run X a b c d e' f g r => exact b
          | ret a b c d e' g r => exact b
      have e2 : step C.P (lone f [trapFrame] (World.on s st₁.w.tape st₁.w.drawn)) = .next (lone q.1 (q.2.1 ++ [trapFrame]) q.2.2) := step_lone_go (by
        show (stepG C.P true (G f ([] ++ [trapFrame])) _).bare = _
        rw [e0]; rfl)
      cases hb : q.2.1 with
      | nil =>
        rw [hb] at e2
        exact atEnd_dead (P := C.P) (w := World.on s st₁.w.tape st₁.w.drawn) hm hd hk 0 q.1 q.2.2 (by simp only [runN, e2]; rfl)
      | cons c l =>
        have e3 : stepG C.P true (G f [trapFrame]) (World.on s st₁.w.tape st₁.w.drawn) = .go (G q.1 (q.2.1 ++ [trapFrame])) q.2.2 es0 := e0
        revert e3
        rw [hb]
        cases hf : C.P.funcs[f.fn]? with
        | none => simp [G, stepG, unwind, hm, hd, hf, doReturn, hk]
        | some fn =>
          cases hres : (Go.results fn f.tmps).run C.P (World.on s st₁.w.tape st₁.w.drawn) with
          | ok v w1 => simp [G, stepG, unwind, hm, hd, hf, doReturn, hk, hres, GStep.after]
          | halt hh w1 => cases hh <;> simp [G, stepG, unwind, hm, hd, hf, hres, GStep.after]
    · exfalso
      rcases hb with ⟨o, w1, es, e⟩ | ⟨fr, w1, es, ch, e, hm, hd⟩
      · rw [e0] at e; cases e
      · rw [e0] at e
        simp only [GStep.go.injEq, G, Goroutine.mk.injEq, and_true] at e
        obtain ⟨⟨h1, h2⟩, h3, -⟩ := e
        obtain ⟨ρ2, f2, base2, w2, h4, -⟩ := hm0
        have : ∃ f'' ρ2 Ds Ks K, FR C.P S ρ2 Ds Ks K q.1 f'' := by
          generalize q.1 = q1, q.2.1 = q2 at h4
          cases h4 with
          | one h => exact ⟨_, _, _, _, _, h⟩
          | cons h _ _ => exact ⟨_, _, _, _, _, h⟩
        obtain ⟨f'', ρ2, Ds2, Ks2, K2, hF⟩ := this
        rw [h1] at hF
        cases hF with
        | run X a b c d e f g r => cases hm
        | ret a b c d e g r => cases hm
def CallStop (P : Program) (R : Value → World → Prop) (fr : Frame) (w : World) : Prop := ∃ τ d v, fr.leaving P (World.on w τ d) (.returned v) ∧ R v (World.on w τ d)
theorem lift_call (F : FnsOk C.P S) (pv : Own C S ro i Vis) {R : Value → World → Prop} {f : FuncId} {args args' : Array Value} (hS : S f = true) {ρ : Nat → Option Nat} {s : World} {st : St Γ} (ha : AR (fun f => S f = true) ρ args args') (hH : HR C.P.globals.size (fun f => S f = true) ro ρ s st.w)
    (hV : Vis ρ st) (hro : ∀ b, s.heap.size ≤ b → ro b = .all) (hC : ∀ τ d, Calls C.P f args (World.on s τ d) fun e w' => ∃ v, e = .returned v ∧ R v w') {c : Frame} {cs : List Frame}
    (fin : ∀ ρ' v v' s' st', Ext ρ ρ' → VR (fun f => S f = true) ρ' v v' → (∃ τ d, R v (World.on s' τ d)) → HR C.P.globals.size (fun f => S f = true) ro ρ' s' st'.w → Vis ρ' st' → TT C i Ch (G (c.finish v') cs) st') :
    TT C i Ch (G (Frame.enter C.P f args' .normal) (c :: cs)) st := by
  obtain ⟨fn, code, hf1, hf2, hf3, hf4⟩ := F f hS
  have hK : KR C.P S noD [] [] ρ [Frame.enter C.P f args .normal] [Frame.enter C.P f args' .normal] := by
    rw [enter_at args hf1 hf2, enter_at args' hf1 hf2]
    refine .one (.run (b := Go.Conc.base f) (b' := Go.Conc.base f) [.code code] rfl rfl rfl rfl rfl (by simp only [List.all_cons, Bool.and_eq_true]; exact ⟨hf4, rfl⟩) ?_ res_no)
    show AR (fun f => S f = true) ρ (msk noD (args ++ Array.replicate (fn.ntmps - args.size) undef)) (msk noD (args' ++ Array.replicate (fn.ntmps - args'.size) undef))
    rw [msk_no, msk_no, ← ha.size]
    exact ha.append (AR.replicate _ VR.undef)
  have hsim : Sim C.P S ro noD [] [] (Frame.enter C.P f args .normal) [] s := ⟨ρ, _, [], st.w, hK, hH, hro⟩
  have hinv : ∀ f s τ d, CallStop C.P R f s → CallStop C.P R f (World.on s τ d) := fun f s τ d ⟨τ', d', v, h1, h2⟩ => ⟨τ', d', v, h1, h2⟩
  have hT : LT C.P S ro noD [] [] (CallStop C.P R) (Frame.enter C.P f args .normal) [] s := by
    refine LT.of_all hinv hsim fun τ d => ?_
    obtain ⟨e, w', fr, ⟨v, rfl, hR⟩, ⟨n, hn⟩, -, hl⟩ := hC τ d [trapFrame]
    exact rch_of_run F (.inl ⟨rfl, rfl⟩) (fun f s ⟨τ, d, v, h, _⟩ c hc => by have := h.1; rw [hc] at this; cases this) n (hsim.on τ d) fr w' hn ⟨w'.tape, w'.drawn, v, hl, hR⟩
  refine lift_tree F (.inl ⟨rfl, rfl⟩) pv hT ρ _ [] (c :: cs) st hK hH hV hro ?_
  rintro ρ' fr fr' s' st' hExt hF ⟨τ0, d0, τ, d, v, hl, hR⟩ hH' hV' hro'
  have hl' : fr.leaving C.P (World.on s' τ d) (.returned v) := hl
  have hR' : R v (World.on s' τ d) := hR
  cases hF with
  | run X a b c d e f g r => cases hl'.1
  | @ret b b' a a' todo todo' hfn hk hk' hda hda' hta _ =>
    rw [msk_no, msk_no] at hta
    obtain ⟨-, -, -, fn, hfn1, hres⟩ := hl'
    have hfn1 : C.P.funcs[b.fn]? = some fn := hfn1
    have hfn2 : C.P.funcs[b'.fn]? = some fn := by rw [hfn]; exact hfn1
    have hres : (Go.results fn a.tmps).run C.P (World.on s' τ d) = .ok v (World.on s' τ d) := hres
    refine TT.step fun st₁ hr hi => ?_
    obtain ⟨hV1, hst⟩ := pv.stable ρ' st' st₁ hV' hr hi
    refine ⟨fun hl => absurd hl (pv.lv _ _ hV1), ?_⟩
    have hH1 := hst s' hH'
    have hA : HR C.P.globals.size (fun f => S f = true) ro ρ' (World.on s' τ d) (World.on st₁.w τ d) := ⟨hH1.inj, hH1.row, hH1.hole, hH1.low, hH1.gs, hH1.gw⟩
    have hB : HR C.P.globals.size (fun f => S f = true) ro ρ' (World.on s' st₁.w.tape st₁.w.drawn) st₁.w := ⟨hH1.inj, hH1.row, hH1.hole, hH1.low, hH1.gs, hH1.gw⟩
    obtain ⟨-, n, hn, hl⟩ := (SR.results (P := C.P) (ro := ro) hta fn _ _ hA rfl rfl hro').2.2 v _ hres
    have hn0 : n = 0 := by have : d = d + n := hn; omega
    subst hn0
    have hres2 : (Go.results fn a.tmps).run C.P (World.on s' st₁.w.tape st₁.w.drawn) = .ok v (World.on s' st₁.w.tape st₁.w.drawn) := (hl st₁.w.tape st₁.w.drawn fun j hj => by omega).1
    obtain ⟨ρ1, v', w1, h1, h2, h3⟩ := (SR.results (P := C.P) (ro := ro) hta fn _ _ hB rfl rfl hro').1 v _ hres2
    have m := h2.sub (es' := seen C.P b'.fn ((Go.results fn a'.tmps).events C.P st₁.w #[])) fun e he => mem_seen he
    obtain ⟨γ', i1, i2, i3, i4, i5⟩ := pv.step ρ' st₁ _ ρ1 _ w1 _ b'.fn "" hV1 hi m
    refine StepK.own (stepG_leaveE hk' hda' hfn2 h1) rfl i1 i2 i3 (.inr i4) ?_
    exact fin ρ1 v v' (World.on s' st₁.w.tape st₁.w.drawn) _ (hExt.trans h2.ext) h3 ⟨τ, d, hR'⟩ h2.hr i5
def CodeStop (b : Frame) (Q : Exit → Act → World → Prop) (fr : Frame) (w : World) : Prop :=
  ∃ τ d a, (fr = b.at a [trapItem] ∧ Q .normal a (World.on w τ d)) ∨ ∃ todo, fr = { b.at a todo with mode := .returning } ∧ Q .ret a (World.on w τ d)
theorem at_eq {b b' : Frame} (h1 : b'.fn = b.fn) (h2 : b'.kind = b.kind) (a : Act) (k : List Item) : b'.at a k = b.at a k := by unfold Frame.at; rw [h1, h2]
theorem lift_code (F : FnsOk C.P S) (pv : Own C S ro i Vis) {Q : Exit → Act → World → Prop} (hQ : ∀ e a w, Q e a w → e = .normal ∨ e = .ret) {code : Code} (hc : codeOk C.P S Ds code = true) {b : Frame} (hR : ∀ fn, C.P.funcs[b.fn]? = some fn → fn.results.all (resD Ds) = true) {a a' : Act} (hk : b.kind = .normal) (hd : a.defers = []) (hd' : a'.defers = [])
    {ρ : Nat → Option Nat} {s : World} {st : St Γ} (ha : AR (fun f => S f = true) ρ (msk Ds a.tmps) (msk Ds a'.tmps)) (hH : HR C.P.globals.size (fun f => S f = true) ro ρ s st.w) (hV : Vis ρ st) (hro : ∀ b, s.heap.size ≤ b → ro b = .all)
    (hC : ∀ τ d, code.wp C.P Q a (World.on s τ d)) {k : List Item} {cs : List Frame}
    (finN : ∀ ρ' a2 a2' s' st', Ext ρ ρ' → AR (fun f => S f = true) ρ' (msk Ds a2.tmps) (msk Ds a2'.tmps) → a2'.defers = [] → (∃ τ d, Q .normal a2 (World.on s' τ d)) → HR C.P.globals.size (fun f => S f = true) ro ρ' s' st'.w → Vis ρ' st' → (∀ b, s'.heap.size ≤ b → ro b = .all) → TT C i Ch (G (b.at a2' k) cs) st')
    (finR : ∀ ρ' a2 a2' s' st' todo, Ext ρ ρ' → AR (fun f => S f = true) ρ' (msk Ds a2.tmps) (msk Ds a2'.tmps) → a2'.defers = [] → (∃ τ d, Q .ret a2 (World.on s' τ d)) → HR C.P.globals.size (fun f => S f = true) ro ρ' s' st'.w → Vis ρ' st' → (∀ b, s'.heap.size ≤ b → ro b = .all) → TT C i Ch (G { b.at a2' todo with mode := .returning } cs) st') :
    TT C i Ch (G (b.at a' (.code code :: k)) cs) st := by
  have hK : KR C.P S Ds [trapItem] k ρ [b.at a ([.code code] ++ [trapItem])] [b.at a' ([.code code] ++ k)] :=
    .one (.run [.code code] rfl hk hk hd hd' (by simp only [List.all_cons, Bool.and_eq_true]; exact ⟨hc, rfl⟩) ha hR)
  have hsim : Sim C.P S ro Ds [trapItem] k (b.at a ([.code code] ++ [trapItem])) [] s := ⟨ρ, _, [], st.w, hK, hH, hro⟩
  have hinv : ∀ f s τ d, CodeStop b Q f s → CodeStop b Q f (World.on s τ d) := fun f s τ d ⟨τ', d', x, h⟩ => ⟨τ', d', x, h⟩
  have hT : LT C.P S ro Ds [trapItem] k (CodeStop b Q) (b.at a ([.code code] ++ [trapItem])) [] s := by
    refine LT.of_all hinv hsim fun τ d => ?_
    obtain ⟨e, a2, w', hq, hr⟩ := hC τ d b [trapItem] [trapFrame]
    have np : ∀ f s, CodeStop b Q f s → ∀ c, f.mode ≠ .panicking c := by
      rintro f s ⟨τ, d, x, ⟨rfl, -⟩ | ⟨todo, rfl, -⟩⟩ c hm <;> cases hm
    rcases hQ e a2 w' hq with rfl | rfl
    · obtain ⟨n, hn⟩ := hr
      exact rch_of_run F (.inr rfl) np n (hsim.on τ d) _ w' hn ⟨w'.tape, w'.drawn, a2, .inl ⟨rfl, hq⟩⟩
    · obtain ⟨todo, n, hn⟩ := hr
      exact rch_of_run F (.inr rfl) np n (hsim.on τ d) _ w' hn ⟨w'.tape, w'.drawn, a2, .inr ⟨todo, rfl, hq⟩⟩
  refine lift_tree F (.inr rfl) pv hT ρ _ [] cs st hK hH hV hro ?_
  rintro ρ' fr fr' s' st' hExt hF ⟨τ0, d0, τ, d, a2, hst⟩ hH' hV' hro'
  cases hF with
  | @run b1 b1' a1 a1' X hfn hk1 hk1' hd1 hd1' hX ht _ =>
    rcases hst with ⟨he, hq⟩ | ⟨todo, he, -⟩
    · simp only [Frame.at, Frame.mk.injEq] at he
      obtain ⟨h1, h2, h3, h4, -⟩ := he
      have hX0 : X = [] := by
        cases X with
        | nil => rfl
        | cons x X => have := congrArg List.length h3; simp at this
      subst hX0
      have : a1 = a2 := by cases a1; cases a2; simp at h2 h4; subst h2 h4; rfl
      subst this
      have e : b1'.at a1' ([] ++ k) = b.at a1' k := at_eq (hfn.trans h1) (hk1'.trans hk.symm) a1' k
      rw [e]
      exact finN ρ' a1 a1' s' st' hExt ht hd1' ⟨τ, d, hq⟩ hH' hV' hro'
    · have := congrArg Frame.mode he
      simp [Frame.at] at this
  | @ret b1 b1' a1 a1' todo todo' hfn hk1 hk1' hd1 hd1' ht _ =>
    rcases hst with ⟨he, hq⟩ | ⟨todo2, he, hq⟩
    · have := congrArg Frame.mode he
      simp [Frame.at] at this
    · simp only [Frame.at, Frame.mk.injEq] at he
      obtain ⟨h1, h2, h3, h4, -⟩ := he
      have : a1 = a2 := by cases a1; cases a2; simp at h2 h4; subst h2 h4; rfl
      subst this
      have e : ({ b1'.at a1' todo' with mode := .returning } : Frame) = { b.at a1' todo' with mode := .returning } := by
        rw [at_eq (hfn.trans h1) (hk1'.trans hk.symm) a1' todo']
      rw [e]
      exact finR ρ' a1 a1' s' st' todo' hExt ht hd1' ⟨τ, d, hq⟩ hH' hV' hro'
end
end Go.Proofs.Ytpfpokjaeffbjab.Cc
