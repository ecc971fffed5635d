/- Part of the proof: Onc2, Onc3, Onc4, Onc5. -/
import Derived.Test.YtpfpokjaeffbjabGa10
namespace Go.Proofs.Ytpfpokjaeffbjab.Cc
open Go.Conc Go.ConcN
open Go.ConcR (KK wgBlock WgAt stA smA rd wr mk DC0)
open Go.ConcM (OsLater)
set_option linter.unusedVariables false
def plusSh (f : Nat → Loc → Prop) (i : Nat) (s : Scene) : Nat → Loc → Prop := fun g l => f g l ∨ (g = i ∧ ∃ off, 6 ≤ off ∧ off < 16 ∧ l = ca s.Gb off)
theorem ops_one (i : Nat) (fn : FuncId) (pos : String) (e : Event) : MemOp.ofEvents i fn pos #[e] = #[{ g := i, fn, pos, act := .ofEvent e }] := by rw [ofEvents_eq]; simp
section
variable {q : Prm} {i : Nat} {s : Scene} {x : Wk}
theorem owner_one {st : St Gho} (h : Inv q st) (hA : At s i x st) {o : OwnS} (hmx : x.mx = .own o) : ∀ j, j ≠ i → ∀ o', (st.γ.wk j).mx ≠ .own o' := by
  intro j hj o' e
  have c := (h.scene s hA.sc).c
  have hold0 : st.γ.old = s.n0 := by unfold Gho.old; rw [hA.sc]
  have hi2 := hA.hi h
  by_cases h1 : j < s.n0
  · rcases h.base.omx j (by rw [hold0]; exact h1) with h2 | h2 <;> rw [e] at h2 <;> cases h2
  by_cases h2 : st.γ.num ≤ j
  · have := c.new j h2
    rw [this] at e; cases e
  have hj2 : j < s.n0 + s.n := by have := c.n0; omega
  have e1 := cnt_upd MX.isOwn st.γ.mm s.n .out hA.lo hi2
  have e2 := cnt_pos (m := upd st.γ.mm i .out) (p := MX.isOwn) (by omega : s.n0 ≤ j) hj2 (by rw [upd_ne _ _ hj]; show MX.isOwn (st.γ.wk j).mx = true; rw [e]; rfl)
  rw [show st.γ.mm i = .own o from (mm_at hA).trans hmx] at e1
  simp [MX.isOwn] at e1
  have := c.mu.own
  have := c.mu.bd
  omega
theorem ev3_touch {e : Event} (he : e ∈ (#[⟨.cell ⟨s.Gb, 3, none⟩, false, true⟩] : Array Event)) {y : Touch} (hy : (MemAct.ofEvent e).touch? = some y) : y = ⟨ca s.Gb 3, false, .atomic⟩ := by
  simp at he
  subst he
  cases hy
  rfl
theorem Inv.load1 {st : St Gho} (h : Inv q st) (hA : At s i x st) (hx : x.wg = .work) (hdf : x.df = 0) (hD : st.γ.D = 1) (n1 : x.mx ≠ .own .work) (fn : FuncId) (pos : String) :
    Inv q ⟨st.w, st.t ++ MemOp.ofEvents i fn pos #[⟨.cell ⟨s.Gb, 3, none⟩, false, true⟩], { st.γ with wk := upd st.γ.wk i { x with syn := true }, rd := plusSh st.γ.rd i s }⟩ ∧
    ∀ j, j ≠ i → Rl j st ⟨st.w, st.t ++ MemOp.ofEvents i fn pos #[⟨.cell ⟨s.Gb, 3, none⟩, false, true⟩], { st.γ with wk := upd st.γ.wk i { x with syn := true }, rd := plusSh st.γ.rd i s }⟩ := by
  obtain ⟨c, p, t⟩ := h.scene s hA.sc
  have A := h.base.tr.apt
  have hl := c.lts
  have nowork : ∀ j, (st.γ.wk j).mx ≠ .own .work := fun j e => by have := c.work j e; omega
  have at_ : ∀ j, upd st.γ.wk i { x with syn := true } j = if j = i then { x with syn := true } else st.γ.wk j := fun j => rfl
  have hmx : ∀ j, (upd st.γ.wk i { x with syn := true } j).mx = (st.γ.wk j).mx := fun j => by
    rw [at_]; split
    · rename_i e; subst e; rw [hA.me]
    · rfl
  have hwg : ∀ j, (upd st.γ.wk i { x with syn := true } j).wg = (st.γ.wk j).wg := fun j => by
    rw [at_]; split
    · rename_i e; subst e; rw [hA.me]
    · rfl
  have hmm : ({ st.γ with wk := upd st.γ.wk i { x with syn := true }, rd := plusSh st.γ.rd i s } : Gho).mm = st.γ.mm := funext fun j => hmx j
  have noS := p.noS nowork
  have A' : Apt st.w.heap.size st.γ.ex (plusSh st.γ.rd i s) st.γ.sh := by
    refine ⟨A.ee, fun g g' l h1 h2 => ?_, A.es, fun g g' l h1 h2 => ?_, A.low, fun g l h1 b hb => ?_, A.slow, fun g l h1 => ?_⟩
    · rcases h2 with h2 | ⟨_, off, o1, o2, rfl⟩
      · exact A.er _ _ _ h1 h2
      · exact absurd h1 (noS g off o1 o2).1
    · rcases h1 with h1 | ⟨_, off, o1, o2, rfl⟩
      · exact A.rs _ _ _ h1 h2
      · exact (noS g' off o1 o2).2.1 h2
    · rcases h1 with h1 | ⟨_, off, o1, o2, rfl⟩
      · exact A.rlow _ _ h1 b hb
      · have : s.Gb = b := by unfold ca lblk at hb; simpa using hb
        omega
    · rcases h1 with h1 | (h1 | ⟨_, off, o1, o2, rfl⟩) | h1
      · exact A.mem _ _ (.inl h1)
      · exact A.mem _ _ (.inr (.inl h1))
      · rfl
      · exact A.mem _ _ (.inr (.inr h1))
  have hmem := hA.mem
  have sh3 := (p.shG i hmem).1 3 (by omega) (by omega)
  refine h.gen hA.sc hmem rfl rfl (fun _ => .rfl) (fun e he y hy => ?_) (fun e he a => ?_) (fun _ e he y hy => by rw [ev3_touch he hy]; simp) (fun T => ?_) (fun j hj l => ⟨id, .inl⟩) (fun g l hl => ?_) rfl (fun _ => .inl rfl) (.refl _) rfl (fun j hj => upd_ne _ _ hj) (fun _ => ⟨rfl, rfl⟩) (fun e => absurd e hA.ne) (fun _ => ?_) ?_ ?_ ?_ ?_ (fun _ => ?_) (fun j _ e => absurd e (nowork j)) (.inl (Nat.le_refl _))
  · rw [ev3_touch he hy]
    refine ⟨.inr (.inr (.inr (.inl ⟨sh3, .inl rfl⟩))), fun b hb => ?_⟩
    have hb : lblk (ca s.Gb 3) = some b := hb
    have : s.Gb = b := by unfold ca lblk at hb; simpa using hb
    show b < st.w.heap.size
    omega
  · simp at he; subst he; simp
  · refine ⟨T.nr, A', T.ex, fun g l hl => ?_, T.sh, T.low, T.gs, T.norel⟩
    rcases hl with hl | ⟨rfl, off, o1, o2, rfl⟩
    · exact T.rd g l hl
    · obtain ⟨pp, p1, p2, p3⟩ := t.sh1 hD
      intro k a ha hal hw
      rw [ops_one] at ha ⊢
      have kn : Knows (st.t ++ #[{ g := g, fn, pos, act := .ofEvent ⟨.cell ⟨s.Gb, 3, none⟩, false, true⟩ }]) g pp := by
        refine knows_heard (y := { g := g, fn, pos, act := .ofEvent ⟨.cell ⟨s.Gb, 3, none⟩, false, true⟩ }) p1 p2 ?_ rfl
        have := h.base.dfw g (Nat.pos_of_ne_zero hA.ne) hA.lt
        rw [hA.me, hdf] at this; exact this
      rcases touchAt_app ha with ⟨hlt, ha'⟩ | ⟨_, op, hop, hx1, hxa⟩
      · exact Knows.of_before ((p3 off o1 o2 k a ha' hal hw).app _) kn
      · simp at hop
        subst hop
        cases hxa
        cases hw
  · rcases hl with hl | (hl | ⟨rfl, _⟩) | hl
    · exact h.base.pool g l (.inl hl)
    · exact h.base.pool g l (.inr (.inl hl))
    · exact hA.lt
    · exact h.base.pool g l (.inr (.inr hl))
  · show (upd st.γ.wk i { x with syn := true } i).df = _ ∧ (upd st.γ.wk i { x with syn := true } i).wg ≠ _
    rw [upd_self, hA.me]
    exact ⟨df_r _ _, by show x.wg ≠ _; rw [hx]; simp⟩
  · refine c.turn hA hx (x' := { x with syn := true }) hx rfl rfl rfl ⟨rfl, rfl, rfl, rfl⟩ (c.gb.of rfl rfl ⟨rfl, rfl, rfl, rfl⟩ rfl) (fun _ _ => rfl) (MuI.still c hA rfl) c.D1 (fun j hj => c.work j ((hmx j).symm.trans hj)) (fun j hj => c.dn j ((hmx j).symm.trans hj)) fun _ _ _ => hD
  · refine ⟨fun g b hb => ?_, fun k k1 k2 k3 => p.exZ k k1 k2 ((hwg _).symm.trans k3), p.exM, fun g hg off ho => .inl (p.rdG g hg off ho), p.shG, fun j hj => p.exS j ((hmx j).symm.trans hj), fun j hj0 hj off o1 o2 => ?_, fun _ g off o1 o2 => ⟨(noS g off o1 o2).1, (noS g off o1 o2).2.1, fun h0 => ?_⟩⟩
    · obtain ⟨h1, o2, h2⟩ := p.spec g b hb
      refine ⟨h1, ?_⟩
      by_cases e : b = s.Gb
      · subst e
        refine ⟨3, fun h3 => ?_⟩
        rcases h3 with h3 | ⟨_, off, o1, _, e⟩
        · exact A.rs _ _ _ h3 sh3
        · unfold ca at e; simp at e; omega
      · refine ⟨o2, fun h3 => ?_⟩
        rcases h3 with h3 | ⟨_, off, _, _, e2⟩
        · exact h2 h3
        · unfold ca at e2; simp at e2; exact e e2.1
    · by_cases e : j = i
      · exact .inr ⟨e, off, o1, o2, rfl⟩
      · have hj : (upd st.γ.wk i { x with syn := true } j).syn = true := hj
        rw [upd_ne _ _ e] at hj
        exact .inl (p.rdS j hj0 hj off o1 o2)
    · have h0 : st.γ.D = 0 := h0
      omega
  · refine t.app (i := i) (fun op ho => ?_) rfl rfl (fun _ => nowork) (fun j _ _ hw e => hw ((hwg j).trans e)) (fun op ho y hy => ?_) fun _ hw => absurd (by rw [hA.me]; exact hx) hw
    · obtain ⟨e, _, rfl⟩ := mem_ops ho; rfl
    · obtain ⟨e, he, rfl⟩ := mem_ops ho
      rw [ev3_touch he hy]
      exact ⟨fun off o1 _ e => by unfold ca at e; simp at e; omega, fun _ => rfl⟩
  · have : phi ({ st.γ with wk := upd st.γ.wk i { x with syn := true }, rd := plusSh st.γ.rd i s } : Gho) s = phi st.γ s := by unfold phi; rw [hmm]
    exact ⟨Nat.le_of_eq this, fun _ => ⟨rfl, rfl, rfl, rfl⟩, id⟩
  · rw [psi_same (γ := st.γ) hwg]
    exact ⟨Nat.le_refl _, fun _ => rfl⟩
end
end Go.Proofs.Ytpfpokjaeffbjab.Cc
namespace Go.Proofs.Ytpfpokjaeffbjab.Cc
open Go.Conc Go.ConcN
open Go.ConcR (KK wgBlock WgAt stA smA rd wr mk DC0)
open Go.ConcM (OsLater)
set_option linter.unusedVariables false
section
variable {q : Prm} {i : Nat} {s : Scene} {x : Wk}
theorem apt_plus {size : Nat} {ex rd sh : Nat → Loc → Prop} (A : Apt size ex rd sh) (hG : s.Gb < size) (no : ∀ g off, 6 ≤ off → off < 16 → ¬ ex g (ca s.Gb off) ∧ ¬ sh g (ca s.Gb off) ∧ ¬ rd g (ca s.Gb off)) : Apt size (plusSh ex i s) rd sh := by
  refine ⟨fun g g' l h1 h2 => ?_, fun g g' l h1 h2 => ?_, fun g g' l h1 h2 => ?_, A.rs, fun g l h1 b hb => ?_, A.rlow, A.slow, fun g l h1 => ?_⟩
  · rcases h1 with h1 | ⟨rfl, off, o1, o2, rfl⟩ <;> rcases h2 with h2 | ⟨rfl, off', o1', o2', e⟩
    · exact A.ee _ _ _ h1 h2
    · subst e; exact absurd h1 (no g off' o1' o2').1
    · exact absurd h2 (no g' off o1 o2).1
    · rfl
  · rcases h1 with h1 | ⟨rfl, off, o1, o2, rfl⟩
    · exact A.er _ _ _ h1 h2
    · exact absurd h2 (no g' off o1 o2).2.2
  · rcases h1 with h1 | ⟨rfl, off, o1, o2, rfl⟩
    · exact A.es _ _ _ h1 h2
    · exact (no g' off o1 o2).2.1 h2
  · rcases h1 with h1 | ⟨_, off, o1, o2, rfl⟩
    · exact A.low _ _ h1 b hb
    · have : s.Gb = b := by unfold ca lblk at hb; simpa using hb
      omega
  · rcases h1 with (h1 | ⟨_, off, o1, o2, rfl⟩) | h1
    · exact A.mem _ _ (.inl h1)
    · rfl
    · exact A.mem _ _ (.inr h1)
theorem Inv.load0 {st : St Gho} (h : Inv q st) (hA : At s i x st) (hx : x.wg = .work) (hD : st.γ.D = 0) (n1 : x.mx = .own .chk) (fn : FuncId) (pos : String) :
    Inv q ⟨st.w, st.t ++ MemOp.ofEvents i fn pos #[⟨.cell ⟨s.Gb, 3, none⟩, false, true⟩], { st.γ with wk := upd st.γ.wk i { x with mx := .own .work }, ex := plusSh st.γ.ex i s }⟩ ∧
    ∀ j, j ≠ i → Rl j st ⟨st.w, st.t ++ MemOp.ofEvents i fn pos #[⟨.cell ⟨s.Gb, 3, none⟩, false, true⟩], { st.γ with wk := upd st.γ.wk i { x with mx := .own .work }, ex := plusSh st.γ.ex i s }⟩ := by
  obtain ⟨c, p, t⟩ := h.scene s hA.sc
  have A := h.base.tr.apt
  have hl := c.lts
  have one := owner_one h hA n1
  have nowork : ∀ j, (st.γ.wk j).mx ≠ .own .work := fun j e => by
    by_cases hj : j = i
    · subst hj; rw [hA.me, n1] at e; cases e
    · exact one j hj _ e
  have at_ : ∀ j, upd st.γ.wk i { x with mx := .own .work } j = if j = i then { x with mx := .own .work } else st.γ.wk j := fun j => rfl
  have hmx : ∀ j, j ≠ i → (upd st.γ.wk i { x with mx := .own .work } j).mx = (st.γ.wk j).mx := fun j hj => by rw [upd_ne _ _ hj]
  have hwg : ∀ j, (upd st.γ.wk i { x with mx := .own .work } j).wg = (st.γ.wk j).wg := fun j => by
    rw [at_]; split
    · rename_i e; subst e; rw [hA.me]
    · rfl
  have hsyn : ∀ j, (upd st.γ.wk i { x with mx := .own .work } j).syn = (st.γ.wk j).syn := fun j => by
    rw [at_]; split
    · rename_i e; subst e; rw [hA.me]
    · rfl
  have noS := fun g off o1 o2 => (⟨(p.noS nowork g off o1 o2).1, (p.noS nowork g off o1 o2).2.1, (p.noS nowork g off o1 o2).2.2 hD⟩ : ¬ st.γ.ex g (ca s.Gb off) ∧ ¬ st.γ.sh g (ca s.Gb off) ∧ ¬ st.γ.rd g (ca s.Gb off))
  have A' : Apt st.w.heap.size (plusSh st.γ.ex i s) st.γ.rd st.γ.sh := apt_plus A hl.1 noS
  have hmem := hA.mem
  have sh3 := (p.shG i hmem).1 3 (by omega) (by omega)
  have hm : MuI (upd st.γ.mm i (.own .work)) s.n0 s.n st.γ.L st.γ.W st.γ.S st.γ.N st.γ.tn st.γ.th := c.mu.owns hA.lo (hA.hi h) ((mm_at hA).trans n1)
  refine h.gen hA.sc hmem rfl rfl (fun _ => .rfl) (fun e he y hy => ?_) (fun e he a => ?_) (fun _ e he y hy => by rw [ev3_touch he hy]; simp) (fun T => ?_) (fun j hj l => ⟨.inl, id⟩) (fun g l hl => ?_) rfl (fun _ => .inl rfl) (.refl _) rfl (fun j hj => upd_ne _ _ hj) (fun _ => ⟨rfl, rfl⟩) (fun e => absurd e hA.ne) (fun _ => ?_) ?_ ?_ ?_ ?_ (fun _ => ?_) (fun j _ e => absurd e (nowork j)) (.inl (Nat.le_refl _))
  · rw [ev3_touch he hy]
    refine ⟨.inr (.inr (.inr (.inl ⟨sh3, .inl rfl⟩))), fun b hb => ?_⟩
    have hb : lblk (ca s.Gb 3) = some b := hb
    have : s.Gb = b := by unfold ca lblk at hb; simpa using hb
    show b < st.w.heap.size
    omega
  · simp at he; subst he; simp
  · refine ⟨T.nr, A', fun g l hl => ?_, T.rd, T.sh, T.low, T.gs, T.norel⟩
    rcases hl with hl | ⟨rfl, off, o1, o2, rfl⟩
    · exact T.ex g l hl
    · refine (t.sh0 hD nowork g hmem off o1 o2).app fun op hop y hy e => ?_
      obtain ⟨e', he, rfl⟩ := mem_ops hop
      rfl
  · rcases hl with (hl | ⟨rfl, _⟩) | hl
    · exact h.base.pool g l (.inl hl)
    · exact hA.lt
    · exact h.base.pool g l (.inr hl)
  · show (upd st.γ.wk i { x with mx := .own .work } i).df = _ ∧ (upd st.γ.wk i { x with mx := .own .work } i).wg ≠ _
    rw [upd_self, hA.me]
    exact ⟨df_r _ _, by show x.wg ≠ _; rw [hx]; simp⟩
  · refine c.turn hA hx (x' := { x with mx := .own .work }) hx rfl rfl rfl ⟨rfl, rfl, rfl, rfl⟩ (c.gb.of rfl rfl ⟨rfl, rfl, rfl, rfl⟩ rfl) (fun _ _ => rfl) hm c.D1 (fun _ _ => hD) (fun j hj => ?_) fun j h0 hj => c.syn j h0 ((hsyn j).symm.trans hj)
    replace hj : (upd st.γ.wk i { x with mx := .own .work } j).mx = .own .dn := hj
    by_cases e : j = i
    · subst e; rw [upd_self] at hj; cases hj
    · rw [hmx j e] at hj; exact c.dn j hj
  · have nf : ∀ {g b off}, b ≠ s.Gb → plusSh st.γ.ex i s g (ca b off) → st.γ.ex g (ca b off) := by
      intro g b off hb h1
      rcases h1 with h1 | ⟨_, off', _, _, e⟩
      · exact h1
      · unfold ca at e; simp at e; exact absurd e.1 hb
    refine ⟨fun g b hb => ?_, fun k k1 k2 k3 => ⟨.inl (p.exZ k k1 k2 ((hwg _).symm.trans k3)).1, .inl (p.exZ k k1 k2 ((hwg _).symm.trans k3)).2⟩, fun k k1 k2 => ⟨.inl (p.exM k k1 k2).1, .inl (p.exM k k1 k2).2⟩, p.rdG, p.shG, fun j hj off o1 o2 => ?_, fun j h0 hj => p.rdS j h0 ((hsyn j).symm.trans hj), fun hn => absurd (by show (upd st.γ.wk i { x with mx := .own .work } i).mx = _; rw [upd_self]) (hn i)⟩
    · obtain ⟨⟨o1, h1⟩, h2⟩ := p.spec g b hb
      refine ⟨?_, h2⟩
      by_cases e : b = s.Gb
      · subst e
        refine ⟨3, fun h3 => ?_⟩
        rcases h3 with h3 | ⟨_, off, o1, _, e⟩
        · exact A.es _ _ _ h3 sh3
        · unfold ca at e; simp at e; omega
      · exact ⟨o1, fun h3 => h1 (nf e h3)⟩
    · replace hj : (upd st.γ.wk i { x with mx := .own .work } j).mx = .own .work := hj
      by_cases e : j = i
      · exact .inr ⟨e, off, o1, o2, rfl⟩
      · rw [hmx j e] at hj; exact absurd hj (nowork j)
  · refine t.app (i := i) (fun op ho => ?_) rfl rfl (fun _ => nowork) (fun j _ _ hw e => hw ((hwg j).trans e)) (fun op ho y hy => ?_) fun _ hw => absurd (by rw [hA.me]; exact hx) hw
    · obtain ⟨e, _, rfl⟩ := mem_ops ho; rfl
    · obtain ⟨e, he, rfl⟩ := mem_ops ho
      rw [ev3_touch he hy]
      exact ⟨fun off o1 _ e => by unfold ca at e; simp at e; omega, fun _ => rfl⟩
  · have e2 : ({ st.γ with wk := upd st.γ.wk i { x with mx := .own .work }, ex := plusSh st.γ.ex i s } : Gho).mm = upd st.γ.mm i (.own .work) := by
      funext j
      show (upd st.γ.wk i { x with mx := .own .work } j).mx = _
      unfold upd; split <;> rfl
    have e3 := pot_upd st.γ.mm (a := s.n0) s.n (.own .work) (st.γ.tn + st.γ.th) (st.γ.tn + st.γ.th) hA.lo (hA.hi h)
    rw [show st.γ.mm i = .own .chk from (mm_at hA).trans n1] at e3
    have : phi ({ st.γ with wk := upd st.γ.wk i { x with mx := .own .work }, ex := plusSh st.γ.ex i s } : Gho) s = phi st.γ s := by
      unfold phi; rw [e2]
      show pot _ _ _ (st.γ.tn + st.γ.th) = _
      simp only [crd] at e3
      omega
    exact ⟨Nat.le_of_eq this, fun _ => ⟨rfl, rfl, rfl, rfl⟩, id⟩
  · rw [psi_same (γ := st.γ) hwg]
    exact ⟨Nat.le_refl _, fun _ => rfl⟩
end
end Go.Proofs.Ytpfpokjaeffbjab.Cc
namespace Go.Proofs.Ytpfpokjaeffbjab.Cc
open Go.Conc Go.ConcN
open Go.ConcR (KK wgBlock WgAt stA smA rd wr mk DC0)
open Go.ConcM (OsLater)
set_option linter.unusedVariables false
def minusSh (f : Nat → Loc → Prop) (i : Nat) (s : Scene) : Nat → Loc → Prop := fun g l => f g l ∧ ¬ (g = i ∧ ∃ off, 6 ≤ off ∧ off < 16 ∧ l = ca s.Gb off)
section
variable {q : Prm} {i : Nat} {s : Scene} {x : Wk}
theorem GbAt.set3 {γ : Gho} {w : World} (h : GbAt q s γ w) {γ' : Gho} (hw : γ'.L = γ.L ∧ γ'.W = γ.W ∧ γ'.S = γ.S ∧ γ'.N = γ.N) (ht : γ'.tn + γ'.th = γ.tn + γ.th) (hD : γ'.D = 1) (hv : ∀ id, 1 ≤ id → id ≤ s.nn → w.cell? ⟨s.Gb, 6 + id, none⟩ = some (.int .u64 (s.vals id))) : GbAt q s γ' (w.setCell ⟨s.Gb, 3, none⟩ (.int .u32 1)) := by
  obtain ⟨C, h1, h2, h3, h4, h5, h6, h7, h8, h9, h10⟩ := h
  refine ⟨_, gb_set h1 3 _, by simpa using h2, ?_, ?_, ?_, ?_, ?_, ?_, fun k k1 k2 => ?_, fun e id i1 i2 => ?_⟩
  · rw [Array.getElem?_setIfInBounds_ne (by omega)]; exact h3
  · rw [Array.getElem?_setIfInBounds_ne (by omega)]; exact h4
  · rw [Array.getElem?_setIfInBounds_ne (by omega)]; exact h5
  · rw [Array.getElem?_setIfInBounds_self_of_lt (by omega), hD]; rfl
  · rw [Array.getElem?_setIfInBounds_ne (by omega), hw.1, hw.2.1, hw.2.2.1, hw.2.2.2]; exact h7
  · rw [Array.getElem?_setIfInBounds_ne (by omega), ht]; exact h8
  · rw [Array.getElem?_setIfInBounds_ne (by omega)]; exact h9 k k1 k2
  · rw [Array.getElem?_setIfInBounds_ne (by omega)]
    have := hv id i1 i2
    simpa [World.cell?, h1] using this
theorem Inv.store1 {st : St Gho} (h : Inv q st) (hA : At s i x st) (hx : x.wg = .work) (hdf : x.df = 0) (n1 : x.mx = .own .work) (hv : ∀ id, 1 ≤ id → id ≤ s.nn → st.w.cell? ⟨s.Gb, 6 + id, none⟩ = some (.int .u64 (s.vals id))) (fn : FuncId) (pos : String) :
    Inv q ⟨st.w.setCell ⟨s.Gb, 3, none⟩ (.int .u32 1), st.t ++ MemOp.ofEvents i fn pos #[⟨.cell ⟨s.Gb, 3, none⟩, true, true⟩], { st.γ with wk := upd st.γ.wk i { x with mx := .own .dn, syn := true }, D := 1, ex := minusSh st.γ.ex i s, rd := plusSh st.γ.rd i s }⟩ ∧
    ∀ j, j ≠ i → Rl j st ⟨st.w.setCell ⟨s.Gb, 3, none⟩ (.int .u32 1), st.t ++ MemOp.ofEvents i fn pos #[⟨.cell ⟨s.Gb, 3, none⟩, true, true⟩], { st.γ with wk := upd st.γ.wk i { x with mx := .own .dn, syn := true }, D := 1, ex := minusSh st.γ.ex i s, rd := plusSh st.γ.rd i s }⟩ := by
  obtain ⟨c, p, t⟩ := h.scene s hA.sc
  have A := h.base.tr.apt
  have hl := c.lts
  have one := owner_one h hA n1
  have hD : st.γ.D = 0 := c.work i (by rw [hA.me]; exact n1)
  have exI := p.exS i (by rw [hA.me]; exact n1)
  have at_ : ∀ j, upd st.γ.wk i { x with mx := .own .dn, syn := true } j = if j = i then { x with mx := .own .dn, syn := true } else st.γ.wk j := fun j => rfl
  have hne : ∀ j, j ≠ i → upd st.γ.wk i { x with mx := .own .dn, syn := true } j = st.γ.wk j := fun j hj => upd_ne _ _ hj
  have hwg : ∀ j, (upd st.γ.wk i { x with mx := .own .dn, syn := true } j).wg = (st.γ.wk j).wg := fun j => by
    rw [at_]; split
    · rename_i e; subst e; rw [hA.me]
    · rfl
  have nowork : ∀ j, (upd st.γ.wk i { x with mx := .own .dn, syn := true } j).mx ≠ .own .work := fun j e => by
    by_cases hj : j = i
    · subst hj; rw [upd_self] at e; cases e
    · rw [hne j hj] at e; exact one j hj _ e
  have nosyn : ∀ j, s.n0 ≤ j → (st.γ.wk j).syn ≠ true := fun j h0 e => by have := c.syn j h0 e; omega
  have W := aside_setCell st.w ⟨s.Gb, 3, none⟩ (.int .u32 1)
  have hmem := hA.mem
  have sh3 := (p.shG i hmem).1 3 (by omega) (by omega)
  have noex : ∀ g off, 6 ≤ off → off < 16 → ¬ minusSh st.γ.ex i s g (ca s.Gb off) := fun g off o1 o2 ⟨h1, h2⟩ => h2 ⟨A.ee _ _ _ h1 (exI off o1 o2), off, o1, o2, rfl⟩
  have A' : Apt st.w.heap.size (minusSh st.γ.ex i s) (plusSh st.γ.rd i s) st.γ.sh := by
    refine ⟨fun g g' l h1 h2 => A.ee _ _ _ h1.1 h2.1, fun g g' l h1 h2 => ?_, fun g g' l h1 => A.es _ _ _ h1.1, fun g g' l h1 h2 => ?_, fun g l h1 => A.low _ _ h1.1, fun g l h1 b hb => ?_, A.slow, fun g l h1 => ?_⟩
    · rcases h2 with h2 | ⟨_, off, o1, o2, rfl⟩
      · exact A.er _ _ _ h1.1 h2
      · exact absurd h1 (noex g off o1 o2)
    · rcases h1 with h1 | ⟨_, off, o1, o2, rfl⟩
      · exact A.rs _ _ _ h1 h2
      · exact A.es _ _ _ (exI off o1 o2) h2
    · rcases h1 with h1 | ⟨_, off, o1, o2, rfl⟩
      · exact A.rlow _ _ h1 b hb
      · exact A.low _ _ (exI off o1 o2) b hb
    · rcases h1 with h1 | (h1 | ⟨_, off, o1, o2, rfl⟩) | h1
      · exact A.mem _ _ (.inl h1.1)
      · exact A.mem _ _ (.inr (.inl h1))
      · rfl
      · exact A.mem _ _ (.inr (.inr h1))
  have tch : ∀ {e : Event}, e ∈ (#[⟨.cell ⟨s.Gb, 3, none⟩, true, true⟩] : Array Event) → ∀ {y : Touch}, (MemAct.ofEvent e).touch? = some y → y = ⟨ca s.Gb 3, true, .atomic⟩ := by
    intro e he y hy
    simp at he
    subst he
    cases hy
    rfl
  refine h.gen hA.sc hmem rfl rfl (fun _ => .rfl) (fun e he y hy => ?_) (fun e he a => ?_) (fun _ e he y hy => by rw [tch he hy]; simp) (fun T => ?_) (fun j hj l => ⟨fun hl => ⟨hl, fun e => hj e.1⟩, .inl⟩) (fun g l hl => ?_) W.size (fun b => ?_) (by rw [W.os]; exact .refl _) W.output (fun j hj => upd_ne _ _ hj) (fun _ => ⟨rfl, rfl⟩) (fun e => absurd e hA.ne) (fun _ => ?_) ?_ ?_ ?_ ?_ (fun _ => ?_) (fun j hj e => absurd e (one j hj _)) (.inl (Nat.le_refl _))
  · rw [tch he hy]
    refine ⟨.inr (.inr (.inr (.inl ⟨sh3, .inl rfl⟩))), fun b hb => ?_⟩
    have hb : lblk (ca s.Gb 3) = some b := hb
    have : s.Gb = b := by unfold ca lblk at hb; simpa using hb
    rw [W.size]
    omega
  · simp at he; subst he; simp
  · refine ⟨T.nr, by rw [W.size]; exact A', fun g l hl => T.ex g l hl.1, fun g l hl => ?_, T.sh, T.low, T.gs, T.norel⟩
    rcases hl with hl | ⟨rfl, off, o1, o2, rfl⟩
    · exact T.rd g l hl
    · exact PermW.of (T.ex g _ (exI off o1 o2))
  · rcases hl with hl | (hl | ⟨rfl, _⟩) | hl
    · exact h.base.pool g l (.inl hl.1)
    · exact h.base.pool g l (.inr (.inl hl))
    · exact hA.lt
    · exact h.base.pool g l (.inr (.inr hl))
  · by_cases e : b = s.Gb
    · exact .inr (.inr (.inl e))
    · exact .inl (W.block b e)
  · show (upd st.γ.wk i { x with mx := .own .dn, syn := true } i).df = _ ∧ (upd st.γ.wk i { x with mx := .own .dn, syn := true } i).wg ≠ _
    rw [upd_self, hA.me]
    exact ⟨df_cells _ _ _ (by simp), by show x.wg ≠ _; rw [hx]; simp⟩
  · refine c.turn hA hx (x' := { x with mx := .own .dn, syn := true }) hx rfl rfl rfl ⟨rfl, rfl, rfl, rfl⟩ (c.gb.set3 ⟨rfl, rfl, rfl, rfl⟩ rfl rfl hv) (fun b hb => W.block b hb) (c.mu.owns hA.lo (hA.hi h) ((mm_at hA).trans n1)) (Nat.le_refl 1) (fun j hj => absurd hj (nowork j)) (fun _ _ => rfl) fun _ _ _ => rfl
  · refine ⟨fun g b hb => ?_, fun k k1 k2 k3 => ⟨⟨(p.exZ k k1 k2 ((hwg _).symm.trans k3)).1, ?_⟩, (p.exZ k k1 k2 ((hwg _).symm.trans k3)).2, ?_⟩, fun k k1 k2 => ⟨⟨(p.exM k k1 k2).1, ?_⟩, (p.exM k k1 k2).2, ?_⟩, fun g hg off ho => .inl (p.rdG g hg off ho), p.shG, fun j hj => absurd hj (nowork j), fun j hj0 hj off o1 o2 => ?_, fun _ g off o1 o2 => ⟨noex g off o1 o2, A.es _ _ _ (exI off o1 o2), fun h0 => by cases h0⟩⟩
    · obtain ⟨⟨o1, h1⟩, o2, h2⟩ := p.spec g b hb
      refine ⟨⟨o1, fun h3 => h1 h3.1⟩, ?_⟩
      by_cases e : b = s.Gb
      · subst e
        refine ⟨3, fun h3 => ?_⟩
        rcases h3 with h3 | ⟨_, off, o1, _, e⟩
        · exact A.rs _ _ _ h3 sh3
        · unfold ca at e; simp at e; omega
      · refine ⟨o2, fun h3 => ?_⟩
        rcases h3 with h3 | ⟨_, off, _, _, e2⟩
        · exact h2 h3
        · unfold ca at e2; simp at e2; exact e e2.1
    all_goals first
      | (rintro ⟨_, off, _, _, e⟩
         unfold ca at e
         simp at e
         first | exact c.ne.2.1 e.1.symm | exact c.ne.2.2.1 e.1.symm)
      | skip
    replace hj : (upd st.γ.wk i { x with mx := .own .dn, syn := true } j).syn = true := hj
    by_cases e : j = i
    · exact .inr ⟨e, off, o1, o2, rfl⟩
    · rw [hne j e] at hj; exact absurd hj (nosyn j hj0)
  · rw [ops_one]
    refine ⟨fun h0 => (by cases h0), fun _ => ⟨st.t.size, LastWrite.new _ _ rfl, ⟨i, by simp [Trace.g?], ?_⟩, fun off o1 o2 k a ha hal hw => ?_⟩, fun j hj hj2 hw => ?_⟩
    · rw [deaf_old (Nat.le_refl _)]
      have := h.base.dfw i (Nat.pos_of_ne_zero hA.ne) hA.lt
      rw [hA.me, hdf] at this; exact this
    · rcases touchAt_app ha with ⟨hlt, ha'⟩ | ⟨_, op, hop, hx1, hxa⟩
      · have kn := h.base.tr.ex i _ (exI off o1 o2) k a ha' hal
        exact .inr (kn.hb_new (Nat.le_refl _) (y := { g := i, fn, pos, act := .ofEvent ⟨.cell ⟨s.Gb, 3, none⟩, true, true⟩ }) (by rw [Array.getElem?_append_right (Nat.le_refl _)]; simp) rfl)
      · simp at hop
        subst hop
        cases hxa
        unfold ca at hal; simp at hal; omega
    · have hw : (upd st.γ.wk i { x with mx := .own .dn, syn := true } j).wg ≠ .work := hw
      rw [hwg] at hw
      have hji : j ≠ i := fun e => hw (by rw [e, hA.me]; exact hx)
      obtain ⟨r, r1, r2⟩ := t.rel j hj hj2 hw
      have other : ∀ k, st.t.size ≤ k → (st.t ++ #[({ g := i, fn, pos, act := .ofEvent ⟨.cell ⟨s.Gb, 3, none⟩, true, true⟩ } : MemOp)]).g? k ≠ some j := fun k hk hg => by
        obtain ⟨op, ho, hog⟩ := Option.map_eq_some_iff.1 hg
        rcases getElem?_append_cases ho with ⟨hlt2, _⟩ | ⟨_, hou⟩
        · omega
        · simp at hou; subst hou; exact hji hog.symm
      refine ⟨r, r1.app fun k hk hg => absurd hg (other k hk), fun k a hrk hg ha => ?_⟩
      rcases Nat.lt_or_ge k st.t.size with hlt | hge
      · exact r2 k a hrk (by simpa only [Trace.g?, getElem?_append_old hlt] using hg) (by rw [touchAt_old hlt] at ha; exact ha)
      · exact absurd hg (other k hge)
  · have e2 : ({ st.γ with wk := upd st.γ.wk i { x with mx := .own .dn, syn := true }, D := 1, ex := minusSh st.γ.ex i s, rd := plusSh st.γ.rd i s } : Gho).mm = upd st.γ.mm i (.own .dn) := by
      funext j
      show (upd st.γ.wk i { x with mx := .own .dn, syn := true } j).mx = _
      unfold upd; split <;> rfl
    have e3 := pot_upd st.γ.mm (a := s.n0) s.n (.own .dn) (st.γ.tn + st.γ.th) (st.γ.tn + st.γ.th) hA.lo (hA.hi h)
    rw [show st.γ.mm i = .own .work from (mm_at hA).trans n1] at e3
    have : phi ({ st.γ with wk := upd st.γ.wk i { x with mx := .own .dn, syn := true }, D := 1, ex := minusSh st.γ.ex i s, rd := plusSh st.γ.rd i s } : Gho) s = phi st.γ s := by
      unfold phi; rw [e2]
      show pot _ _ _ (st.γ.tn + st.γ.th) = _
      simp only [crd] at e3
      omega
    exact ⟨Nat.le_of_eq this, fun _ => ⟨rfl, rfl, rfl, rfl⟩, fun _ => rfl⟩
  · rw [psi_same (γ := st.γ) hwg]
    exact ⟨Nat.le_refl _, fun _ => rfl⟩
end
end Go.Proofs.Ytpfpokjaeffbjab.Cc
namespace Go.Proofs.Ytpfpokjaeffbjab.Cc
open Go.Conc Go.ConcN
open Go.ConcR (KK wgBlock WgAt stA smA rd wr mk DC0)
open Go.ConcM (OsLater)
set_option linter.unusedVariables false
section
variable {q : Prm} {i : Nat} {s : Scene} {x : Wk}
theorem GbAt.setS {γ : Gho} {w : World} (h : GbAt q s γ w) (hD : γ.D = 0) {off : Nat} (o1 : 6 ≤ off) (o2 : off < 16) (v : Int) : GbAt q s γ (w.setCell ⟨s.Gb, off, none⟩ (.int .u64 v)) := by
  obtain ⟨C, h1, h2, h3, h4, h5, h6, h7, h8, h9, h10⟩ := h
  refine ⟨_, gb_set h1 off _, by simpa using h2, ?_, ?_, ?_, ?_, ?_, ?_, fun k k1 k2 => ?_, fun e => by omega⟩
  · rw [Array.getElem?_setIfInBounds_ne (by omega)]; exact h3
  · rw [Array.getElem?_setIfInBounds_ne (by omega)]; exact h4
  · rw [Array.getElem?_setIfInBounds_ne (by omega)]; exact h5
  · rw [Array.getElem?_setIfInBounds_ne (by omega)]; exact h6
  · rw [Array.getElem?_setIfInBounds_ne (by omega)]; exact h7
  · rw [Array.getElem?_setIfInBounds_ne (by omega)]; exact h8
  · by_cases e : off = k
    · subst e; rw [Array.getElem?_setIfInBounds_self_of_lt (by omega)]; exact ⟨_, rfl⟩
    · rw [Array.getElem?_setIfInBounds_ne e]; exact h9 k k1 k2
theorem Inv.share {st : St Gho} (h : Inv q st) (hA : At s i x st) (hx : x.wg = .work) (n1 : x.mx = .own .work) {off : Nat} (o1 : 6 ≤ off) (o2 : off < 16) (v : Int) (fn : FuncId) (pos : String) :
    Inv q ⟨st.w.setCell ⟨s.Gb, off, none⟩ (.int .u64 v), st.t ++ MemOp.ofEvents i fn pos #[⟨.cell ⟨s.Gb, off, none⟩, true, false⟩], st.γ⟩ ∧
    ∀ j, j ≠ i → Rl j st ⟨st.w.setCell ⟨s.Gb, off, none⟩ (.int .u64 v), st.t ++ MemOp.ofEvents i fn pos #[⟨.cell ⟨s.Gb, off, none⟩, true, false⟩], st.γ⟩ := by
  obtain ⟨c, p, t⟩ := h.scene s hA.sc
  have A := h.base.tr.apt
  have hl := c.lts
  have one := owner_one h hA n1
  have own : (st.γ.wk i).mx = .own .work := by rw [hA.me]; exact n1
  have hD : st.γ.D = 0 := c.work i own
  have exI := p.exS i own
  have W := aside_setCell st.w ⟨s.Gb, off, none⟩ (.int .u64 v)
  have tch : ∀ {e : Event}, e ∈ (#[⟨.cell ⟨s.Gb, off, none⟩, true, false⟩] : Array Event) → ∀ {y : Touch}, (MemAct.ofEvent e).touch? = some y → y = ⟨ca s.Gb off, true, .plain⟩ := by
    intro e he y hy
    simp at he
    subst he
    cases hy
    rfl
  refine h.gen hA.sc hA.mem (γ' := st.γ) rfl rfl (fun _ => .rfl) (fun e he y hy => ?_) (fun e he a => ?_) (fun _ e he y hy => by rw [tch he hy]; simp) (fun T => T) (fun j hj l => ⟨id, id⟩) h.base.pool W.size (fun b => ?_) (by rw [W.os]; exact .refl _) W.output (fun _ _ => rfl) (fun _ => ⟨rfl, rfl⟩) (fun e => absurd e hA.ne) (fun _ => ?_) ?_ p ?_ ⟨Nat.le_refl _, fun _ => ⟨rfl, rfl, rfl, rfl⟩, id⟩ (fun _ => ⟨Nat.le_refl _, fun _ => rfl⟩) (fun j hj e => absurd e (one j hj _)) (.inl (Nat.le_refl _))
  · rw [tch he hy]
    refine ⟨.inr (.inl (exI off o1 o2)), fun b hb => ?_⟩
    have hb : lblk (ca s.Gb off) = some b := hb
    have : s.Gb = b := by unfold ca lblk at hb; simpa using hb
    rw [W.size]
    omega
  · simp at he; subst he; simp
  · by_cases e : b = s.Gb
    · exact .inr (.inr (.inl e))
    · exact .inl (W.block b e)
  · refine ⟨(deafBehind_quiet fun e he => ?_).symm, by rw [hA.me, hx]; simp⟩
    simp at he; subst he; simp
  · refine ⟨c.n0, c.gb.setS hD o1 o2 v, c.wgb.of_block (W.block _ c.ne.1.symm), ?_, ?_, c.ne, c.mu, c.D1, c.work, c.dn, c.syn, c.new, c.on, c.fin, c.all, c.wgl⟩
    · obtain ⟨Z, z1, z2⟩ := c.zb
      exact ⟨Z, (W.block _ c.ne.2.1.symm).trans z1, z2⟩
    · obtain ⟨Z, z1, z2⟩ := c.rb
      exact ⟨Z, (W.block _ c.ne.2.2.1.symm).trans z1, z2⟩
  · rw [ops_one]
    refine ⟨fun _ hn => absurd own (hn i), fun h1 => ?_, fun j hj hj2 hw => ?_⟩
    · have h1 : st.γ.D = 1 := h1
      omega
    · have hw : (st.γ.wk j).wg ≠ .work := hw
      have hji : j ≠ i := fun e => hw (by rw [e, hA.me]; exact hx)
      obtain ⟨r, r1, r2⟩ := t.rel j hj hj2 hw
      have other : ∀ k, st.t.size ≤ k → (st.t ++ #[({ g := i, fn, pos, act := .ofEvent ⟨.cell ⟨s.Gb, off, none⟩, true, false⟩ } : MemOp)]).g? k ≠ some j := fun k hk hg => by
        obtain ⟨op, ho, hog⟩ := Option.map_eq_some_iff.1 hg
        rcases getElem?_append_cases ho with ⟨hlt2, _⟩ | ⟨_, hou⟩
        · omega
        · simp at hou; subst hou; exact hji hog.symm
      refine ⟨r, r1.app fun k hk hg => absurd hg (other k hk), fun k a hrk hg ha => ?_⟩
      rcases Nat.lt_or_ge k st.t.size with hlt | hge
      · exact r2 k a hrk (by simpa only [Trace.g?, getElem?_append_old hlt] using hg) (by rw [touchAt_old hlt] at ha; exact ha)
      · exact absurd hg (other k hge)
variable {Ch : Nat → Goroutine → St Gho → Prop}
theorem wt_same {st st' : St Gho} (hsc : st'.γ.sc = st.γ.sc) (hmw : st'.γ.mw = st.γ.mw) (hgm : st'.γ.gm = st.γ.gm) (htok : st'.γ.tn + st'.γ.th = st.γ.tn + st.γ.th) {i : Nat} (hwk : ∀ k, k ≠ i → st'.γ.wk k = st.γ.wk k) : ∀ k, k ≠ i → Wt k st → Wt k st' := wt_mu hsc hmw hgm (Nat.le_of_eq htok) hwk
theorem TT.load3 {P : Program} (hP : q.P = P) {g : Goroutine} {st : St Gho} (hA : At s i x st) (hx : x.wg = .work) (hdf : x.df = 0) (n1 : x.mx ≠ .own .work)
    (h : ∀ st₁, At s i x st₁ → Inv q st₁ → SceneC q s st₁ → ∃ g', stepG P (i == 0) g st₁.w = .go g' st₁.w #[⟨.cell ⟨s.Gb, 3, none⟩, false, true⟩] ∧ g'.status = .running ∧
      (st₁.γ.D = 1 → ∀ st₂, At s i { x with syn := true } st₂ → Inv q st₂ → st₂.γ.D = 1 → TT (cfg q) i Ch g' st₂) ∧
      (st₁.γ.D = 0 → x.mx ≠ .own .chk → ∀ st₂, At s i x st₂ → Inv q st₂ → TT (cfg q) i Ch g' st₂) ∧
      (st₁.γ.D = 0 → x.mx = .own .chk → ∀ st₂, At s i { x with mx := .own .work } st₂ → Inv q st₂ → TT (cfg q) i Ch g' st₂)) : TT (cfg q) i Ch g st := by
  subst hP
  refine TT.act fun st₁ hr hi => ?_
  have hA₁ := hA.rely (by rw [hx]; simp) hr hi
  have hC := (hi.scene s hA₁.sc).c
  obtain ⟨g', h1, h2, h3, h4, h5⟩ := h st₁ hA₁ hi hC
  refine ⟨hA₁.notLv (by rw [hx]; simp), g', st₁.w, #[⟨.cell ⟨s.Gb, 3, none⟩, false, true⟩], ?_⟩
  by_cases hD : st₁.γ.D = 1
  · have k := hi.load1 hA₁ hx hdf hD n1 g.frame.fn g.frame.place
    exact ⟨{ st₁.γ with wk := upd st₁.γ.wk i { x with syn := true }, rd := plusSh st₁.γ.rd i s }, h1, h2, rfl, k, .inr (wt_same (by rfl) (by rfl) (by rfl) (by rfl) fun k hk => by exact upd_ne _ _ hk), h3 hD _ (hA₁.next hi rfl rfl rfl (upd_self _ _ _) (fun _ h => .inl h) fun _ _ _ _ _ => rfl) k.1 hD⟩
  have hD : st₁.γ.D = 0 := by have := hC.D1; omega
  by_cases hm : x.mx = .own .chk
  · have k := hi.load0 hA₁ hx hD hm g.frame.fn g.frame.place
    exact ⟨{ st₁.γ with wk := upd st₁.γ.wk i { x with mx := .own .work }, ex := plusSh st₁.γ.ex i s }, h1, h2, rfl, k, .inr (wt_same (by rfl) (by rfl) (by rfl) (by rfl) fun k hk => by exact upd_ne _ _ hk), h5 hD hm _ (hA₁.next hi rfl rfl rfl (upd_self _ _ _) (fun _ h => h) fun _ _ _ _ _ => rfl) k.1⟩
  · obtain ⟨k, _⟩ := hi.mu hA₁ hx (x' := x) rfl (es := #[⟨.cell ⟨s.Gb, 3, none⟩, false, true⟩]) (df_r _ _) n1 n1 (fun e => hC.dn i (by rw [hA₁.me]; exact e)) (MuI.still hC hA₁ rfl) (hC.gb.stay rfl rfl) (MuEff.refl _) (.inr ⟨rfl, rfl, rfl, rfl, rfl⟩) (.inl (Nat.le_refl _)) (evs_r 3 (by omega)) g.frame.fn g.frame.place
    exact ⟨st₁.γ.setMu i x st₁.γ.L st₁.γ.W st₁.γ.S st₁.γ.N st₁.γ.tn st₁.γ.th, h1, h2, rfl, k, .inr (wt_same (by rfl) (by rfl) (by rfl) (by rfl) fun k hk => by exact upd_ne _ _ hk), h4 hD hm _ (hA₁.next hi rfl rfl rfl (upd_self _ _ _) (fun _ h => h) fun _ _ _ _ _ => rfl) k.1⟩
theorem TT.store3 {P : Program} (hP : q.P = P) {g : Goroutine} {st : St Gho} (hA : At s i x st) (hx : x.wg = .work) (hdf : x.df = 0) (n1 : x.mx = .own .work) (hv : ∀ id, 1 ≤ id → id ≤ s.nn → st.w.cell? ⟨s.Gb, 6 + id, none⟩ = some (.int .u64 (s.vals id))) (hnn : s.nn ≤ 9)
    (h : ∀ st₁, At s i x st₁ → Inv q st₁ → SceneC q s st₁ → ∃ g', stepG P (i == 0) g st₁.w = .go g' (st₁.w.setCell ⟨s.Gb, 3, none⟩ (.int .u32 1)) #[⟨.cell ⟨s.Gb, 3, none⟩, true, true⟩] ∧ g'.status = .running ∧
      ∀ st₂, At s i { x with mx := .own .dn, syn := true } st₂ → Inv q st₂ → TT (cfg q) i Ch g' st₂) : TT (cfg q) i Ch g st := by
  subst hP
  refine TT.act fun st₁ hr hi => ?_
  have hA₁ := hA.rely (by rw [hx]; simp) hr hi
  have hC := (hi.scene s hA₁.sc).c
  obtain ⟨g', h1, h2, h3⟩ := h st₁ hA₁ hi hC
  have hw := hr.work hA.ne (by rw [hA.me, hx]; simp) (by rw [hA.me, hx]; simp) (by rw [hA.me]; exact n1) s hA.sc
  have k := hi.store1 hA₁ hx hdf n1 (fun id i1 i2 => (hw (6 + id) (by omega) (by omega)).trans (hv id i1 i2)) g.frame.fn g.frame.place
  exact ⟨hA₁.notLv (by rw [hx]; simp), g', _, _, { st₁.γ with wk := upd st₁.γ.wk i { x with mx := .own .dn, syn := true }, D := 1, ex := minusSh st₁.γ.ex i s, rd := plusSh st₁.γ.rd i s }, h1, h2, rfl, k, .inr (wt_same (by rfl) (by rfl) (by rfl) (by rfl) fun k hk => by exact upd_ne _ _ hk), h3 _ (hA₁.next hi rfl rfl rfl (upd_self _ _ _) (fun _ h => .inl h) fun b a1 _ _ _ => (aside_setCell st₁.w ⟨s.Gb, 3, none⟩ (.int .u32 1)).block b a1) k.1⟩
theorem TT.share {P : Program} (hP : q.P = P) {g : Goroutine} {st : St Gho} (hA : At s i x st) (hx : x.wg = .work) (n1 : x.mx = .own .work) {off : Nat} (o1 : 6 ≤ off) (o2 : off < 16) (v : Int)
    (h : ∀ st₁, Rl i st st₁ → At s i x st₁ → Inv q st₁ → SceneC q s st₁ → ∃ g', stepG P (i == 0) g st₁.w = .go g' (st₁.w.setCell ⟨s.Gb, off, none⟩ (.int .u64 v)) #[⟨.cell ⟨s.Gb, off, none⟩, true, false⟩] ∧ g'.status = .running ∧
      ∀ st₂, At s i x st₂ → Inv q st₂ → st₂.w.cell? ⟨s.Gb, off, none⟩ = some (.int .u64 v) → (∀ o, 6 ≤ o → o < 16 → o ≠ off → st₂.w.cell? ⟨s.Gb, o, none⟩ = st.w.cell? ⟨s.Gb, o, none⟩) → st₂.γ = st₁.γ → (∀ b, b ≠ s.Gb → st₂.w.heap[b]? = st₁.w.heap[b]?) → TT (cfg q) i Ch g' st₂) : TT (cfg q) i Ch g st := by
  subst hP
  refine TT.act fun st₁ hr hi => ?_
  have hA₁ := hA.rely (by rw [hx]; simp) hr hi
  have hC := (hi.scene s hA₁.sc).c
  obtain ⟨g', h1, h2, h3⟩ := h st₁ hr hA₁ hi hC
  have hw := hr.work hA.ne (by rw [hA.me, hx]; simp) (by rw [hA.me, hx]; simp) (by rw [hA.me]; exact n1) s hA.sc
  have k := hi.share hA₁ hx n1 o1 o2 v g.frame.fn g.frame.place
  refine ⟨hA₁.notLv (by rw [hx]; simp), g', _, _, st₁.γ, h1, h2, rfl, k, .inr fun _ _ h => h, h3 _ (hA₁.next hi rfl rfl rfl hA₁.me (fun _ h => h) fun b a1 _ _ _ => (aside_setCell st₁.w ⟨s.Gb, off, none⟩ (.int .u64 v)).block b a1) k.1 ?_ (fun o p1 p2 p3 => ?_) rfl fun b hb => (aside_setCell st₁.w ⟨s.Gb, off, none⟩ (.int .u64 v)).block b hb⟩
  · obtain ⟨C, c1, c2, _⟩ := hC.gb
    have := gb_set c1 off (.int .u64 v)
    show World.cell? (st₁.w.setCell _ _) _ = _
    simp [World.cell?, this, c2, o2]
  · refine (World.cell?_setCell_other _ ⟨s.Gb, off, none⟩ ⟨s.Gb, o, none⟩ _ (by simp; omega)).trans (hw o p1 p2)
end
end Go.Proofs.Ytpfpokjaeffbjab.Cc
