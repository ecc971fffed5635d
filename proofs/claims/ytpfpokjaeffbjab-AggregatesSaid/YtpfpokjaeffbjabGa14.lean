/- Part of the proof: Mn1, Mn2, Mn3. -/
import Derived.Test.YtpfpokjaeffbjabGa13
namespace Go.Proofs.Ytpfpokjaeffbjab.Cc
open Go.Conc Go.ConcN
open Go.ConcR (KK wgBlock WgAt stA smA rd wr mk DC0)
open Go.ConcM (OsLater)
set_option linter.unusedVariables false
structure MAt (s : Scene) (mw : MW) (dm num : Nat) (K : List (Nat × Obj)) (st : St Gho) : Prop where
  sc : st.γ.sc = some s
  mw : st.γ.mw = mw
  dm : st.γ.dm = dm
  num : st.γ.num = num
  fz : ∀ b o, (b, o) ∈ K → st.w.heap[b]? = some o ∧ ((∀ off, st.γ.ex 0 (ca b off)) ∨ ∀ off, st.γ.rd 0 (ca b off))
  nd : ∀ b o, (b, o) ∈ K → ¬ st.γ.dead b
section
variable {q : Prm} {s : Scene} {mw : MW} {dm num : Nat} {K : List (Nat × Obj)}
theorem MAt.rely {st st₁ : St Gho} (h : MAt s mw dm num K st) (hr : Rl 0 st st₁) : MAt s mw dm num K st₁ := by
  obtain ⟨m1, m2, m3, m4⟩ := hr.main rfl
  refine ⟨(hr.sc (.inl rfl)).trans h.sc, m1.trans h.mw, m2.trans h.dm, m3.trans h.num, fun b o hb => ?_, fun b o hb hx => h.nd b o hb ((m4 b).1 hx)⟩
  obtain ⟨h1, h2⟩ := h.fz b o hb
  exact ⟨(hr.blk (.inl rfl) b h2).trans h1, h2.imp (fun x off => hr.ex (.inl rfl) _ (x off)) fun x off => hr.rd (.inl rfl) _ (x off)⟩
theorem MAt.apart {st : St Gho} (h : MAt s mw dm num K st) (hi : Inv q st) {b : Nat} {o : Obj} (hb : (b, o) ∈ K) : b ≠ s.Gb ∧ b ≠ s.Wg ∧ b ≠ s.Zb ∧ b ≠ s.Rb := by
  have p := (hi.scene s h.sc).p.spec 0
  have hr := (h.fz b o hb).2
  have key : ∀ b', (b' = s.Gb ∨ b' = s.Wg ∨ b' = s.Zb ∨ b' = s.Rb) → b ≠ b' := fun b' hb' e => by
    obtain ⟨⟨o1, h1⟩, o2, h2⟩ := p b' hb'
    rcases hr with hr | hr
    · exact h1 (e ▸ hr o1)
    · exact h2 (e ▸ hr o2)
  exact ⟨key _ (.inl rfl), key _ (.inr (.inl rfl)), key _ (.inr (.inr (.inl rfl))), key _ (.inr (.inr (.inr rfl)))⟩
theorem MAt.next {st st₂ : St Gho} (h : MAt s mw dm num K st) (hi : Inv q st) {mw' : MW} {dm' : Nat} (hsc : st₂.γ.sc = st.γ.sc) (hmw : st₂.γ.mw = mw') (hdm : st₂.γ.dm = dm') (hnum : st₂.γ.num = st.γ.num) (hex : ∀ l, st.γ.ex 0 l → st₂.γ.ex 0 l) (hrd : ∀ l, st.γ.rd 0 l → st₂.γ.rd 0 l) (hdd : ∀ b, st₂.γ.dead b → st.γ.dead b) (hb : ∀ b, b ≠ s.Gb → b ≠ s.Wg → b ≠ s.Zb → b ≠ s.Rb → b < st.w.heap.size → st₂.w.heap[b]? = st.w.heap[b]?) : MAt s mw' dm' num K st₂ := by
  refine ⟨hsc.trans h.sc, hmw, hdm, hnum.trans h.num, fun b o hbo => ?_, fun b o hbo hx => h.nd b o hbo (hdd b hx)⟩
  obtain ⟨a1, a2, a3, a4⟩ := h.apart hi hbo
  obtain ⟨h1, h2⟩ := h.fz b o hbo
  exact ⟨(hb b a1 a2 a3 a4 (lt_of_block h1)).trans h1, h2.imp (fun x off => hex _ (x off)) fun x off => hrd _ (x off)⟩
def EvM (s : Scene) (e : Event) : Prop := (∃ m, e.loc = .mark m ∧ (∀ a, m ≠ .release a) ∧ (∀ a, m ≠ .read a) ∧ ∀ a, m ≠ .write a) ∨ (∃ off y, e = ⟨ca s.Wg off, y, true⟩ ∧ off < 2) ∨ ∃ off, off < 2 ∧ (e.loc = .mark (.read ⟨s.Wg, off, none⟩) ∨ e.loc = .mark (.write ⟨s.Wg, off, none⟩))
theorem Inv.mwg {st : St Gho} (h : Inv q st) (hs : st.γ.sc = some s) {mw₁ : MW} {gs₁ gm₁ : Nat} {es : Array Event} {w' : World} (hev : ∀ e ∈ es, EvM s e) (hsz : w'.heap.size = st.w.heap.size) (hb : ∀ b, b ≠ s.Wg → w'.heap[b]? = st.w.heap[b]?) (hos : OsLater st.w.os w'.os) (hout : w'.output = st.w.output) (hW : WgAt q.tW s.Wg w' gs₁ gm₁)
    (hmw : mw₁ ≠ .solo) (hall : mw₁ = .wt ∨ mw₁ = .rg ∨ mw₁ = .pas → st.γ.num = s.n0 + s.n) (hL : WgL mw₁ (cntW WG.cd st.γ s) (cntW (· == .d2) st.γ s) (cntW (· == .d3) st.γ s) (cntW (· == .d4) st.γ s) gs₁ gm₁) (fn : FuncId) (pos : String) :
    Inv q ⟨w', st.t ++ MemOp.ofEvents 0 fn pos es, { st.γ with mw := mw₁, dm := deafBehind st.γ.dm es, gs := gs₁, gm := gm₁ }⟩ ∧ ∀ j, j ≠ 0 → Rl j st ⟨w', st.t ++ MemOp.ofEvents 0 fn pos es, { st.γ with mw := mw₁, dm := deafBehind st.γ.dm es, gs := gs₁, gm := gm₁ }⟩ := by
  have X := h.scene s hs
  have c := X.c
  have n0 := c.n0
  refine h.act hs (.inl rfl) (γ' := { st.γ with mw := mw₁, dm := deafBehind st.γ.dm es, gs := gs₁, gm := gm₁ }) ⟨rfl, rfl, rfl, rfl, rfl, rfl⟩ (fun e he => ?_) (fun e he => ?_) hsz (fun b _ hb' => hb b hb') (fun off _ _ => cell_of (hb _ c.ne.1)) hos hout (fun _ _ => rfl) (fun e => absurd rfl e) (fun _ => ⟨rfl, rfl, hmw⟩) (fun e => absurd rfl e) ?_ ⟨X.p.spec, X.p.exZ, X.p.exM, X.p.rdG, X.p.shG, X.p.exS, X.p.rdS, X.p.noS⟩ rfl id (fun hw h0 => by omega) (fun h0 _ => by omega) ⟨Nat.le_refl _, fun _ => ⟨rfl, rfl, rfl, rfl⟩⟩ (fun e => absurd rfl e) (.inl (Nat.le_refl _))
  · rcases hev e he with ⟨m, h1, h2⟩ | ⟨off, y, rfl, ho⟩ | ⟨off, ho, hm⟩
    · exact .inr (.inl ⟨m, h1, h2⟩)
    · exact .inl ⟨_, _, _, rfl, .inr ⟨rfl, ho⟩⟩
    · exact .inr (.inr ⟨rfl, off, ho, hm⟩)
  · intro e'
    rcases hev e he with ⟨m, h1, _⟩ | ⟨off, y, h1, ho⟩ | ⟨off, ho, hm | hm⟩
    · rw [e'] at h1; unfold ca at h1; cases h1
    · rw [e'] at h1
      have : s.Gb = s.Wg := by unfold ca at h1; simp at h1; exact h1.1.1
      exact c.ne.1 this
    · rw [e'] at hm; unfold ca at hm; cases hm
    · rw [e'] at hm; unfold ca at hm; cases hm
  · exact {
      n0 := c.n0
      gb := c.gb.of (hb _ c.ne.1) rfl ⟨rfl, rfl, rfl, rfl⟩ rfl
      wgb := hW
      zb := c.zb.block (hb _ c.ne.2.2.2.1.symm) fun _ _ h => h
      rb := c.rb.block (hb _ c.ne.2.2.2.2.1.symm) fun _ _ h => h
      ne := c.ne
      mu := c.mu
      D1 := c.D1
      work := c.work
      dn := c.dn
      syn := c.syn
      new := c.new
      on := c.on
      fin := c.fin
      all := hall
      wgl := hL }
variable {Ch : Nat → Goroutine → St Gho → Prop}
theorem TT.mwg {P : Program} (hP : q.P = P) {g : Goroutine} {st : St Gho} (hA : MAt s mw dm num K st)
    (h : ∀ st₁, MAt s mw dm num K st₁ → Inv q st₁ → SceneC q s st₁ → psi st₁.γ s ≤ psi st.γ s → (psi st₁.γ s = psi st.γ s → st₁.γ.gs = st.γ.gs) → ∃ g' w' es mw₁ gs₁ gm₁, stepG P (0 == 0) g st₁.w = .go g' w' es ∧ g'.status = .running ∧ (∀ e ∈ es, EvM s e) ∧ (w'.heap.size = st₁.w.heap.size ∧ (∀ b, b ≠ s.Wg → w'.heap[b]? = st₁.w.heap[b]?) ∧ OsLater st₁.w.os w'.os ∧ w'.output = st₁.w.output) ∧ WgAt q.tW s.Wg w' (gs₁ : Nat) (gm₁ : Nat) ∧
      mw₁ ≠ .solo ∧ (mw₁ = .wt ∨ mw₁ = .rg ∨ mw₁ = .pas → num = s.n0 + s.n) ∧ WgL mw₁ (cntW WG.cd st₁.γ s) (cntW (· == .d2) st₁.γ s) (cntW (· == .d3) st₁.γ s) (cntW (· == .d4) st₁.γ s) gs₁ gm₁ ∧
      ∀ st₂, MAt s mw₁ (deafBehind dm es) num K st₂ → Inv q st₂ → st₂.γ.gs = gs₁ → psi st₂.γ s = psi st₁.γ s → TT (cfg q) 0 Ch g' st₂) : TT (cfg q) 0 Ch g st := by
  subst hP
  refine TT.act fun st₁ hr' hi => ?_
  have hA₁ := hA.rely hr'
  obtain ⟨p1, p2⟩ := hr'.psi rfl s hA.sc
  obtain ⟨g', w', es, mw₁, gs₁, gm₁, h1, h2, h3, h4, h5, h6, h7, h8, h9⟩ := h st₁ hA₁ hi (hi.scene s hA₁.sc).c p1 p2
  have k := hi.mwg hA₁.sc h3 h4.1 h4.2.1 h4.2.2.1 h4.2.2.2 h5 h6 (by rw [hA₁.num]; exact h7) h8 g.frame.fn g.frame.place
  refine ⟨fun hl => hl.1 rfl, g', w', es, { st₁.γ with mw := mw₁, dm := deafBehind st₁.γ.dm es, gs := gs₁, gm := gm₁ }, h1, h2, rfl, k, .inr fun k hk hw => ?_, h9 _ (hA₁.next hi rfl rfl (by show deafBehind st₁.γ.dm es = _; rw [hA₁.dm]) rfl (fun _ h => h) (fun _ h => h) (fun _ h => h) fun b _ hb _ _ _ => h4.2.1 b hb) k.1 rfl rfl⟩
  obtain ⟨w1, w2⟩ := hw
  exact ⟨w1, w2.imp (fun ⟨a, _⟩ => absurd a hk) id⟩
end
end Go.Proofs.Ytpfpokjaeffbjab.Cc
namespace Go.Proofs.Ytpfpokjaeffbjab.Cc
open Go.Conc Go.ConcN
open Go.ConcR (KK wgBlock WgAt stA smA rd wr mk DC0)
open Go.ConcM (OsLater)
set_option linter.unusedVariables false
def fkEx (γ : Gho) (s : Scene) (k : Nat) (F : Nat → Prop) : Nat → Loc → Prop := fun g l => (γ.ex g l ∧ ¬ (g = 0 ∧ (l = ca s.Zb k ∨ l = ca s.Rb k ∨ ∃ b, F b ∧ lblk l = some b))) ∨ (g = γ.num ∧ (l = ca s.Zb k ∨ l = ca s.Rb k))
def fkRd (γ : Gho) (s : Scene) (F Fr : Nat → Prop) : Nat → Loc → Prop := fun g l => γ.rd g l ∨ ((g = 0 ∨ g = γ.num) ∧ ∃ b off, (F b ∨ Fr b) ∧ l = ca b off) ∨ (g = γ.num ∧ ∃ off, off < 3 ∧ l = ca s.Gb off)
def fkSh (γ : Gho) : Nat → Loc → Prop := fun g l => γ.sh g l ∨ (g = γ.num ∧ γ.sh 0 l)
theorem ca_inj {b b' o o' : Nat} (h : ca b o = ca b' o') : b = b' ∧ o = o' := by unfold ca at h; simpa using h
section
variable {q : Prm} {s : Scene} {k : Nat} {F Fr : Nat → Prop} {keep : List (Nat × Obj)}
theorem Inv.fork {st : St Gho} (h : Inv q st) (hs : st.γ.sc = some s) (hmw : st.γ.mw = .ad) (hdm : st.γ.dm = 0) (hk : st.γ.num = s.n0 + k) (hkn : k < s.n) (hF : ∀ b, F b → ∀ off, st.γ.ex 0 (ca b off)) (hFr : ∀ b, Fr b → ∀ off, st.γ.rd 0 (ca b off)) {x y : MemOp} (hx : x.g = 0 ∧ x.act = .go st.γ.num) (hy : y.g = st.γ.num ∧ y.act = .start) :
    Inv q ⟨st.w, st.t ++ #[x, y], { st.γ with num := st.γ.num + 1, mw := .sp, wk := upd st.γ.wk st.γ.num { mx := .fresh, zw := false, rw := false, syn := false, wg := .work, df := 0, keep := keep }, ex := fkEx st.γ s k F, rd := fkRd st.γ s F Fr, sh := fkSh st.γ }⟩ ∧ ∀ j, j ≠ 0 → j < st.γ.num → Rl j st ⟨st.w, st.t ++ #[x, y], { st.γ with num := st.γ.num + 1, mw := .sp, wk := upd st.γ.wk st.γ.num { mx := .fresh, zw := false, rw := false, syn := false, wg := .work, df := 0, keep := keep }, ex := fkEx st.γ s k F, rd := fkRd st.γ s F Fr, sh := fkSh st.γ }⟩ := by
  obtain ⟨c, p, T⟩ := h.scene s hs
  have A := h.base.tr.apt
  have n0 := c.n0
  have pos := h.base.pos
  have hl := c.lts
  have pool := h.base.pool
  have exZk := p.exM k hkn (by omega)
  have notS : ∀ b, F b ∨ Fr b → b ≠ s.Gb ∧ b ≠ s.Wg ∧ b ≠ s.Zb ∧ b ≠ s.Rb := fun b hb => by
    have key : ∀ b', (b' = s.Gb ∨ b' = s.Wg ∨ b' = s.Zb ∨ b' = s.Rb) → b ≠ b' := fun b' hb' e => by
      obtain ⟨⟨o1, h1⟩, o2, h2⟩ := p.spec 0 b' hb'
      rcases hb with hb | hb
      · exact h1 (e ▸ hF b hb o1)
      · exact h2 (e ▸ hFr b hb o2)
    exact ⟨key _ (.inl rfl), key _ (.inr (.inl rfl)), key _ (.inr (.inr (.inl rfl))), key _ (.inr (.inr (.inr rfl)))⟩
  have exn : ∀ l, ¬ st.γ.ex st.γ.num l := fun l hl => by have := pool _ l (.inl hl); omega
  have rdn : ∀ l, ¬ st.γ.rd st.γ.num l := fun l hl => by have := pool _ l (.inr (.inl hl)); omega
  have shn : ∀ l, ¬ st.γ.sh st.γ.num l := fun l hl => by have := pool _ l (.inr (.inr hl)); omega
  have rd0G := p.rdG 0 (.inl rfl)
  have own0 : ∀ l, (l = ca s.Zb k ∨ l = ca s.Rb k) → st.γ.ex 0 l := fun l hl => by rcases hl with rfl | rfl; exact exZk.1; exact exZk.2
  have A' : Apt st.w.heap.size (fkEx st.γ s k F) (fkRd st.γ s F Fr) (fkSh st.γ) := by
    refine ⟨fun g g' l h1 h2 => ?_, fun g g' l h1 h2 => ?_, fun g g' l h1 h2 => ?_, fun g g' l h1 h2 => ?_, fun g l h1 b hb => ?_, fun g l h1 b hb => ?_, fun g l h1 b hb => ?_, fun g l h1 => ?_⟩
    · rcases h1 with ⟨h1, n1⟩ | ⟨rfl, h1⟩ <;> rcases h2 with ⟨h2, n2⟩ | ⟨rfl, h2⟩
      · exact A.ee _ _ _ h1 h2
      · have := A.ee _ _ _ h1 (own0 l h2)
        exact absurd ⟨this, h2.imp id .inl⟩ n1
      · have := A.ee _ _ _ h2 (own0 l h1)
        exact absurd ⟨this, h1.imp id .inl⟩ n2
      · rfl
    · rcases h1 with ⟨h1, n1⟩ | ⟨rfl, h1⟩
      · rcases h2 with h2 | ⟨_, b, off, hb, rfl⟩ | ⟨_, off, ho, rfl⟩
        · exact A.er _ _ _ h1 h2
        · rcases hb with hb | hb
          · exact n1 ⟨A.ee _ _ _ h1 (hF b hb off), .inr (.inr ⟨b, hb, rfl⟩)⟩
          · exact A.er _ _ _ h1 (hFr b hb off)
        · exact A.er _ _ _ h1 (rd0G off ho)
      · have e0 := own0 l h1
        rcases h2 with h2 | ⟨_, b, off, hb, rfl⟩ | ⟨_, off, ho, rfl⟩
        · exact A.er _ _ _ e0 h2
        · have := notS b hb
          rcases h1 with h1 | h1
          · exact this.2.2.1 (ca_inj h1).1
          · exact this.2.2.2 (ca_inj h1).1
        · exact A.er _ _ _ e0 (rd0G off ho)
    · have e : st.γ.ex g l ∨ st.γ.ex 0 l := by
        rcases h1 with ⟨h1, _⟩ | ⟨_, h1⟩
        · exact .inl h1
        · exact .inr (own0 l h1)
      have f : st.γ.sh g' l ∨ st.γ.sh 0 l := by
        rcases h2 with h2 | ⟨_, h2⟩
        · exact .inl h2
        · exact .inr h2
      rcases e with e | e <;> rcases f with f | f <;> exact A.es _ _ _ e f
    · have f : st.γ.sh g' l ∨ st.γ.sh 0 l := by
        rcases h2 with h2 | ⟨_, h2⟩
        · exact .inl h2
        · exact .inr h2
      rcases h1 with h1 | ⟨_, b, off, hb, rfl⟩ | ⟨_, off, ho, rfl⟩
      · rcases f with f | f <;> exact A.rs _ _ _ h1 f
      · rcases hb with hb | hb
        · rcases f with f | f <;> exact A.es _ _ _ (hF b hb off) f
        · rcases f with f | f <;> exact A.rs _ _ _ (hFr b hb off) f
      · rcases f with f | f <;> exact A.rs _ _ _ (rd0G off ho) f
    · rcases h1 with ⟨h1, _⟩ | ⟨_, h1⟩
      · exact A.low _ _ h1 b hb
      · exact A.low _ _ (own0 l h1) b hb
    · rcases h1 with h1 | ⟨_, b', off, hb', rfl⟩ | ⟨_, off, ho, rfl⟩
      · exact A.rlow _ _ h1 b hb
      · rcases hb' with hb' | hb'
        · exact A.low _ _ (hF b' hb' off) b hb
        · exact A.rlow _ _ (hFr b' hb' off) b hb
      · exact A.rlow _ _ (rd0G off ho) b hb
    · rcases h1 with h1 | ⟨_, h1⟩
      · exact A.slow _ _ h1 b hb
      · exact A.slow _ _ h1 b hb
    · rcases h1 with h1 | h1 | h1
      · rcases h1 with ⟨h1, _⟩ | ⟨_, h1⟩
        · exact A.mem _ _ (.inl h1)
        · exact A.mem _ _ (.inl (own0 l h1))
      · rcases h1 with h1 | ⟨_, b', off, hb', rfl⟩ | ⟨_, off, ho, rfl⟩
        · exact A.mem _ _ (.inr (.inl h1))
        · rfl
        · rfl
      · rcases h1 with h1 | ⟨_, h1⟩
        · exact A.mem _ _ (.inr (.inr h1))
        · exact A.mem _ _ (.inr (.inr h1))
  have hd0 : Deaf st.t 0 = 0 := by rw [h.base.dfm, hdm]
  have htr : TrI (st.t ++ #[x, y]) (st.γ.num + 1) st.w.heap.size (fkEx st.γ s k F) (fkRd st.γ s F Fr) (fkSh st.γ) := by
    refine h.base.tr.fork pos hx hy hd0 A' (fun g l hl => ?_) (fun g l hl => ?_) fun g l hl => ?_
    · split
      · rename_i e
        rcases hl with ⟨hl, _⟩ | ⟨_, hl⟩
        · rw [e] at hl; exact absurd hl (exn l)
        · exact own0 l hl
      · rename_i e
        rcases hl with ⟨hl, _⟩ | ⟨hl, _⟩
        · exact hl
        · exact absurd hl e
    · split
      · rename_i e
        rcases hl with hl | ⟨_, b, off, hb, rfl⟩ | ⟨_, off, ho, rfl⟩
        · rw [e] at hl; exact absurd hl (rdn l)
        · rcases hb with hb | hb
          · exact .inr (hF b hb off)
          · exact .inl (hFr b hb off)
        · exact .inl (rd0G off ho)
      · rename_i e
        rcases hl with hl | ⟨hg, b, off, hb, rfl⟩ | ⟨hg, off, ho, rfl⟩
        · exact .inl hl
        · rcases hg with rfl | hg
          · rcases hb with hb | hb
            · exact .inr (hF b hb off)
            · exact .inl (hFr b hb off)
          · exact absurd hg e
        · exact absurd hg e
    · split
      · rename_i e
        rcases hl with hl | ⟨_, hl⟩
        · rw [e] at hl; exact absurd hl (shn l)
        · exact hl
      · rename_i e
        rcases hl with hl | ⟨hl, _⟩
        · exact hl
        · exact absurd hl e
  have nt : ∀ op ∈ #[x, y], op.act.touch? = none := by
    intro op ho
    simp at ho
    rcases ho with rfl | rfl
    · rw [hx.2]; rfl
    · rw [hy.2]; rfl
  have told : ∀ {i : Nat} {a : Touch}, touchAt (st.t ++ #[x, y]) i = some a → i < st.t.size ∧ touchAt st.t i = some a := by
    intro i a ha
    rcases touchAt_app ha with h1 | ⟨_, op, hop, _, hxa⟩
    · exact h1
    · rw [nt op hop] at hxa; cases hxa
  have gold : ∀ {i g : Nat}, i < st.t.size → ((st.t ++ #[x, y]).g? i = some g ↔ st.t.g? i = some g) := fun hi => by simp only [Trace.g?, getElem?_append_old hi]
  have deaf : ∀ j, Deaf (st.t ++ #[x, y]) j = Deaf st.t j := fun j => by
    have e : #[x, y] = ([x, y] : List MemOp).toArray := rfl
    rw [e, Deaf_append]
    simp [deafStep, hx.2, hy.2]
  have wkn : ∀ j, j ≠ st.γ.num → upd st.γ.wk st.γ.num { mx := .fresh, zw := false, rw := false, syn := false, wg := .work, df := 0, keep := keep } j = st.γ.wk j := fun j hj => upd_ne _ _ hj
  have wkc : upd st.γ.wk st.γ.num { mx := .fresh, zw := false, rw := false, syn := false, wg := .work, df := 0, keep := keep } st.γ.num = { mx := .fresh, zw := false, rw := false, syn := false, wg := .work, df := 0, keep := keep } := upd_self _ _ _
  have new := c.new st.γ.num (Nat.le_refl _)
  have hmx : ∀ j, (upd st.γ.wk st.γ.num { mx := .fresh, zw := false, rw := false, syn := false, wg := .work, df := 0, keep := keep } j).mx = (st.γ.wk j).mx := fun j => by
    by_cases e : j = st.γ.num
    · rw [e, wkc, new]; rfl
    · rw [wkn j e]
  have hsyn : ∀ j, (upd st.γ.wk st.γ.num { mx := .fresh, zw := false, rw := false, syn := false, wg := .work, df := 0, keep := keep } j).syn = (st.γ.wk j).syn := fun j => by
    by_cases e : j = st.γ.num
    · rw [e, wkc, new]; rfl
    · rw [wkn j e]
  have hmm : ({ st.γ with num := st.γ.num + 1, mw := .sp, wk := upd st.γ.wk st.γ.num { mx := .fresh, zw := false, rw := false, syn := false, wg := .work, df := 0, keep := keep }, ex := fkEx st.γ s k F, rd := fkRd st.γ s F Fr, sh := fkSh st.γ } : Gho).mm = st.γ.mm := funext fun j => hmx j
  have hold : st.γ.old = s.n0 := by unfold Gho.old; rw [hs]
  have hold' : ({ st.γ with num := st.γ.num + 1, mw := .sp, wk := upd st.γ.wk st.γ.num { mx := .fresh, zw := false, rw := false, syn := false, wg := .work, df := 0, keep := keep }, ex := fkEx st.γ s k F, rd := fkRd st.γ s F Fr, sh := fkSh st.γ } : Gho).old = s.n0 := by unfold Gho.old; rw [hs]
  have cnt : ∀ (p : WG → Bool), p .idle = false → cntW p { st.γ with num := st.γ.num + 1, mw := .sp, wk := upd st.γ.wk st.γ.num { mx := .fresh, zw := false, rw := false, syn := false, wg := .work, df := 0, keep := keep }, ex := fkEx st.γ s k F, rd := fkRd st.γ s F Fr, sh := fkSh st.γ } s = cntW p st.γ s + if p .work = true then 1 else 0 := fun p hp => by
    have := cntW_upd (p := p) (γ := st.γ) (γ' := { st.γ with num := st.γ.num + 1, mw := .sp, wk := upd st.γ.wk st.γ.num { mx := .fresh, zw := false, rw := false, syn := false, wg := .work, df := 0, keep := keep }, ex := fkEx st.γ s k F, rd := fkRd st.γ s F Fr, sh := fkSh st.γ }) (s := s) (i := st.γ.num) (by omega) (by omega) (fun j hj => congrArg Wk.wg (wkn j hj))
    rw [new, show ({ st.γ with num := st.γ.num + 1, mw := .sp, wk := upd st.γ.wk st.γ.num { mx := .fresh, zw := false, rw := false, syn := false, wg := .work, df := 0, keep := keep }, ex := fkEx st.γ s k F, rd := fkRd st.γ s F Fr, sh := fkSh st.γ } : Gho).wk st.γ.num = _ from wkc] at this
    simp only [Wk.new, hp] at this
    simpa using this
  refine ⟨⟨⟨by show 0 < st.γ.num + 1; omega, htr, h.base.gsz, (deaf 0).trans h.base.dfm, fun j hj hj2 => ?_, fun j hj => ?_, h.base.os, h.base.out, fun j hj hj2 => ?_, h.base.dead, fun i a ha hm => ?_, fun i g hg hne hlt hc => ?_, fun g l hl => ?_, fun j hj => ?_, fun j hj => ?_, fun i a ha hk' => ?_, h.base.dsc⟩, ?_, fun s' hs' => ?_⟩, fun j hj hj2 => ?_⟩
  · show Deaf (st.t ++ #[x, y]) j = (upd st.γ.wk st.γ.num _ j).df
    rw [deaf j]
    have hj2 : j < st.γ.num + 1 := hj2
    by_cases e : j = st.γ.num
    · rw [e, wkc]
      exact Deaf_absent fun i op hi e' => by have := h.base.tr.gs i op hi; omega
    · rw [wkn j e]; exact h.base.dfw j hj (by omega)
  · have hj : (upd st.γ.wk st.γ.num { mx := .fresh, zw := false, rw := false, syn := false, wg := .work, df := 0, keep := keep } j).wg = .gone := hj
    show j ≠ 0 ∧ j < st.γ.num + 1 ∧ (upd st.γ.wk st.γ.num _ j).df = 0
    by_cases e : j = st.γ.num
    · rw [e, wkc] at hj; cases hj
    · rw [wkn j e] at hj ⊢
      obtain ⟨a, b, d⟩ := h.base.gone j hj
      exact ⟨a, by omega, d⟩
  · replace hj2 : j < ({ st.γ with num := st.γ.num + 1, mw := .sp, wk := upd st.γ.wk st.γ.num { mx := .fresh, zw := false, rw := false, syn := false, wg := .work, df := 0, keep := keep }, ex := fkEx st.γ s k F, rd := fkRd st.γ s F Fr, sh := fkSh st.γ } : Gho).old := hj2
    rw [hold'] at hj2
    show (upd st.γ.wk st.γ.num _ j).wg = .lv ∨ (upd st.γ.wk st.γ.num _ j).wg = .gone
    rw [wkn j (by omega)]; exact h.base.old j hj (by rw [hold]; exact hj2)
  · obtain ⟨hlt, ha'⟩ := told ha
    show (∃ b, lblk a.loc = some b ∧ st.γ.dead b) ∨ Knows (st.t ++ #[x, y]) 0 i ∨ ∃ g, (st.t ++ #[x, y]).g? i = some g ∧ ({ st.γ with num := st.γ.num + 1, mw := .sp, wk := upd st.γ.wk st.γ.num { mx := .fresh, zw := false, rw := false, syn := false, wg := .work, df := 0, keep := keep }, ex := fkEx st.γ s k F, rd := fkRd st.γ s F Fr, sh := fkSh st.γ } : Gho).old ≤ g
    rw [hold']
    rcases h.base.know i a ha' hm with h1 | h1 | ⟨g, h1, h2⟩
    · exact .inl h1
    · exact .inr (.inl (h1.app _))
    · exact .inr (.inr ⟨g, (gold hlt).2 h1, by rw [hold] at h2; exact h2⟩)
  · replace hlt : g < ({ st.γ with num := st.γ.num + 1, mw := .sp, wk := upd st.γ.wk st.γ.num { mx := .fresh, zw := false, rw := false, syn := false, wg := .work, df := 0, keep := keep }, ex := fkEx st.γ s k F, rd := fkRd st.γ s F Fr, sh := fkSh st.γ } : Gho).old := hlt
    rw [hold'] at hlt
    have hc : (st.t ++ #[x, y]).counts i := hc
    rcases Nat.lt_or_ge i st.t.size with hi | hi
    · obtain ⟨j, h1, h2⟩ := h.base.ho i g ((gold hi).1 hg) hne (by rw [hold]; exact hlt) (by rw [counts_old hi] at hc; exact hc)
      have hj : j < st.t.size := by
        unfold Trace.g? at h1
        obtain ⟨op, ho, _⟩ := Option.map_eq_some_iff.1 h1
        exact lt_size_of_getElem? ho
      exact ⟨j, (gold hj).2 h1, hb_app _ h2⟩
    · exact absurd hc (mute_counts nt hi).1
  · show g < st.γ.num + 1
    rcases hl with (⟨hl, _⟩ | ⟨hl, _⟩) | (hl | ⟨hg, _⟩ | ⟨hl, _⟩) | (hl | ⟨hl, _⟩)
    · have := pool g l (.inl hl); omega
    · omega
    · have := pool g l (.inr (.inl hl)); omega
    · rcases hg with rfl | hg <;> omega
    · omega
    · have := pool g l (.inr (.inr hl)); omega
    · omega
  · replace hj : j < ({ st.γ with num := st.γ.num + 1, mw := .sp, wk := upd st.γ.wk st.γ.num { mx := .fresh, zw := false, rw := false, syn := false, wg := .work, df := 0, keep := keep }, ex := fkEx st.γ s k F, rd := fkRd st.γ s F Fr, sh := fkSh st.γ } : Gho).old := hj
    rw [hold'] at hj
    show (upd st.γ.wk st.γ.num _ j).mx = .fresh ∨ (upd st.γ.wk st.γ.num _ j).mx = .out
    rw [hmx]; exact h.base.omx j (by rw [hold]; exact hj)
  · have hj : st.γ.num + 1 ≤ j := hj
    exact (wkn j (by omega)).trans (h.base.nw j (by omega))
  · obtain ⟨hlt, ha'⟩ := told ha
    exact (gold hlt).2 (h.base.said i a ha' hk')
  · show st.γ.sc = none ↔ MW.sp = .solo
    rw [hs]; simp
  · have hs' : st.γ.sc = some s' := hs'
    rw [hs] at hs'; cases hs'
    refine ⟨?_, ?_, ?_⟩
    · exact {
        n0 := ⟨n0.1, by show s.n0 ≤ st.γ.num + 1; omega, by show st.γ.num + 1 ≤ _; omega, n0.2.2.2⟩
        gb := c.gb
        wgb := c.wgb
        zb := c.zb.block rfl fun k' _ hf => by
          have hf : (upd st.γ.wk st.γ.num { mx := .fresh, zw := false, rw := false, syn := false, wg := .work, df := 0, keep := keep } (s.n0 + k')).zw = true := hf
          by_cases e : s.n0 + k' = st.γ.num
          · rw [e, wkc] at hf; cases hf
          · rw [wkn _ e] at hf; exact hf
        rb := c.rb.block rfl fun k' _ hf => by
          have hf : (upd st.γ.wk st.γ.num { mx := .fresh, zw := false, rw := false, syn := false, wg := .work, df := 0, keep := keep } (s.n0 + k')).rw = true := hf
          by_cases e : s.n0 + k' = st.γ.num
          · rw [e, wkc] at hf; cases hf
          · rw [wkn _ e] at hf; exact hf
        ne := c.ne
        mu := by have := c.mu; rw [← hmm] at this; exact this
        D1 := c.D1
        work := fun j hj => c.work j ((hmx j).symm.trans hj)
        dn := fun j hj => c.dn j ((hmx j).symm.trans hj)
        syn := fun j h0 hj => c.syn j h0 ((hsyn j).symm.trans hj)
        new := fun j hj => by
          have hj : st.γ.num + 1 ≤ j := hj
          exact (wkn j (by omega)).trans (c.new j (by omega))
        on := fun j h1 h2 => by
          have h2 : j < st.γ.num + 1 := h2
          show (upd st.γ.wk st.γ.num _ j).wg ≠ _
          by_cases e : j = st.γ.num
          · rw [e, wkc]; simp
          · rw [wkn j e]; exact c.on j h1 (by omega)
        fin := fun j h1 h2 h3 => by
          have h2 : (upd st.γ.wk st.γ.num { mx := .fresh, zw := false, rw := false, syn := false, wg := .work, df := 0, keep := keep } j).wg ≠ .idle := h2
          have h3 : (upd st.γ.wk st.γ.num { mx := .fresh, zw := false, rw := false, syn := false, wg := .work, df := 0, keep := keep } j).wg ≠ .work := h3
          show (upd st.γ.wk st.γ.num { mx := .fresh, zw := false, rw := false, syn := false, wg := .work, df := 0, keep := keep } j).zw = true ∧ (upd st.γ.wk st.γ.num { mx := .fresh, zw := false, rw := false, syn := false, wg := .work, df := 0, keep := keep } j).rw = true ∧ ((upd st.γ.wk st.γ.num { mx := .fresh, zw := false, rw := false, syn := false, wg := .work, df := 0, keep := keep } j).mx = .fresh ∨ (upd st.γ.wk st.γ.num { mx := .fresh, zw := false, rw := false, syn := false, wg := .work, df := 0, keep := keep } j).mx = .out)
          by_cases e : j = st.γ.num
          · rw [e, wkc] at h3; exact absurd rfl h3
          · rw [wkn j e] at h2 h3 ⊢; exact c.fin j h1 h2 h3
        all := fun hm => by
          have hm : MW.sp = .wt ∨ MW.sp = .rg ∨ MW.sp = .pas := hm
          simp at hm
        wgl := by
          have w := c.wgl
          rw [hmw] at w
          show WgL .sp (cntW WG.cd _ s) (cntW (· == .d2) _ s) (cntW (· == .d3) _ s) (cntW (· == .d4) _ s) st.γ.gs st.γ.gm
          rw [cnt WG.cd rfl, cnt (· == .d2) rfl, cnt (· == .d3) rfl, cnt (· == .d4) rfl]
          simp only [WgL] at w ⊢
          simp [WG.cd]
          exact w }
    · refine ⟨fun g b hb => ?_, fun k' k1 k2 k3 => ?_, fun k' k1 k2 => ?_, fun g hg off ho => ?_, fun g hg => ?_, fun j hj off o1 o2 => ?_, fun j h0 hj off o1 o2 => .inl (p.rdS j h0 ((hsyn j).symm.trans hj) off o1 o2), fun hn g off o1 o2 => ?_⟩
      · obtain ⟨⟨o1, h1⟩, o2, h2⟩ := p.spec g b hb
        by_cases e : g = st.γ.num
        · subst e
          refine ⟨⟨k + 1, fun hx => ?_⟩, 3, fun hx => ?_⟩
          · rcases hx with ⟨hx, _⟩ | ⟨_, hx | hx⟩
            · exact exn _ hx
            · have := (ca_inj hx).2; omega
            · have := (ca_inj hx).2; omega
          · rcases hx with hx | ⟨_, b', off, hb', e⟩ | ⟨_, off, ho, e⟩
            · exact rdn _ hx
            · have := notS b' hb'
              rw [(ca_inj e).1] at hb
              rcases hb with hb | hb | hb | hb
              · exact this.1 hb
              · exact this.2.1 hb
              · exact this.2.2.1 hb
              · exact this.2.2.2 hb
            · have := (ca_inj e).2; omega
        · refine ⟨⟨o1, fun hx => ?_⟩, o2, fun hx => ?_⟩
          · rcases hx with ⟨hx, _⟩ | ⟨hx, _⟩
            · exact h1 hx
            · exact e hx
          · rcases hx with hx | ⟨_, b', off, hb', e'⟩ | ⟨hx, _⟩
            · exact h2 hx
            · have := notS b' hb'
              rw [(ca_inj e').1] at hb
              rcases hb with hb | hb | hb | hb
              · exact this.1 hb
              · exact this.2.1 hb
              · exact this.2.2.1 hb
              · exact this.2.2.2 hb
            · exact e hx
      · have k2 : s.n0 + k' < st.γ.num + 1 := k2
        have k3 : (upd st.γ.wk st.γ.num { mx := .fresh, zw := false, rw := false, syn := false, wg := .work, df := 0, keep := keep } (s.n0 + k')).wg = .work := k3
        by_cases e : s.n0 + k' = st.γ.num
        · have : k' = k := by omega
          subst this
          exact ⟨.inr ⟨e, .inl rfl⟩, .inr ⟨e, .inr rfl⟩⟩
        · rw [wkn _ e] at k3
          obtain ⟨a, b⟩ := p.exZ k' k1 (by omega) k3
          exact ⟨.inl ⟨a, fun h0 => by have := h0.1; omega⟩, .inl ⟨b, fun h0 => by have := h0.1; omega⟩⟩
      · have k2 : st.γ.num + 1 ≤ s.n0 + k' := k2
        obtain ⟨a, b⟩ := p.exM k' k1 (by omega)
        refine ⟨.inl ⟨a, fun h0 => ?_⟩, .inl ⟨b, fun h0 => ?_⟩⟩
        · rcases h0.2 with e | e | ⟨b', hb', e⟩
          · have := (ca_inj e).2; omega
          · exact c.ne.2.2.2.2.2 (ca_inj e).1
          · have e : s.Zb = b' := by unfold ca lblk at e; simpa using e
            exact (notS b' (.inl hb')).2.2.1 e.symm
        · rcases h0.2 with e | e | ⟨b', hb', e⟩
          · exact c.ne.2.2.2.2.2 (ca_inj e).1.symm
          · have := (ca_inj e).2; omega
          · have e : s.Rb = b' := by unfold ca lblk at e; simpa using e
            exact (notS b' (.inl hb')).2.2.2 e.symm
      · by_cases e : g = st.γ.num
        · exact .inr (.inr ⟨e, off, ho, rfl⟩)
        · refine .inl (p.rdG g (hg.imp id fun ⟨a, b⟩ => ⟨a, ?_⟩) off ho)
          have b : g < st.γ.num + 1 := b
          omega
      · by_cases e : g = st.γ.num
        · obtain ⟨s1, s2⟩ := p.shG 0 (.inl rfl)
          exact ⟨fun off a b => .inr ⟨e, s1 off a b⟩, fun off a => .inr ⟨e, s2 off a⟩⟩
        · obtain ⟨s1, s2⟩ := p.shG g (hg.imp id fun ⟨a, b⟩ => ⟨a, by
            have b : g < st.γ.num + 1 := b
            omega⟩)
          exact ⟨fun off a b => .inl (s1 off a b), fun off a => .inl (s2 off a)⟩
      · have hj : (upd st.γ.wk st.γ.num { mx := .fresh, zw := false, rw := false, syn := false, wg := .work, df := 0, keep := keep } j).mx = .own .work := hj
        rw [hmx] at hj
        refine .inl ⟨p.exS j hj off o1 o2, fun h0 => ?_⟩
        have := h.base.omx 0 (by rw [hold]; omega)
        rw [h0.1] at hj
        rw [hj] at this
        rcases this with h | h <;> cases h
      · obtain ⟨a, b, d⟩ := p.noS (fun j hj => hn j ((hmx j).trans hj)) g off o1 o2
        obtain ⟨a0, b0, d0⟩ := p.noS (fun j hj => hn j ((hmx j).trans hj)) 0 off o1 o2
        refine ⟨fun hx => ?_, fun hx => ?_, fun hD hx => ?_⟩
        · rcases hx with ⟨hx, _⟩ | ⟨_, hx | hx⟩
          · exact a hx
          · exact c.ne.2.1 (ca_inj hx).1
          · exact c.ne.2.2.1 (ca_inj hx).1
        · rcases hx with hx | ⟨_, hx⟩
          · exact b hx
          · exact b0 hx
        · rcases hx with hx | ⟨_, b', off', hb', e⟩ | ⟨_, off', ho, e⟩
          · exact d hD hx
          · exact (notS b' hb').1 (ca_inj e).1.symm
          · have := (ca_inj e).2; omega
    · refine ⟨fun h0 h1 g hg off o1 o2 => ?_, fun h1 => ?_, fun j hj hj2 hw => ?_⟩
      · have P0 := fun g hg => T.sh0 h0 (fun j hj => h1 j ((hmx j).trans hj)) g hg off o1 o2
        by_cases e : g = st.γ.num
        · subst e
          intro i a ha e'
          obtain ⟨hlt, ha'⟩ := told ha
          exact fork_knows hx hy hd0 (Deaf_absent fun i op hi e' => by have := h.base.tr.gs i op hi; omega) (P0 0 (.inl rfl) i a ha' e')
        · refine (P0 g (hg.imp id fun ⟨a, b⟩ => ⟨a, ?_⟩)).app fun op hop b hb => by rw [nt op hop] at hb; cases hb
          have b : g < st.γ.num + 1 := b
          omega
      · obtain ⟨r, r1, r2, r3⟩ := T.sh1 h1
        have hp := lt_of_act? r1.1
        refine ⟨r, r1.app fun op hop sync e => ?_, (heard_old hp).2 r2, fun off o1 o2 i a ha e hw => ?_⟩
        · have := nt op hop
          rw [e] at this; cases this
        · obtain ⟨hlt, ha'⟩ := told ha
          exact (r3 off o1 o2 i a ha' e hw).app _
      · have hw : (upd st.γ.wk st.γ.num { mx := .fresh, zw := false, rw := false, syn := false, wg := .work, df := 0, keep := keep } j).wg ≠ .work := hw
        have hj2 : j < st.γ.num + 1 := hj2
        by_cases e : j = st.γ.num
        · rw [e, wkc] at hw; exact absurd rfl hw
        · rw [wkn j e] at hw
          obtain ⟨r, r1, r2⟩ := T.rel j hj (by omega) hw
          refine ⟨r, r1.app fun i hi _ => (mute_counts nt hi).1, fun i a hri hg ha => ?_⟩
          obtain ⟨hlt, ha'⟩ := told ha
          exact r2 i a hri ((gold hlt).1 hg) ha'
  · refine ⟨Nat.le_refl _, fun _ l hl => .inl ⟨hl, fun h0 => hj h0.1⟩, fun _ l hl => .inl hl, fun _ b hb => rfl, fun _ => wkn j (by omega), fun h0 => absurd h0 hj, fun _ => rfl, fun _ _ _ s' hs' => ?_, fun h0 => absurd h0 hj, fun _ _ _ _ _ _ _ _ _ => rfl, fun _ _ => rfl, fun _ _ _ => Nat.le_refl _, by show st.γ.num ≤ st.γ.num + 1; omega⟩
    refine ⟨?_, fun _ => ⟨rfl, rfl, rfl, rfl⟩, id⟩
    show pot (Gho.mm { st.γ with num := st.γ.num + 1, mw := .sp, wk := upd st.γ.wk st.γ.num { mx := .fresh, zw := false, rw := false, syn := false, wg := .work, df := 0, keep := keep }, ex := fkEx st.γ s k F, rd := fkRd st.γ s F Fr, sh := fkSh st.γ }) s'.n0 s'.n (st.γ.tn + st.γ.th) ≤ _
    rw [hmm]
    exact Nat.le_refl _
end
end Go.Proofs.Ytpfpokjaeffbjab.Cc
namespace Go.Proofs.Ytpfpokjaeffbjab.Cc
open Go.Conc Go.ConcN
open Go.ConcR (KK wgBlock WgAt stA smA rd wr mk DC0)
set_option linter.unusedVariables false
def Wk.start (keep : List (Nat × Obj)) : Wk := { mx := .fresh, zw := false, rw := false, syn := false, wg := .work, df := 0, keep := keep }
section
variable {q : Prm} {s : Scene} {num : Nat} {K : List (Nat × Obj)}
theorem TT.fork {P : Program} (hP : q.P = P) {g : Goroutine} {st : St Gho} {k : Nat} (hA : MAt s .ad 0 num K st) (hk : num = s.n0 + k) (hkn : k < s.n)
    (h : ∀ st₁, MAt s .ad 0 num K st₁ → Inv q st₁ → SceneC q s st₁ → ∃ g' child, stepG P (0 == 0) g st₁.w = .spawn g' child st₁.w #[] ∧ g'.status = .running ∧ child.status = .running ∧
      ∃ (keep : List (Nat × Obj)) (F Fr : Nat → Prop), (∀ b, F b → ∀ off, st₁.γ.ex 0 (ca b off)) ∧ (∀ b, Fr b → ∀ off, st₁.γ.rd 0 (ca b off)) ∧ (∀ b o, (b, o) ∈ keep → (F b ∨ Fr b) ∧ st₁.w.heap[b]? = some o) ∧
      (∀ st₂, At s num (Wk.start keep) st₂ → Inv q st₂ → TW (cfg q) num child st₂) ∧ ∀ st₂, MAt s .sp 0 (num + 1) K st₂ → Inv q st₂ → TT (cfg q) 0 (TW (cfg q)) g' st₂) : TT (cfg q) 0 (TW (cfg q)) g st := by
  subst hP
  refine TT.step fun st₁ hr hi => ⟨fun hl => absurd rfl hl.1, ?_⟩
  have hr : Rl 0 st st₁ := hr
  have hi : Inv q st₁ := hi
  have hA₁ := hA.rely hr
  obtain ⟨g', child, h1, h2, h3, keep, F, Fr, hF, hFr, hkeep, h4, h5⟩ := h st₁ hA₁ hi (hi.scene s hA₁.sc).c
  unfold StepK
  rw [show stepG (cfg q).P (0 == 0) g st₁.w = _ from h1]
  have hnum := hA₁.num
  subst hnum
  obtain ⟨k1, k2⟩ := hi.fork (keep := keep) (F := F) (Fr := Fr) (k := k) hA₁.sc hA₁.mw hA₁.dm hk hkn hF hFr (x := { g := 0, fn := g.frame.fn, pos := g.frame.place, act := .go st₁.γ.num }) (y := { g := st₁.γ.num, fn := child.frame.fn, pos := g.frame.place, act := .start }) ⟨rfl, rfl⟩ ⟨rfl, rfl⟩
  have e : (st₁.t ++ ((MemOp.ofEvents 0 g.frame.fn g.frame.place #[]).push { g := 0, fn := g.frame.fn, pos := g.frame.place, act := .go st₁.γ.num }).push { g := st₁.γ.num, fn := child.frame.fn, pos := g.frame.place, act := .start }) = st₁.t ++ #[{ g := 0, fn := g.frame.fn, pos := g.frame.place, act := .go st₁.γ.num }, { g := st₁.γ.num, fn := child.frame.fn, pos := g.frame.place, act := .start }] := by
    rw [ofEvents_none]
    rfl
  refine ⟨({ st₁.γ with num := st₁.γ.num + 1, mw := .sp, wk := upd st₁.γ.wk st₁.γ.num (Wk.start keep), ex := fkEx st₁.γ s k F, rd := fkRd st₁.γ s F Fr, sh := fkSh st₁.γ } : Gho), ?_⟩
  · have hnew := (hi.scene s hA₁.sc).c.new st₁.γ.num (Nat.le_refl _)
    have n0 := (hi.scene s hA₁.sc).c.n0
    show Inv q ⟨st₁.w, st₁.t ++ ((MemOp.ofEvents 0 g.frame.fn g.frame.place #[]).push { g := 0, fn := g.frame.fn, pos := g.frame.place, act := .go st₁.γ.num }).push { g := st₁.γ.num, fn := child.frame.fn, pos := g.frame.place, act := .start }, _⟩ ∧ _
    simp only [cfg]
    rw [e]
    refine ⟨k1, trivial, fun j hj hlt => k2 j hj hlt, fun j hj hw => ?_, h2, ?_, trivial, h3, ?_⟩
    · obtain ⟨w1, w2⟩ := hw
      refine ⟨w1, ?_⟩
      rcases w2 with ⟨a, _⟩ | ⟨a, b, d, f⟩
      · exact absurd a hj
      · have hne : j ≠ st₁.γ.num := fun e => by rw [e, hnew] at b; cases b
        right
        refine ⟨a, ?_, d, ?_⟩
        · show (upd st₁.γ.wk st₁.γ.num (Wk.start keep) j).mx = .queued
          rw [upd_ne _ _ hne]; exact b
        · show (upd st₁.γ.wk st₁.γ.num (Wk.start keep) j).wg = .work
          rw [upd_ne _ _ hne]; exact f
    · refine h5 _ ⟨hA₁.sc, rfl, hA₁.dm, rfl, fun b o hb => ?_, hA₁.nd⟩ k1
      obtain ⟨f1, f2⟩ := hA₁.fz b o hb
      obtain ⟨a1, a2, a3, a4⟩ := hA₁.apart hi hb
      refine ⟨f1, ?_⟩
      by_cases hFb : F b
      · exact .inr fun off => .inr (.inl ⟨.inl rfl, b, off, .inl hFb, rfl⟩)
      · rcases f2 with f2 | f2
        · refine .inl fun off => .inl ⟨f2 off, fun h0 => ?_⟩
          rcases h0.2 with e | e | ⟨b', hb', e⟩
          · exact a3 (ca_inj e).1
          · exact a4 (ca_inj e).1
          · have e : b = b' := by unfold ca lblk at e; simpa using e
            exact hFb (e ▸ hb')
        · exact .inr fun off => .inl (f2 off)
    · show TW (cfg q) st₁.γ.num child _
      refine h4 _ ⟨by have := n0.1; omega, hA₁.sc, by omega, by show st₁.γ.num < st₁.γ.num + 1; omega, ?_, fun b o hb => ?_⟩ k1
      · exact upd_self _ _ _
      · obtain ⟨f1, f2⟩ := hkeep b o hb
        exact ⟨f2, fun off => .inr (.inl ⟨.inr rfl, b, off, f1, rfl⟩)⟩
end
end Go.Proofs.Ytpfpokjaeffbjab.Cc
