/- Part of the proof: Mn4, Mn5, Mn6. -/
import Derived.Test.YtpfpokjaeffbjabGa14
namespace Go.Proofs.Ytpfpokjaeffbjab.Cc
open Go.Conc Go.ConcN
open Go.ConcR (KK wgBlock WgAt stA smA rd wr mk DC0)
open Go.ConcM (OsLater)
set_option linter.unusedVariables false
def enEx (γ : Gho) (s : Scene) : Nat → Loc → Prop := fun g l => γ.ex g l ∧ ¬ (lblk l = some s.Gb ∨ lblk l = some s.Wg ∨ ((lblk l = some s.Zb ∨ lblk l = some s.Rb) ∧ ∀ k, k < s.n → l ≠ ca s.Zb k ∧ l ≠ ca s.Rb k))
def enRd (γ : Gho) (s : Scene) : Nat → Loc → Prop := fun g l => γ.rd g l ∨ (g = 0 ∧ ∃ off, off < 3 ∧ l = ca s.Gb off)
def enSh (s : Scene) : Nat → Loc → Prop := fun g l => g = 0 ∧ ((∃ off, 3 ≤ off ∧ off < 6 ∧ l = ca s.Gb off) ∨ ∃ off, off < 2 ∧ l = ca s.Wg off)
def enG (γ : Gho) (s : Scene) : Gho := { γ with sc := some s, mw := .sp, D := 0, L := 0, W := 0, S := 0, N := 0, tn := 0, th := 0, gs := 0, gm := 0, ex := enEx γ s, rd := enRd γ s, sh := enSh s }
structure Enter (q : Prm) (s : Scene) (st : St Gho) : Prop where
  n0 : s.n0 = st.γ.num
  n9 : s.n ≤ 9
  gb : ∃ C : Array Value, st.w.heap[s.Gb]? = some (.cells C q.tG) ∧ C.size = 16 ∧ C[0]? = some s.g0 ∧ C[1]? = some s.g1 ∧ C[2]? = some s.g2 ∧ C[3]? = some (.int .u32 0) ∧ C[4]? = some (.int .i32 0) ∧ C[5]? = some (.int .u32 0) ∧ ∀ k, 6 ≤ k → k < 16 → ∃ x, C[k]? = some (.int .u64 x)
  wg : WgAt q.tW s.Wg st.w (0 : Nat) (0 : Nat)
  zb : RowIs s.Zb s.n q.tZ (fun _ => false) s.zv st.w
  rb : RowIs s.Rb s.n q.tR (fun _ => false) s.rv st.w
  ne : s.Gb ≠ s.Wg ∧ s.Gb ≠ s.Zb ∧ s.Gb ≠ s.Rb ∧ s.Wg ≠ s.Zb ∧ s.Wg ≠ s.Rb ∧ s.Zb ≠ s.Rb
  ex : ∀ b, (b = s.Gb ∨ b = s.Wg ∨ b = s.Zb ∨ b = s.Rb) → ∀ off, st.γ.ex 0 (ca b off)
  nd : ¬ st.γ.dead s.Gb ∧ ¬ st.γ.dead s.Zb ∧ ¬ st.γ.dead s.Rb
theorem lblk_ca (b off : Nat) : lblk (ca b off) = some b := rfl
theorem cnt_none {p : MX → Bool} {m : Nat → MX} {a n : Nat} (h : ∀ k, a ≤ k → k < a + n → p (m k) = false) : cnt p m a n = 0 := by
  unfold cnt
  rw [List.countP_eq_zero]
  intro k hk
  have := List.mem_range.1 hk
  rw [h (a + k) (by omega) (by omega)]; simp
section
variable {q : Prm} {s : Scene}
theorem Inv.enter {st : St Gho} (h : Inv q st) (hs : st.γ.sc = none) (hd : st.γ.dm = 0) (E : Enter q s st) :
    Inv q ⟨st.w, st.t, enG st.γ s⟩ ∧ ∀ j, j ≠ 0 → Rl j st ⟨st.w, st.t, enG st.γ s⟩ := by
  have A := h.base.tr.apt
  have pos := h.base.pos
  have hold : st.γ.old = st.γ.num := by unfold Gho.old; rw [hs]
  have hold' : (enG st.γ s).old = st.γ.num := by unfold Gho.old enG; exact E.n0
  have new : ∀ j, st.γ.num ≤ j → st.γ.wk j = .new := h.base.nw
  have oldlv : ∀ j, 0 < j → j < st.γ.num → (st.γ.wk j).wg = .lv ∨ (st.γ.wk j).wg = .gone := fun j a b => h.base.old j a (by rw [hold]; exact b)
  have ex0 := E.ex
  have exG := fun off => ex0 s.Gb (.inl rfl) off
  have exW := fun off => ex0 s.Wg (.inr (.inl rfl)) off
  have exZ := fun off => ex0 s.Zb (.inr (.inr (.inl rfl))) off
  have exR := fun off => ex0 s.Rb (.inr (.inr (.inr rfl))) off
  have A' : Apt st.w.heap.size (enEx st.γ s) (enRd st.γ s) (enSh s) := by
    refine ⟨fun g g' l h1 h2 => A.ee _ _ _ h1.1 h2.1, fun g g' l h1 h2 => ?_, fun g g' l h1 h2 => ?_, fun g g' l h1 h2 => ?_, fun g l h1 => A.low _ _ h1.1, fun g l h1 b hb => ?_, fun g l h1 b hb => ?_, fun g l h1 => ?_⟩
    · rcases h2 with h2 | ⟨_, off, _, rfl⟩
      · exact A.er _ _ _ h1.1 h2
      · exact h1.2 (.inl rfl)
    · obtain ⟨_, ⟨off, _, _, rfl⟩ | ⟨off, _, rfl⟩⟩ := h2
      · exact h1.2 (.inl rfl)
      · exact h1.2 (.inr (.inl rfl))
    · obtain ⟨_, ⟨off, o1, o2, rfl⟩ | ⟨off, _, rfl⟩⟩ := h2
      · rcases h1 with h1 | ⟨_, off', o', e⟩
        · exact A.er _ _ _ (exG off) h1
        · have := (ca_inj e).2; omega
      · rcases h1 with h1 | ⟨_, off', o', e⟩
        · exact A.er _ _ _ (exW off) h1
        · exact E.ne.1 (ca_inj e).1.symm
    · rcases h1 with h1 | ⟨_, off, _, rfl⟩
      · exact A.rlow _ _ h1 b hb
      · exact A.low _ _ (exG off) b hb
    · obtain ⟨_, ⟨off, _, _, rfl⟩ | ⟨off, _, rfl⟩⟩ := h1
      · exact A.low _ _ (exG off) b hb
      · exact A.low _ _ (exW off) b hb
    · rcases h1 with h1 | h1 | h1
      · exact A.mem _ _ (.inl h1.1)
      · rcases h1 with h1 | ⟨_, off, _, rfl⟩
        · exact A.mem _ _ (.inr (.inl h1))
        · rfl
      · obtain ⟨_, ⟨off, _, _, rfl⟩ | ⟨off, _, rfl⟩⟩ := h1 <;> rfl
  have htr : TrI st.t st.γ.num st.w.heap.size (enEx st.γ s) (enRd st.γ s) (enSh s) := by
    refine h.base.tr.sub A' (fun g l hl => hl.1) (fun g l hl => ?_) fun g l hl => .inr ?_
    · rcases hl with hl | ⟨rfl, off, _, rfl⟩
      · exact .inl hl
      · exact .inr (exG off)
    · obtain ⟨rfl, ⟨off, _, _, rfl⟩ | ⟨off, _, rfl⟩⟩ := hl
      · exact ⟨exG off, fun i a ha _ hk => h.base.said i a ha hk⟩
      · exact ⟨exW off, fun i a ha _ hk => h.base.said i a ha hk⟩
  have nowork : ∀ j, ((enG st.γ s).wk j).mx ≠ .own .work := fun j hj => by
    have hj : (st.γ.wk j).mx = .own .work := hj
    by_cases h1 : st.γ.num ≤ j
    · rw [new j h1] at hj; cases hj
    · rcases h.base.omx j (by rw [hold]; omega) with e | e <;> rw [e] at hj <;> cases hj
  have mem0 : ∀ g, Mem s (enG st.γ s) g → g = 0 := fun g hg => by
    rcases hg with rfl | ⟨a, b⟩
    · rfl
    · have b : g < st.γ.num := b
      have := E.n0
      omega
  have cnt0 : ∀ p : WG → Bool, p .idle = false → cntW p (enG st.γ s) s = 0 := fun p hp => cntW_zero fun j h1 h2 => by
    show p (st.γ.wk j).wg = false
    rw [new j (by have := E.n0; omega)]; exact hp
  have wk0 : ∀ j, s.n0 ≤ j → st.γ.wk j = .new := fun j hj => new j (by rw [← E.n0]; exact hj)
  have hmu : MuI (enG st.γ s).mm s.n0 s.n 0 0 0 0 0 0 := by
    have z : ∀ p : MX → Bool, p .fresh = false → cnt p (enG st.γ s).mm s.n0 s.n = 0 := fun p hp => cnt_none fun k k1 _ => by
      show p (st.γ.wk k).mx = false
      rw [wk0 k k1]; exact hp
    refine ⟨(z _ rfl).symm, ?_, ?_, by omega, .inr ⟨rfl, rfl, z _ rfl, z _ rfl⟩, fun _ _ _ h => by omega⟩
    · rw [z MX.isRel rfl, z MX.isWN rfl, z MX.isCT rfl]
    · rw [z MX.isRel rfl, z MX.isQ rfl, z MX.isWH rfl]
  refine ⟨⟨⟨pos, htr, h.base.gsz, h.base.dfm, h.base.dfw, h.base.gone, h.base.os, h.base.out, fun j a b => h.base.old j a (by rw [hold]; rw [hold'] at b; exact b), h.base.dead, fun i a ha hm => ?_, fun i g hg hne hlt hc => ?_, fun g l hl => ?_, fun j hj => h.base.omx j (by rw [hold]; replace hj : j < (enG st.γ s).old := hj; rw [hold'] at hj; exact hj), new, h.base.said, fun s' hs' => by
    have hs' : some s = some s' := hs'
    cases hs'; exact E.nd⟩, ?_, fun s' hs' => ?_⟩, fun j hj => ?_⟩
  · show (∃ b, lblk a.loc = some b ∧ st.γ.dead b) ∨ Knows st.t 0 i ∨ ∃ g, st.t.g? i = some g ∧ (enG st.γ s).old ≤ g
    rw [hold', ← hold]; exact h.base.know i a ha hm
  · replace hlt : g < (enG st.γ s).old := hlt
    rw [hold', ← hold] at hlt
    exact h.base.ho i g hg hne hlt hc
  · rcases hl with hl | hl | hl
    · exact h.base.pool g l (.inl hl.1)
    · rcases hl with hl | ⟨rfl, _⟩
      · exact h.base.pool g l (.inr (.inl hl))
      · exact pos
    · rw [hl.1]; exact pos
  · show some s = none ↔ MW.sp = .solo
    simp
  · have hs' : some s = some s' := hs'
    cases hs'
    refine ⟨?_, ?_, ?_⟩
    · exact {
        n0 := ⟨by rw [E.n0]; exact pos, by rw [E.n0]; exact Nat.le_refl _, by rw [E.n0]; show st.γ.num ≤ _; omega, E.n9⟩
        gb := by
          obtain ⟨C, c1, c2, c3, c4, c5, c6, c7, c8, c9⟩ := E.gb
          exact ⟨C, c1, c2, c3, c4, c5, c6, c7, c8, c9, fun e => by cases e⟩
        wgb := E.wg
        zb := E.zb.block rfl fun k _ hf => by
          have hf : (st.γ.wk (s.n0 + k)).zw = true := hf
          rw [wk0 _ (by omega)] at hf; cases hf
        rb := E.rb.block rfl fun k _ hf => by
          have hf : (st.γ.wk (s.n0 + k)).rw = true := hf
          rw [wk0 _ (by omega)] at hf; cases hf
        ne := E.ne
        mu := hmu
        D1 := Nat.zero_le _
        work := fun j hj => absurd hj (nowork j)
        dn := fun j hj => by
          have hj : (st.γ.wk j).mx = .own .dn := hj
          by_cases h1 : st.γ.num ≤ j
          · rw [new j h1] at hj; cases hj
          · rcases h.base.omx j (by rw [hold]; omega) with e | e <;> rw [e] at hj <;> cases hj
        syn := fun j h0 hj => by
          have hj : (st.γ.wk j).syn = true := hj
          rw [wk0 j h0] at hj; cases hj
        new := new
        on := fun j h1 h2 => by
          have h2 : j < st.γ.num := h2
          have := E.n0
          omega
        fin := fun j h1 h2 _ => by
          have h2 : (st.γ.wk j).wg ≠ .idle := h2
          rw [wk0 j h1] at h2; exact absurd rfl h2
        all := fun hm => by
          have hm : MW.sp = .wt ∨ MW.sp = .rg ∨ MW.sp = .pas := hm
          simp at hm
        wgl := by
          show WgL .sp (cntW WG.cd (enG st.γ s) s) (cntW (· == .d2) (enG st.γ s) s) (cntW (· == .d3) (enG st.γ s) s) (cntW (· == .d4) (enG st.γ s) s) 0 0
          rw [cnt0 WG.cd rfl, cnt0 (· == .d2) rfl, cnt0 (· == .d3) rfl, cnt0 (· == .d4) rfl]
          simp only [WgL]
          exact ⟨trivial, trivial, trivial, trivial, trivial⟩ }
    · refine ⟨fun g b hb => ?_, fun k k1 k2 => ?_, fun k k1 _ => ?_, fun g hg off ho => ?_, fun g hg => ?_, fun j hj => absurd hj (nowork j), fun j h0 hj => ?_, fun _ g off o1 o2 => ?_⟩
      · refine ⟨⟨s.n, fun hx => hx.2 ?_⟩, 3, fun hx => ?_⟩
        · rw [lblk_ca]
          rcases hb with rfl | rfl | rfl | rfl
          · exact .inl rfl
          · exact .inr (.inl rfl)
          · exact .inr (.inr ⟨.inl rfl, fun k hk => ⟨fun e => by have := (ca_inj e).2; omega, fun e => by have := (ca_inj e).2; omega⟩⟩)
          · exact .inr (.inr ⟨.inr rfl, fun k hk => ⟨fun e => by have := (ca_inj e).2; omega, fun e => by have := (ca_inj e).2; omega⟩⟩)
        · rcases hx with hx | ⟨_, off, ho, e⟩
          · exact A.er _ _ _ (ex0 b hb 3) hx
          · have := (ca_inj e).2; omega
      · have k2 : s.n0 + k < st.γ.num := k2
        have := E.n0
        omega
      · refine ⟨⟨exZ k, fun hx => ?_⟩, exR k, fun hx => ?_⟩
        · rw [lblk_ca] at hx
          rcases hx with hx | hx | ⟨_, hx⟩
          · exact E.ne.2.1 (Option.some.inj hx).symm
          · exact E.ne.2.2.2.1 (Option.some.inj hx).symm
          · exact (hx k k1).1 rfl
        · rw [lblk_ca] at hx
          rcases hx with hx | hx | ⟨_, hx⟩
          · exact E.ne.2.2.1 (Option.some.inj hx).symm
          · exact E.ne.2.2.2.2.1 (Option.some.inj hx).symm
          · exact (hx k k1).2 rfl
      · rw [mem0 g hg]; exact .inr ⟨rfl, off, ho, rfl⟩
      · rw [mem0 g hg]; exact ⟨fun off a b => ⟨rfl, .inl ⟨off, a, b, rfl⟩⟩, fun off a => ⟨rfl, .inr ⟨off, a, rfl⟩⟩⟩
      · have hj : (st.γ.wk j).syn = true := hj
        rw [wk0 j h0] at hj; cases hj
      · refine ⟨fun hx => hx.2 (.inl rfl), fun hx => ?_, fun _ hx => ?_⟩
        · obtain ⟨_, ⟨off', a, b, e⟩ | ⟨off', a, e⟩⟩ := hx
          · have := (ca_inj e).2; omega
          · exact E.ne.1 (ca_inj e).1
        · rcases hx with hx | ⟨_, off', ho, e⟩
          · exact A.er _ _ _ (exG off) hx
          · have := (ca_inj e).2; omega
    · refine ⟨fun _ _ g hg off _ _ => ?_, fun h1 => (by cases h1), fun j h1 h2 => ?_⟩
      · rw [mem0 g hg]; exact h.base.tr.ex 0 _ (exG off)
      · have h2 : j < st.γ.num := h2
        have := E.n0
        omega
  · have nl : Live j st → st.γ.num ≤ j := fun hl => by
      refine Nat.le_of_not_lt fun hlt => ?_
      rcases hl with hl | hl
      · exact hj hl
      · exact (oldlv j (by omega) hlt).elim hl.1 hl.2
    have idle : (st.γ.wk j).wg ≠ .lv → (st.γ.wk j).wg ≠ .gone ∧ (st.γ.wk j).wg ≠ .idle → False := fun a b => by
      by_cases hlt : j < st.γ.num
      · exact (oldlv j (by omega) hlt).elim a b.1
      · exact b.2 (by rw [new j (by omega)]; rfl)
    refine ⟨Nat.le_refl _, fun hl l hx => ?_, fun hl l hx => ?_, fun _ b _ => rfl, fun _ => rfl, fun e => absurd e hj, fun hx => ?_, fun _ a b _ _ => (idle a b).elim, fun e => absurd e hj, fun _ a b _ _ _ _ _ _ => (idle a b).elim, fun _ hx => absurd hx (nowork j), fun _ hx hg => ?_, Nat.le_refl _⟩
    · have := h.base.pool j l (.inl hx); have := nl hl; omega
    · have := h.base.pool j l (.inr (.inl hx)); have := nl hl; omega
    · rcases hx with hx | hx
      · exact absurd hx hj
      · exact (idle hx.1 hx.2).elim
    · exact (idle (by rw [hg]; simp) (by rw [hg]; simp)).elim
end
end Go.Proofs.Ytpfpokjaeffbjab.Cc
namespace Go.Proofs.Ytpfpokjaeffbjab.Cc
open Go.Conc Go.ConcN
open Go.ConcR (KK wgBlock WgAt stA smA rd wr mk DC0)
open Go.ConcM (OsLater)
set_option linter.unusedVariables false
def jnEx (γ : Gho) (s : Scene) (size : Nat) : Nat → Loc → Prop := fun g l => g = 0 ∧ l.isMemory = true ∧ ∃ b, lblk l = some b ∧ b < size ∧ ¬ γ.dead b ∧ b ≠ s.Wg
def jnG (γ : Gho) (s : Scene) (size : Nat) : Gho := { γ with sc := none, mw := .solo, ex := jnEx γ s size, rd := fun _ _ => False, sh := fun _ _ => False, dead := fun b => γ.dead b ∨ b = s.Wg }
theorem cntW_none {p : WG → Bool} {γ : Gho} {s : Scene} (h : cntW p γ s = 0) {j : Nat} (h1 : s.n0 ≤ j) (h2 : j < s.n0 + s.n) : p (γ.wk j).wg = false := by
  cases hp : p (γ.wk j).wg with
  | false => rfl
  | true => have := cntW_pos (p := p) h1 h2 hp; omega
section
variable {q : Prm} {s : Scene}
theorem pas_lv {st : St Gho} (c : SceneC q s st) (hmw : st.γ.mw = .pas) : st.γ.num = s.n0 + s.n ∧ ∀ j, s.n0 ≤ j → j < st.γ.num → (st.γ.wk j).wg = .lv ∨ (st.γ.wk j).wg = .gone := by
  have hnum := c.all (.inr (.inr hmw))
  refine ⟨hnum, fun j h1 h2 => ?_⟩
  have w := c.wgl
  rw [hmw] at w
  obtain ⟨w1, _, _, w2, w3, w4⟩ := w
  have a1 := cntW_none w1 h1 (by omega)
  have a2 := cntW_none w2 h1 (by omega)
  have a3 := cntW_none w3 h1 (by omega)
  have a4 := cntW_none w4 h1 (by omega)
  have a5 := c.on j h1 h2
  cases hw : (st.γ.wk j).wg <;> rw [hw] at a1 a2 a3 a4 a5 <;> first | exact .inl rfl | exact .inr rfl | (simp [WG.cd] at a1; done) | (simp at a2; done) | (simp at a3; done) | (simp at a4; done) | (simp at a5; done)
theorem Inv.join {st : St Gho} (h : Inv q st) (hs : st.γ.sc = some s) (hmw : st.γ.mw = .pas) (hd : st.γ.dm = 0) (fn : FuncId) (pos : String) :
    Inv q ⟨st.w, st.t ++ MemOp.ofEvents 0 fn pos #[⟨.mark (.acquire (stA s.Wg)), false, true⟩], jnG st.γ s st.w.heap.size⟩ ∧ ∀ j, j ≠ 0 → Rl j st ⟨st.w, st.t ++ MemOp.ofEvents 0 fn pos #[⟨.mark (.acquire (stA s.Wg)), false, true⟩], jnG st.γ s st.w.heap.size⟩ := by
  obtain ⟨c, p, T⟩ := h.scene s hs
  have A := h.base.tr.apt
  have n0 := c.n0
  have hl := c.lts
  have pos' := h.base.pos
  obtain ⟨hnum, lv⟩ := pas_lv c hmw
  have hold : st.γ.old = s.n0 := by unfold Gho.old; rw [hs]
  have hold' : (jnG st.γ s st.w.heap.size).old = st.γ.num := rfl
  have all : ∀ j, 0 < j → j < st.γ.num → (st.γ.wk j).wg = .lv ∨ (st.γ.wk j).wg = .gone := fun j a b => by
    rcases Nat.lt_or_ge j s.n0 with hj | hj
    · exact h.base.old j a (by rw [hold]; exact hj)
    · exact lv j hj b
  obtain ⟨nd1, nd2, nd3⟩ := h.base.dsc s hs
  have hops : ∀ op ∈ MemOp.ofEvents 0 fn pos #[⟨.mark (.acquire (stA s.Wg)), false, true⟩], op.g = 0 ∧ op.act.touch? = none ∧ op.act = .mark (.acquire (stA s.Wg)) := by
    intro op ho
    obtain ⟨e, he, rfl⟩ := mem_ops ho
    simp at he; subst he
    exact ⟨rfl, rfl, rfl⟩
  have hq : (st.t ++ MemOp.ofEvents 0 fn pos #[⟨.mark (.acquire (stA s.Wg)), false, true⟩])[st.t.size]? = some { g := 0, fn, pos, act := .mark (.acquire (stA s.Wg)) } := by
    rw [ops_one]; simp [MemAct.ofEvent]
  generalize hu : MemOp.ofEvents 0 fn pos #[⟨.mark (.acquire (stA s.Wg)), false, true⟩] = u at hops hq ⊢
  have hd0 : Deaf st.t 0 = 0 := by rw [h.base.dfm, hd]
  have hheard : (st.t ++ u).heard st.t.size := ⟨0, by simp only [Trace.g?, hq]; rfl, by rw [deaf_old (Nat.le_refl _)]; exact hd0⟩
  have nt : ∀ op ∈ u, op.act.touch? = none := fun op ho => (hops op ho).2.1
  have told : ∀ {i : Nat} {a : Touch}, touchAt (st.t ++ u) i = some a → i < st.t.size ∧ touchAt st.t i = some a := by
    intro i a ha
    rcases touchAt_app ha with h1 | ⟨_, op, hop, _, hxa⟩
    · exact h1
    · rw [nt op hop] at hxa; cases hxa
  have gold : ∀ {i g : Nat}, i < st.t.size → ((st.t ++ u).g? i = some g ↔ st.t.g? i = some g) := fun hi => by simp only [Trace.g?, getElem?_append_old hi]
  have norel : ∀ k a, (st.t ++ u).act? k = some (.mark (.release a)) → ∀ i, i ≤ k → st.t.g? i = some 0 := fun k a e => by
    obtain ⟨op, ho, hoa⟩ := Option.map_eq_some_iff.1 e
    rcases getElem?_append_cases ho with ⟨_, h1⟩ | ⟨_, h1⟩
    · exact h.base.tr.norel k op h1 a hoa
    · rw [(hops op h1).2.2] at hoa; cases hoa
  have edge : ∀ j, s.n0 ≤ j → j < st.γ.num → ∃ r, RelBy (stA s.Wg) st.t j r ∧ (∀ i a, r < i → st.t.g? i = some j → touchAt st.t i = some a → lblk a.loc = some s.Wg) ∧ HappensBefore (st.t ++ u) r st.t.size := fun j h1 h2 => by
    obtain ⟨r, r1, r2⟩ := T.rel j h1 h2 (by rcases lv j h1 h2 with e | e <;> rw [e] <;> simp)
    have hr := lt_of_act? r1.act
    refine ⟨r, r1, r2, .single (.inr ⟨.marked hr (.inr ((act?_old hr).trans r1.act)) (by simp only [Trace.act?, hq]; rfl) (fun k hk _ e => by have := norel k _ e r (by omega); rw [r1.g] at this; have := Option.some.inj this; have := n0.1; omega), (heard_old hr).2 r1.heard, hheard⟩)⟩
  have upto : ∀ {i j : Nat}, st.t.g? i = some j → s.n0 ≤ j → j < st.γ.num → (∀ r, RelBy (stA s.Wg) st.t j r → (∀ i a, r < i → st.t.g? i = some j → touchAt st.t i = some a → lblk a.loc = some s.Wg) → i ≤ r) → HappensBefore (st.t ++ u) i st.t.size := by
    intro i j hg h1 h2 hle
    obtain ⟨r, r1, r2, r3⟩ := edge j h1 h2
    have hr := lt_of_act? r1.act
    rcases Nat.lt_or_ge i r with hlt | hge
    · exact .trans (.single (.inl ⟨hlt, j, (gold (by omega)).2 hg, (gold hr).2 r1.g⟩)) r3
    · have := hle r r1 r2
      obtain rfl : i = r := by omega
      exact r3
  have gnum : ∀ {i g : Nat}, st.t.g? i = some g → g < st.γ.num := fun hg => by
    obtain ⟨op, ho, hog⟩ := Option.map_eq_some_iff.1 hg
    have := h.base.tr.gs _ op ho
    omega
  have known : ∀ i a, touchAt st.t i = some a → a.loc.isMemory = true → (∃ b, lblk a.loc = some b ∧ (st.γ.dead b ∨ b = s.Wg)) ∨ Knows (st.t ++ u) 0 i := fun i a ha hm => by
    rcases h.base.know i a ha hm with ⟨b, h1, h2⟩ | h1 | ⟨g, h1, h2⟩
    · exact .inl ⟨b, h1, .inl h2⟩
    · exact .inr (h1.app _)
    · rw [hold] at h2
      by_cases hb : lblk a.loc = some s.Wg
      · exact .inl ⟨_, hb, .inr rfl⟩
      · refine .inr ⟨st.t.size, _, hq, rfl, .inr (upto h1 h2 (gnum h1) fun r _ r2 => ?_)⟩
        refine Nat.le_of_not_lt fun hlt => hb (r2 i a hlt h1 ha)
  have A' : Apt st.w.heap.size (jnEx st.γ s st.w.heap.size) (fun _ _ => False) (fun _ _ => False) := by
    refine ⟨fun g g' l h1 h2 => h1.1.trans h2.1.symm, fun g g' l _ h2 => h2, fun _ _ _ _ x => x, fun _ _ _ _ x => x, fun g l h1 b hb => ?_, fun _ _ x => x.elim, fun _ _ x => x.elim, fun g l h1 => ?_⟩
    · obtain ⟨_, _, b', hb', hlt, _⟩ := h1
      rw [hb] at hb'; cases hb'; exact hlt
    · rcases h1 with h1 | h1 | h1
      · exact h1.2.1
      · exact h1.elim
      · exact h1.elim
  have htr : TrI (st.t ++ u) st.γ.num st.w.heap.size (jnEx st.γ s st.w.heap.size) (fun _ _ => False) (fun _ _ => False) := by
    refine ⟨fun said => ?_, A', fun g l hl => ?_, fun g l hl => hl.elim, fun _ _ x => x.elim, fun i a ha b hb => (h.base.tr.low i a (told ha).2 b hb).imp id fun k g hg => (k g hg).app _, fun i op hi => ?_, fun i op hi a => ?_⟩
    · refine noRace_append (g := 0) (h.base.tr.nr said) (fun op ho => (hops op ho).1) fun i a _ op hop b hb _ => ?_
      rw [nt op hop] at hb; cases hb
    · obtain ⟨rfl, hm, b, hb, _, hnd, hne⟩ := hl
      intro i a ha e
      obtain ⟨_, ha'⟩ := told ha
      rcases known i a ha' (by rw [e]; exact hm) with ⟨b', h1, h2⟩ | h1
      · rw [e, hb] at h1
        obtain rfl := Option.some.inj h1
        exact (h2.elim hnd hne).elim
      · exact h1
    · rcases getElem?_append_cases hi with ⟨_, h1⟩ | ⟨_, h1⟩
      · exact h.base.tr.gs i op h1
      · rw [(hops op h1).1]; exact pos'
    · rcases getElem?_append_cases hi with ⟨_, h1⟩ | ⟨_, h1⟩
      · intro e k hk
        have := h.base.tr.norel i op h1 a e k hk
        have hlt : k < st.t.size := Nat.lt_of_le_of_lt hk (lt_size_of_getElem? h1)
        exact (gold hlt).2 this
      · rw [(hops op h1).2.2]; simp
  have deafe : Deaf (st.t ++ u) 0 = Deaf st.t 0 := by
    rw [← hu, Deaf_own]
    exact deafBehind_quiet fun e he => by simp at he; subst he; simp
  refine ⟨⟨⟨pos', htr, h.base.gsz, deafe.trans h.base.dfm, fun j hj hj2 => ?_, h.base.gone, h.base.os, h.base.out, fun j a b => all j a (by rw [hold'] at b; exact b), fun b hb => ?_, fun i a ha hm => ?_, fun i g hg hne hlt hc => ?_, fun g l hl => ?_, fun j hj => ?_, h.base.nw, fun i a ha hk => ?_, fun s' hs' => by cases hs'⟩, ?_, fun s' hs' => by cases hs'⟩, fun j hj => ?_⟩
  · exact (Deaf_other st.t (by omega : (0 : Nat) ≠ j) _ fun op ho => (hops op ho).1).trans (h.base.dfw j hj hj2)
  · rcases hb with hb | rfl
    · exact h.base.dead b hb
    · exact hl.2.1
  · obtain ⟨_, ha'⟩ := told ha
    exact (known i a ha' hm).imp id .inl
  · replace hlt : g < st.γ.num := hlt
    have hc : (st.t ++ u).counts i := hc
    rcases Nat.lt_or_ge i st.t.size with hi | hi
    · have hg' := (gold hi).1 hg
      have hc' : st.t.counts i := by rw [counts_old hi] at hc; exact hc
      rcases Nat.lt_or_ge g s.n0 with h0 | h0
      · obtain ⟨j, h1, h2⟩ := h.base.ho i g hg' hne (by rw [hold]; exact h0) hc'
        have hj : j < st.t.size := by
          unfold Trace.g? at h1
          obtain ⟨op, ho, _⟩ := Option.map_eq_some_iff.1 h1
          exact lt_size_of_getElem? ho
        exact ⟨j, (gold hj).2 h1, hb_app _ h2⟩
      · refine ⟨st.t.size, by show (st.t ++ u).g? _ = _; simp only [Trace.g?, hq]; rfl, upto hg' h0 hlt fun r r1 _ => ?_⟩
        exact Nat.le_of_not_lt fun hlt' => r1.after i hlt' hg' hc'
    · exact absurd hc (mute_counts nt hi).1
  · show g < st.γ.num
    rcases hl with hl | hl | hl
    · rw [hl.1]; exact pos'
    · exact hl.elim
    · exact hl.elim
  · replace hj : j < st.γ.num := hj
    show (st.γ.wk j).mx = .fresh ∨ (st.γ.wk j).mx = .out
    rcases Nat.lt_or_ge j s.n0 with h0 | h0
    · exact h.base.omx j (by rw [hold]; exact h0)
    · exact (c.fin j h0 (by rcases lv j h0 hj with e | e <;> rw [e] <;> simp) (by rcases lv j h0 hj with e | e <;> rw [e] <;> simp)).2.2
  · obtain ⟨hlt, ha'⟩ := told ha
    exact (gold hlt).2 (h.base.said i a ha' hk)
  · show none = none ↔ MW.solo = .solo
    simp
  · have nl : Live j st → st.γ.num ≤ j := fun hl => by
      refine Nat.le_of_not_lt fun hlt => ?_
      rcases hl with hl | hl
      · exact hj hl
      · exact (all j (by omega) hlt).elim hl.1 hl.2
    have idle : (st.γ.wk j).wg ≠ .lv → (st.γ.wk j).wg ≠ .gone ∧ (st.γ.wk j).wg ≠ .idle → False := fun a b => by
      by_cases hlt : j < st.γ.num
      · exact (all j (by omega) hlt).elim a b.1
      · exact b.2 (by rw [h.base.nw j (by omega)]; rfl)
    refine ⟨Nat.le_refl _, fun hl l hx => ?_, fun hl l hx => ?_, fun _ b _ => rfl, fun _ => rfl, fun e => absurd e hj, fun hx => ?_, fun _ a b _ _ => (idle a b).elim, fun e => absurd e hj, fun _ a b _ _ _ _ _ _ => (idle a b).elim, fun _ _ => rfl, fun _ hx hg => ?_, Nat.le_refl _⟩
    · have := h.base.pool j l (.inl hx); have := nl hl; omega
    · have := h.base.pool j l (.inr (.inl hx)); have := nl hl; omega
    · rcases hx with hx | hx
      · exact absurd hx hj
      · exact (idle hx.1 hx.2).elim
    · exact (idle (by rw [hg]; simp) (by rw [hg]; simp)).elim
end
end Go.Proofs.Ytpfpokjaeffbjab.Cc
namespace Go.Proofs.Ytpfpokjaeffbjab.Cc
open Go.Conc Go.ConcN
open Go.ConcR (KK wgBlock WgAt stA smA rd wr mk DC0)
open Go.ConcM (OsLater)
set_option linter.unusedVariables false
structure SAt (dm num : Nat) (K : List (Nat × Obj)) (st : St Gho) : Prop where
  sc : st.γ.sc = none
  mw : st.γ.mw = .solo
  dm : st.γ.dm = dm
  num : st.γ.num = num
  fz : ∀ b o, (b, o) ∈ K → st.w.heap[b]? = some o ∧ ((∀ off, st.γ.ex 0 (ca b off)) ∨ ∀ off, st.γ.rd 0 (ca b off))
  nd : ∀ b o, (b, o) ∈ K → ¬ st.γ.dead b
section
variable {q : Prm} {s : Scene} {dm num : Nat} {K : List (Nat × Obj)}
theorem SAt.rely {st st₁ : St Gho} (h : SAt dm num K st) (hr : Rl 0 st st₁) : SAt dm num K st₁ := by
  obtain ⟨m1, m2, m3, m4⟩ := hr.main rfl
  refine ⟨(hr.sc (.inl rfl)).trans h.sc, m1.trans h.mw, m2.trans h.dm, m3.trans h.num, fun b o hb => ?_, fun b o hb hx => h.nd b o hb ((m4 b).1 hx)⟩
  obtain ⟨h1, h2⟩ := h.fz b o hb
  exact ⟨(hr.blk (.inl rfl) b h2).trans h1, h2.imp (fun x off => hr.ex (.inl rfl) _ (x off)) fun x off => hr.rd (.inl rfl) _ (x off)⟩
theorem Enter.rely {st st₁ : St Gho} (E : Enter q s st) (hr : Rl 0 st st₁) : Enter q s st₁ := by
  obtain ⟨_, _, m3, m4⟩ := hr.main rfl
  have b1 := hr.blk (.inl rfl) s.Gb (.inl (E.ex _ (.inl rfl)))
  have b2 := hr.blk (.inl rfl) s.Wg (.inl (E.ex _ (.inr (.inl rfl))))
  have b3 := hr.blk (.inl rfl) s.Zb (.inl (E.ex _ (.inr (.inr (.inl rfl)))))
  have b4 := hr.blk (.inl rfl) s.Rb (.inl (E.ex _ (.inr (.inr (.inr rfl)))))
  refine ⟨E.n0.trans m3.symm, E.n9, by rw [b1]; exact E.gb, E.wg.of_block b2, E.zb.block b3 fun _ _ h => h, E.rb.block b4 fun _ _ h => h, E.ne, fun b hb off => hr.ex (.inl rfl) _ (E.ex b hb off), ?_⟩
  obtain ⟨a, b, c⟩ := E.nd
  exact ⟨fun x => a ((m4 _).1 x), fun x => b ((m4 _).1 x), fun x => c ((m4 _).1 x)⟩
theorem TT.enter {P : Program} (hP : q.P = P) {Ch : Nat → Goroutine → St Gho → Prop} {g g' : Goroutine} {st : St Gho} (hA : SAt 0 num K st) (E : Enter q s st) (hK : ∀ b o, (b, o) ∈ K → b ≠ s.Gb ∧ b ≠ s.Wg ∧ b ≠ s.Zb ∧ b ≠ s.Rb) (hstep : ∀ w, stepG P (0 == 0) g w = .go g' w #[]) (hrun : g'.status = .running)
    (h : ∀ st₂, MAt s .sp 0 num K st₂ → Inv q st₂ → TT (cfg q) 0 Ch g' st₂) : TT (cfg q) 0 Ch g st := by
  subst hP
  refine TT.act fun st₁ hr hi => ?_
  have hA₁ := hA.rely hr
  obtain ⟨k1, k2⟩ := hi.enter hA₁.sc hA₁.dm (E.rely hr)
  have e : st₁.t ++ MemOp.ofEvents 0 g.frame.fn g.frame.place #[] = st₁.t := by rw [ofEvents_none, Array.append_empty]
  refine ⟨fun hl => hl.1 rfl, g', st₁.w, #[], enG st₁.γ s, hstep st₁.w, hrun, rfl, by rw [e]; exact ⟨k1, k2⟩, .inr fun k _ hw => absurd hA₁.sc hw.1, h _ ⟨rfl, rfl, hA₁.dm, hA₁.num, fun b o hb => ?_, hA₁.nd⟩ (by rw [e]; exact k1)⟩
  obtain ⟨f1, f2⟩ := hA₁.fz b o hb
  obtain ⟨a1, a2, a3, a4⟩ := hK b o hb
  refine ⟨f1, f2.imp (fun f off => ⟨f off, fun hx => ?_⟩) fun f off => .inl (f off)⟩
  rw [lblk_ca] at hx
  rcases hx with hx | hx | ⟨hx | hx, _⟩
  · exact a1 (Option.some.inj hx)
  · exact a2 (Option.some.inj hx)
  · exact a3 (Option.some.inj hx)
  · exact a4 (Option.some.inj hx)
def GbDone (q : Prm) (s : Scene) (w : World) : Prop := ∃ C : Array Value, w.heap[s.Gb]? = some (.cells C q.tG) ∧ C.size = 16 ∧ C[0]? = some s.g0 ∧ C[1]? = some s.g1 ∧ C[2]? = some s.g2 ∧ ∀ k, 3 ≤ k → k < 16 → ∃ (kk : IntKind) (x : Int), C[k]? = some (.int kk x)
theorem GbAt.done {γ : Gho} {w : World} (h : GbAt q s γ w) : GbDone q s w := by
  obtain ⟨C, h1, h2, h3, h4, h5, h6, h7, h8, h9, _⟩ := h
  refine ⟨C, h1, h2, h3, h4, h5, fun k k1 k2 => ?_⟩
  by_cases e3 : k = 3
  · subst e3; exact ⟨_, _, h6⟩
  by_cases e4 : k = 4
  · subst e4; exact ⟨_, _, h7⟩
  by_cases e5 : k = 5
  · subst e5; exact ⟨_, _, h8⟩
  · obtain ⟨x, hx⟩ := h9 k (by omega) k2
    exact ⟨_, x, hx⟩
theorem TT.join {P : Program} (hP : q.P = P) {Ch : Nat → Goroutine → St Gho → Prop} {g : Goroutine} {st : St Gho} (hA : MAt s .pas 0 num K st)
    (h : ∀ st₁, MAt s .pas 0 num K st₁ → Inv q st₁ → SceneC q s st₁ → ∃ g', stepG P (0 == 0) g st₁.w = .go g' st₁.w #[⟨.mark (.acquire (stA s.Wg)), false, true⟩] ∧ g'.status = .running ∧
      ∀ st₂, SAt 0 num K st₂ → Inv q st₂ → GbDone q s st₂.w →
        (∃ Z : Array Value, st₂.w.heap[s.Zb]? = some (.cells Z q.tZ) ∧ Z.size = s.n ∧ ∀ k, k < s.n → Z[k]? = some (s.zv k)) → (∃ R : Array Value, st₂.w.heap[s.Rb]? = some (.cells R q.tR) ∧ R.size = s.n ∧ ∀ k, k < s.n → R[k]? = some (s.rv k)) →
        (∀ l b, l.isMemory = true → lblk l = some b → b < st₂.w.heap.size → ¬ st₂.γ.dead b → st₂.γ.ex 0 l) → ¬ st₂.γ.dead s.Gb → ¬ st₂.γ.dead s.Zb → ¬ st₂.γ.dead s.Rb → TT (cfg q) 0 Ch g' st₂) : TT (cfg q) 0 Ch g st := by
  subst hP
  refine TT.act fun st₁ hr hi => ?_
  have hA₁ := hA.rely hr
  have c := (hi.scene s hA₁.sc).c
  obtain ⟨g', h1, h2, h3⟩ := h st₁ hA₁ hi c
  obtain ⟨k1, k2⟩ := hi.join hA₁.sc hA₁.mw hA₁.dm g.frame.fn g.frame.place
  obtain ⟨hnum, lv⟩ := pas_lv c hA₁.mw
  have fin := fun j a b => c.fin j a (by rcases lv j a b with e | e <;> rw [e] <;> simp) (by rcases lv j a b with e | e <;> rw [e] <;> simp)
  obtain ⟨nd1, nd2, nd3⟩ := hi.base.dsc s hA₁.sc
  refine ⟨fun hl => hl.1 rfl, g', st₁.w, _, jnG st₁.γ s st₁.w.heap.size, h1, h2, rfl, ⟨k1, k2⟩, .inr fun k hk hw => ?_, h3 _ ⟨rfl, rfl, hA₁.dm, hA₁.num, fun b o hb => ?_, fun b o hb hx => hx.elim (hA₁.nd b o hb) (hA₁.apart hi hb).2.1⟩ k1 c.gb.done ?_ ?_ (fun l b m1 m2 m3 m4 => ⟨rfl, m1, b, m2, m3, fun hx => m4 (.inl hx), fun hx => m4 (.inr hx)⟩) (fun hx => hx.elim nd1 c.ne.1) (fun hx => hx.elim nd2 c.ne.2.2.2.1.symm) fun hx => hx.elim nd3 c.ne.2.2.2.2.1.symm⟩
  · obtain ⟨_, w2⟩ := hw
    rcases w2 with ⟨a, _⟩ | ⟨a, b, d, f⟩
    · exact absurd a hk
    · exfalso
      by_cases hlt : k < st₁.γ.num
      · rcases Nat.lt_or_ge k s.n0 with h0 | h0
        · rcases hi.base.old k (by omega) (by unfold Gho.old; rw [hA₁.sc]; exact h0) with e | e <;> rw [f] at e <;> cases e
        · rcases lv k h0 hlt with e | e <;> rw [f] at e <;> cases e
      · rw [hi.base.nw k (by omega)] at f; cases f
  · obtain ⟨f1, f2⟩ := hA₁.fz b o hb
    obtain ⟨a1, a2, a3, a4⟩ := hA₁.apart hi hb
    exact ⟨f1, .inl fun off => ⟨rfl, rfl, b, rfl, lt_of_block f1, hA₁.nd b o hb, a2⟩⟩
  · obtain ⟨Z, z1, z2, _, z4⟩ := c.zb
    exact ⟨Z, z1, z2, fun k hk => z4 k hk (fin _ (by omega) (by omega)).1⟩
  · obtain ⟨Z, z1, z2, _, z4⟩ := c.rb
    exact ⟨Z, z1, z2, fun k hk => z4 k hk (fin _ (by omega) (by omega)).2.1⟩
theorem TT.msem {P : Program} (hP : q.P = P) {Ch : Nat → Goroutine → St Gho → Prop} {g g' : Goroutine} {st : St Gho} (hA : MAt s .rg 1 num K st) (hnum : num = s.n0 + s.n) (hoff : g.offers = none) (hs : g'.status = .running)
    (hblk : ∀ w : World, w.cell? (smA s.Wg) = some (.int .u32 0) → stepG P (0 == 0) g w = .go { g with status := .blocked } w #[])
    (hgo : ∀ w : World, w.cell? (smA s.Wg) = some (.int .u32 1) → w.frozen? (smA s.Wg) = false → stepG P (0 == 0) g w = .go g' (w.setCell (smA s.Wg) (.int .u32 0)) (semEvents (smA s.Wg)))
    (h : ∀ st₂, MAt s .pas 1 num K st₂ → Inv q st₂ → TT (cfg q) 0 Ch g' st₂) : TT (cfg q) 0 Ch g st := by
  subst hP
  refine TT.step fun st₁ hr hi => ⟨fun hl => absurd rfl hl.1, ?_⟩
  have hr : Rl 0 st st₁ := hr
  have hi : Inv q st₁ := hi
  have hA₁ := hA.rely hr
  have c := (hi.scene s hA₁.sc).c
  have hL := c.wgl
  rw [hA₁.mw] at hL
  by_cases h0 : st₁.γ.gm = 0
  · have cell := c.wgb.cellSm
    rw [h0] at cell
    unfold StepK
    rw [show stepG (cfg q).P (0 == 0) g st₁.w = _ from hblk st₁.w cell]
    exact .inl ⟨rfl, hoff, rfl, rfl, by rw [hA₁.sc]; simp, .inl ⟨rfl, hA₁.mw, h0⟩⟩
  · obtain ⟨h1, h2, h3, h4, h5, h6⟩ : cntW WG.cd st₁.γ s = 0 ∧ st₁.γ.gs = 0 ∧ st₁.γ.gm = 1 ∧ cntW (· == .d2) st₁.γ s = 0 ∧ cntW (· == .d3) st₁.γ s = 0 ∧ cntW (· == .d4) st₁.γ s = 0 := by
      rcases hL with x | x | x | x
      · exact absurd x.2.2.1 h0
      · exact absurd x.2.2.1 h0
      · exact absurd x.2.2.1 h0
      · exact x
    have hw := c.wgb
    rw [h2, h3] at hw
    have hstep := hgo st₁.w hw.cellSm (hw.thaw 1)
    have W := aside_setCell st₁.w (smA s.Wg) (.int .u32 0)
    have hev : ∀ e ∈ semEvents (smA s.Wg), EvM s e := by
      intro e he
      unfold semEvents at he
      simp at he
      rcases he with rfl | rfl | rfl | rfl
      · exact .inl ⟨.disable, rfl, by simp⟩
      · exact .inr (.inl ⟨1, false, rfl, by omega⟩)
      · exact .inr (.inl ⟨1, true, rfl, by omega⟩)
      · exact .inl ⟨.enable, rfl, by simp⟩
    obtain ⟨k1, k2⟩ := hi.mwg hA₁.sc (mw₁ := .pas) (gs₁ := 0) (gm₁ := 0) hev W.size (fun b hb => W.block b hb) (by rw [W.os]; exact .refl _) W.output (hw.setSm 0) (by simp) (fun _ => hA₁.num.trans hnum) ⟨h1, rfl, rfl, h4, h5, h6⟩ g.frame.fn g.frame.place
    have hdb : deafBehind st₁.γ.dm (semEvents (smA s.Wg)) = 1 := by rw [hA₁.dm]; rfl
    refine StepK.own (C := cfg q) (γ' := { st₁.γ with mw := .pas, dm := deafBehind st₁.γ.dm (semEvents (smA s.Wg)), gs := 0, gm := 0 }) hstep hs k1 rfl k2 (.inr fun k hk hw => ?_) (h _ (hA₁.next hi rfl rfl hdb rfl (fun _ h => h) (fun _ h => h) (fun _ h => h) fun b _ hb _ _ _ => W.block b hb) k1)
    obtain ⟨w1, w2⟩ := hw
    exact ⟨w1, w2.imp (fun ⟨a, _⟩ => absurd a hk) id⟩
theorem TT.mroad {P : Program} (hP : q.P = P) {Ch : Nat → Goroutine → St Gho → Prop} {mw : MW} {g : Goroutine} {st : St Gho} (hA : MAt s mw dm num K st) (n : Nat)
    (h : ∀ w : World, (∃ v, w.cell? ⟨s.Wg, 0, none⟩ = some v) ∧ (∃ v, w.cell? ⟨s.Wg, 1, none⟩ = some v) → Goes P (0 == 0) (fun _ w₁ => (∃ v, w₁.cell? ⟨s.Wg, 0, none⟩ = some v) ∧ ∃ v, w₁.cell? ⟨s.Wg, 1, none⟩ = some v) DC0 (fun g' _ => g'.status = .running ∧ TT (cfg q) 0 Ch g' st) n g w) : TT (cfg q) 0 Ch g st := by
  subst hP
  exact TT.step fun st₁ hr hi => by
    have hr : Rl 0 st st₁ := hr
    have hi : Inv q st₁ := hi
    have f : ∀ st₁, Rl 0 st st₁ → Inv q st₁ → (∃ v, st₁.w.cell? ⟨s.Wg, 0, none⟩ = some v) ∧ ∃ v, st₁.w.cell? ⟨s.Wg, 1, none⟩ = some v := fun st₁ hr hi => ⟨⟨_, ((hi.scene s (hA.rely hr).sc).c.wgb.cellSt)⟩, ⟨_, ((hi.scene s (hA.rely hr).sc).c.wgb.cellSm)⟩⟩
    exact (TT.walk (C := cfg q) cfg_ok (F := fun w₁ => (∃ v, w₁.cell? ⟨s.Wg, 0, none⟩ = some v) ∧ ∃ v, w₁.cell? ⟨s.Wg, 1, none⟩ = some v) f (fun st₁ hr hi hl => hl.1 rfl) n g st₁.w (h st₁.w (f st₁ hr hi))).elim st₁ hr hi
theorem mroad_rely {s : Scene} {w₀ w₁ : World} (_ : (∃ v, w₀.cell? ⟨s.Wg, 0, none⟩ = some v) ∧ ∃ v, w₀.cell? ⟨s.Wg, 1, none⟩ = some v) (r : (∃ v, w₁.cell? ⟨s.Wg, 0, none⟩ = some v) ∧ ∃ v, w₁.cell? ⟨s.Wg, 1, none⟩ = some v) : (∃ v, w₁.cell? ⟨s.Wg, 0, none⟩ = some v) ∧ ∃ v, w₁.cell? ⟨s.Wg, 1, none⟩ = some v := r
def AnyW (w : World) : Prop := True
theorem TT.sroad {P : Program} (hP : q.P = P) {Ch : Nat → Goroutine → St Gho → Prop} {g : Goroutine} {st : St Gho} (n : Nat) (h : ∀ w : World, AnyW w → Goes P (0 == 0) (fun _ w₁ => AnyW w₁) DC0 (fun g' _ => g'.status = .running ∧ TT (cfg q) 0 Ch g' st) n g w) : TT (cfg q) 0 Ch g st := by
  subst hP
  exact TT.step fun st₁ hr hi => (TT.walk (C := cfg q) cfg_ok (F := fun w₁ => AnyW w₁) (fun _ _ _ => trivial) (fun st₁ hr hi hl => hl.1 rfl) n g st₁.w (h st₁.w trivial)).elim st₁ hr hi
theorem sroad_rely {w₀ w₁ : World} (_ : AnyW w₀) (r : AnyW w₁) : AnyW w₁ := r
end
end Go.Proofs.Ytpfpokjaeffbjab.Cc
