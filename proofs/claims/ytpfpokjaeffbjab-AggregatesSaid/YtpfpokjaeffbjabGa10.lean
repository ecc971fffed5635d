/- Part of the proof: Mu, Bits, Mu2, Gen, Onc1. -/
import Derived.Test.YtpfpokjaeffbjabGa9
import Derived.Test.YtpfpokjaeffbjabGa2
import Derived.Conc.MuWords
namespace Go.Proofs.Ytpfpokjaeffbjab.Cc
open Go.Conc Go.ConcN
open Go.ConcR (KK wgBlock WgAt stA smA rd wr mk DC0)
open Go.ConcM (OsLater)
set_option linter.unusedVariables false
structure At (s : Scene) (i : Nat) (x : Wk) (st : St Gho) : Prop where
  ne : i ≠ 0
  sc : st.γ.sc = some s
  lo : s.n0 ≤ i
  lt : i < st.γ.num
  me : st.γ.wk i = x
  fz : ∀ b o, (b, o) ∈ x.keep → st.w.heap[b]? = some o ∧ ∀ off, st.γ.rd i (ca b off)
section
variable {q : Prm} {i : Nat} {s : Scene} {x : Wk}
theorem At.rely {st st₁ : St Gho} (h : At s i x st) (hx : x.wg ≠ .lv ∧ x.wg ≠ .gone ∧ x.wg ≠ .idle) (hr : Rl i st st₁) (hi : Inv q st₁) : At s i x st₁ := by
  have e1 : st₁.γ.sc = some s := (hr.sc (.inr (by rw [h.me]; exact hx))).trans h.sc
  have e2 : st₁.γ.wk i = x := (hr.me h.ne).trans h.me
  have hl : Live i st := .inr (by rw [h.me]; exact ⟨hx.1, hx.2.1⟩)
  refine ⟨h.ne, e1, h.lo, Nat.lt_of_not_le fun hge => ?_, e2, fun b o hb => ⟨(hr.blk hl b (.inr (h.fz b o hb).2)).trans (h.fz b o hb).1, fun off => hr.rd hl _ ((h.fz b o hb).2 off)⟩⟩
  have := (hi.scene s e1).c.new i hge
  rw [e2] at this
  rw [this] at hx
  exact hx.2.2 rfl
theorem At.hi {st : St Gho} (h : At s i x st) (hi : Inv q st) : i < s.n0 + s.n := by
  have := (hi.scene s h.sc).c.n0
  have := h.lt
  omega
theorem At.apart {st : St Gho} (h : At s i x st) (hi : Inv q st) {b : Nat} {o : Obj} (hb : (b, o) ∈ x.keep) : b ≠ s.Gb ∧ b ≠ s.Wg ∧ b ≠ s.Zb ∧ b ≠ s.Rb := by
  have p := (hi.scene s h.sc).p.spec i
  have hr := (h.fz b o hb).2
  refine ⟨fun e => ?_, fun e => ?_, fun e => ?_, fun e => ?_⟩
  · obtain ⟨_, o', ho⟩ := p s.Gb (.inl rfl); exact ho (e ▸ hr o')
  · obtain ⟨_, o', ho⟩ := p s.Wg (.inr (.inl rfl)); exact ho (e ▸ hr o')
  · obtain ⟨_, o', ho⟩ := p s.Zb (.inr (.inr (.inl rfl))); exact ho (e ▸ hr o')
  · obtain ⟨_, o', ho⟩ := p s.Rb (.inr (.inr (.inr rfl))); exact ho (e ▸ hr o')
theorem At.next {st st₂ : St Gho} (h : At s i x st) (hi : Inv q st) {x' : Wk} (hk : x'.keep = x.keep) (hsc : st₂.γ.sc = st.γ.sc) (hnum : st₂.γ.num = st.γ.num) (hme : st₂.γ.wk i = x') (hrd : ∀ l, st.γ.rd i l → st₂.γ.rd i l) (hb : ∀ b, b ≠ s.Gb → b ≠ s.Wg → b ≠ s.Zb → b ≠ s.Rb → st₂.w.heap[b]? = st.w.heap[b]?) : At s i x' st₂ := by
  refine ⟨h.ne, hsc.trans h.sc, h.lo, by rw [hnum]; exact h.lt, hme, fun b o hbo => ?_⟩
  rw [hk] at hbo
  obtain ⟨a1, a2, a3, a4⟩ := h.apart hi hbo
  exact ⟨(hb b a1 a2 a3 a4).trans (h.fz b o hbo).1, fun off => hrd _ ((h.fz b o hbo).2 off)⟩
theorem At.mem {st : St Gho} (h : At s i x st) : Mem s st.γ i := .inr ⟨h.lo, h.lt⟩
theorem At.notLv {st : St Gho} (h : At s i x st) (hx : x.wg ≠ .lv ∧ x.wg ≠ .gone) : ¬ Lvs i st := fun hl => by
  have := hl.2
  rw [h.me] at this
  exact this.elim hx.1 hx.2
def Gho.setMu (γ : Gho) (i : Nat) (x : Wk) (L W S N tn th : Nat) : Gho := { γ with wk := upd γ.wk i x, L := L, W := W, S := S, N := N, tn := tn, th := th }
theorem setMu_mm (γ : Gho) (i : Nat) (x : Wk) (L W S N tn th : Nat) : (γ.setMu i x L W S N tn th).mm = upd γ.mm i x.mx := by
  funext j
  unfold Gho.mm Gho.setMu upd
  by_cases e : j = i <;> simp [e]
theorem cntW_same {p : WG → Bool} {γ γ' : Gho} (h : ∀ j, (γ'.wk j).wg = (γ.wk j).wg) (s : Scene) : cntW p γ' s = cntW p γ s := by
  unfold cntW
  simp only [h]
theorem psi_same {γ γ' : Gho} (h : ∀ j, (γ'.wk j).wg = (γ.wk j).wg) (s : Scene) : psi γ' s = psi γ s := by
  unfold psi
  simp only [h]
theorem GbAt.of {γ γ' : Gho} {w w' : World} (h : GbAt q s γ w) (hb : w'.heap[s.Gb]? = w.heap[s.Gb]?) (hD : γ'.D = γ.D) (hw : γ'.L = γ.L ∧ γ'.W = γ.W ∧ γ'.S = γ.S ∧ γ'.N = γ.N) (ht : γ'.tn + γ'.th = γ.tn + γ.th) : GbAt q s γ' w' := by
  unfold GbAt at h ⊢
  rw [hb, hD, hw.1, hw.2.1, hw.2.2.1, hw.2.2.2, ht]
  exact h
theorem GbAt.cell {γ : Gho} {w : World} (h : GbAt q s γ w) : w.cell? ⟨s.Gb, 3, none⟩ = some (.int .u32 γ.D) ∧ w.cell? ⟨s.Gb, 4, none⟩ = some (.int .i32 (enc γ.L γ.W γ.S γ.N)) ∧ w.cell? ⟨s.Gb, 5, none⟩ = some (.int .u32 ((γ.tn + γ.th : Nat) : Int)) ∧ ∀ off, w.frozen? ⟨s.Gb, off, none⟩ = false := by
  obtain ⟨C, h1, h2, h3, h4, h5, h6, h7, h8, h9⟩ := h
  refine ⟨?_, ?_, ?_, fun off => ?_⟩
  · simp [World.cell?, h1, h6]
  · simp [World.cell?, h1, h7]
  · simp [World.cell?, h1, h8]
  · simp [World.frozen?, h1]
theorem gb_set {w : World} {C : Array Value} (h : w.heap[s.Gb]? = some (.cells C q.tG)) (off : Nat) (v : Value) : (w.setCell ⟨s.Gb, off, none⟩ v).heap[s.Gb]? = some (.cells (C.setIfInBounds off v) q.tG) := by
  rw [setCell_eq_setRow w s.Gb off C q.tG (0, 0) v h, setRow_heap w s.Gb _ _ q.tG _ h]
theorem GbAt.set4 {γ : Gho} {w : World} (h : GbAt q s γ w) {γ' : Gho} (hD : γ'.D = γ.D) (ht : γ'.tn + γ'.th = γ.tn + γ.th) {v : Int} (hv : v = enc γ'.L γ'.W γ'.S γ'.N) : GbAt q s γ' (w.setCell ⟨s.Gb, 4, none⟩ (.int .i32 v)) := by
  obtain ⟨C, h1, h2, h3, h4, h5, h6, h7, h8, h9, h10⟩ := h
  refine ⟨_, gb_set h1 4 _, by simpa using h2, ?_, ?_, ?_, ?_, ?_, ?_, fun k k1 k2 => ?_, fun e id i1 i2 => ?_⟩
  · rw [Array.getElem?_setIfInBounds_ne (by omega)]; exact h3
  · rw [Array.getElem?_setIfInBounds_ne (by omega)]; exact h4
  · rw [Array.getElem?_setIfInBounds_ne (by omega)]; exact h5
  · rw [Array.getElem?_setIfInBounds_ne (by omega), hD]; exact h6
  · rw [Array.getElem?_setIfInBounds_self_of_lt (by omega), hv]
  · rw [Array.getElem?_setIfInBounds_ne (by omega), ht]; exact h8
  · rw [Array.getElem?_setIfInBounds_ne (by omega)]; exact h9 k k1 k2
  · rw [Array.getElem?_setIfInBounds_ne (by omega)]; exact h10 (by omega) id i1 i2
theorem GbAt.set5 {γ : Gho} {w : World} (h : GbAt q s γ w) {γ' : Gho} (hD : γ'.D = γ.D) (hw : γ'.L = γ.L ∧ γ'.W = γ.W ∧ γ'.S = γ.S ∧ γ'.N = γ.N) {v : Int} (hv : v = ((γ'.tn + γ'.th : Nat) : Int)) : GbAt q s γ' (w.setCell ⟨s.Gb, 5, none⟩ (.int .u32 v)) := by
  obtain ⟨C, h1, h2, h3, h4, h5, h6, h7, h8, h9, h10⟩ := h
  refine ⟨_, gb_set h1 5 _, by simpa using h2, ?_, ?_, ?_, ?_, ?_, ?_, fun k k1 k2 => ?_, fun e id i1 i2 => ?_⟩
  · rw [Array.getElem?_setIfInBounds_ne (by omega)]; exact h3
  · rw [Array.getElem?_setIfInBounds_ne (by omega)]; exact h4
  · rw [Array.getElem?_setIfInBounds_ne (by omega)]; exact h5
  · rw [Array.getElem?_setIfInBounds_ne (by omega), hD]; exact h6
  · rw [Array.getElem?_setIfInBounds_ne (by omega), hw.1, hw.2.1, hw.2.2.1, hw.2.2.2]; exact h7
  · rw [Array.getElem?_setIfInBounds_self_of_lt (by omega), hv]
  · rw [Array.getElem?_setIfInBounds_ne (by omega)]; exact h9 k k1 k2
  · rw [Array.getElem?_setIfInBounds_ne (by omega)]; exact h10 (by omega) id i1 i2
structure MuEff (s : Scene) (w w' : World) : Prop where
  size : w'.heap.size = w.heap.size
  blk : ∀ b, b ≠ s.Gb → w'.heap[b]? = w.heap[b]?
  sh : ∀ off, 6 ≤ off → off < 16 → w'.cell? ⟨s.Gb, off, none⟩ = w.cell? ⟨s.Gb, off, none⟩
  os : OsLater w.os w'.os
  out : w'.output = w.output
theorem MuEff.refl (w : World) : MuEff s w w := ⟨rfl, fun _ _ => rfl, fun _ _ _ => rfl, .refl _, rfl⟩
theorem MuEff.later (w : World) : MuEff s w w.later := ⟨rfl, fun _ _ => rfl, fun _ _ _ => rfl, ⟨w.tick, rfl⟩, rfl⟩
theorem MuEff.asked (w : World) : MuEff s w w.asked := ⟨rfl, fun _ _ => rfl, fun _ _ _ => rfl, .refl _, rfl⟩
theorem MuEff.set (w : World) (off : Nat) (v : Value) (h : off < 6) : MuEff s w (w.setCell ⟨s.Gb, off, none⟩ v) :=
  have A := aside_setCell w ⟨s.Gb, off, none⟩ v
  ⟨A.size, fun b hb => A.block b hb, fun o o1 o2 => World.cell?_setCell_other _ ⟨s.Gb, off, none⟩ ⟨s.Gb, o, none⟩ _ (by simp; omega), by rw [A.os]; exact .refl _, A.output⟩
theorem Inv.mu {st : St Gho} (h : Inv q st) (hA : At s i x st) (hx : x.wg = .work) {x' : Wk} (hx' : x' = { x with mx := x'.mx, df := x'.df }) {es : Array Event} (hdf : x'.df = deafBehind x.df es)
    (n1 : x.mx ≠ .own .work) (n2 : x'.mx ≠ .own .work) (n3 : x'.mx = .own .dn → st.γ.D = 1) {L W S N tn th : Nat} (hm : MuI (upd st.γ.mm i x'.mx) s.n0 s.n L W S N tn th) {w' : World} (hG : GbAt q s (st.γ.setMu i x' L W S N tn th) w') (hE : MuEff s st.w w')
    (hp : crd x'.mx + 3 * (tn + th) < crd x.mx + 3 * (st.γ.tn + st.γ.th) ∨ (crd x'.mx + 3 * (tn + th) = crd x.mx + 3 * (st.γ.tn + st.γ.th) ∧ L = st.γ.L ∧ W = st.γ.W ∧ S = st.γ.S ∧ N = st.γ.N)) (hN : st.γ.N ≤ N ∨ ∀ j, j ≠ i → s.n0 ≤ j → j < s.n0 + s.n → (st.γ.wk j).mx ≠ .woken true) (hev : ∀ e ∈ es, EvS s i e ∧ e ≠ ⟨ca s.Gb 3, true, true⟩) (fn : FuncId) (pos : String) :
    (Inv q ⟨w', st.t ++ MemOp.ofEvents i fn pos es, st.γ.setMu i x' L W S N tn th⟩ ∧ ∀ j, j ≠ i → Rl j st ⟨w', st.t ++ MemOp.ofEvents i fn pos es, st.γ.setMu i x' L W S N tn th⟩) ∧
      phi (st.γ.setMu i x' L W S N tn th) s + crd x.mx + 3 * (st.γ.tn + st.γ.th) = phi st.γ s + crd x'.mx + 3 * (tn + th) := by
  have X := h.scene s hA.sc
  have hi2 := hA.hi h
  have e1 : x'.wg = .work := by rw [hx']; exact hx
  have e2 : x'.zw = x.zw := by rw [hx']
  have e3 : x'.rw = x.rw := by rw [hx']
  have e4 : x'.syn = x.syn := by rw [hx']
  have hwk : ∀ j, (st.γ.setMu i x' L W S N tn th).wk j = if j = i then x' else st.γ.wk j := fun j => rfl
  have hwg : ∀ j, ((st.γ.setMu i x' L W S N tn th).wk j).wg = (st.γ.wk j).wg := fun j => by
    rw [hwk]; split
    · rename_i e; subst e; rw [hA.me, hx, e1]
    · rfl
  have hzw : ∀ j, ((st.γ.setMu i x' L W S N tn th).wk j).zw = (st.γ.wk j).zw := fun j => by
    rw [hwk]; split
    · rename_i e; subst e; rw [hA.me, e2]
    · rfl
  have hrw : ∀ j, ((st.γ.setMu i x' L W S N tn th).wk j).rw = (st.γ.wk j).rw := fun j => by
    rw [hwk]; split
    · rename_i e; subst e; rw [hA.me, e3]
    · rfl
  have hsyn : ∀ j, ((st.γ.setMu i x' L W S N tn th).wk j).syn = (st.γ.wk j).syn := fun j => by
    rw [hwk]; split
    · rename_i e; subst e; rw [hA.me, e4]
    · rfl
  have hmx : ∀ j, j ≠ i → ((st.γ.setMu i x' L W S N tn th).wk j).mx = (st.γ.wk j).mx := fun j hj => by rw [hwk, if_neg hj]
  have hmxi : ((st.γ.setMu i x' L W S N tn th).wk i).mx = x'.mx := by rw [hwk, if_pos rfl]
  have hwork : ∀ j, ((st.γ.setMu i x' L W S N tn th).wk j).mx = .own .work → (st.γ.wk j).mx = .own .work := fun j hj => by
    by_cases e : j = i
    · subst e; rw [hmxi] at hj; exact absurd hj n2
    · rwa [hmx j e] at hj
  have hphi : phi (st.γ.setMu i x' L W S N tn th) s + crd x.mx + 3 * (st.γ.tn + st.γ.th) = phi st.γ s + crd x'.mx + 3 * (tn + th) := by
    have := pot_upd st.γ.mm (a := s.n0) s.n x'.mx (st.γ.tn + st.γ.th) (tn + th) hA.lo hi2
    unfold phi
    rw [setMu_mm]
    have e : crd (st.γ.mm i) = crd x.mx := by unfold Gho.mm; rw [hA.me]
    show pot (upd st.γ.mm i x'.mx) s.n0 s.n (tn + th) + _ + _ = _
    omega
  have c := X.c
  refine ⟨h.act hA.sc hA.mem (γ' := st.γ.setMu i x' L W S N tn th) ⟨rfl, rfl, rfl, rfl, rfl, rfl⟩ (fun e he => (hev e he).1) (fun e he => (hev e he).2) hE.size (fun b hb _ => hE.blk b hb) hE.sh hE.os hE.out (fun j hj => by rw [hwk, if_neg hj]) (fun _ => ⟨rfl, rfl⟩) (fun e => absurd e hA.ne) (fun _ => ?_) ?_ ?_ rfl (fun hn j hj => ?_) (fun hw _ => by rw [hwg] at hw; exact hw) (fun _ hw => absurd (by rw [hA.me]; exact hx) hw) ?_ (fun _ => ?_) hN, hphi⟩
  · rw [hwk, if_pos rfl, hA.me]; exact ⟨hdf, by rw [e1]; simp⟩
  · refine ⟨c.n0, hG, c.wgb.of_block (hE.blk _ c.ne.1.symm), ?_, ?_, c.ne, by rw [show (St.mk w' (st.t ++ MemOp.ofEvents i fn pos es) (st.γ.setMu i x' L W S N tn th)).γ.mm = upd st.γ.mm i x'.mx from setMu_mm ..]; exact hm, c.D1, fun j hj => c.work j (hwork j hj), fun j hj => ?_, fun j h0 hj => c.syn j h0 (by rw [← hsyn j]; exact hj), fun j hj => ?_, fun j h1 h2 => ?_, fun j h1 h2 h3 => ?_, c.all, ?_⟩
    · obtain ⟨Z, z1, z2, z3, z4⟩ := c.zb
      exact ⟨Z, (hE.blk _ c.ne.2.1.symm).trans z1, z2, z3, fun k k1 k2 => z4 k k1 ((hzw _).symm.trans k2)⟩
    · obtain ⟨Z, z1, z2, z3, z4⟩ := c.rb
      exact ⟨Z, (hE.blk _ c.ne.2.2.1.symm).trans z1, z2, z3, fun k k1 k2 => z4 k k1 ((hrw _).symm.trans k2)⟩
    · by_cases e : j = i
      · subst e
        have hj : ((st.γ.setMu j x' L W S N tn th).wk j).mx = .own .dn := hj
        rw [hmxi] at hj
        exact n3 hj
      · have hj : ((st.γ.setMu i x' L W S N tn th).wk j).mx = .own .dn := hj
        rw [hmx j e] at hj; exact c.dn j hj
    · have hne : j ≠ i := by have := hA.lt; have hj : st.γ.num ≤ j := hj; omega
      show (st.γ.setMu i x' L W S N tn th).wk j = .new
      rw [hwk, if_neg hne]
      exact c.new j hj
    · show ((st.γ.setMu i x' L W S N tn th).wk j).wg ≠ .idle
      rw [hwg]; exact c.on j h1 h2
    · have h2 : ((st.γ.setMu i x' L W S N tn th).wk j).wg ≠ .idle := h2
      have h3 : ((st.γ.setMu i x' L W S N tn th).wk j).wg ≠ .work := h3
      rw [hwg] at h2 h3
      have hne : j ≠ i := fun e => h3 (by rw [e, hA.me]; exact hx)
      show ((st.γ.setMu i x' L W S N tn th).wk j).zw = true ∧ ((st.γ.setMu i x' L W S N tn th).wk j).rw = true ∧ (((st.γ.setMu i x' L W S N tn th).wk j).mx = .fresh ∨ _ = _)
      rw [hwk, if_neg hne]
      exact c.fin j h1 h2 h3
    · show WgL st.γ.mw (cntW WG.cd (st.γ.setMu i x' L W S N tn th) s) (cntW (· == .d2) (st.γ.setMu i x' L W S N tn th) s) (cntW (· == .d3) (st.γ.setMu i x' L W S N tn th) s) (cntW (· == .d4) (st.γ.setMu i x' L W S N tn th) s) st.γ.gs st.γ.gm
      rw [cntW_same hwg, cntW_same hwg, cntW_same hwg, cntW_same hwg]
      exact c.wgl
  · have p := X.p
    refine ⟨p.spec, fun k k1 k2 k3 => p.exZ k k1 k2 (by rw [← hwg]; exact k3), p.exM, p.rdG, p.shG, fun j hj => p.exS j (hwork j hj), fun j h0 hj => p.rdS j h0 (by rw [← hsyn]; exact hj), fun hn => p.noS fun j hj => ?_⟩
    by_cases e : j = i
    · subst e; rw [hA.me] at hj; exact n1 hj
    · exact hn j (by rw [hmx j e]; exact hj)
  · by_cases e : j = i
    · subst e; rw [hA.me] at hj; exact n1 hj
    · exact hn j (by rw [hmx j e]; exact hj)
  · refine ⟨by omega, fun e => ?_⟩
    rcases hp with hp | hp
    · omega
    · exact ⟨hp.2.1, hp.2.2.1, hp.2.2.2.1, hp.2.2.2.2⟩
  · rw [psi_same hwg]
    exact ⟨Nat.le_refl _, fun _ => rfl⟩
theorem wt_mu {st st' : St Gho} (hsc : st'.γ.sc = st.γ.sc) (hmw : st'.γ.mw = st.γ.mw) (hgm : st'.γ.gm = st.γ.gm) (htok : st'.γ.tn + st'.γ.th ≤ st.γ.tn + st.γ.th) {i : Nat} (hwk : ∀ k, k ≠ i → st'.γ.wk k = st.γ.wk k) : ∀ k, k ≠ i → Wt k st → Wt k st' := fun k hk hw => by
  obtain ⟨h1, h2⟩ := hw
  refine ⟨by rw [hsc]; exact h1, h2.imp (fun ⟨a, b, c⟩ => ⟨a, hmw.trans b, hgm.trans c⟩) fun ⟨a, b, c, d⟩ => ⟨a, by rw [hwk k hk]; exact b, by omega, by rw [hwk k hk]; exact d⟩⟩
variable {Ch : Nat → Goroutine → St Gho → Prop}
theorem TT.mu {P : Program} (hP : q.P = P) {g : Goroutine} {st : St Gho} (hA : At s i x st) (hx : x.wg = .work) {mx : MX} (hmx : x.mx = mx) (n1 : mx ≠ .own .work)
    (h : ∀ st₁, At s i x st₁ → Inv q st₁ → SceneC q s st₁ → phi st₁.γ s ≤ phi st.γ s → (phi st₁.γ s = phi st.γ s → st₁.γ.L = st.γ.L ∧ st₁.γ.W = st.γ.W ∧ st₁.γ.S = st.γ.S ∧ st₁.γ.N = st.γ.N) → (st.γ.D = 1 → st₁.γ.D = 1) → (mx = .woken true → st.γ.N ≤ st₁.γ.N) →
      ∃ g' w' es mx' df' L W S N tn th, stepG P (i == 0) g st₁.w = .go g' w' es ∧ g'.status = .running ∧ df' = deafBehind x.df es ∧ mx' ≠ .own .work ∧ (mx' = .own .dn → st₁.γ.D = 1) ∧
        MuI (upd st₁.γ.mm i mx') s.n0 s.n L W S N tn th ∧ GbAt q s (st₁.γ.setMu i { x with mx := mx', df := df' } L W S N tn th) w' ∧ MuEff s st₁.w w' ∧
        (crd mx' + 3 * (tn + th) < crd mx + 3 * (st₁.γ.tn + st₁.γ.th) ∨ (crd mx' + 3 * (tn + th) = crd mx + 3 * (st₁.γ.tn + st₁.γ.th) ∧ L = st₁.γ.L ∧ W = st₁.γ.W ∧ S = st₁.γ.S ∧ N = st₁.γ.N)) ∧ (st₁.γ.N ≤ N ∨ ∀ j, j ≠ i → s.n0 ≤ j → j < s.n0 + s.n → (st₁.γ.wk j).mx ≠ .woken true) ∧
        (∀ e ∈ es, EvS s i e ∧ e ≠ ⟨ca s.Gb 3, true, true⟩) ∧ (mayWake P g = true ∨ tn + th ≤ st₁.γ.tn + st₁.γ.th) ∧
        ∀ st₂, At s i { x with mx := mx', df := df' } st₂ → Inv q st₂ → st₂.w = w' → st₂.γ.L = L ∧ st₂.γ.W = W ∧ st₂.γ.S = S ∧ st₂.γ.N = N → st₂.γ.D = st₁.γ.D → phi st₂.γ s + crd mx + 3 * (st₁.γ.tn + st₁.γ.th) = phi st₁.γ s + crd mx' + 3 * (tn + th) → TT (cfg q) i Ch g' st₂) :
    TT (cfg q) i Ch g st := by
  subst hP hmx
  exact TT.act fun st₁ hr hi => by
    have hA1 := hA.rely (by rw [hx]; simp) hr hi
    obtain ⟨p1, p2, p3⟩ := hr.phi hA.ne (by rw [hA.me, hx]; simp) (by rw [hA.me, hx]; simp) s hA.sc
    obtain ⟨g', w', es, mx', df', L, W, S, N, tn, th, h1, h2, h3, h4, h5, h6, h7, h8, h9, h9', h10, h11, h12⟩ := h st₁ hA1 hi (hi.scene s hA1.sc).c p1 p2 p3 fun e => hr.hand hA.ne (by rw [hA.me]; exact e) (by rw [hA.me]; exact hx)
    obtain ⟨⟨k1, k2⟩, k3⟩ := hi.mu hA1 hx (x' := { x with mx := mx', df := df' }) rfl h3 n1 h4 h5 h6 h7 h8 h9 h9' h10 g.frame.fn g.frame.place
    refine ⟨hA1.notLv (by rw [hx]; simp), g', w', es, st₁.γ.setMu i { x with mx := mx', df := df' } L W S N tn th, h1, h2, rfl, ⟨k1, k2⟩, ?_, h12 _ (hA1.next hi rfl rfl rfl (by simp [Gho.setMu, upd]) (fun _ h => h) fun b a1 _ _ _ => h8.blk b a1) k1 rfl ⟨rfl, rfl, rfl, rfl⟩ rfl k3⟩
    exact h11.imp id fun (ht : tn + th ≤ st₁.γ.tn + st₁.γ.th) => wt_mu (st := st₁) (st' := ⟨w', st₁.t ++ MemOp.ofEvents i g.frame.fn g.frame.place es, st₁.γ.setMu i { x with mx := mx', df := df' } L W S N tn th⟩) rfl rfl rfl ht fun k hk => upd_ne _ _ hk
theorem TT.road {P : Program} (hP : q.P = P) {g : Goroutine} {st : St Gho} (hA : At s i x st) (hx : x.wg ≠ .lv ∧ x.wg ≠ .gone ∧ x.wg ≠ .idle) (n : Nat)
    (h : ∀ w : World, (∃ v, w.cell? ⟨s.Gb, 4, none⟩ = some v) → Goes P (i == 0) (fun _ w₁ => ∃ v, w₁.cell? ⟨s.Gb, 4, none⟩ = some v) DC0 (fun g' _ => g'.status = .running ∧ TT (cfg q) i Ch g' st) n g w) : TT (cfg q) i Ch g st := by
  subst hP
  exact TT.step fun st₁ hr hi => by
    have hr : Rl i st st₁ := hr
    have hi : Inv q st₁ := hi
    have f : ∀ st₁, Rl i st st₁ → Inv q st₁ → ∃ v, st₁.w.cell? ⟨s.Gb, 4, none⟩ = some v := fun st₁ hr hi => ⟨_, ((hi.scene s (hA.rely hx hr hi).sc).c.gb.cell).2.1⟩
    exact (TT.walk (C := cfg q) cfg_ok (F := fun w₁ => ∃ v, w₁.cell? ⟨s.Gb, 4, none⟩ = some v) f (fun st₁ hr hi => (hA.rely hx hr hi).notLv ⟨hx.1, hx.2.1⟩) n g st₁.w (h st₁.w (f st₁ hr hi))).elim st₁ hr hi
theorem road_rely {s : Scene} {w₀ w₁ : World} (_ : ∃ v, w₀.cell? ⟨s.Gb, 4, none⟩ = some v) (r : ∃ v, w₁.cell? ⟨s.Gb, 4, none⟩ = some v) : ∃ v, w₁.cell? ⟨s.Gb, 4, none⟩ = some v := r
end
end Go.Proofs.Ytpfpokjaeffbjab.Cc
namespace Go.Proofs.Ytpfpokjaeffbjab.Cc
open Go
section
variable (l w s : Nat) (N : Nat) (hl : l ≤ 1) (hw : w ≤ 1) (hs : s ≤ 1) (hN : N ≤ 11)
include hl hw hs hN
theorem cases_enc {p : Nat → Nat → Nat → Nat → Prop} (h : ∀ l w s : Fin 2, ∀ N : Fin 12, p l w s N) : p l w s N := h ⟨l, by omega⟩ ⟨w, by omega⟩ ⟨s, by omega⟩ ⟨N, by omega⟩
theorem e_and5 : bits BinOp.and IntKind.i32 (enc l w s N) 5 = ((l + 4 * s : Nat) : Int) := cases_enc l w s N hl hw hs hN (p := fun l w s N => bits BinOp.and IntKind.i32 (enc l w s N) 5 = ((l + 4 * s : Nat) : Int)) (by decide)
theorem e_and2 : bits BinOp.and IntKind.i32 (enc l w s N) 2 = ((2 * w : Nat) : Int) := cases_enc l w s N hl hw hs hN (p := fun l w s N => bits BinOp.and IntKind.i32 (enc l w s N) 2 = ((2 * w : Nat) : Int)) (by decide)
theorem e_and4 : bits BinOp.and IntKind.i32 (enc l w s N) 4 = ((4 * s : Nat) : Int) := cases_enc l w s N hl hw hs hN (p := fun l w s N => bits BinOp.and IntKind.i32 (enc l w s N) 4 = ((4 * s : Nat) : Int)) (by decide)
theorem e_and1 : bits BinOp.and IntKind.i32 (enc l w s N) 1 = ((l : Nat) : Int) := cases_enc l w s N hl hw hs hN (p := fun l w s N => bits BinOp.and IntKind.i32 (enc l w s N) 1 = ((l : Nat) : Int)) (by decide)
theorem e_and3 : bits BinOp.and IntKind.i32 (enc l w s N) 3 = ((l + 2 * w : Nat) : Int) := cases_enc l w s N hl hw hs hN (p := fun l w s N => bits BinOp.and IntKind.i32 (enc l w s N) 3 = ((l + 2 * w : Nat) : Int)) (by decide)
theorem e_and7 : bits BinOp.and IntKind.i32 (enc l w s N) 7 = ((l + 2 * w + 4 * s : Nat) : Int) := cases_enc l w s N hl hw hs hN (p := fun l w s N => bits BinOp.and IntKind.i32 (enc l w s N) 7 = ((l + 2 * w + 4 * s : Nat) : Int)) (by decide)
theorem e_or1 : bits BinOp.or IntKind.i32 (enc l w s N) 1 = enc 1 w s N := cases_enc l w s N hl hw hs hN (p := fun l w s N => bits BinOp.or IntKind.i32 (enc l w s N) 1 = enc 1 w s N) (by decide)
theorem e_or2 : bits BinOp.or IntKind.i32 (enc l w s N) 2 = enc l 1 s N := cases_enc l w s N hl hw hs hN (p := fun l w s N => bits BinOp.or IntKind.i32 (enc l w s N) 2 = enc l 1 s N) (by decide)
theorem e_or4 : bits BinOp.or IntKind.i32 (enc l w s N) 4 = enc l w 1 N := cases_enc l w s N hl hw hs hN (p := fun l w s N => bits BinOp.or IntKind.i32 (enc l w s N) 4 = enc l w 1 N) (by decide)
theorem e_not2 : bits BinOp.andNot IntKind.i32 (enc l w s N) 2 = enc l 0 s N := cases_enc l w s N hl hw hs hN (p := fun l w s N => bits BinOp.andNot IntKind.i32 (enc l w s N) 2 = enc l 0 s N) (by decide)
omit hl hw hs hN in
theorem enc_succ : enc l w s N + 8 = enc l w s (N + 1) := by unfold enc; omega
theorem e_add8 : IntKind.wrap .i32 (enc l w s N + 8) = enc l w s (N + 1) := by rw [enc_succ]; rw [IntKind.wrap_i32]; unfold enc; omega
omit hN in
theorem e_div : enc l w s N / 8 = (N : Int) := by unfold enc; omega
theorem e_sub8 (h1 : 1 ≤ N) : IntKind.wrap .i32 (enc l w s N - 8) = enc l w s (N - 1) := by rw [IntKind.wrap_i32]; unfold enc; omega
end
theorem enc_inj {l w s N l' w' s' N' : Nat} (h : enc l w s N = enc l' w' s' N') (h1 : l ≤ 1 ∧ w ≤ 1 ∧ s ≤ 1) (h2 : l' ≤ 1 ∧ w' ≤ 1 ∧ s' ≤ 1) : l = l' ∧ w = w' ∧ s = s' ∧ N = N' := by unfold enc at h; omega
end Go.Proofs.Ytpfpokjaeffbjab.Cc
namespace Go.Proofs.Ytpfpokjaeffbjab.Cc
open Go.Conc Go.ConcN
open Go.ConcR (KK wgBlock WgAt stA smA rd wr mk DC0)
open Go.ConcM (OsLater)
set_option linter.unusedVariables false
section
variable {q : Prm} {i : Nat} {s : Scene} {x : Wk}
theorem evs_nil : ∀ e ∈ (#[] : Array Event), EvS s i e ∧ e ≠ ⟨ca s.Gb 3, true, true⟩ := by simp
theorem evs_rw (off : Nat) (h : off = 4 ∨ off = 5) : ∀ e ∈ (#[⟨.cell ⟨s.Gb, off, none⟩, false, true⟩, ⟨.cell ⟨s.Gb, off, none⟩, true, true⟩] : Array Event), EvS s i e ∧ e ≠ ⟨ca s.Gb 3, true, true⟩ := by
  intro e he
  simp at he
  rcases he with rfl | rfl
  · exact ⟨.inl ⟨s.Gb, off, _, rfl, .inl ⟨rfl, by omega, by omega⟩⟩, by simp [ca]⟩
  · exact ⟨.inl ⟨s.Gb, off, _, rfl, .inl ⟨rfl, by omega, by omega⟩⟩, by simp [ca]; omega⟩
theorem evs_r (off : Nat) (h : 3 ≤ off ∧ off < 6) : ∀ e ∈ (#[⟨.cell ⟨s.Gb, off, none⟩, false, true⟩] : Array Event), EvS s i e ∧ e ≠ ⟨ca s.Gb 3, true, true⟩ := by
  intro e he
  simp at he
  subst he
  exact ⟨.inl ⟨s.Gb, off, _, rfl, .inl ⟨rfl, h.1, h.2⟩⟩, by simp [ca]⟩
theorem evs_mk (m : Mark) (h : (∀ a, m ≠ .release a) ∧ (∀ a, m ≠ .read a) ∧ ∀ a, m ≠ .write a) : ∀ e ∈ (#[⟨.mark m, false, true⟩] : Array Event), EvS s i e ∧ e ≠ ⟨ca s.Gb 3, true, true⟩ := by
  intro e he
  simp at he
  subst he
  exact ⟨.inr (.inl ⟨m, rfl, h⟩), by simp [ca]⟩
theorem evs_sem : ∀ e ∈ semEvents ⟨s.Gb, 5, none⟩, EvS s i e ∧ e ≠ ⟨ca s.Gb 3, true, true⟩ := by
  intro e he
  simp [semEvents] at he
  rcases he with rfl | rfl | rfl | rfl
  · exact ⟨.inr (.inl ⟨.disable, rfl, by simp⟩), by simp [ca]⟩
  · exact ⟨.inl ⟨s.Gb, 5, _, rfl, .inl ⟨rfl, by omega, by omega⟩⟩, by simp [ca]⟩
  · exact ⟨.inl ⟨s.Gb, 5, _, rfl, .inl ⟨rfl, by omega, by omega⟩⟩, by simp [ca]⟩
  · exact ⟨.inr (.inl ⟨.enable, rfl, by simp⟩), by simp [ca]⟩
theorem df_cells (d : Nat) (a : Loc) (x : Bool) (h : ∀ m, a ≠ .mark m) : d = deafBehind d #[⟨a, x, true⟩] := (deafBehind_quiet fun e he => by simp at he; subst he; exact ⟨h _, h _⟩).symm
theorem df_rw (d : Nat) (a : Addr) : d = deafBehind d #[⟨.cell a, false, true⟩, ⟨.cell a, true, true⟩] := (deafBehind_quiet fun e he => by simp at he; rcases he with rfl | rfl <;> simp).symm
theorem df_r (d : Nat) (a : Addr) : d = deafBehind d #[⟨.cell a, false, true⟩] := (deafBehind_quiet fun e he => by simp at he; subst he; simp).symm
theorem df_sem (d : Nat) (a : Addr) : d = deafBehind d (semEvents a) := by simp [semEvents, deafBehind]
theorem df_dis (d : Nat) : d + 1 = deafBehind d #[⟨.mark .disable, false, true⟩] := by simp [deafBehind]
theorem df_en (d : Nat) : d = deafBehind (d + 1) #[⟨.mark .enable, false, true⟩] := by simp [deafBehind]
theorem df_at (d : Nat) (m : Mark) (h : m ≠ .disable ∧ m ≠ .enable) : d = deafBehind d #[⟨.mark m, false, true⟩] := (deafBehind_quiet fun e he => by simp at he; subst he; simpa using h).symm
theorem mm_at {st : St Gho} (h : At s i x st) : st.γ.mm i = x.mx := by unfold Gho.mm; rw [h.me]
theorem upd_same {α : Type} (m : Nat → α) (j : Nat) : upd m j (m j) = m := by
  funext k
  unfold upd
  split
  · rename_i e; rw [e]
  · rfl
theorem GbAt.swap {γ : Gho} {w : World} (h : GbAt q s γ w) {x' : Wk} {L W S N tn th : Nat} (ht : tn + th = γ.tn + γ.th) {v : Int} (hv : v = enc L W S N) : GbAt q s (γ.setMu i x' L W S N tn th) (w.setCell ⟨s.Gb, 4, none⟩ (.int .i32 v)) := h.set4 (γ' := γ.setMu i x' L W S N tn th) rfl ht hv
theorem GbAt.sema {γ : Gho} {w : World} (h : GbAt q s γ w) {x' : Wk} {tn th : Nat} {v : Int} (hv : v = ((tn + th : Nat) : Int)) : GbAt q s (γ.setMu i x' γ.L γ.W γ.S γ.N tn th) (w.setCell ⟨s.Gb, 5, none⟩ (.int .u32 v)) := h.set5 (γ' := γ.setMu i x' γ.L γ.W γ.S γ.N tn th) rfl ⟨rfl, rfl, rfl, rfl⟩ hv
theorem GbAt.stay {γ : Gho} {w w' : World} (h : GbAt q s γ w) (hb : w'.heap[s.Gb]? = w.heap[s.Gb]?) {x' : Wk} {tn th : Nat} (ht : tn + th = γ.tn + γ.th) : GbAt q s (γ.setMu i x' γ.L γ.W γ.S γ.N tn th) w' := h.of (γ' := γ.setMu i x' γ.L γ.W γ.S γ.N tn th) hb rfl ⟨rfl, rfl, rfl, rfl⟩ ht
theorem MuI.still {st : St Gho} (h : SceneC q s st) (hA : At s i x st) {mx : MX} (hmx : x.mx = mx) : MuI (upd st.γ.mm i mx) s.n0 s.n st.γ.L st.γ.W st.γ.S st.γ.N st.γ.tn st.γ.th := by
  rw [← hmx, ← mm_at hA, upd_same]; exact h.mu
variable {Ch : Nat → Goroutine → St Gho → Prop}
theorem TT.pas {P : Program} (hP : q.P = P) {g : Goroutine} {st : St Gho} (hA : At s i x st) (hx : x.wg = .work) {mx : MX} (hmx : x.mx = mx) (n1 : mx ≠ .own .work)
    (h : ∀ st₁, At s i x st₁ → Inv q st₁ → SceneC q s st₁ → ∃ g' w' es df', stepG P (i == 0) g st₁.w = .go g' w' es ∧ g'.status = .running ∧ df' = deafBehind x.df es ∧ w'.heap[s.Gb]? = st₁.w.heap[s.Gb]? ∧ MuEff s st₁.w w' ∧
        (∀ e ∈ es, EvS s i e ∧ e ≠ ⟨ca s.Gb 3, true, true⟩) ∧
        ∀ st₂, At s i { x with df := df' } st₂ → Inv q st₂ → st₂.w = w' → st₂.γ.L = st₁.γ.L ∧ st₂.γ.W = st₁.γ.W ∧ st₂.γ.S = st₁.γ.S ∧ st₂.γ.N = st₁.γ.N → phi st₂.γ s ≤ phi st.γ s ∧ (phi st₂.γ s = phi st.γ s → st₂.γ.L = st.γ.L ∧ st₂.γ.W = st.γ.W ∧ st₂.γ.S = st.γ.S ∧ st₂.γ.N = st.γ.N) → (st.γ.D = 1 → st₂.γ.D = 1) → TT (cfg q) i Ch g' st₂) : TT (cfg q) i Ch g st := by
  subst hmx
  exact TT.mu hP hA hx rfl n1 fun st₁ hA₁ hI₁ hC₁ p1 p2 p3 _ => by
    obtain ⟨g', w', es, df', h1, h2, h3, h4, h5, h6, h7⟩ := h st₁ hA₁ hI₁ hC₁
    refine ⟨g', w', es, x.mx, df', st₁.γ.L, st₁.γ.W, st₁.γ.S, st₁.γ.N, st₁.γ.tn, st₁.γ.th, h1, h2, h3, n1, fun e => hC₁.dn i (by rw [hA₁.me]; exact e), ?_, ?_, h5, .inr ⟨rfl, rfl, rfl, rfl, rfl⟩, .inl (Nat.le_refl _), h6, .inr (Nat.le_refl _), fun st₂ k1 k2 k3 k4 k5 k6 => ?_⟩
    · rw [← mm_at hA₁, upd_same]; exact hC₁.mu
    · exact hC₁.gb.of h4 rfl ⟨rfl, rfl, rfl, rfl⟩ rfl
    · refine h7 st₂ k1 k2 k3 k4 ⟨by omega, fun e => ?_⟩ (fun e => k5.trans (p3 e))
      obtain ⟨a, b, c, d⟩ := p2 (by omega)
      exact ⟨k4.1.trans a, k4.2.1.trans b, k4.2.2.1.trans c, k4.2.2.2.trans d⟩
theorem MuI.onlyWH {m : Nat → MX} {a n j L W S N tn th : Nat} (h : MuI m a n L W S N tn th) (hj : a ≤ j) (hj2 : j < a + n) (hm : m j = .woken true) {k : Nat} (hk : k ≠ j) (k1 : a ≤ k) (k2 : k < a + n) : m k ≠ .woken true := by
  intro e
  have c := cnt_upd MX.isWH m n .out hj hj2
  have p := cnt_pos (m := upd m j .out) (p := MX.isWH) k1 k2 (by rw [upd_ne m _ hk, e]; rfl)
  rw [hm] at c
  simp [MX.isWH] at c
  have := h.st
  omega
theorem MuI.noWH {m : Nat → MX} {a n L W S N tn th : Nat} (h : MuI m a n L W S N tn th) (hS : S = 0) {k : Nat} (k1 : a ≤ k) (k2 : k < a + n) : m k ≠ .woken true := by
  intro e
  have p := cnt_pos (m := m) (p := MX.isWH) k1 k2 (by rw [e]; rfl)
  have := h.st
  omega
theorem TT.sem {P : Program} (hP : q.P = P) {g : Goroutine} {st : St Gho} (hA : At s i x st) (hx : x.wg = .work) (hmx : x.mx = .queued) (hoff : g.offers = none)
    (hblk : ∀ w : World, w.cell? ⟨s.Gb, 5, none⟩ = some (.int .u32 0) → stepG P (i == 0) g w = .go { g with status := .blocked } w #[])
    (h : ∃ g' : Goroutine, (∀ (w : World) (n : Int), w.cell? ⟨s.Gb, 5, none⟩ = some (.int .u32 n) → n ≠ 0 → w.frozen? ⟨s.Gb, 5, none⟩ = false → stepG P (i == 0) g w = .go g' (w.setCell ⟨s.Gb, 5, none⟩ (.int .u32 (n - 1))) (semEvents ⟨s.Gb, 5, none⟩)) ∧ g'.status = .running ∧
      (∀ st₂, At s i { x with mx := .woken false } st₂ → Inv q st₂ → phi st₂.γ s < phi st.γ s → TT (cfg q) i Ch g' st₂) ∧ ∀ st₂, At s i { x with mx := .woken true } st₂ → Inv q st₂ → phi st₂.γ s < phi st.γ s → TT (cfg q) i Ch g' st₂) : TT (cfg q) i Ch g st := by
  subst hP
  obtain ⟨g', hgo, hs, hN, hH⟩ := h
  refine TT.step fun st₁ hr hi => ?_
  have hr : Rl i st st₁ := hr
  have hi : Inv q st₁ := hi
  have hA₁ := hA.rely (by rw [hx]; simp) hr hi
  have hC := (hi.scene s hA₁.sc).c
  obtain ⟨p1, p2, p3⟩ := hr.phi hA.ne (by rw [hA.me, hx]; simp) (by rw [hA.me, hx]; simp) s hA.sc
  refine ⟨fun hl => absurd hl (hA₁.notLv (by rw [hx]; simp)), ?_⟩
  have cell := hC.gb.cell.2.2.1
  by_cases h0 : st₁.γ.tn + st₁.γ.th = 0
  · unfold StepK
    rw [h0] at cell
    rw [show stepG (cfg q).P (i == 0) g st₁.w = _ from hblk st₁.w cell]
    exact .inl ⟨rfl, hoff, rfl, rfl, by rw [hA₁.sc]; simp, .inr ⟨hA₁.ne, by rw [hA₁.me]; exact hmx, h0, by rw [hA₁.me]; exact hx⟩⟩
  · have hstep := hgo st₁.w _ cell (by omega) (hC.gb.cell.2.2.2 5)
    have mm : st₁.γ.mm i = .queued := (mm_at hA₁).trans hmx
    have go : ∀ (hh : Bool) (tn th : Nat), MuI (upd st₁.γ.mm i (.woken hh)) s.n0 s.n st₁.γ.L st₁.γ.W st₁.γ.S st₁.γ.N tn th → tn + th + 1 = st₁.γ.tn + st₁.γ.th →
        (∀ st₂, At s i { x with mx := .woken hh } st₂ → Inv q st₂ → phi st₂.γ s < phi st.γ s → TT (cfg q) i Ch g' st₂) → StepK (cfg q) i Ch (TT (cfg q) i Ch) g st₁ := by
      intro hh tn th hm ht hk
      obtain ⟨⟨k1, k2⟩, k3⟩ := hi.mu hA₁ hx (x' := { x with mx := .woken hh }) rfl (es := semEvents ⟨s.Gb, 5, none⟩) (df_sem _ _) (by rw [hmx]; simp) (by simp) (by simp) hm (hC.gb.sema (tn := tn) (th := th) (v := ((st₁.γ.tn + st₁.γ.th : Nat) : Int) - 1) (by omega)) (MuEff.set _ 5 _ (by omega)) (.inl (by rw [hmx]; simp [crd]; omega)) (.inl (Nat.le_refl _)) evs_sem g.frame.fn g.frame.place
      refine StepK.own (C := cfg q) (γ' := st₁.γ.setMu i { x with mx := .woken hh } st₁.γ.L st₁.γ.W st₁.γ.S st₁.γ.N tn th) hstep hs k1 rfl k2 (.inr (wt_mu (st := st₁) (st' := ⟨_, _, st₁.γ.setMu i { x with mx := .woken hh } st₁.γ.L st₁.γ.W st₁.γ.S st₁.γ.N tn th⟩) rfl rfl rfl (by show tn + th ≤ _; omega) fun k hk => upd_ne _ _ hk)) (hk _ (hA₁.next hi rfl rfl rfl (by simp [Gho.setMu, upd]) (fun _ h => h) fun b a1 _ _ _ => (MuEff.set (s := s) st₁.w 5 _ (by omega)).blk b a1) k1 ?_)
      show phi (st₁.γ.setMu i { x with mx := .woken hh } st₁.γ.L st₁.γ.W st₁.γ.S st₁.γ.N tn th) s < _
      rw [hmx] at k3
      simp only [crd] at k3
      omega
    rcases Nat.eq_zero_or_pos st₁.γ.tn with e | e
    · exact go true st₁.γ.tn (st₁.γ.th - 1) (hC.mu.wakeH hA₁.lo (hA₁.hi hi) mm (by omega)) (by omega) hH
    · exact go false (st₁.γ.tn - 1) st₁.γ.th (hC.mu.wakeN hA₁.lo (hA₁.hi hi) mm e) (by omega) hN
end
end Go.Proofs.Ytpfpokjaeffbjab.Cc
namespace Go.Proofs.Ytpfpokjaeffbjab.Cc
open Go.Conc Go.ConcN
open Go.ConcR (KK wgBlock WgAt stA smA rd wr mk DC0)
open Go.ConcM (OsLater)
set_option linter.unusedVariables false
section
variable {q : Prm} {i : Nat}
theorem Inv.gen {st : St Gho} (h : Inv q st) {s : Scene} (hs : st.γ.sc = some s) (hi : Mem s st.γ i) {fn : FuncId} {pos : String} {es : Array Event} {w' : World} {γ' : Gho} (hsc : γ'.sc = st.γ.sc) (hnum : γ'.num = st.γ.num) (hdead : ∀ b, γ'.dead b ↔ st.γ.dead b)
    (hmay : ∀ e ∈ es, ∀ x, (MemAct.ofEvent e).touch? = some x → May st.w.heap.size st.γ.ex st.γ.rd st.γ.sh i x ∧ ∀ b, lblk x.loc = some b → b < w'.heap.size) (hrel : ∀ e ∈ es, ∀ a, e.loc ≠ .mark (.release a)) (hsaid : i ≠ 0 → ∀ e ∈ es, ∀ x, (MemAct.ofEvent e).touch? = some x → x.kind ≠ .said)
    (hsub : TrI (st.t ++ MemOp.ofEvents i fn pos es) st.γ.num w'.heap.size st.γ.ex st.γ.rd st.γ.sh → TrI (st.t ++ MemOp.ofEvents i fn pos es) st.γ.num w'.heap.size γ'.ex γ'.rd γ'.sh) (hkeep : ∀ j, j ≠ i → ∀ l, (st.γ.ex j l → γ'.ex j l) ∧ (st.γ.rd j l → γ'.rd j l)) (hpool : ∀ g l, γ'.ex g l ∨ γ'.rd g l ∨ γ'.sh g l → g < st.γ.num)
    (hsz : w'.heap.size = st.w.heap.size) (hblk : ∀ b, w'.heap[b]? = st.w.heap[b]? ∨ (∃ off, st.γ.ex i (ca b off)) ∨ b = s.Gb ∨ b = s.Wg ∨ b = s.Zb ∨ b = s.Rb) (hos : OsLater st.w.os w'.os) (hout : w'.output = st.w.output)
    (hwk : ∀ j, j ≠ i → γ'.wk j = st.γ.wk j) (hmw : i ≠ 0 → γ'.mw = st.γ.mw ∧ γ'.dm = st.γ.dm) (h0 : i = 0 → γ'.dm = deafBehind st.γ.dm es ∧ γ'.wk 0 = st.γ.wk 0 ∧ γ'.mw ≠ .solo) (hdf : i ≠ 0 → (γ'.wk i).df = deafBehind (st.γ.wk i).df es ∧ (γ'.wk i).wg ≠ .gone)
    (hC : SceneC q s ⟨w', st.t ++ MemOp.ofEvents i fn pos es, γ'⟩) (hP : SceneP s γ') (hT : SceneT s ⟨w', st.t ++ MemOp.ofEvents i fn pos es, γ'⟩)
    (hphi : phi γ' s ≤ phi st.γ s ∧ (phi γ' s = phi st.γ s → γ'.L = st.γ.L ∧ γ'.W = st.γ.W ∧ γ'.S = st.γ.S ∧ γ'.N = st.γ.N) ∧ (st.γ.D = 1 → γ'.D = 1)) (hpsi : i ≠ 0 → psi γ' s ≤ psi st.γ s ∧ (psi γ' s = psi st.γ s → γ'.gs = st.γ.gs))
    (hwork : ∀ j, j ≠ i → (st.γ.wk j).mx = .own .work → γ'.D = st.γ.D ∧ ∀ off, 6 ≤ off → off < 16 → w'.cell? ⟨s.Gb, off, none⟩ = st.w.cell? ⟨s.Gb, off, none⟩)
    (hhand : st.γ.N ≤ γ'.N ∨ ∀ j, j ≠ i → s.n0 ≤ j → j < s.n0 + s.n → (st.γ.wk j).mx ≠ .woken true) :
    Inv q ⟨w', st.t ++ MemOp.ofEvents i fn pos es, γ'⟩ ∧ ∀ j, j ≠ i → Rl j st ⟨w', st.t ++ MemOp.ofEvents i fn pos es, γ'⟩ := by
  have x := h.scene s hs
  have A := h.base.tr.apt
  have hilt : i < st.γ.num := by rcases hi with rfl | hi; exact h.base.pos; exact hi.2
  have hold0 : st.γ.old = s.n0 := by unfold Gho.old; rw [hs]
  have hold : γ'.old = st.γ.old := by unfold Gho.old; rw [hsc, hnum]
  have htr : TrI (st.t ++ MemOp.ofEvents i fn pos es) st.γ.num w'.heap.size γ'.ex γ'.rd γ'.sh := by
    refine hsub (h.base.tr.step (Nat.le_of_eq hsz.symm) hilt (fun op ho => ?_) (fun op ho y hy => ?_) (fun op ho y hy => ?_) (fun op ho a e => ?_) |>.sub ?_ (fun g l hl => .inl hl) (fun g l hl => .inl hl) fun g l hl => .inl hl)
    · obtain ⟨e, _, rfl⟩ := mem_ops ho; rfl
    · obtain ⟨e, he, rfl⟩ := mem_ops ho; exact (hmay e he y hy).1
    · obtain ⟨e, he, rfl⟩ := mem_ops ho; exact (hmay e he y hy).2
    · obtain ⟨e', he, rfl⟩ := mem_ops ho; exact hrel e' he a ((ofEvent_mark e' _).1 e)
    · rw [hsz]; exact A
  refine ⟨⟨h.base.step hilt (by rcases hi with hi | hi; exact .inl hi; exact .inr (by rw [hold0]; exact hi.1)) (Nat.le_of_eq hsz.symm) (by rw [hnum]; exact htr) hnum hold hdead hsc hos hout ?_ hwk (fun hne => (hdf hne).1) (fun hne => (hdf hne).2) (fun he => (h0 he).2.1) (fun g l hl => by rw [hnum]; exact hpool g l hl) hsaid, ?_, fun s' hs' => ?_⟩, fun j hj => ?_⟩
  · split
    · rename_i e; exact (h0 e).1
    · rename_i e; exact (hmw e).2
  · show γ'.sc = none ↔ γ'.mw = .solo
    rw [hsc, hs]
    by_cases e : i = 0
    · exact ⟨fun hn => (by cases hn), fun hn => absurd hn (h0 e).2.2⟩
    · rw [(hmw e).1, ← hs]; exact h.solo
  · have hs' : γ'.sc = some s' := hs'
    rw [hsc, hs] at hs'; cases hs'
    exact ⟨hC, hP, hT⟩
  · refine Rl.other hj (size := 0) A (Nat.le_of_eq hsz.symm) (fun l hl => (hkeep j hj l).1 hl) (fun l hl => (hkeep j hj l).2 hl) (fun b => ?_) hwk (fun hne => ⟨(hmw hne).1, (hmw hne).2, hnum, hdead⟩) hsc (fun s' hs' => ?_) (fun s' hs' hne => ?_) (fun hw => ⟨(hwork j hj hw).1, fun s' hs' off o1 o2 => ?_⟩) (fun hz hw hg => hhand.resolve_right fun hh => hh j hj ?_ ?_ hw) (Nat.le_of_eq hnum.symm)
    · rcases hblk b with e | e | e
      · exact .inl e
      · exact .inr (.inr (.inl e))
      · exact .inr (.inr (.inr (x.p.spec j b e)))
    · rw [hs] at hs'; cases hs'; exact hphi
    · rw [hs] at hs'; cases hs'; exact hpsi hne
    · rw [hs] at hs'; cases hs'; exact (hwork j hj hw).2 off o1 o2
    · refine Nat.le_of_not_lt fun hlt => ?_
      rcases h.base.old j (by omega) (by rw [hold0]; exact hlt) with e | e <;> rw [hg] at e <;> cases e
    · refine Nat.lt_of_not_le fun hge => ?_
      have := x.c.new j (by have := x.c.n0; omega)
      rw [this] at hg; cases hg
end
end Go.Proofs.Ytpfpokjaeffbjab.Cc
namespace Go.Proofs.Ytpfpokjaeffbjab.Cc
open Go.Conc Go.ConcN
open Go.ConcR (KK wgBlock WgAt stA smA rd wr mk DC0)
open Go.ConcM (OsLater)
set_option linter.unusedVariables false
theorem knows_heard {t : Trace} {a : Addr} {p : Nat} {y : MemOp} (h : LastWrite t a p) (h1 : t.heard p) (h2 : Deaf t y.g = 0) (hy : y.act = .access ⟨.cell a, false, true⟩) : Knows (t ++ #[y]) y.g p := by
  have hlast : (t ++ #[y])[t.size]? = some y := by rw [Array.getElem?_append_right (Nat.le_refl _)]; simp
  have hp := lt_of_act? h.1
  obtain ⟨z, hz, _⟩ := Option.map_eq_some_iff.1 h.1
  have hheard : (t ++ #[y]).heard t.size := ⟨y.g, by simp [Trace.g?], by rw [deaf_old (Nat.le_refl _)]; exact h2⟩
  refine ⟨t.size, y, hlast, rfl, .inr (.single (.inr ⟨.atomic (a := a) hp (by rw [act?_old hp]; exact h.1) (by rw [act?_of hlast, hy]) (fun k sync h1 h2 => by rw [act?_old h2]; exact h.2 k sync h1), (heard_old hp).2 h1, hheard⟩))⟩
section
variable {q : Prm} {i : Nat} {s : Scene} {x : Wk}
theorem SceneC.turn {st : St Gho} (c : SceneC q s st) (hA : At s i x st) (hx : x.wg = .work) {x' : Wk} (e1 : x'.wg = .work) (e2 : x'.zw = x.zw) (e3 : x'.rw = x.rw) {w' : World} {t' : Trace} {γ' : Gho} (hwk : γ'.wk = upd st.γ.wk i x') (hk : γ'.mw = st.γ.mw ∧ γ'.gs = st.γ.gs ∧ γ'.gm = st.γ.gm ∧ γ'.num = st.γ.num)
    (hG : GbAt q s γ' w') (hblk : ∀ b, b ≠ s.Gb → w'.heap[b]? = st.w.heap[b]?) (hmu : MuI (upd st.γ.mm i x'.mx) s.n0 s.n γ'.L γ'.W γ'.S γ'.N γ'.tn γ'.th) (hD : γ'.D ≤ 1)
    (hwork : ∀ j, (γ'.wk j).mx = .own .work → γ'.D = 0) (hdn : ∀ j, (γ'.wk j).mx = .own .dn → γ'.D = 1) (hsyn : ∀ j, s.n0 ≤ j → (γ'.wk j).syn = true → γ'.D = 1) : SceneC q s ⟨w', t', γ'⟩ := by
  have at_ : ∀ j, γ'.wk j = if j = i then x' else st.γ.wk j := fun j => by rw [hwk]; rfl
  have hwg : ∀ j, (γ'.wk j).wg = (st.γ.wk j).wg := fun j => by
    rw [at_]; split
    · rename_i e; subst e; rw [hA.me, hx, e1]
    · rfl
  have hzw : ∀ j, (γ'.wk j).zw = (st.γ.wk j).zw := fun j => by
    rw [at_]; split
    · rename_i e; subst e; rw [hA.me, e2]
    · rfl
  have hrw : ∀ j, (γ'.wk j).rw = (st.γ.wk j).rw := fun j => by
    rw [at_]; split
    · rename_i e; subst e; rw [hA.me, e3]
    · rfl
  have hmm : γ'.mm = upd st.γ.mm i x'.mx := by
    funext j
    unfold Gho.mm
    rw [at_]
    unfold upd
    split <;> rfl
  obtain ⟨k1, k2, k3, k4⟩ := hk
  refine ⟨by show _ ∧ s.n0 ≤ γ'.num ∧ γ'.num ≤ _ ∧ _; rw [k4]; exact c.n0, hG, ?_, ?_, ?_, c.ne, ?_, hD, hwork, hdn, hsyn, fun j hj => ?_, fun j h1 h2 => ?_, fun j h1 h2 h3 => ?_, ?_, ?_⟩
  · show WgAt q.tW s.Wg w' γ'.gs γ'.gm
    rw [k2, k3]; exact c.wgb.of_block (hblk _ c.ne.1.symm)
  · obtain ⟨Z, z1, z2, z3, z4⟩ := c.zb
    exact ⟨Z, (hblk _ c.ne.2.1.symm).trans z1, z2, z3, fun k k1 k2 => z4 k k1 ((hzw _).symm.trans k2)⟩
  · obtain ⟨Z, z1, z2, z3, z4⟩ := c.rb
    exact ⟨Z, (hblk _ c.ne.2.2.1.symm).trans z1, z2, z3, fun k k1 k2 => z4 k k1 ((hrw _).symm.trans k2)⟩
  · show MuI γ'.mm _ _ _ _ _ _ _ _
    rw [hmm]; exact hmu
  · have hj : γ'.num ≤ j := hj
    have hne : j ≠ i := by have := hA.lt; omega
    show γ'.wk j = .new
    rw [at_, if_neg hne]
    exact c.new j (by omega)
  · show (γ'.wk j).wg ≠ .idle
    rw [hwg]; exact c.on j h1 (by rw [← k4]; exact h2)
  · have h2 : (γ'.wk j).wg ≠ .idle := h2
    have h3 : (γ'.wk j).wg ≠ .work := h3
    rw [hwg] at h2 h3
    have hne : j ≠ i := fun e => h3 (by rw [e, hA.me]; exact hx)
    show (γ'.wk j).zw = true ∧ (γ'.wk j).rw = true ∧ ((γ'.wk j).mx = .fresh ∨ (γ'.wk j).mx = .out)
    rw [at_, if_neg hne]
    exact c.fin j h1 h2 h3
  · intro h
    show γ'.num = _
    rw [k4]
    refine c.all ?_
    have h : γ'.mw = .wt ∨ γ'.mw = .rg ∨ γ'.mw = .pas := h
    rw [k1] at h; exact h
  · show WgL γ'.mw (cntW WG.cd γ' s) (cntW (· == .d2) γ' s) (cntW (· == .d3) γ' s) (cntW (· == .d4) γ' s) γ'.gs γ'.gm
    rw [cntW_same hwg, cntW_same hwg, cntW_same hwg, cntW_same hwg, k1, k2, k3]
    exact c.wgl
end
end Go.Proofs.Ytpfpokjaeffbjab.Cc
