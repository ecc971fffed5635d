/- Part of the proof: RenOps, RenOp2. -/
import Derived.Test.YtpfpokjaeffbjabGa3
namespace Go.Proofs.Ytpfpokjaeffbjab.Cc
set_option linter.unusedVariables false
section
variable {P : Program} {S : FuncId → Prop} {ro : Nat → Md} {ρ : Nat → Option Nat}
def addTo (ρ : Nat → Option Nat) (b c : Nat) : Nat → Option Nat := fun x => if x = b then some c else ρ x
theorem AdR.mono {ρ ρ' : Nat → Option Nat} (e : Ext ρ ρ') {a a' : Addr} (h : AdR ρ a a') : AdR ρ' a a' := ⟨e _ _ h.1, h.2⟩
theorem AdR.add {a a' : Addr} (h : AdR ρ a a') (n : Nat) : AdR ρ (a.add n) (a'.add n) := by
  obtain ⟨h1, h2, h3⟩ := h
  unfold Addr.add
  split
  · exact ⟨h1, h2, h3⟩
  · exact ⟨h1, by simp [h2], rfl⟩
theorem AdR.ptr {a a' : Addr} (h : AdR ρ a a') : VR S ρ (.pointer (some a)) (.pointer (some a')) := by
  obtain ⟨b, o, sp⟩ := a
  obtain ⟨b', o', sp'⟩ := a'
  obtain ⟨h1, h2, h3⟩ := h
  simp at h2 h3
  subst h2 h3
  exact .ptr o' sp' h1
theorem AdR.slice {a a' : Addr} (h : AdR ρ a a') (l k : Nat) : VR S ρ (.slice (some a) l k) (.slice (some a') l k) := by
  obtain ⟨b, o, sp⟩ := a
  obtain ⟨b', o', sp'⟩ := a'
  obtain ⟨h1, h2, h3⟩ := h
  simp at h2 h3
  subst h2 h3
  exact .slice o' sp' l k h1
theorem OR.mono {ρ' : Nat → Option Nat} (e : Ext ρ ρ') {r : Md} {o o' : Obj} (h : OR S r ρ o o') : OR S r ρ' o o' := by
  cases h with
  | cells h3 h4 h5 h6 => exact .cells h3 (fun i v hv => let ⟨v', a, b⟩ := h4 i v hv; ⟨v', a, b.mono e⟩) h5 h6
  | number h hro => exact .number (h.mono e) hro
theorem OR.cells_of {r : Md} {cs : Array Value} {e : TypeId} {fz : Nat × Nat} {o' : Obj} (h : OR S r ρ (.cells cs e fz) o') : ∃ cs' fz', o' = .cells cs' e fz' ∧ fz = (0, r.hi cs.size) ∧ cs.size ≤ cs'.size ∧
    (∀ (i : Nat) (v : Value), cs[i]? = some v → ∃ v', cs'[i]? = some v' ∧ VR S ρ v v') ∧ (r.isRead = false → cs.size = cs'.size ∧ fz' = (0, 0)) ∧ (∀ n, r = .read n → cs.size = n) := by
  cases h with
  | cells h3 h4 h5 h6 => exact ⟨_, _, rfl, rfl, h3, h4, h5, h6⟩
theorem HR.cell {s w : World} (h : HR P.globals.size S ro ρ s w) {a : Addr} {v : Value} (hv : s.cell? a = some v) : ∃ c v', ρ a.block = some c ∧ w.cell? { a with block := c } = some v' ∧ VR S ρ v v' ∧ a.spot = none ∧ (ro a.block).gets a.off := by
  unfold World.cell? at hv
  cases hb : ρ a.block with
  | none =>
    rcases h.hole _ hb with h1 | ⟨x, h1⟩ <;> rw [h1] at hv <;> cases hv
  | some c =>
    obtain ⟨o, o', h1, h2, h3⟩ := h.row _ _ hb
    rw [h1] at hv
    cases h3 with
    | number _ _ => cases hv
    | cells h3 h4 h5 h6 =>
      simp only at hv
      split at hv
      · cases hv
      · rename_i hsp
        obtain ⟨v', hv', hr⟩ := h4 _ _ hv
        have hspn : a.spot = none := by cases hh : a.spot with
          | none => rfl
          | some x => rw [hh] at hsp; simp at hsp
        refine ⟨c, v', rfl, ?_, hr, hspn, ?_⟩
        · unfold World.cell?
          simp only [h2]
          rw [if_neg hsp]; exact hv'
        · have hlt := (Array.getElem?_eq_some_iff.1 hv).1
          cases hm : ro a.block with
          | read n => show a.off < n; rw [← h6 n hm]; exact hlt
          | all => trivial
          | part f => trivial
theorem HR.noFarLoad {s w : World} (h : HR P.globals.size S ro ρ s w) {a : Addr} (p : Program) (b : Bool) : ∃ e, s.farLoad p a b = .error e ∧ Tame e := by
  unfold World.farLoad World.noCell
  cases hb : ρ a.block with
  | none =>
    rcases h.hole _ hb with h1 | ⟨x, h1⟩ <;> rw [h1] <;> exact ⟨_, rfl, trivial⟩
  | some c =>
    obtain ⟨o, o', h1, h2, h3⟩ := h.row _ _ hb
    rw [h1]; cases h3 <;> exact ⟨_, rfl, trivial⟩
theorem HR.noFarStore {s w : World} (h : HR P.globals.size S ro ρ s w) {a : Addr} (p : Program) (v : Value) (b : Bool) : ∃ e, s.farStore p a v b = .error e ∧ Tame e := by
  unfold World.farStore World.noCell
  cases hb : ρ a.block with
  | none =>
    rcases h.hole _ hb with h1 | ⟨x, h1⟩ <;> rw [h1] <;> exact ⟨_, rfl, trivial⟩
  | some c =>
    obtain ⟨o, o', h1, h2, h3⟩ := h.row _ _ hb
    rw [h1]; cases h3 <;> exact ⟨_, rfl, trivial⟩
theorem SR.load {a a' : Addr} (ha : AdR ρ a a' ∨ ρ a.block = none) : SR P S ro ρ (load a) (load a') fun ρ' v v' => VR S ρ' v v' := by
  intro s w hr ht hd hro
  refine and_assoc.1 ⟨?_, fun a s' hx => run_local _ (by exact fun _ => trivial) s a s' hx⟩
  unfold Go.load
  simp only [Sem.run]
  cases hc : s.cell? a with
  | none =>
    obtain ⟨e, he, tm⟩ := hr.noFarLoad (a := a) P (Mode.plain == .atomic)
    refine ⟨fun v s' hx => ?_, fun v s' hx => ?_⟩
    · simp only [he] at hx; cases hx
    · simp only [he] at hx; cases hx; exact tm
  | some u =>
    refine ⟨fun v s' hx => ?_, fun v s' hx => by cases hx⟩
    cases hx
    obtain ⟨c, v', h1, h2, h3, hsp0, hgt⟩ := hr.cell hc
    have he : a' = { a with block := c } := by
      rcases ha with ⟨k1, k2, k3⟩ | k
      · rw [h1] at k1; cases k1
        cases a; cases a'; simp at k2 k3 ⊢; exact ⟨k2, k3⟩
      · rw [h1] at k; cases k
    have h2' : w.cell? a' = some v' := by rw [he]; exact h2
    refine ⟨ρ, v', w, ?_, ?_, h3⟩
    · simp only [h2']
    · have : (Sem.load Mode.plain a' Sem.pure : Sem Value) = Go.load a' := rfl
      rw [this, events_load]
      simp only [h2']
      have := Mv.refl hr ht hd
      refine { this with evs := fun e he' => ?_ }
      simp at he'
      subst he'
      exact .inl ⟨a', a.block, false, rfl, by rw [he]; exact h1, by simp, by rw [he]; exact hgt, by rw [he]; exact hsp0⟩
theorem getElem?_modify_ne {α : Type} (xs : Array α) (i j : Nat) (f : α → α) (h : i ≠ j) : (xs.modify i f)[j]? = xs[j]? := by
  rw [Array.getElem?_modify]; simp [h]
theorem HR.setCell {s w : World} (h : HR P.globals.size S ro ρ s w) {a : Addr} {c : Nat} (hb : ρ a.block = some c) (hro : (ro a.block).isRead = false) (hsp : a.spot = none) {cs : Array Value} {e : TypeId} {fz : Nat × Nat} (hs : s.heap[a.block]? = some (.cells cs e fz))
    {v v' : Value} (hv : VR S ρ v v') : HR P.globals.size S ro ρ (s.setCell a v) (w.setCell { a with block := c } v') := by
  refine ⟨h.inj, fun b d hbd => ?_, fun b hbn => ?_, h.low, by simpa [World.setCell] using h.gs, by simpa [World.setCell] using h.gw⟩
  · obtain ⟨o, o', h1, h2, h3⟩ := h.row b d hbd
    by_cases hba : a.block = b
    · subst hba
      rw [hb] at hbd; cases hbd
      rw [hs] at h1; cases h1
      obtain ⟨cs', fz', rfl, rfl, h3, h4, h5, h7⟩ := h3.cells_of
      obtain ⟨h6, rfl⟩ := h5 hro
      have A : AR S ρ cs cs' := ⟨h6, fun i x y hx hy => by obtain ⟨z, hz, hr⟩ := h4 i x hx; rw [hz] at hy; cases hy; exact hr⟩
      have key : OR S (ro a.block) ρ (.cells (cs.setIfInBounds a.off v) e (0, (ro a.block).hi (cs.setIfInBounds a.off v).size)) (.cells (cs'.setIfInBounds a.off v') e (0, 0)) :=
        .cells (by simp [h6]) (fun i u hu => (A.set a.off hv).get hu) (fun _ => ⟨by simp [h6], rfl⟩) fun n hn => by simpa using h7 n hn
      refine ⟨_, _, ?_, ?_, key⟩
      · simp [World.setCell, Array.getElem?_modify, hs, hsp]
      · simp [World.setCell, Array.getElem?_modify, h2, hsp]
    · have hcd : c ≠ d := fun e => hba (h.inj _ _ _ hb (e ▸ hbd))
      refine ⟨o, o', ?_, ?_, h3⟩
      · rw [World.setCell]; exact (getElem?_modify_ne _ _ _ _ hba).trans h1
      · rw [World.setCell]; exact (getElem?_modify_ne _ _ _ _ hcd).trans h2
  · have hba : a.block ≠ b := fun e => by rw [e, hbn] at hb; cases hb
    rw [World.setCell]
    simp only [getElem?_modify_ne _ _ _ _ hba]
    exact h.hole b hbn
theorem SR.store {a a' : Addr} (ha : AdR ρ a a' ∨ ρ a.block = none) {v v' : Value} (hv : VR S ρ v v') : SR P S ro ρ (store a v) (store a' v') fun _ _ _ => True := by
  intro s w hr ht hd hro
  refine and_assoc.1 ⟨?_, fun a s' hx => run_local _ (by exact trivial) s a s' hx⟩
  refine ⟨fun u s' hx => ?_, fun u s' hx => ?_⟩
  case refine_2 =>
    unfold Go.store at hx
    cases hc : s.cell? a with
    | none =>
      obtain ⟨e, he, tm⟩ := hr.noFarStore (a := a) P v (Mode.plain == .atomic)
      cases v <;> simp only [Sem.run, hc, he] at hx <;> cases hx <;> first | exact tm | trivial
    | some z =>
      cases hf : s.frozen? a with
      | true => cases v <;> simp only [Sem.run, hc, hf] at hx <;> cases hx <;> trivial
      | false => cases v <;> simp only [Sem.run, hc, hf] at hx <;> cases hx <;> trivial
  have key : s.cell? a ≠ none ∧ s.frozen? a = false ∧ s' = s.setCell a v ∧ (∀ x, v ≠ .agg x) ∧ (∀ x, v ≠ .tuple x) := by
    unfold Go.store at hx
    cases hc : s.cell? a with
    | none =>
      exfalso
      obtain ⟨e, he, -⟩ := hr.noFarStore (a := a) P v (Mode.plain == .atomic)
      cases v <;> simp only [Sem.run, hc, he] at hx <;> cases hx
    | some z =>
      cases hf : s.frozen? a with
      | true => exfalso; cases v <;> simp only [Sem.run, hc, hf] at hx <;> cases hx
      | false => cases v <;> simp only [Sem.run, hc, hf] at hx <;> cases hx <;> exact ⟨by simp, rfl, rfl, by simp, by simp⟩
  obtain ⟨hc, hf, rfl, n1, n2⟩ := key
  obtain ⟨z, hz⟩ := Option.ne_none_iff_exists'.1 hc
  obtain ⟨c, v₀, h1, h2, h3, hsp0, hgt⟩ := hr.cell hz
  have he : a' = { a with block := c } := by
    rcases ha with ⟨k1, k2, k3⟩ | k
    · rw [h1] at k1; cases k1
      cases a; cases a'; simp at k2 k3 ⊢; exact ⟨k2, k3⟩
    · rw [h1] at k; cases k
  obtain ⟨o, o', r1, r2, r0⟩ := hr.row _ _ h1
  obtain ⟨cs, cs', e, fz', rfl, rfl, r3, r4, r5⟩ : ∃ cs cs' e fz', o = .cells cs e (0, (ro a.block).hi cs.size) ∧ o' = .cells cs' e fz' ∧ cs.size ≤ cs'.size ∧ (∀ (i : Nat) (v : Value), cs[i]? = some v → ∃ v', cs'[i]? = some v' ∧ VR S ρ v v') ∧ ((ro a.block).isRead = false → cs.size = cs'.size ∧ fz' = (0, 0)) := by
    cases r0 with
    | cells h3 h4 h5 _ => exact ⟨_, _, _, _, rfl, rfl, h3, h4, h5⟩
    | number _ _ =>
      unfold World.cell? at hz
      rw [r1] at hz
      cases hz
  have hsp : a.spot = none := by
    unfold World.cell? at hz
    rw [r1] at hz
    simp only at hz
    cases hs : a.spot with
    | none => rfl
    | some _ => simp [hs] at hz
  have hoff : a.off < cs.size := by
    unfold World.cell? at hz
    rw [r1] at hz
    simp only [hsp] at hz
    exact (Array.getElem?_eq_some_iff.1 (by simpa using hz)).1
  have hlets : (ro a.block).lets a.off := by
    refine Md.lets_of (n := cs.size) (fun h => ?_) hoff
    unfold World.frozen? at hf
    rw [r1] at hf
    simp at hf
    omega
  have hrb : (ro a.block).isRead = false := by cases hm : ro a.block with
    | read n => rw [hm] at hlets; exact hlets.elim
    | all => rfl
    | part f => rfl
  obtain ⟨r6, rfl⟩ := r5 hrb
  have hf' : w.frozen? a' = false := by rw [he]; simp [World.frozen?, r2]
  have h2' : w.cell? a' = some v₀ := by rw [he]; exact h2
  have m1 : (∀ x, v' ≠ .agg x) ∧ (∀ x, v' ≠ .tuple x) := by
    cases hv <;> first | exact absurd rfl (n1 _) | exact absurd rfl (n2 _) | exact ⟨‹∀ x, v' ≠ Value.agg x›, ‹∀ x, v' ≠ Value.tuple x›⟩ | exact ⟨by simp, by simp⟩
  have hone : v'.oneCell' = true := by
    obtain ⟨m1, m2⟩ := m1
    cases v' <;> first | rfl | exact absurd rfl (m1 _) | exact absurd rfl (m2 _)
  have hrun : (Go.store a' v').run P w = .ok () (w.setCell a' v') := by
    obtain ⟨m1, m2⟩ := m1
    unfold Go.store
    cases v' <;> first | exact absurd rfl (m1 _) | exact absurd rfl (m2 _) | (simp only [Sem.run, h2', hf']; rfl)
  refine ⟨ρ, (), w.setCell a' v', hrun, ?_, trivial⟩
  rw [events_store _ _ _ a' v' .plain hone]
  simp only [h2', hf']
  refine ⟨.refl _, by rw [he]; exact hr.setCell h1 hrb hsp r1 hv, ht, hd, rfl, rfl, rfl, by simp [World.setCell], fun d hd' hb => ?_, fun b d f hb hf₀ ds de dz hds => ?_, fun _ _ h => .inl h, fun e he' => ?_, by simp [World.setCell], rfl, rfl, fun k1 k2 => ⟨by simpa [World.setCell] using k1, k2⟩⟩
  · have hcd : a'.block ≠ d := fun e => by
      have := hb a.block (by rw [← e, he]; exact h1)
      rw [hrb] at this; cases this
    rw [World.setCell]; exact getElem?_modify_ne _ _ _ _ hcd
  · by_cases hcd : a'.block = d
    · have hba : b = a.block := hr.inj _ _ _ hb (by rw [← hcd, he]; exact h1)
      subst hba
      rw [hf₀] at hlets
      refine ⟨ds.setIfInBounds a'.off v', ?_, by simp, fun i hi => ?_⟩
      · have hsp' : a'.spot = none := by rw [he]; exact hsp
        subst hcd
        simp [World.setCell, Array.getElem?_modify, hds, hsp']
      · have : a'.off ≠ i := by rw [he]; simp only [Md.lets] at hlets; show a.off ≠ i; omega
        rw [Array.getElem?_setIfInBounds_ne this]
    · refine ⟨ds, ?_, rfl, fun _ _ => rfl⟩
      rw [World.setCell]; exact (getElem?_modify_ne _ _ _ _ hcd).trans hds
  · simp at he'
    subst he'
    exact .inl ⟨a', a.block, true, rfl, by rw [he]; exact h1, fun _ => (by rw [he]; exact hlets), by rw [he]; exact hgt, by rw [he]; exact hsp0⟩
theorem HR.push {s w : World} (hr : HR P.globals.size S ro ρ s w) (hro : ∀ b, s.heap.size ≤ b → ro b = .all) {o o' : Obj} (ho : ∀ ρ', Ext ρ ρ' → OR S .all ρ' o o') :
    Ext ρ (addTo ρ s.heap.size w.heap.size) ∧ HR P.globals.size S ro (addTo ρ s.heap.size w.heap.size) { s with heap := s.heap.push o } { w with heap := w.heap.push o' } := by
  have hlt : ∀ b c, ρ b = some c → b < s.heap.size ∧ c < w.heap.size := fun b c hb => by
    obtain ⟨x, _, h1, h2, _⟩ := hr.row _ _ hb
    exact ⟨(Array.getElem?_eq_some_iff.1 h1).1, (Array.getElem?_eq_some_iff.1 h2).1⟩
  have hext : Ext ρ (addTo ρ s.heap.size w.heap.size) := fun b c hb => by
    unfold addTo
    rw [if_neg (by have := (hlt b c hb).1; omega)]; exact hb
  refine ⟨hext, ⟨fun b b' c hb hb' => ?_, fun b c hb => ?_, fun b hb => ?_, fun b c hb => ?_, ?_, ?_⟩⟩
  · unfold addTo at hb hb'
    split at hb <;> split at hb'
    · omega
    · cases hb; have := (hlt _ _ hb').2; omega
    · cases hb'; have := (hlt _ _ hb).2; omega
    · exact hr.inj _ _ _ hb hb'
  · unfold addTo at hb
    split at hb
    · rename_i hbs
      cases hb; subst hbs
      refine ⟨o, o', by simp, by simp, ?_⟩
      rw [hro _ (Nat.le_refl _)]; exact ho _ hext
    · obtain ⟨x, x', h1, h2, h3⟩ := hr.row _ _ hb
      have hl := hlt b c hb
      refine ⟨x, x', ?_, ?_, ?_⟩
      · simp only [Array.getElem?_push]; rw [if_neg (by omega)]; exact h1
      · simp only [Array.getElem?_push]; rw [if_neg (by omega)]; exact h2
      · exact h3.mono hext
  · unfold addTo at hb
    split at hb
    · cases hb
    · rename_i hne
      simp only [Array.getElem?_push]; rw [if_neg hne]; exact hr.hole b hb
  · unfold addTo at hb
    split at hb
    · rename_i hbs
      cases hb; subst hbs
      exact ⟨hr.gs, hr.gw⟩
    · exact hr.low _ _ hb
  · simp; exact Nat.le_succ_of_le hr.gs
  · simp; exact Nat.le_succ_of_le hr.gw
theorem Mv.push {s w : World} (hr : HR P.globals.size S ro ρ s w) (ht : s.tape = w.tape) (hd : s.drawn = w.drawn) (hro : ∀ b, s.heap.size ≤ b → ro b = .all) {o o' : Obj} (ho : ∀ ρ', Ext ρ ρ' → OR S .all ρ' o o') :
    Mv P.globals.size S ro ρ s w (addTo ρ s.heap.size w.heap.size) { s with heap := s.heap.push o } { w with heap := w.heap.push o' } #[] := by
  obtain ⟨h1, h2⟩ := hr.push hro ho
  refine ⟨h1, h2, ht, hd, rfl, rfl, rfl, by simp, fun c hc _ => ?_, fun b c f hb _ cs e fz hc => ?_, fun b c hb => ?_, by simp, by simp, rfl, rfl, fun k1 k2 => ⟨by simpa using k1, fun b c hb => ?_⟩⟩
  · simp only [Array.getElem?_push]; rw [if_neg (by omega)]
  · refine ⟨cs, ?_, rfl, fun _ _ => rfl⟩
    have hlt := (Array.getElem?_eq_some_iff.1 hc).1
    simp only [Array.getElem?_push]; rw [if_neg (by omega)]; exact hc
  · unfold addTo at hb
    split at hb
    · rename_i hbs
      cases hb; subst hbs
      exact .inr ⟨Nat.le_refl _, hro _ (Nat.le_refl _)⟩
    · exact .inl hb
  · unfold addTo at hb
    split at hb
    · rename_i hbs
      cases hb; subst hbs
      exact k1.symm
    · exact k2 b c hb
theorem SR.newRow {e : TypeId} {cs cs' : Array Value} (h : AR S ρ cs cs') : SR P S ro ρ (newRow e cs) (newRow e cs') fun ρ' a a' => AdR ρ' a a' := by
  intro s w hr ht hd hro
  refine and_assoc.1 ⟨?_, fun a s' hx => run_local _ (by exact NoSys.bind (by exact fun _ => trivial) (by exact fun _ => trivial)) s a s' hx⟩
  refine ⟨fun a s' hx => ?_, fun _ _ hx => by simp only [Go.newRow, newObj, Sem.run_bind] at hx; cases hx⟩
  have hx' : a = ⟨s.heap.size, 0, none⟩ ∧ s' = { s with heap := s.heap.push (.cells cs e) } := by
    simp only [Go.newRow, newObj, Sem.run_bind] at hx
    cases hx; exact ⟨rfl, rfl⟩
  obtain ⟨rfl, rfl⟩ := hx'
  exact ⟨addTo ρ s.heap.size w.heap.size, ⟨w.heap.size, 0, none⟩, { w with heap := w.heap.push (.cells cs' e) }, rfl,
    Mv.push hr ht hd hro fun _ he => .cells (ro := .all) (by rw [h.size]; exact Nat.le_refl _) (fun i v hv => (h.mono he).get hv) (fun _ => ⟨h.size, rfl⟩) (fun _ e => by cases e), ⟨by simp [addTo], rfl, rfl⟩⟩
theorem SR.newNumber {a a' : Addr} {lost : Bool} (h : AdR ρ a a') : SR P S ro ρ (asNumber a lost) (asNumber a' lost) fun ρ' v v' => VR S ρ' v v' := by
  intro s w hr ht hd hro
  refine and_assoc.1 ⟨?_, fun a s' hx => run_local _ (by exact NoSys.bind (by exact fun _ => trivial) (by exact fun _ => trivial)) s a s' hx⟩
  refine ⟨fun v s' hx => ?_, fun _ _ hx => by simp only [asNumber, newObj, Sem.run_bind] at hx; cases hx⟩
  have hx' : v = .pointer (some ⟨s.heap.size, 0, none⟩) ∧ s' = { s with heap := s.heap.push (.number a lost) } := by
    simp only [asNumber, newObj, Sem.run_bind] at hx
    cases hx; exact ⟨rfl, rfl⟩
  obtain ⟨rfl, rfl⟩ := hx'
  exact ⟨addTo ρ s.heap.size w.heap.size, .pointer (some ⟨w.heap.size, 0, none⟩), { w with heap := w.heap.push (.number a' lost) }, rfl,
    Mv.push hr ht hd hro fun _ he => .number (h.mono he) rfl, .ptr 0 none (by simp [addTo])⟩
theorem SR.choose {q : Question} : SR P S ro ρ (choose q) (choose q) fun _ a b => a = b := by
  intro s w hr ht hd hro
  refine and_assoc.1 ⟨?_, fun a s' hx => run_local _ (by exact fun _ => trivial) s a s' hx⟩
  refine ⟨fun a s' hx => ?_, fun _ _ hx => by simp only [Go.choose, Sem.run] at hx; split at hx <;> cases hx⟩
  simp only [Go.choose, Sem.run] at hx
  split at hx
  · rename_i hq
    cases hx
    refine ⟨ρ, 0, w, by simp [Go.choose, Sem.run, hq], ?_, rfl⟩
    rw [events_choose]; exact Mv.refl hr ht hd
  · rename_i hq
    cases hx
    refine ⟨ρ, q.cut (w.tape w.drawn q), { w with drawn := w.drawn + 1 }, by simp [Go.choose, Sem.run, hq], ?_, by rw [ht, hd]⟩
    rw [events_choose]
    exact ⟨.refl _, ⟨hr.inj, hr.row, hr.hole, hr.low, hr.gs, hr.gw⟩, ht, by simp [hd], rfl, rfl, rfl, Nat.le_refl _, fun _ _ _ => rfl, fun _ _ _ _ _ cs _ _ hc => ⟨cs, hc, rfl, fun _ _ => rfl⟩, fun _ _ h => .inl h, by simp, Nat.le_refl _, rfl, rfl, fun a b => ⟨a, b⟩⟩
theorem SR.mark {m : Mark} (hm : m = .noRoom) : SR P S ro ρ (mark m) (mark m) fun _ _ _ => True := by
  subst hm
  intro s w hr ht hd hro
  refine and_assoc.1 ⟨?_, fun a s' hx => run_local _ (by exact trivial) s a s' hx⟩
  refine ⟨fun a s' hx => ?_, fun _ _ hx => by cases hx⟩
  cases hx
  refine ⟨ρ, (), w, rfl, ?_, trivial⟩
  rw [events_mark]
  exact { Mv.refl hr ht hd with evs := fun e he => by simp at he; subst he; exact .inr (.inl rfl) }
theorem SR.shape {r r' : Nat} (h : ρ r = some r') : SR P S ro ρ (shape r) (shape r') fun ρ' a b => (∃ e n n', a = some (e, n) ∧ b = some (e, n') ∧ n ≤ n') ∨ (a = none ∧ b = none) := by
  intro s w hr ht hd hro
  refine and_assoc.1 ⟨?_, fun a s' hx => run_local _ (by exact fun _ => trivial) s a s' hx⟩
  refine ⟨fun a s' hx => ?_, fun _ _ hx => by cases hx⟩
  cases hx
  refine ⟨ρ, w.shape? r', w, rfl, Mv.refl hr ht hd, ?_⟩
  obtain ⟨o, o', h1, h2, h3⟩ := hr.row _ _ h
  unfold World.shape?
  rw [h1, h2]
  cases h3 with
  | cells h3 h4 h5 _ => exact .inl ⟨_, _, _, rfl, rfl, h3⟩
  | number h _ => exact .inr ⟨rfl, rfl⟩
theorem SR.getObj {r r' : Nat} (h : ρ r = some r') : SR P S ro ρ (getObj r) (getObj r') fun ρ' a b => ∃ x x' l, a = .number x l ∧ b = .number x' l ∧ AdR ρ' x x' := by
  intro s w hr ht hd hro
  refine and_assoc.1 ⟨?_, fun a s' hx => run_local _ (by exact fun _ => trivial) s a s' hx⟩
  obtain ⟨o, o', h1, h2, h3⟩ := hr.row _ _ h
  cases h3 with
  | cells h3 h4 h5 _ => exact ⟨fun a s' hx => (by simp only [Go.getObj, Sem.run, h1] at hx; cases hx), fun _ _ hx => by simp only [Go.getObj, Sem.run, h1] at hx; cases hx; trivial⟩
  | number h hall =>
    refine ⟨fun a s' hx => ?_, fun _ _ hx => by simp only [Go.getObj, Sem.run, h1] at hx; cases hx⟩
    simp only [Go.getObj, Sem.run, h1] at hx
    cases hx
    refine ⟨ρ, _, w, by simp only [Go.getObj, Sem.run, h2], ?_, _, _, _, rfl, rfl, h⟩
    have hev : (Go.getObj r').events P w #[] = #[⟨.obj r', false, false⟩] := by simp only [Go.getObj, Sem.events, Sem.runT, h2, Obj.isChan]; rfl
    rw [hev]
    exact { Mv.refl hr ht hd with evs := fun e he => by simp at he; subst he; exact .inr (.inr ⟨r', r, rfl, by assumption, hall⟩) }
theorem SR.viewAt {r r' : Nat} (h : ρ r = some r') : SR P S ro ρ (viewAt r) (viewAt r') fun _ a b => a = none ∧ b = none := by
  unfold Go.viewAt
  refine SR.bind (SR.shape h) fun ρ' a b he hab => ?_
  rcases hab with ⟨e, n, n', rfl, rfl, _⟩ | ⟨rfl, rfl⟩
  · exact SR.pure ⟨rfl, rfl⟩
  · refine SR.bind (SR.getObj (he _ _ h)) fun ρ₂ o o' _ ho => ?_
    obtain ⟨x, x', l, rfl, rfl, _⟩ := ho
    exact SR.pure ⟨rfl, rfl⟩
theorem SR.numberAt {r r' : Nat} (h : ρ r = some r') : SR P S ro ρ (numberAt r) (numberAt r') fun ρ' a b => (a = none ∧ b = none) ∨ ∃ x x' l, a = some (x, l) ∧ b = some (x', l) ∧ AdR ρ' x x' := by
  unfold Go.numberAt
  refine SR.bind (SR.shape h) fun ρ' a b he hab => ?_
  rcases hab with ⟨e, n, n', rfl, rfl, _⟩ | ⟨rfl, rfl⟩
  · exact SR.pure (.inl ⟨rfl, rfl⟩)
  · refine SR.bind (SR.getObj (he _ _ h)) fun ρ₂ o o' _ ho => ?_
    obtain ⟨x, x', l, rfl, rfl, hx⟩ := ho
    exact SR.pure (.inr ⟨x, x', l, rfl, rfl, hx⟩)
theorem SR.behindNumber {n n' : Addr} (h : AdR ρ n n') : SR P S ro ρ (behindNumber n) (behindNumber n') fun ρ' a b => AdR ρ' a.1 b.1 ∧ a.2 = b.2 := by
  unfold Go.behindNumber
  refine SR.bind (SR.numberAt h.1) fun ρ' a b he hab => ?_
  rcases hab with ⟨rfl, rfl⟩ | ⟨x, x', l, rfl, rfl, hx⟩
  · exact SR.pure ⟨h.mono he, rfl⟩
  · exact SR.pure ⟨hx, rfl⟩
theorem SR.noView {a a' : Addr} (h : AdR ρ a a') : SR P S ro ρ (noView a) (noView a') fun _ _ _ => True := by
  unfold Go.noView
  refine SR.bind (SR.viewAt h.1) fun ρ' a b he hab => ?_
  obtain ⟨rfl, rfl⟩ := hab
  exact SR.pure trivial
theorem SR.byteOf {a a' : Addr} (h : AdR ρ a a') : SR P S ro ρ (byteOf a) (byteOf a') fun _ x y => x = y := by
  unfold Go.byteOf
  rw [h.2.2]
  cases a.spot with
  | some s => exact SR.pure rfl
  | none =>
    refine SR.bind SR.program fun ρ' p p' he hp => ?_
    obtain ⟨rfl, rfl⟩ := hp
    refine SR.bind (SR.noView (h.mono he)) fun ρ₂ _ _ he₂ _ => ?_
    refine SR.bind (SR.shape ((h.mono he).mono he₂).1) fun ρ₃ x y he₃ hxy => ?_
    rcases hxy with ⟨e, n, n', rfl, rfl, _⟩ | ⟨rfl, rfl⟩
    · simp only [h.2.1]
      split
      · exact SR.pure rfl
      · split
        · exact SR.pure rfl
        · exact SR.stuck
    · exact SR.stuck
theorem SR.typeInfo (t : TypeId) : SR P S ro ρ (typeInfo t) (typeInfo t) fun _ a b => a = b ∧ P.info? t = some a := by
  intro s w hr ht hd hro
  refine and_assoc.1 ⟨?_, fun a s' hx => run_local _ (by exact NoSys.bind (by exact fun _ => trivial) fun _ => (by split <;> exact trivial)) s a s' hx⟩
  cases hi : P.info? t with
  | none => exact ⟨fun a s' hx => (by simp only [Go.typeInfo, Sem.run_bind, run_program, Result.andThen, hi] at hx; cases hx), fun _ _ hx => by simp only [Go.typeInfo, Sem.run_bind, run_program, Result.andThen, hi] at hx; cases hx; trivial⟩
  | some i =>
    refine ⟨fun a s' hx => ?_, fun _ _ hx => by simp only [Go.typeInfo, Sem.run_bind, run_program, Result.andThen, hi] at hx; cases hx⟩
    simp only [Go.typeInfo, Sem.run_bind, run_program, Result.andThen, hi] at hx; cases hx
    refine ⟨ρ, _, w, ?_, ?_, rfl, rfl⟩
    · simp only [Go.typeInfo, Sem.run_bind, run_program, Result.andThen, hi]; rfl
    · rw [events_typeInfo]; exact Mv.refl hr ht hd
theorem SR.underlying (t : TypeId) : SR P S ro ρ (underlying t) (underlying t) fun _ a b => a = b ∧ P.underlying t = some a := by
  intro s w hr ht hd hro
  refine and_assoc.1 ⟨?_, fun a s' hx => run_local _ (by exact NoSys.bind (by exact fun _ => trivial) fun _ => (by split <;> exact trivial)) s a s' hx⟩
  cases hi : P.underlying t with
  | none => exact ⟨fun a s' hx => (by simp only [Go.underlying, Sem.run_bind, run_program, Result.andThen, hi] at hx; cases hx), fun _ _ hx => by simp only [Go.underlying, Sem.run_bind, run_program, Result.andThen, hi] at hx; cases hx; trivial⟩
  | some i =>
    refine ⟨fun a s' hx => ?_, fun _ _ hx => by simp only [Go.underlying, Sem.run_bind, run_program, Result.andThen, hi] at hx; cases hx⟩
    simp only [Go.underlying, Sem.run_bind, run_program, Result.andThen, hi] at hx; cases hx
    refine ⟨ρ, _, w, ?_, ?_, rfl, rfl⟩
    · simp only [Go.underlying, Sem.run_bind, run_program, Result.andThen, hi]; rfl
    · rw [events_underlying]; exact Mv.refl hr ht hd
theorem SR.sizeOf (t : TypeId) : SR P S ro ρ (sizeOf t) (sizeOf t) fun _ a b => a = b := by
  unfold Go.sizeOf
  exact SR.bind (SR.typeInfo t) fun _ a b _ h => by obtain ⟨rfl, _⟩ := h; exact SR.pure rfl
theorem SR.isAgg (t : TypeId) : SR P S ro ρ (isAgg t) (isAgg t) fun _ a b => a = b := by
  unfold Go.isAgg
  refine SR.bind (SR.underlying t) fun _ a b _ h => ?_
  obtain ⟨rfl, _⟩ := h
  split <;> exact SR.pure rfl
def ZeroOk (P : Program) (S : FuncId → Prop) (t : TypeId) : Prop := ∀ i v, P.info? t = some i → i.zero = some v → ∀ ρ, VR S ρ v v
theorem SR.zeroValue {t : TypeId} (hz : ZeroOk P S t) : SR P S ro ρ (zeroValue t) (zeroValue t) fun ρ' a b => VR S ρ' a b := by
  unfold Go.zeroValue
  refine SR.bind (SR.typeInfo t) fun ρ' a b _ h => ?_
  obtain ⟨rfl, hi⟩ := h
  split
  · rename_i v hv; exact SR.pure (hz _ _ hi hv ρ')
  · exact SR.unsupported trivial
end
end Go.Proofs.Ytpfpokjaeffbjab.Cc
namespace Go.Proofs.Ytpfpokjaeffbjab.Cc
set_option linter.unusedVariables false
section
variable {P : Program} {S : FuncId → Prop} {ro : Nat → Md} {ρ : Nat → Option Nat} {v v' u u' : Value}
def Calm {α : Type} (P : Program) (x : Sem α) : Prop := ∀ s h s', x.run P s = .halt h s' → Tame h
theorem Calm.bind {α β : Type} {x : Sem α} {f : α → Sem β} (h : Calm P x) (k : ∀ a, Calm P (f a)) : Calm P (x >>= f) := fun s c s' e => by
  rw [Sem.run_bind] at e
  cases h1 : x.run P s with
  | halt c' s₁ => rw [h1] at e; cases e; exact h s _ _ h1
  | ok a s₁ => rw [h1] at e; exact k a _ _ _ e
theorem Calm.pure {α : Type} (a : α) : Calm P (Pure.pure a : Sem α) := fun s h s' e => by cases e
theorem Calm.underlying (t : TypeId) : Calm P (Go.underlying t) := fun s h s' e => by
  cases hi : P.underlying t <;> (simp only [Go.underlying, Sem.run_bind, run_program, Result.andThen, hi] at e; cases e)
  trivial
theorem Calm.elemOf (t : TypeId) : Calm P (Go.elemOf t) := by
  unfold Go.elemOf
  exact Calm.bind (Calm.underlying t) fun d => by
    split
    · exact Calm.pure _
    · intro s h s' e; cases e; trivial
theorem Calm.choose (q : Question) : Calm P (Go.choose q) := fun s h s' e => by simp only [Go.choose, Sem.run] at e; split at e <;> cases e
theorem Calm.newVar (t : TypeId) (v : Value) : Calm P (Go.newVar t v) := fun s h s' e => by
  simp only [Go.newVar, Go.newRow, newObj, Sem.run_bind] at e; cases e
theorem Calm.program : Calm P program := fun s h s' e => by cases e
theorem Never.goPanic {α : Type} (v : Value) : Never P (goPanic v : Sem α) := Never.halt trivial
theorem Never.panic {α : Type} (e : RuntimeError) : Never P (runtimePanic e : Sem α) := by
  unfold runtimePanic
  refine Never.after (fun s h s' e => Calm.program s h s' e) fun p => ?_
  cases e <;> first
    | exact Never.goPanic _
    | exact Never.after (fun s h s' e => Calm.elemOf _ s h s' e) fun _ => Never.after (fun s h s' e => Calm.newVar _ _ s h s' e) fun _ => Never.goPanic _
theorem Never.bounds {α : Type} {k : IntKind} {x y : Int} {c : BoundsCode} : Never P (boundsPanic k x y c : Sem α) := by
  unfold boundsPanic
  dsimp only
  split
  · refine Never.after (fun s h s' e => ?_) fun _ => Never.panic _
    exact (Calm.bind (Calm.choose _) fun a => Calm.pure (a == 1)) s h s' e
  · exact Never.after (fun s h s' e => Calm.pure _ s h s' e) fun _ => Never.panic _
theorem SR.panic {α β : Type} {e : RuntimeError} {y : Sem β} {V : (Nat → Option Nat) → α → β → Prop} : SR P S ro ρ (runtimePanic e : Sem α) y V := SR.never (Never.panic e)
theorem SR.bounds {α β : Type} {k : IntKind} {x y : Int} {c : BoundsCode} {z : Sem β} {V : (Nat → Option Nat) → α → β → Prop} : SR P S ro ρ (boundsPanic k x y c : Sem α) z V := SR.never Never.bounds
theorem SR.stuckBind {α β γ : Type} {m : String} {f : α → Sem β} {y : Sem γ} {V : (Nat → Option Nat) → β → γ → Prop} : SR P S ro ρ ((Go.stuck m : Sem α) >>= f) y V := SR.never Never.stuck.bind
theorem SR.unsupBind {α β γ : Type} {m : Unsupported} {f : α → Sem β} {y : Sem γ} {V : (Nat → Option Nat) → β → γ → Prop} (hm : Tame (.unsupported m)) : SR P S ro ρ ((Go.unsupported m : Sem α) >>= f) y V := SR.never (Never.bind (Never.halt hm))
theorem SR.panicBind {α β γ : Type} {e : RuntimeError} {f : α → Sem β} {y : Sem γ} {V : (Nat → Option Nat) → β → γ → Prop} : SR P S ro ρ ((runtimePanic e : Sem α) >>= f) y V := SR.never (Never.panic e).bind
theorem SR.asIntOf (h : VR S ρ v v') : SR P S ro ρ (asIntOf v) (asIntOf v') fun _ a b => a = b := by
  cases h <;> first | exact SR.pure rfl | exact SR.halt | exact SR.unsupported trivial
theorem SR.asInt (h : VR S ρ v v') : SR P S ro ρ (asInt v) (asInt v') fun _ a b => a = b := by
  unfold Go.asInt
  exact SR.bind (SR.asIntOf h) fun _ a b _ e => by subst e; exact SR.pure rfl
theorem SR.asBool (h : VR S ρ v v') : SR P S ro ρ (asBool v) (asBool v') fun _ a b => a = b := by
  cases h <;> first | exact SR.pure rfl | exact SR.halt
theorem SR.asAgg (h : VR S ρ v v') : SR P S ro ρ (asAgg v) (asAgg v') fun ρ' a b => AR S ρ' a b := by
  cases h <;> first | exact SR.pure ⟨by assumption, by assumption⟩ | exact SR.halt
theorem SR.sureAddr (h : VR S ρ v v') : SR P S ro ρ (Instr.sureAddr v) (Instr.sureAddr v') fun ρ' a b => AdR ρ' a b := by
  cases h with
  | ptr off sp h => exact SR.pure ⟨h, rfl, rfl⟩
  | _ => exact SR.halt
theorem SR.asAddr (h : VR S ρ v v') : SR P S ro ρ (asAddr v) (asAddr v') fun ρ' a b => AdR ρ' a b := by
  cases h with
  | ptr off sp h => exact SR.pure ⟨h, rfl, rfl⟩
  | nilPtr => show SR P S ro ρ (runtimePanic .nilDeref : Sem Addr) _ _; exact SR.panic
  | _ => exact SR.halt
theorem SR.loadCellsFrom {a a' : Addr} : ∀ (n i : Nat) {ρ : Nat → Option Nat} {acc acc' : Array Value}, AdR ρ a a' → AR S ρ acc acc' → SR P S ro ρ (loadCellsFrom a i n acc) (loadCellsFrom a' i n acc') fun ρ' x y => AR S ρ' x y
  | 0, _, _, _, _, _, h => SR.pure h
  | n + 1, i, ρ, acc, acc', ha, h => by
    unfold Go.loadCellsFrom
    exact SR.bind (SR.load (.inl (ha.add i))) fun ρ' x y he hxy => SR.loadCellsFrom n (i + 1) (ha.mono he) ((h.mono he).push hxy)
theorem SR.loadCells {a a' : Addr} (ha : AdR ρ a a') (n : Nat) : SR P S ro ρ (loadCells a n) (loadCells a' n) fun ρ' x y => AR S ρ' x y := SR.loadCellsFrom n 0 ha AR.empty
theorem SR.storeCells {a a' : Addr} : ∀ (l l' : List Value) (i : Nat) {ρ : Nat → Option Nat}, AdR ρ a a' → AR S ρ l.toArray l'.toArray → SR P S ro ρ (storeCells a l i) (storeCells a' l' i) fun _ _ _ => True
  | [], [], _, _, _, _ => SR.pure trivial
  | [], _ :: _, _, _, _, h => by have := h.size; simp at this
  | _ :: _, [], _, _, _, h => by have := h.size; simp at this
  | v :: l, v' :: l', i, ρ, ha, h => by
    unfold Go.storeCells
    have hv : VR S ρ v v' := h.at_ 0 v v' (by simp) (by simp)
    have hl : AR S ρ l.toArray l'.toArray := ⟨by have := h.size; simpa using this, fun j x y hx hy => h.at_ (j + 1) x y (by simpa using hx) (by simpa using hy)⟩
    exact SR.bind (SR.store (.inl (ha.add i)) hv) fun ρ' _ _ he _ => SR.storeCells l l' (i + 1) (ha.mono he) (hl.mono he)
theorem SR.loadVar {a a' : Addr} (t : TypeId) (ha : AdR ρ a a') : SR P S ro ρ (loadVar t a) (loadVar t a') fun ρ' x y => VR S ρ' x y := by
  unfold Go.loadVar
  refine SR.bind (SR.isAgg t) fun ρ' x y he e => ?_
  subst e
  split
  · refine SR.bind (SR.sizeOf t) fun ρ₂ n m he₂ e => ?_
    subst e
    exact SR.bind (SR.loadCells ((ha.mono he).mono he₂) n) fun _ _ _ _ h => SR.pure (VR.agg' h)
  · exact SR.load (.inl (ha.mono he))
theorem SR.storeVar {a a' : Addr} (t : TypeId) (ha : AdR ρ a a') (hv : VR S ρ v v') : SR P S ro ρ (storeVar t a v) (storeVar t a' v') fun _ _ _ => True := by
  unfold Go.storeVar
  refine SR.bind (SR.sizeOf t) fun ρ' n m he e => ?_
  subst e
  have hc := hv.cells
  rw [hc.size]
  split
  · exact SR.stuckBind
  · exact SR.storeCells _ _ 0 ((ha.mono he).mono (.refl _)) (by show AR S _ v.cells.toList.toArray v'.cells.toList.toArray; rw [Array.toArray_toList, Array.toArray_toList]; exact (hc.mono he))
theorem SR.part {t : TypeId} {cs cs' : Array Value} (h : AR S ρ cs cs') (off : Nat) : SR P S ro ρ (part t cs off) (part t cs' off) fun ρ' x y => VR S ρ' x y := by
  unfold Go.part
  refine SR.bind (SR.isAgg t) fun ρ' x y he e => ?_
  subst e
  split
  · refine SR.bind (SR.sizeOf t) fun ρ₂ n m he₂ e => ?_
    subst e
    exact SR.pure (VR.agg' (((h.mono he).mono he₂).extract _ _))
  · cases hc : cs[off]? with
    | none => exact SR.stuck
    | some v =>
      obtain ⟨v', hv', hr⟩ := h.get hc
      simp only [hv']
      exact SR.pure (hr.mono he)
theorem SR.alloc {t : TypeId} (hz : ZeroOk P S t) : SR P S ro ρ (Instr.alloc t true (.tuple #[])) (Instr.alloc t true (.tuple #[])) fun ρ' x y => VR S ρ' x y := by
  unfold Instr.alloc
  refine SR.bind (SR.zeroValue hz) fun ρ' x y he h => ?_
  exact SR.bind (SR.newRow h.cells) fun ρ₂ a b _ h => SR.pure (AdR.ptr h)
theorem SR.box {t : TypeId} (h : VR S ρ v v') : SR P S ro ρ (Instr.box t v) (Instr.box t v') fun ρ' x y => VR S ρ' x y := by
  unfold Instr.box
  exact SR.bind (SR.newRow h.cells) fun ρ₂ a b _ h => SR.pure (AdR.ptr h)
theorem foldl_set {cs cs' : Array Value} {off : Nat} : ∀ (l : List (Value × Nat)) (l' : List (Value × Nat)), l.length = l'.length → (∀ (i : Nat) (x y : Value × Nat), l[i]? = some x → l'[i]? = some y → VR S ρ x.1 y.1 ∧ x.2 = y.2) → AR S ρ cs cs' →
    AR S ρ (l.foldl (fun cs x => cs.setIfInBounds (off + x.2) x.1) cs) (l'.foldl (fun cs x => cs.setIfInBounds (off + x.2) x.1) cs')
  | [], [], _, _, h => h
  | [], _ :: _, e, _, _ => by simp at e
  | _ :: _, [], e, _, _ => by simp at e
  | x :: l, y :: l', e, hl, h => by
    obtain ⟨h1, h2⟩ := hl 0 x y rfl rfl
    simp only [List.foldl_cons]
    refine foldl_set l l' (by simpa using e) (fun i a b ha hb => hl (i + 1) a b ha hb) ?_
    rw [h2]; exact h.set _ h1
def PartsR (S : FuncId → Prop) (ρ : Nat → Option Nat) (l l' : List (Nat × Value)) : Prop := l.length = l'.length ∧ ∀ (i : Nat) (x y : Nat × Value), l[i]? = some x → l'[i]? = some y → x.1 = y.1 ∧ VR S ρ x.2 y.2
theorem PartsR.mono {ρ' : Nat → Option Nat} (e : Ext ρ ρ') {l l' : List (Nat × Value)} (h : PartsR S ρ l l') : PartsR S ρ' l l' := ⟨h.1, fun i x y hx hy => ⟨(h.2 i x y hx hy).1, (h.2 i x y hx hy).2.mono e⟩⟩
theorem fill_rel (place : Nat → Option (Nat × Nat)) : ∀ (l l' : List (Nat × Value)) (cs cs' : Array Value), PartsR S ρ l l' → AR S ρ cs cs' → ∀ r, Instr.fill place cs l = some r → ∃ r', Instr.fill place cs' l' = some r' ∧ AR S ρ r r'
  | [], [], cs, cs', _, h, r, hr => by
    simp only [Instr.fill] at hr; cases hr
    exact ⟨cs', rfl, h⟩
  | [], _ :: _, _, _, e, _, _, _ => by have := e.1; simp at this
  | _ :: _, [], _, _, e, _, _, _ => by have := e.1; simp at this
  | (i, v) :: l, (i', v') :: l', cs, cs', e, h, r, hr => by
    obtain ⟨h1, h2⟩ := e.2 0 _ _ rfl rfl
    simp only at h1 h2
    subst h1
    unfold Instr.fill at hr ⊢
    cases hp : place i with
    | none => rw [hp] at hr; cases hr
    | some q =>
      obtain ⟨off, size⟩ := q
      rw [hp] at hr
      simp only at hr ⊢
      rw [← h2.cells.size, ← h.size]
      split at hr
      · cases hr
      · rename_i hc
        rw [if_neg hc]
        refine fill_rel place l l' _ _ ⟨by have := e.1; simpa using this, fun j x y hx hy => e.2 (j + 1) x y hx hy⟩ ?_ r hr
        show AR S ρ (v.cells.zipIdx.foldl (fun cs x => cs.setIfInBounds (off + x.2) x.1) cs) (v'.cells.zipIdx.foldl (fun cs x => cs.setIfInBounds (off + x.2) x.1) cs')
        rw [← Array.foldl_toList, ← Array.foldl_toList]
        refine foldl_set _ _ (by simp [h2.cells.size]) (fun j x y hx hy => ?_) h
        rw [Array.getElem?_toList, Array.getElem?_zipIdx] at hx hy
        cases hvx : v.cells[j]? with
        | none => rw [hvx] at hx; cases hx
        | some a =>
          cases hvy : v'.cells[j]? with
          | none => rw [hvy] at hy; cases hy
          | some b =>
            rw [hvx] at hx; rw [hvy] at hy
            simp only [Option.map_some, Option.some.injEq] at hx hy
            subst hx hy
            exact ⟨h2.cells.at_ j a b hvx hvy, rfl⟩
theorem AR.getBang {z z' : Array Value} (h : AR S ρ z z') (i : Nat) : VR S ρ z[i]! z'[i]! := by
  rw [Array.getElem!_eq_getD, Array.getElem!_eq_getD, Array.getD_eq_getD_getElem?, Array.getD_eq_getD_getElem?]
  cases hz : z[i]? with
  | none => rw [h.none hz]; exact .bool false
  | some v => obtain ⟨v', hv', hr⟩ := h.get hz; rw [hv']; exact hr
theorem zeroRow_rel {z z' : Array Value} (h : AR S ρ z z') (n : Nat) : AR S ρ ((Array.range n).map (z[· % z.size]!)) ((Array.range n).map (z'[· % z'.size]!)) := by
  rw [← h.size]
  exact AR.map (fun i => h.getBang (i % z.size)) _
end
end Go.Proofs.Ytpfpokjaeffbjab.Cc
