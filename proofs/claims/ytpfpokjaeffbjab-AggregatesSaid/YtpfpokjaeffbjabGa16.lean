/- Part of the proof: Shadow, VisR, VisM, Go, ShK, AgH, AgB. -/
import Derived.Test.YtpfpokjaeffbjabGa9
import Derived.Test.YtpfpokjaeffbjabGa12
import Derived.Test.YtpfpokjaeffbjabGa15
import Derived.Test.YtpfpokjaeffbjabProg
namespace Go.Proofs.Ytpfpokjaeffbjab.Cc
open Go.Conc Go.ConcN
set_option linter.unusedVariables false
noncomputable def shadowOf (w : World) (vis : Nat → Option Nat) : World :=
  { w with heap := Array.ofFn (n := w.heap.size) fun b => match vis b.1, w.heap[b.1]? with
      | some n, some (.cells C e _) => .cells (C.extract 0 n) e (0, n)
      | _, _ => .coro none }
def idOf (vis : Nat → Option Nat) : Nat → Option Nat := fun b => if (vis b).isSome then some b else none
def roOf (vis : Nat → Option Nat) : Nat → Md := fun b => match vis b with | some n => .read n | none => .all
theorem shadow_size (w : World) (vis : Nat → Option Nat) : (shadowOf w vis).heap.size = w.heap.size := by simp [shadowOf]
theorem shadow_block {w : World} {vis : Nat → Option Nat} {b n : Nat} {C : Array Value} {e : TypeId} {fz : Nat × Nat} (hv : vis b = some n) (h : w.heap[b]? = some (.cells C e fz)) : (shadowOf w vis).heap[b]? = some (.cells (C.extract 0 n) e (0, n)) := by
  have hlt := lt_of_block h
  have he : w.heap[b] = .cells C e fz := by rw [Array.getElem?_eq_getElem hlt] at h; exact Option.some.inj h
  simp [shadowOf, hlt, hv, he]
theorem shadow_hole {w : World} {vis : Nat → Option Nat} {b : Nat} (hv : vis b = none) : (shadowOf w vis).heap[b]? = none ∨ ∃ x, (shadowOf w vis).heap[b]? = some (.coro x) := by
  rcases Nat.lt_or_ge b w.heap.size with h | h
  · exact .inr ⟨none, by simp [shadowOf, h, hv]⟩
  · exact .inl (by simp [shadowOf, h])
theorem idOf_some {vis : Nat → Option Nat} {b n : Nat} (h : vis b = some n) : idOf vis b = some b := by simp [idOf, h]
theorem idOf_inv {vis : Nat → Option Nat} {b c : Nat} (h : idOf vis b = some c) : b = c ∧ ∃ n, vis b = some n := by
  unfold idOf at h
  split at h
  · rename_i e; cases h; exact ⟨rfl, Option.isSome_iff_exists.1 e⟩
  · cases h
section
variable {q : Prm} {i : Nat} {S : FuncId → Bool}
def Sees (q : Prm) (S : FuncId → Bool) (i : Nat) (vis : Nat → Option Nat) (st : St Gho) : Prop :=
  ∀ b n, vis b = some n → q.P.globals.size ≤ b ∧ ((∀ off, st.γ.rd i (ca b off)) ∨ (n ≤ 3 ∧ ∃ s, st.γ.sc = some s ∧ b = s.Gb)) ∧
    ∃ C e fz, st.w.heap[b]? = some (.cells C e fz) ∧ n ≤ C.size ∧ ∀ (k : Nat) (v : Value), k < n → C[k]? = some v → VR (fun f => S f = true) (idOf vis) v v
theorem Sees.hr {vis : Nat → Option Nat} {st : St Gho} (h : Sees q S i vis st) (hi : Inv q st) : HR q.P.globals.size (fun f => S f = true) (roOf vis) (idOf vis) (shadowOf st.w vis) st.w where
  inj := fun b b' c h1 h2 => (idOf_inv h1).1.trans (idOf_inv h2).1.symm
  row := fun b c hb => by
    obtain ⟨rfl, n, hn⟩ := idOf_inv hb
    obtain ⟨-, -, C, e, fz, h1, h2, h3⟩ := h b n hn
    refine ⟨_, _, shadow_block hn h1, h1, ?_⟩
    have hsz : (C.extract 0 n).size = n := by simp; omega
    have hro : roOf vis b = .read n := by simp [roOf, hn]
    have : OR (fun f => S f = true) (roOf vis b) (idOf vis) (.cells (C.extract 0 n) e (0, (roOf vis b).hi (C.extract 0 n).size)) (.cells C e fz) := by
      refine .cells (by rw [hsz]; exact h2) (fun k v hk => ?_) (fun x => by rw [hro] at x; cases x) (fun m hm => by rw [hro] at hm; cases hm; exact hsz)
      have hlt := (Array.getElem?_eq_some_iff.1 hk).1
      rw [Array.getElem?_extract] at hk
      split at hk
      · simp at hk
        exact ⟨v, hk, h3 k v (by omega) hk⟩
      · cases hk
    rw [hro, Md.hi, hsz] at this
    rwa [hro]
  hole := fun b hb => shadow_hole (by
    cases hv : vis b with
    | none => rfl
    | some n => rw [idOf_some hv] at hb; cases hb)
  low := fun b c hb => by obtain ⟨rfl, n, hn⟩ := idOf_inv hb; exact ⟨(h b n hn).1, (h b n hn).1⟩
  gs := by rw [shadow_size]; exact hi.base.gsz
  gw := hi.base.gsz
theorem Sees.vis {vis : Nat → Option Nat} {st : St Gho} (h : Sees q S i vis st) (hi : Inv q st) (hlt : i < st.γ.num) (hw : i = 0 ∨ (st.γ.wk i).wg = .work ∧ ∃ s, st.γ.sc = some s ∧ s.n0 ≤ i) : Vis q i (roOf vis) (idOf vis) st := by
  refine ⟨hlt, hw, fun b c hb => ?_⟩
  obtain ⟨rfl, n, hn⟩ := idOf_inv hb
  have hro : roOf vis b = .read n := by simp [roOf, hn]
  rw [hro]
  obtain ⟨-, h2, -⟩ := h b n hn
  rcases h2 with h2 | ⟨h3, s, h4, rfl⟩
  · exact .inl h2
  · exact .inr (.inr ⟨h3, s, h4, rfl, (hi.scene s h4).c.head⟩)
theorem Sees.ro {vis : Nat → Option Nat} {st : St Gho} (h : Sees q S i vis st) : ∀ b, (shadowOf st.w vis).heap.size ≤ b → roOf vis b = .all := fun b hb => by
  unfold roOf
  cases hv : vis b with
  | none => rfl
  | some n =>
    obtain ⟨-, -, C, e, fz, h1, -⟩ := h b n hv
    have := lt_of_block h1
    rw [shadow_size] at hb
    omega
theorem Sees.rely {vis : Nat → Option Nat} {st st₁ : St Gho} (h : Sees q S i vis st) (hl : Live i st) (hr : Rl i st st₁) (hi : Inv q st) (hi₁ : Inv q st₁) (hsc : st₁.γ.sc = st.γ.sc) : Sees q S i vis st₁ := fun b n hv => by
  obtain ⟨h1, h2, C, e, fz, h3, h4, h5⟩ := h b n hv
  refine ⟨h1, h2.imp (fun h off => hr.rd hl _ (h off)) fun ⟨a, s, b, c⟩ => ⟨a, s, hsc.trans b, c⟩, ?_⟩
  rcases h2 with h2 | ⟨hn, s, hs, rfl⟩
  · exact ⟨C, e, fz, (hr.blk hl b (.inr h2)).trans h3, h4, h5⟩
  · obtain ⟨C0, a1, a2, a3, a4, a5⟩ := (hi.scene s hs).c.head
    obtain ⟨C1, b1, b2, b3, b4, b5⟩ := (hi₁.scene s (hsc.trans hs)).c.head
    rw [a1] at h3; cases h3
    refine ⟨C1, _, _, b1, by omega, fun k v hk hv => ?_⟩
    match k, hk with
    | 0, hk => rw [b3] at hv; exact h5 0 v hk (a3.trans hv)
    | 1, hk => rw [b4] at hv; exact h5 1 v hk (a4.trans hv)
    | 2, hk => rw [b5] at hv; exact h5 2 v hk (a5.trans hv)
    | k + 3, hk => omega
inductive Sol : Value → Prop
  | bool (b : Bool) : Sol (.bool b)
  | int (k : IntKind) (n : Int) : Sol (.int k n)
  | string (s : ByteArray) : Sol (.string s)
  | pointer (a : Option Addr) : Sol (.pointer a)
  | slice (a : Option Addr) (l c : Nat) : Sol (.slice a l c)
  | nilFunc : Sol .nilFunc
  | func {f : Fn} {x y : Array Value} (h1 : ∀ (i : Nat) (v : Value), x[i]? = some v → Sol v) (h2 : ∀ (i : Nat) (v : Value), y[i]? = some v → Sol v) : Sol (.func f x y)
  | agg {x : Array Value} (h : ∀ (i : Nat) (v : Value), x[i]? = some v → Sol v) : Sol (.agg x)
  | tuple {x : Array Value} (h : ∀ (i : Nat) (v : Value), x[i]? = some v → Sol v) : Sol (.tuple x)
def solB : Nat → Value → Bool
  | _, .bool _ | _, .int _ _ | _, .string _ | _, .pointer _ | _, .slice _ _ _ | _, .nilFunc => true
  | d + 1, .agg x | d + 1, .tuple x => x.all (solB d)
  | _, _ => false
theorem solB_sol : ∀ (d : Nat) (v : Value), solB d v = true → Sol v
  | 0, v, h => by cases v <;> first | exact .bool _ | exact .int _ _ | exact .string _ | exact .pointer _ | exact .slice _ _ _ | exact .nilFunc | cases h
  | d + 1, v, h => by
    cases v <;> first
      | exact .bool _
      | exact .int _ _
      | exact .string _
      | exact .pointer _
      | exact .slice _ _ _
      | exact .nilFunc
      | (rename_i x
         have h : x.all (solB d) = true := h
         first
           | exact .agg fun i v hv => solB_sol d v (Array.all_eq_true_iff_forall_mem.1 h v (Array.mem_of_getElem? hv))
           | exact .tuple fun i v hv => solB_sol d v (Array.all_eq_true_iff_forall_mem.1 h v (Array.mem_of_getElem? hv)))
      | cases h
theorem VR.same {ρ ρ' : Nat → Option Nat} (hid : ∀ b c, ρ b = some c → b = c) (he : Ext ρ ρ') {v v1 : Value} (hs : Sol v) (h : VR (fun f => S f = true) ρ v v) (h' : VR (fun f => S f = true) ρ' v v1) : v1 = v := by
  have key : ∀ {v v' : Value}, VR (fun f => S f = true) ρ v v' → v = v' → Sol v → ∀ v1, VR (fun f => S f = true) ρ' v v1 → v1 = v := by
    intro v v' h
    have arr : ∀ {x x' : Array Value}, x.size = x'.size → (∀ (i : Nat) (v v' : Value), x[i]? = some v → x'[i]? = some v' → v = v' → Sol v → ∀ v1, VR (fun f => S f = true) ρ' v v1 → v1 = v) → x = x' → (∀ (i : Nat) (v : Value), x[i]? = some v → Sol v) → ∀ {y : Array Value}, x.size = y.size → (∀ (i : Nat) (v v' : Value), x[i]? = some v → y[i]? = some v' → VR (fun f => S f = true) ρ' v v') → y = x := by
      intro x x' hx ih e hs y hy h2
      subst e
      refine Array.ext hy.symm fun i h1 h3 => ?_
      exact ih i _ _ (Array.getElem?_eq_getElem h3) (Array.getElem?_eq_getElem h3) rfl (hs i _ (Array.getElem?_eq_getElem h3)) _ (h2 i _ _ (Array.getElem?_eq_getElem h3) (Array.getElem?_eq_getElem h1))
    induction h with
    | bool b => intro _ _ v1 h; cases h; rfl
    | int k n => intro _ _ v1 h; cases h; rfl
    | string s => intro _ _ v1 h; cases h; rfl
    | nilPtr => intro _ _ v1 h; cases h; rfl
    | nilSlice l c => intro _ _ v1 h; cases h; rfl
    | nilFunc => intro _ _ v1 h; cases h; rfl
    | junk _ _ _ => intro _ hs; cases hs
    | @ptr b c off sp h =>
      intro _ _ v1 h1
      cases h1 with
      | ptr _ _ h2 =>
        have e1 := hid _ _ h
        subst e1
        have := he _ _ h; rw [h2] at this; cases this; rfl
    | @slice b c off sp l k h =>
      intro _ _ v1 h1
      cases h1 with
      | slice _ _ _ _ h2 =>
        have e1 := hid _ _ h
        subst e1
        have := he _ _ h; rw [h2] at this; cases this; rfl
    | @func f x y x' y' hf hx hy _ _ i1 i2 =>
      intro e hs v1 h1
      simp only [Value.func.injEq, true_and] at e
      cases hs with
      | func s1 s2 =>
        cases h1 with
        | @func _ _ _ x1 y1 hf' hx1 hy1 g1 g2 =>
          rw [arr hx i1 e.1 s1 hx1 g1, arr hy i2 e.2 s2 hy1 g2]
    | @agg x x' hx _ i1 =>
      intro e hs v1 h1
      simp only [Value.agg.injEq] at e
      cases hs with
      | agg s1 =>
        cases h1 with
        | agg hx1 g1 => rw [arr hx i1 e s1 hx1 g1]
    | @tuple x x' hx _ i1 =>
      intro e hs v1 h1
      simp only [Value.tuple.injEq] at e
      cases hs with
      | tuple s1 =>
        cases h1 with
        | tuple hx1 g1 => rw [arr hx i1 e s1 hx1 g1]
  exact key h rfl hs v1 h'
theorem idOf_id {vis : Nat → Option Nat} (b c : Nat) (h : idOf vis b = some c) : b = c := (idOf_inv h).1
end
end Go.Proofs.Ytpfpokjaeffbjab.Cc
namespace Go.Proofs.Ytpfpokjaeffbjab.Cc
open Go.Conc Go.ConcN
set_option linter.unusedVariables false
section
variable {q : Prm} {i : Nat}
def VisR (q : Prm) (i : Nat) (ro : Nat → Md) (st₀ : St Gho) (ρ : Nat → Option Nat) (st : St Gho) : Prop :=
  Vis q i ro ρ st ∧ Inv q st ∧ (∀ b c, ρ b = some c → ro b = .all → st₀.w.heap.size ≤ c) ∧ Rl i st₀ st
theorem grow_rl {st₀ st : St Gho} (h₀ : Inv q st₀) (hr : Rl i st₀ st) {w1 : World} {t : Trace} (hs : st.w.heap.size ≤ w1.heap.size) (hb : ∀ b, b < st₀.w.heap.size → w1.heap[b]? = st.w.heap[b]?) (hsc : i ≠ 0 → ∀ s, st₀.γ.sc = some s → s.Gb < st₀.w.heap.size) :
    Rl i st₀ ⟨w1, t, st.γ.grow i st.w.heap.size w1.heap.size⟩ := by
  have A := h₀.base.tr.apt
  refine ⟨Nat.le_trans hr.size hs, fun hl l h => .inl (hr.ex hl l h), hr.rd, fun hl b hx => ?_, hr.me, hr.main, hr.sc, hr.phi, hr.psi, fun a b c d s hs' off o1 o2 => ?_, hr.wdone, hr.hand, hr.num⟩
  · have hlt : b < st₀.w.heap.size := by
      rcases hx with hx | hx
      · exact A.low i _ (hx 0) b rfl
      · exact A.rlow i _ (hx 0) b rfl
    exact (hb b hlt).trans (hr.blk hl b hx)
  · refine Eq.trans ?_ (hr.work a b c d s hs' off o1 o2)
    show w1.cell? _ = st.w.cell? _
    unfold World.cell?
    rw [hb s.Gb (hsc a s hs')]
theorem own_visR (S : FuncId → Bool) (ro : Nat → Md) (st₀ : St Gho) (h₀ : Inv q st₀) : Own (cfg q) S ro i (VisR q i ro st₀) where
  stable := fun ρ st st₁ ⟨h1, h2, h3, h4⟩ hr hi => by
    obtain ⟨a, b⟩ := (own_vis S i ro).stable ρ st st₁ h1 hr hi
    exact ⟨⟨a, hi, h3, h4.trans hr⟩, b⟩
  lv := fun ρ st h => (own_vis S i ro).lv ρ st h.1
  step := fun ρ st s ρ1 s1 w1 es fn pos ⟨h1, h2, h3, h4⟩ hi m => by
    obtain ⟨a, b, c⟩ := own_step S i ro fn pos h1 h2 m
    refine ⟨st.γ.grow i st.w.heap.size w1.heap.size, a, rfl, b, fun k hk hw => hw, c, a, fun b' c' hb hro => ?_, ?_⟩
    · rcases m.fresh b' c' hb with h | h
      · exact h3 b' c' h hro
      · exact Nat.le_trans h4.size h.1
    · refine grow_rl h₀ h4 m.size (fun b' hb' => m.keep b' (Nat.lt_of_lt_of_le hb' h4.size) fun b'' hb'' => ?_) fun hne s hs => (h₀.scene s hs).c.lts.1
      have hv := h1.2.2 b'' b' hb''
      cases hm : ro b'' with
      | all => have := h3 b'' b' hb'' hm; omega
      | read n => rfl
      | part f => rw [hm] at hv; exact hv.elim
variable {s : Scene} {x : Wk} {S : FuncId → Bool} {Ch : Nat → Goroutine → St Gho → Prop}
theorem TT.call {P : Program} (hP : q.P = P) (F : FnsOk P S) {f : FuncId} (hS : S f = true) {vis : Nat → Option Nat} {st : St Gho} (hA : At s i x st) (hx : x.wg = .work) (hI : Inv q st) (hV : Sees q S i vis st) {args : Array Value} {v : Value}
    (ha : AR (fun f => S f = true) (idOf vis) args args) (hv : VR (fun f => S f = true) (idOf vis) v v) (hC : ∀ τ d, Calls P f args (World.on (shadowOf st.w vis) τ d) fun e w' => e = .returned v) {c : Frame} {cs : List Frame}
    (fin : ∀ st', Rl i st st' → Inv q st' → At s i x st' → TT (cfg q) i Ch (G (c.finish v) cs) st') (hs : solB 4 v = true := by first | rfl | simp [solB]) : TT (cfg q) i Ch (G (Frame.enter P f args .normal) (c :: cs)) st := by
  subst hP
  have hw : i = 0 ∨ (st.γ.wk i).wg = .work ∧ ∃ s, st.γ.sc = some s ∧ s.n0 ≤ i := .inr ⟨by rw [hA.me]; exact hx, s, hA.sc, hA.lo⟩
  have hVR : VisR q i (roOf vis) st (idOf vis) st := by
    refine ⟨hV.vis hI hA.lt hw, hI, fun b c hb hro => ?_, Rl.refl i st⟩
    obtain ⟨rfl, n, hn⟩ := idOf_inv hb
    simp [roOf, hn] at hro
  refine lift_call (C := cfg q) F (own_visR S (roOf vis) st hI) (R := fun v' _ => v' = v) hS ha (hV.hr hI) hVR hV.ro (fun τ d => (hC τ d).mono fun e w' h => ⟨v, h, rfl⟩) ?_
  rintro ρ' v1 v' s' st' he hvr ⟨_, _, hv1⟩ hH' ⟨_, hI', _, hr⟩
  have hv1 : v1 = v := hv1
  subst hv1
  have e := VR.same idOf_id he (solB_sol _ _ hs) hv hvr
  rw [e]
  exact fin st' hr hI' (hA.rely (by rw [hx]; simp) hr hI')
def noVis : Nat → Option Nat := fun _ => none
theorem noVis_sees {st : St Gho} : Sees q S i noVis st := fun b n h => by cases h
end
end Go.Proofs.Ytpfpokjaeffbjab.Cc
namespace Go.Proofs.Ytpfpokjaeffbjab.Cc
open Go.Conc Go.ConcN
set_option linter.unusedVariables false
structure Mn (X : Nat → Prop) (st₀ st : St Gho) : Prop where
  size : st₀.w.heap.size ≤ st.w.heap.size
  ex : ∀ l, st₀.γ.ex 0 l → st.γ.ex 0 l
  rd : ∀ l, st₀.γ.rd 0 l → st.γ.rd 0 l
  blk : ∀ b, ¬ X b → (∀ off, st₀.γ.ex 0 (ca b off)) ∨ (∀ off, st₀.γ.rd 0 (ca b off)) → st.w.heap[b]? = st₀.w.heap[b]?
  main : st.γ.mw = st₀.γ.mw ∧ st.γ.dm = st₀.γ.dm ∧ st.γ.num = st₀.γ.num ∧ ∀ b, st.γ.dead b ↔ st₀.γ.dead b
  sc : st.γ.sc = st₀.γ.sc
section
variable {q : Prm} {X : Nat → Prop}
theorem Mn.refl (st : St Gho) : Mn X st st := ⟨Nat.le_refl _, fun _ h => h, fun _ h => h, fun _ _ _ => rfl, ⟨rfl, rfl, rfl, fun _ => .rfl⟩, rfl⟩
theorem Mn.rely {st₀ st st₁ : St Gho} (h : Mn X st₀ st) (hr : Rl 0 st st₁) : Mn X st₀ st₁ := by
  obtain ⟨a, b, c, d⟩ := h.main
  obtain ⟨a', b', c', d'⟩ := hr.main rfl
  exact ⟨Nat.le_trans h.size hr.size, fun l x => hr.ex (.inl rfl) l (h.ex l x), fun l x => hr.rd (.inl rfl) l (h.rd l x), fun b hX hx => (hr.blk (.inl rfl) b (hx.imp (fun f off => h.ex _ (f off)) fun f off => h.rd _ (f off))).trans (h.blk b hX hx),
    ⟨a'.trans a, b'.trans b, c'.trans c, fun x => (d' x).trans (d x)⟩, (hr.sc (.inl rfl)).trans h.sc⟩
theorem Mn.trans {st₀ st st₁ : St Gho} (h : Mn X st₀ st) (k : Mn X st st₁) : Mn X st₀ st₁ := by
  obtain ⟨a, b, c, d⟩ := h.main
  obtain ⟨a', b', c', d'⟩ := k.main
  exact ⟨Nat.le_trans h.size k.size, fun l x => k.ex l (h.ex l x), fun l x => k.rd l (h.rd l x), fun b hX hx => (k.blk b hX (hx.imp (fun f off => h.ex _ (f off)) fun f off => h.rd _ (f off))).trans (h.blk b hX hx),
    ⟨a'.trans a, b'.trans b, c'.trans c, fun x => (d' x).trans (d x)⟩, k.sc.trans h.sc⟩
theorem SAt.mn {dm num : Nat} {K : List (Nat × Obj)} {st₀ st : St Gho} (h : SAt dm num K st₀) (k : Mn X st₀ st) (hK : ∀ b o, (b, o) ∈ K → ¬ X b) : SAt dm num K st := by
  obtain ⟨a, b, c, d⟩ := k.main
  refine ⟨k.sc.trans h.sc, a.trans h.mw, b.trans h.dm, c.trans h.num, fun x o hb => ?_, fun x o hb hx => h.nd x o hb ((d x).1 hx)⟩
  obtain ⟨h1, h2⟩ := h.fz x o hb
  exact ⟨(k.blk x (hK x o hb) h2).trans h1, h2.imp (fun f off => k.ex _ (f off)) fun f off => k.rd _ (f off)⟩
def VisM (q : Prm) (ro : Nat → Md) (X : Nat → Prop) (st₀ : St Gho) (ρ : Nat → Option Nat) (st : St Gho) : Prop :=
  Vis q 0 ro ρ st ∧ Inv q st ∧ (∀ b c, ρ b = some c → ro b = .all → st₀.w.heap.size ≤ c ∨ X c) ∧ Mn X st₀ st ∧ ∀ b c, ρ b = some c → ¬ st.γ.dead c ∧ (c < st₀.w.heap.size → b = c) ∧ ∀ n, ro b = .read n → b = c
theorem own_visM (S : FuncId → Bool) (ro : Nat → Md) (st₀ : St Gho) (h₀ : Inv q st₀) : Own (cfg q) S ro 0 (VisM q ro X st₀) where
  stable := fun ρ st st₁ ⟨h1, h2, h3, h4, h5⟩ hr hi => by
    obtain ⟨a, b⟩ := (own_vis S 0 ro).stable ρ st st₁ h1 hr hi
    exact ⟨⟨a, hi, h3, h4.rely hr, fun b' c' hb => ⟨fun hx => (h5 b' c' hb).1 (((Rl.main hr rfl).2.2.2 c').1 hx), (h5 b' c' hb).2⟩⟩, b⟩
  lv := fun ρ st h => (own_vis S 0 ro).lv ρ st h.1
  step := fun ρ st s ρ1 s1 w1 es fn pos ⟨h1, h2, h3, h4, h5⟩ hi m => by
    obtain ⟨a, b, c⟩ := own_step S 0 ro fn pos h1 h2 m
    refine ⟨st.γ.grow 0 st.w.heap.size w1.heap.size, a, rfl, b, fun k hk hw => hw, c, a, fun b' c' hb hro => ?_, ?_, fun b' c' hb => ?_⟩
    · rcases m.fresh b' c' hb with h | h
      · exact h3 b' c' h hro
      · exact .inl (Nat.le_trans h4.size h.1)
    · have A := h₀.base.tr.apt
      refine ⟨Nat.le_trans h4.size m.size, fun l h => .inl (h4.ex l h), h4.rd, fun b' hX hx => ?_, h4.main, h4.sc⟩
      have hlt : b' < st₀.w.heap.size := by
        rcases hx with hx | hx
        · exact A.low 0 _ (hx 0) b' rfl
        · exact A.rlow 0 _ (hx 0) b' rfl
      refine (m.keep b' (Nat.lt_of_lt_of_le hlt h4.size) fun b'' hb'' => ?_).trans (h4.blk b' hX hx)
      have hv := h1.2.2 b'' b' hb''
      cases hm : ro b'' with
      | all =>
        rcases h3 b'' b' hb'' hm with h | h
        · omega
        · exact absurd h hX
      | read n => rfl
      | part f => rw [hm] at hv; exact hv.elim
    · rcases m.fresh b' c' hb with h | h
      · exact h5 b' c' h
      · exact ⟨fun hx => by have := h2.base.dead c' hx; have := h.1; omega, fun hlt => by have := h.1; have := h4.size; omega, fun n hn => by rw [h.2] at hn; cases hn⟩
def Sh (q : Prm) (S : FuncId → Bool) (Ds : Nat → Bool) (ro : Nat → Md) (X : Nat → Prop) (st₀ : St Gho) (Φ : Act → World → Prop) (a' : Act) (st : St Gho) : Prop :=
  ∃ ρ a s, AR (fun f => S f = true) ρ (msk Ds a.tmps) (msk Ds a'.tmps) ∧ a.defers = [] ∧ a'.defers = [] ∧ HR q.P.globals.size (fun f => S f = true) ro ρ s st.w ∧ VisM q ro X st₀ ρ st ∧ (∀ b, s.heap.size ≤ b → ro b = .all) ∧ ∃ τ d, Φ a (World.on s τ d)
variable {S : FuncId → Bool} {Ds : Nat → Bool} {ro : Nat → Md} {st₀ st : St Gho} {Ch : Nat → Goroutine → St Gho → Prop}
theorem TT.piece {P : Program} (hP : q.P = P) (F : FnsOk P S) (h₀ : Inv q st₀) {Φ N R : Act → World → Prop} {code : Code} (hc : codeOk P S Ds code = true) {b : Frame} (hk : b.kind = .normal) (hR : ∀ fn, P.funcs[b.fn]? = some fn → fn.results.all (resD Ds) = true) {a' : Act} (h : Sh q S Ds ro X st₀ Φ a' st)
    (hΦ : ∀ a w τ d, Φ a w → code.wp P (fun e a w => (e = .normal ∧ a.defers = [] ∧ N a w) ∨ (e = .ret ∧ a.defers = [] ∧ R a w)) a (World.on w τ d)) {k : List Item} {cs : List Frame}
    (finN : ∀ a2' st', Sh q S Ds ro X st₀ N a2' st' → TT (cfg q) 0 Ch (G (b.at a2' k) cs) st') (finR : ∀ a2' st' todo, Sh q S Ds ro X st₀ R a2' st' → TT (cfg q) 0 Ch (G { b.at a2' todo with mode := .returning } cs) st') :
    TT (cfg q) 0 Ch (G (b.at a' (.code code :: k)) cs) st := by
  subst hP
  obtain ⟨ρ, a, s, ha, hd, hd', hH, hV, hro, τ0, d0, hφ⟩ := h
  refine lift_code (C := cfg q) F (own_visM S ro st₀ h₀) (Q := fun e a w => (e = .normal ∧ a.defers = [] ∧ N a w) ∨ (e = .ret ∧ a.defers = [] ∧ R a w)) (fun e a w h => h.imp (fun h => h.1) fun h => h.1) hc hR hk hd hd' ha hH hV hro (fun τ d => hΦ a (World.on s τ0 d0) τ d hφ) ?_ ?_
  · rintro ρ' a2 a2' s' st' - ha2 hd2 ⟨τ, d, hq⟩ hH' hV' hro'
    rcases hq with ⟨_, h1, h2⟩ | ⟨h1, _⟩
    · exact finN a2' st' ⟨ρ', a2, s', ha2, h1, hd2, hH', hV', hro', τ, d, h2⟩
    · cases h1
  · rintro ρ' a2 a2' s' st' todo - ha2 hd2 ⟨τ, d, hq⟩ hH' hV' hro'
    rcases hq with ⟨h1, _⟩ | ⟨_, h1, h2⟩
    · cases h1
    · exact finR a2' st' todo ⟨ρ', a2, s', ha2, h1, hd2, hH', hV', hro', τ, d, h2⟩
theorem TT.ret {P : Program} (hP : q.P = P) (F : FnsOk P S) (h₀ : Inv q st₀) {fn : Func} {R : Value → World → Prop} {b : Frame} (hk : b.kind = .normal) (hfn : P.funcs[b.fn]? = some fn) (hRs : fn.results.all (resD Ds) = true) {a' : Act} (h : Sh q S Ds ro X st₀ (fun a w => ∃ v, (Go.results fn a.tmps).run P w = .ok v w ∧ R v w) a' st) {todo : List Item} {c : Frame} {cs : List Frame}
    (fin : ∀ v v' ρ' s' st', HR q.P.globals.size (fun f => S f = true) ro ρ' s' st'.w → VisM q ro X st₀ ρ' st' → VR (fun f => S f = true) ρ' v v' → (∃ τ d, R v (World.on s' τ d)) → TT (cfg q) 0 Ch (G (c.finish v') cs) st') :
    TT (cfg q) 0 Ch (G { b.at a' todo with mode := .returning } (c :: cs)) st := by
  subst hP
  obtain ⟨ρ', a, s', hta, hda, hda', hH', hV', hro', τ, d, v, hres, hR⟩ := h
  have pv := own_visM (q := q) (X := X) S ro st₀ h₀
  refine TT.step fun st₁ hr hi => ?_
  obtain ⟨hV1, hst⟩ := pv.stable ρ' st st₁ hV' hr hi
  refine ⟨fun hl => absurd hl (pv.lv _ _ hV1), ?_⟩
  have hH1 := hst s' hH'
  have hA : HR q.P.globals.size (fun f => S f = true) ro ρ' (World.on s' τ d) (World.on st₁.w τ d) := ⟨hH1.inj, hH1.row, hH1.hole, hH1.low, hH1.gs, hH1.gw⟩
  have hB : HR q.P.globals.size (fun f => S f = true) ro ρ' (World.on s' st₁.w.tape st₁.w.drawn) st₁.w := ⟨hH1.inj, hH1.row, hH1.hole, hH1.low, hH1.gs, hH1.gw⟩
  have e1 := msk_results (xs := a.tmps) hRs
  have e2 := msk_results (xs := a'.tmps) hRs
  have SA := SR.results (P := q.P) (ro := ro) (a := mskA Ds a) (a' := mskA Ds a') hta fn _ _ hA rfl rfl hro'
  have SB := SR.results (P := q.P) (ro := ro) (a := mskA Ds a) (a' := mskA Ds a') hta fn _ _ hB rfl rfl hro'
  simp only [mskA, e1, e2] at SA SB
  obtain ⟨-, n, hn, hl⟩ := SA.2.2 v _ hres
  have hn0 : n = 0 := by have : d = d + n := hn; omega
  subst hn0
  have hres2 : (Go.results fn a.tmps).run q.P (World.on s' st₁.w.tape st₁.w.drawn) = .ok v (World.on s' st₁.w.tape st₁.w.drawn) := (hl st₁.w.tape st₁.w.drawn fun j hj => by omega).1
  obtain ⟨ρ1, v', w1, h1, h2, h3⟩ := SB.1 v _ hres2
  have m := h2.sub (es' := seen q.P b.fn ((Go.results fn a'.tmps).events q.P st₁.w #[])) fun e he => mem_seen he
  obtain ⟨γ', i1, i2, i3, i4, i5⟩ := pv.step ρ' st₁ _ ρ1 _ w1 _ b.fn "" hV1 hi m
  refine StepK.own (C := cfg q) (stepG_leaveE hk hda' hfn h1) rfl i1 i2 i3 (.inr i4) ?_
  exact fin v v' ρ1 (World.on s' st₁.w.tape st₁.w.drawn) _ h2.hr i5 h3 ⟨τ, d, hR⟩
def seqR : List Code → Code → Code
  | [], R => R
  | c :: cs, R => .seq c (seqR cs R)
def unseq : Nat → Code → List Code × Code
  | n + 1, .seq a b => (a :: (unseq n b).1, (unseq n b).2)
  | _, c => ([], c)
theorem seqR_unseq : ∀ (n : Nat) (c : Code), seqR (unseq n c).1 (unseq n c).2 = c
  | 0, c => by cases c <;> rfl
  | n + 1, c => by
    cases c with
    | seq a b => show Code.seq a (seqR (unseq n b).1 (unseq n b).2) = _; rw [seqR_unseq n b]
    | _ => rfl
def wpT (P : Program) (N R : Act → World → Prop) : List Code → Act → World → Prop
  | [], a, w => N a w
  | c :: cs, a, w => ∀ τ d, c.wp P (fun e a w => (e = .normal ∧ a.defers = [] ∧ wpT P N R cs a w) ∨ (e = .ret ∧ a.defers = [] ∧ R a w)) a (World.on w τ d)
theorem TT.pieces {P : Program} (hP : q.P = P) (F : FnsOk P S) (h₀ : Inv q st₀) {N R : Act → World → Prop} {b : Frame} (hk : b.kind = .normal) (hR : ∀ fn, P.funcs[b.fn]? = some fn → fn.results.all (resD Ds) = true) {T : Code} {k : List Item} {cst : List Frame}
    (finN : ∀ a2' st', Sh q S Ds ro X st₀ N a2' st' → TT (cfg q) 0 Ch (G (b.at a2' (.code T :: k)) cst) st') (finR : ∀ a2' st' todo, Sh q S Ds ro X st₀ R a2' st' → TT (cfg q) 0 Ch (G { b.at a2' todo with mode := .returning } cst) st') :
    ∀ (cs : List Code), (∀ c ∈ cs, codeOk P S Ds c = true) → ∀ (a' : Act) (st : St Gho), Sh q S Ds ro X st₀ (wpT P N R cs) a' st → TT (cfg q) 0 Ch (G (b.at a' (.code (seqR cs T) :: k)) cst) st
  | [], _, a', st, h => finN a' st h
  | c :: cs, hc, a', st, h => by
    subst hP
    refine TT.sroad rfl 4 fun w₀ hF => Goes.step rfl fun w₁ hw => ?_
    show (stepG q.P (0 == 0) (G (b.at a' (.code (.seq c (seqR cs T)) :: k)) cst) w₁).goes _
    rw [stepG_seq]
    refine ⟨⟨rfl, rfl⟩, Goes.stop fun w₂ _ => ⟨rfl, ?_⟩⟩
    refine TT.piece rfl F h₀ (hc c (by simp)) hk hR h (fun a w τ d h => h τ d) (fun a2' st' h' => TT.pieces rfl F h₀ hk hR finN finR cs (fun c' h => hc c' (by simp [h])) a2' st' h') finR
end
end Go.Proofs.Ytpfpokjaeffbjab.Cc
namespace Go.Proofs.Ytpfpokjaeffbjab.Cc
open Go.Conc Go.ConcN
open Go.ConcM (OsLater)
set_option linter.unusedVariables false
def gho0 (size : Nat) : Gho := { num := 1, sc := none, wk := fun _ => .new, mw := .solo, dm := 0, D := 0, L := 0, W := 0, S := 0, N := 0, tn := 0, th := 0, gs := 0, gm := 0, ex := fun g l => g = 0 ∧ l.isMemory = true ∧ ∃ b, lblk l = some b ∧ b < size, rd := fun _ _ => False, sh := fun _ _ => False, dead := fun _ => False }
section
variable {q : Prm}
theorem Inv.start {w : World} {t : Trace} (h : ∀ op ∈ t, op.g = 0) (hd : Deaf t 0 = 0) (gsz : q.P.globals.size ≤ w.heap.size) (hos : OsLater q.os0 w.os) (hout : w.output = q.out0) : Inv q ⟨w, t, gho0 w.heap.size⟩ := by
  have own : ∀ (i : Nat) (op : MemOp), t[i]? = some op → op.g = 0 := fun i op hi => h op (Array.mem_of_getElem? hi)
  have kn : ∀ i a, touchAt t i = some a → Knows t 0 i := fun i a ha => by
    obtain ⟨x, hx, _⟩ := touch_of ha
    have := knows_own hx
    rwa [own i x hx] at this
  have gq : ∀ i a, touchAt t i = some a → t.g? i = some 0 := fun i a ha => by
    obtain ⟨x, hx, _⟩ := touch_of ha
    simp only [Trace.g?, hx, Option.map_some, own i x hx]
  have hall : t.allBy 0 := fun i x hx => by
    have : touchAt t i = some x := hx
    exact gq i x this
  refine ⟨⟨by show 0 < 1; omega, ⟨fun said => not_race_of_allBy hall, ⟨fun g g' l a b => a.1.trans b.1.symm, fun _ _ _ _ x => x, fun _ _ _ _ x => x, fun _ _ _ _ x => x, fun g l a b hb => ?_, fun _ _ x => x.elim, fun _ _ x => x.elim, fun g l a => ?_⟩, fun g l a i x hx _ => ?_, fun _ _ x => x.elim, fun _ _ x => x.elim, fun i a ha b hb => .inr fun g hg => ?_, fun i op hi => ?_, fun i op hi a e k hk => ?_⟩, gsz, hd, fun j a b => ?_, fun j hj => ?_, hos, hout, fun j a b => ?_, fun b x => x.elim, fun i a ha _ => .inr (.inl (kn i a ha)), fun i g hg hne _ _ => ?_, fun g l a => ?_, fun j _ => .inl rfl, fun j _ => rfl, fun i a ha _ => gq i a ha, fun s hs => by cases hs⟩, ⟨fun _ => rfl, fun _ => rfl⟩, fun s hs => by cases hs⟩
  · obtain ⟨_, _, b', hb', hlt⟩ := a
    rw [hb] at hb'; cases hb'; exact hlt
  · rcases a with a | a | a
    · exact a.2.1
    · exact a.elim
    · exact a.elim
  · rw [a.1]; exact kn i x hx
  · have hg : g < 1 := hg
    obtain rfl : g = 0 := by omega
    exact kn i a ha
  · show op.g < 1
    rw [own i op hi]; omega
  · have hlt : k < t.size := Nat.lt_of_le_of_lt hk (lt_size_of_getElem? hi)
    have hx : t[k]? = some t[k] := Array.getElem?_eq_getElem hlt
    simp only [Trace.g?, hx, Option.map_some, own k _ hx]
  · have b : j < 1 := b
    omega
  · cases hj
  · have b : j < 1 := b
    omega
  · obtain ⟨op, ho, e⟩ := Option.map_eq_some_iff.1 hg
    exact absurd (e.symm.trans (own i op ho)) hne
  · show g < 1
    rcases a with a | a | a
    · rw [a.1]; omega
    · exact a.elim
    · exact a.elim
theorem TT.ends {P : Program} (hP : q.P = P) {num : Nat} {K : List (Nat × Obj)} {Ch : Nat → Goroutine → St Gho → Prop} {g : Goroutine} {st : St Gho} (hA : SAt 0 num K st)
    (h : ∀ st₁, Rl 0 st st₁ → SAt 0 num K st₁ → Inv q st₁ → ∃ v w', stepG P (0 == 0) g st₁.w = .ended (.done v) w' #[] ∧ q.Post v w') : TT (cfg q) 0 Ch g st := by
  subst hP
  refine TT.step fun st₁ hr hi => ⟨fun hl => absurd rfl hl.1, ?_⟩
  have hr : Rl 0 st st₁ := hr
  have hi : Inv q st₁ := hi
  have hA₁ := hA.rely hr
  obtain ⟨v, w', h1, h2⟩ := h st₁ hr hA₁ hi
  have hold : st₁.γ.old = st₁.γ.num := by unfold Gho.old; rw [hA₁.sc]
  unfold StepK
  rw [show stepG (cfg q).P (0 == 0) g st₁.w = _ from h1]
  refine ⟨rfl, ⟨v, rfl, h2⟩, fun said => ?_, ?_, fun j h0 hj => ⟨by omega, hi.base.old j h0 (by rw [hold]; exact hj)⟩⟩
  · rw [ofEvents_none, Array.append_empty]; exact hi.base.tr.nr said
  · rw [ofEvents_none, Array.append_empty]
    intro i g' hg hne hc
    refine hi.base.ho i g' hg hne ?_ hc
    rw [hold]
    obtain ⟨op, ho, e⟩ := Option.map_eq_some_iff.1 hg
    have := hi.base.tr.gs i op ho
    omega
theorem runs_of_T {f : FuncId} {args : Array Value} {w : World} {n : Nat} {g : Goroutine} {w₁ : World} {t₁ : Trace} (hpre : runNT q.P n (solo (G (Frame.enter q.P f args .normal) []) w) #[] = (.next (solo g w₁), t₁)) (hs : g.status = .running) (hall : ∀ op ∈ t₁, op.g = 0) (hd : Deaf t₁ 0 = 0)
    (gsz : q.P.globals.size ≤ w₁.heap.size) (hos : OsLater q.os0 w₁.os) (hout : w₁.output = q.out0)
    (hT : ∀ st : St Gho, st.w = w₁ → Inv q st → (∀ K, (∀ b o, (b, o) ∈ K → w₁.heap[b]? = some o) → SAt 0 1 K st) → (∀ l b, l.isMemory = true → lblk l = some b → b < w₁.heap.size → st.γ.ex 0 l) → (∀ b, ¬ st.γ.dead b) → TT (cfg q) 0 (TW (cfg q)) g st) :
    ∃ M last o w' t', runNT q.P (M + 1) (solo (G (Frame.enter q.P f args .normal) []) w) #[] = (.ended o w', t') ∧ runN q.P M (solo (G (Frame.enter q.P f args .normal) []) w) = .next last ∧ Go.step q.P last = .ended o w' ∧ Conc.Good q.P q.Post last o w' t' := by
  have hI : Inv q ⟨w₁, t₁, gho0 w₁.heap.size⟩ := Inv.start hall hd gsz hos hout
  obtain ⟨r, hr⟩ := hT ⟨w₁, t₁, gho0 w₁.heap.size⟩ rfl hI (fun K hK => ⟨rfl, rfl, rfl, rfl, fun b o hb => ⟨hK b o hb, .inl fun off => ⟨rfl, rfl, b, rfl, lt_of_block (hK b o hb)⟩⟩, fun b o hb x => x⟩) (fun l b m1 m2 m3 => ⟨rfl, m1, b, m2, m3⟩) (fun b x => x)
  have hM : MI (cfg q) (r, [], running #[g]) (crowd #[g] w₁ none) t₁ := by
    refine .mk r [] #[g] w₁ none t₁ (gho0 w₁.heap.size) rfl rfl hI fun i g' hi => ?_
    match i, hi with
    | 0, hi =>
      simp at hi; subst hi
      exact .inl ⟨hs, by unfold TA; rw [if_pos rfl]; exact hr⟩
    | i + 1, hi => simp at hi
  obtain ⟨N, last, o, w', t', h1, h2, h3, h4⟩ := hM.runs cfg_ok
  rw [← solo_eq_crowd] at h1 h2
  refine ⟨n + N, last, o, w', t', ?_, ?_, h3, h4⟩
  · rw [show n + N + 1 = n + (N + 1) by omega, runNT_add, hpre]
    exact h1
  · rw [runN_add]
    have : runN q.P n (solo (G (Frame.enter q.P f args .normal) []) w) = .next (solo g w₁) := by rw [← runNT_fst, hpre]
    rw [this]
    exact h2
end
end Go.Proofs.Ytpfpokjaeffbjab.Cc
namespace Go.Proofs.Ytpfpokjaeffbjab.Cc
open Go.Conc Go.ConcN
set_option linter.unusedVariables false
noncomputable def shadM (w : World) (md : Nat → Option Md) : World :=
  { w with heap := Array.ofFn (n := w.heap.size) fun b => match md b.1, w.heap[b.1]? with
      | some .all, some (.cells C e _) => .cells C e (0, 0)
      | some (.read n), some (.cells C e _) => .cells (C.extract 0 n) e (0, n)
      | _, _ => .coro none }
def idM (md : Nat → Option Md) : Nat → Option Nat := fun b => if (md b).isSome then some b else none
def roM (md : Nat → Option Md) : Nat → Md := fun b => (md b).getD .all
theorem shadM_size (w : World) (md : Nat → Option Md) : (shadM w md).heap.size = w.heap.size := by simp [shadM]
theorem shadM_all {w : World} {md : Nat → Option Md} {b : Nat} {C : Array Value} {e : TypeId} {fz : Nat × Nat} (hv : md b = some .all) (h : w.heap[b]? = some (.cells C e fz)) : (shadM w md).heap[b]? = some (.cells C e (0, 0)) := by
  have hlt := lt_of_block h
  have he : w.heap[b] = .cells C e fz := by rw [Array.getElem?_eq_getElem hlt] at h; exact Option.some.inj h
  simp [shadM, hlt, hv, he]
theorem shadM_read {w : World} {md : Nat → Option Md} {b n : Nat} {C : Array Value} {e : TypeId} {fz : Nat × Nat} (hv : md b = some (.read n)) (h : w.heap[b]? = some (.cells C e fz)) : (shadM w md).heap[b]? = some (.cells (C.extract 0 n) e (0, n)) := by
  have hlt := lt_of_block h
  have he : w.heap[b] = .cells C e fz := by rw [Array.getElem?_eq_getElem hlt] at h; exact Option.some.inj h
  simp [shadM, hlt, hv, he]
theorem shadM_hole {w : World} {md : Nat → Option Md} {b : Nat} (hv : md b = none) : (shadM w md).heap[b]? = none ∨ ∃ x, (shadM w md).heap[b]? = some (.coro x) := by
  rcases Nat.lt_or_ge b w.heap.size with h | h
  · exact .inr ⟨none, by simp [shadM, h, hv]⟩
  · exact .inl (by simp [shadM, h])
theorem idM_some {md : Nat → Option Md} {b : Nat} {m : Md} (h : md b = some m) : idM md b = some b := by simp [idM, h]
theorem idM_inv {md : Nat → Option Md} {b c : Nat} (h : idM md b = some c) : b = c ∧ ∃ m, md b = some m := by
  unfold idM at h
  split at h
  · rename_i e; cases h; exact ⟨rfl, Option.isSome_iff_exists.1 e⟩
  · cases h
section
variable {q : Prm} {S : FuncId → Bool}
def Owns (st : St Gho) (b : Nat) : Prop := ∀ l, lblk l = some b → l.isMemory = true → st.γ.ex 0 l
def SeesM (q : Prm) (S : FuncId → Bool) (md : Nat → Option Md) (st : St Gho) : Prop :=
  ∀ b m, md b = some m → q.P.globals.size ≤ b ∧ ¬ st.γ.dead b ∧ ∃ C e fz, st.w.heap[b]? = some (.cells C e fz) ∧ match m with
    | .all => fz = (0, 0) ∧ Owns st b ∧ ∀ (k : Nat) (v : Value), C[k]? = some v → VR (fun f => S f = true) (idM md) v v
    | .read n => n ≤ C.size ∧ ((∀ off, st.γ.rd 0 (ca b off)) ∨ ∀ off, st.γ.ex 0 (ca b off)) ∧ ∀ (k : Nat) (v : Value), k < n → C[k]? = some v → VR (fun f => S f = true) (idM md) v v
    | .part _ => False
theorem SeesM.hr {md : Nat → Option Md} {st : St Gho} (h : SeesM q S md st) (hi : Inv q st) : HR q.P.globals.size (fun f => S f = true) (roM md) (idM md) (shadM st.w md) st.w where
  inj := fun b b' c h1 h2 => (idM_inv h1).1.trans (idM_inv h2).1.symm
  row := fun b c hb => by
    obtain ⟨rfl, m, hm⟩ := idM_inv hb
    obtain ⟨-, -, C, e, fz, h1, h2⟩ := h b m hm
    have hro : roM md b = m := by simp [roM, hm]
    cases m with
    | all =>
      obtain ⟨rfl, _, h3⟩ := h2
      refine ⟨_, _, shadM_all hm h1, h1, ?_⟩
      rw [hro]
      exact .cells (Nat.le_refl _) (fun k v hk => ⟨v, hk, h3 k v hk⟩) (fun _ => ⟨rfl, rfl⟩) fun n hn => by cases hn
    | read n =>
      obtain ⟨hn, _, h3⟩ := h2
      refine ⟨_, _, shadM_read hm h1, h1, ?_⟩
      have hsz : (C.extract 0 n).size = n := by simp; omega
      have : OR (fun f => S f = true) (roM md b) (idM md) (.cells (C.extract 0 n) e (0, (roM md b).hi (C.extract 0 n).size)) (.cells C e fz) := by
        refine .cells (by rw [hsz]; exact hn) (fun k v hk => ?_) (fun x => by rw [hro] at x; cases x) (fun m hm => by rw [hro] at hm; cases hm; exact hsz)
        have hlt := (Array.getElem?_eq_some_iff.1 hk).1
        rw [Array.getElem?_extract] at hk
        split at hk
        · simp at hk
          exact ⟨v, hk, h3 k v (by omega) hk⟩
        · cases hk
      rw [hro, Md.hi, hsz] at this
      rwa [hro]
    | part f => exact h2.elim
  hole := fun b hb => shadM_hole (by
    cases hv : md b with
    | none => rfl
    | some n => rw [idM_some hv] at hb; cases hb)
  low := fun b c hb => by obtain ⟨rfl, m, hm⟩ := idM_inv hb; exact ⟨(h b m hm).1, (h b m hm).1⟩
  gs := by rw [shadM_size]; exact hi.base.gsz
  gw := hi.base.gsz
theorem SeesM.vis {md : Nat → Option Md} {st : St Gho} (h : SeesM q S md st) (hi : Inv q st) : Vis q 0 (roM md) (idM md) st := by
  refine ⟨hi.base.pos, .inl rfl, fun b c hb => ?_⟩
  obtain ⟨rfl, m, hm⟩ := idM_inv hb
  have hro : roM md b = m := by simp [roM, hm]
  rw [hro]
  obtain ⟨-, -, C, e, fz, h1, h2⟩ := h b m hm
  cases m with
  | all => exact h2.2.1
  | read n => exact h2.2.1.imp id .inl
  | part f => exact h2
theorem SeesM.ro {md : Nat → Option Md} {st : St Gho} (h : SeesM q S md st) : ∀ b, (shadM st.w md).heap.size ≤ b → roM md b = .all := fun b hb => by
  unfold roM
  cases hv : md b with
  | none => rfl
  | some m =>
    obtain ⟨-, -, C, e, fz, h1, -⟩ := h b m hv
    have := lt_of_block h1
    rw [shadM_size] at hb
    omega
theorem Sh.make {md : Nat → Option Md} {st : St Gho} (h : SeesM q S md st) (hi : Inv q st) {X : Nat → Prop} (hX : ∀ b, md b = some .all → X b) {Ds : Nat → Bool} {Φ : Act → World → Prop} {a a' : Act} (ha : AR (fun f => S f = true) (idM md) (msk Ds a.tmps) (msk Ds a'.tmps)) (hd : a.defers = []) (hd' : a'.defers = [])
    (hΦ : Φ a (World.on (shadM st.w md) st.w.tape st.w.drawn)) : Sh q S Ds (roM md) X st Φ a' st := by
  refine ⟨idM md, a, shadM st.w md, ha, hd, hd', h.hr hi, ⟨h.vis hi, hi, fun b c hb hro => ?_, Mn.refl st, fun b c hb => ?_⟩, h.ro, _, _, hΦ⟩
  · obtain ⟨rfl, m, hm⟩ := idM_inv hb
    have : roM md b = m := by simp [roM, hm]
    rw [this] at hro
    exact .inr (hX b (by rw [hm, hro]))
  · obtain ⟨rfl, m, hm⟩ := idM_inv hb
    exact ⟨(h b m hm).2.1, fun _ => rfl, fun _ _ => rfl⟩
theorem SAt.more {dm num : Nat} {K : List (Nat × Obj)} {st : St Gho} (h : SAt dm num K st) {b : Nat} {o : Obj} (hb : st.w.heap[b]? = some o) (he : (∀ off, st.γ.ex 0 (ca b off)) ∨ ∀ off, st.γ.rd 0 (ca b off)) (hd : ¬ st.γ.dead b) : SAt dm num ((b, o) :: K) st := by
  refine ⟨h.sc, h.mw, h.dm, h.num, fun b' o' hb' => ?_, fun b' o' hb' => ?_⟩
  · rcases List.mem_cons.1 hb' with e | e
    · cases e; exact ⟨hb, he⟩
    · exact h.fz _ _ e
  · rcases List.mem_cons.1 hb' with e | e
    · cases e; exact hd
    · exact h.nd _ _ e
theorem SAt.sub {dm num : Nat} {K K' : List (Nat × Obj)} {st : St Gho} (h : SAt dm num K st) (hs : ∀ b o, (b, o) ∈ K' → (b, o) ∈ K) : SAt dm num K' st := ⟨h.sc, h.mw, h.dm, h.num, fun b o hb => h.fz b o (hs b o hb), fun b o hb => h.nd b o (hs b o hb)⟩
end
end Go.Proofs.Ytpfpokjaeffbjab.Cc
namespace Go.Proofs.Ytpfpokjaeffbjab.Cc
open Go.Conc Go.ConcN
set_option linter.unusedVariables false
section
variable {S : FuncId → Bool} {ρ : Nat → Option Nat} {ro : Nat → Md} {G : Nat} {s w : World}
theorem HR.blkAll (h : HR G (fun f => S f = true) ro ρ s w) {b : Nat} (hro : ro b = .all) {C : Array Value} {e : TypeId} {fz : Nat × Nat} (hb : s.heap[b]? = some (.cells C e fz)) : ∃ c C', ρ b = some c ∧ w.heap[c]? = some (.cells C' e (0, 0)) ∧ AR (fun f => S f = true) ρ C C' := by
  cases hρ : ρ b with
  | none => rcases h.hole b hρ with h1 | ⟨x, h1⟩ <;> rw [hb] at h1 <;> cases h1
  | some c =>
    obtain ⟨o, o', h1, h2, h3⟩ := h.row b c hρ
    rw [hb] at h1; cases h1
    rw [hro] at h3
    cases h3 with
    | cells k3 k4 k5 k6 =>
      obtain ⟨e1, e2⟩ := k5 rfl
      subst e2
      exact ⟨c, _, rfl, h2, e1, fun i v v' a b => by obtain ⟨z, hz, hr⟩ := k4 i v a; rw [hz] at b; cases b; exact hr⟩
theorem VR.ptrI {b off : Nat} {sp : Option Nat} {v : Value} (h : VR (fun f => S f = true) ρ (.pointer (some ⟨b, off, sp⟩)) v) : ∃ c, ρ b = some c ∧ v = .pointer (some ⟨c, off, sp⟩) := by
  cases h with
  | ptr _ _ h => exact ⟨_, h, rfl⟩
theorem VR.sliceI {b off l k : Nat} {sp : Option Nat} {v : Value} (h : VR (fun f => S f = true) ρ (.slice (some ⟨b, off, sp⟩) l k) v) : ∃ c, ρ b = some c ∧ v = .slice (some ⟨c, off, sp⟩) l k := by
  cases h with
  | slice _ _ _ _ h => exact ⟨_, h, rfl⟩
theorem VR.nilSliceI {l k : Nat} {v : Value} (h : VR (fun f => S f = true) ρ (.slice none l k) v) : v = .slice none l k := by cases h; rfl
theorem VR.strI {m : ByteArray} {v : Value} (h : VR (fun f => S f = true) ρ (.string m) v) : v = .string m := by cases h; rfl
theorem VR.undefI {v : Value} (h : VR (fun f => S f = true) ρ Go.undef v) : v = Go.undef := by
  cases h with
  | @tuple _ x' hx _ =>
    have : x' = #[] := Array.eq_empty_of_size_eq_zero (by simpa using hx.symm)
    rw [this]; rfl
theorem AR.sl {x x' : Array Value} (h : AR (fun f => S f = true) ρ x x') {i : Nat} {v : Value} (hv : x[i]? = some v) : ∃ v', x'[i]? = some v' ∧ VR (fun f => S f = true) ρ v v' := h.get hv
theorem ar_msk {D : Nat → Bool} {x x' : Array Value} (hs : x.size = x'.size) (h : ∀ i v v', D i = false → x[i]? = some v → x'[i]? = some v' → VR (fun f => S f = true) ρ v v') : AR (fun f => S f = true) ρ (msk D x) (msk D x') := by
  refine ⟨by simp [msk, hs], fun i v v' h1 h2 => ?_⟩
  unfold msk at h1 h2
  rw [Array.getElem?_mapIdx] at h1 h2
  cases hx : x[i]? with
  | none => rw [hx] at h1; cases h1
  | some a =>
    cases hx' : x'[i]? with
    | none => rw [hx'] at h2; cases h2
    | some a' =>
      rw [hx] at h1
      rw [hx'] at h2
      simp only [Option.map_some, Option.some.injEq] at h1 h2
      cases hD : D i with
      | true => rw [hD] at h1 h2; simp only [if_true] at h1 h2; rw [← h1, ← h2]; exact VR.undef
      | false =>
        rw [hD] at h1 h2
        simp only [Bool.false_eq_true, if_false] at h1 h2
        rw [← h1, ← h2]
        exact h i a a' hD hx hx'
theorem fresh_of {q : Prm} {X : Nat → Prop} {st₀ st : St Gho} (hV : VisM q ro X st₀ ρ st) {b c : Nat} (hb : ρ b = some c) (hro : ro b = .all) (hge : st₀.w.heap.size ≤ b) : st₀.w.heap.size ≤ c ∧ (∀ l, lblk l = some c → l.isMemory = true → st.γ.ex 0 l) ∧ ¬ st.γ.dead c := by
  obtain ⟨h1, h2, h3, h4, h5⟩ := hV
  refine ⟨?_, ?_, (h5 b c hb).1⟩
  · rcases Nat.lt_or_ge c st₀.w.heap.size with h | h
    · have := (h5 b c hb).2.1 h; omega
    · exact h
  · have := h1.2.2 b c hb
    rw [hro] at this
    exact this
end
end Go.Proofs.Ytpfpokjaeffbjab.Cc
namespace Go.Proofs.Ytpfpokjaeffbjab.Cc
open Go.Conc
noncomputable def agBody : Code := Try.f16.body.getD .skip
noncomputable def agLoopP : Code := match (unseq 12 agBody).2 with | .seq a _ => a | _ => .skip
noncomputable def agRest : Code := match (unseq 12 agBody).2 with | .seq _ b => b | _ => .skip
noncomputable def agBlk : Code := match agLoopP with | .seq _ b => b | _ => .skip
noncomputable def agRnd : Code := match agBlk with | .block _ (.loop c) => c | _ => .skip
noncomputable def agTail : Code := match agRest with | .seq _ b => b | _ => .skip
end Go.Proofs.Ytpfpokjaeffbjab.Cc
