/- Part of the proof: RenStep. -/
import Derived.Test.YtpfpokjaeffbjabGa6
import Derived.Conc.Own5
import Derived.Conc.Listed
import Derived.Conc.CompanyDraw
namespace Go.Proofs.Ytpfpokjaeffbjab.Cc
open Go.Conc
set_option linter.unusedVariables false
def noD : Nat → Bool := fun _ => false
def liveX (D : Nat → Bool) : Operand → Bool
  | .tmp t => !D t
  | _ => true
def callD (D : Nat → Bool) (c : Call) : Bool := c.args.all (liveX D) && match c.callee with
  | .value f => liveX D f
  | .builtin _ => true
  | _ => false
def opD (D : Nat → Bool) (o : Oper) : Bool :=
  let k := liveX D
  (match o.dst with
  | some d => !D d
  | none => true) && match o.op with
  | .move x | .assign x | .box _ x | .load _ x | .nilCheck x | .unOp _ _ x | .fieldAddr _ x _ | .field _ x _ | .extract x _ => k x
  | .pick c a b => k c && k a && k b
  | .alloc _ => true
  | .build _ ps => ps.all fun p => k p.2
  | .buildSlice _ _ ps => ps.all fun p => k p.2
  | .store _ a x | .indexAddr _ a x | .index _ a x => k a && k x
  | .binOp _ _ x y _ => k x && k y
  | .convert _ _ x => k x
  | .makeFunc _ x y => x.all k && y.all k
  | .makeSlice _ l c => k l && k c
  | .call c => callD D c
  | _ => false
def resD (D : Nat → Bool) : ResultVar → Bool
  | .tmp t => !D t
  | .cell t _ => !D t
theorem res_no {P : Program} {f : FuncId} (fn : Func) (_ : P.funcs[f]? = some fn) : fn.results.all (resD noD) = true := by
  rw [Array.all_eq_true_iff_forall_mem]
  intro r _
  cases r <;> rfl
def codeOk (P : Program) (S : FuncId → Bool) (D : Nat → Bool) : Code → Bool
  | .skip | .label _ | .exit _ | .ret => true
  | .region _ ops _ => ops.all fun o => opOk P S o && opD D o
  | .seq a b => codeOk P S D a && codeOk P S D b
  | .cond c a b => operandOk S c && liveX D c && codeOk P S D a && codeOk P S D b
  | .block _ a | .loop a => codeOk P S D a
  | _ => false
def itemOk (P : Program) (S : FuncId → Bool) (D : Nat → Bool) : Item → Bool
  | .code c | .inLoop c => codeOk P S D c
  | .inBlock _ => true
  | .inRegion ops _ => ops.all fun o => opOk P S o && opD D o
  | _ => false
def msk (D : Nat → Bool) (xs : Array Value) : Array Value := xs.mapIdx fun i v => if D i then undef else v
def mskA (D : Nat → Bool) (a : Act) : Act := { a with tmps := msk D a.tmps }
theorem msk_no (xs : Array Value) : msk noD xs = xs := by
  unfold msk noD
  refine Array.ext (by simp) fun i h1 h2 => by simp
theorem msk_at (D : Nat → Bool) (xs : Array Value) {t : Nat} (h : D t = false) : (msk D xs)[t]? = xs[t]? := by
  unfold msk
  rw [Array.getElem?_mapIdx]
  cases xs[t]? with
  | none => rfl
  | some v => simp [h]
theorem msk_getD (D : Nat → Bool) (xs : Array Value) {t : Nat} (h : D t = false) : (msk D xs).getD t undef = xs.getD t undef := by
  rw [Array.getD_eq_getD_getElem?, Array.getD_eq_getD_getElem?, msk_at D xs h]
theorem msk_eval {D : Nat → Bool} {a : Act} {x : Operand} (h : liveX D x = true) : (mskA D a).eval x = a.eval x := by
  cases x with
  | tmp t => exact msk_getD D a.tmps (by simpa [liveX] using h)
  | _ => rfl
theorem msk_put (D : Nat → Bool) (a : Act) (d : Option Tmp) (v : Value) (h : (match d with | some d => !D d | none => true) = true) : msk D (a.put d v).tmps = ((mskA D a).put d v).tmps := by
  cases d with
  | none => rfl
  | some d =>
    have hd : D d = false := by simpa using h
    show msk D (a.tmps.setIfInBounds d v) = (msk D a.tmps).setIfInBounds d v
    unfold msk
    apply Array.ext_getElem?
    intro j
    simp only [Array.getElem?_mapIdx, Array.getElem?_setIfInBounds, Array.size_mapIdx]
    by_cases e : d = j
    · subst e
      by_cases hl : d < a.tmps.size <;> simp [hl, hd]
    · simp [e]
theorem msk_map {D : Nat → Bool} {a : Act} {xs : Array Operand} (h : xs.all (liveX D) = true) : xs.map (mskA D a).eval = xs.map a.eval := by
  rw [Array.all_eq_true_iff_forall_mem] at h
  exact Array.map_congr_left fun x hx => msk_eval (h x hx)
theorem msk_parts {D : Nat → Bool} {a : Act} {xs : Array (Nat × Operand)} (h : (xs.all fun p => liveX D p.2) = true) : (xs.map fun (i, x) => (i, (mskA D a).eval x)) = xs.map fun (i, x) => (i, a.eval x) := by
  rw [Array.all_eq_true_iff_forall_mem] at h
  exact Array.map_congr_left fun ⟨i, x⟩ hx => by show (i, _) = (i, _); rw [msk_eval (h (i, x) hx)]
theorem msk_exec {D : Nat → Bool} {a : Act} {o : Oper} (h : opD D o = true) : execOp (mskA D a).eval o = execOp a.eval o := by
  unfold opD at h
  simp only [Bool.and_eq_true] at h
  obtain ⟨-, h⟩ := h
  unfold execOp
  cases hop : o.op <;> rw [hop] at h <;> dsimp only at h ⊢ <;> first
    | rfl
    | (cases h; done)
    | (rw [msk_eval h])
    | (rw [msk_parts h])
    | (simp only [Bool.and_eq_true] at h; rw [msk_eval h.1, msk_eval h.2])
    | (simp only [Bool.and_eq_true] at h; rw [msk_eval h.1.1, msk_eval h.1.2, msk_eval h.2])
    | (simp only [Bool.and_eq_true] at h; rw [msk_map h.1, msk_map h.2])
    | skip
  rename_i c
  unfold callD at h
  simp only [Bool.and_eq_true] at h
  obtain ⟨h1, h2⟩ := h
  unfold Go.resolve
  rw [msk_map h1]
  cases hc : c.callee with
  | value f => rw [hc] at h2; dsimp only at h2 ⊢; rw [msk_eval h2]
  | builtin b => rfl
  | invoke r n => rw [hc] at h2; cases h2
theorem msk_yielded {D : Nat → Bool} {xs : Array Value} {ops : Array Oper} (h : ∀ o ∈ ops, opD D o = true) : yielded ops (msk D xs) = yielded ops xs := by
  funext j
  unfold yielded
  cases ho : ops[j]? with
  | none => rfl
  | some o =>
    have hD := h o (Array.mem_of_getElem? ho)
    unfold opD at hD
    simp only [Bool.and_eq_true] at hD
    cases hd : o.dst with
    | none => simp [hd]
    | some d =>
      rw [hd] at hD
      simp only [Option.bind_some, hd]
      rw [msk_at D xs (by simpa using hD.1)]
theorem msk_results {D : Nat → Bool} {xs : Array Value} {fn : Func} (h : fn.results.all (resD D) = true) : Go.results fn (msk D xs) = Go.results fn xs := by
  unfold Go.results
  rw [Array.mapM_eq_mapM_toList]
  rw [Array.mapM_eq_mapM_toList]
  congr 1
  congr 1
  rw [Array.all_eq_true_iff_forall_mem] at h
  have : ∀ l : List ResultVar, (∀ r ∈ l, resD D r = true) → (l.mapM fun
      | .tmp t => (Pure.pure ((msk D xs).getD t undef) : Sem Value)
      | .cell x t => do Go.loadVar t (← Go.asAddr ((msk D xs).getD x undef))) = (l.mapM fun
      | .tmp t => (Pure.pure (xs.getD t undef) : Sem Value)
      | .cell x t => do Go.loadVar t (← Go.asAddr (xs.getD x undef))) := by
    intro l
    induction l with
    | nil => intro _; rfl
    | cons r l ih =>
      intro hl
      simp only [List.mapM_cons]
      rw [ih fun r hr => hl r (by simp [hr])]
      have hr := hl r (by simp)
      cases r with
      | tmp t => dsimp only; rw [msk_getD D xs (by simpa [resD] using hr)]
      | cell t ty => dsimp only; rw [msk_getD D xs (by simpa [resD] using hr)]
  exact this _ fun r hr => h r (by simpa using hr)
def FnsOk (P : Program) (S : FuncId → Bool) : Prop := ∀ f, S f = true → ∃ fn c, P.funcs[f]? = some fn ∧ fn.body = some c ∧ (fn.name == "runtime.NumGoroutine") = false ∧ codeOk P S noD c = true
theorem FnsOk.body {P : Program} {S : FuncId → Bool} (h : FnsOk P S) : BodyOk P S := fun f hf => by
  obtain ⟨fn, c, h1, h2, h3, _⟩ := h f hf
  exact ⟨fn, h1, by rw [h2]; rfl, h3⟩
section
variable (P : Program) (S : FuncId → Bool)
inductive FR (ρ : Nat → Option Nat) (D : Nat → Bool) (Ks K : List Item) : Frame → Frame → Prop
  | run {b b' : Frame} {a a' : Act} (X : List Item) (hfn : b'.fn = b.fn) (hk : b.kind = .normal) (hk' : b'.kind = .normal) (hd : a.defers = []) (hd' : a'.defers = []) (hX : X.all (itemOk P S D) = true) (ht : AR (fun f => S f = true) ρ (msk D a.tmps) (msk D a'.tmps)) (hR : ∀ fn, P.funcs[b.fn]? = some fn → fn.results.all (resD D) = true) :
      FR ρ D Ks K (b.at a (X ++ Ks)) (b'.at a' (X ++ K))
  | ret {b b' : Frame} {a a' : Act} {todo todo' : List Item} (hfn : b'.fn = b.fn) (hk : b.kind = .normal) (hk' : b'.kind = .normal) (hd : a.defers = []) (hd' : a'.defers = []) (ht : AR (fun f => S f = true) ρ (msk D a.tmps) (msk D a'.tmps)) (hR : ∀ fn, P.funcs[b.fn]? = some fn → fn.results.all (resD D) = true) :
      FR ρ D Ks K { b.at a todo with mode := .returning } { b'.at a' todo' with mode := .returning }
inductive KR (D : Nat → Bool) (Ks K : List Item) : (Nat → Option Nat) → List Frame → List Frame → Prop
  | one {ρ : Nat → Option Nat} {f f' : Frame} (h : FR P S ρ D Ks K f f') : KR D Ks K ρ [f] [f']
  | cons {ρ : Nat → Option Nat} {f f' c c' : Frame} {r r' : List Frame} (h : FR P S ρ noD [] [] f f') (hS : S f.fn = true)
      (hp : ∀ ρ' v v', Ext ρ ρ' → VR (fun f => S f = true) ρ' v v' → KR D Ks K ρ' (c.finish v :: r) (c'.finish v' :: r')) : KR D Ks K ρ (f :: c :: r) (f' :: c' :: r')
end
def trapItem : Item := .code (.refuse "")
def trapFrame : Frame := { fn := 0, tmps := #[], todo := [trapItem], defers := [{ target := .nil, args := #[] }], mode := .run, kind := .normal }
def KsOk (Ks K : List Item) : Prop := (Ks = [] ∧ K = []) ∨ Ks = [trapItem]
section
variable {P : Program} {S : FuncId → Bool} {ro : Nat → Md} {ρ : Nat → Option Nat} {D : Nat → Bool} {Ks K : List Item}
theorem FR.mono {ρ' : Nat → Option Nat} (e : Ext ρ ρ') {f f' : Frame} (h : FR P S ρ D Ks K f f') : FR P S ρ' D Ks K f f' := by
  cases h with
  | run X a b c d e' f g r => exact .run X a b c d e' f (g.mono e) r
  | ret a b c d e' g r => exact .ret a b c d e' (g.mono e) r
theorem KR.mono {ρ' : Nat → Option Nat} (e : Ext ρ ρ') {l l' : List Frame} (h : KR P S D Ks K ρ l l') : KR P S D Ks K ρ' l l' := by
  cases h with
  | one h => exact .one (h.mono e)
  | cons h hS hp => exact .cons (h.mono e) hS fun ρ₂ v v' e2 hv => hp ρ₂ v v' (e.trans e2) hv
theorem AR.put {a a' : Act} (h : AR (fun f => S f = true) ρ a.tmps a'.tmps) (d : Option Tmp) {v v' : Value} (hv : VR (fun f => S f = true) ρ v v') : AR (fun f => S f = true) ρ (a.put d v).tmps (a'.put d v').tmps := by
  cases d with
  | none => exact h
  | some d => exact h.set d hv
theorem put_defers (a : Act) (d : Option Tmp) (v : Value) : (a.put d v).defers = a.defers := by cases d <;> rfl
theorem evR {a a' : Act} (h : AR (fun f => S f = true) ρ a.tmps a'.tmps) : EvR S ρ a.eval a'.eval := fun x hx => by
  cases x with
  | tmp t => exact h.getD t
  | const v => exact plainV_rel 8 v hx
  | global g => cases hx
  | func f => exact .func (S := (fun f => S f = true)) hx rfl rfl (by simp) (by simp)
theorem yielded_rel {a a' : Act} (h : AR (fun f => S f = true) ρ a.tmps a'.tmps) (ops : Array Oper) : yielded ops a.tmps = yielded ops a'.tmps := by
  funext j
  unfold yielded
  cases hd : (ops[j]?).bind (·.dst) with
  | none => rfl
  | some d =>
    simp only [Option.bind_some]
    cases hv : a.tmps[d]? with
    | none => rw [h.none hv]
    | some v =>
      obtain ⟨v', hv', hr⟩ := h.get hv
      rw [hv']
      cases hr with
      | junk _ _ hb => cases v' <;> first | rfl | exact absurd rfl (hb _)
      | _ => rfl
theorem Mv.sub {G : Nat} {S : FuncId → Prop} {s w s' w' : World} {ρ' : Nat → Option Nat} {es es' : Array Event} (h : Mv G S ro ρ s w ρ' s' w' es) (k : ∀ e ∈ es', e ∈ es) : Mv G S ro ρ s w ρ' s' w' es' :=
  { h with evs := fun e he => h.evs e (k e he) }
def Bad (st : GStep) (cs : List Frame) : Prop := (∃ o w es, st = .ended o w es) ∨ ∃ fr w es chain, st = .go (G fr cs) w es ∧ fr.mode = .panicking chain ∧ fr.defers = []
variable (P) in
def SLcl (g g1 : Goroutine) (s s1 : World) (es : Array Event) : Prop := s1.tape = s.tape ∧ ∃ c, s1.drawn = s.drawn + c ∧
    ∀ τ d, (∀ j, j < c → τ (d + j) = s.tape (s.drawn + j)) → stepG P true g (World.on s τ d) = .go g1 (World.on s1 τ (d + c)) es
variable (P S) in
def GoodS (ro : Nat → Md) (ρ : Nat → Option Nat) (D : Nat → Bool) (Ks K : List Item) (f : Frame) (base : List Frame) (f' : Frame) (base' : List Frame) (s w : World) : Prop :=
  ∃ (g : Frame) (b2 : List Frame) (s1 : World) (es1 : Array Event), stepG P true (G f (base ++ [trapFrame])) s = .go (G g (b2 ++ [trapFrame])) s1 es1 ∧ SLcl P (G f (base ++ [trapFrame])) (G g (b2 ++ [trapFrame])) s s1 es1 ∧
    ∃ (g' : Frame) (b2' : List Frame) (w1 : World) (ρ1 : Nat → Option Nat) (es : Array Event), (∀ main tail, stepG P main (G f' (base' ++ tail)) w = .go (G g' (b2' ++ tail)) w1 es) ∧ KR P S D Ks K ρ1 (g :: b2) (g' :: b2') ∧ Mv P.globals.size (fun f => S f = true) ro ρ s w ρ1 s1 w1 es
theorem exitTo_app {id : Nat} (hK : Ks = [] ∨ Ks = [trapItem]) : ∀ (X : List Item) {k' : List Item}, exitTo id (X ++ Ks) = some k' → ∃ Y, k' = Y ++ Ks ∧ (∀ K, exitTo id (X ++ K) = some (Y ++ K)) ∧ ∀ y ∈ Y, y ∈ X
  | [], k', h => by
    rcases hK with rfl | rfl <;> simp [exitTo, trapItem] at h
  | x :: X, k', h => by
    cases x with
    | inBlock i =>
      simp only [List.cons_append, exitTo] at h
      by_cases hi : (i == id) = true
      · rw [if_pos hi] at h
        cases h
        exact ⟨X, rfl, fun K => by simp only [List.cons_append, exitTo]; rw [if_pos hi], fun y hy => by simp [hy]⟩
      · rw [if_neg hi] at h
        obtain ⟨Y, h1, h2, h3⟩ := exitTo_app hK X h
        exact ⟨Y, h1, fun K => by simp only [List.cons_append, exitTo]; rw [if_neg hi]; exact h2 K, fun y hy => by simp [h3 y hy]⟩
    | _ =>
      simp only [List.cons_append, exitTo] at h
      obtain ⟨Y, h1, h2, h3⟩ := exitTo_app hK X h
      exact ⟨Y, h1, fun K => by simp only [List.cons_append, exitTo]; exact h2 K, fun y hy => by simp [h3 y hy]⟩
theorem stepG_leaveE {main : Bool} {b : Frame} {a : Act} {w w' : World} {cs : List Frame} {fn : Func} {todo : List Item} {c : Frame} {v : Value} (hn : b.kind = .normal) (hd : a.defers = []) (hf : P.funcs[b.fn]? = some fn)
    (hr : (results fn a.tmps).run P w = .ok v w') :
    stepG P main (G { b.at a todo with mode := .returning } (c :: cs)) w = .go (G (c.finish v) cs) w' (seen P b.fn ((results fn a.tmps).events P w #[])) := by
  simp [G, stepG, unwind, doReturn, Frame.at, hn, hd, hf, hr, GStep.after]
theorem stepG_leaveX {main : Bool} {b : Frame} {a : Act} {w w' : World} {cs : List Frame} {fn : Func} {todo : List Item} {h : Halt} (hn : b.kind = .normal) (hd : a.defers = []) (hf : P.funcs[b.fn]? = some fn)
    (hr : (results fn a.tmps).run P w = .halt h w') : ∃ o es, stepG P main (G { b.at a todo with mode := .returning } cs) w = .ended o w' es := by
  cases h <;> simp [G, stepG, unwind, Frame.at, hn, hd, hf, hr, GStep.after]
theorem SR.results {a a' : Act} (h : AR (fun f => S f = true) ρ a.tmps a'.tmps) (fn : Func) : SR P (fun f => S f = true) ro ρ (Go.results fn a.tmps) (Go.results fn a'.tmps) fun ρ' v v' => VR (fun f => S f = true) ρ' v v' := by
  unfold Go.results
  have key : ∀ (l : List ResultVar) (ρ : Nat → Option Nat), AR (fun f => S f = true) ρ a.tmps a'.tmps → SR P (fun f => S f = true) ro ρ (l.mapM fun
      | .tmp t => (Pure.pure (a.tmps.getD t undef) : Sem Value)
      | .cell x t => do Go.loadVar t (← Go.asAddr (a.tmps.getD x undef))) (l.mapM fun
      | .tmp t => (Pure.pure (a'.tmps.getD t undef) : Sem Value)
      | .cell x t => do Go.loadVar t (← Go.asAddr (a'.tmps.getD x undef))) fun ρ' x y => AR (fun f => S f = true) ρ' x.toArray y.toArray := by
    intro l
    induction l with
    | nil => intro ρ _; simp only [List.mapM_nil]; exact SR.pure AR.empty
    | cons r l ih =>
      intro ρ h
      simp only [List.mapM_cons]
      refine SR.bind (V := fun ρ' x y => VR (fun f => S f = true) ρ' x y) ?_ fun ρ₁ x y he₁ hxy => ?_
      · cases r with
        | tmp t => exact SR.pure (h.getD t)
        | cell x t => exact SR.bind (SR.asAddr (h.getD x)) fun _ _ _ _ hab => SR.loadVar t hab
      · refine SR.bind (ih ρ₁ (h.mono he₁)) fun ρ₂ xs ys he₂ hh => ?_
        refine SR.pure ?_
        have := (AR.one (hxy.mono he₂)).append hh
        simpa using this
  rw [Array.mapM_eq_mapM_toList]
  rw [Array.mapM_eq_mapM_toList]
  refine SR.bind (V := fun ρ' x y => AR (fun f => S f = true) ρ' x y) ?_ fun ρ₁ x y he₁ hxy => ?_
  · exact SR.bind (key _ ρ h) fun ρ₁ x y _ hh => SR.pure hh
  · refine SR.pure ?_
    by_cases hs : x.size = 1
    · have hs' : y.size = 1 := by rw [← hxy.size]; exact hs
      rw [dif_pos hs, dif_pos hs']
      exact hxy.at_ 0 _ _ (by simp [hs]) (by simp [hs'])
    · have hs' : ¬ y.size = 1 := by rw [← hxy.size]; exact hs
      rw [dif_neg hs, dif_neg hs']
      exact VR.tuple' hxy
theorem step_alike (F : FnsOk P S) (hKs : KsOk Ks K) {f f' : Frame} {base base' : List Frame} {s w : World} (h : KR P S D Ks K ρ (f :: base) (f' :: base')) (hr : HR P.globals.size (fun f => S f = true) ro ρ s w) (ht : s.tape = w.tape) (hd : s.drawn = w.drawn) (hro : ∀ b, s.heap.size ≤ b → ro b = .all) :
    GoodS P S ro ρ D Ks K f base f' base' s w ∨ (base = [] ∧ f.mode = .returning) ∨ Bad (stepG P true (G f (base ++ [trapFrame])) s) (base ++ [trapFrame]) := by
  have refl := Mv.refl (ro := ro) (S := (fun f => S f = true)) hr ht hd
  have ctl : ∀ {g g' : Frame}, (∀ s, stepG P true (G f (base ++ [trapFrame])) s = .go (G g (base ++ [trapFrame])) s #[]) → (∀ main tail, stepG P main (G f' (base' ++ tail)) w = .go (G g' (base' ++ tail)) w #[]) → KR P S D Ks K ρ (g :: base) (g' :: base') → GoodS P S ro ρ D Ks K f base f' base' s w :=
    fun h1 h2 h3 => ⟨_, base, s, #[], h1 s, ⟨rfl, 0, rfl, fun τ d _ => h1 _⟩, _, base', w, ρ, #[], h2, h3, refl⟩
  obtain ⟨D₀, Ks₀, K₀, hf, hK₀, reb⟩ : ∃ D₀ Ks₀ K₀, FR P S ρ D₀ Ks₀ K₀ f f' ∧ KsOk Ks₀ K₀ ∧ ∀ ρ' g g', Ext ρ ρ' → g.fn = f.fn → FR P S ρ' D₀ Ks₀ K₀ g g' → KR P S D Ks K ρ' (g :: base) (g' :: base') := by
    cases h with
    | one h => exact ⟨_, _, _, h, hKs, fun _ _ _ _ _ h => .one h⟩
    | cons h hS hp => exact ⟨_, _, _, h, .inl ⟨rfl, rfl⟩, fun ρ' g g' e hfn h => .cons h (by rw [hfn]; exact hS) fun ρ₂ v v' e2 hv => hp ρ₂ v v' (e.trans e2) hv⟩
  cases hf with
  | @ret b b' a a' todo todo' hfn hk hk' hda hda' hta hR =>
    cases h with
    | one _ => exact .inr (.inl ⟨rfl, rfl⟩)
    | cons h hS hp =>
      rename_i c c' r r'
      obtain ⟨fn, code, hfn1, -⟩ := F _ hS
      have hfn1 : P.funcs[b.fn]? = some fn := hfn1
      have hfn2 : P.funcs[b'.fn]? = some fn := by rw [hfn]; exact hfn1
      have e1 := msk_results (xs := a.tmps) (hR fn hfn1)
      have e2 := msk_results (xs := a'.tmps) (hR fn hfn1)
      obtain ⟨k1, k2, k3⟩ := SR.results (P := P) (ro := ro) (a := mskA D₀ a) (a' := mskA D₀ a') hta fn s w hr ht hd hro
      simp only [mskA] at k1 k2 k3
      rw [e1] at k1 k2 k3
      rw [e2] at k1
      cases hres : (Go.results fn a.tmps).run P s with
      | halt hh s1 =>
        obtain ⟨o, es, e⟩ := stepG_leaveX (main := true) (todo := todo) (cs := c :: (r ++ [trapFrame])) hk hda hfn1 hres
        exact .inr (.inr (.inl ⟨_, _, _, e⟩))
      | ok v s1 =>
        obtain ⟨ρ1, v', w1, h1, h2, h3⟩ := k1 v s1 hres
        obtain ⟨l1, n, l2, l3⟩ := k3 v s1 hres
        exact .inl ⟨c.finish v, r, s1, _, stepG_leaveE hk hda hfn1 hres, ⟨l1, n, l2, fun τ d hτ => by have := stepG_leaveE (main := true) (todo := todo) (cs := r ++ [trapFrame]) (c := c) hk hda hfn1 (l3 τ d hτ).1; rw [(l3 τ d hτ).2] at this; exact this⟩, c'.finish v', r', w1, ρ1, _, fun main tail => stepG_leaveE hk' hda' hfn2 h1, hp ρ1 v v' h2.ext h3, h2.sub fun e he => mem_seen he⟩
  | @run b b' a a' X hfn hk hk' hda hda' hX hta hR =>
    have hke : b.kind ≠ .early := by rw [hk]; simp
    have hke' : b'.kind ≠ .early := by rw [hk']; simp
    have top : ∀ {ρ' : Nat → Option Nat} {a2 a2' : Act} (X2 : List Item), Ext ρ ρ' → a2.defers = [] → a2'.defers = [] → X2.all (itemOk P S D₀) = true → AR (fun f => S f = true) ρ' (msk D₀ a2.tmps) (msk D₀ a2'.tmps) → KR P S D Ks K ρ' (b.at a2 (X2 ++ Ks₀) :: base) (b'.at a2' (X2 ++ K₀) :: base') :=
      fun X2 e d1 d2 hx hh => reb _ _ _ e rfl (.run X2 hfn hk hk' d1 d2 hx hh hR)
    have ret : ∀ {todo todo' : List Item}, KR P S D Ks K ρ ({ b.at a todo with mode := .returning } :: base) ({ b'.at a' todo' with mode := .returning } :: base') :=
      reb _ _ _ (.refl _) rfl (.ret hfn hk hk' hda hda' hta hR)
    have hKs0 : Ks₀ = [] ∨ Ks₀ = [trapItem] := hK₀.imp (·.1) id
    cases X with
    | nil =>
      rcases hK₀ with ⟨rfl, rfl⟩ | rfl
      · exact .inl (ctl (fun _ => stepG_end) (fun _ _ => stepG_end) ret)
      · refine .inr (.inr (.inl ?_))
        exact ⟨_, _, _, by simp [G, stepG, stepG.exec, Frame.at, trapItem]; exact ⟨rfl, rfl, rfl⟩⟩
    | cons x X =>
      simp only [List.all_cons, Bool.and_eq_true] at hX
      obtain ⟨hx, hX⟩ := hX
      have pop : AR (fun f => S f = true) ρ (mskA D₀ a).tmps (mskA D₀ a').tmps := hta
      cases x with
      | code c =>
        have one : ∀ {c1 : Code}, codeOk P S D₀ c1 = true → (Item.code c1 :: X).all (itemOk P S D₀) = true := fun h1 => by simp only [List.all_cons, Bool.and_eq_true]; exact ⟨h1, hX⟩
        cases c with
        | skip => exact .inl (ctl (fun _ => stepG_skip) (fun _ _ => stepG_skip) (top X (.refl _) hda hda' hX hta))
        | label l => exact .inl (ctl (fun _ => stepG_label) (fun _ _ => stepG_label) (top X (.refl _) hda hda' hX hta))
        | ret => exact .inl (ctl (fun _ => stepG_ret') (fun _ _ => stepG_ret') ret)
        | seq c1 c2 =>
          simp only [itemOk, codeOk, Bool.and_eq_true] at hx
          exact .inl (ctl (fun _ => stepG_seq) (fun _ _ => stepG_seq) (top (.code c1 :: .code c2 :: X) (.refl _) hda hda' (by simp only [List.all_cons, Bool.and_eq_true]; exact ⟨hx.1, hx.2, hX⟩) hta))
        | block id c1 => exact .inl (ctl (fun _ => stepG_block) (fun _ _ => stepG_block) (top (.code c1 :: .inBlock id :: X) (.refl _) hda hda' (by simp only [List.all_cons, Bool.and_eq_true]; exact ⟨hx, rfl, hX⟩) hta))
        | loop c1 => exact .inl (ctl (fun _ => stepG_loop) (fun _ _ => stepG_loop) (top (.code c1 :: .inLoop c1 :: X) (.refl _) hda hda' (by simp only [List.all_cons, Bool.and_eq_true]; exact ⟨hx, hx, hX⟩) hta))
        | cond q c1 c2 =>
          simp only [itemOk, codeOk, Bool.and_eq_true] at hx
          have hv := evR pop q hx.1.1.1
          rw [msk_eval hx.1.1.2, msk_eval hx.1.1.2] at hv
          have dead : (∀ t, a.eval q ≠ .bool t) → Bad (stepG P true (G (b.at a (.code (.cond q c1 c2) :: X ++ Ks₀)) (base ++ [trapFrame])) s) (base ++ [trapFrame]) := fun hn => by
            refine .inl ?_
            have he : (b.at a (.code (.cond q c1 c2) :: (X ++ Ks₀))).eval q = a.eval q := Frame.eval_at _ _ _ _
            simp only [Frame.at] at he
            cases hq : a.eval q <;> first
              | exact absurd hq (hn _)
              | (rw [hq] at he; exact ⟨_, _, _, by simp [G, stepG, stepG.exec, Frame.at, he]; exact ⟨rfl, rfl, rfl⟩⟩)
          cases hq : a.eval q with
          | bool t =>
            rw [hq] at hv
            have hq' : a'.eval q = .bool t := by
              generalize a'.eval q = z at hv
              cases hv; rfl
            exact .inl (ctl (fun _ => stepG_cond hq) (fun _ _ => stepG_cond hq') (top (.code (if t then c1 else c2) :: X) (.refl _) hda hda' (by cases t <;> simp only [List.all_cons, Bool.and_eq_true] <;> first | exact ⟨hx.1.2, hX⟩ | exact ⟨hx.2, hX⟩) hta))
          | _ => exact .inr (.inr (dead fun t e => by rw [hq] at e; cases e))
        | exit id =>
          cases he : exitTo id (X ++ Ks₀) with
          | none =>
            refine .inr (.inr (.inl ?_))
            exact ⟨_, _, _, by simp [G, stepG, stepG.exec, Frame.at, he]; exact ⟨rfl, rfl, rfl⟩⟩
          | some k' =>
            obtain ⟨Y, rfl, h2, h3⟩ := exitTo_app hKs0 X he
            refine .inl (ctl (fun _ => stepG_exit he) (fun _ _ => stepG_exit (h2 K₀)) (top Y (.refl _) hda hda' ?_ hta))
            rw [List.all_eq_true] at hX ⊢
            exact fun y hy => hX y (h3 y hy)
        | region id ops draw =>
          cases draw with
          | false => exact .inl (ctl (fun _ => stepG_region) (fun _ _ => stepG_region) (top (.inRegion ops (List.range ops.size) :: X) (.refl _) hda hda' (by simp only [List.all_cons, Bool.and_eq_true]; exact ⟨hx, hX⟩) hta))
          | true =>
            have e : b'.fn = b.fn := hfn
            refine .inl ⟨_, base, _, _, stepG_region_draw, ⟨rfl, 1, rfl, fun τ d hτ => by
              have e := hτ 0 (by omega)
              simp only [Nat.add_zero] at e
              refine (stepG_region_draw (P := P) (main := true) (b := b) (a := a) (k := X ++ Ks₀) (cs := base ++ [trapFrame]) (w := World.on s τ d) (id := id) (ops := ops)).trans ?_
              show GStep.go (G (b.at a (.inRegion ops (Region.schedule _ ops (τ d (.order b.fn id))) :: (X ++ Ks₀))) _) _ _ = _
              rw [e]; rfl⟩, b'.at a' (.inRegion ops (Region.schedule (P.follows .mixedOrders) ops (s.tape s.drawn (.order b.fn id))) :: (X ++ K₀)), base', { w with drawn := w.drawn + 1 }, ρ, #[], fun main tail => ?_, top (.inRegion ops _ :: X) (.refl _) hda hda' (by simp only [List.all_cons, Bool.and_eq_true]; exact ⟨hx, hX⟩) hta, ?_⟩
            · rw [ht, hd, ← e]; exact stepG_region_draw
            · exact ⟨.refl _, ⟨hr.inj, hr.row, hr.hole, hr.low, hr.gs, hr.gw⟩, ht, by simp [hd], rfl, rfl, rfl, Nat.le_refl _, fun _ _ _ => rfl, fun _ _ _ _ _ cs _ _ hc => ⟨cs, hc, rfl, fun _ _ => rfl⟩, fun _ _ h => .inl h, by simp, Nat.le_refl _, rfl, rfl, fun a b => ⟨a, b⟩⟩
        | _ => cases hx
      | inBlock id => exact .inl (ctl (fun _ => stepG_inBlock) (fun _ _ => stepG_inBlock) (top X (.refl _) hda hda' hX hta))
      | inLoop c => exact .inl (ctl (fun _ => stepG_inLoop) (fun _ _ => stepG_inLoop) (top (.code c :: .inLoop c :: X) (.refl _) hda hda' (by simp only [List.all_cons, Bool.and_eq_true]; exact ⟨hx, hx, hX⟩) hta))
      | inRegion ops l =>
        cases l with
        | nil => exact .inl (ctl (fun _ => stepG_region_end) (fun _ _ => stepG_region_end) (top X (.refl _) hda hda' hX hta))
        | cons i rest =>
          have hrest : (Item.inRegion ops rest :: X).all (itemOk P S D₀) = true := by simp only [List.all_cons, Bool.and_eq_true]; exact ⟨hx, hX⟩
          have hxD : ∀ o ∈ ops, opOk P S o = true ∧ opD D₀ o = true := fun o ho => by
            have : (ops.all fun o => opOk P S o && opD D₀ o) = true := hx
            rw [Array.all_eq_true_iff_forall_mem] at this
            simpa using this o ho
          have hy : yielded ops a.tmps = yielded ops a'.tmps := by
            have := yielded_rel pop ops
            simp only [mskA] at this
            rw [msk_yielded fun o ho => (hxD o ho).2, msk_yielded fun o ho => (hxD o ho).2] at this
            exact this
          have put' : ∀ {o : Oper} {ρ' : Nat → Option Nat} {v v' : Value}, o ∈ ops → Ext ρ ρ' → VR (fun f => S f = true) ρ' v v' → AR (fun f => S f = true) ρ' (msk D₀ (a.put o.dst v).tmps) (msk D₀ (a'.put o.dst v').tmps) := by
            intro o ρ' v v' ho e hv
            have hD := (hxD o ho).2
            unfold opD at hD
            simp only [Bool.and_eq_true] at hD
            rw [msk_put D₀ a o.dst _ hD.1, msk_put D₀ a' o.dst _ hD.1]
            exact AR.put (pop.mono e) o.dst hv
          cases ho : ops[i]? with
          | none =>
            have st : ∀ (b : Frame) (a : Act) (k : List Item) (main : Bool) (cs : List Frame) (w : World), stepG P main (G (b.at a (.inRegion ops (i :: rest) :: k)) cs) w = .go (G (b.at a (.inRegion ops rest :: k)) cs) w #[] := by
              intro b a k main cs w
              simp [G, stepG, stepG.exec, Frame.at, ho, Frame.finish]
            exact .inl (ctl (fun _ => st _ _ _ _ _ _) (fun _ _ => st _ _ _ _ _ _) (top (.inRegion ops rest :: X) (.refl _) hda hda' hrest hta))
          | some o =>
            cases hw : Region.wanted o (yielded ops a.tmps) with
            | false =>
              have hw' : Region.wanted o (yielded ops a'.tmps) = false := by rw [← hy]; exact hw
              exact .inl (ctl (fun _ => stepG_unwanted ho hw) (fun _ _ => stepG_unwanted ho hw') (top (.inRegion ops rest :: X) (.refl _) (by rw [put_defers]; exact hda) (by rw [put_defers]; exact hda') hrest (put' (Array.mem_of_getElem? ho) (.refl _) VR.undef)))
            | true =>
              have hw' : Region.wanted o (yielded ops a'.tmps) = true := by rw [← hy]; exact hw
              obtain ⟨hok, hoD⟩ := hxD o (Array.mem_of_getElem? ho)
              obtain ⟨k1, k2, k3⟩ := SR.exec (P := P) (ro := ro) F.body (evR pop) hok s w hr ht hd hro
              rw [msk_exec hoD] at k1 k2 k3
              rw [msk_exec hoD] at k1
              cases hrun : (execOp a.eval o).run P s with
              | halt hh s1 =>
                have tm := k2 hh s1 hrun
                refine .inr (.inr ?_)
                have e := stepG_oper (P := P) (main := true) (b := b) (rest := rest) (k := X ++ Ks₀) (cs := base ++ [trapFrame]) (w := s) ho hw
                have hk1 : (b.kind == CallKind.early) = false := by simpa using hke
                cases hh with
                | panic v =>
                  refine .inr ⟨(b.at a (.inRegion ops (i :: rest) :: (X ++ Ks₀))).raise [{ v, recovered := false }], s1, listed P b.fn a o s, [{ v, recovered := false }], ?_, rfl, ?_⟩
                  · show stepG P true (G (b.at a (.inRegion ops (i :: rest) :: (X ++ Ks₀))) (base ++ [trapFrame])) s = _
                    rw [e]
                    simp [stepG.apply, hrun, G, Frame.at, hk1, GStep.after, listed]
                  · simp [Frame.raise, Frame.at, hda]
                | stuck m =>
                  refine .inl ?_
                  show ∃ o w es, stepG P true (G (b.at a (.inRegion ops (i :: rest) :: (X ++ Ks₀))) (base ++ [trapFrame])) s = _
                  rw [e]
                  exact ⟨_, _, _, by simp [stepG.apply, hrun, GStep.after]; exact ⟨rfl, rfl, rfl⟩⟩
                | unsupported u =>
                  refine .inl ?_
                  show ∃ o w es, stepG P true (G (b.at a (.inRegion ops (i :: rest) :: (X ++ Ks₀))) (base ++ [trapFrame])) s = _
                  rw [e]
                  cases u <;> first
                    | exact tm.elim
                    | exact ⟨_, _, _, by simp [stepG.apply, hrun, GStep.after]; exact ⟨rfl, rfl, rfl⟩⟩
                | _ => exact tm.elim
              | ok nx s1 =>
                obtain ⟨ρ1, nx', w1, h1, h2, h3⟩ := k1 nx s1 hrun
                obtain ⟨l1, n, l2, l3⟩ := k3 nx s1 hrun
                have l4 : ∀ τ d, (∀ j, j < n → τ (d + j) = s.tape (s.drawn + j)) → listed P b.fn a o (World.on s τ d) = listed P b.fn a o s := fun τ d hτ => by unfold listed; rw [(l3 τ d hτ).2]
                have h2' : ∀ fn, Mv P.globals.size (fun f => S f = true) ro ρ s w ρ1 s1 w1 (listed P fn a' o w) := fun fn => h2.sub fun e he => mem_listed he
                rcases h3 with ⟨v, v', rfl, rfl, hv⟩ | ⟨rfl, rfl⟩ | ⟨g, as, as', rfl, rfl, hg, has⟩
                · exact .inl ⟨_, base, s1, _, stepG_value ho hw hke hrun, ⟨l1, n, l2, fun τ d hτ => by rw [← l4 τ d hτ]; exact stepG_value ho hw hke (l3 τ d hτ).1⟩, _, base', w1, ρ1, _, fun main tail => stepG_value ho hw' hke' h1, top (.inRegion ops rest :: X) h2.ext (by rw [put_defers]; exact hda) (by rw [put_defers]; exact hda') hrest (put' (Array.mem_of_getElem? ho) h2.ext hv), h2' _⟩
                · exact .inl ⟨_, base, s1, _, stepG_none ho hw hke hrun, ⟨l1, n, l2, fun τ d hτ => by rw [← l4 τ d hτ]; exact stepG_none ho hw hke (l3 τ d hτ).1⟩, _, base', w1, ρ1, _, fun main tail => stepG_none ho hw' hke' h1, top (.inRegion ops rest :: X) h2.ext (by rw [put_defers]; exact hda) (by rw [put_defers]; exact hda') hrest (put' (Array.mem_of_getElem? ho) h2.ext VR.undef), h2' _⟩
                · obtain ⟨fn, code, hf1, hf2, hf3, hf4⟩ := F g hg
                  refine .inl ⟨Frame.enter P g as .normal, b.at a (.inRegion ops (i :: rest) :: (X ++ Ks₀)) :: base, s1, _, stepG_enter ho hw hke hrun, ⟨l1, n, l2, fun τ d hτ => by rw [← l4 τ d hτ]; exact stepG_enter ho hw hke (l3 τ d hτ).1⟩, Frame.enter P g as' .normal, b'.at a' (.inRegion ops (i :: rest) :: (X ++ K₀)) :: base', w1, ρ1, _, fun main tail => stepG_enter ho hw' hke' h1, ?_, h2' _⟩
                  rw [enter_at as hf1 hf2, enter_at as' hf1 hf2]
                  refine .cons ?_ hg fun ρ₂ v v' e2 hv => ?_
                  · refine .run (b := Go.Conc.base g) (b' := Go.Conc.base g) [.code code] rfl rfl rfl rfl rfl (by simp only [List.all_cons, Bool.and_eq_true]; exact ⟨hf4, rfl⟩) ?_ res_no
                    show AR (fun f => S f = true) ρ1 (msk noD (as ++ Array.replicate (fn.ntmps - as.size) undef)) (msk noD (as' ++ Array.replicate (fn.ntmps - as'.size) undef))
                    rw [msk_no, msk_no, ← has.size]
                    exact has.append (AR.replicate _ VR.undef)
                  · have f1 : (b.at a (.inRegion ops (i :: rest) :: (X ++ Ks₀))).finish v = b.at (a.put o.dst v) (.inRegion ops rest :: (X ++ Ks₀)) := by rw [Frame.finish_at, ho]; rfl
                    have f2 : (b'.at a' (.inRegion ops (i :: rest) :: (X ++ K₀))).finish v' = b'.at (a'.put o.dst v') (.inRegion ops rest :: (X ++ K₀)) := by rw [Frame.finish_at, ho]; rfl
                    rw [f1, f2]
                    exact top (.inRegion ops rest :: X) (h2.ext.trans e2) (by rw [put_defers]; exact hda) (by rw [put_defers]; exact hda') hrest (put' (Array.mem_of_getElem? ho) (h2.ext.trans e2) hv)
      | _ => cases hx
end
end Go.Proofs.Ytpfpokjaeffbjab.Cc
