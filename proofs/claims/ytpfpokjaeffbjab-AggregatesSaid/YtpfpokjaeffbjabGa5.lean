/- Part of the proof: RenOp3, RenOp4, RenOp5. -/
import Derived.Test.YtpfpokjaeffbjabGa4
namespace Go.Proofs.Ytpfpokjaeffbjab.Cc
set_option linter.unusedVariables false
section
variable {P : Program} {S : FuncId → Prop} {ro : Nat → Md} {ρ : Nat → Option Nat} {v v' u u' : Value}
def ElemOk (P : Program) (S : FuncId → Prop) (t : TypeId) : Prop := ∀ e, P.underlying t = some (.slice e) → ZeroOk P S e
theorem SR.build {t : TypeId} (hz : ZeroOk P S t) {ps ps' : Array (Nat × Value)} (h : PartsR S ρ ps.toList ps'.toList) : SR P S ro ρ (Instr.build t ps) (Instr.build t ps') fun ρ' x y => VR S ρ' x y := by
  unfold Instr.build
  refine SR.bind (SR.zeroValue hz) fun ρ₁ z z' he₁ hzz => ?_
  refine SR.bind (SR.underlying t) fun ρ₂ d d' he₂ hd => ?_
  obtain ⟨rfl, -⟩ := hd
  split
  · rename_i fields
    have key : ∀ (l : List Field) (ρ : Nat → Option Nat), SR P S ro ρ (l.mapM fun f => (do Pure.pure (f.offset, ← Go.sizeOf f.type) : Sem (Nat × Nat))) (l.mapM fun f => (do Pure.pure (f.offset, ← Go.sizeOf f.type) : Sem (Nat × Nat))) fun _ a b => a = b := by
      intro l
      induction l with
      | nil => intro ρ; simp only [List.mapM_nil]; exact SR.pure rfl
      | cons f l ih =>
        intro ρ
        simp only [List.mapM_cons]
        refine SR.bind (SR.bind (SR.sizeOf f.type) (W := fun _ a b => a = b) fun _ n m _ e => by subst e; exact SR.pure rfl) fun ρ₁ a b _ e => ?_
        subst e
        refine SR.bind (ih ρ₁) fun ρ₂ x y _ e => ?_
        subst e
        exact SR.pure rfl
    rw [Array.mapM_eq_mapM_toList]
    refine SR.bind (V := fun _ a b => a = b) ?_ fun ρ₃ pl pl' he₃ e => ?_
    · refine SR.bind (key fields.toList ρ₂) (W := fun _ a b => a = b) fun ρ₃ a b _ e => ?_
      subst e
      exact SR.pure rfl
    · subst e
      cases hf : Instr.fill (fun x => pl[x]?) z.cells ps.toList with
      | none => exact SR.stuck
      | some r =>
        obtain ⟨r', hr', hrr⟩ := fill_rel _ _ _ _ _ (((h.mono he₁).mono he₂).mono he₃) ((hzz.cells.mono he₂).mono he₃) r hf
        simp only [hr']
        exact SR.pure (VR.agg' hrr)
  · rename_i n elem
    refine SR.bind (SR.sizeOf elem) fun ρ₃ m m' he₃ e => ?_
    subst e
    cases hf : Instr.fill (fun i => some (i * m, m)) z.cells ps.toList with
    | none => exact SR.stuck
    | some r =>
      obtain ⟨r', hr', hrr⟩ := fill_rel _ _ _ _ _ (((h.mono he₁).mono he₂).mono he₃) ((hzz.cells.mono he₂).mono he₃) r hf
      simp only [hr']
      exact SR.pure (VR.agg' hrr)
  · exact SR.stuck
theorem SR.buildSlice {t : TypeId} (hz : ElemOk P S t) {len : Nat} {ps ps' : Array (Nat × Value)} (h : PartsR S ρ ps.toList ps'.toList) : SR P S ro ρ (Instr.buildSlice t len ps) (Instr.buildSlice t len ps') fun ρ' x y => VR S ρ' x y := by
  unfold Instr.buildSlice
  refine SR.bind (SR.underlying t) fun ρ₁ d d' he₁ hd => ?_
  obtain ⟨rfl, hu⟩ := hd
  split
  · rename_i elem
    refine SR.bind (SR.sizeOf elem) fun ρ₂ m m' he₂ e => ?_
    subst e
    by_cases hbig : len * m > 2 ^ 24
    · rw [if_pos hbig, if_pos hbig]; exact SR.unsupBind trivial
    · rw [if_neg hbig, if_neg hbig]
      dsimp only
      have tail : ∀ (ρ₃ : Nat → Option Nat) (z z' : Array Value), Ext ρ₂ ρ₃ → AR S ρ₃ z z' →
          SR P S ro ρ₃ (match Instr.fill (fun i => some (i * m, m)) ((Array.range (len * m)).map (z[· % z.size]!)) ps.toList with
            | some cells => do
              let __do_lift ← Go.newRow elem cells
              Pure.pure (Value.slice (some __do_lift) len len)
            | x => Go.stuck "buildSlice: a part of the wrong size")
            (match Instr.fill (fun i => some (i * m, m)) ((Array.range (len * m)).map (z'[· % z'.size]!)) ps'.toList with
            | some cells => do
              let __do_lift ← Go.newRow elem cells
              Pure.pure (Value.slice (some __do_lift) len len)
            | x => Go.stuck "buildSlice: a part of the wrong size") fun ρ' x y => VR S ρ' x y := by
        intro ρ₃ z z' he₃ hzz
        cases hf : Instr.fill (fun i => some (i * m, m)) ((Array.range (len * m)).map (z[· % z.size]!)) ps.toList with
        | none => exact SR.stuck
        | some r =>
          obtain ⟨r', hr', hrr⟩ := fill_rel _ _ _ _ _ (((h.mono he₁).mono he₂).mono he₃) (zeroRow_rel hzz (len * m)) r hf
          simp only [hr']
          exact SR.bind (SR.newRow hrr) fun _ a b _ hab => SR.pure (hab.slice _ _)
      split
      · exact SR.bind (SR.pure (V := fun ρ' a b => AR S ρ' a b) AR.empty) fun ρ₃ z z' he₃ hzz => tail ρ₃ z z' he₃ hzz
      · exact SR.bind (SR.zeroValue (hz _ hu)) fun ρ₃ a b he₃ hab => SR.bind (SR.pure (V := fun ρ' a b => AR S ρ' a b) hab.cells) fun ρ₄ z z' he₄ hzz => tail ρ₄ z z' (he₃.trans he₄) hzz
  · exact SR.stuck
theorem SR.field {t : TypeId} (h : VR S ρ v v') (f : Nat) : SR P S ro ρ (Instr.field t v f) (Instr.field t v' f) fun ρ' x y => VR S ρ' x y := by
  unfold Instr.field
  refine SR.bind (SR.underlying t) fun ρ₁ d d' he₁ hd => ?_
  obtain ⟨rfl, hu⟩ := hd
  split
  · split
    · exact SR.bind (SR.asAgg (h.mono he₁)) fun _ a b _ hab => SR.part hab _
    · exact SR.stuck
  · exact SR.stuck
theorem SR.partAt {a a' : Addr} (h : AdR ρ a a') (n k : Nat) : SR P S ro ρ (partAt a n k) (partAt a' n k) fun ρ' x y => AdR ρ' x y := by
  unfold Go.partAt
  refine SR.bind (SR.byteOf h) fun ρ₁ x y he₁ e => ?_
  subst e
  have h1 := h.mono he₁
  have hp : AdR ρ₁ { block := a.block, off := a.off + n } { block := a'.block, off := a'.off + n } := ⟨h1.1, by simp [h1.2.1], rfl⟩
  refine SR.bind (SR.byteOf hp) fun ρ₂ x₂ y₂ he₂ e => ?_
  subst e
  have hp2 := hp.mono he₂
  refine SR.pure ?_
  split
  · exact hp2
  · exact ⟨hp2.1, hp2.2.1, rfl⟩
theorem SR.fieldAt {t : TypeId} (h : VR S ρ v v') (f : Nat) : SR P S ro ρ (Instr.fieldAt t v f) (Instr.fieldAt t v' f) fun ρ' x y => VR S ρ' x y := by
  unfold Instr.fieldAt
  refine SR.bind (SR.underlying t) fun ρ₁ d d' he₁ hd => ?_
  obtain ⟨rfl, hu⟩ := hd
  split
  · split
    · refine SR.bind (SR.sureAddr (h.mono he₁)) fun ρ₂ a a' he₂ ha => ?_
      refine SR.bind (V := fun ρ' x y => AdR ρ' x y) ?_ fun _ x y _ hxy => SR.pure hxy.ptr
      unfold fieldPlace
      refine SR.bind (SR.sizeOf _) fun ρ₃ n n' he₃ e => ?_
      subst e
      split
      · exact SR.partAt (ha.mono he₃) _ _
      · exact SR.pure ((ha.mono he₃).add _)
    · exact SR.stuck
  · exact SR.stuck
theorem SR.index {t : TypeId} (h : VR S ρ v v') (k : VR S ρ u u') : SR P S ro ρ (Instr.index t v u) (Instr.index t v' u') fun ρ' x y => VR S ρ' x y := by
  unfold Instr.index
  refine SR.bind (SR.asIntOf k) fun ρ₁ d d' he₁ e => ?_
  subst e
  refine SR.bind (SR.underlying t) fun ρ₂ d₂ d₂' he₂ hd => ?_
  obtain ⟨rfl, hu⟩ := hd
  have h2 := (h.mono he₁).mono he₂
  cases h2 with
  | agg hx h1 =>
    split
    · rename_i heq; cases heq
      split
      · refine SR.bind (SR.sizeOf _) fun ρ₃ n n' he₃ e => ?_
        subst e
        exact SR.part ((AR.mk hx h1).mono he₃) _
      · exact SR.bounds
    · rename_i heq; cases heq
    · exact SR.stuck
  | string s =>
    split
    · rename_i heq; cases heq
    · rename_i heq; cases heq
      split
      · exact SR.pure (.int _ _)
      · exact SR.bounds
    · exact SR.stuck
  | _ =>
    split
    · rename_i heq; cases heq
    · rename_i heq; cases heq
    · exact SR.stuck
theorem SR.indexAt {t : TypeId} (h : VR S ρ v v') (k : VR S ρ u u') : SR P S ro ρ (Instr.indexAt t v u) (Instr.indexAt t v' u') fun ρ' x y => VR S ρ' x y := by
  unfold Instr.indexAt
  refine SR.bind (SR.asIntOf k) fun ρ₁ d d' he₁ e => ?_
  subst e
  obtain ⟨kk, i⟩ := d
  dsimp only
  refine SR.bind (SR.underlying t) fun ρ₂ d₂ d₂' he₂ hd => ?_
  obtain ⟨rfl, hu⟩ := hd
  have h2 := (h.mono he₁).mono he₂
  have tail : ∀ (b1 b2 : Option Addr) (l1 : Nat) (e1 : TypeId) (tiny : Bool) (ρ₃ : Nat → Option Nat), ((b1 = none ∧ b2 = none) ∨ ∃ x x', b1 = some x ∧ b2 = some x' ∧ AdR ρ₃ x x') → SR P S ro ρ₃ (match b1 with
      | some a => if 0 ≤ i ∧ i < (l1 : Int) then (do
          let __do_lift ← Go.sizeOf e1
          Pure.pure (Value.pointer (some (a.add (i.toNat * __do_lift)))) : Sem Value) else if tiny then Go.unsupported (.noEntry "op/indexAddr.an index out of range at an array of length 0 or 1 (ledger 616)") else boundsPanic kk i l1 .index
      | none => boundsPanic kk i 0 .index) (match b2 with
      | some a => if 0 ≤ i ∧ i < (l1 : Int) then (do
          let __do_lift ← Go.sizeOf e1
          Pure.pure (Value.pointer (some (a.add (i.toNat * __do_lift)))) : Sem Value) else if tiny then Go.unsupported (.noEntry "op/indexAddr.an index out of range at an array of length 0 or 1 (ledger 616)") else boundsPanic kk i l1 .index
      | none => boundsPanic kk i 0 .index) fun ρ' x y => VR S ρ' x y := by
    intro b1 b2 l1 e1 tiny ρ₃ hb
    rcases hb with ⟨rfl, rfl⟩ | ⟨x, x', rfl, rfl, hx⟩
    · exact SR.bounds
    · dsimp only
      split
      · refine SR.bind (SR.sizeOf _) fun ρ₄ n n' he₄ e => ?_
        subst e
        exact SR.pure ((hx.mono he₄).add _).ptr
      · split
        · exact SR.unsupported trivial
        · exact SR.bounds
  cases d₂ with
  | array len elem =>
    dsimp only
    refine SR.bind (SR.sureAddr h2) fun ρ₃ a b he₃ hab => ?_
    refine SR.bind (SR.pure (V := fun ρ' x y => x = (some a, len, elem) ∧ y = (some b, len, elem)) ⟨rfl, rfl⟩) fun ρ₄ x y he₄ hxy => ?_
    obtain ⟨rfl, rfl⟩ := hxy
    dsimp only
    refine SR.bind (SR.underlying t) fun ρ₅ d₃ d₃' he₅ hd => ?_
    obtain ⟨rfl, hu⟩ := hd
    exact tail _ _ _ _ _ ρ₅ (.inr ⟨a, b, rfl, rfl, (hab.mono he₄).mono he₅⟩)
  | slice elem =>
    cases h2 with
    | nilSlice l c =>
      dsimp only
      refine SR.bind (SR.pure (V := fun ρ' x y => x = (none, l, elem) ∧ y = (none, l, elem)) ⟨rfl, rfl⟩) fun ρ₄ x y he₄ hxy => ?_
      obtain ⟨rfl, rfl⟩ := hxy
      dsimp only
      refine SR.bind (SR.underlying t) fun ρ₅ d₃ d₃' he₅ hd => ?_
      obtain ⟨rfl, hu⟩ := hd
      exact SR.bounds
    | @slice b c off sp l cp hb =>
      dsimp only
      refine SR.bind (SR.pure (V := fun ρ' x y => x = (some ⟨b, off, sp⟩, l, elem) ∧ y = (some ⟨c, off, sp⟩, l, elem)) ⟨rfl, rfl⟩) fun ρ₄ x y he₄ hxy => ?_
      obtain ⟨rfl, rfl⟩ := hxy
      dsimp only
      refine SR.bind (SR.underlying t) fun ρ₅ d₃ d₃' he₅ hd => ?_
      obtain ⟨rfl, hu⟩ := hd
      exact tail _ _ _ _ _ ρ₅ (.inr ⟨⟨b, off, sp⟩, ⟨c, off, sp⟩, rfl, rfl, show AdR ρ₅ ⟨b, off, sp⟩ ⟨c, off, sp⟩ from ⟨he₅ b c (he₄ b c hb), rfl, rfl⟩⟩)
    | _ => exact SR.stuckBind
  | _ => exact SR.stuckBind
theorem SR.extract (h : VR S ρ v v') (i : Nat) : SR P S ro ρ (Instr.extract v i) (Instr.extract v' i) fun ρ' x y => VR S ρ' x y := by
  cases h with
  | tuple hx h1 =>
    unfold Instr.extract
    rename_i x x'
    have A : AR S ρ x x' := ⟨hx, h1⟩
    cases hc : x[i]? with
    | none => simp only [hc]; exact SR.stuck
    | some z =>
      obtain ⟨z', hz', hr⟩ := A.get hc
      simp only [hc, hz']
      exact SR.pure hr
  | _ => exact SR.stuck
theorem SR.makeFunc {f : FuncId} (hf : S f) {x y x' y' : Array Value} (hx : AR S ρ x x') (hy : AR S ρ y y') : SR P S ro ρ (Instr.makeFunc (.func f) x y) (Instr.makeFunc (.func f) x' y') fun ρ' x y => VR S ρ' x y := SR.pure (VR.func' hf hx hy)
end
end Go.Proofs.Ytpfpokjaeffbjab.Cc
namespace Go.Proofs.Ytpfpokjaeffbjab.Cc
set_option linter.unusedVariables false
section
variable {P : Program} {S : FuncId → Prop} {ro : Nat → Md} {ρ : Nat → Option Nat} {v v' u u' : Value}
theorem SR.len {ts : Array TypeId} {t : TypeId} {args args' : Array Value} (h : AR S ρ args args') (hk : ∃ t0 d, ts[0]? = some t0 ∧ P.underlying t0 = some d ∧ (d = .string ∨ ∃ e, d = .slice e)) :
    SR P S ro ρ (Builtin.len_ ts t args) (Builtin.len_ ts t args') fun ρ' x y => VR S ρ' x y := by
  obtain ⟨t0, d0, h0, hu0, hd0⟩ := hk
  unfold Builtin.len_
  rw [h0]
  cases ha : args[0]? with
  | none => exact SR.stuck
  | some x =>
    obtain ⟨x', hx', hr⟩ := h.get ha
    rw [hx']
    dsimp only
    refine SR.bind (SR.underlying t0) fun ρ₁ d d' he₁ hd => ?_
    obtain ⟨rfl, hu⟩ := hd
    rw [hu0] at hu; cases hu
    rcases hd0 with rfl | ⟨e, rfl⟩
    · cases hr with
      | string s => exact SR.pure (.int _ _)
      | _ => exact SR.stuck
    · cases hr with
      | nilSlice l c => exact SR.pure (.int _ _)
      | slice off sp l c hb => exact SR.pure (.int _ _)
      | _ => exact SR.stuck
theorem SR.lenOf (h : VR S ρ v v') : SR P S ro ρ (Builtin.lenOf v) (Builtin.lenOf v') fun _ a b => a = b := by
  cases h <;> first | exact SR.pure rfl | exact SR.stuck
theorem SR.firstCells (size n : Nat) (h : VR S ρ v v') : SR P S ro ρ (Builtin.firstCells size n v) (Builtin.firstCells size n v') fun ρ' a b => AR S ρ' a b := by
  cases h with
  | nilSlice l c => exact SR.pure AR.empty
  | slice off sp l c hb => exact SR.loadCells (show AdR ρ ⟨_, off, sp⟩ ⟨_, off, sp⟩ from ⟨hb, rfl, rfl⟩) _
  | string s => exact SR.pure (AR.map (fun b => .int _ _) _)
  | _ => exact SR.stuck
theorem zeroCells_rel {z z' : Array Value} (h : AR S ρ z z') (n : Nat) : AR S ρ (Builtin.zeroCells z n) (Builtin.zeroCells z' n) := by
  unfold Builtin.zeroCells
  rw [h.size]
  have := zeroRow_rel h (n * z'.size)
  rw [h.size] at this
  exact this
theorem SR.askRoom (n : Nat) : SR P S ro ρ (askRoom n) (askRoom n) fun _ _ _ => True := by
  unfold Go.askRoom
  split
  · exact SR.mark rfl
  · exact SR.pure trivial
def grown (elem : TypeId) (m l cp n : Nat) (s y : Value) : Sem Value := do
  let newCap ← Go.choose (.appendCap (l + n) cp elem)
  let i ← Go.typeInfo elem
  Go.askRoom (newCap * i.bytes)
  let old ← Builtin.firstCells m l s
  let new ← Builtin.firstCells m n y
  let z ← Go.zeroValue elem
  let a ← Go.newRow elem (old ++ new ++ Builtin.zeroCells z.cells (newCap - (l + n)))
  Pure.pure (.slice (some a) (l + n) newCap)
theorem grown_rel {elem : TypeId} (hz : ZeroOk P S elem) (m l cp n : Nat) (hs : VR S ρ v v') (hy : VR S ρ u u') : SR P S ro ρ (grown elem m l cp n v u) (grown elem m l cp n v' u') fun ρ' x y => VR S ρ' x y := by
  unfold grown
  refine SR.bind SR.choose fun ρ₁ k k' he₁ e => ?_
  subst e
  refine SR.bind (SR.typeInfo elem) fun ρ₂ i i' he₂ e => ?_
  obtain ⟨rfl, -⟩ := e
  refine SR.bind (SR.askRoom _) fun ρ₃ _ _ he₃ _ => ?_
  have e3 := (he₁.trans he₂).trans he₃
  refine SR.bind (SR.firstCells m l (hs.mono e3)) fun ρ₄ o o' he₄ ho => ?_
  refine SR.bind (SR.firstCells m n ((hy.mono e3).mono he₄)) fun ρ₅ w w' he₅ hw => ?_
  refine SR.bind (SR.zeroValue hz) fun ρ₆ z z' he₆ hzz => ?_
  refine SR.bind (SR.newRow ((((ho.mono he₅).mono he₆).append (hw.mono he₆)).append (zeroCells_rel hzz.cells _))) fun _ a a' _ ha => SR.pure (ha.slice _ _)
def laid (m l cp n : Nat) (A : Option Addr) (y : Value) : Sem Value := do
  let new ← Builtin.firstCells m n y
  match A with
  | some a => do
    Go.storeCells (a.add (l * m)) new.toList
    Pure.pure (.slice (some a) (l + n) cp)
  | none => Pure.pure (.slice none (l + n) cp)
theorem laid_rel (m l cp n : Nat) {A A' : Option Addr} (hA : (A = none ∧ A' = none) ∨ ∃ a a', A = some a ∧ A' = some a' ∧ AdR ρ a a') (hy : VR S ρ u u') : SR P S ro ρ (laid m l cp n A u) (laid m l cp n A' u') fun ρ' x y => VR S ρ' x y := by
  unfold laid
  refine SR.bind (SR.firstCells m n hy) fun ρ₁ w w' he₁ hw => ?_
  rcases hA with ⟨rfl, rfl⟩ | ⟨a, a', rfl, rfl, ha⟩
  · exact SR.pure (.nilSlice _ _)
  · refine SR.bind (SR.storeCells _ _ 0 ((ha.mono he₁).add _) (by rw [Array.toArray_toList, Array.toArray_toList]; exact hw)) fun ρ₂ _ _ he₂ _ => ?_
    exact SR.pure (((ha.mono he₁).mono he₂).slice _ _)
theorem Calm.mark (m : Mark) : Calm P (Go.mark m) := fun s h s' e => by cases e
theorem Calm.shape (r : Nat) : Calm P (Go.shape r) := fun s h s' e => by cases e
theorem Calm.frozen (a : Addr) : Calm P (Go.frozen a) := fun s h s' e => by cases e
theorem Calm.holdsCells (a : Addr) (n : Nat) : Calm P (Builtin.holdsCells a n) := by
  unfold Builtin.holdsCells
  exact Calm.bind (Calm.shape _) fun o => by split <;> exact Calm.pure _
theorem Calm.mayShare (a b c : Nat) (d : Option Addr) (x : Value) : Calm P (Builtin.mayShare a b c d x) := by
  unfold Builtin.mayShare
  dsimp only
  cases x <;> cases d <;> (try dsimp only) <;> repeat' (first | exact Calm.pure _ | exact Calm.holdsCells _ _ | exact Calm.frozen _ | (refine Calm.bind ?_ fun _ => ?_) | split)
theorem SR.append {ts : Array TypeId} {t : TypeId} {args args' : Array Value} (h : AR S ρ args args') (hz : ∀ t0, ts[0]? = some t0 → ElemOk P S t0) (hn : ∀ t1 d, ts[1]? = some t1 → P.underlying t1 = some d → ∀ k, d ≠ .int k) :
    SR P S ro ρ (Builtin.append_ ts t args) (Builtin.append_ ts t args') fun ρ' x y => VR S ρ' x y := by
  unfold Builtin.append_
  cases h0 : ts[0]? with
  | none => exact SR.stuck
  | some t0 =>
  cases ha : args[0]? with
  | none => exact SR.stuck
  | some x =>
  obtain ⟨x', hx', hr⟩ := h.get ha
  cases hb : args[1]? with
  | none => exact SR.stuck
  | some y =>
  obtain ⟨y', hy', hs⟩ := h.get hb
  rw [hx', hy']
  dsimp only
  refine SR.bind (SR.underlying t0) fun ρ₁ d d' he₁ hd => ?_
  obtain ⟨rfl, hu⟩ := hd
  cases d with
  | slice elem =>
    have hze := hz t0 h0 elem hu
    cases hr with
    | @slice b c off sp l cp hb =>
      dsimp only
      refine SR.bind (SR.sizeOf elem) fun ρ₂ m m' he₂ e => ?_
      subst e
      cases h1 : ts[1]? with
      | none =>
        dsimp only
        refine SR.bind (SR.pure (V := fun _ a b => a = false ∧ b = false) ⟨rfl, rfl⟩) fun ρ₃ z z' he₃ hzz => ?_
        obtain ⟨rfl, rfl⟩ := hzz
        simp only [Bool.false_eq_true, if_false, Bool.not_false, if_true, false_or]
        have E₀ := ((he₁.trans he₂).trans he₃)
        refine SR.bind (SR.lenOf (hs.mono E₀)) fun ρ₆ n n' he₆ e => ?_
        subst e
        have E₁ := E₀.trans he₆
        by_cases hroom : l + n ≤ cp
        · rw [if_pos hroom, if_pos hroom]
          exact laid_rel m l cp n (.inr ⟨⟨b, off, sp⟩, ⟨c, off, sp⟩, rfl, rfl, show AdR _ ⟨b, off, sp⟩ ⟨c, off, sp⟩ from ⟨E₁ _ _ hb, rfl, rfl⟩⟩) (hs.mono E₁)
        · rw [if_neg hroom, if_neg hroom]
          refine SR.bind (SR.typeInfo elem) fun ρ₇ i i' he₇ e => ?_
          obtain ⟨rfl, -⟩ := e
          split
          · exact SR.panicBind
          · refine SR.bind (SR.typeInfo elem) fun ρ₈ j j' he₈ e => ?_
            obtain ⟨rfl, -⟩ := e
            have E₂ := (E₁.trans he₇).trans he₈
            split
            · refine SR.never ?_
              refine Never.bind (Never.after (fun s h s' e => Calm.mayShare _ _ _ _ _ s h s' e) fun _ => ?_)
              split <;> first | exact Never.bind (Never.halt trivial) | exact Never.halt trivial | exact Never.after (fun s h s' e => Calm.mark _ s h s' e) fun _ => Never.halt trivial
            · exact grown_rel hze m l cp n (.slice off sp l cp (E₂ _ _ hb)) (hs.mono E₂)
      | some t1 =>
        dsimp only
        refine SR.bind (SR.underlying t1) fun ρ₃ d1 d1' he₃ hd1 => ?_
        obtain ⟨rfl, hu1⟩ := hd1
        refine SR.bind (SR.pure (V := fun _ a b => a = false ∧ b = false) (by constructor <;> (cases d1 <;> first | rfl | exact absurd rfl (hn t1 _ h1 hu1 _)))) fun ρ₄ z z' he₄ hzz => ?_
        obtain ⟨rfl, rfl⟩ := hzz
        simp only [Bool.false_eq_true, if_false, Bool.not_false, if_true, false_or]
        have E₀ := (((he₁.trans he₂).trans he₃).trans he₄)
        refine SR.bind (SR.lenOf (hs.mono E₀)) fun ρ₆ n n' he₆ e => ?_
        subst e
        have E₁ := E₀.trans he₆
        by_cases hroom : l + n ≤ cp
        · rw [if_pos hroom, if_pos hroom]
          exact laid_rel m l cp n (.inr ⟨⟨b, off, sp⟩, ⟨c, off, sp⟩, rfl, rfl, show AdR _ ⟨b, off, sp⟩ ⟨c, off, sp⟩ from ⟨E₁ _ _ hb, rfl, rfl⟩⟩) (hs.mono E₁)
        · rw [if_neg hroom, if_neg hroom]
          refine SR.bind (SR.typeInfo elem) fun ρ₇ i i' he₇ e => ?_
          obtain ⟨rfl, -⟩ := e
          split
          · exact SR.panicBind
          · refine SR.bind (SR.typeInfo elem) fun ρ₈ j j' he₈ e => ?_
            obtain ⟨rfl, -⟩ := e
            have E₂ := (E₁.trans he₇).trans he₈
            split
            · refine SR.never ?_
              refine Never.bind (Never.after (fun s h s' e => Calm.mayShare _ _ _ _ _ s h s' e) fun _ => ?_)
              split <;> first | exact Never.bind (Never.halt trivial) | exact Never.halt trivial | exact Never.after (fun s h s' e => Calm.mark _ s h s' e) fun _ => Never.halt trivial
            · exact grown_rel hze m l cp n (.slice off sp l cp (E₂ _ _ hb)) (hs.mono E₂)
    | nilSlice l cp =>
      dsimp only
      refine SR.bind (SR.sizeOf elem) fun ρ₂ m m' he₂ e => ?_
      subst e
      cases h1 : ts[1]? with
      | none =>
        dsimp only
        refine SR.bind (SR.pure (V := fun _ a b => a = false ∧ b = false) ⟨rfl, rfl⟩) fun ρ₃ z z' he₃ hzz => ?_
        obtain ⟨rfl, rfl⟩ := hzz
        simp only [Bool.false_eq_true, if_false, Bool.not_false, if_true, false_or]
        have E₀ := ((he₁.trans he₂).trans he₃)
        refine SR.bind (SR.lenOf (hs.mono E₀)) fun ρ₆ n n' he₆ e => ?_
        subst e
        have E₁ := E₀.trans he₆
        by_cases hroom : l + n ≤ cp
        · rw [if_pos hroom, if_pos hroom]
          exact laid_rel m l cp n (.inl ⟨rfl, rfl⟩) (hs.mono E₁)
        · rw [if_neg hroom, if_neg hroom]
          refine SR.bind (SR.typeInfo elem) fun ρ₇ i i' he₇ e => ?_
          obtain ⟨rfl, -⟩ := e
          split
          · exact SR.panicBind
          · refine SR.bind (SR.typeInfo elem) fun ρ₈ j j' he₈ e => ?_
            obtain ⟨rfl, -⟩ := e
            have E₂ := (E₁.trans he₇).trans he₈
            split
            · refine SR.never ?_
              refine Never.bind (Never.after (fun s h s' e => Calm.mayShare _ _ _ _ _ s h s' e) fun _ => ?_)
              split <;> first | exact Never.bind (Never.halt trivial) | exact Never.halt trivial | exact Never.after (fun s h s' e => Calm.mark _ s h s' e) fun _ => Never.halt trivial
            · exact grown_rel hze m l cp n (.nilSlice l cp) (hs.mono E₂)
      | some t1 =>
        dsimp only
        refine SR.bind (SR.underlying t1) fun ρ₃ d1 d1' he₃ hd1 => ?_
        obtain ⟨rfl, hu1⟩ := hd1
        refine SR.bind (SR.pure (V := fun _ a b => a = false ∧ b = false) (by constructor <;> (cases d1 <;> first | rfl | exact absurd rfl (hn t1 _ h1 hu1 _)))) fun ρ₄ z z' he₄ hzz => ?_
        obtain ⟨rfl, rfl⟩ := hzz
        simp only [Bool.false_eq_true, if_false, Bool.not_false, if_true, false_or]
        have E₀ := (((he₁.trans he₂).trans he₃).trans he₄)
        refine SR.bind (SR.lenOf (hs.mono E₀)) fun ρ₆ n n' he₆ e => ?_
        subst e
        have E₁ := E₀.trans he₆
        by_cases hroom : l + n ≤ cp
        · rw [if_pos hroom, if_pos hroom]
          exact laid_rel m l cp n (.inl ⟨rfl, rfl⟩) (hs.mono E₁)
        · rw [if_neg hroom, if_neg hroom]
          refine SR.bind (SR.typeInfo elem) fun ρ₇ i i' he₇ e => ?_
          obtain ⟨rfl, -⟩ := e
          split
          · exact SR.panicBind
          · refine SR.bind (SR.typeInfo elem) fun ρ₈ j j' he₈ e => ?_
            obtain ⟨rfl, -⟩ := e
            have E₂ := (E₁.trans he₇).trans he₈
            split
            · refine SR.never ?_
              refine Never.bind (Never.after (fun s h s' e => Calm.mayShare _ _ _ _ _ s h s' e) fun _ => ?_)
              split <;> first | exact Never.bind (Never.halt trivial) | exact Never.halt trivial | exact Never.after (fun s h s' e => Calm.mark _ s h s' e) fun _ => Never.halt trivial
            · exact grown_rel hze m l cp n (.nilSlice l cp) (hs.mono E₂)
    | _ => exact SR.stuck
  | _ => exact SR.stuck
theorem SR.copy {ts : Array TypeId} {t : TypeId} {args args' : Array Value} (h : AR S ρ args args') : SR P S ro ρ (Builtin.copy_ ts t args) (Builtin.copy_ ts t args') fun ρ' x y => VR S ρ' x y := by
  unfold Builtin.copy_
  cases h0 : ts[0]? with
  | none => exact SR.stuck
  | some t0 =>
  cases ha : args[0]? with
  | none => exact SR.stuck
  | some x =>
  obtain ⟨x', hx', hr⟩ := h.get ha
  cases hb : args[1]? with
  | none => exact SR.stuck
  | some y =>
  obtain ⟨y', hy', hs⟩ := h.get hb
  rw [hx', hy']
  dsimp only
  refine SR.bind (SR.underlying t0) fun ρ₁ d d' he₁ hd => ?_
  obtain ⟨rfl, hu⟩ := hd
  cases d with
  | slice elem =>
    have tail : ∀ (A A' : Option Addr) (l : Nat), ((A = none ∧ A' = none) ∨ ∃ a a', A = some a ∧ A' = some a' ∧ AdR ρ a a') → SR P S ro ρ₁ (do
        let n := Nat.min (← Builtin.lenOf y) l
        let cells ← Builtin.firstCells (← Go.sizeOf elem) n y
        if let some a := A then Go.storeCells a cells.toList
        Pure.pure (Go.goInt n) : Sem Value) (do
        let n := Nat.min (← Builtin.lenOf y') l
        let cells ← Builtin.firstCells (← Go.sizeOf elem) n y'
        if let some a := A' then Go.storeCells a cells.toList
        Pure.pure (Go.goInt n) : Sem Value) fun ρ' x y => VR S ρ' x y := by
      intro A A' l hA
      refine SR.bind (SR.lenOf (hs.mono he₁)) fun ρ₂ n n' he₂ e => ?_
      subst e
      refine SR.bind (SR.sizeOf elem) fun ρ₃ m m' he₃ e => ?_
      subst e
      refine SR.bind (SR.firstCells m _ (((hs.mono he₁).mono he₂).mono he₃)) fun ρ₄ w w' he₄ hw => ?_
      rcases hA with ⟨rfl, rfl⟩ | ⟨a, a', rfl, rfl, ha⟩
      · exact SR.pure (.int _ _)
      · refine SR.bind (SR.storeCells _ _ 0 ((((ha.mono he₁).mono he₂).mono he₃).mono he₄) (by rw [Array.toArray_toList, Array.toArray_toList]; exact hw)) fun ρ₅ _ _ he₅ _ => ?_
        exact SR.pure (.int _ _)
    cases hr with
    | nilSlice l c => exact tail none none l (.inl ⟨rfl, rfl⟩)
    | @slice b c off sp l cp hb => exact tail (some ⟨b, off, sp⟩) (some ⟨c, off, sp⟩) l (.inr ⟨_, _, rfl, rfl, hb, rfl, rfl⟩)
    | _ => exact SR.stuck
  | _ => exact SR.stuck
end
end Go.Proofs.Ytpfpokjaeffbjab.Cc
namespace Go.Proofs.Ytpfpokjaeffbjab.Cc
set_option linter.unusedVariables false
section
variable {P : Program} {S : FuncId → Prop} {ro : Nat → Md} {ρ : Nat → Option Nat} {v v' u u' : Value}
theorem SR.intArith (op : BinOp) (k : IntKind) (x y : Int) : SR P S ro ρ (Op.intArith op k x y) (Op.intArith op k x y) fun ρ' a b => VR S ρ' a b := by
  cases op <;> first | exact SR.pure (.int _ _) | exact SR.stuck
theorem SR.intDiv (op : BinOp) (k : IntKind) (x y : Int) : SR P S ro ρ (Op.intDiv op k x y) (Op.intDiv op k x y) fun ρ' a b => VR S ρ' a b := by
  unfold Op.intDiv
  split
  · exact SR.panic
  · cases op <;> first | exact SR.pure (.int _ _) | exact SR.stuck
theorem SR.intBits (op : BinOp) (k : IntKind) (x y : Int) : SR P S ro ρ (Op.intBits op k x y) (Op.intBits op k x y) fun ρ' a b => VR S ρ' a b := by
  cases op <;> first | exact SR.pure (.int _ _) | exact SR.stuck
theorem SR.shift (op : BinOp) (k : IntKind) (x : Int) (k' : IntKind) (y : Int) : SR P S ro ρ (Op.shift op k x k' y) (Op.shift op k x k' y) fun ρ' a b => VR S ρ' a b := by
  unfold Op.shift
  split
  · exact SR.panic
  · cases op <;> first | exact SR.pure (.int _ _) | exact SR.stuck
theorem SR.intCmp (op : BinOp) (x y : Int) : SR P S ro ρ (Op.intCmp op x y) (Op.intCmp op x y) fun ρ' a b => VR S ρ' a b := by
  cases op <;> first | exact SR.pure (.bool _) | exact SR.stuck
theorem SR.stringOp (op : BinOp) (x y : ByteArray) : SR P S ro ρ (Op.stringOp op x y) (Op.stringOp op x y) fun ρ' a b => VR S ρ' a b := by
  unfold Op.stringOp
  cases op <;> dsimp only <;> first
    | exact SR.pure (.bool _)
    | exact SR.stuck
    | (split
       · exact SR.unsupported trivial
       · exact SR.pure (.string _))
theorem cellAtBytes_mono {p : Program} {d : Nat} {e : TypeId} {c c' off : Nat} {n : Int} (hc : c ≤ c') {r : Nat} (h : cellAtBytes p d e c off n = some r) : cellAtBytes p d e c' off n = some r := by
  unfold cellAtBytes at h ⊢
  dsimp only at h ⊢
  split at h
  · cases h
  · rename_i h0
    rw [if_neg h0]
    cases hb : byteOfCell p d e (off % p.cellsOf e) with
    | none => rw [hb] at h; cases h
    | some b =>
      rw [hb] at h
      simp only [Option.bind_eq_bind, Option.bind_some] at h ⊢
      split at h
      · cases h
      · rename_i h1
        have h2 : ¬ (decide ((Int.ofNat (off / p.cellsOf e * p.bytesOf e + b) + n < 0)) || decide (Int.ofNat (off / p.cellsOf e * p.bytesOf e + b) + n ≥ Int.ofNat (c' * p.bytesOf e))) = true := by
          simp only [Bool.or_eq_true, decide_eq_true_eq, not_or] at h1 ⊢
          refine ⟨h1.1, ?_⟩
          have := Nat.mul_le_mul_right (p.bytesOf e) hc
          simp only [Int.ofNat_eq_natCast] at *
          omega
        rw [if_neg h2]; exact h
theorem SR.unsafeAdd {t : TypeId} (h : VR S ρ v v') (k : VR S ρ u u') : SR P S ro ρ (Builtin.unsafeAdd_ #[] t #[v, u]) (Builtin.unsafeAdd_ #[] t #[v', u']) fun ρ' a b => VR S ρ' a b ∧ ((∃ x x', a = .pointer (some x) ∧ b = .pointer (some x') ∧ AdR ρ' x x')) := by
  unfold Builtin.unsafeAdd_
  have tail : ∀ (p p' : Option Addr), (p = none ∧ p' = none ∨ ∃ x x', p = some x ∧ p' = some x' ∧ AdR ρ x x') → SR P S ro ρ (do
      let n ← Go.asInt u
      if n = 0 then
        let some a := p | Go.unsupported (.unsafePointer "Add: from nil")
        if (← Go.viewAt a.block).isSome then Go.unsupported (.unsafePointer "Add: at a place where no cell lies")
        return .pointer p
      if n < 0 then Go.unsupported (.unsafePointer "Add: a move by a count below zero")
      let some a := p | Go.unsupported (.unsafePointer "Add")
      let some (e, cells) ← Go.shape a.block | Go.unsupported (.unsafePointer "Add")
      let p ← Go.program
      match cellAtBytes p p.depth e (cells / p.cellsOf e) a.off n with
      | some off => Pure.pure (.pointer (some { a with off }))
      | none => Go.unsupported (.unsafePointer "Add") : Sem Value) (do
      let n ← Go.asInt u'
      if n = 0 then
        let some a := p' | Go.unsupported (.unsafePointer "Add: from nil")
        if (← Go.viewAt a.block).isSome then Go.unsupported (.unsafePointer "Add: at a place where no cell lies")
        return .pointer p'
      if n < 0 then Go.unsupported (.unsafePointer "Add: a move by a count below zero")
      let some a := p' | Go.unsupported (.unsafePointer "Add")
      let some (e, cells) ← Go.shape a.block | Go.unsupported (.unsafePointer "Add")
      let p ← Go.program
      match cellAtBytes p p.depth e (cells / p.cellsOf e) a.off n with
      | some off => Pure.pure (.pointer (some { a with off }))
      | none => Go.unsupported (.unsafePointer "Add") : Sem Value) fun ρ' a b => VR S ρ' a b ∧ ((∃ x x', a = .pointer (some x) ∧ b = .pointer (some x') ∧ AdR ρ' x x')) := by
    intro p p' hp
    refine SR.bind (SR.asInt k) fun ρ₁ n n' he₁ e => ?_
    subst e
    rcases hp with ⟨rfl, rfl⟩ | ⟨x, x', rfl, rfl, hx⟩
    · by_cases h0 : n = 0
      · simp only [if_pos h0]; exact SR.unsupBind (m := .unsafePointer _) trivial
      · simp only [if_neg h0]
        by_cases h1 : n < 0
        · simp only [if_pos h1]; exact SR.unsupBind (m := .unsafePointer _) trivial
        · simp only [if_neg h1]
          exact SR.unsupported trivial
    · by_cases h0 : n = 0
      · simp only [if_pos h0]
        refine SR.bind (SR.viewAt (he₁ _ _ hx.1)) fun ρ₂ a b he₂ hab => ?_
        obtain ⟨rfl, rfl⟩ := hab
        simp only [Option.isSome_none, Bool.false_eq_true, if_false]
        have hx2 := (hx.mono he₁).mono he₂
        exact SR.pure ⟨hx2.ptr, x, x', rfl, rfl, hx2⟩
      · simp only [if_neg h0]
        by_cases h1 : n < 0
        · simp only [if_pos h1]; exact SR.unsupBind (m := .unsafePointer _) trivial
        · simp only [if_neg h1]
          refine SR.bind (SR.shape (he₁ _ _ hx.1)) fun ρ₂ a b he₂ hab => ?_
          rcases hab with ⟨e, m, m', rfl, rfl, hm⟩ | ⟨rfl, rfl⟩
          · dsimp only
            refine SR.bind SR.program fun ρ₃ p p' he₃ hp => ?_
            obtain ⟨rfl, rfl⟩ := hp
            cases hc : cellAtBytes p p.depth e (m / p.cellsOf e) x.off n with
            | none => exact SR.unsupported trivial
            | some off =>
              have : cellAtBytes p p.depth e (m' / p.cellsOf e) x'.off n = some off := by
                rw [hx.2.1]; exact cellAtBytes_mono (Nat.div_le_div_right hm) hc
              rw [this]
              have hx3 := ((hx.mono he₁).mono he₂).mono he₃
              have : AdR ρ₃ { x with off := off } { x' with off := off } := ⟨hx3.1, rfl, hx3.2.2⟩
              exact SR.pure ⟨this.ptr, _, _, rfl, rfl, this⟩
          · exact SR.unsupported trivial
  cases h with
  | nilPtr => exact tail none none (.inl ⟨rfl, rfl⟩)
  | @ptr b c off sp hb => exact tail (some ⟨b, off, sp⟩) (some ⟨c, off, sp⟩) (.inr ⟨_, _, rfl, rfl, hb, rfl, rfl⟩)
  | _ => exact SR.stuck
theorem SR.movedNumber {t : TypeId} (h : VR S ρ v v') (k : VR S ρ u u') : SR P S ro ρ (Go.movedNumber t v u) (Go.movedNumber t v' u') fun ρ' a b => VR S ρ' a b := by
  unfold Go.movedNumber
  refine SR.bind (SR.underlying t) fun ρ₁ d d' he₁ hd => ?_
  obtain ⟨rfl, -⟩ := hd
  have key : ∀ ρ₁, Ext ρ ρ₁ → SR P S ro ρ₁ (do
      let .pointer (some n) := v | Builtin.unsafeAdd_ #[] t #[v, u]
      let (a, lost) ← Go.behindNumber n
      match ← Builtin.unsafeAdd_ #[] t #[.pointer (some a), u] with
      | .pointer (some b) => Go.asNumber b lost
      | v => Pure.pure v : Sem Value) (do
      let .pointer (some n) := v' | Builtin.unsafeAdd_ #[] t #[v', u']
      let (a, lost) ← Go.behindNumber n
      match ← Builtin.unsafeAdd_ #[] t #[.pointer (some a), u'] with
      | .pointer (some b) => Go.asNumber b lost
      | v => Pure.pure v : Sem Value) fun ρ' a b => VR S ρ' a b := by
    intro ρ₁ he₁
    have hv := h.mono he₁
    have hu := k.mono he₁
    cases hv with
    | @ptr b c off sp hb =>
      dsimp only
      refine SR.bind (SR.behindNumber (n := ⟨b, off, sp⟩) (n' := ⟨c, off, sp⟩) ⟨hb, rfl, rfl⟩) fun ρ₂ a b he₂ hab => ?_
      obtain ⟨a, l⟩ := a
      obtain ⟨b, l'⟩ := b
      obtain ⟨h1, rfl⟩ := hab
      dsimp only at h1 ⊢
      refine SR.bind (SR.unsafeAdd h1.ptr (hu.mono he₂)) fun ρ₃ x y he₃ hxy => ?_
      obtain ⟨-, z, z', rfl, rfl, hz⟩ := hxy
      exact SR.newNumber hz
    | junk _ _ _ => exact SR.stuck
    | _ => exact (SR.unsafeAdd (by constructor <;> assumption) hu).mono fun _ _ _ _ x => x.1
  cases d <;> simp only [Bool.false_eq_true, if_false, if_true] <;> first | exact key ρ₁ he₁ | exact SR.unsupBind (m := .unsafePointer _) trivial
end
end Go.Proofs.Ytpfpokjaeffbjab.Cc
