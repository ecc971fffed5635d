/- Part of the proof: RenOp6, RenOp7, RenOp8. -/
import Derived.Test.YtpfpokjaeffbjabGa5
namespace Go.Proofs.Ytpfpokjaeffbjab.Cc
set_option linter.unusedVariables false
section
variable {P : Program} {S : FuncId → Prop} {ro : Nat → Md} {ρ : Nat → Option Nat} {v v' u u' : Value}
theorem SR.withLow {α β : Type} {x : Sem α} {y : Sem β} {V : (Nat → Option Nat) → α → β → Prop} {a a' : Addr} (h : AdR ρ a a') (k : P.globals.size ≤ a.block → P.globals.size ≤ a'.block → SR P S ro ρ x y V) : SR P S ro ρ x y V :=
  fun s w hr => k (hr.low _ _ h.1).1 (hr.low _ _ h.1).2 s w hr
theorem SR.twoPlaces {a b : Addr} {c : Nat} (h : ρ a.block = some c) {β : Type} {y : Sem β} {V : (Nat → Option Nat) → Nat × Nat → β → Prop} : SR P S ro ρ (Op.twoPlaces a b) y V := by
  intro s w hr ht hd hro
  have hl := (hr.low _ _ h).1
  have key : (Op.twoPlaces a b).run P s = .halt (.unsupported .addressObserved) s := by
    unfold Op.twoPlaces
    rw [Sem.run_bind, run_program, Result.andThen]
    have : (a.block != b.block || decide (a.block ≥ P.globals.size)) = true := by simp; omega
    simp only [this, if_true]
    rfl
  exact ⟨fun a s' hx => (by rw [key] at hx; cases hx), fun h s' hx => (by rw [key] at hx; cases hx; trivial), fun a s' hx => (by rw [key] at hx; cases hx)⟩
theorem SR.addrSub {a b a' b' : Addr} {k : IntKind} (h : AdR ρ a a') : SR P S ro ρ (Op.addrSub k a b) (Op.addrSub k a' b') fun ρ' x y => VR S ρ' x y := by
  unfold Op.addrSub
  exact SR.bind (V := fun _ a b => a = b) (SR.twoPlaces h.1) fun _ _ _ _ e => by subst e; exact SR.pure (.int _ _)
theorem SR.addrCmp {a b a' b' : Addr} {op : BinOp} (h : AdR ρ a a') : SR P S ro ρ (Op.addrCmp op a b) (Op.addrCmp op a' b') fun ρ' x y => VR S ρ' x y := by
  unfold Op.addrCmp
  exact SR.bind (V := fun _ a b => a = b) (SR.twoPlaces h.1) fun _ _ _ _ e => by
    subst e
    cases op <;> first | exact SR.pure (.bool _) | exact SR.unsupported trivial
theorem SR.addrMod {a a' : Addr} {k : IntKind} {n : Int} (h : AdR ρ a a') : SR P S ro ρ (Op.addrMod k a n) (Op.addrMod k a' n) fun ρ' x y => VR S ρ' x y := by
  unfold Op.addrMod
  refine SR.bind (SR.shape h.1) fun ρ₁ x y he₁ hxy => ?_
  rcases hxy with ⟨e, m, m', rfl, rfl, -⟩ | ⟨rfl, rfl⟩
  · dsimp only
    refine SR.bind (SR.typeInfo e) fun ρ₂ i i' he₂ e => ?_
    obtain ⟨rfl, -⟩ := e
    split
    · exact SR.unsupBind (m := .addressObserved) trivial
    · exact SR.bind (SR.byteOf ((h.mono he₁).mono he₂)) fun _ _ _ _ e => by subst e; exact SR.pure (.int _ _)
  · exact SR.unsupported trivial
def flatT (P : Program) : Nat → TypeId → Bool
  | 0, _ => false
  | d + 1, t => match P.underlying t with
    | some .bool | some .string => true
    | some (.int _) => match P.info? t with
      | some i => match i.desc with
        | .named "sync.copyChecker" _ => false
        | _ => true
      | none => false
    | some (.struct fs) => !P.stoodInHeld t && fs.all fun f => flatT P d f.type
    | _ => false
theorem SR.forIn {α β γ : Type} (l : List α) (f : α → β → Sem (ForInStep β)) (g : α → γ → Sem (ForInStep γ)) (R : (Nat → Option Nat) → β → γ → Prop) (hm : ∀ ρ ρ' b c, Ext ρ ρ' → R ρ b c → R ρ' b c)
    (h : ∀ x ∈ l, ∀ ρ b c, R ρ b c → SR P S ro ρ (f x b) (g x c) fun ρ' a a' => (∃ b c, a = .yield b ∧ a' = .yield c ∧ R ρ' b c) ∨ ∃ b c, a = .done b ∧ a' = .done c ∧ R ρ' b c) :
    ∀ {ρ : Nat → Option Nat} (b : β) (c : γ), R ρ b c → SR P S ro ρ (forIn l b f) (forIn l c g) R := by
  induction l with
  | nil => intro ρ b c hb; simp only [List.forIn_nil]; exact SR.pure hb
  | cons x l ih =>
    intro ρ b c hb
    simp only [List.forIn_cons]
    refine SR.bind (h x (by simp) ρ b c hb) fun ρ₁ a a' he₁ haa => ?_
    rcases haa with ⟨b, c, rfl, rfl, hb⟩ | ⟨b, c, rfl, rfl, hb⟩
    · exact ih (fun y hy => h y (by simp [hy])) b c hb
    · exact SR.pure hb
theorem SR.equalIn (d : Nat) : ∀ (D : Nat) {t : TypeId} {ρ : Nat → Option Nat} {v v' u u' : Value}, flatT P D t = true → VR S ρ v v' → VR S ρ u u' → SR P S ro ρ (Op.equalIn d t v u) (Op.equalIn d t v' u') fun _ a b => a = b := by
  induction d with
  | zero => intro D t ρ v v' u u' _ _ _; exact SR.unsupported trivial
  | succ d ih =>
    intro D t ρ v v' u u' hf h k
    cases D with
    | zero => cases hf
    | succ D =>
    unfold Op.equalIn
    refine SR.bind (SR.underlying t) fun ρ₁ x x' he₁ hd => ?_
    obtain ⟨rfl, hu⟩ := hd
    unfold flatT at hf
    rw [hu] at hf
    have h1 := h.mono he₁
    have k1 := k.mono he₁
    cases x with
    | bool => cases h1 <;> cases k1 <;> first | exact SR.pure rfl | exact SR.stuck
    | string => cases h1 <;> cases k1 <;> first | exact SR.pure rfl | exact SR.stuck
    | int kk =>
      have hc : ∀ i, P.info? t = some i → ∀ u, i.desc ≠ .named "sync.copyChecker" u := by
        intro i hi u e
        rw [hi] at hf
        simp only [e] at hf
        cases hf
      cases h1 <;> cases k1 <;> first
        | exact SR.stuck
        | exact SR.unsupported trivial
        | (dsimp only; split <;> first | exact SR.pure rfl | exact SR.stuck)
        | skip
      · rename_i n _ _ _ _ _
        rcases n with (_ | m) | m <;> first | exact SR.pure rfl | exact SR.unsupported trivial
      · rename_i n
        rcases n with (_ | m) | m <;> first | exact SR.pure rfl | exact SR.unsupported trivial
      · rename_i b c off sp hb b2 c2 off2 sp2 hb2
        dsimp only
        refine SR.bind (SR.behindNumber (n := ⟨b, off, sp⟩) (n' := ⟨c, off, sp⟩) ⟨hb, rfl, rfl⟩) fun ρ₂ x y he₂ hxy => ?_
        refine SR.bind (SR.behindNumber (n := ⟨b2, off2, sp2⟩) (n' := ⟨c2, off2, sp2⟩) ⟨he₂ _ _ hb2, rfl, rfl⟩) fun ρ₃ x2 y2 he₃ hxy2 => ?_
        refine SR.withLow (hxy.1.mono he₃) fun l1 l2 => ?_
        refine SR.bind SR.program fun ρ₄ p p' he₄ hp => ?_
        obtain ⟨rfl, rfl⟩ := hp
        have e1 : (x.1.block == x2.1.block && decide (x.1.block < p.globals.size)) = false := by simp; omega
        have e2 : (y.1.block == y2.1.block && decide (y.1.block < p.globals.size)) = false := by simp; omega
        simp only [e1, e2, Bool.false_eq_true, if_false]
        refine SR.bind (SR.typeInfo t) fun ρ₅ i i' he₅ hi => ?_
        obtain ⟨rfl, hi⟩ := hi
        have := hc _ hi
        split
        · rename_i u e; exact absurd e (this u)
        · exact SR.unsupported trivial
    | struct fs =>
      simp only [Bool.and_eq_true, Bool.not_eq_true', Array.all_eq_true_iff_forall_mem] at hf
      cases h1 with
      | agg hx hxs =>
        cases k1 with
        | agg hy hys =>
          dsimp only
          refine SR.bind SR.program fun ρ₂ p p' he₂ hp => ?_
          obtain ⟨rfl, rfl⟩ := hp
          simp only [hf.1, Bool.false_eq_true, if_false]
          simp only [← Array.forIn_toList]
          refine SR.bind (SR.forIn (R := fun ρ a b => Ext ρ₂ ρ ∧ a = b) fs.toList _ _ (fun _ _ _ _ e k => ⟨k.1.trans e, k.2⟩) (fun f hfm ρ₃ b c e => ?_) _ _ ⟨.refl _, rfl⟩) fun ρ₃ a b _ e => ?_
          · obtain ⟨he₃, rfl⟩ := e
            by_cases hn : f.name ≠ "_"
            · rw [if_pos hn, if_pos hn]
              refine SR.bind (SR.part (((AR.mk hx hxs).mono he₂).mono he₃) f.offset) fun ρ₄ a a' he₄ haa => ?_
              refine SR.bind (SR.part ((((AR.mk hy hys).mono he₂).mono he₃).mono he₄) f.offset) fun ρ₅ c c' he₅ hcc => ?_
              refine SR.bind (ih D (hf.2 f (by simpa using hfm)) (haa.mono he₅) hcc) fun ρ₆ q q' he₆ e => ?_
              subst e
              have E := (he₃.trans he₄).trans (he₅.trans he₆)
              split
              · exact SR.pure (.inr ⟨_, _, rfl, rfl, E, rfl⟩)
              · exact SR.pure (.inl ⟨_, _, rfl, rfl, E, rfl⟩)
            · rw [if_neg hn, if_neg hn]
              exact SR.pure (.inl ⟨_, _, rfl, rfl, he₃, rfl⟩)
          · obtain ⟨-, rfl⟩ := e
            split <;> exact SR.pure rfl
        | _ => exact SR.stuck
      | _ => cases k1 <;> exact SR.stuck
    | _ => cases hf
theorem eqGuard_run {op : BinOp} {t : TypeId} {X Y : Operand} (hg : P.eqGuardType P.depth t = false) {d : TypeDesc} (hd : P.underlying t = some d) (hi : ∀ ms, d ≠ .interface ms) (v u : Value) (w : World) : (Go.eqGuard op t X Y v u).run P w = .ok () w ∧ ∀ es, (Go.eqGuard op t X Y v u).events P w es = es := by
  have hu : ∀ w, (Go.underlying t).run P w = .ok d w ∧ ∀ es, (Go.underlying t).events P w es = es := fun w => by
    unfold Go.underlying
    simp [hd]
  have hin : ∀ w, (Op.eqGuardIn Op.maxDepth t .nilIface .nilIface).run P w = .ok false w ∧ ∀ es, (Op.eqGuardIn Op.maxDepth t .nilIface .nilIface).events P w es = es := fun w => by
    unfold Op.maxDepth Op.eqGuardIn
    constructor
    · rw [Sem.run_bind, (hu w).1]
      cases d <;> first | rfl | exact absurd rfl (hi _)
    · intro es
      rw [Sem.events_bind, (hu w).1, (hu w).2]
      cases d <;> first | rfl | exact absurd rfl (hi _)
  have tail : ∀ b : Bool, (if b = true then (pure () : Sem Unit) else (do if ← Op.eqGuardIn Op.maxDepth t .nilIface .nilIface then unsupported (.noEntry "binop/eql: two nil values of an interface type with methods, neither of them the literal nil"))).run P w = .ok () w ∧ ∀ es, (if b = true then (pure () : Sem Unit) else (do if ← Op.eqGuardIn Op.maxDepth t .nilIface .nilIface then unsupported (.noEntry "binop/eql: two nil values of an interface type with methods, neither of them the literal nil"))).events P w es = es := by
    intro b
    cases b
    · simp [(hin w).1, (hin w).2]
    · exact ⟨rfl, fun _ => rfl⟩
  unfold Go.eqGuard
  cases op <;> first
    | exact ⟨rfl, fun _ => rfl⟩
    | (simp only [Bool.not_true, Bool.false_eq_true, if_false]
       split
       · exact tail _
       · simp [hg]
       · exact ⟨rfl, fun _ => rfl⟩)
theorem SR.eqGuard {op : BinOp} {t : TypeId} {X Y : Operand} (hg : P.eqGuardType P.depth t = false) (hf : flatT P 8 t = true) : SR P S ro ρ (Go.eqGuard op t X Y v u) (Go.eqGuard op t X Y v' u') fun _ _ _ => True := by
  obtain ⟨d, hd, hi⟩ : ∃ d, P.underlying t = some d ∧ ∀ ms, d ≠ .interface ms := by
    unfold flatT at hf
    cases hd : P.underlying t with
    | none => rw [hd] at hf; cases hf
    | some d => exact ⟨d, rfl, fun ms e => by rw [hd, e] at hf; cases hf⟩
  intro s w hr ht hdr hro
  have k := fun v u w => eqGuard_run (P := P) (op := op) (X := X) (Y := Y) hg hd hi v u w
  refine ⟨fun a s' hx => ?_, fun h s' hx => (by rw [(k v u s).1] at hx; cases hx), fun a s' hx => ?_⟩
  · rw [(k v u s).1] at hx; cases hx
    exact ⟨ρ, (), w, (k v' u' w).1, by rw [(k v' u' w).2]; exact Mv.refl hr ht hdr, trivial⟩
  · rw [(k v u s).1] at hx; cases hx
    exact ⟨rfl, 0, rfl, fun τ d' _ => ⟨(k v u _).1, fun es => by rw [(k v u _).2, (k v u _).2]⟩⟩
end
end Go.Proofs.Ytpfpokjaeffbjab.Cc
namespace Go.Proofs.Ytpfpokjaeffbjab.Cc
set_option linter.unusedVariables false
section
variable {P : Program} {S : FuncId → Prop} {ro : Nat → Md} {ρ : Nat → Option Nat} {v v' u u' : Value}
def binT (P : Program) (t : TypeId) : Bool := flatT P 8 t && !P.eqGuardType P.depth t
theorem SR.equalV {t : TypeId} {b : Bool} (ht : flatT P 8 t = true) (h : VR S ρ v v') (k : VR S ρ u u') : SR P S ro ρ (do Pure.pure (.bool (← Op.equal t v u)) : Sem Value) (do Pure.pure (.bool (← Op.equal t v' u')) : Sem Value) fun ρ' a b => VR S ρ' a b :=
  SR.bind (SR.equalIn Op.maxDepth 8 ht h k) fun _ _ _ _ e => by subst e; exact SR.pure (.bool _)
theorem SR.equalNV {t : TypeId} {b : Bool} (ht : flatT P 8 t = true) (h : VR S ρ v v') (k : VR S ρ u u') : SR P S ro ρ (do Pure.pure (.bool (!(← Op.equal t v u))) : Sem Value) (do Pure.pure (.bool (!(← Op.equal t v' u'))) : Sem Value) fun ρ' a b => VR S ρ' a b :=
  SR.bind (SR.equalIn Op.maxDepth 8 ht h k) fun _ _ _ _ e => by subst e; exact SR.pure (.bool _)
theorem not_unsafe {t : TypeId} {d : TypeDesc} (ht : flatT P 8 t = true) (h : P.underlying t = some d) : d ≠ .unsafePointer := by
  intro e
  subst e
  unfold flatT at ht
  rw [h] at ht
  cases ht
theorem SR.moved {t : TypeId} (ht : flatT P 8 t = true) (h : VR S ρ v v') (k : VR S ρ u u') : SR P S ro ρ (do if (← Go.underlying t) matches .unsafePointer then Go.movedPointer t v u else Go.movedNumber t v u : Sem Value) (do if (← Go.underlying t) matches .unsafePointer then Go.movedPointer t v' u' else Go.movedNumber t v' u' : Sem Value) fun ρ' a b => VR S ρ' a b := by
  refine SR.bind (SR.underlying t) fun ρ₁ d d' he₁ hd => ?_
  obtain ⟨rfl, hu⟩ := hd
  have := not_unsafe ht hu
  have h1 := SR.movedNumber (t := t) (P := P) (ro := ro) (h.mono he₁) (k.mono he₁)
  cases d <;> simp only [Bool.false_eq_true, if_false] <;> first | exact h1 | exact absurd rfl this
set_option maxHeartbeats 2000000 in
theorem equalJunk {t : TypeId} (ht : flatT P 8 t = true) (v u : Value) (hj : v = .nilIface ∨ u = .nilIface) : Never P (Op.equal t v u) := by
  obtain ⟨d, hd, hi⟩ : ∃ d, P.underlying t = some d ∧ ((d = .bool ∨ d = .string) ∨ (∃ k, d = .int k) ∨ ∃ fs, d = .struct fs) := by
    unfold flatT at ht
    cases hd : P.underlying t with
    | none => rw [hd] at ht; cases ht
    | some d => cases d <;> rw [hd] at ht <;> first | exact ⟨_, rfl, .inl (.inl rfl)⟩ | exact ⟨_, rfl, .inl (.inr rfl)⟩ | exact ⟨_, rfl, .inr (.inl ⟨_, rfl⟩)⟩ | exact ⟨_, rfl, .inr (.inr ⟨_, rfl⟩)⟩ | cases ht
  have hu : ∀ w, (Go.underlying t).run P w = .ok d w := fun w => by
    unfold Go.underlying
    simp [hd]
  intro s
  unfold Op.equal Op.maxDepth Op.equalIn
  rw [Sem.run_bind, hu s]
  have st : ∀ m : String, ∃ h s', (stuck m : Sem Bool).run P s = .halt h s' ∧ Tame h := fun m => Never.stuck s
  have un : ∃ h s', (Go.unsupported .addressObserved : Sem Bool).run P s = .halt h s' ∧ Tame h := Never.halt (h := .unsupported .addressObserved) trivial s
  rcases hj with rfl | rfl
  · rcases hi with (rfl | rfl) | ⟨k, rfl⟩ | ⟨fs, rfl⟩ <;> rcases u with _ | _ | _ | _ | _ | (_ | _) | _ | _ | _ | _ | _ | _ | _ | _ | _ <;> first | exact st _ | exact un
  · rcases hi with (rfl | rfl) | ⟨k, rfl⟩ | ⟨fs, rfl⟩ <;> rcases v with _ | _ | _ | _ | _ | (_ | _) | _ | _ | _ | _ | _ | _ | _ | _ | _ <;> first | exact st _ | exact un
theorem binJunk {op : BinOp} {t : TypeId} (ht : flatT P 8 t = true) (v u : Value) (hj : v = .nilIface ∨ u = .nilIface) : Never P (Go.binOp op t v u) := by
  have he := equalJunk ht v u hj
  have ne : Never P (do pure (.bool (← Op.equal t v u)) : Sem Value) := he.bind
  have nn : Never P (do pure (.bool (!(← Op.equal t v u))) : Sem Value) := he.bind
  rcases hj with rfl | rfl
  · cases op <;> cases u <;> first | exact Never.stuck | exact ne | exact nn | exact Never.halt (h := .unsupported .addressObserved) trivial
  · cases op <;> rcases v with _ | _ | _ | _ | _ | (_ | _) | _ | _ | _ | _ | _ | _ | _ | _ | _ <;> first | exact Never.stuck | exact ne | exact nn | exact Never.halt (h := .unsupported .addressObserved) trivial
set_option maxHeartbeats 2000000 in
theorem SR.binOp {op : BinOp} {t : TypeId} (ht : flatT P 8 t = true) (h : VR S ρ v v') (k : VR S ρ u u') : SR P S ro ρ (Go.binOp op t v u) (Go.binOp op t v' u') fun ρ' a b => VR S ρ' a b := by
  by_cases hj : v = .nilIface ∨ u = .nilIface
  · exact SR.never (binJunk ht v u hj)
  have eqV := SR.equalV (ro := ro) (b := true) ht h k
  have neV := SR.equalNV (ro := ro) (b := true) ht h k
  have mv := SR.moved (ro := ro) ht h k
  have mn := SR.movedNumber (P := P) (ro := ro) (t := t) h k
  have mn' := SR.movedNumber (P := P) (ro := ro) (t := t) k h
  have ao : ∀ (y : Sem Value) V, SR P S ro ρ (Go.unsupported .addressObserved : Sem Value) y V := fun _ _ => SR.unsupported trivial
  unfold Go.binOp at mv ⊢
  cases h with
  | junk _ _ _ => exact absurd (.inl rfl) hj
  | int kk n =>
    cases k with
    | junk _ _ _ => exact absurd (.inr rfl) hj
    | int k2 n2 =>
      cases op <;> dsimp only <;> first
        | exact SR.shift _ _ _ _ _
        | (by_cases hk : kk ≠ k2
           · simp only [if_pos hk]; exact SR.stuck
           · simp only [if_neg hk]; first | exact SR.intArith _ _ _ _ | exact SR.intDiv _ _ _ _ | exact SR.intBits _ _ _ _ | exact SR.intCmp _ _ _)
    | @ptr b c off sp hb =>
      have bh := SR.behindNumber (P := P) (S := S) (ro := ro) (ρ := ρ) (n := ⟨b, off, sp⟩) (n' := ⟨c, off, sp⟩) ⟨hb, rfl, rfl⟩
      cases op <;> dsimp only <;> first | exact eqV | exact neV | exact mn' | exact SR.stuck | exact ao _ _ | exact SR.bind bh (fun _ a b _ hab => SR.addrMod hab.1)
    | nilPtr => cases op <;> dsimp only <;> first | exact eqV | exact neV | exact mn' | exact SR.stuck | exact ao _ _
    | _ => cases op <;> dsimp only <;> first | exact eqV | exact neV | exact SR.stuck | exact ao _ _
  | string s =>
    cases k with
    | junk _ _ _ => exact absurd (.inr rfl) hj
    | string s2 => cases op <;> dsimp only <;> exact SR.stringOp _ _ _
    | _ => cases op <;> dsimp only <;> first | exact eqV | exact neV | exact SR.stuck | exact ao _ _
  | @ptr b c off sp hb =>
    have bh := SR.behindNumber (P := P) (S := S) (ro := ro) (ρ := ρ) (n := ⟨b, off, sp⟩) (n' := ⟨c, off, sp⟩) ⟨hb, rfl, rfl⟩
    cases k with
    | junk _ _ _ => exact absurd (.inr rfl) hj
    | int k2 n2 =>
      have mi := SR.movedNumber (P := P) (ro := ro) (t := t) (VR.ptr (S := S) off sp hb) (VR.int k2 (-n2))
      cases op <;> dsimp only <;> first | exact eqV | exact neV | exact mv | exact mi | exact SR.stuck | exact ao _ _ | exact SR.bind bh (fun _ a b _ hab => SR.addrMod hab.1)
    | @ptr b2 c2 off2 sp2 hb2 =>
      have bh2 := fun (ρ₁ : Nat → Option Nat) (he : Ext ρ ρ₁) => SR.behindNumber (P := P) (S := S) (ro := ro) (ρ := ρ₁) (n := ⟨b2, off2, sp2⟩) (n' := ⟨c2, off2, sp2⟩) ⟨he _ _ hb2, rfl, rfl⟩
      cases op <;> dsimp only <;> first | exact eqV | exact neV | exact SR.stuck | exact ao _ _ | exact SR.bind bh (fun _ a b he hab => SR.bind (bh2 _ he) (fun _ a2 b2 he2 hab2 => SR.addrSub (hab.1.mono he2))) | exact SR.bind bh (fun _ a b he hab => SR.bind (bh2 _ he) (fun _ a2 b2 he2 hab2 => SR.addrCmp (hab.1.mono he2)))
    | _ => cases op <;> dsimp only <;> first | exact eqV | exact neV | exact SR.stuck | exact ao _ _
  | nilPtr =>
    cases k with
    | junk _ _ _ => exact absurd (.inr rfl) hj
    | int k2 n2 =>
      have mi := SR.movedNumber (P := P) (ro := ro) (ρ := ρ) (t := t) (VR.nilPtr (S := S)) (VR.int k2 (-n2))
      cases op <;> dsimp only <;> first | exact eqV | exact neV | exact mv | exact mi | exact SR.stuck | exact ao _ _
    | _ => cases op <;> dsimp only <;> first | exact eqV | exact neV | exact SR.stuck | exact ao _ _
  | _ => cases k <;> first | (exfalso; exact hj (.inr rfl)) | (cases op <;> dsimp only <;> first | exact eqV | exact neV | exact SR.stuck | exact ao _ _)
end
end Go.Proofs.Ytpfpokjaeffbjab.Cc
namespace Go.Proofs.Ytpfpokjaeffbjab.Cc
set_option linter.unusedVariables false
def plainV : Nat → Value → Bool
  | _, .bool _ | _, .int _ _ | _, .string _ | _, .pointer none | _, .slice none _ _ | _, .nilFunc => true
  | n + 1, .agg xs | n + 1, .tuple xs => xs.all (plainV n)
  | _, _ => false
theorem plainV_rel {S : FuncId → Prop} {ρ : Nat → Option Nat} : ∀ (n : Nat) (v : Value), plainV n v = true → VR S ρ v v := by
  intro n
  induction n with
  | zero =>
    intro v h
    cases v with
    | bool b => exact .bool b
    | int k n => exact .int k n
    | string s => exact .string s
    | pointer a => cases a with
      | none => exact .nilPtr
      | some a => simp [plainV] at h
    | slice a l c => cases a with
      | none => exact .nilSlice l c
      | some a => simp [plainV] at h
    | nilFunc => exact .nilFunc
    | _ => simp [plainV] at h
  | succ n ih =>
    intro v h
    cases v with
    | bool b => exact .bool b
    | int k n => exact .int k n
    | string s => exact .string s
    | pointer a => cases a with
      | none => exact .nilPtr
      | some a => simp [plainV] at h
    | slice a l c => cases a with
      | none => exact .nilSlice l c
      | some a => simp [plainV] at h
    | nilFunc => exact .nilFunc
    | agg xs =>
      simp only [plainV, Array.all_eq_true_iff_forall_mem] at h
      exact .agg rfl fun i v v' a b => by rw [a] at b; cases b; exact ih v (h v (Array.mem_of_getElem? a))
    | tuple xs =>
      simp only [plainV, Array.all_eq_true_iff_forall_mem] at h
      exact .tuple rfl fun i v v' a b => by rw [a] at b; cases b; exact ih v (h v (Array.mem_of_getElem? a))
    | _ => simp [plainV] at h
def operandOk (S : FuncId → Bool) : Operand → Bool
  | .tmp _ => true
  | .const v => plainV 8 v
  | .global _ => false
  | .func f => S f
def zeroB (P : Program) (t : TypeId) : Bool := match P.info? t with
  | some i => match i.zero with
    | some v => plainV 8 v
    | none => true
  | none => true
def elemB (P : Program) (t : TypeId) : Bool := match P.underlying t with
  | some (.slice e) => zeroB P e
  | _ => true
def lenB (P : Program) (ts : Array TypeId) : Bool := match ts[0]? with
  | some t => match P.underlying t with
    | some .string | some (.slice _) => true
    | _ => false
  | none => false
def appB (P : Program) (ts : Array TypeId) : Bool := (match ts[0]? with
  | some t => elemB P t
  | none => true) && match ts[1]? with
  | some t => match P.underlying t with
    | some (.int _) => false
    | _ => true
  | none => true
def callB (P : Program) (S : FuncId → Bool) (c : Call) : Bool := c.args.all (operandOk S) && match c.callee with
  | .value f => operandOk S f
  | .builtin .len => lenB P c.argTypes
  | .builtin .append => appB P c.argTypes
  | .builtin .copy => true
  | _ => false
def opOk (P : Program) (S : FuncId → Bool) (o : Oper) : Bool :=
  let k := operandOk S
  match o.op with
  | .move x | .assign x | .box _ x | .load _ x | .nilCheck x | .unOp _ _ x | .fieldAddr _ x _ | .field _ x _ | .extract x _ => k x
  | .pick c a b => k c && k a && k b
  | .alloc t => zeroB P t
  | .build t ps => zeroB P t && ps.all fun p => k p.2
  | .buildSlice t _ ps => elemB P t && ps.all fun p => k p.2
  | .store _ a x | .indexAddr _ a x | .index _ a x => k a && k x
  | .binOp _ t x y _ => flatT P 8 t && !P.eqGuardType P.depth t && k x && k y
  | .convert s d x => (match P.underlying s, P.underlying d with
    | some (.int _), some (.int _) => true
    | _, _ => false) && k x
  | .makeFunc (.func f) x y => S f && x.all k && y.all k
  | .makeSlice t l c => elemB P t && k l && k c
  | .call c => callB P S c
  | _ => false
section
variable {P : Program} {S : FuncId → Bool} {ro : Nat → Md} {ρ : Nat → Option Nat} {v v' u u' : Value}
theorem zeroB_ok {t : TypeId} (h : zeroB P t = true) : ZeroOk P (fun f => S f = true) t := by
  intro i v hi hz ρ
  unfold zeroB at h
  rw [hi] at h
  simp only [hz] at h
  exact plainV_rel 8 v h
theorem elemB_ok {t : TypeId} (h : elemB P t = true) : ElemOk P (fun f => S f = true) t := by
  intro e he
  unfold elemB at h
  rw [he] at h
  exact zeroB_ok h
def EvR (S : FuncId → Bool) (ρ : Nat → Option Nat) (e e' : Operand → Value) : Prop := ∀ x, operandOk S x = true → VR (fun f => S f = true) ρ (e x) (e' x)
theorem EvR.mono {ρ' : Nat → Option Nat} (x : Ext ρ ρ') {e e' : Operand → Value} (h : EvR S ρ e e') : EvR S ρ' e e' := fun y hy => (h y hy).mono x
theorem EvR.args {e e' : Operand → Value} (h : EvR S ρ e e') {xs : Array Operand} (hx : xs.all (operandOk S) = true) : AR (fun f => S f = true) ρ (xs.map e) (xs.map e') := by
  rw [Array.all_eq_true_iff_forall_mem] at hx
  refine ⟨by simp, fun i a b ha hb => ?_⟩
  rw [Array.getElem?_map] at ha hb
  cases hl : xs[i]? with
  | none => rw [hl] at ha; cases ha
  | some z => rw [hl] at ha hb; cases ha; cases hb; exact h z (hx z (Array.mem_of_getElem? hl))
theorem EvR.parts {e e' : Operand → Value} (h : EvR S ρ e e') {xs : Array (Nat × Operand)} (hx : (xs.all fun p => operandOk S p.2) = true) : PartsR (fun f => S f = true) ρ (xs.map fun (i, x) => (i, e x)).toList (xs.map fun (i, x) => (i, e' x)).toList := by
  rw [Array.all_eq_true_iff_forall_mem] at hx
  refine ⟨by simp, fun i a b ha hb => ?_⟩
  rw [Array.getElem?_toList, Array.getElem?_map] at ha hb
  cases hl : xs[i]? with
  | none => rw [hl] at ha; cases ha
  | some z => rw [hl] at ha hb; cases ha; cases hb; exact ⟨rfl, h z.2 (hx z (Array.mem_of_getElem? hl))⟩
def NextR (S : FuncId → Bool) (ρ : Nat → Option Nat) (n n' : Next) : Prop :=
  (∃ v v', n = .value v ∧ n' = .value v' ∧ VR (fun f => S f = true) ρ v v') ∨ (n = .skip ∧ n' = .skip) ∨ ∃ f a a', n = .enter f a ∧ n' = .enter f a' ∧ S f = true ∧ AR (fun f => S f = true) ρ a a'
theorem SR.value {x y : Sem Value} (h : SR P (fun f => S f = true) ro ρ x y fun ρ' a b => VR (fun f => S f = true) ρ' a b) : SR P (fun f => S f = true) ro ρ (do Pure.pure (.value (← x)) : Sem Next) (do Pure.pure (.value (← y)) : Sem Next) (NextR S) :=
  SR.bind h fun _ a b _ hab => SR.pure (.inl ⟨a, b, rfl, rfl, hab⟩)
theorem SR.unit {x y : Sem Unit} (h : SR P (fun f => S f = true) ro ρ x y fun _ _ _ => True) : SR P (fun f => S f = true) ro ρ (do x; Pure.pure .skip : Sem Next) (do y; Pure.pure .skip : Sem Next) (NextR S) :=
  SR.bind h fun _ a b _ hab => SR.pure (.inr (.inl ⟨rfl, rfl⟩))
theorem SR.loadAt (t : TypeId) (h : VR (fun f => S f = true) ρ v v') : SR P (fun f => S f = true) ro ρ (Instr.loadAt t v) (Instr.loadAt t v') fun ρ' a b => VR (fun f => S f = true) ρ' a b := by
  unfold Instr.loadAt
  exact SR.bind (SR.sureAddr h) fun _ a b _ hab => SR.loadVar t hab
theorem SR.storeAt (t : TypeId) (h : VR (fun f => S f = true) ρ v v') (k : VR (fun f => S f = true) ρ u u') : SR P (fun f => S f = true) ro ρ (Instr.storeAt t v u) (Instr.storeAt t v' u') fun _ _ _ => True := by
  unfold Instr.storeAt
  exact SR.bind (SR.sureAddr h) fun _ a b he hab => SR.storeVar t hab (k.mono he)
theorem SR.unary (op : UnOp) (h : VR (fun f => S f = true) ρ v v') : SR P (fun f => S f = true) ro ρ (Op.unary op v) (Op.unary op v') fun ρ' a b => VR (fun f => S f = true) ρ' a b := by
  have ao : ∀ (y : Sem Value) V, SR P (fun f => S f = true) ro ρ (Go.unsupported .addressObserved : Sem Value) y V := fun _ _ => SR.unsupported trivial
  cases h <;> cases op <;> first | exact SR.stuck | exact ao _ _ | exact SR.pure (.int _ _) | exact SR.pure (.bool _)
theorem SR.convert {s d : TypeId} {k k' : IntKind} (hs : P.underlying s = some (.int k)) (hd : P.underlying d = some (.int k')) (h : VR (fun f => S f = true) ρ v v') : SR P (fun f => S f = true) ro ρ (Go.convert s d v) (Go.convert s d v') fun ρ' a b => VR (fun f => S f = true) ρ' a b := by
  unfold Go.convert
  refine SR.bind (SR.underlying s) fun ρ₁ x x' he₁ hx => ?_
  obtain ⟨rfl, hx⟩ := hx
  rw [hs] at hx; cases hx
  refine SR.bind (SR.underlying d) fun ρ₂ y y' he₂ hy => ?_
  obtain ⟨rfl, hy⟩ := hy
  rw [hd] at hy; cases hy
  have ao : ∀ (y : Sem Value) V, SR P (fun f => S f = true) ro ρ₂ (Go.unsupported .addressObserved : Sem Value) y V := fun _ _ => SR.unsupported trivial
  have an : ∀ (y : Sem Value) V, SR P (fun f => S f = true) ro ρ₂ (Go.unsupported (.noEntry "convert/other") : Sem Value) y V := fun _ _ => SR.unsupported trivial
  cases h <;> dsimp only <;> first | exact SR.pure (.int _ _) | exact ao _ _ | exact an _ _ | exact SR.stuck
theorem SR.makeSlice {t : TypeId} (hz : ElemOk P (fun f => S f = true) t) (h : VR (fun f => S f = true) ρ v v') (k : VR (fun f => S f = true) ρ u u') : SR P (fun f => S f = true) ro ρ (Instr.makeSlice t v u) (Instr.makeSlice t v' u') fun ρ' a b => VR (fun f => S f = true) ρ' a b := by
  unfold Instr.makeSlice
  refine SR.bind (SR.underlying t) fun ρ₁ d d' he₁ hd => ?_
  obtain ⟨rfl, hu⟩ := hd
  cases d with
  | slice elem =>
    dsimp only
    refine SR.bind (SR.asInt (h.mono he₁)) fun ρ₂ l l' he₂ e => ?_
    subst e
    refine SR.bind (SR.asInt ((k.mono he₁).mono he₂)) fun ρ₃ c c' he₃ e => ?_
    subst e
    refine SR.bind (SR.typeInfo elem) fun ρ₄ i i' he₄ e => ?_
    obtain ⟨rfl, hi⟩ := e
    have tail : ∀ ρ₅, SR P (fun f => S f = true) ro ρ₅ (do
        Go.askRoom ((IntKind.i64.wrap c).toNat * i.bytes)
        let n := (IntKind.i64.wrap c).toNat * (← Go.sizeOf elem)
        let zero ← if n = 0 then Pure.pure #[] else do Pure.pure (← Go.zeroValue elem).cells
        let a ← Go.newRow elem ((Array.range n).map (zero[· % zero.size]!))
        Pure.pure (.slice (some a) (IntKind.i64.wrap l).toNat (IntKind.i64.wrap c).toNat) : Sem Value) (do
        Go.askRoom ((IntKind.i64.wrap c).toNat * i.bytes)
        let n := (IntKind.i64.wrap c).toNat * (← Go.sizeOf elem)
        let zero ← if n = 0 then Pure.pure #[] else do Pure.pure (← Go.zeroValue elem).cells
        let a ← Go.newRow elem ((Array.range n).map (zero[· % zero.size]!))
        Pure.pure (.slice (some a) (IntKind.i64.wrap l).toNat (IntKind.i64.wrap c).toNat) : Sem Value) fun ρ' a b => VR (fun f => S f = true) ρ' a b := by
      intro ρ₅
      refine SR.bind (SR.askRoom _) fun ρ₆ _ _ he₆ _ => ?_
      refine SR.bind (SR.sizeOf elem) fun ρ₇ m m' he₇ e => ?_
      subst e
      dsimp only
      have fin : ∀ (ρ₈ : Nat → Option Nat) (z z' : Array Value), AR (fun f => S f = true) ρ₈ z z' → SR P (fun f => S f = true) ro ρ₈ (do
          let a ← Go.newRow elem ((Array.range ((IntKind.i64.wrap c).toNat * m)).map (z[· % z.size]!))
          Pure.pure (.slice (some a) (IntKind.i64.wrap l).toNat (IntKind.i64.wrap c).toNat) : Sem Value) (do
          let a ← Go.newRow elem ((Array.range ((IntKind.i64.wrap c).toNat * m)).map (z'[· % z'.size]!))
          Pure.pure (.slice (some a) (IntKind.i64.wrap l).toNat (IntKind.i64.wrap c).toNat) : Sem Value) fun ρ' a b => VR (fun f => S f = true) ρ' a b :=
        fun ρ₈ z z' hzz => SR.bind (SR.newRow (zeroRow_rel hzz _)) fun _ a b _ hab => SR.pure (hab.slice _ _)
      split
      · exact SR.bind (SR.pure (V := fun ρ' a b => AR (fun f => S f = true) ρ' a b) AR.empty) fun ρ₈ z z' _ hzz => fin ρ₈ z z' hzz
      · exact SR.bind (SR.zeroValue (hz _ hu)) fun ρ₇ a b _ hab => SR.bind (SR.pure (V := fun ρ' a b => AR (fun f => S f = true) ρ' a b) hab.cells) fun ρ₈ z z' _ hzz => fin ρ₈ z z' hzz
    split
    · split
      · exact SR.panicBind
      · split
        · exact SR.panicBind
        · exact SR.never (Never.after (fun s h s' e => Calm.choose _ s h s' e) fun _ => Never.bind (Never.panic _))
    · exact tail ρ₄
  | _ => exact SR.stuck
theorem SR.ofValue {args args' : Array Value} (h : VR (fun f => S f = true) ρ v v') (ha : AR (fun f => S f = true) ρ args args') : SR P (fun f => S f = true) ro ρ (Deferred.ofValue v args) (Deferred.ofValue v' args') fun ρ' d d' =>
    (d.target = .nil ∧ d'.target = .nil) ∨ ∃ f c c', d.target = .fn (.func f) c ∧ d'.target = .fn (.func f) c' ∧ S f = true ∧ AR (fun f => S f = true) ρ' (d.args ++ c) (d'.args ++ c') := by
  cases h with
  | nilFunc => exact SR.pure (.inl ⟨rfl, rfl⟩)
  | func hf hx hy h1 h2 => exact SR.pure (.inr ⟨_, _, _, rfl, rfl, hf, ((AR.mk hx h1).append ha).append (AR.mk hy h2)⟩)
  | _ => exact SR.stuck
def BodyOk (P : Program) (S : FuncId → Bool) : Prop := ∀ f, S f = true → ∃ fn, P.funcs[f]? = some fn ∧ fn.body.isNone = false ∧ (fn.name == "runtime.NumGoroutine") = false
theorem SR.callFunc {f : FuncId} {args args' : Array Value} (B : BodyOk P S) (hf : S f = true) (ha : AR (fun f => S f = true) ρ args args') : SR P (fun f => S f = true) ro ρ (Go.callFunc f args) (Go.callFunc f args') (NextR S) := by
  unfold Go.callFunc
  refine SR.bind SR.program fun ρ₁ p p' he₁ hp => ?_
  obtain ⟨rfl, rfl⟩ := hp
  obtain ⟨fn, h1, h2, h3⟩ := B f hf
  simp only [h1, h2, h3, Bool.false_eq_true, if_false]
  exact SR.pure (.inr (.inr ⟨f, args, args', rfl, rfl, hf, ha.mono he₁⟩))
theorem SR.callOp {e e' : Operand → Value} (B : BodyOk P S) (h : EvR S ρ e e') {c : Call} {t : TypeId} (hc : callB P S c = true) :
    SR P (fun f => S f = true) ro ρ (do let d ← Go.resolve e c t; Go.invoke d.target d.args : Sem Next) (do let d ← Go.resolve e' c t; Go.invoke d.target d.args : Sem Next) (NextR S) := by
  unfold callB at hc
  simp only [Bool.and_eq_true] at hc
  have ha := h.args hc.1
  unfold Go.resolve
  cases hk : c.callee with
  | value f =>
    rw [hk] at hc
    dsimp only
    refine SR.bind (SR.ofValue (h f hc.2) ha) fun ρ₁ d d' he₁ hd => ?_
    rcases hd with ⟨h1, h2⟩ | ⟨g, x, x', h1, h2, hg, hx⟩
    · rw [h1, h2]
      unfold Go.invoke
      exact SR.panic
    · rw [h1, h2]
      unfold Go.invoke
      exact SR.callFunc B hg hx
  | builtin b =>
    rw [hk] at hc
    cases b with
    | len =>
      dsimp only
      refine SR.bind (SR.pure (V := fun ρ' d d' => ∃ ks, d = ⟨.builtin .len c.argTypes t ks, c.args.map e⟩ ∧ d' = ⟨.builtin .len c.argTypes t ks, c.args.map e'⟩) ⟨_, rfl, rfl⟩) fun ρ₁ d d' he₁ hd => ?_
      obtain ⟨ks, rfl, rfl⟩ := hd
      unfold Go.invoke Go.builtin
      refine SR.value (SR.len (ha.mono he₁) ?_)
      have := hc.2
      simp only [lenB] at this
      cases h0 : c.argTypes[0]? with
      | none => rw [h0] at this; cases this
      | some t0 =>
        rw [h0] at this
        simp only at this
        cases hu : P.underlying t0 with
        | none => rw [hu] at this; cases this
        | some d =>
          rw [hu] at this
          cases d <;> first | exact ⟨t0, _, rfl, hu, .inl rfl⟩ | exact ⟨t0, _, rfl, hu, .inr ⟨_, rfl⟩⟩ | cases this
    | append =>
      dsimp only
      refine SR.bind (SR.pure (V := fun ρ' d d' => ∃ ks, d = ⟨.builtin .append c.argTypes t ks, c.args.map e⟩ ∧ d' = ⟨.builtin .append c.argTypes t ks, c.args.map e'⟩) ⟨_, rfl, rfl⟩) fun ρ₁ d d' he₁ hd => ?_
      obtain ⟨ks, rfl, rfl⟩ := hd
      unfold Go.invoke Go.builtin
      have := hc.2
      simp only [appB, Bool.and_eq_true] at this
      refine SR.value (SR.append (ha.mono he₁) (fun t0 h0 => ?_) (fun t1 d h1 hu kk e => ?_))
      · have h := this.1; rw [h0] at h; exact elemB_ok h
      · have h := this.2; rw [h1] at h; simp only [hu, e] at h; cases h
    | copy =>
      dsimp only
      refine SR.bind (SR.pure (V := fun ρ' d d' => ∃ ks, d = ⟨.builtin .copy c.argTypes t ks, c.args.map e⟩ ∧ d' = ⟨.builtin .copy c.argTypes t ks, c.args.map e'⟩) ⟨_, rfl, rfl⟩) fun ρ₁ d d' he₁ hd => ?_
      obtain ⟨ks, rfl, rfl⟩ := hd
      unfold Go.invoke Go.builtin
      exact SR.value (SR.copy (ha.mono he₁))
    | _ => cases hc.2
  | invoke a b => rw [hk] at hc; cases hc.2
theorem SR.exec {e e' : Operand → Value} (B : BodyOk P S) (h : EvR S ρ e e') {o : Oper} (ho : opOk P S o = true) : SR P (fun f => S f = true) ro ρ (execOp e o) (execOp e' o) (NextR S) := by
  unfold opOk at ho
  unfold execOp
  cases hop : o.op with
  | move x => rw [hop] at ho; exact SR.pure (.inl ⟨_, _, rfl, rfl, h x ho⟩)
  | assign x => rw [hop] at ho; exact SR.pure (.inl ⟨_, _, rfl, rfl, h x ho⟩)
  | pick c a b =>
    rw [hop] at ho
    simp only [Bool.and_eq_true] at ho
    refine SR.bind (SR.asBool (h c ho.1.1)) fun ρ₁ x y he₁ e => ?_
    subst e
    refine SR.pure (.inl ⟨_, _, rfl, rfl, ?_⟩)
    split
    · exact (h a ho.1.2).mono he₁
    · exact (h b ho.2).mono he₁
  | alloc t => rw [hop] at ho; exact SR.value (SR.alloc (zeroB_ok ho))
  | box t x => rw [hop] at ho; exact SR.value (SR.box (h x ho))
  | build t ps =>
    rw [hop] at ho
    simp only [Bool.and_eq_true] at ho
    exact SR.value (SR.build (zeroB_ok ho.1) (h.parts ho.2))
  | buildSlice t n ps =>
    rw [hop] at ho
    simp only [Bool.and_eq_true] at ho
    exact SR.value (SR.buildSlice (elemB_ok ho.1) (h.parts ho.2))
  | load t x => rw [hop] at ho; exact SR.value (SR.loadAt t (h x ho))
  | store t a x =>
    rw [hop] at ho
    simp only [Bool.and_eq_true] at ho
    exact SR.unit (SR.storeAt t (h a ho.1) (h x ho.2))
  | nilCheck x =>
    rw [hop] at ho
    have hh := h x ho
    dsimp only
    generalize e x = v at hh
    generalize e' x = v' at hh
    have h2 := hh
    cases hh <;> dsimp only <;> first | exact SR.panic | exact SR.pure (.inl ⟨_, _, rfl, rfl, h2⟩)
  | binOp op t x y t' =>
    rw [hop] at ho
    simp only [Bool.and_eq_true, Bool.not_eq_true'] at ho
    refine SR.value ?_
    exact SR.bind (SR.eqGuard ho.1.1.2 ho.1.1.1) fun ρ₁ _ _ he₁ _ => SR.binOp ho.1.1.1 ((h x ho.1.2).mono he₁) ((h y ho.2).mono he₁)
  | unOp op t x => rw [hop] at ho; exact SR.value (SR.unary op (h x ho))
  | convert s d x =>
    rw [hop] at ho
    simp only [Bool.and_eq_true] at ho
    refine SR.value ?_
    cases hs : P.underlying s with
    | none => rw [hs] at ho; cases ho.1
    | some a =>
      cases hd : P.underlying d with
      | none => rw [hs, hd] at ho; cases a <;> cases ho.1
      | some b =>
        rw [hs, hd] at ho
        cases a <;> cases b <;> first | exact SR.convert hs hd (h x ho.2) | cases ho.1
  | makeFunc f x y =>
    rw [hop] at ho
    cases f with
    | func f =>
      simp only [Bool.and_eq_true] at ho
      exact SR.value (SR.makeFunc (S := (fun f => S f = true)) ho.1.1 (h.args ho.1.2) (h.args ho.2))
    | _ => cases ho
  | makeSlice t l c =>
    rw [hop] at ho
    simp only [Bool.and_eq_true] at ho
    exact SR.value (SR.makeSlice (elemB_ok ho.1.1) (h l ho.1.2) (h c ho.2))
  | fieldAddr t x f => rw [hop] at ho; exact SR.value (SR.fieldAt (h x ho) f)
  | field t x f => rw [hop] at ho; exact SR.value (SR.field (h x ho) f)
  | indexAddr t x y =>
    rw [hop] at ho
    simp only [Bool.and_eq_true] at ho
    exact SR.value (SR.indexAt (h x ho.1) (h y ho.2))
  | index t x y =>
    rw [hop] at ho
    simp only [Bool.and_eq_true] at ho
    exact SR.value (SR.index (h x ho.1) (h y ho.2))
  | extract x i => rw [hop] at ho; exact SR.value (SR.extract (h x ho) i)
  | call c => rw [hop] at ho; exact SR.callOp B h ho
  | _ => rw [hop] at ho; cases ho
end
end Go.Proofs.Ytpfpokjaeffbjab.Cc
