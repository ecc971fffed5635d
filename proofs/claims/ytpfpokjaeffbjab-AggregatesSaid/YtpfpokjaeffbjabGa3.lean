/- Part of the proof: Draws, Ren. -/
import Derived.Conc.Events
import Derived.Calls
namespace Go.Proofs.Ytpfpokjaeffbjab.Cc
set_option linter.unusedVariables false
def World.on (s : World) (τ : Tape) (d : Nat) : World := { s with tape := τ, drawn := d }
section
variable {P : Program}
theorem viewStore_heap {s w' : World} {x : Addr} {u : TypeId} {a : Addr} {v : Value} {b : Bool} {l : List Addr} (h : s.viewStore P x u a v b = .ok (w', l)) : ∃ heap', w' = { s with heap := heap' } := by
  unfold World.viewStore at h
  simp only [Bind.bind, Except.bind, Pure.pure, Except.pure] at h
  (repeat' split at h) <;> first | (cases h; done) | (cases h; exact ⟨_, rfl⟩)
theorem farStore_heap {s w' : World} {a : Addr} {v : Value} {b : Bool} {l : List Addr} (h : s.farStore P a v b = .ok (w', l)) : ∃ heap', w' = { s with heap := heap' } := by
  unfold World.farStore at h
  split at h
  · split at h
    · rename_i r hv
      cases h
      exact viewStore_heap hv
    · cases h
  · cases h
theorem viewStore_on (s : World) (τ : Tape) (d : Nat) (x : Addr) (u : TypeId) (a : Addr) (v : Value) (b : Bool) : (World.on s τ d).viewStore P x u a v b = (s.viewStore P x u a v b).map fun r => (World.on r.1 τ d, r.2) := by
  unfold World.viewStore
  have e : ∀ at_ u k atomic, (World.on s τ d).seen P at_ u k atomic = s.seen P at_ u k atomic := fun _ _ _ _ => rfl
  rw [e]
  simp only [Bind.bind, Except.bind, Pure.pure, Except.pure, Except.map]
  by_cases h1 : (!tight P P.depth u) = true
  · simp only [h1, if_true]; rfl
  simp only [h1]
  cases s.seen P x u a b with
  | error e => rfl
  | ok r =>
    dsimp only
    cases v.bytes? with
    | none => rfl
    | some bytes =>
      dsimp only
      generalize (List.foldlM _ r.fst r.2.2.2.2.snd : Except String (Array Value)) = q
      by_cases hz : (some bytes.length ≠ Option.map (fun x => x.length) r.2.2.2.2.fst.bytes?)
      · rw [if_pos hz, if_pos hz]; rfl
      · rw [if_neg hz, if_neg hz]; cases q <;> rfl
theorem farStore_on (s : World) (τ : Tape) (d : Nat) (a : Addr) (v : Value) (b : Bool) : (World.on s τ d).farStore P a v b = (s.farStore P a v b).map fun r => (World.on r.1 τ d, r.2) := by
  unfold World.farStore
  have e : (World.on s τ d).heap = s.heap := rfl
  rw [e]
  cases s.heap[a.block]? with
  | none => rfl
  | some o =>
    cases o with
    | view x u =>
      dsimp only
      rw [viewStore_on]
      cases s.viewStore P x u a v b <;> rfl
    | _ => rfl
theorem farLoad_on (s : World) (τ : Tape) (d : Nat) (a : Addr) (b : Bool) : (World.on s τ d).farLoad P a b = s.farLoad P a b := rfl
variable (P) in
def Lcl {α : Type} (x : Sem α) (s : World) (a : α) (s1 : World) : Prop := s1.tape = s.tape ∧ ∃ c, s1.drawn = s.drawn + c ∧
    ∀ τ d, (∀ j, j < c → τ (d + j) = s.tape (s.drawn + j)) → x.run P (World.on s τ d) = .ok a (World.on s1 τ (d + c)) ∧ ∀ es, x.events P (World.on s τ d) es = x.events P s es
def NoSys {α : Type} : Sem α → Prop
  | .pure _ | .halt _ => True
  | .load _ _ k => ∀ v, NoSys (k v)
  | .store _ _ _ k | .freeze _ _ k | .setObj _ _ k | .mark _ k => NoSys k
  | .new _ k => ∀ n, NoSys (k n)
  | .shape _ k => ∀ n, NoSys (k n)
  | .frozen _ k => ∀ n, NoSys (k n)
  | .getObj _ k => ∀ n, NoSys (k n)
  | .choose _ k => ∀ n, NoSys (k n)
  | .program k => ∀ n, NoSys (k n)
  | .sys _ _ => False
theorem run_local {α : Type} (x : Sem α) (hs : NoSys x) : ∀ (s : World) (a : α) (s1 : World), x.run P s = .ok a s1 → Lcl P x s a s1 := by
  induction x with
  | pure a => intro s b s1 h; cases h; exact ⟨rfl, 0, rfl, fun τ d _ => ⟨rfl, fun _ => rfl⟩⟩
  | load m ad k ih =>
    intro s b s1 h
    have e1 : ∀ τ d, (World.on s τ d).cell? ad = s.cell? ad := fun _ _ => rfl
    simp only [Sem.run] at h
    cases hc : s.cell? ad with
    | some v =>
      rw [hc] at h
      obtain ⟨h1, c, h2, h3⟩ := ih v (hs v) s b s1 h
      refine ⟨h1, c, h2, fun τ d hτ => ?_⟩
      obtain ⟨k1, k2⟩ := h3 τ d hτ
      simp only [Sem.run, Sem.events, Sem.runT, e1, hc]
      exact ⟨k1, fun es => k2 _⟩
    | none =>
      rw [hc] at h
      simp only at h
      cases hf : s.farLoad P ad (m == .atomic) with
      | error e => rw [hf] at h; cases h
      | ok r =>
        obtain ⟨v, l⟩ := r
        rw [hf] at h
        obtain ⟨h1, c, h2, h3⟩ := ih v (hs v) s b s1 h
        refine ⟨h1, c, h2, fun τ d hτ => ?_⟩
        obtain ⟨k1, k2⟩ := h3 τ d hτ
        simp only [Sem.run, Sem.events, Sem.runT, e1, hc, farLoad_on, hf]
        exact ⟨k1, fun es => k2 _⟩
  | store m ad v k ih =>
    intro s b s1 h
    have e1 : ∀ τ d, (World.on s τ d).cell? ad = s.cell? ad := fun _ _ => rfl
    have e2 : ∀ τ d, (World.on s τ d).frozen? ad = s.frozen? ad := fun _ _ => rfl
    cases hc : s.cell? ad with
    | some u =>
      cases hz : s.frozen? ad with
      | true => cases v <;> simp only [Sem.run, hc, hz] at h <;> cases h
      | false =>
        have key : (∀ x, v ≠ .agg x) → (∀ x, v ≠ .tuple x) → k.run P (s.setCell ad v) = .ok b s1 → Lcl P (Sem.store m ad v k) s b s1 := fun n1 n2 h => by
          obtain ⟨h1, c, h2, h3⟩ := ih hs (s.setCell ad v) b s1 h
          refine ⟨h1, c, h2, fun τ d hτ => ?_⟩
          obtain ⟨k1, k2⟩ := h3 τ d hτ
          have e3 : (World.on s τ d).setCell ad v = World.on (s.setCell ad v) τ d := rfl
          cases v <;> first
            | exact absurd rfl (n1 _)
            | exact absurd rfl (n2 _)
            | (simp only [Sem.run, Sem.events, Sem.runT, e1, e2, hc, hz, e3, Bool.false_eq_true, if_false]
               exact ⟨k1, fun es => k2 _⟩)
        cases v <;> simp only [Sem.run, hc, hz, Bool.false_eq_true, if_false] at h <;> first | exact key (by simp) (by simp) h | cases h
    | none =>
      cases hf : s.farStore P ad v (m == .atomic) with
      | error e => cases v <;> simp only [Sem.run, hc, hf] at h <;> cases h
      | ok r =>
        obtain ⟨w', l⟩ := r
        obtain ⟨hp, rfl⟩ := farStore_heap hf
        have key : (∀ x, v ≠ .agg x) → (∀ x, v ≠ .tuple x) → k.run P { s with heap := hp } = .ok b s1 → Lcl P (Sem.store m ad v k) s b s1 := fun n1 n2 h => by
          obtain ⟨h1, c, h2, h3⟩ := ih hs _ b s1 h
          refine ⟨h1, c, h2, fun τ d hτ => ?_⟩
          obtain ⟨k1, k2⟩ := h3 τ d hτ
          cases v <;> first
            | exact absurd rfl (n1 _)
            | exact absurd rfl (n2 _)
            | (simp only [Sem.run, Sem.events, Sem.runT, e1, hc, farStore_on, hf, Except.map]
               exact ⟨k1, fun es => k2 _⟩)
        cases v <;> simp only [Sem.run, hc, hf] at h <;> first | exact key (by simp) (by simp) h | cases h
  | new o k ih =>
    intro s b s1 h
    obtain ⟨h1, c, h2, h3⟩ := ih s.heap.size (hs _) { s with heap := s.heap.push o } b s1 h
    exact ⟨h1, c, h2, fun τ d hτ => h3 τ d hτ⟩
  | shape r k ih =>
    intro s b s1 h
    obtain ⟨h1, c, h2, h3⟩ := ih (s.shape? r) (hs _) s b s1 h
    exact ⟨h1, c, h2, fun τ d hτ => h3 τ d hτ⟩
  | freeze ad n k ih =>
    intro s b s1 h
    obtain ⟨h1, c, h2, h3⟩ := ih hs (s.freeze ad n) b s1 h
    have e : ∀ τ d, (World.on s τ d).freeze ad n = World.on (s.freeze ad n) τ d := fun τ d => by unfold World.freeze; split <;> rfl
    have e2 : (s.freeze ad n).tape = s.tape := by unfold World.freeze; split <;> rfl
    have e3 : (s.freeze ad n).drawn = s.drawn := by unfold World.freeze; split <;> rfl
    rw [e2] at h1; rw [e3] at h2
    refine ⟨h1, c, h2, fun τ d hτ => ?_⟩
    obtain ⟨k1, k2⟩ := h3 τ d (by rw [e2, e3]; exact hτ)
    simp only [Sem.run, Sem.events, Sem.runT, e]
    exact ⟨k1, fun es => k2 _⟩
  | frozen ad k ih =>
    intro s b s1 h
    obtain ⟨h1, c, h2, h3⟩ := ih (s.frozen? ad) (hs _) s b s1 h
    exact ⟨h1, c, h2, fun τ d hτ => h3 τ d hτ⟩
  | getObj r k ih =>
    intro s b s1 h
    have e1 : ∀ τ d, (World.on s τ d).heap = s.heap := fun _ _ => rfl
    simp only [Sem.run] at h
    cases ho : s.heap[r]? with
    | none => rw [ho] at h; cases h
    | some o =>
      rw [ho] at h
      have key : (∀ x y z, o ≠ .cells x y z) → (k o).run P s = .ok b s1 → Lcl P (Sem.getObj r k) s b s1 := fun n1 h => by
        obtain ⟨h1, c, h2, h3⟩ := ih o (hs o) s b s1 h
        refine ⟨h1, c, h2, fun τ d hτ => ?_⟩
        obtain ⟨k1, k2⟩ := h3 τ d hτ
        cases o <;> first
          | exact absurd rfl (n1 _ _ _)
          | (simp only [Sem.run, Sem.events, Sem.runT, e1, ho]
             exact ⟨k1, fun es => k2 _⟩)
      cases o <;> first | (simp only at h; cases h; done) | exact key (by simp) h
  | setObj r o k ih =>
    intro s b s1 h
    have e1 : ∀ τ d, (World.on s τ d).heap = s.heap := fun _ _ => rfl
    simp only [Sem.run] at h
    cases ho : s.heap[r]? with
    | none => rw [ho] at h; cases h
    | some o' =>
      rw [ho] at h
      have key : (∀ x y z, o' ≠ .cells x y z) → k.run P { s with heap := s.heap.setIfInBounds r o } = .ok b s1 → Lcl P (Sem.setObj r o k) s b s1 := fun n1 h => by
        obtain ⟨h1, c, h2, h3⟩ := ih hs _ b s1 h
        refine ⟨h1, c, h2, fun τ d hτ => ?_⟩
        obtain ⟨k1, k2⟩ := h3 τ d hτ
        cases o' <;> first
          | exact absurd rfl (n1 _ _ _)
          | (simp only [Sem.run, Sem.events, Sem.runT, e1, ho]
             exact ⟨k1, fun es => k2 _⟩)
      cases o' <;> first | (simp only at h; cases h; done) | exact key (by simp) h
  | choose q k ih =>
    intro s b s1 h
    simp only [Sem.run] at h
    by_cases hq : q.forced = true
    · rw [if_pos hq] at h
      obtain ⟨h1, c, h2, h3⟩ := ih 0 (hs 0) s b s1 h
      refine ⟨h1, c, h2, fun τ d hτ => ?_⟩
      simp only [Sem.run, Sem.events, Sem.runT, if_pos hq]
      exact h3 τ d hτ
    · rw [if_neg hq] at h
      obtain ⟨h1, c, h2, h3⟩ := ih _ (hs _) { s with drawn := s.drawn + 1 } b s1 h
      refine ⟨h1, c + 1, by rw [h2]; simp only; omega, fun τ d hτ => ?_⟩
      have h0 : τ d = s.tape s.drawn := hτ 0 (by omega)
      obtain ⟨k1, k2⟩ := h3 τ (d + 1) (fun j hj => by
        have := hτ (j + 1) (by omega)
        rw [show d + 1 + j = d + (j + 1) by omega, this]
        show s.tape (s.drawn + (j + 1)) = s.tape (s.drawn + 1 + j)
        rw [show s.drawn + (j + 1) = s.drawn + 1 + j by omega])
      simp only [Sem.run, Sem.events, Sem.runT, if_neg hq]
      have e2 : (World.on s τ d).tape (World.on s τ d).drawn = s.tape s.drawn := h0
      rw [e2, show d + (c + 1) = d + 1 + c by omega]
      exact ⟨k1, k2⟩
  | sys c k ih =>
    exact hs.elim
  | program k ih =>
    intro s b s1 h
    obtain ⟨h1, c, h2, h3⟩ := ih P (hs P) s b s1 h
    exact ⟨h1, c, h2, fun τ d hτ => h3 τ d hτ⟩
  | mark m k ih =>
    intro s b s1 h
    obtain ⟨h1, c, h2, h3⟩ := ih hs s b s1 h
    refine ⟨h1, c, h2, fun τ d hτ => ?_⟩
    obtain ⟨k1, k2⟩ := h3 τ d hτ
    exact ⟨k1, fun es => k2 _⟩
  | halt hh => intro s b s1 h; cases h
theorem Lcl.bind {α β : Type} {x : Sem α} {f : α → Sem β} {s s1 s2 : World} {a : α} {b : β} (hx : x.run P s = .ok a s1) (hf : (f a).run P s1 = .ok b s2) (h : Lcl P x s a s1) (k : Lcl P (f a) s1 b s2) : Lcl P (x >>= f) s b s2 := by
  obtain ⟨h1, c, h2, h3⟩ := h
  obtain ⟨k1, e, k2, k3⟩ := k
  refine ⟨k1.trans h1, c + e, by rw [k2, h2]; omega, fun τ d hτ => ?_⟩
  obtain ⟨m1, m2⟩ := h3 τ d fun j hj => hτ j (by omega)
  obtain ⟨n1, n2⟩ := k3 τ (d + c) fun j hj => by
    have := hτ (c + j) (by omega)
    rw [show d + c + j = d + (c + j) by omega, this, h1, h2]
    rw [show s.drawn + (c + j) = s.drawn + c + j by omega]
  refine ⟨by rw [Sem.run_bind, m1]; show (f a).run P _ = _; rw [n1, show d + c + e = d + (c + e) by omega], fun es => ?_⟩
  rw [Sem.events_bind, Sem.events_bind, m1, hx]
  simp only [Result.evThen_ok]
  rw [m2, n2]
theorem NoSys.bind {α β : Type} {x : Sem α} {f : α → Sem β} (h : NoSys x) (k : ∀ a, NoSys (f a)) : NoSys (x >>= f) := by
  show NoSys (x.bind f)
  induction x with
  | pure a => exact k a
  | load m a q ih => exact fun v => ih v (h v)
  | store m a v q ih => exact ih h
  | new o q ih => exact fun v => ih v (h v)
  | shape r q ih => exact fun v => ih v (h v)
  | freeze a n q ih => exact ih h
  | frozen a q ih => exact fun v => ih v (h v)
  | getObj r q ih => exact fun v => ih v (h v)
  | setObj r o q ih => exact ih h
  | choose q' q ih => exact fun v => ih v (h v)
  | sys c q ih => exact h.elim
  | program q ih => exact fun v => ih v (h v)
  | mark m q ih => exact ih h
  | halt hh => trivial
end
end Go.Proofs.Ytpfpokjaeffbjab.Cc
namespace Go.Proofs.Ytpfpokjaeffbjab.Cc
inductive VR (S : FuncId → Prop) (ρ : Nat → Option Nat) : Value → Value → Prop
  | bool (b : Bool) : VR S ρ (.bool b) (.bool b)
  | int (k : IntKind) (n : Int) : VR S ρ (.int k n) (.int k n)
  | string (s : ByteArray) : VR S ρ (.string s) (.string s)
  | nilPtr : VR S ρ (.pointer none) (.pointer none)
  | nilSlice (l c : Nat) : VR S ρ (.slice none l c) (.slice none l c)
  | nilFunc : VR S ρ .nilFunc .nilFunc
  | ptr {b c : Nat} (off : Nat) (sp : Option Nat) (h : ρ b = some c) : VR S ρ (.pointer (some ⟨b, off, sp⟩)) (.pointer (some ⟨c, off, sp⟩))
  | slice {b c : Nat} (off : Nat) (sp : Option Nat) (l k : Nat) (h : ρ b = some c) : VR S ρ (.slice (some ⟨b, off, sp⟩) l k) (.slice (some ⟨c, off, sp⟩) l k)
  | func {f : FuncId} {x y x' y' : Array Value} (hf : S f) (hx : x.size = x'.size) (hy : y.size = y'.size)
      (h1 : ∀ (i : Nat) (v v' : Value), x[i]? = some v → x'[i]? = some v' → VR S ρ v v') (h2 : ∀ (i : Nat) (v v' : Value), y[i]? = some v → y'[i]? = some v' → VR S ρ v v') : VR S ρ (.func (.func f) x y) (.func (.func f) x' y')
  | agg {x x' : Array Value} (hx : x.size = x'.size) (h1 : ∀ (i : Nat) (v v' : Value), x[i]? = some v → x'[i]? = some v' → VR S ρ v v') : VR S ρ (.agg x) (.agg x')
  | tuple {x x' : Array Value} (hx : x.size = x'.size) (h1 : ∀ (i : Nat) (v v' : Value), x[i]? = some v → x'[i]? = some v' → VR S ρ v v') : VR S ρ (.tuple x) (.tuple x')
  | junk {v' : Value} (ha : ∀ x, v' ≠ .agg x) (ht : ∀ x, v' ≠ .tuple x) (hb : ∀ x, v' ≠ .bool x) : VR S ρ .nilIface v'
def Ext (ρ ρ' : Nat → Option Nat) : Prop := ∀ b c, ρ b = some c → ρ' b = some c
theorem Ext.refl (ρ : Nat → Option Nat) : Ext ρ ρ := fun _ _ h => h
theorem Ext.trans {ρ ρ' ρ'' : Nat → Option Nat} (h : Ext ρ ρ') (h' : Ext ρ' ρ'') : Ext ρ ρ'' := fun b c x => h' b c (h b c x)
theorem VR.mono {S : FuncId → Prop} {ρ ρ' : Nat → Option Nat} (e : Ext ρ ρ') {v v' : Value} (h : VR S ρ v v') : VR S ρ' v v' := by
  induction h with
  | bool b => exact .bool b
  | int k n => exact .int k n
  | string s => exact .string s
  | nilPtr => exact .nilPtr
  | nilSlice l c => exact .nilSlice l c
  | nilFunc => exact .nilFunc
  | ptr off sp h => exact .ptr off sp (e _ _ h)
  | slice off sp l k h => exact .slice off sp l k (e _ _ h)
  | func hf hx hy _ _ i1 i2 => exact .func hf hx hy i1 i2
  | agg hx _ i1 => exact .agg hx i1
  | tuple hx _ i1 => exact .tuple hx i1
  | junk ha ht hb => exact .junk ha ht hb
structure AR (S : FuncId → Prop) (ρ : Nat → Option Nat) (x x' : Array Value) : Prop where
  size : x.size = x'.size
  at_ : ∀ (i : Nat) (v v' : Value), x[i]? = some v → x'[i]? = some v' → VR S ρ v v'
section
variable {S : FuncId → Prop} {ρ ρ' : Nat → Option Nat}
theorem AR.mono (e : Ext ρ ρ') {x x' : Array Value} (h : AR S ρ x x') : AR S ρ' x x' := ⟨h.size, fun i v v' a b => (h.at_ i v v' a b).mono e⟩
theorem VR.agg' {x x' : Array Value} (h : AR S ρ x x') : VR S ρ (.agg x) (.agg x') := .agg h.size h.at_
theorem VR.tuple' {x x' : Array Value} (h : AR S ρ x x') : VR S ρ (.tuple x) (.tuple x') := .tuple h.size h.at_
theorem VR.func' {f : FuncId} {x y x' y' : Array Value} (hf : S f) (h1 : AR S ρ x x') (h2 : AR S ρ y y') : VR S ρ (.func (.func f) x y) (.func (.func f) x' y') := .func hf h1.size h2.size h1.at_ h2.at_
theorem VR.undef : VR S ρ undef undef := .tuple rfl (by simp)
theorem AR.get {x x' : Array Value} (h : AR S ρ x x') {i : Nat} {v : Value} (hv : x[i]? = some v) : ∃ v', x'[i]? = some v' ∧ VR S ρ v v' := by
  have hi : i < x'.size := h.size ▸ (Array.getElem?_eq_some_iff.1 hv).1
  exact ⟨x'[i], Array.getElem?_eq_getElem hi, h.at_ i v _ hv (Array.getElem?_eq_getElem hi)⟩
theorem AR.none {x x' : Array Value} (h : AR S ρ x x') {i : Nat} (hv : x[i]? = Option.none) : x'[i]? = Option.none := by
  rw [Array.getElem?_eq_none_iff] at hv ⊢
  rw [← h.size]; exact hv
theorem AR.getD {x x' : Array Value} (h : AR S ρ x x') (i : Nat) : VR S ρ (x.getD i undef) (x'.getD i undef) := by
  cases hx : x[i]? with
  | none =>
    have h' := h.none hx
    simp only [Array.getD_eq_getD_getElem?, hx, h', Option.getD_none]
    exact VR.undef
  | some v =>
    obtain ⟨v', h', hr⟩ := h.get hx
    simp only [Array.getD_eq_getD_getElem?, hx, h', Option.getD_some]
    exact hr
theorem AR.empty : AR S ρ #[] #[] := ⟨rfl, by simp⟩
theorem AR.push {x x' : Array Value} (h : AR S ρ x x') {v v' : Value} (hv : VR S ρ v v') : AR S ρ (x.push v) (x'.push v') := by
  refine ⟨by simp [h.size], fun i a b ha hb => ?_⟩
  rw [Array.getElem?_push] at ha hb
  rw [← h.size] at hb
  split at ha
  · rename_i e
    rw [if_pos e] at hb
    cases ha; cases hb; exact hv
  · rename_i e
    rw [if_neg e] at hb
    exact h.at_ i a b ha hb
theorem AR.append {x x' y y' : Array Value} (h : AR S ρ x x') (k : AR S ρ y y') : AR S ρ (x ++ y) (x' ++ y') := by
  refine ⟨by simp [h.size, k.size], fun i a b ha hb => ?_⟩
  rw [Array.getElem?_append] at ha hb
  rw [← h.size] at hb
  split at ha
  · rename_i e
    rw [if_pos e] at hb
    exact h.at_ i a b ha hb
  · rename_i e
    rw [if_neg e] at hb
    exact k.at_ _ a b ha hb
theorem AR.set {x x' : Array Value} (h : AR S ρ x x') (i : Nat) {v v' : Value} (hv : VR S ρ v v') : AR S ρ (x.setIfInBounds i v) (x'.setIfInBounds i v') := by
  refine ⟨by simp [h.size], fun j a b ha hb => ?_⟩
  rw [Array.getElem?_setIfInBounds] at ha hb
  rw [← h.size] at hb
  split at ha
  · rename_i e
    rw [if_pos e] at hb
    split at ha
    · rename_i e2
      rw [if_pos e2] at hb
      cases ha; cases hb; exact hv
    · cases ha
  · rename_i e
    rw [if_neg e] at hb
    exact h.at_ j a b ha hb
theorem AR.map {α : Type} {f g : α → Value} (h : ∀ a, VR S ρ (f a) (g a)) (l : Array α) : AR S ρ (l.map f) (l.map g) := by
  refine ⟨by simp, fun i a b ha hb => ?_⟩
  rw [Array.getElem?_map] at ha hb
  cases hl : l[i]? with
  | none => rw [hl] at ha; cases ha
  | some z => rw [hl] at ha hb; cases ha; cases hb; exact h z
theorem AR.extract {x x' : Array Value} (h : AR S ρ x x') (i j : Nat) : AR S ρ (x.extract i j) (x'.extract i j) := by
  refine ⟨by simp [h.size], fun k a b ha hb => ?_⟩
  rw [Array.getElem?_extract] at ha hb
  rw [← h.size] at hb
  split at ha
  · rename_i e
    rw [if_pos e] at hb
    exact h.at_ _ a b ha hb
  · cases ha
theorem AR.replicate (n : Nat) {v v' : Value} (h : VR S ρ v v') : AR S ρ (Array.replicate n v) (Array.replicate n v') := by
  refine ⟨by simp, fun i a b ha hb => ?_⟩
  rw [Array.getElem?_replicate] at ha hb
  split at ha
  · rename_i e
    rw [if_pos e] at hb
    cases ha; cases hb; exact h
  · cases ha
theorem AR.one {v v' : Value} (h : VR S ρ v v') : AR S ρ #[v] #[v'] := by simpa using AR.empty.push h
theorem VR.cells {v v' : Value} (h : VR S ρ v v') : AR S ρ v.cells v'.cells := by
  cases h with
  | agg hx h1 => exact ⟨hx, h1⟩
  | bool b => exact AR.one (.bool b)
  | int k n => exact AR.one (.int k n)
  | string s => exact AR.one (.string s)
  | nilPtr => exact AR.one .nilPtr
  | nilSlice l c => exact AR.one (.nilSlice l c)
  | nilFunc => exact AR.one .nilFunc
  | ptr off sp h => exact AR.one (.ptr off sp h)
  | slice off sp l k h => exact AR.one (.slice off sp l k h)
  | func hf hx hy h1 h2 => exact AR.one (.func hf hx hy h1 h2)
  | tuple hx h1 => exact AR.one (.tuple hx h1)
  | junk ha ht hb =>
    have e : v'.cells = #[v'] := by cases v' <;> first | rfl | exact absurd rfl (ha _)
    rw [e]; exact AR.one (.junk ha ht hb)
end
def AdR (ρ : Nat → Option Nat) (a a' : Addr) : Prop := ρ a.block = some a'.block ∧ a'.off = a.off ∧ a'.spot = a.spot
inductive Md where
  | all | read (n : Nat) | part (f : Nat)
  deriving DecidableEq
def Md.hi : Md → Nat → Nat
  | .all, _ => 0
  | .read _, n => n
  | .part f, _ => f
def Md.isRead : Md → Bool
  | .read _ => true
  | _ => false
def Md.gets : Md → Nat → Prop
  | .read n, i => i < n
  | _, _ => True
def Md.lets : Md → Nat → Prop
  | .all, _ => True
  | .read _, _ => False
  | .part f, i => f ≤ i
theorem Md.lets_of {m : Md} {n i : Nat} (h : ¬ (0 ≤ i ∧ i < m.hi n)) (hi : i < n) : m.lets i := by
  cases m with
  | all => trivial
  | read k => simp [Md.hi] at h; exact absurd hi (by omega)
  | part f => simp [Md.hi] at h; exact h
inductive OR (S : FuncId → Prop) (ro : Md) (ρ : Nat → Option Nat) : Obj → Obj → Prop
  | cells {cs cs' : Array Value} {e : TypeId} {fz' : Nat × Nat} (h3 : cs.size ≤ cs'.size) (h4 : ∀ (i : Nat) (v : Value), cs[i]? = some v → ∃ v', cs'[i]? = some v' ∧ VR S ρ v v')
      (h5 : ro.isRead = false → cs.size = cs'.size ∧ fz' = (0, 0)) (h6 : ∀ n, ro = .read n → cs.size = n) : OR S ro ρ (.cells cs e (0, ro.hi cs.size)) (.cells cs' e fz')
  | number {a a' : Addr} {lost : Bool} (h : AdR ρ a a') (hro : ro = .all) : OR S ro ρ (.number a lost) (.number a' lost)
structure HR (G : Nat) (S : FuncId → Prop) (ro : Nat → Md) (ρ : Nat → Option Nat) (s w : World) : Prop where
  inj : ∀ b b' c, ρ b = some c → ρ b' = some c → b = b'
  row : ∀ b c, ρ b = some c → ∃ o o', s.heap[b]? = some o ∧ w.heap[c]? = some o' ∧ OR S (ro b) ρ o o'
  hole : ∀ b, ρ b = none → s.heap[b]? = none ∨ ∃ x, s.heap[b]? = some (.coro x)
  low : ∀ b c, ρ b = some c → G ≤ b ∧ G ≤ c
  gs : G ≤ s.heap.size
  gw : G ≤ w.heap.size
def EvOk (ro : Nat → Md) (ρ : Nat → Option Nat) (e : Event) : Prop :=
  (∃ a b x, e = ⟨.cell a, x, false⟩ ∧ ρ b = some a.block ∧ (x = true → (ro b).lets a.off) ∧ (ro b).gets a.off ∧ a.spot = none) ∨ e = ⟨.mark .noRoom, false, true⟩ ∨ ∃ c b, e = ⟨.obj c, false, false⟩ ∧ ρ b = some c ∧ ro b = .all
structure Mv (G : Nat) (S : FuncId → Prop) (ro : Nat → Md) (ρ : Nat → Option Nat) (s w : World) (ρ' : Nat → Option Nat) (s' w' : World) (es : Array Event) : Prop where
  ext : Ext ρ ρ'
  hr : HR G S ro ρ' s' w'
  tape : s'.tape = w'.tape
  drawn : s'.drawn = w'.drawn
  wtape : w'.tape = w.tape
  os : w'.os = w.os
  output : w'.output = w.output
  size : w.heap.size ≤ w'.heap.size
  keep : ∀ c, c < w.heap.size → (∀ b, ρ b = some c → (ro b).isRead = true) → w'.heap[c]? = w.heap[c]?
  part : ∀ b c f, ρ b = some c → ro b = .part f → ∀ cs e fz, w.heap[c]? = some (.cells cs e fz) → ∃ cs', w'.heap[c]? = some (.cells cs' e fz) ∧ cs'.size = cs.size ∧ ∀ i, i < f → cs'[i]? = cs[i]?
  fresh : ∀ b c, ρ' b = some c → ρ b = some c ∨ (w.heap.size ≤ c ∧ ro b = .all)
  evs : ∀ e ∈ es, EvOk ro ρ' e
  ssize : s.heap.size ≤ s'.heap.size
  sos : s'.os = s.os
  soutput : s'.output = s.output
  same : s.heap.size = w.heap.size → (∀ b c, ρ b = some c → c = b) → s'.heap.size = w'.heap.size ∧ ∀ b c, ρ' b = some c → c = b
theorem EvOk.mono {ro : Nat → Md} {ρ ρ' : Nat → Option Nat} (h : Ext ρ ρ') {e : Event} (k : EvOk ro ρ e) : EvOk ro ρ' e :=
  k.imp (fun ⟨a, b, x, h1, h2, h3⟩ => ⟨a, b, x, h1, h _ _ h2, h3⟩) (.imp id fun ⟨c, b, h1, h2, h3⟩ => ⟨c, b, h1, h _ _ h2, h3⟩)
theorem Mv.refl {G : Nat} {S : FuncId → Prop} {ro : Nat → Md} {ρ : Nat → Option Nat} {s w : World} (h : HR G S ro ρ s w) (ht : s.tape = w.tape) (hd : s.drawn = w.drawn) : Mv G S ro ρ s w ρ s w #[] :=
  ⟨.refl _, h, ht, hd, rfl, rfl, rfl, Nat.le_refl _, fun _ _ _ => rfl, fun _ _ _ _ _ cs _ _ hc => ⟨cs, hc, rfl, fun _ _ => rfl⟩, fun _ _ h => .inl h, by simp, Nat.le_refl _, rfl, rfl, fun a b => ⟨a, b⟩⟩
theorem Mv.trans {G : Nat} {S : FuncId → Prop} {ro : Nat → Md} {ρ ρ₁ ρ₂ : Nat → Option Nat} {s w s₁ w₁ s₂ w₂ : World} {es es₁ : Array Event}
    (h : Mv G S ro ρ s w ρ₁ s₁ w₁ es) (k : Mv G S ro ρ₁ s₁ w₁ ρ₂ s₂ w₂ es₁) : Mv G S ro ρ s w ρ₂ s₂ w₂ (es ++ es₁) := by
  refine ⟨h.ext.trans k.ext, k.hr, k.tape, k.drawn, k.wtape.trans h.wtape, k.os.trans h.os, k.output.trans h.output, Nat.le_trans h.size k.size, fun c hc hb => ?_, fun b c f hb hf cs e fz hc => ?_, fun b c hbc => ?_, fun e he => ?_,
    Nat.le_trans h.ssize k.ssize, k.sos.trans h.sos, k.soutput.trans h.soutput, fun a b => k.same (h.same a b).1 (h.same a b).2⟩
  · refine (k.keep c (Nat.lt_of_lt_of_le hc h.size) fun b hbc => ?_).trans (h.keep c hc hb)
    rcases h.fresh b c hbc with h1 | ⟨h1, _⟩
    · exact hb b h1
    · omega
  · obtain ⟨cs₁, h1, h2, h3⟩ := h.part b c f hb hf cs e fz hc
    obtain ⟨cs₂, k1, k2, k3⟩ := k.part b c f (h.ext _ _ hb) hf cs₁ e fz h1
    exact ⟨cs₂, k1, k2.trans h2, fun i hi => (k3 i hi).trans (h3 i hi)⟩
  · rcases k.fresh b c hbc with h1 | ⟨h1, h2⟩
    · exact h.fresh b c h1
    · exact .inr ⟨Nat.le_trans h.size h1, h2⟩
  · rcases Array.mem_append.1 he with h1 | h1
    · exact (h.evs e h1).mono k.ext
    · exact k.evs e h1
def Tame : Halt → Prop
  | .panic _ | .stuck _ => True
  | .unsupported (.initOrder _) => False
  | .unsupported _ => True
  | _ => False
def SR {α β : Type} (P : Program) (S : FuncId → Prop) (ro : Nat → Md) (ρ : Nat → Option Nat) (x : Sem α) (y : Sem β) (V : (Nat → Option Nat) → α → β → Prop) : Prop :=
  ∀ s w, HR P.globals.size S ro ρ s w → s.tape = w.tape → s.drawn = w.drawn → (∀ b, s.heap.size ≤ b → ro b = .all) → (∀ a s', x.run P s = .ok a s' →
    ∃ ρ' b w', y.run P w = .ok b w' ∧ Mv P.globals.size S ro ρ s w ρ' s' w' (y.events P w #[]) ∧ V ρ' a b) ∧ (∀ h s', x.run P s = .halt h s' → Tame h) ∧ ∀ a s', x.run P s = .ok a s' → Lcl P x s a s'
section
variable {α β γ δ : Type} {P : Program} {S : FuncId → Prop} {ro : Nat → Md} {ρ : Nat → Option Nat}
theorem SR.bind {x : Sem α} {y : Sem β} {f : α → Sem γ} {g : β → Sem δ} {V : (Nat → Option Nat) → α → β → Prop} {W : (Nat → Option Nat) → γ → δ → Prop}
    (h : SR P S ro ρ x y V) (k : ∀ ρ' a b, Ext ρ ρ' → V ρ' a b → SR P S ro ρ' (f a) (g b) W) : SR P S ro ρ (x >>= f) (y >>= g) W := by
  intro s w hr ht hd hro
  refine ⟨?_, ?_, ?_⟩
  · intro c s' hx
    rw [Sem.run_bind] at hx
    cases hxs : x.run P s with
    | halt _ _ => rw [hxs] at hx; cases hx
    | ok a s₁ =>
      rw [hxs] at hx
      obtain ⟨ρ₁, b, w₁, hy, hm, hv⟩ := (h s w hr ht hd hro).1 a s₁ hxs
      obtain ⟨ρ₂, d, w₂, hg, hm₂, hw⟩ := (k ρ₁ a b hm.ext hv s₁ w₁ hm.hr hm.tape hm.drawn (fun b hb => hro b (Nat.le_trans hm.ssize hb))).1 c s' hx
      refine ⟨ρ₂, d, w₂, ?_, ?_, hw⟩
      · rw [Sem.run_bind, hy]; exact hg
      · rw [Sem.events_bind, hy, Result.evThen_ok, Sem.events_acc]
        exact hm.trans hm₂
  · intro c s' hx
    rw [Sem.run_bind] at hx
    cases hxs : x.run P s with
    | halt c' _ =>
      rw [hxs] at hx
      cases hx
      exact (h s w hr ht hd hro).2.1 _ _ hxs
    | ok a s₁ =>
      rw [hxs] at hx
      obtain ⟨ρ₁, b, w₁, hy, hm, hv⟩ := (h s w hr ht hd hro).1 a s₁ hxs
      exact (k ρ₁ a b hm.ext hv s₁ w₁ hm.hr hm.tape hm.drawn (fun b hb => hro b (Nat.le_trans hm.ssize hb))).2.1 c s' hx
  · intro c s' hx
    rw [Sem.run_bind] at hx
    cases hxs : x.run P s with
    | halt _ _ => rw [hxs] at hx; cases hx
    | ok a s₁ =>
      rw [hxs] at hx
      obtain ⟨ρ₁, b, w₁, hy, hm, hv⟩ := (h s w hr ht hd hro).1 a s₁ hxs
      exact Lcl.bind hxs hx ((h s w hr ht hd hro).2.2 a s₁ hxs) ((k ρ₁ a b hm.ext hv s₁ w₁ hm.hr hm.tape hm.drawn (fun b hb => hro b (Nat.le_trans hm.ssize hb))).2.2 c s' hx)
theorem SR.pure {a : α} {b : β} {V : (Nat → Option Nat) → α → β → Prop} (h : V ρ a b) : SR P S ro ρ (Pure.pure a) (Pure.pure b) V := by
  intro s w hr ht hd hro
  refine ⟨fun c s' hx => ?_, fun _ _ hx => (by cases hx), fun a s' hx => run_local _ (by exact trivial) s a s' hx⟩
  cases hx
  exact ⟨ρ, b, w, rfl, Mv.refl hr ht hd, h⟩
def Never (P : Program) (x : Sem α) : Prop := ∀ s, ∃ h s', x.run P s = .halt h s' ∧ Tame h
theorem SR.never {x : Sem α} {y : Sem β} {V : (Nat → Option Nat) → α → β → Prop} (h : Never P x) : SR P S ro ρ x y V := by
  intro s _ _ _ _ _
  obtain ⟨c, s', e, t⟩ := h s
  exact ⟨fun a s' hx => (by rw [e] at hx; cases hx), fun c' s' hx => (by rw [e] at hx; cases hx; exact t), fun a s' hx => (by rw [e] at hx; cases hx)⟩
theorem Never.halt {h : Halt} (t : Tame h) : Never P (Sem.halt h : Sem α) := fun s => ⟨h, s, rfl, t⟩
theorem Never.stuck {m : String} : Never P (stuck m : Sem α) := Never.halt trivial
theorem Never.bind {x : Sem α} {f : α → Sem γ} (h : Never P x) : Never P (x >>= f) := fun s => by
  obtain ⟨c, s', e, t⟩ := h s
  exact ⟨c, s', by rw [Sem.run_bind, e]; rfl, t⟩
theorem Never.after {x : Sem α} {f : α → Sem γ} (hx : ∀ s h s', x.run P s = .halt h s' → Tame h) (h : ∀ a, Never P (f a)) : Never P (x >>= f) := fun s => by
  cases e : x.run P s with
  | halt c s' => exact ⟨c, s', by rw [Sem.run_bind, e]; rfl, hx s c s' e⟩
  | ok a s' =>
    obtain ⟨c, s₂, e₂, t⟩ := h a s'
    exact ⟨c, s₂, by rw [Sem.run_bind, e]; exact e₂, t⟩
theorem SR.stuck {m : String} {y : Sem β} {V : (Nat → Option Nat) → α → β → Prop} : SR P S ro ρ (stuck m : Sem α) y V := SR.never Never.stuck
theorem SR.halt {m : String} {y : Sem β} {V : (Nat → Option Nat) → α → β → Prop} : SR P S ro ρ (Sem.halt (.stuck m) : Sem α) y V := SR.never (Never.halt trivial)
theorem SR.unsupported {u : Unsupported} {y : Sem β} {V : (Nat → Option Nat) → α → β → Prop} (hu : Tame (.unsupported u)) : SR P S ro ρ (unsupported u : Sem α) y V := SR.never (Never.halt hu)
theorem SR.mono {x : Sem α} {y : Sem β} {V W : (Nat → Option Nat) → α → β → Prop} (h : SR P S ro ρ x y V) (k : ∀ ρ' a b, Ext ρ ρ' → V ρ' a b → W ρ' a b) : SR P S ro ρ x y W := by
  intro s w hr ht hd hro
  refine ⟨fun c s' hx => ?_, (h s w hr ht hd hro).2⟩
  obtain ⟨ρ₁, b, w₁, hy, hm, hv⟩ := (h s w hr ht hd hro).1 c s' hx
  exact ⟨ρ₁, b, w₁, hy, hm, k _ _ _ hm.ext hv⟩
theorem SR.program : SR P S ro ρ program program fun _ a b => a = b ∧ a = P := by
  intro s w hr ht hd hro
  refine ⟨fun c s' hx => ?_, fun _ _ hx => (by cases hx), fun a s' hx => run_local _ (by exact fun _ => trivial) s a s' hx⟩
  cases hx
  exact ⟨ρ, P, w, rfl, Mv.refl hr ht hd, rfl, rfl⟩
end
end Go.Proofs.Ytpfpokjaeffbjab.Cc
