/- A script of signers: what the laws' world is, in memory; what a step keeps. -/
import Derived.Test.YtpfpokjaeffbjabSignerSign
import Derived.Test.YtpfpokjaeffbjabRefSignerSign
import Derived.Test.YtpfpokjaeffbjabSameComs
namespace Go.Proofs.Ytpfpokjaeffbjab.Scr
open Go.RowKit Go.Proofs.Ytpfpokjaeffbjab.Pl Go.Proofs.Ytpfpokjaeffbjab.Mem Go.Proofs.Ytpfpokjaeffbjab.Mpp Go.Proofs.Ytpfpokjaeffbjab.Spl Go.Proofs.Ytpfpokjaeffbjab.Ver Go.Proofs.Ytpfpokjaeffbjab.Grp
open Go.Proofs.Ytpfpokjaeffbjab.Sgn (Only SgAt SgIn ComsBut)
open Go.Proofs.Ytpfpokjaeffbjab.Rsg (RLoc RSg Moved own_moved)
set_option linter.unusedVariables false

/-- A signer on both sides. -/
structure Pr where
  a : Sgn.Loc
  r : RLoc
  s : St
def Pr.foot (p : Pr) : List Nat := p.a.foot ++ p.r.foot
structure PrAt (w : World) (B : Nat) (p : Pr) : Prop where
  x : SgAt w p.a p.s
  m : RSg w p.r p.s
  ok : Ok p.s
  base : ∀ k ∈ p.foot, B ≤ k
theorem PrAt.lt {w : World} {B : Nat} {p : Pr} (h : PrAt w B p) : ∀ k ∈ p.foot, k < w.heap.size := fun k hk => by
  rcases List.mem_append.1 hk with hk | hk
  · exact h.x.lt k hk
  · exact h.m.lt k hk
theorem PrAt.keep {w w' : World} {B : Nat} {p : Pr} (h : PrAt w B p) (hb : ∀ k ∈ p.foot, w'.heap[k]? = w.heap[k]?) : PrAt w' B p :=
  ⟨h.x.keep fun k hk => hb k (List.mem_append_left _ hk), h.m.keep fun k hk => hb k (List.mem_append_right _ hk), h.ok, h.base⟩
/-- The types of the blocks that a signer is made of. -/
def ofSigner (T : TypeId) : Bool := T == 82 || T == 143 || T == 85 || T == 174 || T == 25 || T == 176
theorem blk_type {w : World} {g : Nat} {T T' : TypeId} {C C' : Array Value} {d : Nat × Nat} (h : Blk w g T C) (h' : w.heap[g]? = some (.cells C' T' d)) : T = T' := by
  unfold Blk at h
  rw [h] at h'
  simp only [Option.some.injEq, Obj.cells.injEq] at h'
  exact h'.2.1
theorem own_type {w : World} {base : Nat} {e : TypeId} {size n : Nat} {v : Value} {xs : List Value} (h : w.ownsRow base e size v n xs) {g : Nat} (hg : v.ownBlock = some g) {T' : TypeId} {C' : Array Value} {d : Nat × Nat} (h' : w.heap[g]? = some (.cells C' T' d)) : e = T' := by
  rcases h.2 with ⟨rfl, _⟩ | ⟨g', cap, cur, rfl, _, hh, _⟩
  · cases hg
  · have : g' = g := by simpa [Value.ownBlock] using hg
    subst this
    exact blk_type (T := e) (C := cur) hh h'
theorem PrAt.type {w : World} {B : Nat} {p : Pr} (h : PrAt w B p) {k : Nat} (hk : k ∈ p.foot) {T : TypeId} {C : Array Value} {d : Nat × Nat} (hT : w.heap[k]? = some (.cells C T d)) : ofSigner T = true := by
  rcases List.mem_append.1 hk with hk | hk
  · simp only [Sgn.Loc.foot, List.mem_cons, List.not_mem_nil, or_false] at hk
    rcases hk with rfl | rfl | rfl | rfl
    · rw [← blk_type h.x.sg hT]; decide
    · obtain ⟨C', hC, -⟩ := h.x.grp
      rw [← blk_type hC hT]; decide
    · rw [← own_type h.x.own rfl hT]; decide
    · obtain ⟨es, cl, hM, -⟩ := h.x.map
      rw [hM] at hT; cases hT
  · simp only [RLoc.foot, List.mem_cons, Option.mem_toList] at hk
    rcases hk with rfl | rfl | hk
    · rw [← blk_type h.m.sg hT]; decide
    · rw [← own_type h.m.own rfl hT]; decide
    · rw [← own_type h.m.prs hk hT]; decide
/-- All signers, blocks apart. -/
def AllAt (w : World) (B : Nat) (ps : List Pr) : Prop := (∀ p ∈ ps, PrAt w B p) ∧ ∀ (i j : Nat) (p q : Pr), ps[i]? = some p → ps[j]? = some q → i ≠ j → ∀ k ∈ p.foot, k ∉ q.foot
theorem AllAt.keep {w w' : World} {B : Nat} {ps : List Pr} (h : AllAt w B ps) (hb : ∀ p ∈ ps, ∀ k ∈ p.foot, w'.heap[k]? = w.heap[k]?) : AllAt w' B ps := ⟨fun p hp => (h.1 p hp).keep (hb p hp), h.2⟩
theorem AllAt.later {w w' : World} {B : Nat} {ps : List Pr} (h : AllAt w B ps) (hb : Below w.heap.size w w') : AllAt w' B ps := h.keep fun p hp k hk => hb.block k ((h.1 p hp).lt k hk)
/-- A block that is no signer's by its type turned. -/
theorem AllAt.free {w w' : World} {B : Nat} {ps : List Pr} (h : AllAt w B ps) {g : Nat} {T : TypeId} {C : Array Value} {d : Nat × Nat} (hT : w.heap[g]? = some (.cells C T d)) (hf : ofSigner T = false) (hb : ∀ k, k < w.heap.size → k ≠ g → w'.heap[k]? = w.heap[k]?) : AllAt w' B ps :=
  h.keep fun p hp k hk => hb k ((h.1 p hp).lt k hk) fun e => by
    subst e
    rw [(h.1 p hp).type hk hT] at hf
    cases hf
theorem AllAt.nil (w : World) (B : Nat) : AllAt w B [] := ⟨fun p hp => absurd hp (List.not_mem_nil), fun i j p q hi => by simp at hi⟩
theorem AllAt.push {w : World} {B X : Nat} {ps : List Pr} {p : Pr} (h : AllAt w B ps) (hp : PrAt w B p) (hX : ∀ q ∈ ps, ∀ k ∈ q.foot, k < X) (hn : ∀ k ∈ p.foot, X ≤ k) : AllAt w B (ps ++ [p]) := by
  refine ⟨fun q hq => ?_, fun i j q r hi hj hij k hk hk' => ?_⟩
  · rcases List.mem_append.1 hq with hq | hq
    · exact h.1 q hq
    · rw [List.mem_singleton.1 hq]; exact hp
  · rcases Nat.lt_or_ge i ps.length with h1 | h1
    · rw [List.getElem?_append_left h1] at hi
      rcases Nat.lt_or_ge j ps.length with h2 | h2
      · rw [List.getElem?_append_left h2] at hj
        exact h.2 i j q r hi hj hij k hk hk'
      · rw [List.getElem?_append_right h2] at hj
        have hr : r = p := by
          have := List.mem_of_getElem? hj
          exact List.mem_singleton.1 this
        subst hr
        have h3 := hX q (List.mem_of_getElem? hi) k hk
        have h4 := hn k hk'
        omega
    · rw [List.getElem?_append_right h1] at hi
      have hq : q = p := List.mem_singleton.1 (List.mem_of_getElem? hi)
      subst hq
      have h4 := hn k hk
      rcases Nat.lt_or_ge j ps.length with h2 | h2
      · rw [List.getElem?_append_left h2] at hj
        have h3 := hX r (List.mem_of_getElem? hj) k hk'
        omega
      · have hj1 := (List.getElem?_eq_some_iff.1 hj).1
        have hi1 := (List.getElem?_eq_some_iff.1 hi).1
        simp at hj1 hi1
        omega
/-- One signer turned. -/
theorem AllAt.upd {w w' : World} {B i : Nat} {ps : List Pr} {p p' : Pr} (h : AllAt w B ps) (hi : ps[i]? = some p) (ho : Only p.foot w w') (hp : PrAt w' B p') (hn : ∀ k ∈ p'.foot, k ∈ p.foot ∨ w.heap.size ≤ k) : AllAt w' B (ps.set i p') := by
  have hil := (List.getElem?_eq_some_iff.1 hi).1
  have hoth : ∀ (j : Nat) (q : Pr), ps[j]? = some q → i ≠ j → PrAt w' B q := fun j q hj hij =>
    (h.1 q (List.mem_of_getElem? hj)).keep fun k hk => ho.block k ((h.1 q (List.mem_of_getElem? hj)).lt k hk) (fun hk' => h.2 i j p q hi hj hij k hk' hk)
  have hap : ∀ (j : Nat) (q : Pr), ps[j]? = some q → i ≠ j → ∀ k ∈ p'.foot, k ∉ q.foot := fun j q hj hij k hk hk' => by
    rcases hn k hk with h1 | h1
    · exact h.2 i j p q hi hj hij k h1 hk'
    · have := (h.1 q (List.mem_of_getElem? hj)).lt k hk'
      omega
  have hget : ∀ j, (ps.set i p')[j]? = if i = j then some p' else ps[j]? := fun j => by
    rw [List.getElem?_set]
    by_cases hij : i = j
    · rw [if_pos hij, if_pos hij, if_pos hil]
    · rw [if_neg hij, if_neg hij]
  refine ⟨fun q hq => ?_, fun j k q r hj hk hjk => ?_⟩
  · obtain ⟨j, hj⟩ := List.mem_iff_getElem?.1 hq
    rw [hget] at hj
    by_cases hij : i = j
    · rw [if_pos hij] at hj
      injection hj with hj
      rw [← hj]; exact hp
    · rw [if_neg hij] at hj
      exact hoth j q hj hij
  · rw [hget] at hj hk
    by_cases hij : i = j
    · rw [if_pos hij] at hj
      injection hj with hj
      rw [if_neg (fun e => hjk (hij ▸ e))] at hk
      subst hj
      exact hap k r hk (fun e => hjk (hij ▸ e))
    · rw [if_neg hij] at hj
      by_cases hik : i = k
      · rw [if_pos hik] at hk
        injection hk with hk
        subst hk
        exact fun m hm hm' => hap j q hj hij m hm' hm
      · rw [if_neg hik] at hk
        exact h.2 j k q r hj hk hjk
def prc (p : Pr) : List Value := [.pointer (some ⟨p.a.S, 0, none⟩), .pointer (some ⟨p.r.S, 0, none⟩)]
def prcs (ps : List Pr) : List Value := ps.flatMap prc
theorem prcs_length (ps : List Pr) : (prcs ps).length = ps.length * 2 := by
  induction ps with
  | nil => rfl
  | cons p ps ih =>
    show (prc p ++ prcs ps).length = _
    rw [List.length_append, ih, List.length_cons]
    simp [prc]; omega
theorem prcs_append (a b : List Pr) : prcs (a ++ b) = prcs a ++ prcs b := by simp [prcs]
theorem prcs_at (ps : List Pr) (i : Nat) (p : Pr) (h : ps[i]? = some p) : (prcs ps)[i * 2]? = some (.pointer (some ⟨p.a.S, 0, none⟩)) ∧ (prcs ps)[i * 2 + 1]? = some (.pointer (some ⟨p.r.S, 0, none⟩)) := by
  induction ps generalizing i with
  | nil => simp at h
  | cons q ps ih =>
    have e : prcs (q :: ps) = .pointer (some ⟨q.a.S, 0, none⟩) :: .pointer (some ⟨q.r.S, 0, none⟩) :: prcs ps := rfl
    rw [e]
    cases i with
    | zero => injection h with h; subst h; exact ⟨rfl, rfl⟩
    | succ i =>
      have := ih i (by simpa using h)
      have e1 : (i + 1) * 2 = i * 2 + 1 + 1 := by omega
      rw [e1]
      simpa using this
theorem prcs_set (ps : List Pr) (i : Nat) (p p' : Pr) (h : ps[i]? = some p) (h1 : p'.a.S = p.a.S) (h2 : p'.r.S = p.r.S) : prcs (ps.set i p') = prcs ps := by
  induction ps generalizing i with
  | nil => rfl
  | cons q ps ih =>
    cases i with
    | zero => injection h with h; subst h; show prc p' ++ prcs ps = prc q ++ prcs ps; unfold prc; rw [h1, h2]
    | succ i => show prc q ++ prcs (ps.set i p') = prc q ++ prcs ps; rw [ih i (by simpa using h)]
/-- What is known of a commitment that was told. -/
def Told (c : Cm) : Prop := (-9223372036854775808 ≤ c.id ∧ c.id ≤ 9223372036854775807) ∧ (0 ≤ c.d ∧ c.d < 18446744073709551616) ∧ (0 ≤ c.e ∧ c.e < 18446744073709551616)
/-- The laws' world in memory. -/
structure Wd (w : World) (B WB : Nat) (sv cv : Value) (ps : List Pr) (told : List Cm) : Prop where
  wd : Blk w WB 62 #[sv, cv, .bool false]
  ss : w.ownsRow B 132 2 sv ps.length (prcs ps)
  cs : w.ownsRow B 37 3 cv told.length (comCells told)
  at_ : AllAt w B ps
  base : B ≤ WB
  ok : ∀ i, i < told.length → Told (told.getD i .zero)
theorem Wd.later {w w' : World} {B WB : Nat} {sv cv : Value} {ps : List Pr} {told : List Cm} (h : Wd w B WB sv cv ps told) (hb : Below w.heap.size w w') : Wd w' B WB sv cv ps told :=
  ⟨h.wd.below hb h.wd.lt, own_below h.ss hb (Nat.le_refl _), own_below h.cs hb (Nat.le_refl _), h.at_.later hb, h.base, h.ok⟩
theorem Wd.cells {w : World} {B WB : Nat} {sv cv : Value} {ps : List Pr} {told : List Cm} (h : Wd w B WB sv cv ps told) : w.cell? ⟨WB, 0, none⟩ = some sv ∧ w.cell? ⟨WB, 1, none⟩ = some cv ∧ w.cell? ⟨WB, 2, none⟩ = some (.bool false) := ⟨h.wd.cell 0, h.wd.cell 1, h.wd.cell 2⟩
/-- Where the pair of signers stands. -/
theorem Wd.pair {w : World} {B WB : Nat} {sv cv : Value} {ps : List Pr} {told : List Cm} (h : Wd w B WB sv cv ps told) {i : Nat} {p : Pr} (hp : ps[i]? = some p) :
    ∃ b cap, sv = .slice (some ⟨b, 0, none⟩) ps.length cap ∧ b < w.heap.size ∧ w.cell? ⟨b, i * 2, none⟩ = some (.pointer (some ⟨p.a.S, 0, none⟩)) ∧ w.cell? ⟨b, i * 2 + 1, none⟩ = some (.pointer (some ⟨p.r.S, 0, none⟩)) := by
  have hl := (List.getElem?_eq_some_iff.1 hp).1
  obtain ⟨b, cap, rfl, -, hlt⟩ := World.ownsRow.form h.ss (by omega)
  obtain ⟨h1, h2⟩ := prcs_at ps i p hp
  have hc := fun j u hu => h.ss.cells (g := b) rfl j u hu
  have hz : ∀ j, (⟨b, 0, none⟩ : Addr).add j = ⟨b, j, none⟩ := fun j => by rw [add_zero_off, Nat.zero_add]
  simp only [hz] at hc
  exact ⟨b, cap, rfl, hlt, hc _ _ h1, hc _ _ h2⟩
/-- A signer turned: the world behind it. -/
theorem Wd.upd {w w' : World} {B WB i : Nat} {sv cv : Value} {ps : List Pr} {told : List Cm} {p p' : Pr} (h : Wd w B WB sv cv ps told) (hi : ps[i]? = some p) (ho : Only p.foot w w') (hp : PrAt w' B p') (hn : ∀ k ∈ p'.foot, k ∈ p.foot ∨ w.heap.size ≤ k) (h1 : p'.a.S = p.a.S) (h2 : p'.r.S = p.r.S) :
    Wd w' B WB sv cv (ps.set i p') told := by
  have hpm := h.at_.1 p (List.mem_of_getElem? hi)
  have hoff : ∀ {g : Nat} {T : TypeId} {C : Array Value} {d : Nat × Nat}, w.heap[g]? = some (.cells C T d) → ofSigner T = false → w'.heap[g]? = w.heap[g]? := fun {g T C d} hT hf =>
    ho.block g (Array.getElem?_eq_some_iff.1 hT).1 (fun hk => by rw [hpm.type hk hT] at hf; cases hf)
  refine ⟨(hoff h.wd (by decide)).trans h.wd, ?_, ?_, h.at_.upd hi ho hp hn, h.base, h.ok⟩
  · rw [List.length_set, prcs_set ps i p p' hi h1 h2]
    refine own_moved h.ss fun g hg => ?_
    rcases h.ss.2 with ⟨hv, _⟩ | ⟨g', cap, cur, hv, _, hh, _⟩
    · rw [hv] at hg; cases hg
    · rw [hv] at hg
      have : g' = g := by simpa [Value.ownBlock] using hg
      subst this
      exact hoff hh (by decide)
  · refine own_moved h.cs fun g hg => ?_
    rcases h.cs.2 with ⟨hv, _⟩ | ⟨g', cap, cur, hv, _, hh, _⟩
    · rw [hv] at hg; cases hg
    · rw [hv] at hg
      have : g' = g := by simpa [Value.ownBlock] using hg
      subst this
      exact hoff hh (by decide)
/-- One step of a script. -/
structure OpP where
  kind : Int
  a : Int
  b : Int
  c : Int
  d : Int
  t : Int
  n : Int
  vg : Value
  cs : List Int
  N : Int
  M : Int
  S : ByteArray
  vl : Value
  L : List Cm
def OpP.cells (o : OpP) : List Value := [.int .i64 o.kind, .int .i64 o.a, .int .i64 o.b, .int .i64 o.c, .int .i64 o.d, .int .i64 o.t, .int .i64 o.n, o.vg, .int .u64 o.N, .int .u64 o.M, .string o.S, o.vl]
def OpP.agg (o : OpP) : Array Value := #[.int .i64 o.kind, .int .i64 o.a, .int .i64 o.b, .int .i64 o.c, .int .i64 o.d, .int .i64 o.t, .int .i64 o.n, o.vg, .int .u64 o.N, .int .u64 o.M, .string o.S, o.vl]
def opsCells (l : List OpP) : List Value := l.flatMap OpP.cells
/-- What is known of it. -/
structure OpOk (w : World) (o : OpP) : Prop where
  g : Nums .u64 w w.heap.size o.vg o.cs
  gb : ∀ i, i < o.cs.length → 0 ≤ o.cs.getD i 0
  l : Coms w w.heap.size o.vl o.L
  lb : ∀ i, i < o.L.length → Told (o.L.getD i .zero)
  ib : -9223372036854775808 ≤ o.a ∧ o.a ≤ 9223372036854775807
  ic : -9223372036854775808 ≤ o.c ∧ o.c ≤ 9223372036854775807
  nb : 0 ≤ o.N ∧ o.N < 18446744073709551616
  mb : 0 ≤ o.M ∧ o.M < 18446744073709551616
theorem OpOk.later {w w' : World} {o : OpP} (h : OpOk w o) (hb : Below w.heap.size w w') : OpOk w' o := ⟨h.g.later hb, h.gb, h.l.later hb, h.lb, h.ib, h.ic, h.nb, h.mb⟩
/-- Its sizes are small. -/
structure OpSmall (o : OpP) : Prop where
  g : o.cs.length ≤ 65536
  l : o.L.length ≤ 65536
  s : o.S.size ≤ 65536
/-- What a step leaves. -/
def StepPost (B WB : Nat) (w : World) (n m : Nat) (e : Ending) (w' : World) : Prop :=
  e = .returned (.bool true) ∧ ∃ sv cv ps told, Wd w' B WB sv cv ps told ∧ Below B w w' ∧ ps.length ≤ n + 1 ∧ told.length ≤ m + 1
end Go.Proofs.Ytpfpokjaeffbjab.Scr
