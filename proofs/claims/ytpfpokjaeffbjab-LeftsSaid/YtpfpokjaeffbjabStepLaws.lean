/- What a step adds to the laws' world. -/
import Derived.Test.YtpfpokjaeffbjabScript
namespace Go.Proofs.Ytpfpokjaeffbjab.Scr
open Go.RowKit Go.Proofs.Ytpfpokjaeffbjab.Pl Go.Proofs.Ytpfpokjaeffbjab.Mem Go.Proofs.Ytpfpokjaeffbjab.Mpp Go.Proofs.Ytpfpokjaeffbjab.Spl Go.Proofs.Ytpfpokjaeffbjab.Ver Go.Proofs.Ytpfpokjaeffbjab.Grp
open Go.Proofs.Ytpfpokjaeffbjab.Sgn (Only SgAt SgIn ComsBut)
open Go.Proofs.Ytpfpokjaeffbjab.Rsg (RLoc RSg Moved own_moved)
set_option linter.unusedVariables false

theorem own_at {w : World} {base : Nat} {e : TypeId} {size n : Nat} {v : Value} {xs : List Value} (h : w.ownsRow base e size v n xs) {g : Nat} (hg : v.ownBlock = some g) : ∃ cur, w.heap[g]? = some (.cells cur e (0, 0)) := by
  rcases h.2 with ⟨rfl, _⟩ | ⟨g', cap, cur, rfl, _, hh, _⟩
  · cases hg
  · have : g' = g := by simpa [Value.ownBlock] using hg
    subst this
    exact ⟨cur, hh⟩
/-- A row that is no signer's by its type grew. -/
theorem AllAt.grown {w w' : World} {B : Nat} {ps : List Pr} (h : AllAt w B ps) {base : Nat} {e : TypeId} {size n : Nat} {v : Value} {xs : List Value} {cs : Array Value} {T : TypeId} (hown : w.ownsRow base e size v n xs) (hf : ofSigner e = false) (hg : (w.alloc (.cells cs T)).grownBy w' v.ownBlock) : AllAt w' B ps := by
  refine h.keep fun p hp k hk => ?_
  have hlt := (h.1 p hp).lt k hk
  rw [hg.block k (by simp; omega) (fun e' => ?_), heap_alloc_old w _ hlt]
  obtain ⟨cur, hcur⟩ := own_at hown e'.symm
  rw [(h.1 p hp).type hk hcur] at hf
  cases hf
theorem AllAt.set_ {w : World} {B : Nat} {ps : List Pr} (h : AllAt w B ps) {g : Nat} {T : TypeId} {C : Array Value} (hb : Blk w g T C) (hf : ofSigner T = false) (i : Nat) (u : Value) : AllAt (w.setCell ⟨g, i, none⟩ u) B ps :=
  h.free hb hf fun k _ hne => Below.heap_setCell w ⟨g, i, none⟩ u k hne
theorem Wd.pushS {w w4 : World} {B WB : Nat} {sv cv v' : Value} {ps : List Pr} {told : List Cm} {p : Pr} {cs : Array Value} (h : Wd w B WB sv cv ps told) (hat : AllAt w B (ps ++ [p]))
    (hown : w4.ownsRow B 132 2 v' (ps.length + 1) (prcs ps ++ prc p)) (hg : (w.alloc (.cells cs 132)).grownBy w4 sv.ownBlock) (hB : B ≤ w.heap.size) :
    Wd (w4.setCell ⟨WB, 0, none⟩ v') B WB v' cv (ps ++ [p]) told ∧ Below B w (w4.setCell ⟨WB, 0, none⟩ v') := by
  have hW := blk_grown h.wd h.ss (by decide) hg
  have hC := own_grown h.cs h.ss (by decide) hg
  have hA := (hat.grown h.ss (by decide) hg).set_ hW (by decide) 0 v'
  refine ⟨⟨hW.set_ 0 v', ?_, own_far hC hW (by decide) 0 v', hA, h.base, h.ok⟩, (below_grown (Below.refl _ _) h.ss hB hg).setCell h.base _⟩
  rw [List.length_append, List.length_singleton, prcs_append]
  have e : prcs [p] = prc p := by simp [prcs]
  rw [e]
  exact own_far hown hW (by decide) 0 v'
theorem Wd.pushC {w w4 : World} {B WB : Nat} {sv cv v' : Value} {ps : List Pr} {told : List Cm} {c : Cm} {cs : Array Value} (h : Wd w B WB sv cv ps told) (hc : Told c)
    (hown : w4.ownsRow B 37 3 v' (told.length + 1) (comCells told ++ [.int .i64 c.id, .int .u64 c.d, .int .u64 c.e])) (hg : (w.alloc (.cells cs 37)).grownBy w4 cv.ownBlock) (hB : B ≤ w.heap.size) :
    Wd (w4.setCell ⟨WB, 1, none⟩ v') B WB sv v' ps (told ++ [c]) ∧ Below B w (w4.setCell ⟨WB, 1, none⟩ v') := by
  have hW := blk_grown h.wd h.cs (by decide) hg
  have hC := own_grown h.ss h.cs (by decide) hg
  have hA := (h.at_.grown h.cs (by decide) hg).set_ hW (by decide) 1 v'
  refine ⟨⟨hW.set_ 1 v', own_far hC hW (by decide) 1 v', ?_, hA, h.base, fun i hi => ?_⟩, (below_grown (Below.refl _ _) h.cs hB hg).setCell h.base _⟩
  · rw [List.length_append, List.length_singleton, comCells_append, comCells_one]
    exact own_far hown hW (by decide) 1 v'
  · rw [List.length_append, List.length_singleton] at hi
    rw [List.getD_eq_getElem?_getD]
    rcases Nat.lt_or_ge i told.length with h1 | h1
    · rw [List.getElem?_append_left h1, ← List.getD_eq_getElem?_getD]; exact h.ok i h1
    · rw [List.getElem?_append_right h1, show i - told.length = 0 by omega]; exact hc
/-- A new signer's pair. -/
theorem new_pair {w1 w2 w3 : World} {B : Nat} {ps : List Pr} {a : Sgn.Loc} {r : RLoc} {s : St} (hat : AllAt w1 B ps) (hb2 : Below w1.heap.size w1 w2) (hx : SgAt w2 a s) (hxn : ∀ k ∈ a.foot, w1.heap.size ≤ k) (hb3 : Below w2.heap.size w2 w3) (hm : RSg w3 r s) (hmn : ∀ k ∈ r.foot, w2.heap.size ≤ k) (hok : Ok s) (hB : B ≤ w1.heap.size) :
    AllAt w3 B (ps ++ [⟨a, r, s⟩]) := by
  have hs2 := hb2.size
  have hmem : ∀ k ∈ (Pr.mk a r s).foot, w1.heap.size ≤ k := fun k hk => by
    rcases List.mem_append.1 hk with hk | hk
    · exact hxn k hk
    · have := hmn k hk; omega
  refine AllAt.push (X := w1.heap.size) (hat.later (hb2.trans (hb3.mono hs2))) ⟨hx.keep fun k hk => hb3.block k (hx.lt k hk), hm, hok, fun k hk => by have := hmem k hk; omega⟩ (fun q hq k hk => (hat.1 q hq).lt k hk) hmem
/-- A new signer's state. -/
theorem new_ok {t n : Int} {cs : List Int} {id share : Int} (h : newE t n cs id share = 0) (hs : 0 ≤ share) : Ok ⟨t, n, cs, id, share, []⟩ := by
  obtain ⟨h1, h2⟩ := newE_spec h
  obtain ⟨h3, h4, h5, h6⟩ := checkE_spec h1
  exact ⟨h3, h4, h5, hs, h6, by simp, fun q hq => absurd hq List.not_mem_nil, List.Pairwise.nil⟩
/-- The two sides share no block. -/
theorem PrAt.sep {w : World} {B : Nat} {p : Pr} (h : PrAt w B p) : ∀ k ∈ p.r.foot, k ∉ p.a.foot := by
  have hT : ∀ k ∈ p.r.foot, ∃ C T d, w.heap[k]? = some (.cells C T d) ∧ (T == 174 || T == 25 || T == 176) = true := fun k hk => by
    simp only [RLoc.foot, List.mem_cons, Option.mem_toList] at hk
    rcases hk with rfl | rfl | hk
    · exact ⟨_, _, _, h.m.sg, by decide⟩
    · obtain ⟨cur, hc⟩ := own_at h.m.own (g := p.r.gc) rfl
      exact ⟨_, _, _, hc, by decide⟩
    · obtain ⟨cur, hc⟩ := own_at h.m.prs hk
      exact ⟨_, _, _, hc, by decide⟩
  intro k hk hk'
  obtain ⟨C, T, d, hc, ht⟩ := hT k hk
  simp only [Sgn.Loc.foot, List.mem_cons, List.not_mem_nil, or_false] at hk'
  rcases hk' with rfl | rfl | rfl | rfl
  · rw [← blk_type h.x.sg hc] at ht; revert ht; decide
  · obtain ⟨C', hC, -⟩ := h.x.grp
    rw [← blk_type hC hc] at ht; revert ht; decide
  · rw [← own_type h.x.own rfl hc] at ht; revert ht; decide
  · obtain ⟨es, cl, hM, -⟩ := h.x.map
    rw [hM] at hc; cases hc
theorem PrAt.off {w : World} {B : Nat} {p : Pr} (h : PrAt w B p) {k : Nat} {T : TypeId} {C : Array Value} (hT : Blk w k T C) (hf : ofSigner T = false) : k ∉ p.foot := fun hk => by
  rw [h.type hk hT] at hf; cases hf
theorem PrAt.rest {w w' : World} {B : Nat} {p : Pr} (h : PrAt w B p) (ho : Only p.a.foot w w') : RSg w' p.r p.s :=
  h.m.keep fun k hk => ho.block k (h.m.lt k hk) (h.sep k hk)
theorem Only.more {X Y : List Nat} {w w' : World} (h : Only X w w') (hs : ∀ k ∈ X, k ∈ Y) : Only Y w w' := ⟨h.os, h.tape, h.output, h.size, fun k hk hn => h.block k hk (fun h' => hn (hs k h'))⟩
/-- Above the base, all is new. -/
theorem PrAt.below {w w' : World} {B : Nat} {p : Pr} (h : PrAt w B p) (hB : B ≤ w.heap.size) (ho : Only p.foot w w') : Below B w w' :=
  ⟨ho.os, ho.tape, ho.output, ho.size, fun k hk => ho.block k (by omega) (fun hk' => by have := h.base k hk'; omega)⟩
/-- A step's end, a signer turned. -/
theorem step_end {w W13 w' : World} {B WB i : Nat} {sv cv : Value} {ps : List Pr} {told : List Cm} {p p' : Pr} (h : Wd W13 B WB sv cv ps told) (hi : ps[i]? = some p) (hw : Below w.heap.size w W13) (hB : B ≤ w.heap.size) (ho : Only p.foot W13 w') (hx : SgAt w' p'.a p'.s) (hm : RSg w' p'.r p'.s) (hok : Ok p'.s)
    (ha : p'.a = p.a) (hS : p'.r.S = p.r.S) (hr : ∀ k ∈ p'.r.foot, k ∈ p.r.foot ∨ W13.heap.size ≤ k) :
    Wd w' B WB sv cv (ps.set i p') told ∧ Below B w w' := by
  have hp := h.at_.1 p (List.mem_of_getElem? hi)
  have hws := hw.size
  have hn : ∀ k ∈ p'.foot, k ∈ p.foot ∨ W13.heap.size ≤ k := fun k hk => by
    rcases List.mem_append.1 hk with hk | hk
    · rw [ha] at hk; exact .inl (List.mem_append_left _ hk)
    · rcases hr k hk with h1 | h1
      · exact .inl (List.mem_append_right _ h1)
      · exact .inr h1
  have hpb : PrAt w' B p' := ⟨hx, hm, hok, fun k hk => by
    rcases hn k hk with h1 | h1
    · exact hp.base k h1
    · omega⟩
  exact ⟨h.upd hi ho hpb hn (by rw [ha]) hS, (hw.mono hB).trans (hp.below (by omega) ho)⟩
theorem a_in {p : Pr} : ∀ k ∈ p.a.foot, k ∈ p.foot := fun k hk => List.mem_append_left _ hk
theorem r_in {p : Pr} : ∀ k ∈ p.r.foot, k ∈ p.foot := fun k hk => List.mem_append_right _ hk
/-- Both sides have committed. -/
theorem both_end {w W13 W14 W15 W16 W17 : World} {B WB i : Nat} {sv cv : Value} {ps : List Pr} {told : List Cm} {p : Pr} {s' : St} (h : Wd W13 B WB sv cv ps told) (hi : ps[i]? = some p) (hw : Below w.heap.size w W13) (hB : B ≤ w.heap.size) (hx : SgAt W14 p.a s') (ho : Only p.a.foot W13 W14) (hb : Below W14.heap.size W14 W15)
    (hm : Moved W15 W16 p.r s') (hb2 : Below W16.heap.size W16 W17) (hok : Ok s') :
    ∃ ps', Wd W17 B WB sv cv ps' told ∧ Below B w W17 ∧ Only p.foot W13 W17 ∧ ps'.length = ps.length := by
  obtain ⟨pv, hr, hor, hpv⟩ := hm
  have hp := h.at_.1 p (List.mem_of_getElem? hi)
  have hO : Only p.foot W13 W17 := (((Only.more ho a_in).then_ hb).trans (Only.more hor r_in)).then_ hb2
  have hx17 : SgAt W17 p.a s' := by
    refine hx.keep fun k hk => ?_
    have hlt := hx.lt k hk
    have hkr : k ∉ p.r.foot := fun h' => hp.sep k h' hk
    have h1 := hb.block k hlt
    have h2 := hor.block k (Nat.lt_of_lt_of_le hlt hb.size) hkr
    have h3 := hb2.block k (Nat.lt_of_lt_of_le (Nat.lt_of_lt_of_le hlt hb.size) hor.size)
    exact h3.trans (h2.trans h1)
  obtain ⟨k1, k2⟩ := step_end (p' := ⟨p.a, { p.r with pv := pv }, s'⟩) h hi hw hB hO hx17 (hr.later hb2) hok rfl rfl (fun k hk => by
    have hk' : k = p.r.S ∨ k = p.r.gc ∨ pv.ownBlock = some k := by simpa [RLoc.foot] using hk
    have hs := ho.size
    have hs2 := hb.size
    rcases hk' with rfl | rfl | hk'
    · exact .inl (Rsg.S_in _)
    · exact .inl (Rsg.gc_in _)
    · rcases hpv k hk' with h1 | h1
      · exact .inl (Rsg.pv_in h1)
      · exact .inr (by omega))
  exact ⟨_, k1, k2, hO, List.length_set⟩
end Go.Proofs.Ytpfpokjaeffbjab.Scr
