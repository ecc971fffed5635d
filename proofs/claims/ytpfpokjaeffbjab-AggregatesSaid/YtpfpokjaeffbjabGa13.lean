/- Part of the proof: Wg, Wg2, Row. -/
import Derived.Test.YtpfpokjaeffbjabGa12
namespace Go.Proofs.Ytpfpokjaeffbjab.Cc
open Go.Conc Go.ConcN
open Go.ConcR (KK wgBlock WgAt stA smA rd wr mk DC0)
open Go.ConcM (OsLater)
set_option linter.unusedVariables false
theorem deaf_pre {t : Trace} {i : Nat} {fn : FuncId} {pos : String} {es : Array Event} {k : Nat} (hk : k ≤ es.size) : (t ++ MemOp.ofEvents i fn pos es).deaf i (t.size + k) = deafBehind (Deaf t i) (es.extract 0 k) := by
  have e : es = es.extract 0 k ++ es.extract k es.size := by
    rw [Array.extract_append_extract, Nat.max_eq_right hk]
    simp
  have e2 : t ++ MemOp.ofEvents i fn pos es = (t ++ MemOp.ofEvents i fn pos (es.extract 0 k)) ++ MemOp.ofEvents i fn pos (es.extract k es.size) := by
    rw [Array.append_assoc]
    congr 1
    rw [ofEvents_eq, ofEvents_eq, ofEvents_eq, ← Array.map_append, ← e]
  have hs : (t ++ MemOp.ofEvents i fn pos (es.extract 0 k)).size = t.size + k := by
    rw [ofEvents_eq, Array.size_append, Array.size_map, Array.size_extract]
    omega
  rw [e2, deaf_old (by rw [hs]; exact Nat.le_refl _), ← hs]
  exact Deaf_own t i fn pos _
def WgEv (s : Scene) (d : Nat) (es : Array Event) : Prop := ∀ (k : Nat) (e : Event), es[k]? = some e → e.mute = true ∨ ((∃ off y, e = ⟨ca s.Wg off, y, true⟩ ∧ off < 2) ∧ 0 < deafBehind d (es.extract 0 k))
theorem cntW_upd {p : WG → Bool} {γ γ' : Gho} {s : Scene} {i : Nat} (hi : s.n0 ≤ i) (hi2 : i < s.n0 + s.n) (hw : ∀ j, j ≠ i → (γ'.wk j).wg = (γ.wk j).wg) : cntW p γ' s + (if p (γ.wk i).wg = true then 1 else 0) = cntW p γ s + if p (γ'.wk i).wg = true then 1 else 0 := by
  unfold cntW
  have key : ∀ (l : List Nat), l.Nodup → (∀ k ∈ l, True) → (l.countP fun k => p (γ'.wk (s.n0 + k)).wg) + (if (i - s.n0) ∈ l then (if p (γ.wk i).wg = true then 1 else 0) else 0) = (l.countP fun k => p (γ.wk (s.n0 + k)).wg) + if (i - s.n0) ∈ l then (if p (γ'.wk i).wg = true then 1 else 0) else 0 := by
    intro l hl _
    induction l with
    | nil => simp
    | cons k l ih =>
      rw [List.nodup_cons] at hl
      have := ih hl.2 (fun _ _ => trivial)
      rw [List.countP_cons, List.countP_cons]
      by_cases e : k = i - s.n0
      · subst e
        have hni : ¬ (i - s.n0) ∈ l := hl.1
        have hei : s.n0 + (i - s.n0) = i := by omega
        simp only [hni, if_false, List.mem_cons, true_or, if_true, hei] at this ⊢
        omega
      · have hne : s.n0 + k ≠ i := by omega
        have hmem : (i - s.n0) ∈ k :: l ↔ (i - s.n0) ∈ l := by simp [Ne.symm e]
        simp only [hmem, hw _ hne]
        omega
  have h := key (List.range s.n) List.nodup_range (fun _ _ => trivial)
  have hm : (i - s.n0) ∈ List.range s.n := List.mem_range.2 (by omega)
  simp only [hm, if_true] at h
  exact h
theorem psi_upd {γ γ' : Gho} {s : Scene} {i : Nat} (hi : s.n0 ≤ i) (hi2 : i < s.n0 + s.n) (hw : ∀ j, j ≠ i → (γ'.wk j).wg = (γ.wk j).wg) : psi γ' s + (γ.wk i).wg.cr = psi γ s + (γ'.wk i).wg.cr := by
  unfold psi
  have key : ∀ (l : List Nat), l.Nodup → (l.map fun k => (γ'.wk (s.n0 + k)).wg.cr).sum + (if (i - s.n0) ∈ l then (γ.wk i).wg.cr else 0) = (l.map fun k => (γ.wk (s.n0 + k)).wg.cr).sum + if (i - s.n0) ∈ l then (γ'.wk i).wg.cr else 0 := by
    intro l hl
    induction l with
    | nil => simp
    | cons k l ih =>
      rw [List.nodup_cons] at hl
      have := ih hl.2
      simp only [List.map_cons, List.sum_cons]
      by_cases e : k = i - s.n0
      · subst e
        have hni : ¬ (i - s.n0) ∈ l := hl.1
        have hei : s.n0 + (i - s.n0) = i := by omega
        simp only [hni, if_false, List.mem_cons, true_or, if_true, hei] at this ⊢
        omega
      · have hne : s.n0 + k ≠ i := by omega
        have hmem : (i - s.n0) ∈ k :: l ↔ (i - s.n0) ∈ l := by simp [Ne.symm e]
        simp only [hmem, hw _ hne]
        omega
  have h := key (List.range s.n) List.nodup_range
  have hm : (i - s.n0) ∈ List.range s.n := List.mem_range.2 (by omega)
  simp only [hm, if_true] at h
  exact h
section
variable {q : Prm} {i : Nat} {s : Scene} {x : Wk}
theorem SceneC.wgs {st : St Gho} (c : SceneC q s st) (hA : At s i x st) {w₁ : WG} {df₁ : Nat} {gs₁ gm₁ : Nat} {w' : World} {t : Trace} (n1 : w₁ ≠ .work) (n2 : w₁ ≠ .idle) (hb : ∀ b, b ≠ s.Wg → w'.heap[b]? = st.w.heap[b]?) (hW : WgAt q.tW s.Wg w' gs₁ gm₁)
    (hfin : x.zw = true ∧ x.rw = true ∧ (x.mx = .fresh ∨ x.mx = .out))
    (hL : WgL st.γ.mw (cntW WG.cd { st.γ with wk := upd st.γ.wk i { x with wg := w₁, df := df₁ }, gs := gs₁, gm := gm₁ } s) (cntW (· == .d2) { st.γ with wk := upd st.γ.wk i { x with wg := w₁, df := df₁ }, gs := gs₁, gm := gm₁ } s) (cntW (· == .d3) { st.γ with wk := upd st.γ.wk i { x with wg := w₁, df := df₁ }, gs := gs₁, gm := gm₁ } s) (cntW (· == .d4) { st.γ with wk := upd st.γ.wk i { x with wg := w₁, df := df₁ }, gs := gs₁, gm := gm₁ } s) gs₁ gm₁) :
    SceneC q s ⟨w', t, { st.γ with wk := upd st.γ.wk i { x with wg := w₁, df := df₁ }, gs := gs₁, gm := gm₁ }⟩ := by
  have at_ : ∀ j, upd st.γ.wk i { x with wg := w₁, df := df₁ } j = if j = i then { x with wg := w₁, df := df₁ } else st.γ.wk j := fun j => rfl
  have hmx : ∀ j, (upd st.γ.wk i { x with wg := w₁, df := df₁ } j).mx = (st.γ.wk j).mx := fun j => by
    rw [at_]; split
    · rename_i e; subst e; rw [hA.me]
    · rfl
  have hzw : ∀ j, (upd st.γ.wk i { x with wg := w₁, df := df₁ } j).zw = (st.γ.wk j).zw := fun j => by
    rw [at_]; split
    · rename_i e; subst e; rw [hA.me]
    · rfl
  have hrw : ∀ j, (upd st.γ.wk i { x with wg := w₁, df := df₁ } j).rw = (st.γ.wk j).rw := fun j => by
    rw [at_]; split
    · rename_i e; subst e; rw [hA.me]
    · rfl
  have hsyn : ∀ j, (upd st.γ.wk i { x with wg := w₁, df := df₁ } j).syn = (st.γ.wk j).syn := fun j => by
    rw [at_]; split
    · rename_i e; subst e; rw [hA.me]
    · rfl
  have hwn : ∀ j, j ≠ i → upd st.γ.wk i { x with wg := w₁, df := df₁ } j = st.γ.wk j := fun j hj => by rw [at_, if_neg hj]
  have hwi : upd st.γ.wk i { x with wg := w₁, df := df₁ } i = { x with wg := w₁, df := df₁ } := by rw [at_, if_pos rfl]
  have hmm : ({ st.γ with wk := upd st.γ.wk i { x with wg := w₁, df := df₁ }, gs := gs₁, gm := gm₁ } : Gho).mm = st.γ.mm := funext fun j => hmx j
  exact {
    n0 := c.n0
    gb := c.gb.of (hb _ c.ne.1) rfl ⟨rfl, rfl, rfl, rfl⟩ rfl
    wgb := hW
    zb := by
      obtain ⟨Z, z1, z2, z3, z4⟩ := c.zb
      exact ⟨Z, (hb _ c.ne.2.2.2.1.symm).trans z1, z2, z3, fun k k1 k2 => z4 k k1 ((hzw _).symm.trans k2)⟩
    rb := by
      obtain ⟨Z, z1, z2, z3, z4⟩ := c.rb
      exact ⟨Z, (hb _ c.ne.2.2.2.2.1.symm).trans z1, z2, z3, fun k k1 k2 => z4 k k1 ((hrw _).symm.trans k2)⟩
    ne := c.ne
    mu := by have := c.mu; rw [← hmm] at this; exact this
    D1 := c.D1
    work := fun j hj => c.work j ((hmx j).symm.trans hj)
    dn := fun j hj => c.dn j ((hmx j).symm.trans hj)
    syn := fun j h0 hj => c.syn j h0 ((hsyn j).symm.trans hj)
    new := fun j hj => by
      have hne : j ≠ i := by have := hA.lt; have hj : st.γ.num ≤ j := hj; omega
      show upd st.γ.wk i _ j = _
      rw [hwn j hne]; exact c.new j hj
    on := fun j h1 h2 => by
      show (upd st.γ.wk i _ j).wg ≠ _
      by_cases e : j = i
      · rw [e, hwi]; exact n2
      · rw [hwn j e]; exact c.on j h1 h2
    fin := fun j h1 h2 h3 => by
      have h2 : (upd st.γ.wk i { x with wg := w₁, df := df₁ } j).wg ≠ .idle := h2
      have h3 : (upd st.γ.wk i { x with wg := w₁, df := df₁ } j).wg ≠ .work := h3
      show (upd st.γ.wk i { x with wg := w₁, df := df₁ } j).zw = true ∧ (upd st.γ.wk i { x with wg := w₁, df := df₁ } j).rw = true ∧ ((upd st.γ.wk i { x with wg := w₁, df := df₁ } j).mx = .fresh ∨ (upd st.γ.wk i { x with wg := w₁, df := df₁ } j).mx = .out)
      by_cases e : j = i
      · rw [e, hwi]; exact hfin
      · rw [hwn j e] at h2 h3 ⊢; exact c.fin j h1 h2 h3
    all := c.all
    wgl := hL }
theorem SceneP.wgs {st : St Gho} (p : SceneP s st.γ) (hA : At s i x st) {w₁ : WG} {df₁ : Nat} {gs₁ gm₁ : Nat} (n1 : w₁ ≠ .work) : SceneP s { st.γ with wk := upd st.γ.wk i { x with wg := w₁, df := df₁ }, gs := gs₁, gm := gm₁ } := by
  have at_ : ∀ j, upd st.γ.wk i { x with wg := w₁, df := df₁ } j = if j = i then { x with wg := w₁, df := df₁ } else st.γ.wk j := fun j => rfl
  have hmx : ∀ j, (upd st.γ.wk i { x with wg := w₁, df := df₁ } j).mx = (st.γ.wk j).mx := fun j => by
    rw [at_]; split
    · rename_i e; subst e; rw [hA.me]
    · rfl
  have hsyn : ∀ j, (upd st.γ.wk i { x with wg := w₁, df := df₁ } j).syn = (st.γ.wk j).syn := fun j => by
    rw [at_]; split
    · rename_i e; subst e; rw [hA.me]
    · rfl
  refine ⟨p.spec, fun k k1 k2 k3 => p.exZ k k1 k2 ?_, p.exM, p.rdG, p.shG, fun j hj => p.exS j ((hmx j).symm.trans hj), fun j h0 hj => p.rdS j h0 ((hsyn j).symm.trans hj), fun hn => p.noS fun j hj => hn j ((hmx j).trans hj)⟩
  have k3 : (upd st.γ.wk i { x with wg := w₁, df := df₁ } (s.n0 + k)).wg = .work := k3
  rw [at_] at k3
  split at k3
  · exact absurd k3 n1
  · exact k3
theorem Inv.wgs {st : St Gho} (h : Inv q st) (hA : At s i x st) (hx : x.wg ≠ .work) {w₁ : WG} {gs₁ gm₁ : Nat} {es : Array Event} {w' : World} (n1 : w₁ ≠ .work) (n2 : w₁ ≠ .idle) (n3 : w₁ ≠ .gone) (hx1 : x.wg ≠ .idle)
    (hev : WgEv s x.df es) (hsz : w'.heap.size = st.w.heap.size) (hb : ∀ b, b ≠ s.Wg → w'.heap[b]? = st.w.heap[b]?) (hos : OsLater st.w.os w'.os) (hout : w'.output = st.w.output) (hW : WgAt q.tW s.Wg w' gs₁ gm₁)
    (hcr : w₁.cr < x.wg.cr) {df₁ : Nat} (hdf : df₁ = deafBehind x.df es)
    (hL : WgL st.γ.mw (cntW WG.cd { st.γ with wk := upd st.γ.wk i { x with wg := w₁, df := df₁ }, gs := gs₁, gm := gm₁ } s) (cntW (· == .d2) { st.γ with wk := upd st.γ.wk i { x with wg := w₁, df := df₁ }, gs := gs₁, gm := gm₁ } s) (cntW (· == .d3) { st.γ with wk := upd st.γ.wk i { x with wg := w₁, df := df₁ }, gs := gs₁, gm := gm₁ } s) (cntW (· == .d4) { st.γ with wk := upd st.γ.wk i { x with wg := w₁, df := df₁ }, gs := gs₁, gm := gm₁ } s) gs₁ gm₁) (fn : FuncId) (pos : String) :
    Inv q ⟨w', st.t ++ MemOp.ofEvents i fn pos es, { st.γ with wk := upd st.γ.wk i { x with wg := w₁, df := df₁ }, gs := gs₁, gm := gm₁ }⟩ ∧ ∀ j, j ≠ i → Rl j st ⟨w', st.t ++ MemOp.ofEvents i fn pos es, { st.γ with wk := upd st.γ.wk i { x with wg := w₁, df := df₁ }, gs := gs₁, gm := gm₁ }⟩ := by
  subst hdf
  have X := h.scene s hA.sc
  have c := X.c
  have hi2 := hA.hi h
  have hfin := c.fin i hA.lo (by rw [hA.me]; exact hx1) (by rw [hA.me]; exact hx)
  rw [hA.me] at hfin
  have hmx : ∀ j, (upd st.γ.wk i { x with wg := w₁, df := deafBehind x.df es } j).mx = (st.γ.wk j).mx := fun j => by
    unfold upd; split
    · rename_i e; subst e; rw [hA.me]
    · rfl
  have hwn : ∀ j, j ≠ i → upd st.γ.wk i { x with wg := w₁, df := deafBehind x.df es } j = st.γ.wk j := fun j hj => upd_ne _ _ hj
  have hwi : upd st.γ.wk i { x with wg := w₁, df := deafBehind x.df es } i = { x with wg := w₁, df := deafBehind x.df es } := upd_self _ _ _
  have hmm : ({ st.γ with wk := upd st.γ.wk i { x with wg := w₁, df := deafBehind x.df es }, gs := gs₁, gm := gm₁ } : Gho).mm = st.γ.mm := funext fun j => hmx j
  have hps := psi_upd (γ := st.γ) (γ' := { st.γ with wk := upd st.γ.wk i { x with wg := w₁, df := deafBehind x.df es }, gs := gs₁, gm := gm₁ }) hA.lo hi2 (fun j hj => congrArg Wk.wg (hwn j hj))
  have e1 : (({ st.γ with wk := upd st.γ.wk i { x with wg := w₁, df := deafBehind x.df es }, gs := gs₁, gm := gm₁ } : Gho).wk i).wg = w₁ := congrArg Wk.wg hwi
  rw [e1, hA.me] at hps
  have hp : pot (Gho.mm { st.γ with wk := upd st.γ.wk i { x with wg := w₁, df := deafBehind x.df es }, gs := gs₁, gm := gm₁ }) s.n0 s.n (st.γ.tn + st.γ.th) = phi st.γ s := by rw [hmm]; rfl
  have hdeaf : Deaf st.t i = x.df := by rw [h.base.dfw i (by have := hA.ne; omega) hA.lt, hA.me]
  refine h.act hA.sc hA.mem (γ' := { st.γ with wk := upd st.γ.wk i { x with wg := w₁, df := deafBehind x.df es }, gs := gs₁, gm := gm₁ }) ⟨rfl, rfl, rfl, rfl, rfl, rfl⟩ (fun e he => ?_) (fun e he => ?_) hsz (fun b _ hb' => hb b hb') (fun off _ _ => cell_of (hb _ c.ne.1)) hos hout hwn (fun _ => ⟨rfl, rfl⟩) (fun e => absurd e hA.ne) (fun _ => ?_) ?_ (X.p.wgs hA n1) rfl (fun hn j hj => hn j ((hmx j).trans hj)) (fun _ _ => by rw [hA.me]; exact hx) (fun _ _ k hk hg => ?_) ?_ (fun _ => ⟨by omega, fun e => by omega⟩) (.inl (Nat.le_refl _))
  · obtain ⟨k, hk⟩ := Array.mem_iff_getElem?.1 he
    rcases hev k e hk with hm | ⟨⟨off, y, rfl, ho⟩, _⟩
    · obtain ⟨l, w, sy⟩ := e
      cases l with
      | mark m => cases m <;> first | (cases hm; done) | exact .inr (.inl ⟨_, rfl, by simp, by simp, by simp⟩)
      | _ => cases hm
    · exact .inl ⟨_, _, _, rfl, .inr ⟨rfl, ho⟩⟩
  · obtain ⟨k, hk⟩ := Array.mem_iff_getElem?.1 he
    rcases hev k e hk with hm | ⟨⟨off, y, rfl, ho⟩, _⟩
    · intro e'; subst e'; cases hm
    · intro e'
      have : s.Wg = s.Gb := by unfold ca at e'; simp at e'; exact e'.1.1
      exact c.ne.1 this.symm
  · exact ⟨(congrArg Wk.df hwi).trans (by rw [hA.me]), fun e => n3 (e1.symm.trans e)⟩
  · exact c.wgs hA n1 n2 hb hW hfin hL
  · have tch : ∀ y, touchAt (st.t ++ MemOp.ofEvents i fn pos es) k = some y → y.kind = .atomic ∧ (∃ off, y.loc = ca s.Wg off) ∧ (st.t ++ MemOp.ofEvents i fn pos es).deaf i k ≠ 0 := by
      intro y hy
      obtain ⟨op, ho, hop⟩ := touch_of hy
      rcases getElem?_append_cases ho with ⟨hlt, _⟩ | ⟨hge, hou⟩
      · omega
      · have hk' : (MemOp.ofEvents i fn pos es)[k - st.t.size]? = some op := by
          rw [Array.getElem?_append_right hk] at ho; exact ho
        rw [ofEvents_eq, Array.getElem?_map] at hk'
        obtain ⟨e, he, rfl⟩ := Option.map_eq_some_iff.1 hk'
        rcases hev _ e he with hm | ⟨⟨off, z, rfl, ho'⟩, hd⟩
        · rw [(mute_touch hm).1] at hop; cases hop
        · cases hop
          refine ⟨rfl, ⟨off, rfl⟩, ?_⟩
          have hlt := (Array.getElem?_eq_some_iff.1 he).1
          have := deaf_pre (t := st.t) (i := i) (fn := fn) (pos := pos) (es := es) (k := k - st.t.size) (Nat.le_of_lt hlt)
          rw [show st.t.size + (k - st.t.size) = k by omega, hdeaf] at this
          omega
    refine ⟨fun ⟨y, hy, hm, hc⟩ => ?_, fun y hy => ?_⟩
    · have hy' : touchAt (st.t ++ MemOp.ofEvents i fn pos es) k = some y := hy
      obtain ⟨a, _, b⟩ := tch y hy'
      rcases hc with hc | hc
      · exact hc a
      · obtain ⟨g, hg', hd'⟩ := hc
        rw [hg] at hg'; cases hg'
        exact b hd'
    · obtain ⟨_, ⟨off, ho⟩, _⟩ := tch y hy
      rw [ho]; rfl
  · exact ⟨by show pot _ _ _ _ ≤ _; rw [hp]; exact Nat.le_refl _, fun _ => ⟨rfl, rfl, rfl, rfl⟩⟩
theorem wgev_mute {d : Nat} {es : Array Event} (h : ∀ e ∈ es, Event.mute e = true) : WgEv s d es := fun k e hk => .inl (h e (Array.mem_of_getElem? hk))
theorem wgev_atoms {d : Nat} {es : Array Event} (hd : 0 < d) (h : ∀ e ∈ es, ∃ off y, e = ⟨ca s.Wg off, y, true⟩ ∧ off < 2) : WgEv s d es := fun k e hk => by
  refine .inr ⟨h e (Array.mem_of_getElem? hk), ?_⟩
  rw [deafBehind_quiet]
  · exact hd
  · intro e' he'
    obtain ⟨off, y, rfl, _⟩ := h e' (by
      obtain ⟨j, hj⟩ := Array.mem_iff_getElem?.1 he'
      rw [Array.getElem?_extract] at hj
      split at hj
      · exact Array.mem_of_getElem? hj
      · cases hj)
    exact ⟨by unfold ca; simp, by unfold ca; simp⟩
theorem wgev_sem {d : Nat} : WgEv s d (semEvents (smA s.Wg)) := fun k e hk => by
  unfold semEvents at hk ⊢
  match k, hk with
  | 0, hk => simp at hk; subst hk; exact .inl rfl
  | 1, hk =>
    simp at hk; subst hk
    exact .inr ⟨⟨1, false, rfl, by omega⟩, by simp [deafBehind]⟩
  | 2, hk =>
    simp at hk; subst hk
    exact .inr ⟨⟨1, true, rfl, by omega⟩, by simp [deafBehind]⟩
  | 3, hk => simp at hk; subst hk; exact .inl rfl
  | k + 4, hk => simp at hk
end
end Go.Proofs.Ytpfpokjaeffbjab.Cc
namespace Go.Proofs.Ytpfpokjaeffbjab.Cc
open Go.Conc Go.ConcN
open Go.ConcR (KK wgBlock WgAt stA smA rd wr mk DC0)
open Go.ConcM (OsLater)
set_option linter.unusedVariables false
section
variable {q : Prm} {i : Nat} {s : Scene} {x : Wk}
theorem wg_counts {st : St Gho} (hI : Inv q st) (hA : At s i x st) {w₁ : WG} {df₁ gs₁ gm₁ : Nat} (p : WG → Bool) : cntW p { st.γ with wk := upd st.γ.wk i { x with wg := w₁, df := df₁ }, gs := gs₁, gm := gm₁ } s + (if p x.wg = true then 1 else 0) = cntW p st.γ s + if p w₁ = true then 1 else 0 := by
  have := cntW_upd (p := p) (γ := st.γ) (γ' := { st.γ with wk := upd st.γ.wk i { x with wg := w₁, df := df₁ }, gs := gs₁, gm := gm₁ }) hA.lo (hA.hi hI) (fun j hj => congrArg Wk.wg (upd_ne _ _ hj))
  rw [hA.me] at this
  rw [this]
  show _ + (if p (upd st.γ.wk i { x with wg := w₁, df := df₁ } i).wg = true then 1 else 0) = _
  rw [upd_self]
theorem relDone {st : St Gho} (hI : Inv q st) (hA : At s i x st) (hx : x.wg = .work) : WgL st.γ.mw (cntW WG.cd { st.γ with wk := upd st.γ.wk i { x with wg := .rel, df := x.df }, gs := st.γ.gs, gm := st.γ.gm } s) (cntW (· == .d2) { st.γ with wk := upd st.γ.wk i { x with wg := .rel, df := x.df }, gs := st.γ.gs, gm := st.γ.gm } s) (cntW (· == .d3) { st.γ with wk := upd st.γ.wk i { x with wg := .rel, df := x.df }, gs := st.γ.gs, gm := st.γ.gm } s) (cntW (· == .d4) { st.γ with wk := upd st.γ.wk i { x with wg := .rel, df := x.df }, gs := st.γ.gs, gm := st.γ.gm } s) st.γ.gs st.γ.gm := by
  have h := (hI.scene s hA.sc).c.wgl
  have c1 := wg_counts hI hA (w₁ := .rel) (df₁ := x.df) (gs₁ := st.γ.gs) (gm₁ := st.γ.gm) WG.cd
  have c2 := wg_counts hI hA (w₁ := .rel) (df₁ := x.df) (gs₁ := st.γ.gs) (gm₁ := st.γ.gm) (· == .d2)
  have c3 := wg_counts hI hA (w₁ := .rel) (df₁ := x.df) (gs₁ := st.γ.gs) (gm₁ := st.γ.gm) (· == .d3)
  have c4 := wg_counts hI hA (w₁ := .rel) (df₁ := x.df) (gs₁ := st.γ.gs) (gm₁ := st.γ.gm) (· == .d4)
  rw [hx] at c1 c2 c3 c4
  simp [WG.cd] at c1 c2 c3 c4
  rw [c1, c2, c3, c4]
  exact h
theorem Inv.rel {st : St Gho} (h : Inv q st) (hA : At s i x st) (hx : x.wg = .work) (hdf : x.df = 0) (hz : x.zw = true) (hr : x.rw = true) (hm : x.mx = .fresh ∨ x.mx = .out) (fn : FuncId) (pos : String) :
    Inv q ⟨st.w, st.t ++ MemOp.ofEvents i fn pos #[⟨.mark (.releaseMerge (stA s.Wg)), false, true⟩], { st.γ with wk := upd st.γ.wk i { x with wg := .rel, df := x.df }, gs := st.γ.gs, gm := st.γ.gm }⟩ ∧ ∀ j, j ≠ i → Rl j st ⟨st.w, st.t ++ MemOp.ofEvents i fn pos #[⟨.mark (.releaseMerge (stA s.Wg)), false, true⟩], { st.γ with wk := upd st.γ.wk i { x with wg := .rel, df := x.df }, gs := st.γ.gs, gm := st.γ.gm }⟩ := by
  obtain ⟨c, p, t⟩ := h.scene s hA.sc
  have A := h.base.tr.apt
  have hi2 := hA.hi h
  have hmx : ∀ j, (upd st.γ.wk i { x with wg := .rel, df := x.df } j).mx = (st.γ.wk j).mx := fun j => by
    unfold upd; split
    · rename_i e; subst e; rw [hA.me]
    · rfl
  have hwn : ∀ j, j ≠ i → upd st.γ.wk i { x with wg := .rel, df := x.df } j = st.γ.wk j := fun j hj => upd_ne _ _ hj
  have hwi : upd st.γ.wk i { x with wg := .rel, df := x.df } i = { x with wg := .rel, df := x.df } := upd_self _ _ _
  have hmm : ({ st.γ with wk := upd st.γ.wk i { x with wg := .rel, df := x.df }, gs := st.γ.gs, gm := st.γ.gm } : Gho).mm = st.γ.mm := funext fun j => hmx j
  have hps := psi_upd (γ := st.γ) (γ' := { st.γ with wk := upd st.γ.wk i { x with wg := .rel, df := x.df }, gs := st.γ.gs, gm := st.γ.gm }) hA.lo hi2 (fun j hj => congrArg Wk.wg (hwn j hj))
  rw [show ({ st.γ with wk := upd st.γ.wk i { x with wg := .rel, df := x.df }, gs := st.γ.gs, gm := st.γ.gm } : Gho).wk i = { x with wg := .rel, df := x.df } from hwi, hA.me, hx] at hps
  replace hps : psi { st.γ with wk := upd st.γ.wk i { x with wg := .rel, df := x.df }, gs := st.γ.gs, gm := st.γ.gm } s + 8 = psi st.γ s + 7 := hps
  have nt : ∀ {e : Event}, e ∈ (#[⟨.mark (.releaseMerge (stA s.Wg)), false, true⟩] : Array Event) → (MemAct.ofEvent e).touch? = none ∧ e = ⟨.mark (.releaseMerge (stA s.Wg)), false, true⟩ := by
    intro e he
    simp at he
    subst he
    exact ⟨rfl, rfl⟩
  have hops : ∀ op ∈ MemOp.ofEvents i fn pos #[⟨.mark (.releaseMerge (stA s.Wg)), false, true⟩], op.g = i ∧ op.act.touch? = none := fun op ho => by obtain ⟨e, he, rfl⟩ := mem_ops ho; exact ⟨rfl, (nt he).1⟩
  refine h.gen hA.sc hA.mem (γ' := { st.γ with wk := upd st.γ.wk i { x with wg := .rel, df := x.df }, gs := st.γ.gs, gm := st.γ.gm }) rfl rfl (fun _ => .rfl) (fun e he y hy => by rw [(nt he).1] at hy; cases hy) (fun e he a => by rw [(nt he).2]; simp) (fun _ e he y hy => by rw [(nt he).1] at hy; cases hy) (fun T => T) (fun j hj l => ⟨id, id⟩) h.base.pool rfl (fun b => .inl rfl) (.refl _) rfl hwn (fun _ => ⟨rfl, rfl⟩) (fun e => absurd e hA.ne) (fun _ => ?_) (c.wgs hA (by simp) (by simp) (fun _ _ => rfl) c.wgb ⟨hz, hr, hm⟩ (relDone h hA hx)) (p.wgs hA (by simp)) ?_ ?_ (fun _ => ⟨by omega, fun _ => rfl⟩) (fun j hj e => ⟨rfl, fun _ _ _ => rfl⟩) (.inl (Nat.le_refl _))
  · refine ⟨(congrArg Wk.df hwi).trans ?_, fun e => ?_⟩
    · rw [hA.me]
      exact (deafBehind_quiet fun e he => by rw [(nt he).2]; simp).symm
    · have := (congrArg Wk.wg hwi).symm.trans e
      cases this
  · have T : SceneT s ⟨st.w, st.t ++ MemOp.ofEvents i fn pos #[⟨.mark (.releaseMerge (stA s.Wg)), false, true⟩], st.γ⟩ := t.app (fun op ho => (hops op ho).1) rfl rfl id (fun _ _ _ h => h) (fun op ho y hy => by rw [(hops op ho).2] at hy; cases hy) fun _ hw => absurd (by rw [hA.me]; exact hx) hw
    refine ⟨fun h0 h1 => T.sh0 h0 fun j hj => h1 j ((hmx j).trans hj), T.sh1, fun j hj hj2 hw => ?_⟩
    by_cases e : j = i
    · subst e
      have hact : (st.t ++ MemOp.ofEvents j fn pos #[⟨.mark (.releaseMerge (stA s.Wg)), false, true⟩])[st.t.size]? = some { g := j, fn, pos, act := .mark (.releaseMerge (stA s.Wg)) } := by
        rw [ops_one]; simp [MemAct.ofEvent]
      have hs : (st.t ++ MemOp.ofEvents j fn pos #[⟨.mark (.releaseMerge (stA s.Wg)), false, true⟩]).size = st.t.size + 1 := by rw [ops_one]; simp
      refine ⟨st.t.size, ⟨by simp only [Trace.act?, hact]; rfl, by simp only [Trace.g?, hact]; rfl, ⟨j, by simp only [Trace.g?, hact]; rfl, ?_⟩, fun k hk hg => ?_⟩, fun k a hk hg ha => ?_⟩
      · rw [deaf_old (Nat.le_refl _)]
        show Deaf st.t j = 0
        rw [h.base.dfw j (by have := hA.ne; omega) hA.lt, hA.me, hdf]
      · exact (mute_counts (t := st.t) (fun op ho => (hops op ho).2) (Nat.le_of_lt hk)).1
      · rw [(mute_counts (t := st.t) (fun op ho => (hops op ho).2) (Nat.le_of_lt hk)).2] at ha; cases ha
    · exact T.rel j hj hj2 (by
        have hw : (upd st.γ.wk i { x with wg := .rel, df := x.df } j).wg ≠ .work := hw
        rw [hwn j e] at hw; exact hw)
  · refine ⟨?_, fun _ => ⟨rfl, rfl, rfl, rfl⟩, id⟩
    show pot (Gho.mm { st.γ with wk := upd st.γ.wk i { x with wg := .rel, df := x.df }, gs := st.γ.gs, gm := st.γ.gm }) s.n0 s.n (st.γ.tn + st.γ.th) ≤ _
    rw [hmm]
    exact Nat.le_refl _
variable {Ch : Nat → Goroutine → St Gho → Prop}
theorem TT.rel {P : Program} (hP : q.P = P) {g : Goroutine} {st : St Gho} (hA : At s i x st) (hx : x.wg = .work) (hdf : x.df = 0) (hz : x.zw = true) (hr : x.rw = true) (hm : x.mx = .fresh ∨ x.mx = .out)
    (h : ∀ st₁, At s i x st₁ → Inv q st₁ → SceneC q s st₁ → ∃ g', stepG P (i == 0) g st₁.w = .go g' st₁.w #[⟨.mark (.releaseMerge (stA s.Wg)), false, true⟩] ∧ g'.status = .running ∧
      ∀ st₂, At s i { x with wg := .rel, df := x.df } st₂ → Inv q st₂ → TT (cfg q) i Ch g' st₂) : TT (cfg q) i Ch g st := by
  subst hP
  refine TT.act fun st₁ hr' hi => ?_
  have hA₁ := hA.rely (by rw [hx]; simp) hr' hi
  obtain ⟨g', h1, h2, h3⟩ := h st₁ hA₁ hi (hi.scene s hA₁.sc).c
  have k := hi.rel hA₁ hx hdf hz hr hm g.frame.fn g.frame.place
  exact ⟨hA₁.notLv (by rw [hx]; simp), g', _, _, { st₁.γ with wk := upd st₁.γ.wk i { x with wg := .rel, df := x.df }, gs := st₁.γ.gs, gm := st₁.γ.gm }, h1, h2, rfl, k, .inr (wt_same (by rfl) (by rfl) (by rfl) (by rfl) fun k hk => by exact upd_ne _ _ hk), h3 _ (hA₁.next hi rfl rfl rfl (upd_self _ _ _) (fun _ h => h) fun _ _ _ _ _ => rfl) k.1⟩
theorem TT.wgs {P : Program} (hP : q.P = P) {g : Goroutine} {st : St Gho} (hA : At s i x st) (hx : x.wg ≠ .work ∧ x.wg ≠ .idle ∧ x.wg ≠ .lv ∧ x.wg ≠ .gone)
    (h : ∀ st₁, At s i x st₁ → Inv q st₁ → SceneC q s st₁ → ∃ g' w' es w₁ gs₁ gm₁, stepG P (i == 0) g st₁.w = .go g' w' es ∧ g'.status = .running ∧ (w₁ ≠ .work ∧ w₁ ≠ .idle ∧ w₁ ≠ .gone ∧ w₁.cr < x.wg.cr) ∧
      WgEv s x.df es ∧ (w'.heap.size = st₁.w.heap.size ∧ (∀ b, b ≠ s.Wg → w'.heap[b]? = st₁.w.heap[b]?) ∧ OsLater st₁.w.os w'.os ∧ w'.output = st₁.w.output) ∧ WgAt q.tW s.Wg w' (gs₁ : Nat) (gm₁ : Nat) ∧
      (∀ c d2 d3 d4 : Nat, c + (if x.wg.cd = true then 1 else 0) = cntW WG.cd st₁.γ s + (if w₁.cd = true then 1 else 0) → d2 + (if (x.wg == .d2) = true then 1 else 0) = cntW (· == .d2) st₁.γ s + (if (w₁ == .d2) = true then 1 else 0) →
        d3 + (if (x.wg == .d3) = true then 1 else 0) = cntW (· == .d3) st₁.γ s + (if (w₁ == .d3) = true then 1 else 0) → d4 + (if (x.wg == .d4) = true then 1 else 0) = cntW (· == .d4) st₁.γ s + (if (w₁ == .d4) = true then 1 else 0) → WgL st₁.γ.mw c d2 d3 d4 gs₁ gm₁) ∧
      (mayWake P g = true ∨ gm₁ = st₁.γ.gm) ∧ ∀ st₂, At s i { x with wg := w₁, df := deafBehind x.df es } st₂ → Inv q st₂ → st₂.γ.gs = gs₁ → TT (cfg q) i Ch g' st₂) : TT (cfg q) i Ch g st := by
  subst hP
  refine TT.act fun st₁ hr' hi => ?_
  have hA₁ := hA.rely ⟨hx.2.2.1, hx.2.2.2, hx.2.1⟩ hr' hi
  obtain ⟨g', w', es, w₁, gs₁, gm₁, h1, h2, h3, h4, h5, h6, h7, h8, h9⟩ := h st₁ hA₁ hi (hi.scene s hA₁.sc).c
  have k := hi.wgs hA₁ hx.1 h3.1 h3.2.1 h3.2.2.1 hx.2.1 h4 h5.1 h5.2.1 h5.2.2.1 h5.2.2.2 h6 h3.2.2.2 rfl (h7 _ _ _ _ (wg_counts hi hA₁ WG.cd) (wg_counts hi hA₁ (· == .d2)) (wg_counts hi hA₁ (· == .d3)) (wg_counts hi hA₁ (· == .d4))) g.frame.fn g.frame.place
  refine ⟨hA₁.notLv ⟨hx.2.2.1, hx.2.2.2⟩, g', w', es, { st₁.γ with wk := upd st₁.γ.wk i { x with wg := w₁, df := deafBehind x.df es }, gs := gs₁, gm := gm₁ }, h1, h2, rfl, k, h8.imp id fun e => ?_, h9 _ (hA₁.next hi rfl rfl rfl (upd_self _ _ _) (fun _ h => h) fun b _ hb _ _ => h5.2.1 b hb) k.1 rfl⟩
  exact wt_same (st := st₁) (by rfl) (by rfl) (by exact e) (by rfl) fun k hk => by exact upd_ne _ _ hk
end
end Go.Proofs.Ytpfpokjaeffbjab.Cc
namespace Go.Proofs.Ytpfpokjaeffbjab.Cc
open Go.Conc Go.ConcN
open Go.ConcR (KK wgBlock WgAt stA smA rd wr mk DC0)
open Go.ConcM (OsLater)
set_option linter.unusedVariables false
section
variable {q : Prm} {i : Nat} {s : Scene} {x : Wk}
theorem RowIs.block {b n : Nat} {t : TypeId} {f : Nat → Bool} {v : Nat → Value} {w w' : World} (h : RowIs b n t f v w) (e : w'.heap[b]? = w.heap[b]?) {f' : Nat → Bool} (hf : ∀ k, k < n → f' k = true → f k = true) : RowIs b n t f' v w' := by
  obtain ⟨Z, z1, z2, z3, z4⟩ := h
  exact ⟨Z, e.trans z1, z2, z3, fun k k1 k2 => z4 k k1 (hf k k1 k2)⟩
theorem RowIs.lay {b n : Nat} {t : TypeId} {f f' : Nat → Bool} {v : Nat → Value} {w : World} (h : RowIs b n t f v w) {k : Nat} (hk : k < n) (hv : (∀ a, v k ≠ Value.agg a) ∧ ∀ a, v k ≠ Value.tuple a) (hf : ∀ j, j < n → f' j = true → f j = true ∨ j = k) : RowIs b n t f' v (w.setCell ⟨b, k, none⟩ (v k)) := by
  obtain ⟨Z, z1, z2, z3, z4⟩ := h
  refine ⟨Z.setIfInBounds k (v k), by rw [setCell_eq_setRow w b k Z t (0, 0) _ z1, setRow_heap w b _ _ t _ z1], by simpa using z2, fun j y hy => ?_, fun j j1 j2 => ?_⟩
  · by_cases e : k = j
    · subst e
      rw [Array.getElem?_setIfInBounds_self_of_lt (by omega)] at hy
      cases hy; exact hv
    · rw [Array.getElem?_setIfInBounds_ne e] at hy; exact z3 j y hy
  · by_cases e : k = j
    · subst e; rw [Array.getElem?_setIfInBounds_self_of_lt (by omega)]
    · rw [Array.getElem?_setIfInBounds_ne e]
      exact z4 j j1 ((hf j j1 j2).resolve_right (Ne.symm e))
theorem Inv.rowZb {st : St Gho} (h : Inv q st) (hA : At s i x st) (hx : x.wg = .work) {k : Nat} (hk : i = s.n0 + k) (hv : (∀ a, s.zv k ≠ Value.agg a) ∧ ∀ a, s.zv k ≠ Value.tuple a) (fn : FuncId) (pos : String) :
    Inv q ⟨st.w.setCell ⟨s.Zb, k, none⟩ (s.zv k), st.t ++ MemOp.ofEvents i fn pos #[⟨.cell ⟨s.Zb, k, none⟩, true, false⟩], { st.γ with wk := upd st.γ.wk i { x with zw := true } }⟩ ∧
    ∀ j, j ≠ i → Rl j st ⟨st.w.setCell ⟨s.Zb, k, none⟩ (s.zv k), st.t ++ MemOp.ofEvents i fn pos #[⟨.cell ⟨s.Zb, k, none⟩, true, false⟩], { st.γ with wk := upd st.γ.wk i { x with zw := true } }⟩ := by
  obtain ⟨c, p, t⟩ := h.scene s hA.sc
  have A := h.base.tr.apt
  have hl := c.lts
  have hi2 := hA.hi h
  have hkn : k < s.n := by omega
  have exI := (p.exZ k hkn (by rw [← hk]; exact hA.lt) (by rw [← hk, hA.me]; exact hx)).1
  rw [← hk] at exI
  have W := aside_setCell st.w ⟨s.Zb, k, none⟩ (s.zv k)
  have at_ : ∀ j, upd st.γ.wk i { x with zw := true } j = if j = i then { x with zw := true } else st.γ.wk j := fun j => rfl
  have hmx : ∀ j, (upd st.γ.wk i { x with zw := true } j).mx = (st.γ.wk j).mx := fun j => by
    rw [at_]; split
    · rename_i e; subst e; rw [hA.me]
    · rfl
  have hwg : ∀ j, (upd st.γ.wk i { x with zw := true } j).wg = (st.γ.wk j).wg := fun j => by
    rw [at_]; split
    · rename_i e; subst e; rw [hA.me]
    · rfl
  have hsyn : ∀ j, (upd st.γ.wk i { x with zw := true } j).syn = (st.γ.wk j).syn := fun j => by
    rw [at_]; split
    · rename_i e; subst e; rw [hA.me]
    · rfl
  have hrw : ∀ j, (upd st.γ.wk i { x with zw := true } j).rw = (st.γ.wk j).rw := fun j => by
    rw [at_]; split
    · rename_i e; subst e; rw [hA.me]
    · rfl
  have hzw : ∀ j, (upd st.γ.wk i { x with zw := true } j).zw = true → (st.γ.wk j).zw = true ∨ j = i := fun j => by
    rw [at_]; split
    · rename_i e; exact fun _ => .inr e
    · exact .inl
  have hzw2 : ∀ j, (st.γ.wk j).zw = true → (upd st.γ.wk i { x with zw := true } j).zw = true := fun j h => by
    rw [at_]; split
    · rfl
    · exact h
  have hdf : ∀ j, (upd st.γ.wk i { x with zw := true } j).df = (st.γ.wk j).df := fun j => by
    rw [at_]; split
    · rename_i e; subst e; rw [hA.me]
    · rfl
  have hmm : ({ st.γ with wk := upd st.γ.wk i { x with zw := true } } : Gho).mm = st.γ.mm := funext fun j => hmx j
  have tch : ∀ {e : Event}, e ∈ (#[⟨.cell ⟨s.Zb, k, none⟩, true, false⟩] : Array Event) → ∀ {y : Touch}, (MemAct.ofEvent e).touch? = some y → y = ⟨ca s.Zb k, true, .plain⟩ := by
    intro e he y hy
    simp at he
    subst he
    cases hy
    rfl
  have hops : ∀ op ∈ MemOp.ofEvents i fn pos #[⟨.cell ⟨s.Zb, k, none⟩, true, false⟩], op.g = i := fun op ho => by obtain ⟨e, _, rfl⟩ := mem_ops ho; rfl
  have cellS : ∀ off, (st.w.setCell ⟨s.Zb, k, none⟩ (s.zv k)).cell? ⟨s.Gb, off, none⟩ = st.w.cell? ⟨s.Gb, off, none⟩ := fun off => World.cell?_setCell_other _ ⟨s.Zb, k, none⟩ ⟨s.Gb, off, none⟩ _ (by have := c.ne.2.1; simp; omega)
  refine h.gen hA.sc hA.mem (γ' := { st.γ with wk := upd st.γ.wk i { x with zw := true } }) rfl rfl (fun _ => .rfl) (fun e he y hy => ?_) (fun e he a => ?_) (fun _ e he y hy => by rw [tch he hy]; simp) (fun T => T) (fun j hj l => ⟨id, id⟩) h.base.pool W.size (fun b => ?_) (by rw [W.os]; exact .refl _) W.output (fun j hj => upd_ne _ _ hj) (fun _ => ⟨rfl, rfl⟩) (fun e => absurd e hA.ne) (fun _ => ?_) ?_ ?_ ?_ ?_ (fun _ => ⟨Nat.le_of_eq (psi_same hwg s), fun _ => rfl⟩) (fun j hj e => ⟨rfl, fun off _ _ => cellS off⟩) (.inl (Nat.le_refl _))
  · rw [tch he hy]
    refine ⟨.inr (.inl exI), fun b hb => ?_⟩
    have hb : lblk (ca s.Zb k) = some b := hb
    have : s.Zb = b := by unfold ca lblk at hb; simpa using hb
    rw [W.size]
    omega
  · simp at he; subst he; simp
  · by_cases e : b = s.Zb
    · exact .inr (.inr (.inr (.inr (.inl e))))
    · exact .inl (W.block b e)
  · refine ⟨(hdf i).trans (deafBehind_quiet fun e he => ?_).symm, by show (upd st.γ.wk i _ i).wg ≠ _; rw [hwg, hA.me, hx]; simp⟩
    simp at he; subst he; simp
  · exact {
      n0 := c.n0
      gb := c.gb.of (W.block _ c.ne.2.1) rfl ⟨rfl, rfl, rfl, rfl⟩ rfl
      wgb := c.wgb.of_block (W.block _ c.ne.2.2.2.1)
      zb := c.zb.lay hkn hv fun j _ hj => (hzw (s.n0 + j) hj).imp id fun e => by omega
      rb := c.rb.block (W.block _ c.ne.2.2.2.2.2.symm) fun j _ hj => (hrw (s.n0 + j)).symm.trans hj
      ne := c.ne
      mu := by have := c.mu; rw [← hmm] at this; exact this
      D1 := c.D1
      work := fun j hj => c.work j ((hmx j).symm.trans hj)
      dn := fun j hj => c.dn j ((hmx j).symm.trans hj)
      syn := fun j h0 hj => c.syn j h0 ((hsyn j).symm.trans hj)
      new := fun j hj => by
        have hne : j ≠ i := by have := hA.lt; have hj : st.γ.num ≤ j := hj; omega
        show upd st.γ.wk i _ j = _
        rw [upd_ne _ _ hne]; exact c.new j hj
      on := fun j h1 h2 => by show (upd st.γ.wk i _ j).wg ≠ _; rw [hwg]; exact c.on j h1 h2
      fin := fun j h1 h2 h3 => by
        have h2 : (upd st.γ.wk i { x with zw := true } j).wg ≠ .idle := h2
        have h3 : (upd st.γ.wk i { x with zw := true } j).wg ≠ .work := h3
        rw [hwg] at h2 h3
        obtain ⟨a, b, d⟩ := c.fin j h1 h2 h3
        exact ⟨hzw2 j a, (hrw j).trans b, by have := d; rw [← hmx j] at this; exact this⟩
      all := c.all
      wgl := by
        have w := c.wgl
        rw [← cntW_same (γ' := { st.γ with wk := upd st.γ.wk i { x with zw := true } }) hwg s, ← cntW_same (p := (· == .d2)) (γ' := { st.γ with wk := upd st.γ.wk i { x with zw := true } }) hwg s, ← cntW_same (p := (· == .d3)) (γ' := { st.γ with wk := upd st.γ.wk i { x with zw := true } }) hwg s, ← cntW_same (p := (· == .d4)) (γ' := { st.γ with wk := upd st.γ.wk i { x with zw := true } }) hwg s] at w
        exact w }
  · refine ⟨p.spec, fun k k1 k2 k3 => p.exZ k k1 k2 ((hwg _).symm.trans k3), p.exM, p.rdG, p.shG, fun j hj => p.exS j ((hmx j).symm.trans hj), fun j h0 hj => p.rdS j h0 ((hsyn j).symm.trans hj), fun hn => p.noS fun j hj => hn j ((hmx j).trans hj)⟩
  · refine t.app hops rfl rfl (fun hn j hj => hn j ((hmx j).trans hj)) (fun j _ _ hw => by rw [← hwg]; exact hw) (fun op ho y hy => ?_) fun hn hw => absurd (by rw [hA.me]; exact hx) hw
    obtain ⟨e, he, rfl⟩ := mem_ops ho
    rw [tch he hy]
    have := c.ne.2.1
    refine ⟨fun off _ _ e => ?_, fun e => ?_⟩
    · unfold ca at e; simp at e; omega
    · unfold ca at e; simp at e; omega
  · unfold phi
    rw [hmm]
    exact ⟨Nat.le_refl _, fun _ => ⟨rfl, rfl, rfl, rfl⟩, id⟩
variable {Ch : Nat → Goroutine → St Gho → Prop}
theorem TT.rowZb {P : Program} (hP : q.P = P) {g : Goroutine} {st : St Gho} (hA : At s i x st) (hx : x.wg = .work) {k : Nat} (hk : i = s.n0 + k) (hv : (∀ a, s.zv k ≠ Value.agg a) ∧ ∀ a, s.zv k ≠ Value.tuple a)
    (h : ∀ st₁, Rl i st st₁ → Inv q st₁ → At s i x st₁ → SceneC q s st₁ → ∃ g', stepG P (i == 0) g st₁.w = .go g' (st₁.w.setCell ⟨s.Zb, k, none⟩ (s.zv k)) #[⟨.cell ⟨s.Zb, k, none⟩, true, false⟩] ∧ g'.status = .running ∧
      ∀ st₂, At s i { x with zw := true } st₂ → Inv q st₂ → (∀ l, st₁.γ.rd i l → st₂.γ.rd i l) → (∀ b, b ≠ s.Zb → st₂.w.heap[b]? = st₁.w.heap[b]?) → TT (cfg q) i Ch g' st₂) : TT (cfg q) i Ch g st := by
  subst hP
  refine TT.act fun st₁ hr hi => ?_
  have hA₁ := hA.rely (by rw [hx]; simp) hr hi
  obtain ⟨g', h1, h2, h3⟩ := h st₁ hr hi hA₁ (hi.scene s hA₁.sc).c
  have k' := hi.rowZb hA₁ hx hk hv g.frame.fn g.frame.place
  exact ⟨hA₁.notLv (by rw [hx]; simp), g', _, _, { st₁.γ with wk := upd st₁.γ.wk i { x with zw := true } }, h1, h2, rfl, k', .inr (wt_same (by rfl) (by rfl) (by rfl) (by rfl) fun k hk => by exact upd_ne _ _ hk), h3 _ (hA₁.next hi rfl rfl rfl (upd_self _ _ _) (fun _ h => h) fun b _ _ a3 _ => (aside_setCell st₁.w ⟨s.Zb, k, none⟩ (s.zv k)).block b a3) k'.1 (fun _ h => h) fun b hb => (aside_setCell st₁.w ⟨s.Zb, k, none⟩ (s.zv k)).block b hb⟩
theorem Inv.rowRb {st : St Gho} (h : Inv q st) (hA : At s i x st) (hx : x.wg = .work) {k : Nat} (hk : i = s.n0 + k) (hv : (∀ a, s.rv k ≠ Value.agg a) ∧ ∀ a, s.rv k ≠ Value.tuple a) (fn : FuncId) (pos : String) :
    Inv q ⟨st.w.setCell ⟨s.Rb, k, none⟩ (s.rv k), st.t ++ MemOp.ofEvents i fn pos #[⟨.cell ⟨s.Rb, k, none⟩, true, false⟩], { st.γ with wk := upd st.γ.wk i { x with rw := true } }⟩ ∧
    ∀ j, j ≠ i → Rl j st ⟨st.w.setCell ⟨s.Rb, k, none⟩ (s.rv k), st.t ++ MemOp.ofEvents i fn pos #[⟨.cell ⟨s.Rb, k, none⟩, true, false⟩], { st.γ with wk := upd st.γ.wk i { x with rw := true } }⟩ := by
  obtain ⟨c, p, t⟩ := h.scene s hA.sc
  have A := h.base.tr.apt
  have hl := c.lts
  have hi2 := hA.hi h
  have hkn : k < s.n := by omega
  have exI := (p.exZ k hkn (by rw [← hk]; exact hA.lt) (by rw [← hk, hA.me]; exact hx)).2
  rw [← hk] at exI
  have W := aside_setCell st.w ⟨s.Rb, k, none⟩ (s.rv k)
  have at_ : ∀ j, upd st.γ.wk i { x with rw := true } j = if j = i then { x with rw := true } else st.γ.wk j := fun j => rfl
  have hmx : ∀ j, (upd st.γ.wk i { x with rw := true } j).mx = (st.γ.wk j).mx := fun j => by
    rw [at_]; split
    · rename_i e; subst e; rw [hA.me]
    · rfl
  have hwg : ∀ j, (upd st.γ.wk i { x with rw := true } j).wg = (st.γ.wk j).wg := fun j => by
    rw [at_]; split
    · rename_i e; subst e; rw [hA.me]
    · rfl
  have hsyn : ∀ j, (upd st.γ.wk i { x with rw := true } j).syn = (st.γ.wk j).syn := fun j => by
    rw [at_]; split
    · rename_i e; subst e; rw [hA.me]
    · rfl
  have hzq : ∀ j, (upd st.γ.wk i { x with rw := true } j).zw = (st.γ.wk j).zw := fun j => by
    rw [at_]; split
    · rename_i e; subst e; rw [hA.me]
    · rfl
  have hrq : ∀ j, (upd st.γ.wk i { x with rw := true } j).rw = true → (st.γ.wk j).rw = true ∨ j = i := fun j => by
    rw [at_]; split
    · rename_i e; exact fun _ => .inr e
    · exact .inl
  have hrw2 : ∀ j, (st.γ.wk j).rw = true → (upd st.γ.wk i { x with rw := true } j).rw = true := fun j h => by
    rw [at_]; split
    · rfl
    · exact h
  have hdf : ∀ j, (upd st.γ.wk i { x with rw := true } j).df = (st.γ.wk j).df := fun j => by
    rw [at_]; split
    · rename_i e; subst e; rw [hA.me]
    · rfl
  have hmm : ({ st.γ with wk := upd st.γ.wk i { x with rw := true } } : Gho).mm = st.γ.mm := funext fun j => hmx j
  have tch : ∀ {e : Event}, e ∈ (#[⟨.cell ⟨s.Rb, k, none⟩, true, false⟩] : Array Event) → ∀ {y : Touch}, (MemAct.ofEvent e).touch? = some y → y = ⟨ca s.Rb k, true, .plain⟩ := by
    intro e he y hy
    simp at he
    subst he
    cases hy
    rfl
  have hops : ∀ op ∈ MemOp.ofEvents i fn pos #[⟨.cell ⟨s.Rb, k, none⟩, true, false⟩], op.g = i := fun op ho => by obtain ⟨e, _, rfl⟩ := mem_ops ho; rfl
  have cellS : ∀ off, (st.w.setCell ⟨s.Rb, k, none⟩ (s.rv k)).cell? ⟨s.Gb, off, none⟩ = st.w.cell? ⟨s.Gb, off, none⟩ := fun off => World.cell?_setCell_other _ ⟨s.Rb, k, none⟩ ⟨s.Gb, off, none⟩ _ (by have := c.ne.2.2.1; simp; omega)
  refine h.gen hA.sc hA.mem (γ' := { st.γ with wk := upd st.γ.wk i { x with rw := true } }) rfl rfl (fun _ => .rfl) (fun e he y hy => ?_) (fun e he a => ?_) (fun _ e he y hy => by rw [tch he hy]; simp) (fun T => T) (fun j hj l => ⟨id, id⟩) h.base.pool W.size (fun b => ?_) (by rw [W.os]; exact .refl _) W.output (fun j hj => upd_ne _ _ hj) (fun _ => ⟨rfl, rfl⟩) (fun e => absurd e hA.ne) (fun _ => ?_) ?_ ?_ ?_ ?_ (fun _ => ⟨Nat.le_of_eq (psi_same hwg s), fun _ => rfl⟩) (fun j hj e => ⟨rfl, fun off _ _ => cellS off⟩) (.inl (Nat.le_refl _))
  · rw [tch he hy]
    refine ⟨.inr (.inl exI), fun b hb => ?_⟩
    have hb : lblk (ca s.Rb k) = some b := hb
    have : s.Rb = b := by unfold ca lblk at hb; simpa using hb
    rw [W.size]
    omega
  · simp at he; subst he; simp
  · by_cases e : b = s.Rb
    · exact .inr (.inr (.inr (.inr (.inr e))))
    · exact .inl (W.block b e)
  · refine ⟨(hdf i).trans (deafBehind_quiet fun e he => ?_).symm, by show (upd st.γ.wk i _ i).wg ≠ _; rw [hwg, hA.me, hx]; simp⟩
    simp at he; subst he; simp
  · exact {
      n0 := c.n0
      gb := c.gb.of (W.block _ c.ne.2.2.1) rfl ⟨rfl, rfl, rfl, rfl⟩ rfl
      wgb := c.wgb.of_block (W.block _ c.ne.2.2.2.2.1)
      rb := c.rb.lay hkn hv fun j _ hj => (hrq (s.n0 + j) hj).imp id fun e => by omega
      zb := c.zb.block (W.block _ c.ne.2.2.2.2.2) fun j _ hj => (hzq (s.n0 + j)).symm.trans hj
      ne := c.ne
      mu := by have := c.mu; rw [← hmm] at this; exact this
      D1 := c.D1
      work := fun j hj => c.work j ((hmx j).symm.trans hj)
      dn := fun j hj => c.dn j ((hmx j).symm.trans hj)
      syn := fun j h0 hj => c.syn j h0 ((hsyn j).symm.trans hj)
      new := fun j hj => by
        have hne : j ≠ i := by have := hA.lt; have hj : st.γ.num ≤ j := hj; omega
        show upd st.γ.wk i _ j = _
        rw [upd_ne _ _ hne]; exact c.new j hj
      on := fun j h1 h2 => by show (upd st.γ.wk i _ j).wg ≠ _; rw [hwg]; exact c.on j h1 h2
      fin := fun j h1 h2 h3 => by
        have h2 : (upd st.γ.wk i { x with rw := true } j).wg ≠ .idle := h2
        have h3 : (upd st.γ.wk i { x with rw := true } j).wg ≠ .work := h3
        rw [hwg] at h2 h3
        obtain ⟨a, b, d⟩ := c.fin j h1 h2 h3
        exact ⟨(hzq j).trans a, hrw2 j b, by have := d; rw [← hmx j] at this; exact this⟩
      all := c.all
      wgl := by
        have w := c.wgl
        rw [← cntW_same (γ' := { st.γ with wk := upd st.γ.wk i { x with rw := true } }) hwg s, ← cntW_same (p := (· == .d2)) (γ' := { st.γ with wk := upd st.γ.wk i { x with rw := true } }) hwg s, ← cntW_same (p := (· == .d3)) (γ' := { st.γ with wk := upd st.γ.wk i { x with rw := true } }) hwg s, ← cntW_same (p := (· == .d4)) (γ' := { st.γ with wk := upd st.γ.wk i { x with rw := true } }) hwg s] at w
        exact w }
  · refine ⟨p.spec, fun k k1 k2 k3 => p.exZ k k1 k2 ((hwg _).symm.trans k3), p.exM, p.rdG, p.shG, fun j hj => p.exS j ((hmx j).symm.trans hj), fun j h0 hj => p.rdS j h0 ((hsyn j).symm.trans hj), fun hn => p.noS fun j hj => hn j ((hmx j).trans hj)⟩
  · refine t.app hops rfl rfl (fun hn j hj => hn j ((hmx j).trans hj)) (fun j _ _ hw => by rw [← hwg]; exact hw) (fun op ho y hy => ?_) fun hn hw => absurd (by rw [hA.me]; exact hx) hw
    obtain ⟨e, he, rfl⟩ := mem_ops ho
    rw [tch he hy]
    have := c.ne.2.2.1
    refine ⟨fun off _ _ e => ?_, fun e => ?_⟩
    · unfold ca at e; simp at e; omega
    · unfold ca at e; simp at e; omega
  · unfold phi
    rw [hmm]
    exact ⟨Nat.le_refl _, fun _ => ⟨rfl, rfl, rfl, rfl⟩, id⟩
theorem TT.rowRb {P : Program} (hP : q.P = P) {g : Goroutine} {st : St Gho} (hA : At s i x st) (hx : x.wg = .work) {k : Nat} (hk : i = s.n0 + k) (hv : (∀ a, s.rv k ≠ Value.agg a) ∧ ∀ a, s.rv k ≠ Value.tuple a)
    (h : ∀ st₁, Rl i st st₁ → Inv q st₁ → At s i x st₁ → SceneC q s st₁ → ∃ g', stepG P (i == 0) g st₁.w = .go g' (st₁.w.setCell ⟨s.Rb, k, none⟩ (s.rv k)) #[⟨.cell ⟨s.Rb, k, none⟩, true, false⟩] ∧ g'.status = .running ∧
      ∀ st₂, At s i { x with rw := true } st₂ → Inv q st₂ → (∀ l, st₁.γ.rd i l → st₂.γ.rd i l) → (∀ b, b ≠ s.Rb → st₂.w.heap[b]? = st₁.w.heap[b]?) → TT (cfg q) i Ch g' st₂) : TT (cfg q) i Ch g st := by
  subst hP
  refine TT.act fun st₁ hr hi => ?_
  have hA₁ := hA.rely (by rw [hx]; simp) hr hi
  obtain ⟨g', h1, h2, h3⟩ := h st₁ hr hi hA₁ (hi.scene s hA₁.sc).c
  have k' := hi.rowRb hA₁ hx hk hv g.frame.fn g.frame.place
  exact ⟨hA₁.notLv (by rw [hx]; simp), g', _, _, { st₁.γ with wk := upd st₁.γ.wk i { x with rw := true } }, h1, h2, rfl, k', .inr (wt_same (by rfl) (by rfl) (by rfl) (by rfl) fun k hk => by exact upd_ne _ _ hk), h3 _ (hA₁.next hi rfl rfl rfl (upd_self _ _ _) (fun _ h => h) fun b _ _ _ a3 => (aside_setCell st₁.w ⟨s.Rb, k, none⟩ (s.rv k)).block b a3) k'.1 (fun _ h => h) fun b hb => (aside_setCell st₁.w ⟨s.Rb, k, none⟩ (s.rv k)).block b hb⟩
end
end Go.Proofs.Ytpfpokjaeffbjab.Cc
