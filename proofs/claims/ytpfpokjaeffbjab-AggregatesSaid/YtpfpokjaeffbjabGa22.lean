/- Part of the proof: AgC, AgE, LkF. -/
import Derived.Test.YtpfpokjaeffbjabGa16
import Derived.Test.YtpfpokjaeffbjabGa21
import Derived.Test.YtpfpokjaeffbjabGa10
import Derived.Test.YtpfpokjaeffbjabGa18
import Derived.Conc.MuWords
namespace Go.Proofs.Ytpfpokjaeffbjab.Cc
open Go.Conc Go.ConcN Go.RowKit
open Go.Proofs.Ytpfpokjaeffbjab.Pl Go.Proofs.Ytpfpokjaeffbjab.Dpl Go.Proofs.Ytpfpokjaeffbjab.Gpl Go.Proofs.Ytpfpokjaeffbjab.Kpl Go.Proofs.Ytpfpokjaeffbjab.Mem Go.Proofs.Ytpfpokjaeffbjab.Ver Go.Proofs.Ytpfpokjaeffbjab.Pkg Go.Proofs.Ytpfpokjaeffbjab.Sls Go.Proofs.Ytpfpokjaeffbjab.Agt
open Go.Proofs.Ytpfpokjaeffbjab.Fld hiding base
set_option linter.unusedVariables false
set_option linter.unusedSimpArgs false
theorem ne_ty {w : World} {a b : Nat} {C C' : Array Value} {e e' : TypeId} {f f' : Nat × Nat} (h : w.heap[a]? = some (.cells C e f)) (h' : w.heap[b]? = some (.cells C' e' f')) (hne : e ≠ e') : a ≠ b := by
  rintro rfl
  rw [h] at h'
  cases h'
  exact hne rfl
def agDs : Nat → Bool := fun i => !([8, 9, 10, 13, 14, 16, 17, 21, 22, 23, 81, 82, 83, 84, 85, 86, 87, 88, 89, 90, 91, 92, 93, 94, 95, 96, 97, 98, 99, 100, 101, 102, 103, 104, 105, 106].contains i)
theorem agTail_ok : codeOk Try.prog aS agDs agTail = true := by kernel_rfl
theorem agRes_ok (fn : Func) (h : Try.prog.funcs[(base 16).fn]? = some fn) : fn.results.all (resD agDs) = true := by
  have e : Try.prog.funcs[(base 16).fn]? = some Try.f16 := Try.func16
  rw [e] at h
  cases h
  show (Try.f16).results.all (resD agDs) = true
  kernel_rfl
def agMd (b8 b13 b16 b17 Gb Pb gc lb Rb Zb nc nl : Nat) : Nat → Option Md := fun b => if b = b8 then some .all else if b = Pb then some (.read 3) else if b = Gb then some (.read 3) else if b = gc then some (.read nc) else if b = lb then some (.read (3 * nl)) else if b = b13 then some (.read 1) else if b = b16 then some (.read 1) else if b = b17 then some (.read 1) else if b = Rb then some (.read nl) else if b = Zb then some (.read nl) else none
structure TailD (q : Prm) (st : St Gho) (cs : List Int) (l : List Cm) (msg : ByteArray) (r : Int) (rt : Nat → Bool) (zt : List Int) (T : Array Value) (b8 b13 b16 b17 Gb Pb gc lb Rb Zb capg capR capZ : Nat) (CG Cg CP Cl CR CZ : Array Value) (g0 g1 : Value) (eL : TypeId) : Prop where
  sz : T.size = 107
  s8 : T[8]? = some (.pointer (some ⟨b8, 0, none⟩))
  s9 : T[9]? = some (.slice none 0 0)
  s10 : T[10]? = some (.int .i64 0)
  s13 : T[13]? = some (.pointer (some ⟨b13, 0, none⟩))
  s14 : T[14]? = some (.int .u64 r)
  s16 : T[16]? = some (.pointer (some ⟨b16, 0, none⟩))
  s17 : T[17]? = some (.pointer (some ⟨b17, 0, none⟩))
  su : ∀ i, (21 ≤ i ∧ i < 24) ∨ (81 ≤ i ∧ i < 107) → T[i]? = some undef
  kb8 : st.w.heap[b8]? = some (.cells #[.int .u64 0, .int .u64 0] 46 (0, 0))
  kPb : st.w.heap[Pb]? = some (.cells CP 146 (0, 0))
  kGb : st.w.heap[Gb]? = some (.cells CG 143 (0, 0))
  kgc : st.w.heap[gc]? = some (.cells Cg 85 (0, 0))
  klb : st.w.heap[lb]? = some (.cells Cl eL (0, 0))
  kb13 : st.w.heap[b13]? = some (.cells #[.pointer (some ⟨Pb, 0, none⟩)] 90 (0, 0))
  kb16 : st.w.heap[b16]? = some (.cells #[.slice (some ⟨Rb, 0, none⟩) l.length capR] 100 (0, 0))
  kb17 : st.w.heap[b17]? = some (.cells #[.slice (some ⟨Zb, 0, none⟩) l.length capZ] 101 (0, 0))
  kRb : st.w.heap[Rb]? = some (.cells CR 4 (0, 0))
  kZb : st.w.heap[Zb]? = some (.cells CZ 72 (0, 0))
  gcell : 3 ≤ CG.size ∧ CG[0]? = some g0 ∧ CG[1]? = some g1 ∧ CG[2]? = some (.slice (some ⟨gc, 0, none⟩) cs.length capg) ∧ (∃ k x, g0 = .int k x) ∧ ∃ k x, g1 = .int k x
  gcl : cs.length ≤ Cg.size ∧ ∀ j, j < cs.length → Cg[j]? = some (.int .u64 (cs.getD j 0))
  pcell : CP.size = 3 ∧ CP[0]? = some (.pointer (some ⟨Gb, 0, none⟩)) ∧ CP[1]? = some (.slice (some ⟨lb, 0, none⟩) l.length l.length) ∧ CP[2]? = some (.string msg)
  lcell : 3 * l.length ≤ Cl.size ∧ ∀ j u, j < 3 * l.length → (comCells l)[j]? = some u → Cl[j]? = some u
  rcell : CR.size = l.length ∧ ∀ k, k < l.length → CR[k]? = some (.bool (rt k))
  zcell : CZ.size = l.length ∧ ∀ k, k < l.length → CZ[k]? = some (.int .u64 (zt.getD k 0))
  zl : zt.length = l.length
  cz : l.length ≤ capZ
  l9 : l.length ≤ 9
  low : ∀ b ∈ [b8, Pb, Gb, gc, lb, b13, b16, b17, Rb, Zb], q.P.globals.size ≤ b
  lne : ∀ b ∈ [b8, Pb, Gb, gc, b13, b16, b17, Rb, Zb], lb ≠ b
  nd : ∀ b ∈ [b8, Pb, Gb, gc, lb, b13, b16, b17, Rb, Zb], ¬ st.γ.dead b
  own8 : Owns st b8
  ex : ∀ b ∈ [b8, Pb, Gb, gc, lb, b13, b16, b17, Rb, Zb], ∀ off, st.γ.ex 0 (ca b off)
def AggPost (r : Int) (zt wr : List Int) (num : Nat) (K : List (Nat × Obj)) (v : Value) (st : St Gho) : Prop :=
  (wr = [] ∧ v = .tuple #[.agg #[.int .u64 r, .int .u64 (sumS 0 zt zt.length)], .slice none 0 0, .int .i64 0] ∧ SAt 0 num K st) ∨
  (wr ≠ [] ∧ ∃ (c cap : Nat) (C : Array Value), v = .tuple #[.agg #[.int .u64 0, .int .u64 0], .slice (some ⟨c, 0, none⟩) wr.length cap, .int .i64 14] ∧ SAt 0 num ((c, .cells C 3 (0, 0)) :: K) st ∧ wr.length ≤ cap ∧ wr.length ≤ C.size ∧ ∀ j, j < wr.length → C[j]? = some (.int .i64 (wr.getD j 0)))
section
variable {q : Prm} {st : St Gho} {cs : List Int} {l : List Cm} {msg : ByteArray} {r : Int} {rt : Nat → Bool} {zt : List Int} {T : Array Value} {b8 b13 b16 b17 Gb Pb gc lb Rb Zb capg capR capZ : Nat} {CG Cg CP Cl CR CZ : Array Value} {g0 g1 : Value} {eL : TypeId}
set_option maxHeartbeats 4000000 in
theorem TailD.sees (h : TailD q st cs l msg r rt zt T b8 b13 b16 b17 Gb Pb gc lb Rb Zb capg capR capZ CG Cg CP Cl CR CZ g0 g1 eL) : SeesM q aS (agMd b8 b13 b16 b17 Gb Pb gc lb Rb Zb cs.length l.length) st := by
  have n_Pb_b8 : Pb ≠ b8 := ne_ty h.kPb h.kb8 (by decide)
  have n_Gb_b8 : Gb ≠ b8 := ne_ty h.kGb h.kb8 (by decide)
  have n_Gb_Pb : Gb ≠ Pb := ne_ty h.kGb h.kPb (by decide)
  have n_gc_b8 : gc ≠ b8 := ne_ty h.kgc h.kb8 (by decide)
  have n_gc_Pb : gc ≠ Pb := ne_ty h.kgc h.kPb (by decide)
  have n_gc_Gb : gc ≠ Gb := ne_ty h.kgc h.kGb (by decide)
  have n_lb_b8 : lb ≠ b8 := h.lne b8 (by simp)
  have n_lb_Pb : lb ≠ Pb := h.lne Pb (by simp)
  have n_lb_Gb : lb ≠ Gb := h.lne Gb (by simp)
  have n_lb_gc : lb ≠ gc := h.lne gc (by simp)
  have n_b13_b8 : b13 ≠ b8 := ne_ty h.kb13 h.kb8 (by decide)
  have n_b13_Pb : b13 ≠ Pb := ne_ty h.kb13 h.kPb (by decide)
  have n_b13_Gb : b13 ≠ Gb := ne_ty h.kb13 h.kGb (by decide)
  have n_b13_gc : b13 ≠ gc := ne_ty h.kb13 h.kgc (by decide)
  have n_b13_lb : b13 ≠ lb := (h.lne b13 (by simp)).symm
  have n_b16_b8 : b16 ≠ b8 := ne_ty h.kb16 h.kb8 (by decide)
  have n_b16_Pb : b16 ≠ Pb := ne_ty h.kb16 h.kPb (by decide)
  have n_b16_Gb : b16 ≠ Gb := ne_ty h.kb16 h.kGb (by decide)
  have n_b16_gc : b16 ≠ gc := ne_ty h.kb16 h.kgc (by decide)
  have n_b16_lb : b16 ≠ lb := (h.lne b16 (by simp)).symm
  have n_b16_b13 : b16 ≠ b13 := ne_ty h.kb16 h.kb13 (by decide)
  have n_b17_b8 : b17 ≠ b8 := ne_ty h.kb17 h.kb8 (by decide)
  have n_b17_Pb : b17 ≠ Pb := ne_ty h.kb17 h.kPb (by decide)
  have n_b17_Gb : b17 ≠ Gb := ne_ty h.kb17 h.kGb (by decide)
  have n_b17_gc : b17 ≠ gc := ne_ty h.kb17 h.kgc (by decide)
  have n_b17_lb : b17 ≠ lb := (h.lne b17 (by simp)).symm
  have n_b17_b13 : b17 ≠ b13 := ne_ty h.kb17 h.kb13 (by decide)
  have n_b17_b16 : b17 ≠ b16 := ne_ty h.kb17 h.kb16 (by decide)
  have n_Rb_b8 : Rb ≠ b8 := ne_ty h.kRb h.kb8 (by decide)
  have n_Rb_Pb : Rb ≠ Pb := ne_ty h.kRb h.kPb (by decide)
  have n_Rb_Gb : Rb ≠ Gb := ne_ty h.kRb h.kGb (by decide)
  have n_Rb_gc : Rb ≠ gc := ne_ty h.kRb h.kgc (by decide)
  have n_Rb_lb : Rb ≠ lb := (h.lne Rb (by simp)).symm
  have n_Rb_b13 : Rb ≠ b13 := ne_ty h.kRb h.kb13 (by decide)
  have n_Rb_b16 : Rb ≠ b16 := ne_ty h.kRb h.kb16 (by decide)
  have n_Rb_b17 : Rb ≠ b17 := ne_ty h.kRb h.kb17 (by decide)
  have n_Zb_b8 : Zb ≠ b8 := ne_ty h.kZb h.kb8 (by decide)
  have n_Zb_Pb : Zb ≠ Pb := ne_ty h.kZb h.kPb (by decide)
  have n_Zb_Gb : Zb ≠ Gb := ne_ty h.kZb h.kGb (by decide)
  have n_Zb_gc : Zb ≠ gc := ne_ty h.kZb h.kgc (by decide)
  have n_Zb_lb : Zb ≠ lb := (h.lne Zb (by simp)).symm
  have n_Zb_b13 : Zb ≠ b13 := ne_ty h.kZb h.kb13 (by decide)
  have n_Zb_b16 : Zb ≠ b16 := ne_ty h.kZb h.kb16 (by decide)
  have n_Zb_b17 : Zb ≠ b17 := ne_ty h.kZb h.kb17 (by decide)
  have n_Zb_Rb : Zb ≠ Rb := ne_ty h.kZb h.kRb (by decide)
  have m_b8 : agMd b8 b13 b16 b17 Gb Pb gc lb Rb Zb cs.length l.length b8 = some .all := by unfold agMd; simp []
  have m_Pb : agMd b8 b13 b16 b17 Gb Pb gc lb Rb Zb cs.length l.length Pb = some (.read 3) := by unfold agMd; simp [n_Pb_b8]
  have m_Gb : agMd b8 b13 b16 b17 Gb Pb gc lb Rb Zb cs.length l.length Gb = some (.read 3) := by unfold agMd; simp [n_Gb_b8, n_Gb_Pb]
  have m_gc : agMd b8 b13 b16 b17 Gb Pb gc lb Rb Zb cs.length l.length gc = some (.read cs.length) := by unfold agMd; simp [n_gc_b8, n_gc_Pb, n_gc_Gb]
  have m_lb : agMd b8 b13 b16 b17 Gb Pb gc lb Rb Zb cs.length l.length lb = some (.read (3 * l.length)) := by unfold agMd; simp [n_lb_b8, n_lb_Pb, n_lb_Gb, n_lb_gc]
  have m_b13 : agMd b8 b13 b16 b17 Gb Pb gc lb Rb Zb cs.length l.length b13 = some (.read 1) := by unfold agMd; simp [n_b13_b8, n_b13_Pb, n_b13_Gb, n_b13_gc, n_b13_lb]
  have m_b16 : agMd b8 b13 b16 b17 Gb Pb gc lb Rb Zb cs.length l.length b16 = some (.read 1) := by unfold agMd; simp [n_b16_b8, n_b16_Pb, n_b16_Gb, n_b16_gc, n_b16_lb, n_b16_b13]
  have m_b17 : agMd b8 b13 b16 b17 Gb Pb gc lb Rb Zb cs.length l.length b17 = some (.read 1) := by unfold agMd; simp [n_b17_b8, n_b17_Pb, n_b17_Gb, n_b17_gc, n_b17_lb, n_b17_b13, n_b17_b16]
  have m_Rb : agMd b8 b13 b16 b17 Gb Pb gc lb Rb Zb cs.length l.length Rb = some (.read l.length) := by unfold agMd; simp [n_Rb_b8, n_Rb_Pb, n_Rb_Gb, n_Rb_gc, n_Rb_lb, n_Rb_b13, n_Rb_b16, n_Rb_b17]
  have m_Zb : agMd b8 b13 b16 b17 Gb Pb gc lb Rb Zb cs.length l.length Zb = some (.read l.length) := by unfold agMd; simp [n_Zb_b8, n_Zb_Pb, n_Zb_Gb, n_Zb_gc, n_Zb_lb, n_Zb_b13, n_Zb_b16, n_Zb_b17, n_Zb_Rb]
  have low := h.low
  have nd := h.nd
  have ex := h.ex
  simp only [List.mem_cons, List.not_mem_nil, or_false, forall_eq_or_imp, forall_eq] at low nd ex
  obtain ⟨low_b8, low_Pb, low_Gb, low_gc, low_lb, low_b13, low_b16, low_b17, low_Rb, low_Zb⟩ := low
  obtain ⟨nd_b8, nd_Pb, nd_Gb, nd_gc, nd_lb, nd_b13, nd_b16, nd_b17, nd_Rb, nd_Zb⟩ := nd
  obtain ⟨ex_b8, ex_Pb, ex_Gb, ex_gc, ex_lb, ex_b13, ex_b16, ex_b17, ex_Rb, ex_Zb⟩ := ex
  intro b m hm
  unfold agMd at hm
  split at hm
  · rename_i e; subst e; cases hm
    exact ⟨low_b8, nd_b8, _, _, _, h.kb8, rfl, h.own8, fun k v hv => by match k, hv with | 0, hv => (simp at hv; subst hv; exact .int _ _) | 1, hv => (simp at hv; subst hv; exact .int _ _) | k + 2, hv => simp at hv⟩
  split at hm
  · rename_i e; subst e; cases hm
    refine ⟨low_Pb, nd_Pb, _, _, _, h.kPb, by have := h.pcell.1; omega, .inr ex_Pb, fun k v hk hv => ?_⟩
    match k, hk with
    | 0, _ => rw [h.pcell.2.1] at hv; cases hv; exact .ptr _ _ (idM_some m_Gb)
    | 1, _ => rw [h.pcell.2.2.1] at hv; cases hv; exact .slice _ _ _ _ (idM_some m_lb)
    | 2, _ => rw [h.pcell.2.2.2] at hv; cases hv; exact .string _
    | k + 3, hk => omega
  split at hm
  · rename_i e; subst e; cases hm
    obtain ⟨g1, g2, g3, g4, ⟨k0, x0, rfl⟩, k1, x1, rfl⟩ := h.gcell
    refine ⟨low_Gb, nd_Gb, _, _, _, h.kGb, g1, .inr ex_Gb, fun k v hk hv => ?_⟩
    match k, hk with
    | 0, _ => rw [g2] at hv; cases hv; exact .int _ _
    | 1, _ => rw [g3] at hv; cases hv; exact .int _ _
    | 2, _ => rw [g4] at hv; cases hv; exact .slice _ _ _ _ (idM_some m_gc)
    | k + 3, hk => omega
  split at hm
  · rename_i e; subst e; cases hm
    exact ⟨low_gc, nd_gc, _, _, _, h.kgc, h.gcl.1, .inr ex_gc, fun k v hk hv => by rw [h.gcl.2 k hk] at hv; cases hv; exact .int _ _⟩
  split at hm
  · rename_i e; subst e; cases hm
    refine ⟨low_lb, nd_lb, _, _, _, h.klb, h.lcell.1, .inr ex_lb, fun k v hk hv => ?_⟩
    have hlen : k < (comCells l).length := by rw [comCells_length]; omega
    have := h.lcell.2 k _ hk (List.getElem?_eq_getElem hlen)
    rw [this] at hv; cases hv
    have hm := List.getElem_mem hlen
    generalize (comCells l)[k] = u at hm ⊢
    simp only [comCells, List.mem_flatMap] at hm
    obtain ⟨c, _, hu⟩ := hm
    simp only [Cm.cells, List.mem_cons, List.not_mem_nil, or_false] at hu
    rcases hu with rfl | rfl | rfl <;> exact .int _ _
  split at hm
  · rename_i e; subst e; cases hm
    exact ⟨low_b13, nd_b13, _, _, _, h.kb13, by simp, .inr ex_b13, fun k v hk hv => by match k, hk with | 0, _ => (simp at hv; subst hv; exact .ptr _ _ (idM_some m_Pb))⟩
  split at hm
  · rename_i e; subst e; cases hm
    exact ⟨low_b16, nd_b16, _, _, _, h.kb16, by simp, .inr ex_b16, fun k v hk hv => by match k, hk with | 0, _ => (simp at hv; subst hv; exact .slice _ _ _ _ (idM_some m_Rb))⟩
  split at hm
  · rename_i e; subst e; cases hm
    exact ⟨low_b17, nd_b17, _, _, _, h.kb17, by simp, .inr ex_b17, fun k v hk hv => by match k, hk with | 0, _ => (simp at hv; subst hv; exact .slice _ _ _ _ (idM_some m_Zb))⟩
  split at hm
  · rename_i e; subst e; cases hm
    exact ⟨low_Rb, nd_Rb, _, _, _, h.kRb, Nat.le_of_eq h.rcell.1.symm, .inr ex_Rb, fun k v hk hv => by rw [h.rcell.2 k hk] at hv; cases hv; exact .bool _⟩
  split at hm
  · rename_i e; subst e; cases hm
    exact ⟨low_Zb, nd_Zb, _, _, _, h.kZb, Nat.le_of_eq h.zcell.1.symm, .inr ex_Zb, fun k v hk hv => by rw [h.zcell.2 k hk] at hv; cases hv; exact .int _ _⟩
  cases hm
theorem TailD.cell (h : TailD q st cs l msg r rt zt T b8 b13 b16 b17 Gb Pb gc lb Rb Zb capg capR capZ CG Cg CP Cl CR CZ g0 g1 eL) {md : Nat → Option Md} {b n : Nat} {C : Array Value} {e : TypeId} {fz : Nat × Nat} (hm : md b = some (.read n)) (hb : st.w.heap[b]? = some (.cells C e fz)) {o : Nat} (ho : o < n) (hn : n ≤ C.size) : (shadM st.w md).cell? ⟨b, o, none⟩ = C[o]? := by
  simp only [World.cell?, shadM_read hm hb]
  have : (C.extract 0 n)[o]? = C[o]? := by
    rw [Array.getElem?_extract]
    simp only [Nat.zero_add]
    by_cases h : o < n - 0
    · simp; omega
    · omega
  exact this
end
end Go.Proofs.Ytpfpokjaeffbjab.Cc
namespace Go.Proofs.Ytpfpokjaeffbjab.Cc
open Go.Conc Go.ConcN Go.RowKit
open Go.Proofs.Ytpfpokjaeffbjab.Pl Go.Proofs.Ytpfpokjaeffbjab.Dpl Go.Proofs.Ytpfpokjaeffbjab.Gpl Go.Proofs.Ytpfpokjaeffbjab.Kpl Go.Proofs.Ytpfpokjaeffbjab.Mem Go.Proofs.Ytpfpokjaeffbjab.Ver Go.Proofs.Ytpfpokjaeffbjab.Pkg Go.Proofs.Ytpfpokjaeffbjab.Sls Go.Proofs.Ytpfpokjaeffbjab.Agt
open Go.Proofs.Ytpfpokjaeffbjab.Fld hiding base
set_option linter.unusedVariables false
set_option linter.unusedSimpArgs false
section
variable {q : Prm} {st : St Gho} {cs : List Int} {l : List Cm} {msg : ByteArray} {r : Int} {rt : Nat → Bool} {zt : List Int} {T : Array Value} {b8 b13 b16 b17 Gb Pb gc lb Rb Zb capg capR capZ : Nat} {CG Cg CP Cl CR CZ : Array Value} {g0 g1 : Value} {eL : TypeId}
set_option maxRecDepth 100000 in
set_option maxHeartbeats 4000000 in
theorem TailD.ar (h : TailD q st cs l msg r rt zt T b8 b13 b16 b17 Gb Pb gc lb Rb Zb capg capR capZ CG Cg CP Cl CR CZ g0 g1 eL) : AR (fun f => aS f = true) (idM (agMd b8 b13 b16 b17 Gb Pb gc lb Rb Zb cs.length l.length)) (msk agDs (agU b8 b13 b16 b17 r)) (msk agDs T) := by
  have n_Pb_b8 : Pb ≠ b8 := ne_ty h.kPb h.kb8 (by decide)
  have n_Gb_b8 : Gb ≠ b8 := ne_ty h.kGb h.kb8 (by decide)
  have n_Gb_Pb : Gb ≠ Pb := ne_ty h.kGb h.kPb (by decide)
  have n_gc_b8 : gc ≠ b8 := ne_ty h.kgc h.kb8 (by decide)
  have n_gc_Pb : gc ≠ Pb := ne_ty h.kgc h.kPb (by decide)
  have n_gc_Gb : gc ≠ Gb := ne_ty h.kgc h.kGb (by decide)
  have n_lb_b8 : lb ≠ b8 := h.lne b8 (by simp)
  have n_lb_Pb : lb ≠ Pb := h.lne Pb (by simp)
  have n_lb_Gb : lb ≠ Gb := h.lne Gb (by simp)
  have n_lb_gc : lb ≠ gc := h.lne gc (by simp)
  have n_b13_b8 : b13 ≠ b8 := ne_ty h.kb13 h.kb8 (by decide)
  have n_b13_Pb : b13 ≠ Pb := ne_ty h.kb13 h.kPb (by decide)
  have n_b13_Gb : b13 ≠ Gb := ne_ty h.kb13 h.kGb (by decide)
  have n_b13_gc : b13 ≠ gc := ne_ty h.kb13 h.kgc (by decide)
  have n_b13_lb : b13 ≠ lb := (h.lne b13 (by simp)).symm
  have n_b16_b8 : b16 ≠ b8 := ne_ty h.kb16 h.kb8 (by decide)
  have n_b16_Pb : b16 ≠ Pb := ne_ty h.kb16 h.kPb (by decide)
  have n_b16_Gb : b16 ≠ Gb := ne_ty h.kb16 h.kGb (by decide)
  have n_b16_gc : b16 ≠ gc := ne_ty h.kb16 h.kgc (by decide)
  have n_b16_lb : b16 ≠ lb := (h.lne b16 (by simp)).symm
  have n_b16_b13 : b16 ≠ b13 := ne_ty h.kb16 h.kb13 (by decide)
  have n_b17_b8 : b17 ≠ b8 := ne_ty h.kb17 h.kb8 (by decide)
  have n_b17_Pb : b17 ≠ Pb := ne_ty h.kb17 h.kPb (by decide)
  have n_b17_Gb : b17 ≠ Gb := ne_ty h.kb17 h.kGb (by decide)
  have n_b17_gc : b17 ≠ gc := ne_ty h.kb17 h.kgc (by decide)
  have n_b17_lb : b17 ≠ lb := (h.lne b17 (by simp)).symm
  have n_b17_b13 : b17 ≠ b13 := ne_ty h.kb17 h.kb13 (by decide)
  have n_b17_b16 : b17 ≠ b16 := ne_ty h.kb17 h.kb16 (by decide)
  have n_Rb_b8 : Rb ≠ b8 := ne_ty h.kRb h.kb8 (by decide)
  have n_Rb_Pb : Rb ≠ Pb := ne_ty h.kRb h.kPb (by decide)
  have n_Rb_Gb : Rb ≠ Gb := ne_ty h.kRb h.kGb (by decide)
  have n_Rb_gc : Rb ≠ gc := ne_ty h.kRb h.kgc (by decide)
  have n_Rb_lb : Rb ≠ lb := (h.lne Rb (by simp)).symm
  have n_Rb_b13 : Rb ≠ b13 := ne_ty h.kRb h.kb13 (by decide)
  have n_Rb_b16 : Rb ≠ b16 := ne_ty h.kRb h.kb16 (by decide)
  have n_Rb_b17 : Rb ≠ b17 := ne_ty h.kRb h.kb17 (by decide)
  have n_Zb_b8 : Zb ≠ b8 := ne_ty h.kZb h.kb8 (by decide)
  have n_Zb_Pb : Zb ≠ Pb := ne_ty h.kZb h.kPb (by decide)
  have n_Zb_Gb : Zb ≠ Gb := ne_ty h.kZb h.kGb (by decide)
  have n_Zb_gc : Zb ≠ gc := ne_ty h.kZb h.kgc (by decide)
  have n_Zb_lb : Zb ≠ lb := (h.lne Zb (by simp)).symm
  have n_Zb_b13 : Zb ≠ b13 := ne_ty h.kZb h.kb13 (by decide)
  have n_Zb_b16 : Zb ≠ b16 := ne_ty h.kZb h.kb16 (by decide)
  have n_Zb_b17 : Zb ≠ b17 := ne_ty h.kZb h.kb17 (by decide)
  have n_Zb_Rb : Zb ≠ Rb := ne_ty h.kZb h.kRb (by decide)
  have m_b8 : agMd b8 b13 b16 b17 Gb Pb gc lb Rb Zb cs.length l.length b8 = some .all := by unfold agMd; simp []
  have m_Pb : agMd b8 b13 b16 b17 Gb Pb gc lb Rb Zb cs.length l.length Pb = some (.read 3) := by unfold agMd; simp [n_Pb_b8]
  have m_Gb : agMd b8 b13 b16 b17 Gb Pb gc lb Rb Zb cs.length l.length Gb = some (.read 3) := by unfold agMd; simp [n_Gb_b8, n_Gb_Pb]
  have m_gc : agMd b8 b13 b16 b17 Gb Pb gc lb Rb Zb cs.length l.length gc = some (.read cs.length) := by unfold agMd; simp [n_gc_b8, n_gc_Pb, n_gc_Gb]
  have m_lb : agMd b8 b13 b16 b17 Gb Pb gc lb Rb Zb cs.length l.length lb = some (.read (3 * l.length)) := by unfold agMd; simp [n_lb_b8, n_lb_Pb, n_lb_Gb, n_lb_gc]
  have m_b13 : agMd b8 b13 b16 b17 Gb Pb gc lb Rb Zb cs.length l.length b13 = some (.read 1) := by unfold agMd; simp [n_b13_b8, n_b13_Pb, n_b13_Gb, n_b13_gc, n_b13_lb]
  have m_b16 : agMd b8 b13 b16 b17 Gb Pb gc lb Rb Zb cs.length l.length b16 = some (.read 1) := by unfold agMd; simp [n_b16_b8, n_b16_Pb, n_b16_Gb, n_b16_gc, n_b16_lb, n_b16_b13]
  have m_b17 : agMd b8 b13 b16 b17 Gb Pb gc lb Rb Zb cs.length l.length b17 = some (.read 1) := by unfold agMd; simp [n_b17_b8, n_b17_Pb, n_b17_Gb, n_b17_gc, n_b17_lb, n_b17_b13, n_b17_b16]
  have m_Rb : agMd b8 b13 b16 b17 Gb Pb gc lb Rb Zb cs.length l.length Rb = some (.read l.length) := by unfold agMd; simp [n_Rb_b8, n_Rb_Pb, n_Rb_Gb, n_Rb_gc, n_Rb_lb, n_Rb_b13, n_Rb_b16, n_Rb_b17]
  have m_Zb : agMd b8 b13 b16 b17 Gb Pb gc lb Rb Zb cs.length l.length Zb = some (.read l.length) := by unfold agMd; simp [n_Zb_b8, n_Zb_Pb, n_Zb_Gb, n_Zb_gc, n_Zb_lb, n_Zb_b13, n_Zb_b16, n_Zb_b17, n_Zb_Rb]
  refine ar_msk (by rw [h.sz]; rfl) fun i v v' hd e1 e2 => ?_
  have hi : i ∈ [8, 9, 10, 13, 14, 16, 17, 21, 22, 23, 81, 82, 83, 84, 85, 86, 87, 88, 89, 90, 91, 92, 93, 94, 95, 96, 97, 98, 99, 100, 101, 102, 103, 104, 105, 106] := by simpa only [agDs, Bool.not_eq_false', List.contains_iff_mem] using hd
  simp only [List.mem_cons, List.not_mem_nil, or_false] at hi
  rcases hi with rfl | rfl | rfl | rfl | rfl | rfl | rfl | rfl | rfl | rfl | rfl | rfl | rfl | rfl | rfl | rfl | rfl | rfl | rfl | rfl | rfl | rfl | rfl | rfl | rfl | rfl | rfl | rfl | rfl | rfl | rfl | rfl | rfl | rfl | rfl | rfl
  · rw [h.s8] at e2; cases e1; cases e2; exact .ptr _ _ (idM_some m_b8)
  · rw [h.s9] at e2; cases e1; cases e2; exact .nilSlice _ _
  · rw [h.s10] at e2; cases e1; cases e2; exact .int _ _
  · rw [h.s13] at e2; cases e1; cases e2; exact .ptr _ _ (idM_some m_b13)
  · rw [h.s14] at e2; cases e1; cases e2; exact .int _ _
  · rw [h.s16] at e2; cases e1; cases e2; exact .ptr _ _ (idM_some m_b16)
  · rw [h.s17] at e2; cases e1; cases e2; exact .ptr _ _ (idM_some m_b17)
  · rw [h.su 21 (by omega)] at e2; cases e1; cases e2; exact VR.undef
  · rw [h.su 22 (by omega)] at e2; cases e1; cases e2; exact VR.undef
  · rw [h.su 23 (by omega)] at e2; cases e1; cases e2; exact VR.undef
  · rw [h.su 81 (by omega)] at e2; cases e1; cases e2; exact VR.undef
  · rw [h.su 82 (by omega)] at e2; cases e1; cases e2; exact VR.undef
  · rw [h.su 83 (by omega)] at e2; cases e1; cases e2; exact VR.undef
  · rw [h.su 84 (by omega)] at e2; cases e1; cases e2; exact VR.undef
  · rw [h.su 85 (by omega)] at e2; cases e1; cases e2; exact VR.undef
  · rw [h.su 86 (by omega)] at e2; cases e1; cases e2; exact VR.undef
  · rw [h.su 87 (by omega)] at e2; cases e1; cases e2; exact VR.undef
  · rw [h.su 88 (by omega)] at e2; cases e1; cases e2; exact VR.undef
  · rw [h.su 89 (by omega)] at e2; cases e1; cases e2; exact VR.undef
  · rw [h.su 90 (by omega)] at e2; cases e1; cases e2; exact VR.undef
  · rw [h.su 91 (by omega)] at e2; cases e1; cases e2; exact VR.undef
  · rw [h.su 92 (by omega)] at e2; cases e1; cases e2; exact VR.undef
  · rw [h.su 93 (by omega)] at e2; cases e1; cases e2; exact VR.undef
  · rw [h.su 94 (by omega)] at e2; cases e1; cases e2; exact VR.undef
  · rw [h.su 95 (by omega)] at e2; cases e1; cases e2; exact VR.undef
  · rw [h.su 96 (by omega)] at e2; cases e1; cases e2; exact VR.undef
  · rw [h.su 97 (by omega)] at e2; cases e1; cases e2; exact VR.undef
  · rw [h.su 98 (by omega)] at e2; cases e1; cases e2; exact VR.undef
  · rw [h.su 99 (by omega)] at e2; cases e1; cases e2; exact VR.undef
  · rw [h.su 100 (by omega)] at e2; cases e1; cases e2; exact VR.undef
  · rw [h.su 101 (by omega)] at e2; cases e1; cases e2; exact VR.undef
  · rw [h.su 102 (by omega)] at e2; cases e1; cases e2; exact VR.undef
  · rw [h.su 103 (by omega)] at e2; cases e1; cases e2; exact VR.undef
  · rw [h.su 104 (by omega)] at e2; cases e1; cases e2; exact VR.undef
  · rw [h.su 105 (by omega)] at e2; cases e1; cases e2; exact VR.undef
  · rw [h.su 106 (by omega)] at e2; cases e1; cases e2; exact VR.undef
set_option maxHeartbeats 4000000 in
theorem TailD.pkw (h : TailD q st cs l msg r rt zt T b8 b13 b16 b17 Gb Pb gc lb Rb Zb capg capR capZ CG Cg CP Cl CR CZ g0 g1 eL) :
    PkW (shadM st.w (agMd b8 b13 b16 b17 Gb Pb gc lb Rb Zb cs.length l.length)) Pb Gb (.slice (some ⟨lb, 0, none⟩) l.length l.length) cs l msg ∧
    Blk (shadM st.w (agMd b8 b13 b16 b17 Gb Pb gc lb Rb Zb cs.length l.length)) b8 46 #[.int .u64 0, .int .u64 0] ∧
    (shadM st.w (agMd b8 b13 b16 b17 Gb Pb gc lb Rb Zb cs.length l.length)).cell? ⟨b13, 0, none⟩ = some (.pointer (some ⟨Pb, 0, none⟩)) ∧
    (shadM st.w (agMd b8 b13 b16 b17 Gb Pb gc lb Rb Zb cs.length l.length)).cell? ⟨b16, 0, none⟩ = some (.slice (some ⟨Rb, 0, none⟩) l.length capR) ∧
    (shadM st.w (agMd b8 b13 b16 b17 Gb Pb gc lb Rb Zb cs.length l.length)).cell? ⟨b17, 0, none⟩ = some (.slice (some ⟨Zb, 0, none⟩) l.length capZ) ∧
    (∀ k, k < l.length → (shadM st.w (agMd b8 b13 b16 b17 Gb Pb gc lb Rb Zb cs.length l.length)).cell? ⟨Rb, k, none⟩ = some (.bool (rt k))) ∧
    (∀ k, k < l.length → (shadM st.w (agMd b8 b13 b16 b17 Gb Pb gc lb Rb Zb cs.length l.length)).cell? ⟨Zb, k, none⟩ = some (.int .u64 (zt.getD k 0))) := by
  have n_Pb_b8 : Pb ≠ b8 := ne_ty h.kPb h.kb8 (by decide)
  have n_Gb_b8 : Gb ≠ b8 := ne_ty h.kGb h.kb8 (by decide)
  have n_Gb_Pb : Gb ≠ Pb := ne_ty h.kGb h.kPb (by decide)
  have n_gc_b8 : gc ≠ b8 := ne_ty h.kgc h.kb8 (by decide)
  have n_gc_Pb : gc ≠ Pb := ne_ty h.kgc h.kPb (by decide)
  have n_gc_Gb : gc ≠ Gb := ne_ty h.kgc h.kGb (by decide)
  have n_lb_b8 : lb ≠ b8 := h.lne b8 (by simp)
  have n_lb_Pb : lb ≠ Pb := h.lne Pb (by simp)
  have n_lb_Gb : lb ≠ Gb := h.lne Gb (by simp)
  have n_lb_gc : lb ≠ gc := h.lne gc (by simp)
  have n_b13_b8 : b13 ≠ b8 := ne_ty h.kb13 h.kb8 (by decide)
  have n_b13_Pb : b13 ≠ Pb := ne_ty h.kb13 h.kPb (by decide)
  have n_b13_Gb : b13 ≠ Gb := ne_ty h.kb13 h.kGb (by decide)
  have n_b13_gc : b13 ≠ gc := ne_ty h.kb13 h.kgc (by decide)
  have n_b13_lb : b13 ≠ lb := (h.lne b13 (by simp)).symm
  have n_b16_b8 : b16 ≠ b8 := ne_ty h.kb16 h.kb8 (by decide)
  have n_b16_Pb : b16 ≠ Pb := ne_ty h.kb16 h.kPb (by decide)
  have n_b16_Gb : b16 ≠ Gb := ne_ty h.kb16 h.kGb (by decide)
  have n_b16_gc : b16 ≠ gc := ne_ty h.kb16 h.kgc (by decide)
  have n_b16_lb : b16 ≠ lb := (h.lne b16 (by simp)).symm
  have n_b16_b13 : b16 ≠ b13 := ne_ty h.kb16 h.kb13 (by decide)
  have n_b17_b8 : b17 ≠ b8 := ne_ty h.kb17 h.kb8 (by decide)
  have n_b17_Pb : b17 ≠ Pb := ne_ty h.kb17 h.kPb (by decide)
  have n_b17_Gb : b17 ≠ Gb := ne_ty h.kb17 h.kGb (by decide)
  have n_b17_gc : b17 ≠ gc := ne_ty h.kb17 h.kgc (by decide)
  have n_b17_lb : b17 ≠ lb := (h.lne b17 (by simp)).symm
  have n_b17_b13 : b17 ≠ b13 := ne_ty h.kb17 h.kb13 (by decide)
  have n_b17_b16 : b17 ≠ b16 := ne_ty h.kb17 h.kb16 (by decide)
  have n_Rb_b8 : Rb ≠ b8 := ne_ty h.kRb h.kb8 (by decide)
  have n_Rb_Pb : Rb ≠ Pb := ne_ty h.kRb h.kPb (by decide)
  have n_Rb_Gb : Rb ≠ Gb := ne_ty h.kRb h.kGb (by decide)
  have n_Rb_gc : Rb ≠ gc := ne_ty h.kRb h.kgc (by decide)
  have n_Rb_lb : Rb ≠ lb := (h.lne Rb (by simp)).symm
  have n_Rb_b13 : Rb ≠ b13 := ne_ty h.kRb h.kb13 (by decide)
  have n_Rb_b16 : Rb ≠ b16 := ne_ty h.kRb h.kb16 (by decide)
  have n_Rb_b17 : Rb ≠ b17 := ne_ty h.kRb h.kb17 (by decide)
  have n_Zb_b8 : Zb ≠ b8 := ne_ty h.kZb h.kb8 (by decide)
  have n_Zb_Pb : Zb ≠ Pb := ne_ty h.kZb h.kPb (by decide)
  have n_Zb_Gb : Zb ≠ Gb := ne_ty h.kZb h.kGb (by decide)
  have n_Zb_gc : Zb ≠ gc := ne_ty h.kZb h.kgc (by decide)
  have n_Zb_lb : Zb ≠ lb := (h.lne Zb (by simp)).symm
  have n_Zb_b13 : Zb ≠ b13 := ne_ty h.kZb h.kb13 (by decide)
  have n_Zb_b16 : Zb ≠ b16 := ne_ty h.kZb h.kb16 (by decide)
  have n_Zb_b17 : Zb ≠ b17 := ne_ty h.kZb h.kb17 (by decide)
  have n_Zb_Rb : Zb ≠ Rb := ne_ty h.kZb h.kRb (by decide)
  have m_b8 : agMd b8 b13 b16 b17 Gb Pb gc lb Rb Zb cs.length l.length b8 = some .all := by unfold agMd; simp []
  have m_Pb : agMd b8 b13 b16 b17 Gb Pb gc lb Rb Zb cs.length l.length Pb = some (.read 3) := by unfold agMd; simp [n_Pb_b8]
  have m_Gb : agMd b8 b13 b16 b17 Gb Pb gc lb Rb Zb cs.length l.length Gb = some (.read 3) := by unfold agMd; simp [n_Gb_b8, n_Gb_Pb]
  have m_gc : agMd b8 b13 b16 b17 Gb Pb gc lb Rb Zb cs.length l.length gc = some (.read cs.length) := by unfold agMd; simp [n_gc_b8, n_gc_Pb, n_gc_Gb]
  have m_lb : agMd b8 b13 b16 b17 Gb Pb gc lb Rb Zb cs.length l.length lb = some (.read (3 * l.length)) := by unfold agMd; simp [n_lb_b8, n_lb_Pb, n_lb_Gb, n_lb_gc]
  have m_b13 : agMd b8 b13 b16 b17 Gb Pb gc lb Rb Zb cs.length l.length b13 = some (.read 1) := by unfold agMd; simp [n_b13_b8, n_b13_Pb, n_b13_Gb, n_b13_gc, n_b13_lb]
  have m_b16 : agMd b8 b13 b16 b17 Gb Pb gc lb Rb Zb cs.length l.length b16 = some (.read 1) := by unfold agMd; simp [n_b16_b8, n_b16_Pb, n_b16_Gb, n_b16_gc, n_b16_lb, n_b16_b13]
  have m_b17 : agMd b8 b13 b16 b17 Gb Pb gc lb Rb Zb cs.length l.length b17 = some (.read 1) := by unfold agMd; simp [n_b17_b8, n_b17_Pb, n_b17_Gb, n_b17_gc, n_b17_lb, n_b17_b13, n_b17_b16]
  have m_Rb : agMd b8 b13 b16 b17 Gb Pb gc lb Rb Zb cs.length l.length Rb = some (.read l.length) := by unfold agMd; simp [n_Rb_b8, n_Rb_Pb, n_Rb_Gb, n_Rb_gc, n_Rb_lb, n_Rb_b13, n_Rb_b16, n_Rb_b17]
  have m_Zb : agMd b8 b13 b16 b17 Gb Pb gc lb Rb Zb cs.length l.length Zb = some (.read l.length) := by unfold agMd; simp [n_Zb_b8, n_Zb_Pb, n_Zb_Gb, n_Zb_gc, n_Zb_lb, n_Zb_b13, n_Zb_b16, n_Zb_b17, n_Zb_Rb]
  have lt : ∀ {b : Nat} {o : Obj}, st.w.heap[b]? = some o → b < (shadM st.w (agMd b8 b13 b16 b17 Gb Pb gc lb Rb Zb cs.length l.length)).heap.size := fun hb => by rw [shadM_size]; exact lt_of_block hb
  obtain ⟨p1, p2, p3, p4⟩ := h.pcell
  obtain ⟨G1, G2, G3, G4, -, -⟩ := h.gcell
  refine ⟨⟨⟨?_, ?_, ?_⟩, lt h.kPb, ⟨comCells_length l, some ⟨lb, 0, none⟩, l.length, rfl, Nat.le_refl _, fun hl => ⟨lb, 0, rfl, lt h.klb, fun i u hu => ?_⟩⟩, ⟨gc, capg, ?_, lt h.kGb, lt h.kgc, fun hc => ?_⟩⟩, shadM_all m_b8 h.kb8, ?_, ?_, ?_, fun k hk => ?_, fun k hk => ?_⟩
  · rw [h.cell m_Pb h.kPb (by omega) (by omega)]; exact p2
  · rw [h.cell m_Pb h.kPb (by omega) (by omega)]; exact p3
  · rw [h.cell m_Pb h.kPb (by omega) (by omega)]; exact p4
  · have : i < 3 * l.length := by have := comCells_length l; have := (List.getElem?_eq_some_iff.1 hu).1; omega
    rw [Nat.zero_add, h.cell m_lb h.klb this h.lcell.1]; exact h.lcell.2 i u this hu
  · rw [h.cell m_Gb h.kGb (by omega) G1]; exact G4
  · rw [h.cell m_gc h.kgc hc h.gcl.1]; exact h.gcl.2 0 hc
  · rw [h.cell m_b13 h.kb13 (by omega) (by simp)]; rfl
  · rw [h.cell m_b16 h.kb16 (by omega) (by simp)]; rfl
  · rw [h.cell m_b17 h.kb17 (by omega) (by simp)]; rfl
  · rw [h.cell m_Rb h.kRb hk (Nat.le_of_eq h.rcell.1.symm)]; exact h.rcell.2 k hk
  · rw [h.cell m_Zb h.kZb hk (Nat.le_of_eq h.zcell.1.symm)]; exact h.zcell.2 k hk
theorem agMd_all {b : Nat} (h : agMd b8 b13 b16 b17 Gb Pb gc lb Rb Zb cs.length l.length b = some .all) : b = b8 := by
  unfold agMd at h
  repeat' split at h
  all_goals first | assumption | (cases h; done) | skip
structure TailV (md : Nat → Option Md) (st : St Gho) (l : List Cm) (cs : List Int) (msg : ByteArray) (rt : Nat → Bool) (zt : List Int) (b8 b13 b16 b17 Gb Pb lb Rb Zb capR capZ : Nat) : Prop where
  pk : PkW (shadM st.w md) Pb Gb (.slice (some ⟨lb, 0, none⟩) l.length l.length) cs l msg
  b8 : Blk (shadM st.w md) b8 46 #[.int .u64 0, .int .u64 0]
  b13 : (shadM st.w md).cell? ⟨b13, 0, none⟩ = some (.pointer (some ⟨Pb, 0, none⟩))
  b16 : (shadM st.w md).cell? ⟨b16, 0, none⟩ = some (.slice (some ⟨Rb, 0, none⟩) l.length capR)
  b17 : (shadM st.w md).cell? ⟨b17, 0, none⟩ = some (.slice (some ⟨Zb, 0, none⟩) l.length capZ)
  rb : ∀ k, k < l.length → (shadM st.w md).cell? ⟨Rb, k, none⟩ = some (.bool (rt k))
  zb : ∀ k, k < l.length → (shadM st.w md).cell? ⟨Zb, k, none⟩ = some (.int .u64 (zt.getD k 0))
theorem TailD.md (h : TailD q st cs l msg r rt zt T b8 b13 b16 b17 Gb Pb gc lb Rb Zb capg capR capZ CG Cg CP Cl CR CZ g0 g1 eL) : ∃ md, AR (fun f => aS f = true) (idM md) (msk agDs (agU b8 b13 b16 b17 r)) (msk agDs T) ∧ SeesM q aS md st ∧ TailV md st l cs msg rt zt b8 b13 b16 b17 Gb Pb lb Rb Zb capR capZ ∧ ∀ b, md b = some .all → b = b8 :=
  let ⟨p1, p2, p3, p4, p5, p6, p7⟩ := h.pkw
  ⟨_, h.ar, h.sees, ⟨p1, p2, p3, p4, p5, p6, p7⟩, fun b hb => agMd_all hb⟩
end
section
variable {q : Prm} (hP : q.P = Try.prog) {num : Nat} {K : List (Nat × Obj)} {cs : List Int} {l : List Cm} {msg : ByteArray} {r : Int} {rt : Nat → Bool} {zt : List Int} {T : Array Value} {b8 b13 b16 b17 Gb Pb gc lb Rb Zb capg capR capZ : Nat} {CG Cg CP Cl CR CZ : Array Value} {g0 g1 : Value} {eL : TypeId}
include hP
set_option maxRecDepth 100000 in
set_option maxHeartbeats 4000000 in
theorem tailGo {st : St Gho} (hA : SAt 0 num K st) (hI : Inv q st) (h : TailD q st cs l msg r rt zt T b8 b13 b16 b17 Gb Pb gc lb Rb Zb capg capR capZ CG Cg CP Cl CR CZ g0 g1 eL) (hK : ∀ b o, (b, o) ∈ K → b ≠ b8) {c : Frame} {bs : List Frame} {Ch : Nat → Goroutine → St Gho → Prop}
    (fin : ∀ v st', AggPost r zt (wrongTo rt l l.length) num K v st' → Inv q st' → TT (cfg q) 0 Ch (G (c.finish v) bs) st') :
    TT (cfg q) 0 Ch (G ((base 16).at ⟨T, []⟩ [.code agTail]) (c :: bs)) st := by
  have hfn : Try.prog.funcs[(base 16).fn]? = some Try.f16 := Try.func16
  obtain ⟨md, har, hsee, hpkw, hall⟩ := h.md
  have hmk : Sh q aS agDs (roM md) (· = b8) st (fun a w => a = ⟨agU b8 b13 b16 b17 r, []⟩ ∧ ∃ τ d, w = World.on (shadM st.w md) τ d) ⟨T, []⟩ st := Sh.make (a := ⟨agU b8 b13 b16 b17 r, []⟩) (a' := ⟨T, []⟩) hsee hI hall har rfl rfl ⟨rfl, st.w.tape, st.w.drawn, rfl⟩
  refine TT.piece (N := fun _ _ => False) (R := fun a w => ∃ v, (Go.results Try.f16 a.tmps).run Try.prog w = .ok v w ∧ TailPost r zt (wrongTo rt l l.length) (shadM st.w md) v w) hP aS_ok hI agTail_ok rfl agRes_ok hmk ?_ ?_ ?_
  · rintro a w τ d ⟨rfl, τ', d', rfl⟩
    obtain ⟨q1, q2, q3, q4, q5, q6, q7⟩ := hpkw
    have q0 : PkW (World.on (shadM st.w md) τ d) Pb Gb (.slice (some ⟨lb, 0, none⟩) l.length l.length) cs l msg := ⟨q1.cells, q1.lt, q1.coms, q1.key⟩
    refine Code.wp_mono ?_ (tailC (w := World.on (shadM st.w md) τ d) (n := l.length) (zt := zt) (rt := rt) (r := r) q0 rfl h.l9 h.zl q2 q3 q4 q5 q6 ⟨some ⟨Zb, 0, none⟩, capZ, ?_, ?_, fun hl => ⟨Zb, 0, rfl, ?_, fun i hi => ?_⟩⟩)
    · rintro e a w' ⟨h1, h2, v, h3, h4⟩
      exact .inr ⟨h1, h2, v, h3, h4⟩
    · rw [h.zl]
    · rw [h.zl]; exact h.cz
    · show Zb < (shadM st.w md).heap.size
      rw [shadM_size]; exact lt_of_block h.kZb
    · rw [Nat.zero_add]; exact q7 i (by rw [← h.zl]; exact hi)
  · rintro a2 st' ⟨_, _, _, _, _, _, _, _, _, _, _, hF⟩
    exact hF.elim
  · intro a2 st' todo hs
    refine TT.ret hP aS_ok hI rfl hfn (agRes_ok _ hfn) hs fun v v' ρ s st2 hH hV hv hR => ?_
    obtain ⟨τ, d, hR⟩ := hR
    have hA2 : SAt 0 num K st2 := hA.mn hV.2.2.2.1 hK
    rcases hR with ⟨h0, rfl⟩ | ⟨h0, W, rfl, hown⟩
    · have hv' := VR.same (ρ := fun _ => none) (ρ' := ρ) (fun b c x => by cases x) (fun b c x => by cases x) (solB_sol 4 _ (by simp [solB])) (plainV_rel 4 _ (by simp [plainV])) hv
      subst hv'
      exact fin _ st2 (.inl ⟨h0, rfl, hA2⟩) hV.2.1
    · obtain ⟨o1, o2⟩ := hown
      rcases o2 with ⟨-, o2⟩ | ⟨g, cap, cur, rfl, o3, o4, o5, o6, o7, o8⟩
      · exact absurd (List.length_eq_zero_iff.1 o2) h0
      have hsz : st.w.heap.size ≤ g := by rw [shadM_size] at o3; exact o3
      have hrg : roM md g = .all := by
        unfold roM
        cases hm : md g with
        | none => rfl
        | some m =>
          obtain ⟨-, -, C, e, fz, hb, -⟩ := hsee g m hm
          have := lt_of_block hb
          omega
      obtain ⟨c', C', e1, e2, e3⟩ := hH.blkAll hrg o4
      obtain ⟨f1, f2, f3⟩ := fresh_of hV e1 hrg hsz
      have hv2 : v' = .tuple #[.agg #[.int .u64 0, .int .u64 0], .slice (some ⟨c', 0, none⟩) (wrongTo rt l l.length).length cap, .int .i64 14] := by
        cases hv with
        | @tuple _ x' hx h1 =>
          have hz : x'.size = 3 := by simpa using hx.symm
          have x0 := h1 0 _ (x'[0]'(by omega)) rfl (Array.getElem?_eq_getElem (by omega))
          have x1 := h1 1 _ (x'[1]'(by omega)) rfl (Array.getElem?_eq_getElem (by omega))
          have x2 := h1 2 _ (x'[2]'(by omega)) rfl (Array.getElem?_eq_getElem (by omega))
          have y0 := VR.same (ρ := fun _ => none) (ρ' := ρ) (fun b c x => by cases x) (fun b c x => by cases x) (solB_sol 4 _ (by simp [solB])) (plainV_rel 4 _ (by simp [plainV])) x0
          have y2 := VR.same (ρ := fun _ => none) (ρ' := ρ) (fun b c x => by cases x) (fun b c x => by cases x) (solB_sol 4 _ (by simp [solB])) (plainV_rel 4 _ (by simp [plainV])) x2
          obtain ⟨c2, z1, z2⟩ := x1.sliceI
          rw [e1] at z1; cases z1
          refine congrArg Value.tuple (Array.ext hz fun i i1 i2 => ?_)
          have : i < 3 := by simpa using i2
          match i, this with
          | 0, _ => exact y0
          | 1, _ => exact z2
          | 2, _ => exact y2
      subst hv2
      have hnew : SAt 0 num ((c', .cells C' 3 (0, 0)) :: K) st2 := hA2.more e2 (.inl fun off => f2 _ rfl rfl) f3
      refine fin _ st2 (.inr ⟨h0, c', cap, C', rfl, hnew, o5, ?_, fun j hj => ?_⟩) hV.2.1
      · rw [← e3.1, o7]; omega
      · have hcur : cur[j]? = some (.int .i64 ((wrongTo rt l l.length).getD j 0)) := by
          have h1 : (cur.toList.take ((wrongTo rt l l.length).length * 1))[j]? = cur[j]? := by
            rw [List.getElem?_take, if_pos (by omega), Array.getElem?_toList]
          rw [o8] at h1
          rw [← h1, List.getElem?_map, List.getElem?_eq_getElem hj]
          simp [List.getD_eq_getElem?_getD, hj]
        obtain ⟨v2, h1, h2⟩ := e3.get hcur
        rw [h1]
        cases h2; rfl
end
end Go.Proofs.Ytpfpokjaeffbjab.Cc
namespace Go.Proofs.Ytpfpokjaeffbjab.Cc
open Go.Conc Go.ConcN Go.ConcM Go.RowKit Go.Conc.Lib Go.ConcR.Gen
open Go.ConcR (KK wgBlock WgAt stA smA rd wr mk DC0)
set_option linter.unusedVariables false
theorem n_disable : (Try.f80.name == "runtime.NumGoroutine") = false := by kernel_rfl
theorem b_disable : Try.f80.body.isNone = true := by kernel_rfl
theorem x_disable : Extern.findNext Try.f80 = none := by kernel_rfl
theorem f_disable : Extern.find Try.f80 = some (fun _ => do mark .disable; pure Extern.Race.none_) := by kernel_rfl
theorem n_enable : (Try.f81.name == "runtime.NumGoroutine") = false := by kernel_rfl
theorem b_enable : Try.f81.body.isNone = true := by kernel_rfl
theorem x_enable : Extern.findNext Try.f81 = none := by kernel_rfl
theorem f_enable : Extern.find Try.f81 = some (fun _ => do mark .enable; pure Extern.Race.none_) := by kernel_rfl
theorem n_acq : (Try.f94.name == "runtime.NumGoroutine") = false := by kernel_rfl
theorem b_acq : Try.f94.body.isNone = true := by kernel_rfl
theorem x_acq : Extern.findNext Try.f94 = none := by kernel_rfl
theorem f_acq : Extern.find Try.f94 = some (Extern.Race.marked .acquire) := by kernel_rfl
theorem n_rel : (Try.f79.name == "runtime.NumGoroutine") = false := by kernel_rfl
theorem b_rel : Try.f79.body.isNone = true := by kernel_rfl
theorem x_rel : Extern.findNext Try.f79 = none := by kernel_rfl
theorem f_rel : Extern.find Try.f79 = some (Extern.Race.marked .releaseMerge) := by kernel_rfl
theorem n_cas : (Try.f104.name == "runtime.NumGoroutine") = false := by kernel_rfl
theorem b_cas : Try.f104.body.isNone = true := by kernel_rfl
theorem x_cas : Extern.findNext Try.f104 = none := by kernel_rfl
theorem f_cas : Extern.find Try.f104 = some (Extern.Atomic.casT (.int .i32)) := by kernel_rfl
theorem n_add : (Try.f106.name == "runtime.NumGoroutine") = false := by kernel_rfl
theorem b_add : Try.f106.body.isNone = true := by kernel_rfl
theorem x_add : Extern.findNext Try.f106 = none := by kernel_rfl
theorem f_add : Extern.find Try.f106 = some (Extern.Atomic.update (Op.intArith .add) .i32 true) := by kernel_rfl
theorem n_spin : (Try.f118.name == "runtime.NumGoroutine") = false := by kernel_rfl
theorem b_spin : Try.f118.body.isNone = true := by kernel_rfl
theorem x_spin : Extern.findNext Try.f118 = none := by kernel_rfl
theorem f_spin : Extern.find Try.f118 = some (Extern.Sync.canSpin) := by kernel_rfl
theorem n_do : (Try.f119.name == "runtime.NumGoroutine") = false := by kernel_rfl
theorem b_do : Try.f119.body.isNone = true := by kernel_rfl
theorem x_do : Extern.findNext Try.f119 = none := by kernel_rfl
theorem f_do : Extern.find Try.f119 = some (fun _ => pure (.tuple #[])) := by kernel_rfl
theorem n_nano : (Try.f121.name == "runtime.NumGoroutine") = false := by kernel_rfl
theorem b_nano : Try.f121.body.isNone = true := by kernel_rfl
theorem x_nano : Extern.findNext Try.f121 = none := by kernel_rfl
theorem f_nano : Extern.find Try.f121 = some (Extern.OsHooks.nano) := by kernel_rfl
theorem q_nano : Try.f121.norace = true := by kernel_rfl
theorem n_sem : (Try.f122.name == "runtime.NumGoroutine") = false := by kernel_rfl
theorem b_sem : Try.f122.body.isNone = true := by kernel_rfl
theorem x_sem : Extern.findNext Try.f122 = none := by kernel_rfl
theorem f_sem : Extern.find Try.f122 = some (Extern.Sync.semacquire) := by kernel_rfl
theorem n_srel : (Try.f124.name == "runtime.NumGoroutine") = false := by kernel_rfl
theorem b_srel : Try.f124.body.isNone = true := by kernel_rfl
theorem x_srel : Extern.findNext Try.f124 = none := by kernel_rfl
theorem f_srel : Extern.find Try.f124 = some (Extern.Sync.semrelease) := by kernel_rfl
theorem n_slow : (Try.f105.name == "runtime.NumGoroutine") = false := by kernel_rfl
theorem n_uslow : (Try.f107.name == "runtime.NumGoroutine") = false := by kernel_rfl
theorem n_ilock : (Try.f71.name == "runtime.NumGoroutine") = false := by kernel_rfl
theorem n_iunlock : (Try.f72.name == "runtime.NumGoroutine") = false := by kernel_rfl
theorem q_slow : (Try.prog.funcs[(base 105).fn]?).any (·.norace) = true := by kernel_rfl
theorem q_uslow : (Try.prog.funcs[(base 107).fn]?).any (·.norace) = true := by kernel_rfl
theorem q_iunlock : (Try.prog.funcs[(base 72).fn]?).any (·.norace) = true := by kernel_rfl
theorem u_pim : Try.prog.underlying 177 = some (.pointer 78) := by kernel_rfl
theorem z_im : (Try.prog.info? 78).map (fun i => decide (i.size = 0)) = some false := by kernel_rfl
section
variable {main : Bool} {b : Frame} {a : Act} {kk : List Item} {cs : List Frame} {w : World} {ops : Array Oper} {i : Nat} {rest : List Nat} {o : Oper}
theorem stepG_loadQ {x : Operand} (ho : ops[i]? = some o) (hw : Region.wanted o (yielded ops a.tmps) = true) (hk : b.kind ≠ .early) (hop : o.op = .load 21 x)
    {ad : Addr} {v : Int} (hx : a.eval x = .pointer (some ad)) (hc : w.cell? ad = some (.int .i32 v)) (hq : (Try.prog.funcs[b.fn]?).any (·.norace) = true) :
    stepG Try.prog main (G (b.at a (.inRegion ops (i :: rest) :: kk)) cs) w = .go (G (b.at (a.put o.dst (.int .i32 v)) (.inRegion ops rest :: kk)) cs) w #[] := by
  have hr : (execOp a.eval o).run Try.prog w = .ok (.value (.int .i32 v)) w := by
    unfold execOp
    simp only [hop, hx]
    simp [go_sem, hc]
  have he : (execOp a.eval o).events Try.prog w #[] = #[⟨.cell ad, false, false⟩] := by
    unfold execOp
    simp only [hop, hx]
    simp [go_sem, hc]
  rw [stepG_value ho hw hk hr]
  unfold listed
  rw [he, seen_def, hq]
  simp [seenStep]
end
end Go.Proofs.Ytpfpokjaeffbjab.Cc
