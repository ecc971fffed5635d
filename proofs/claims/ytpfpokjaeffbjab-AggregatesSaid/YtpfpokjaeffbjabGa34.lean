/- Part of the proof: AgK. -/
import Derived.Test.YtpfpokjaeffbjabGa22
import Derived.Test.YtpfpokjaeffbjabGa32
import Derived.Test.YtpfpokjaeffbjabGa33
namespace Go.Proofs.Ytpfpokjaeffbjab.Cc
open Go.Conc Go.ConcN Go.ConcM Go.RowKit Go.Conc.Lib Go.ConcR.Gen
open Go.ConcR (KK wgBlock WgAt stA smA rd wr mk DC0)
open Go.Proofs.Ytpfpokjaeffbjab.Pl Go.Proofs.Ytpfpokjaeffbjab.Dpl Go.Proofs.Ytpfpokjaeffbjab.Gpl Go.Proofs.Ytpfpokjaeffbjab.Kpl Go.Proofs.Ytpfpokjaeffbjab.Mem Go.Proofs.Ytpfpokjaeffbjab.Ver Go.Proofs.Ytpfpokjaeffbjab.Pkg Go.Proofs.Ytpfpokjaeffbjab.Sls Go.Proofs.Ytpfpokjaeffbjab.Agt Go.Proofs.Ytpfpokjaeffbjab.Agp Go.Proofs.Ytpfpokjaeffbjab.Gof
open Go.Proofs.Ytpfpokjaeffbjab.Fld hiding base
set_option linter.unusedVariables false
set_option linter.unusedSimpArgs false
structure AgM (cs : List Int) (l : List Cm) (msg : ByteArray) (n cv : Int) (nv : Nat → Int) : Prop where
  n0 : 0 ≤ n
  n9 : n ≤ 9
  c9 : cs.length ≤ 9
  c0 : 0 < cs.length
  el : ∀ j, j < cs.length → isEl (cs.getD j 0) = true
  gd : Kpl.Good n l
  l9 : l.length ≤ 9
  ms : msg.size ≤ 1000000
  nb : ∀ k, k < l.length → 0 ≤ nv k ∧ nv k < 18446744073709551616
  cb : 0 ≤ cv ∧ cv < 18446744073709551616
structure CoreD (q : Prm) (st : St Gho) (K : List (Nat × Obj)) (cs : List Int) (l : List Cm) (msg : ByteArray) (t n r cv : Int) (nv : Nat → Int) (T : Array Value) (B b8 b11 b13 b15 b16 b17 Gb gc Pb lb Rb Zb Wg capg bS oS cap : Nat) (Cg Cl : Array Value) (eL : TypeId) : Prop where
  sz : T.size = 107
  s3 : T[3]? = some (.slice (some ⟨bS, oS, none⟩) l.length cap)
  s8 : T[8]? = some (.pointer (some ⟨b8, 0, none⟩))
  s9 : T[9]? = some (.slice none 0 0)
  s10 : T[10]? = some (.int .i64 0)
  s11 : T[11]? = some (.pointer (some ⟨b11, 0, none⟩))
  s13 : T[13]? = some (.pointer (some ⟨b13, 0, none⟩))
  s14 : T[14]? = some (.int .u64 r)
  s15 : T[15]? = some (.pointer (some ⟨b15, 0, none⟩))
  s16 : T[16]? = some (.pointer (some ⟨b16, 0, none⟩))
  s17 : T[17]? = some (.pointer (some ⟨b17, 0, none⟩))
  s18 : T[18]? = some (.pointer (some ⟨Wg, 0, none⟩))
  su : ∀ i, (19 ≤ i ∧ i < 24) ∨ (70 ≤ i ∧ i < 107) → T[i]? = some undef
  kb8 : st.w.heap[b8]? = some (Obj.cells (#[.int .u64 0, .int .u64 0]) 46 (0, 0))
  kb11 : st.w.heap[b11]? = some (Obj.cells (#[.pointer (some ⟨Gb, 0, none⟩)]) 69 (0, 0))
  kb13 : st.w.heap[b13]? = some (Obj.cells (#[.pointer (some ⟨Pb, 0, none⟩)]) 90 (0, 0))
  kb15 : st.w.heap[b15]? = some (Obj.cells (#[.int .u64 cv]) 72 (0, 0))
  kb16 : st.w.heap[b16]? = some (Obj.cells (#[.slice (some ⟨Rb, 0, none⟩) l.length l.length]) 100 (0, 0))
  kb17 : st.w.heap[b17]? = some (Obj.cells (#[.slice (some ⟨Zb, 0, none⟩) l.length l.length]) 101 (0, 0))
  kGb : st.w.heap[Gb]? = some (Obj.cells (newGrp t n (.slice (some ⟨gc, 0, none⟩) cs.length capg)) 143 (0, 0))
  kgc : st.w.heap[gc]? = some (Obj.cells (Cg) 85 (0, 0))
  kPb : st.w.heap[Pb]? = some (Obj.cells (#[.pointer (some ⟨Gb, 0, none⟩), .slice (some ⟨lb, 0, none⟩) l.length l.length, .string msg]) 146 (0, 0))
  klb : st.w.heap[lb]? = some (Obj.cells (Cl) eL (0, 0))
  kRb : st.w.heap[Rb]? = some (Obj.cells (madeCells #[.bool false] l.length) 4 (0, 0))
  kZb : st.w.heap[Zb]? = some (Obj.cells (madeCells #[.int .u64 0] l.length) 72 (0, 0))
  kWg : st.w.heap[Wg]? = some (Obj.cells (#[.int .u64 0, .int .u32 0]) 107 (0, 0))
  gcl : cs.length ≤ Cg.size ∧ ∀ j, j < cs.length → Cg[j]? = some (.int .u64 (cs.getD j 0))
  lcell : 3 * l.length ≤ Cl.size ∧ ∀ j u, j < 3 * l.length → (comCells l)[j]? = some u → Cl[j]? = some u
  nbz : b15 ≠ Zb
  lne : ∀ b ∈ [b8, b11, b13, b15, b16, b17, Gb, gc, Pb, Rb, Zb, Wg], lb ≠ b
  low : ∀ b ∈ [b8, b11, b13, b15, b16, b17, Gb, gc, Pb, lb, Rb, Zb, Wg], q.P.globals.size ≤ b
  new : ∀ b ∈ [b8, b11, b13, b15, b16, b17, Gb, gc, Pb, lb, Rb, Zb, Wg], B ≤ b
  nd : ∀ b ∈ [b8, b11, b13, b15, b16, b17, Gb, gc, Pb, lb, Rb, Zb, Wg], ¬ st.γ.dead b
  ex : ∀ b ∈ [b8, b11, b13, b15, b16, b17, Gb, gc, Pb, lb, Rb, Zb, Wg], ∀ off, st.γ.ex 0 (ca b off)
  sh : ∃ ob, (bS, ob) ∈ K ∧ ∀ (w : World) (k : Nat), w.heap[bS]? = some ob → k < l.length → w.cell? ⟨bS, oS + k, none⟩ = some (.int .u64 (nv k))
  hcap : l.length ≤ cap
  kB : ∀ b o, (b, o) ∈ K → b < B
def agScene (num : Nat) (cs : List Int) (l : List Cm) (msg : ByteArray) (t n cv : Int) (nv : Nat → Int) (Gb gc Rb Zb Wg capg : Nat) : Scene :=
  { n0 := num, n := l.length, Gb := Gb, Wg := Wg, Zb := Zb, Rb := Rb, g0 := .int .i64 t, g1 := .int .i64 n, g2 := .slice (some ⟨gc, 0, none⟩) cs.length capg, nn := n.toNat, vals := fun id => pub cs id, zv := fun k => .int .u64 (nv k), rv := fun k => .bool (rightP (nv k) cv cs l msg k) }
def yArr (y : Nat → Value) : Array Value := #[y 0, y 1, y 2, y 3, y 4, y 5, y 6, y 7, y 8, y 9, y 10, y 11, y 12, y 13, y 14, y 15, y 16, y 17, y 18, y 19, y 20, y 21, y 22, y 23, y 24, y 25, y 26, y 27, y 28, y 29, y 30, y 31, y 32, y 33, y 34, y 35, y 36, y 37, y 38, y 39, y 40, y 41, y 42, y 43, y 44, y 45, y 46, y 47, y 48, y 49, y 50, y 51, y 52, y 53, y 54, y 55, y 56, y 57, y 58, y 59, y 60, y 61, y 62, y 63, y 64, y 65, y 66, y 67, y 68, y 69, y 70, y 71, y 72, y 73, y 74, y 75, y 76, y 77, y 78, y 79, y 80, y 81, y 82, y 83, y 84, y 85, y 86, y 87, y 88, y 89, y 90, y 91, y 92, y 93, y 94, y 95, y 96, y 97, y 98, y 99, y 100, y 101, y 102, y 103, y 104, y 105, y 106]
theorem arr107 (T : Array Value) (h : T.size = 107) (y : Nat → Value) (hy : ∀ i, i < 107 → T[i]? = some (y i)) : T = yArr y := by
  have e : T = ((List.range 107).map y).toArray := by
    refine Array.ext (by simp [h]) fun i h1 h2 => ?_
    have := hy i (by omega)
    rw [Array.getElem?_eq_getElem h1] at this
    simpa using Option.some.inj this
  rw [e]
  rfl
theorem slots_of (T : Array Value) (h : T.size = 107) : ∃ y : Nat → Value, T = yArr y ∧ ∀ i v, T[i]? = some v → y i = v := by
  refine ⟨fun i => T.getD i undef, arr107 T h _ fun i hi => ?_, fun i v hv => ?_⟩
  · simp [Array.getD, h, hi]
  · simp only [Array.getD]
    split
    · rename_i hlt
      rw [Array.getElem?_eq_getElem hlt] at hv
      exact Option.some.inj hv
    · rename_i hlt
      rw [Array.getElem?_eq_none (by omega)] at hv
      cases hv
section
variable {q : Prm} {st : St Gho} {K : List (Nat × Obj)} {cs : List Int} {l : List Cm} {msg : ByteArray} {t n r cv : Int} {nv : Nat → Int} {T : Array Value} {B b8 b11 b13 b15 b16 b17 Gb gc Pb lb Rb Zb Wg capg bS oS cap : Nat} {Cg Cl : Array Value} {eL : TypeId}
theorem CoreD.kept (h : CoreD q st K cs l msg t n r cv nv T B b8 b11 b13 b15 b16 b17 Gb gc Pb lb Rb Zb Wg capg bS oS cap Cg Cl eL) {num : Nat} (hA : SAt 0 num K st) : SAt 0 num ((b8, Obj.cells (#[.int .u64 0, .int .u64 0]) 46 (0, 0)) :: ([(b11, Obj.cells (#[.pointer (some ⟨Gb, 0, none⟩)]) 69 (0, 0)), (b13, Obj.cells (#[.pointer (some ⟨Pb, 0, none⟩)]) 90 (0, 0)), (b15, Obj.cells (#[.int .u64 cv]) 72 (0, 0)), (b16, Obj.cells (#[.slice (some ⟨Rb, 0, none⟩) l.length l.length]) 100 (0, 0)), (b17, Obj.cells (#[.slice (some ⟨Zb, 0, none⟩) l.length l.length]) 101 (0, 0)), (Pb, Obj.cells (#[.pointer (some ⟨Gb, 0, none⟩), .slice (some ⟨lb, 0, none⟩) l.length l.length, .string msg]) 146 (0, 0)), (gc, Obj.cells (Cg) 85 (0, 0)), (lb, Obj.cells (Cl) eL (0, 0))] ++ K)) st := (((((((((hA.more h.klb (.inl (h.ex lb (by simp))) (h.nd lb (by simp))).more h.kgc (.inl (h.ex gc (by simp))) (h.nd gc (by simp))).more h.kPb (.inl (h.ex Pb (by simp))) (h.nd Pb (by simp))).more h.kb17 (.inl (h.ex b17 (by simp))) (h.nd b17 (by simp))).more h.kb16 (.inl (h.ex b16 (by simp))) (h.nd b16 (by simp))).more h.kb15 (.inl (h.ex b15 (by simp))) (h.nd b15 (by simp))).more h.kb13 (.inl (h.ex b13 (by simp))) (h.nd b13 (by simp))).more h.kb11 (.inl (h.ex b11 (by simp))) (h.nd b11 (by simp))).more h.kb8 (.inl (h.ex b8 (by simp))) (h.nd b8 (by simp)))
theorem CoreD.apart (h : CoreD q st K cs l msg t n r cv nv T B b8 b11 b13 b15 b16 b17 Gb gc Pb lb Rb Zb Wg capg bS oS cap Cg Cl eL) {b : Nat} {o : Obj} (hb : (b, o) ∈ (b8, Obj.cells (#[.int .u64 0, .int .u64 0]) 46 (0, 0)) :: ([(b11, Obj.cells (#[.pointer (some ⟨Gb, 0, none⟩)]) 69 (0, 0)), (b13, Obj.cells (#[.pointer (some ⟨Pb, 0, none⟩)]) 90 (0, 0)), (b15, Obj.cells (#[.int .u64 cv]) 72 (0, 0)), (b16, Obj.cells (#[.slice (some ⟨Rb, 0, none⟩) l.length l.length]) 100 (0, 0)), (b17, Obj.cells (#[.slice (some ⟨Zb, 0, none⟩) l.length l.length]) 101 (0, 0)), (Pb, Obj.cells (#[.pointer (some ⟨Gb, 0, none⟩), .slice (some ⟨lb, 0, none⟩) l.length l.length, .string msg]) 146 (0, 0)), (gc, Obj.cells (Cg) 85 (0, 0)), (lb, Obj.cells (Cl) eL (0, 0))] ++ K)) : b ≠ Gb ∧ b ≠ Wg ∧ b ≠ Zb ∧ b ≠ Rb := by
  have n_b8_Gb : b8 ≠ Gb := ne_ty h.kb8 h.kGb (by decide)
  have n_b8_Wg : b8 ≠ Wg := ne_ty h.kb8 h.kWg (by decide)
  have n_b8_Zb : b8 ≠ Zb := ne_ty h.kb8 h.kZb (by decide)
  have n_b8_Rb : b8 ≠ Rb := ne_ty h.kb8 h.kRb (by decide)
  have n_b11_Gb : b11 ≠ Gb := ne_ty h.kb11 h.kGb (by decide)
  have n_b11_Wg : b11 ≠ Wg := ne_ty h.kb11 h.kWg (by decide)
  have n_b11_Zb : b11 ≠ Zb := ne_ty h.kb11 h.kZb (by decide)
  have n_b11_Rb : b11 ≠ Rb := ne_ty h.kb11 h.kRb (by decide)
  have n_b13_Gb : b13 ≠ Gb := ne_ty h.kb13 h.kGb (by decide)
  have n_b13_Wg : b13 ≠ Wg := ne_ty h.kb13 h.kWg (by decide)
  have n_b13_Zb : b13 ≠ Zb := ne_ty h.kb13 h.kZb (by decide)
  have n_b13_Rb : b13 ≠ Rb := ne_ty h.kb13 h.kRb (by decide)
  have n_b15_Gb : b15 ≠ Gb := ne_ty h.kb15 h.kGb (by decide)
  have n_b15_Wg : b15 ≠ Wg := ne_ty h.kb15 h.kWg (by decide)
  have n_b15_Zb : b15 ≠ Zb := h.nbz
  have n_b15_Rb : b15 ≠ Rb := ne_ty h.kb15 h.kRb (by decide)
  have n_b16_Gb : b16 ≠ Gb := ne_ty h.kb16 h.kGb (by decide)
  have n_b16_Wg : b16 ≠ Wg := ne_ty h.kb16 h.kWg (by decide)
  have n_b16_Zb : b16 ≠ Zb := ne_ty h.kb16 h.kZb (by decide)
  have n_b16_Rb : b16 ≠ Rb := ne_ty h.kb16 h.kRb (by decide)
  have n_b17_Gb : b17 ≠ Gb := ne_ty h.kb17 h.kGb (by decide)
  have n_b17_Wg : b17 ≠ Wg := ne_ty h.kb17 h.kWg (by decide)
  have n_b17_Zb : b17 ≠ Zb := ne_ty h.kb17 h.kZb (by decide)
  have n_b17_Rb : b17 ≠ Rb := ne_ty h.kb17 h.kRb (by decide)
  have n_Pb_Gb : Pb ≠ Gb := ne_ty h.kPb h.kGb (by decide)
  have n_Pb_Wg : Pb ≠ Wg := ne_ty h.kPb h.kWg (by decide)
  have n_Pb_Zb : Pb ≠ Zb := ne_ty h.kPb h.kZb (by decide)
  have n_Pb_Rb : Pb ≠ Rb := ne_ty h.kPb h.kRb (by decide)
  have n_gc_Gb : gc ≠ Gb := ne_ty h.kgc h.kGb (by decide)
  have n_gc_Wg : gc ≠ Wg := ne_ty h.kgc h.kWg (by decide)
  have n_gc_Zb : gc ≠ Zb := ne_ty h.kgc h.kZb (by decide)
  have n_gc_Rb : gc ≠ Rb := ne_ty h.kgc h.kRb (by decide)
  have n_lb_Gb : lb ≠ Gb := h.lne Gb (by simp)
  have n_lb_Wg : lb ≠ Wg := h.lne Wg (by simp)
  have n_lb_Zb : lb ≠ Zb := h.lne Zb (by simp)
  have n_lb_Rb : lb ≠ Rb := h.lne Rb (by simp)
  have n_gc_Pb : gc ≠ Pb := ne_ty h.kgc h.kPb (by decide)
  have n_lb_Pb : lb ≠ Pb := h.lne Pb (by simp)
  have n_lb_gc : lb ≠ gc := h.lne gc (by simp)
  have n_Gb_Wg : Gb ≠ Wg := ne_ty h.kGb h.kWg (by decide)
  have n_Gb_Zb : Gb ≠ Zb := ne_ty h.kGb h.kZb (by decide)
  have n_Gb_Rb : Gb ≠ Rb := ne_ty h.kGb h.kRb (by decide)
  have n_Wg_Zb : Wg ≠ Zb := ne_ty h.kWg h.kZb (by decide)
  have n_Wg_Rb : Wg ≠ Rb := ne_ty h.kWg h.kRb (by decide)
  have n_Zb_Rb : Zb ≠ Rb := ne_ty h.kZb h.kRb (by decide)
  simp only [List.cons_append, List.nil_append] at hb
  rcases List.mem_cons.1 hb with e | hb
  · cases e; exact ⟨n_b8_Gb, n_b8_Wg, n_b8_Zb, n_b8_Rb⟩
  rcases List.mem_cons.1 hb with e | hb
  · cases e; exact ⟨n_b11_Gb, n_b11_Wg, n_b11_Zb, n_b11_Rb⟩
  rcases List.mem_cons.1 hb with e | hb
  · cases e; exact ⟨n_b13_Gb, n_b13_Wg, n_b13_Zb, n_b13_Rb⟩
  rcases List.mem_cons.1 hb with e | hb
  · cases e; exact ⟨n_b15_Gb, n_b15_Wg, n_b15_Zb, n_b15_Rb⟩
  rcases List.mem_cons.1 hb with e | hb
  · cases e; exact ⟨n_b16_Gb, n_b16_Wg, n_b16_Zb, n_b16_Rb⟩
  rcases List.mem_cons.1 hb with e | hb
  · cases e; exact ⟨n_b17_Gb, n_b17_Wg, n_b17_Zb, n_b17_Rb⟩
  rcases List.mem_cons.1 hb with e | hb
  · cases e; exact ⟨n_Pb_Gb, n_Pb_Wg, n_Pb_Zb, n_Pb_Rb⟩
  rcases List.mem_cons.1 hb with e | hb
  · cases e; exact ⟨n_gc_Gb, n_gc_Wg, n_gc_Zb, n_gc_Rb⟩
  rcases List.mem_cons.1 hb with e | hb
  · cases e; exact ⟨n_lb_Gb, n_lb_Wg, n_lb_Zb, n_lb_Rb⟩
  have := h.kB b o hb
  have g1 := h.new Gb (by simp)
  have g2 := h.new Wg (by simp)
  have g3 := h.new Zb (by simp)
  have g4 := h.new Rb (by simp)
  refine ⟨?_, ?_, ?_, ?_⟩ <;> omega
theorem made_at (z : Value) {n k : Nat} (hk : k < n) : (madeCells #[z] n)[k]? = some z := by simp [madeCells, hk, Nat.mod_one]
theorem CoreD.enter (h : CoreD q st K cs l msg t n r cv nv T B b8 b11 b13 b15 b16 b17 Gb gc Pb lb Rb Zb Wg capg bS oS cap Cg Cl eL) (M : AgM cs l msg n cv nv) {num : Nat} (hA : SAt 0 num K st) (hG : q.tG = 143) (hZ : q.tZ = 72) (hR : q.tR = 4) (hW : q.tW = 107) :
    Enter q (agScene num cs l msg t n cv nv Gb gc Rb Zb Wg capg) st := by
  have n_b8_Gb : b8 ≠ Gb := ne_ty h.kb8 h.kGb (by decide)
  have n_b8_Wg : b8 ≠ Wg := ne_ty h.kb8 h.kWg (by decide)
  have n_b8_Zb : b8 ≠ Zb := ne_ty h.kb8 h.kZb (by decide)
  have n_b8_Rb : b8 ≠ Rb := ne_ty h.kb8 h.kRb (by decide)
  have n_b11_Gb : b11 ≠ Gb := ne_ty h.kb11 h.kGb (by decide)
  have n_b11_Wg : b11 ≠ Wg := ne_ty h.kb11 h.kWg (by decide)
  have n_b11_Zb : b11 ≠ Zb := ne_ty h.kb11 h.kZb (by decide)
  have n_b11_Rb : b11 ≠ Rb := ne_ty h.kb11 h.kRb (by decide)
  have n_b13_Gb : b13 ≠ Gb := ne_ty h.kb13 h.kGb (by decide)
  have n_b13_Wg : b13 ≠ Wg := ne_ty h.kb13 h.kWg (by decide)
  have n_b13_Zb : b13 ≠ Zb := ne_ty h.kb13 h.kZb (by decide)
  have n_b13_Rb : b13 ≠ Rb := ne_ty h.kb13 h.kRb (by decide)
  have n_b15_Gb : b15 ≠ Gb := ne_ty h.kb15 h.kGb (by decide)
  have n_b15_Wg : b15 ≠ Wg := ne_ty h.kb15 h.kWg (by decide)
  have n_b15_Zb : b15 ≠ Zb := h.nbz
  have n_b15_Rb : b15 ≠ Rb := ne_ty h.kb15 h.kRb (by decide)
  have n_b16_Gb : b16 ≠ Gb := ne_ty h.kb16 h.kGb (by decide)
  have n_b16_Wg : b16 ≠ Wg := ne_ty h.kb16 h.kWg (by decide)
  have n_b16_Zb : b16 ≠ Zb := ne_ty h.kb16 h.kZb (by decide)
  have n_b16_Rb : b16 ≠ Rb := ne_ty h.kb16 h.kRb (by decide)
  have n_b17_Gb : b17 ≠ Gb := ne_ty h.kb17 h.kGb (by decide)
  have n_b17_Wg : b17 ≠ Wg := ne_ty h.kb17 h.kWg (by decide)
  have n_b17_Zb : b17 ≠ Zb := ne_ty h.kb17 h.kZb (by decide)
  have n_b17_Rb : b17 ≠ Rb := ne_ty h.kb17 h.kRb (by decide)
  have n_Pb_Gb : Pb ≠ Gb := ne_ty h.kPb h.kGb (by decide)
  have n_Pb_Wg : Pb ≠ Wg := ne_ty h.kPb h.kWg (by decide)
  have n_Pb_Zb : Pb ≠ Zb := ne_ty h.kPb h.kZb (by decide)
  have n_Pb_Rb : Pb ≠ Rb := ne_ty h.kPb h.kRb (by decide)
  have n_gc_Gb : gc ≠ Gb := ne_ty h.kgc h.kGb (by decide)
  have n_gc_Wg : gc ≠ Wg := ne_ty h.kgc h.kWg (by decide)
  have n_gc_Zb : gc ≠ Zb := ne_ty h.kgc h.kZb (by decide)
  have n_gc_Rb : gc ≠ Rb := ne_ty h.kgc h.kRb (by decide)
  have n_lb_Gb : lb ≠ Gb := h.lne Gb (by simp)
  have n_lb_Wg : lb ≠ Wg := h.lne Wg (by simp)
  have n_lb_Zb : lb ≠ Zb := h.lne Zb (by simp)
  have n_lb_Rb : lb ≠ Rb := h.lne Rb (by simp)
  have n_gc_Pb : gc ≠ Pb := ne_ty h.kgc h.kPb (by decide)
  have n_lb_Pb : lb ≠ Pb := h.lne Pb (by simp)
  have n_lb_gc : lb ≠ gc := h.lne gc (by simp)
  have n_Gb_Wg : Gb ≠ Wg := ne_ty h.kGb h.kWg (by decide)
  have n_Gb_Zb : Gb ≠ Zb := ne_ty h.kGb h.kZb (by decide)
  have n_Gb_Rb : Gb ≠ Rb := ne_ty h.kGb h.kRb (by decide)
  have n_Wg_Zb : Wg ≠ Zb := ne_ty h.kWg h.kZb (by decide)
  have n_Wg_Rb : Wg ≠ Rb := ne_ty h.kWg h.kRb (by decide)
  have n_Zb_Rb : Zb ≠ Rb := ne_ty h.kZb h.kRb (by decide)
  refine ⟨hA.num.symm, M.l9, ⟨_, by rw [hG]; exact h.kGb, rfl, rfl, rfl, rfl, rfl, rfl, rfl, fun k k1 k2 => ?_⟩, by rw [hW]; exact h.kWg, ⟨_, by rw [hZ]; exact h.kZb, size_madeCells _ _, fun k x hx => ?_, fun k hk e => by cases e⟩, ⟨_, by rw [hR]; exact h.kRb, size_madeCells _ _, fun k x hx => ?_, fun k hk e => by cases e⟩, ⟨n_Gb_Wg, n_Gb_Zb, n_Gb_Rb, n_Wg_Zb, n_Wg_Rb, n_Zb_Rb⟩, fun b hb off => ?_, h.nd Gb (by simp), h.nd Zb (by simp), h.nd Rb (by simp)⟩
  · match k, k1, k2 with
    | 0, k1, _ => omega
    | 1, k1, _ => omega
    | 2, k1, _ => omega
    | 3, k1, _ => omega
    | 4, k1, _ => omega
    | 5, k1, _ => omega
    | 6, _, _ => exact ⟨0, rfl⟩
    | 7, _, _ => exact ⟨0, rfl⟩
    | 8, _, _ => exact ⟨0, rfl⟩
    | 9, _, _ => exact ⟨0, rfl⟩
    | 10, _, _ => exact ⟨0, rfl⟩
    | 11, _, _ => exact ⟨0, rfl⟩
    | 12, _, _ => exact ⟨0, rfl⟩
    | 13, _, _ => exact ⟨0, rfl⟩
    | 14, _, _ => exact ⟨0, rfl⟩
    | 15, _, _ => exact ⟨0, rfl⟩
    | k + 16, _, k2 => omega
  · replace hx : (madeCells #[.int .u64 0] l.length)[k]? = some x := hx
    have hk : k < l.length := by have := (Array.getElem?_eq_some_iff.1 hx).1; rw [size_madeCells] at this; exact this
    rw [made_at _ hk] at hx; cases hx
    exact ⟨fun a e => (by cases e), fun a e => (by cases e)⟩
  · replace hx : (madeCells #[.bool false] l.length)[k]? = some x := hx
    have hk : k < l.length := by have := (Array.getElem?_eq_some_iff.1 hx).1; rw [size_madeCells] at this; exact this
    rw [made_at _ hk] at hx; cases hx
    exact ⟨fun a e => (by cases e), fun a e => (by cases e)⟩
  · rcases hb with rfl | rfl | rfl | rfl
    · exact h.ex _ (by simp [agScene]) off
    · exact h.ex _ (by simp [agScene]) off
    · exact h.ex _ (by simp [agScene]) off
    · exact h.ex _ (by simp [agScene]) off
theorem CoreD.agd (h : CoreD q st K cs l msg t n r cv nv T B b8 b11 b13 b15 b16 b17 Gb gc Pb lb Rb Zb Wg capg bS oS cap Cg Cl eL) (M : AgM cs l msg n cv nv) (num : Nat) :
    AgD q (agScene num cs l msg t n cv nv Gb gc Rb Zb Wg capg) ((b8, Obj.cells (#[.int .u64 0, .int .u64 0]) 46 (0, 0)) :: ([(b11, Obj.cells (#[.pointer (some ⟨Gb, 0, none⟩)]) 69 (0, 0)), (b13, Obj.cells (#[.pointer (some ⟨Pb, 0, none⟩)]) 90 (0, 0)), (b15, Obj.cells (#[.int .u64 cv]) 72 (0, 0)), (b16, Obj.cells (#[.slice (some ⟨Rb, 0, none⟩) l.length l.length]) 100 (0, 0)), (b17, Obj.cells (#[.slice (some ⟨Zb, 0, none⟩) l.length l.length]) 101 (0, 0)), (Pb, Obj.cells (#[.pointer (some ⟨Gb, 0, none⟩), .slice (some ⟨lb, 0, none⟩) l.length l.length, .string msg]) 146 (0, 0)), (gc, Obj.cells (Cg) 85 (0, 0)), (lb, Obj.cells (Cl) eL (0, 0))] ++ K)) [(b11, Obj.cells (#[.pointer (some ⟨Gb, 0, none⟩)]) 69 (0, 0)), (b13, Obj.cells (#[.pointer (some ⟨Pb, 0, none⟩)]) 90 (0, 0)), (b15, Obj.cells (#[.int .u64 cv]) 72 (0, 0)), (b16, Obj.cells (#[.slice (some ⟨Rb, 0, none⟩) l.length l.length]) 100 (0, 0)), (b17, Obj.cells (#[.slice (some ⟨Zb, 0, none⟩) l.length l.length]) 101 (0, 0)), (Pb, Obj.cells (#[.pointer (some ⟨Gb, 0, none⟩), .slice (some ⟨lb, 0, none⟩) l.length l.length, .string msg]) 146 (0, 0)), (gc, Obj.cells (Cg) 85 (0, 0)), (lb, Obj.cells (Cl) eL (0, 0))] nv cv Pb gc lb cs l msg b17 b13 b11 b15 b16 bS oS where
  sub := fun b o hb => List.mem_cons_of_mem _ (List.mem_append_left _ hb)
  sh := let ⟨ob, h1, h2⟩ := h.sh; ⟨ob, List.mem_cons_of_mem _ (List.mem_append_right _ h1), h2⟩
  hz := ⟨l.length, #[.slice (some ⟨Zb, 0, none⟩) l.length l.length], 101, (0, 0), by simp, rfl⟩
  hp := ⟨#[.pointer (some ⟨Pb, 0, none⟩)], 90, (0, 0), by simp, rfl⟩
  hx := ⟨#[.pointer (some ⟨Gb, 0, none⟩)], 69, (0, 0), by simp, rfl⟩
  hc := ⟨#[.int .u64 cv], 72, (0, 0), by simp, rfl⟩
  hr := ⟨l.length, #[.slice (some ⟨Rb, 0, none⟩) l.length l.length], 100, (0, 0), by simp, rfl⟩
  pk := ⟨#[.pointer (some ⟨Gb, 0, none⟩), .slice (some ⟨lb, 0, none⟩) l.length l.length, .string msg], 146, (0, 0), l.length, by simp, rfl, rfl, rfl, rfl, Nat.le_refl _⟩
  gcB := ⟨Cg, 85, (0, 0), by simp, h.gcl⟩
  lbB := ⟨Cl, eL, (0, 0), by simp, h.lcell⟩
  gp := ne_ty h.kgc h.kPb (by decide)
  lp := h.lne _ (by simp)
  lg := h.lne _ (by simp)
  low := ⟨h.low _ (by simp), h.low _ (by simp), h.low _ (by simp), h.low Gb (by simp)⟩
  g0 := ⟨t, rfl⟩
  g1 := by have := M.n0; show Value.int .i64 n = .int .i64 ((n.toNat : Nat) : Int); rw [Int.toNat_of_nonneg this]
  g2 := ⟨capg, rfl⟩
  n9 := by have := M.n9; show n.toNat ≤ 9; omega
  c9 := M.c9
  c0 := M.c0
  el := M.el
  vs := fun id _ _ => rfl
  gd := by have := M.n0; show Kpl.Good ((n.toNat : Nat) : Int) l; rw [Int.toNat_of_nonneg this]; exact M.gd
  l9 := M.l9
  ln := rfl
  ms := M.ms
  nb := M.nb
  cb := M.cb
  zv := fun k _ => rfl
  rv := fun k _ => rfl
end
end Go.Proofs.Ytpfpokjaeffbjab.Cc
