/- Part of the proof: AgN, AgQ. -/
import Derived.Test.YtpfpokjaeffbjabGa34
namespace Go.Proofs.Ytpfpokjaeffbjab.Cc
open Go.Conc Go.ConcN Go.ConcM Go.RowKit Go.Conc.Lib Go.ConcR.Gen
open Go.ConcR (KK wgBlock WgAt stA smA rd wr mk DC0)
open Go.Proofs.Ytpfpokjaeffbjab.Pl Go.Proofs.Ytpfpokjaeffbjab.Dpl Go.Proofs.Ytpfpokjaeffbjab.Gpl Go.Proofs.Ytpfpokjaeffbjab.Kpl Go.Proofs.Ytpfpokjaeffbjab.Mem Go.Proofs.Ytpfpokjaeffbjab.Ver Go.Proofs.Ytpfpokjaeffbjab.Pkg Go.Proofs.Ytpfpokjaeffbjab.Sls Go.Proofs.Ytpfpokjaeffbjab.Agt Go.Proofs.Ytpfpokjaeffbjab.Agp Go.Proofs.Ytpfpokjaeffbjab.Gof
open Go.Proofs.Ytpfpokjaeffbjab.Fld hiding base
set_option linter.unusedVariables false
set_option linter.unusedSimpArgs false
theorem n_wgwait : (Try.f49.name == "runtime.NumGoroutine") = false := by kernel_rfl
section
variable {q : Prm} {st : St Gho} {K : List (Nat × Obj)} {cs : List Int} {l : List Cm} {msg : ByteArray} {t n r cv : Int} {nv : Nat → Int} {T : Array Value} {B b8 b11 b13 b15 b16 b17 Gb gc Pb lb Rb Zb Wg capg bS oS cap : Nat} {Cg Cl : Array Value} {eL : TypeId}
theorem CoreD.tail (D : CoreD q st K cs l msg t n r cv nv T B b8 b11 b13 b15 b16 b17 Gb gc Pb lb Rb Zb Wg capg bS oS cap Cg Cl eL) (M : AgM cs l msg n cv nv) {num num' : Nat} {st₂ : St Gho} {Q : List (Nat × Obj)} (hA : SAt 0 num' ((b8, Obj.cells (#[.int .u64 0, .int .u64 0]) 46 (0, 0)) :: ([(b11, Obj.cells (#[.pointer (some ⟨Gb, 0, none⟩)]) 69 (0, 0)), (b13, Obj.cells (#[.pointer (some ⟨Pb, 0, none⟩)]) 90 (0, 0)), (b15, Obj.cells (#[.int .u64 cv]) 72 (0, 0)), (b16, Obj.cells (#[.slice (some ⟨Rb, 0, none⟩) l.length l.length]) 100 (0, 0)), (b17, Obj.cells (#[.slice (some ⟨Zb, 0, none⟩) l.length l.length]) 101 (0, 0)), (Pb, Obj.cells (#[.pointer (some ⟨Gb, 0, none⟩), .slice (some ⟨lb, 0, none⟩) l.length l.length, .string msg]) 146 (0, 0)), (gc, Obj.cells (Cg) 85 (0, 0)), (lb, Obj.cells (Cl) eL (0, 0))] ++ Q)) st₂) (f1 : GbDone q (agScene num cs l msg t n cv nv Gb gc Rb Zb Wg capg) st₂.w)
    (hG : q.tG = 143) (hZ : q.tZ = 72) (hR : q.tR = 4)
    (f2 : ∃ Z : Array Value, st₂.w.heap[Zb]? = some (.cells Z q.tZ) ∧ Z.size = l.length ∧ ∀ k, k < l.length → Z[k]? = some (.int .u64 (nv k))) (f3 : ∃ R : Array Value, st₂.w.heap[Rb]? = some (.cells R q.tR) ∧ R.size = l.length ∧ ∀ k, k < l.length → R[k]? = some (.bool (rightP (nv k) cv cs l msg k)))
    (f4 : ∀ lo b, lo.isMemory = true → lblk lo = some b → b < st₂.w.heap.size → ¬ st₂.γ.dead b → st₂.γ.ex 0 lo) (f5 : ¬ st₂.γ.dead Gb) (f6 : ¬ st₂.γ.dead Zb) (f7 : ¬ st₂.γ.dead Rb)
    {T' : Array Value} (sz : T'.size = 107) (s8 : T'[8]? = some (.pointer (some ⟨b8, 0, none⟩))) (s9 : T'[9]? = some (.slice none 0 0)) (s10 : T'[10]? = some (.int .i64 0)) (s13 : T'[13]? = some (.pointer (some ⟨b13, 0, none⟩))) (s14 : T'[14]? = some (.int .u64 r)) (s16 : T'[16]? = some (.pointer (some ⟨b16, 0, none⟩))) (s17 : T'[17]? = some (.pointer (some ⟨b17, 0, none⟩)))
    (su : ∀ i, (21 ≤ i ∧ i < 24) ∨ (81 ≤ i ∧ i < 107) → T'[i]? = some undef) :
    ∃ CG CR CZ : Array Value, TailD q st₂ cs l msg r (fun k => rightP (nv k) cv cs l msg k) ((List.range l.length).map nv) T' b8 b13 b16 b17 Gb Pb gc lb Rb Zb capg l.length l.length CG Cg #[.pointer (some ⟨Gb, 0, none⟩), .slice (some ⟨lb, 0, none⟩) l.length l.length, .string msg] Cl CR CZ (.int .i64 t) (.int .i64 n) eL := by
  obtain ⟨CG, g1, g2, g3, g4, g5, -⟩ := f1
  obtain ⟨CZ, z1, z2, z3⟩ := f2
  obtain ⟨CR, r1, r2, r3⟩ := f3
  rw [hG] at g1
  rw [hZ] at z1
  rw [hR] at r1
  have k := fun b o (h : (b, o) ∈ (b8, Obj.cells (#[.int .u64 0, .int .u64 0]) 46 (0, 0)) :: ([(b11, Obj.cells (#[.pointer (some ⟨Gb, 0, none⟩)]) 69 (0, 0)), (b13, Obj.cells (#[.pointer (some ⟨Pb, 0, none⟩)]) 90 (0, 0)), (b15, Obj.cells (#[.int .u64 cv]) 72 (0, 0)), (b16, Obj.cells (#[.slice (some ⟨Rb, 0, none⟩) l.length l.length]) 100 (0, 0)), (b17, Obj.cells (#[.slice (some ⟨Zb, 0, none⟩) l.length l.length]) 101 (0, 0)), (Pb, Obj.cells (#[.pointer (some ⟨Gb, 0, none⟩), .slice (some ⟨lb, 0, none⟩) l.length l.length, .string msg]) 146 (0, 0)), (gc, Obj.cells (Cg) 85 (0, 0)), (lb, Obj.cells (Cl) eL (0, 0))] ++ Q)) => (hA.fz b o h).1
  have d := fun b o (h : (b, o) ∈ (b8, Obj.cells (#[.int .u64 0, .int .u64 0]) 46 (0, 0)) :: ([(b11, Obj.cells (#[.pointer (some ⟨Gb, 0, none⟩)]) 69 (0, 0)), (b13, Obj.cells (#[.pointer (some ⟨Pb, 0, none⟩)]) 90 (0, 0)), (b15, Obj.cells (#[.int .u64 cv]) 72 (0, 0)), (b16, Obj.cells (#[.slice (some ⟨Rb, 0, none⟩) l.length l.length]) 100 (0, 0)), (b17, Obj.cells (#[.slice (some ⟨Zb, 0, none⟩) l.length l.length]) 101 (0, 0)), (Pb, Obj.cells (#[.pointer (some ⟨Gb, 0, none⟩), .slice (some ⟨lb, 0, none⟩) l.length l.length, .string msg]) 146 (0, 0)), (gc, Obj.cells (Cg) 85 (0, 0)), (lb, Obj.cells (Cl) eL (0, 0))] ++ Q)) => hA.nd b o h
  have d8 := d b8 _ (List.mem_cons_self ..)
  have k8 := k b8 _ (List.mem_cons_self ..)
  have kPb := k Pb _ (List.mem_cons_of_mem _ (List.mem_append_left _ (by simp : (Pb, Obj.cells (#[.pointer (some ⟨Gb, 0, none⟩), .slice (some ⟨lb, 0, none⟩) l.length l.length, .string msg]) 146 (0, 0)) ∈ [(b11, Obj.cells (#[.pointer (some ⟨Gb, 0, none⟩)]) 69 (0, 0)), (b13, Obj.cells (#[.pointer (some ⟨Pb, 0, none⟩)]) 90 (0, 0)), (b15, Obj.cells (#[.int .u64 cv]) 72 (0, 0)), (b16, Obj.cells (#[.slice (some ⟨Rb, 0, none⟩) l.length l.length]) 100 (0, 0)), (b17, Obj.cells (#[.slice (some ⟨Zb, 0, none⟩) l.length l.length]) 101 (0, 0)), (Pb, Obj.cells (#[.pointer (some ⟨Gb, 0, none⟩), .slice (some ⟨lb, 0, none⟩) l.length l.length, .string msg]) 146 (0, 0)), (gc, Obj.cells (Cg) 85 (0, 0)), (lb, Obj.cells (Cl) eL (0, 0))])))
  have dPb := d Pb _ (List.mem_cons_of_mem _ (List.mem_append_left _ (by simp : (Pb, Obj.cells (#[.pointer (some ⟨Gb, 0, none⟩), .slice (some ⟨lb, 0, none⟩) l.length l.length, .string msg]) 146 (0, 0)) ∈ [(b11, Obj.cells (#[.pointer (some ⟨Gb, 0, none⟩)]) 69 (0, 0)), (b13, Obj.cells (#[.pointer (some ⟨Pb, 0, none⟩)]) 90 (0, 0)), (b15, Obj.cells (#[.int .u64 cv]) 72 (0, 0)), (b16, Obj.cells (#[.slice (some ⟨Rb, 0, none⟩) l.length l.length]) 100 (0, 0)), (b17, Obj.cells (#[.slice (some ⟨Zb, 0, none⟩) l.length l.length]) 101 (0, 0)), (Pb, Obj.cells (#[.pointer (some ⟨Gb, 0, none⟩), .slice (some ⟨lb, 0, none⟩) l.length l.length, .string msg]) 146 (0, 0)), (gc, Obj.cells (Cg) 85 (0, 0)), (lb, Obj.cells (Cl) eL (0, 0))])))
  have kgc := k gc _ (List.mem_cons_of_mem _ (List.mem_append_left _ (by simp : (gc, Obj.cells (Cg) 85 (0, 0)) ∈ [(b11, Obj.cells (#[.pointer (some ⟨Gb, 0, none⟩)]) 69 (0, 0)), (b13, Obj.cells (#[.pointer (some ⟨Pb, 0, none⟩)]) 90 (0, 0)), (b15, Obj.cells (#[.int .u64 cv]) 72 (0, 0)), (b16, Obj.cells (#[.slice (some ⟨Rb, 0, none⟩) l.length l.length]) 100 (0, 0)), (b17, Obj.cells (#[.slice (some ⟨Zb, 0, none⟩) l.length l.length]) 101 (0, 0)), (Pb, Obj.cells (#[.pointer (some ⟨Gb, 0, none⟩), .slice (some ⟨lb, 0, none⟩) l.length l.length, .string msg]) 146 (0, 0)), (gc, Obj.cells (Cg) 85 (0, 0)), (lb, Obj.cells (Cl) eL (0, 0))])))
  have dgc := d gc _ (List.mem_cons_of_mem _ (List.mem_append_left _ (by simp : (gc, Obj.cells (Cg) 85 (0, 0)) ∈ [(b11, Obj.cells (#[.pointer (some ⟨Gb, 0, none⟩)]) 69 (0, 0)), (b13, Obj.cells (#[.pointer (some ⟨Pb, 0, none⟩)]) 90 (0, 0)), (b15, Obj.cells (#[.int .u64 cv]) 72 (0, 0)), (b16, Obj.cells (#[.slice (some ⟨Rb, 0, none⟩) l.length l.length]) 100 (0, 0)), (b17, Obj.cells (#[.slice (some ⟨Zb, 0, none⟩) l.length l.length]) 101 (0, 0)), (Pb, Obj.cells (#[.pointer (some ⟨Gb, 0, none⟩), .slice (some ⟨lb, 0, none⟩) l.length l.length, .string msg]) 146 (0, 0)), (gc, Obj.cells (Cg) 85 (0, 0)), (lb, Obj.cells (Cl) eL (0, 0))])))
  have klb := k lb _ (List.mem_cons_of_mem _ (List.mem_append_left _ (by simp : (lb, Obj.cells (Cl) eL (0, 0)) ∈ [(b11, Obj.cells (#[.pointer (some ⟨Gb, 0, none⟩)]) 69 (0, 0)), (b13, Obj.cells (#[.pointer (some ⟨Pb, 0, none⟩)]) 90 (0, 0)), (b15, Obj.cells (#[.int .u64 cv]) 72 (0, 0)), (b16, Obj.cells (#[.slice (some ⟨Rb, 0, none⟩) l.length l.length]) 100 (0, 0)), (b17, Obj.cells (#[.slice (some ⟨Zb, 0, none⟩) l.length l.length]) 101 (0, 0)), (Pb, Obj.cells (#[.pointer (some ⟨Gb, 0, none⟩), .slice (some ⟨lb, 0, none⟩) l.length l.length, .string msg]) 146 (0, 0)), (gc, Obj.cells (Cg) 85 (0, 0)), (lb, Obj.cells (Cl) eL (0, 0))])))
  have dlb := d lb _ (List.mem_cons_of_mem _ (List.mem_append_left _ (by simp : (lb, Obj.cells (Cl) eL (0, 0)) ∈ [(b11, Obj.cells (#[.pointer (some ⟨Gb, 0, none⟩)]) 69 (0, 0)), (b13, Obj.cells (#[.pointer (some ⟨Pb, 0, none⟩)]) 90 (0, 0)), (b15, Obj.cells (#[.int .u64 cv]) 72 (0, 0)), (b16, Obj.cells (#[.slice (some ⟨Rb, 0, none⟩) l.length l.length]) 100 (0, 0)), (b17, Obj.cells (#[.slice (some ⟨Zb, 0, none⟩) l.length l.length]) 101 (0, 0)), (Pb, Obj.cells (#[.pointer (some ⟨Gb, 0, none⟩), .slice (some ⟨lb, 0, none⟩) l.length l.length, .string msg]) 146 (0, 0)), (gc, Obj.cells (Cg) 85 (0, 0)), (lb, Obj.cells (Cl) eL (0, 0))])))
  have kb13 := k b13 _ (List.mem_cons_of_mem _ (List.mem_append_left _ (by simp : (b13, Obj.cells (#[.pointer (some ⟨Pb, 0, none⟩)]) 90 (0, 0)) ∈ [(b11, Obj.cells (#[.pointer (some ⟨Gb, 0, none⟩)]) 69 (0, 0)), (b13, Obj.cells (#[.pointer (some ⟨Pb, 0, none⟩)]) 90 (0, 0)), (b15, Obj.cells (#[.int .u64 cv]) 72 (0, 0)), (b16, Obj.cells (#[.slice (some ⟨Rb, 0, none⟩) l.length l.length]) 100 (0, 0)), (b17, Obj.cells (#[.slice (some ⟨Zb, 0, none⟩) l.length l.length]) 101 (0, 0)), (Pb, Obj.cells (#[.pointer (some ⟨Gb, 0, none⟩), .slice (some ⟨lb, 0, none⟩) l.length l.length, .string msg]) 146 (0, 0)), (gc, Obj.cells (Cg) 85 (0, 0)), (lb, Obj.cells (Cl) eL (0, 0))])))
  have db13 := d b13 _ (List.mem_cons_of_mem _ (List.mem_append_left _ (by simp : (b13, Obj.cells (#[.pointer (some ⟨Pb, 0, none⟩)]) 90 (0, 0)) ∈ [(b11, Obj.cells (#[.pointer (some ⟨Gb, 0, none⟩)]) 69 (0, 0)), (b13, Obj.cells (#[.pointer (some ⟨Pb, 0, none⟩)]) 90 (0, 0)), (b15, Obj.cells (#[.int .u64 cv]) 72 (0, 0)), (b16, Obj.cells (#[.slice (some ⟨Rb, 0, none⟩) l.length l.length]) 100 (0, 0)), (b17, Obj.cells (#[.slice (some ⟨Zb, 0, none⟩) l.length l.length]) 101 (0, 0)), (Pb, Obj.cells (#[.pointer (some ⟨Gb, 0, none⟩), .slice (some ⟨lb, 0, none⟩) l.length l.length, .string msg]) 146 (0, 0)), (gc, Obj.cells (Cg) 85 (0, 0)), (lb, Obj.cells (Cl) eL (0, 0))])))
  have kb16 := k b16 _ (List.mem_cons_of_mem _ (List.mem_append_left _ (by simp : (b16, Obj.cells (#[.slice (some ⟨Rb, 0, none⟩) l.length l.length]) 100 (0, 0)) ∈ [(b11, Obj.cells (#[.pointer (some ⟨Gb, 0, none⟩)]) 69 (0, 0)), (b13, Obj.cells (#[.pointer (some ⟨Pb, 0, none⟩)]) 90 (0, 0)), (b15, Obj.cells (#[.int .u64 cv]) 72 (0, 0)), (b16, Obj.cells (#[.slice (some ⟨Rb, 0, none⟩) l.length l.length]) 100 (0, 0)), (b17, Obj.cells (#[.slice (some ⟨Zb, 0, none⟩) l.length l.length]) 101 (0, 0)), (Pb, Obj.cells (#[.pointer (some ⟨Gb, 0, none⟩), .slice (some ⟨lb, 0, none⟩) l.length l.length, .string msg]) 146 (0, 0)), (gc, Obj.cells (Cg) 85 (0, 0)), (lb, Obj.cells (Cl) eL (0, 0))])))
  have db16 := d b16 _ (List.mem_cons_of_mem _ (List.mem_append_left _ (by simp : (b16, Obj.cells (#[.slice (some ⟨Rb, 0, none⟩) l.length l.length]) 100 (0, 0)) ∈ [(b11, Obj.cells (#[.pointer (some ⟨Gb, 0, none⟩)]) 69 (0, 0)), (b13, Obj.cells (#[.pointer (some ⟨Pb, 0, none⟩)]) 90 (0, 0)), (b15, Obj.cells (#[.int .u64 cv]) 72 (0, 0)), (b16, Obj.cells (#[.slice (some ⟨Rb, 0, none⟩) l.length l.length]) 100 (0, 0)), (b17, Obj.cells (#[.slice (some ⟨Zb, 0, none⟩) l.length l.length]) 101 (0, 0)), (Pb, Obj.cells (#[.pointer (some ⟨Gb, 0, none⟩), .slice (some ⟨lb, 0, none⟩) l.length l.length, .string msg]) 146 (0, 0)), (gc, Obj.cells (Cg) 85 (0, 0)), (lb, Obj.cells (Cl) eL (0, 0))])))
  have kb17 := k b17 _ (List.mem_cons_of_mem _ (List.mem_append_left _ (by simp : (b17, Obj.cells (#[.slice (some ⟨Zb, 0, none⟩) l.length l.length]) 101 (0, 0)) ∈ [(b11, Obj.cells (#[.pointer (some ⟨Gb, 0, none⟩)]) 69 (0, 0)), (b13, Obj.cells (#[.pointer (some ⟨Pb, 0, none⟩)]) 90 (0, 0)), (b15, Obj.cells (#[.int .u64 cv]) 72 (0, 0)), (b16, Obj.cells (#[.slice (some ⟨Rb, 0, none⟩) l.length l.length]) 100 (0, 0)), (b17, Obj.cells (#[.slice (some ⟨Zb, 0, none⟩) l.length l.length]) 101 (0, 0)), (Pb, Obj.cells (#[.pointer (some ⟨Gb, 0, none⟩), .slice (some ⟨lb, 0, none⟩) l.length l.length, .string msg]) 146 (0, 0)), (gc, Obj.cells (Cg) 85 (0, 0)), (lb, Obj.cells (Cl) eL (0, 0))])))
  have db17 := d b17 _ (List.mem_cons_of_mem _ (List.mem_append_left _ (by simp : (b17, Obj.cells (#[.slice (some ⟨Zb, 0, none⟩) l.length l.length]) 101 (0, 0)) ∈ [(b11, Obj.cells (#[.pointer (some ⟨Gb, 0, none⟩)]) 69 (0, 0)), (b13, Obj.cells (#[.pointer (some ⟨Pb, 0, none⟩)]) 90 (0, 0)), (b15, Obj.cells (#[.int .u64 cv]) 72 (0, 0)), (b16, Obj.cells (#[.slice (some ⟨Rb, 0, none⟩) l.length l.length]) 100 (0, 0)), (b17, Obj.cells (#[.slice (some ⟨Zb, 0, none⟩) l.length l.length]) 101 (0, 0)), (Pb, Obj.cells (#[.pointer (some ⟨Gb, 0, none⟩), .slice (some ⟨lb, 0, none⟩) l.length l.length, .string msg]) 146 (0, 0)), (gc, Obj.cells (Cg) 85 (0, 0)), (lb, Obj.cells (Cl) eL (0, 0))])))
  refine ⟨CG, CR, CZ, sz, s8, s9, s10, s13, s14, s16, s17, su, k8, kPb, g1, kgc, klb, kb13, kb16, kb17, r1, z1, ⟨by omega, g3, g4, g5, ⟨_, _, rfl⟩, _, _, rfl⟩, D.gcl, ⟨rfl, rfl, rfl, rfl⟩, D.lcell, ⟨r2, r3⟩, ⟨z2, fun k hk => ?_⟩, by simp, Nat.le_refl _, M.l9, ?_, ?_, ?_, fun lo h1 h2 => f4 lo b8 h2 h1 (lt_of_block k8) d8, ?_⟩
  · rw [z3 k hk]
    simp [List.getD_eq_getElem?_getD, hk]
  · intro b hb
    simp only [List.mem_cons, List.not_mem_nil, or_false] at hb
    rcases hb with rfl | rfl | rfl | rfl | rfl | rfl | rfl | rfl | rfl | rfl <;> exact D.low _ (by simp)
  · intro b hb
    simp only [List.mem_cons, List.not_mem_nil, or_false] at hb
    rcases hb with rfl | rfl | rfl | rfl | rfl | rfl | rfl | rfl | rfl <;> exact D.lne _ (by simp)
  · intro b hb
    simp only [List.mem_cons, List.not_mem_nil, or_false] at hb
    rcases hb with rfl | rfl | rfl | rfl | rfl | rfl | rfl | rfl | rfl | rfl
    all_goals first | exact d8 | exact dPb | exact f5 | exact dgc | exact dlb | exact db13 | exact db16 | exact db17 | exact f7 | exact f6
  · intro b hb off
    simp only [List.mem_cons, List.not_mem_nil, or_false] at hb
    rcases hb with rfl | rfl | rfl | rfl | rfl | rfl | rfl | rfl | rfl | rfl
    · exact f4 _ _ rfl rfl (lt_of_block k8) d8
    · exact f4 _ _ rfl rfl (lt_of_block kPb) dPb
    · exact f4 _ _ rfl rfl (lt_of_block g1) f5
    · exact f4 _ _ rfl rfl (lt_of_block kgc) dgc
    · exact f4 _ _ rfl rfl (lt_of_block klb) dlb
    · exact f4 _ _ rfl rfl (lt_of_block kb13) db13
    · exact f4 _ _ rfl rfl (lt_of_block kb16) db16
    · exact f4 _ _ rfl rfl (lt_of_block kb17) db17
    · exact f4 _ _ rfl rfl (lt_of_block r1) f7
    · exact f4 _ _ rfl rfl (lt_of_block z1) f6
variable (hP : q.P = Try.prog)
include hP
theorem CoreD.tailAll (D : CoreD q st K cs l msg t n r cv nv T B b8 b11 b13 b15 b16 b17 Gb gc Pb lb Rb Zb Wg capg bS oS cap Cg Cl eL) (M : AgM cs l msg n cv nv) {num num' : Nat} {st₂ : St Gho} (hA : SAt 0 num' ((b8, Obj.cells (#[.int .u64 0, .int .u64 0]) 46 (0, 0)) :: ([(b11, Obj.cells (#[.pointer (some ⟨Gb, 0, none⟩)]) 69 (0, 0)), (b13, Obj.cells (#[.pointer (some ⟨Pb, 0, none⟩)]) 90 (0, 0)), (b15, Obj.cells (#[.int .u64 cv]) 72 (0, 0)), (b16, Obj.cells (#[.slice (some ⟨Rb, 0, none⟩) l.length l.length]) 100 (0, 0)), (b17, Obj.cells (#[.slice (some ⟨Zb, 0, none⟩) l.length l.length]) 101 (0, 0)), (Pb, Obj.cells (#[.pointer (some ⟨Gb, 0, none⟩), .slice (some ⟨lb, 0, none⟩) l.length l.length, .string msg]) 146 (0, 0)), (gc, Obj.cells (Cg) 85 (0, 0)), (lb, Obj.cells (Cl) eL (0, 0))] ++ K)) st₂) (hI : Inv q st₂) (f1 : GbDone q (agScene num cs l msg t n cv nv Gb gc Rb Zb Wg capg) st₂.w)
    (hG : q.tG = 143) (hZ : q.tZ = 72) (hR : q.tR = 4)
    (f2 : ∃ Z : Array Value, st₂.w.heap[Zb]? = some (.cells Z q.tZ) ∧ Z.size = l.length ∧ ∀ k, k < l.length → Z[k]? = some (.int .u64 (nv k))) (f3 : ∃ R : Array Value, st₂.w.heap[Rb]? = some (.cells R q.tR) ∧ R.size = l.length ∧ ∀ k, k < l.length → R[k]? = some (.bool (rightP (nv k) cv cs l msg k)))
    (f4 : ∀ lo b, lo.isMemory = true → lblk lo = some b → b < st₂.w.heap.size → ¬ st₂.γ.dead b → st₂.γ.ex 0 lo) (f5 : ¬ st₂.γ.dead Gb) (f6 : ¬ st₂.γ.dead Zb) (f7 : ¬ st₂.γ.dead Rb)
    {T' : Array Value} (sz : T'.size = 107) (s8 : T'[8]? = some (.pointer (some ⟨b8, 0, none⟩))) (s9 : T'[9]? = some (.slice none 0 0)) (s10 : T'[10]? = some (.int .i64 0)) (s13 : T'[13]? = some (.pointer (some ⟨b13, 0, none⟩))) (s14 : T'[14]? = some (.int .u64 r)) (s16 : T'[16]? = some (.pointer (some ⟨b16, 0, none⟩))) (s17 : T'[17]? = some (.pointer (some ⟨b17, 0, none⟩)))
    (su : ∀ i, (21 ≤ i ∧ i < 24) ∨ (81 ≤ i ∧ i < 107) → T'[i]? = some undef) {c : Frame} {bs : List Frame} {Ch : Nat → Goroutine → St Gho → Prop}
    (fin : ∀ v st', AggPost r ((List.range l.length).map nv) (wrongTo (fun k => rightP (nv k) cv cs l msg k) l l.length) num' K v st' → Inv q st' → TT (cfg q) 0 Ch (G (c.finish v) bs) st') :
    TT (cfg q) 0 Ch (G ((base 16).at ⟨T', []⟩ [.code agTail]) (c :: bs)) st₂ := by
  obtain ⟨CG, CR, CZ, TD⟩ := D.tail M hA f1 hG hZ hR f2 f3 f4 f5 f6 f7 sz s8 s9 s10 s13 s14 s16 s17 su
  refine tailGo hP (hA.sub fun b o hb => List.mem_cons_of_mem _ (List.mem_append_right _ hb)) hI TD (fun b o hb => ?_) fin
  have := D.kB b o hb
  have := D.new b8 (by simp)
  omega
noncomputable def agR22 : Code := match agRest with | .seq a _ => a | _ => .skip
set_option maxRecDepth 100000 in
set_option maxHeartbeats 16000000 in
theorem afterLoop (D : CoreD q st K cs l msg t n r cv nv T B b8 b11 b13 b15 b16 b17 Gb gc Pb lb Rb Zb Wg capg bS oS cap Cg Cl eL) (M : AgM cs l msg n cv nv) {num : Nat} (hG : q.tG = 143) (hZ : q.tZ = 72) (hR : q.tR = 4) {c : Frame} {bs : List Frame} {y : Nat → Value} (HYY : Hid (∀ i v, T[i]? = some v → y i = v))
    (fin : ∀ v st', AggPost r ((List.range l.length).map nv) (wrongTo (fun k => rightP (nv k) cv cs l msg k) l l.length) (num + l.length) K v st' → Inv q st' → TT (cfg q) 0 (TW (cfg q)) (G (c.finish v) bs) st')
    (st' : St Gho) (j19 j20 j73 j74 j75 j76 j77 j78 j79 : Value) (hA' : MAt (agScene num cs l msg t n cv nv Gb gc Rb Zb Wg capg) .sp 0 (num + l.length) ((b8, Obj.cells (#[.int .u64 0, .int .u64 0]) 46 (0, 0)) :: ([(b11, Obj.cells (#[.pointer (some ⟨Gb, 0, none⟩)]) 69 (0, 0)), (b13, Obj.cells (#[.pointer (some ⟨Pb, 0, none⟩)]) 90 (0, 0)), (b15, Obj.cells (#[.int .u64 cv]) 72 (0, 0)), (b16, Obj.cells (#[.slice (some ⟨Rb, 0, none⟩) l.length l.length]) 100 (0, 0)), (b17, Obj.cells (#[.slice (some ⟨Zb, 0, none⟩) l.length l.length]) 101 (0, 0)), (Pb, Obj.cells (#[.pointer (some ⟨Gb, 0, none⟩), .slice (some ⟨lb, 0, none⟩) l.length l.length, .string msg]) 146 (0, 0)), (gc, Obj.cells (Cg) 85 (0, 0)), (lb, Obj.cells (Cl) eL (0, 0))] ++ K)) st') (hI' : Inv q st') :
    TT (cfg q) 0 (TW (cfg q)) (G ((base 16).at ⟨agT y b11 b13 b15 b16 b17 Wg bS oS cap l.length (l.length : Int) j19 j20 j73 j74 j75 j76 j77 j78 j79, []⟩ [.code agRest]) (c :: bs)) st' := by
  have e2 : agRest = .seq agR22 agTail := rfl
  obtain ⟨AT, hAT⟩ : ∃ AT, AT = agTail := ⟨_, rfl⟩
  rw [e2, ← hAT]
  obtain ⟨s, hs⟩ : ∃ s, s = agScene num cs l msg t n cv nv Gb gc Rb Zb Wg capg := ⟨_, rfl⟩
  have hWg : Wg = s.Wg := by rw [hs]; rfl
  have hn : num + l.length = s.n0 + s.n := by rw [hs]; rfl
  rw [← hs] at hA'
  rw [hWg]
  have HSS := Lib.hid (And.intro hs (And.intro hWg (And.intro hn hAT)))
  have HD := Lib.hid D
  clear hs hWg hn hAT D e2
  simp only [agR22, agRest, agBody, unseq, Try.f16, Option.getD_some, agT]
  refine TT.mroad hP hA' 80 fun w₀ hF => ?_
  repeat w_go mroad_rely
  u_call Try.func49 n_wgwait Try.f49 mroad_rely hF
  refine Goes.stop (fun w₁ r₁ => ⟨rfl, ?_⟩)
  clear hF r₁ w₁ w₀
  obtain ⟨hs, hWg, hn, hAT⟩ := HSS.out
  refine waitGo hP (fun st₂ hA₂ hI₂ f1 f2 f3 f4 f5 f6 f7 => ?_) hn hA'
  clear hs hWg hn hAT
  walk_nrm
  refine TT.sroad hP 80 fun w₀ hF => ?_
  repeat w_go sroad_rely
  refine Goes.stop (fun w₁ r₁ => ⟨rfl, ?_⟩)
  obtain ⟨hs, hWg, hn, hAT⟩ := HSS.out
  have D := HD.out
  rw [← hWg]
  clear HSS hWg hn
  subst hAT hs
  have hy := HYY.out
  exact D.tailAll hP M hA₂ hI₂ f1 hG hZ hR f2 f3 f4 f5 f6 f7 rfl (congrArg some (hy _ _ D.s8)) (congrArg some (hy _ _ D.s9)) (congrArg some (hy _ _ D.s10)) rfl (congrArg some (hy _ _ D.s14)) rfl rfl (fun i hi => by
    match i, hi with
    | 0, hi => omega
    | 1, hi => omega
    | 2, hi => omega
    | 3, hi => omega
    | 4, hi => omega
    | 5, hi => omega
    | 6, hi => omega
    | 7, hi => omega
    | 8, hi => omega
    | 9, hi => omega
    | 10, hi => omega
    | 11, hi => omega
    | 12, hi => omega
    | 13, hi => omega
    | 14, hi => omega
    | 15, hi => omega
    | 16, hi => omega
    | 17, hi => omega
    | 18, hi => omega
    | 19, hi => omega
    | 20, hi => omega
    | 21, _ => exact congrArg some (hy 21 _ (D.su 21 (by omega)))
    | 22, _ => exact congrArg some (hy 22 _ (D.su 22 (by omega)))
    | 23, _ => exact congrArg some (hy 23 _ (D.su 23 (by omega)))
    | 24, hi => omega
    | 25, hi => omega
    | 26, hi => omega
    | 27, hi => omega
    | 28, hi => omega
    | 29, hi => omega
    | 30, hi => omega
    | 31, hi => omega
    | 32, hi => omega
    | 33, hi => omega
    | 34, hi => omega
    | 35, hi => omega
    | 36, hi => omega
    | 37, hi => omega
    | 38, hi => omega
    | 39, hi => omega
    | 40, hi => omega
    | 41, hi => omega
    | 42, hi => omega
    | 43, hi => omega
    | 44, hi => omega
    | 45, hi => omega
    | 46, hi => omega
    | 47, hi => omega
    | 48, hi => omega
    | 49, hi => omega
    | 50, hi => omega
    | 51, hi => omega
    | 52, hi => omega
    | 53, hi => omega
    | 54, hi => omega
    | 55, hi => omega
    | 56, hi => omega
    | 57, hi => omega
    | 58, hi => omega
    | 59, hi => omega
    | 60, hi => omega
    | 61, hi => omega
    | 62, hi => omega
    | 63, hi => omega
    | 64, hi => omega
    | 65, hi => omega
    | 66, hi => omega
    | 67, hi => omega
    | 68, hi => omega
    | 69, hi => omega
    | 70, hi => omega
    | 71, hi => omega
    | 72, hi => omega
    | 73, hi => omega
    | 74, hi => omega
    | 75, hi => omega
    | 76, hi => omega
    | 77, hi => omega
    | 78, hi => omega
    | 79, hi => omega
    | 80, hi => omega
    | 81, _ => exact congrArg some (hy 81 _ (D.su 81 (by omega)))
    | 82, _ => exact congrArg some (hy 82 _ (D.su 82 (by omega)))
    | 83, _ => exact congrArg some (hy 83 _ (D.su 83 (by omega)))
    | 84, _ => exact congrArg some (hy 84 _ (D.su 84 (by omega)))
    | 85, _ => exact congrArg some (hy 85 _ (D.su 85 (by omega)))
    | 86, _ => exact congrArg some (hy 86 _ (D.su 86 (by omega)))
    | 87, _ => exact congrArg some (hy 87 _ (D.su 87 (by omega)))
    | 88, _ => exact congrArg some (hy 88 _ (D.su 88 (by omega)))
    | 89, _ => exact congrArg some (hy 89 _ (D.su 89 (by omega)))
    | 90, _ => exact congrArg some (hy 90 _ (D.su 90 (by omega)))
    | 91, _ => exact congrArg some (hy 91 _ (D.su 91 (by omega)))
    | 92, _ => exact congrArg some (hy 92 _ (D.su 92 (by omega)))
    | 93, _ => exact congrArg some (hy 93 _ (D.su 93 (by omega)))
    | 94, _ => exact congrArg some (hy 94 _ (D.su 94 (by omega)))
    | 95, _ => exact congrArg some (hy 95 _ (D.su 95 (by omega)))
    | 96, _ => exact congrArg some (hy 96 _ (D.su 96 (by omega)))
    | 97, _ => exact congrArg some (hy 97 _ (D.su 97 (by omega)))
    | 98, _ => exact congrArg some (hy 98 _ (D.su 98 (by omega)))
    | 99, _ => exact congrArg some (hy 99 _ (D.su 99 (by omega)))
    | 100, _ => exact congrArg some (hy 100 _ (D.su 100 (by omega)))
    | 101, _ => exact congrArg some (hy 101 _ (D.su 101 (by omega)))
    | 102, _ => exact congrArg some (hy 102 _ (D.su 102 (by omega)))
    | 103, _ => exact congrArg some (hy 103 _ (D.su 103 (by omega)))
    | 104, _ => exact congrArg some (hy 104 _ (D.su 104 (by omega)))
    | 105, _ => exact congrArg some (hy 105 _ (D.su 105 (by omega)))
    | 106, _ => exact congrArg some (hy 106 _ (D.su 106 (by omega)))
    | i + 107, hi => omega) fin
set_option maxRecDepth 100000 in
set_option maxHeartbeats 16000000 in
theorem coreGo (D : CoreD q st K cs l msg t n r cv nv T B b8 b11 b13 b15 b16 b17 Gb gc Pb lb Rb Zb Wg capg bS oS cap Cg Cl eL) (M : AgM cs l msg n cv nv) {num : Nat} (hA : SAt 0 num K st) (hI : Inv q st) (hG : q.tG = 143) (hZ : q.tZ = 72) (hR : q.tR = 4) (hW : q.tW = 107) {c : Frame} {bs : List Frame}
    (fin : ∀ v st', AggPost r ((List.range l.length).map nv) (wrongTo (fun k => rightP (nv k) cv cs l msg k) l l.length) (num + l.length) K v st' → Inv q st' → TT (cfg q) 0 (TW (cfg q)) (G (c.finish v) bs) st') :
    TT (cfg q) 0 (TW (cfg q)) (G ((base 16).at ⟨T, []⟩ [.code (unseq 12 agBody).2]) (c :: bs)) st := by
  have E := D.enter M hA hG hZ hR hW
  have AD := D.agd M num
  have hK := D.kept hA
  have hap := fun b o hb => D.apart (b := b) (o := o) hb
  obtain ⟨y, hT, hy⟩ := slots_of T D.sz
  have y3 := hy _ _ D.s3
  have y11 := hy _ _ D.s11
  have y13 := hy _ _ D.s13
  have y15 := hy _ _ D.s15
  have y16 := hy _ _ D.s16
  have y17 := hy _ _ D.s17
  have y18 := hy _ _ D.s18
  have hcap := D.hcap
  have e1 : (unseq 12 agBody).2 = .seq agLoopP agRest := rfl
  rw [e1]
  refine TT.enter hP (s := agScene num cs l msg t n cv nv Gb gc Rb Zb Wg capg) hK E (fun b o hb => let ⟨a, b, c, d⟩ := hap b o hb; ⟨a, b, c, d⟩) (fun w => stepG_seq ..) rfl fun st₁ hA₁ hI₁ => ?_
  have hL := agLoopGo (bs := c :: bs) (y := y) hP AD hcap (afterLoop hP D M hG hZ hR hy fin) l.length 0 st₁
  clear hK E hap hI hA AD fin
  rw [hT]
  have HYY := Lib.hid hy
  clear hy
  simp only [agRnd, agBlk, agLoopP, agBody, unseq, Try.f16, Option.getD_some, agT, y3] at hL
  simp only [agLoopP, agBody, unseq, Try.f16, Option.getD_some, yArr, y3, y11, y13, y15, y16, y17, y18]
  refine TT.mroad hP hA₁ 80 fun w₀ hF => ?_
  repeat w_but "code.loop" mroad_rely
  u_c stepG_loop mroad_rely hF
  refine Goes.stop (fun w₁ r₁ => ⟨rfl, ?_⟩)
  exact hL _ _ _ _ _ _ _ _ _ (Nat.add_zero _) hA₁ hI₁
end
end Go.Proofs.Ytpfpokjaeffbjab.Cc
namespace Go.Proofs.Ytpfpokjaeffbjab.Cc
open Go.Conc Go.ConcN Go.RowKit
open Go.Proofs.Ytpfpokjaeffbjab.Pl Go.Proofs.Ytpfpokjaeffbjab.Dpl Go.Proofs.Ytpfpokjaeffbjab.Gpl Go.Proofs.Ytpfpokjaeffbjab.Kpl Go.Proofs.Ytpfpokjaeffbjab.Mem Go.Proofs.Ytpfpokjaeffbjab.Ver Go.Proofs.Ytpfpokjaeffbjab.Pkg Go.Proofs.Ytpfpokjaeffbjab.Sls Go.Proofs.Ytpfpokjaeffbjab.Agt Go.Proofs.Ytpfpokjaeffbjab.Agp Go.Proofs.Ytpfpokjaeffbjab.Gof
open Go.Proofs.Ytpfpokjaeffbjab.Fld hiding base
set_option linter.unusedVariables false
set_option linter.unusedSimpArgs false
theorem ne_cell {w : World} {a b : Nat} {C C' : Array Value} {e e' : TypeId} {f f' : Nat × Nat} (h : w.heap[a]? = some (.cells C e f)) (h' : w.heap[b]? = some (.cells C' e' f')) (k : Nat) (hne : C[k]? ≠ C'[k]?) : a ≠ b := by
  rintro rfl
  rw [h] at h'
  cases h'
  exact hne rfl
theorem aggM {t n : Int} {cs : List Int} {l : List Cm} {msg : ByteArray} {ns : Nat} {nv : Nat → Int} (h0 : aggE t n cs l msg ns = 0) (hms : msg.size ≤ 1000000) (hnb : ∀ k, k < l.length → 0 ≤ nv k ∧ nv k < 18446744073709551616) :
    AgM cs l msg n (chal (allP l (cs.getD 0 0) msg) (cs.getD 0 0) msg) nv ∧ ns = l.length ∧ 2 ≤ l.length := by
  unfold aggE at h0
  split at h0
  · cases h0
  rename_i h1
  split at h0
  · rename_i h2; exact absurd h0 h2
  rename_i h2
  split at h0
  · cases h0
  rename_i h3
  have g := groupOk_spec (t := t) (n := n) (cs := cs) (by simpa using h1)
  have p := pkE_spec (t := t) (n := n) (l := l) (by simpa using h2)
  have c := chal_bd (allP l (cs.getD 0 0) msg) (cs.getD 0 0) msg
  refine ⟨⟨by omega, by omega, by omega, by omega, fun j hj => groupOk_at (t := t) (n := n) (by simpa using h1) hj, good_of (t := t) (by simpa using h2), by omega, hms, hnb, by omega, by omega⟩, by simpa using h3, by omega⟩
section
variable {S : FuncId → Bool} {ρ : Nat → Option Nat} {ro : Nat → Md} {G : Nat} {s w : World}
theorem sameI {v v' : Value} (h : VR (fun f => S f = true) ρ v v') (hp : plainV 4 v = true ∧ solB 4 v = true) : v' = v := VR.same (ρ := fun _ => none) (ρ' := ρ) (fun b c x => by cases x) (fun b c x => by cases x) (solB_sol 4 _ hp.2) (plainV_rel 4 _ hp.1) h
theorem AR.plain {x x' : Array Value} (h : AR (fun f => S f = true) ρ x x') (hp : ∀ (i : Nat) (v : Value), x[i]? = some v → plainV 4 v = true ∧ solB 4 v = true) : x' = x :=
  Array.ext h.1.symm fun i h1 h2 => sameI (h.2 i _ _ (Array.getElem?_eq_getElem h2) (Array.getElem?_eq_getElem h1)) (hp i _ (Array.getElem?_eq_getElem h2))
theorem AR.lit1 {v : Value} {x' : Array Value} (h : AR (fun f => S f = true) ρ #[v] x') : ∃ v', x' = #[v'] ∧ VR (fun f => S f = true) ρ v v' := by
  have hs : x'.size = 1 := by simpa using h.1.symm
  obtain ⟨v', h1, h2⟩ := AR.get h (i := 0) rfl
  refine ⟨v', Array.ext (by simpa using hs) fun i i1 i2 => ?_, h2⟩
  obtain rfl : i = 0 := by simp at i2; exact i2
  rw [Array.getElem?_eq_getElem i1] at h1
  exact Option.some.inj h1
theorem AR.lit3 {u v z : Value} {x' : Array Value} (h : AR (fun f => S f = true) ρ #[u, v, z] x') : ∃ u' v' z', x' = #[u', v', z'] ∧ VR (fun f => S f = true) ρ u u' ∧ VR (fun f => S f = true) ρ v v' ∧ VR (fun f => S f = true) ρ z z' := by
  have hs : x'.size = 3 := by simpa using h.1.symm
  obtain ⟨u', a1, a2⟩ := AR.get h (i := 0) rfl
  obtain ⟨v', b1, b2⟩ := AR.get h (i := 1) rfl
  obtain ⟨z', c1, c2⟩ := AR.get h (i := 2) rfl
  refine ⟨u', v', z', Array.ext (by simpa using hs) fun i i1 i2 => ?_, a2, b2, c2⟩
  rw [Array.getElem?_eq_getElem (by omega)] at a1 b1 c1
  have hi : i < 3 := by omega
  match i, hi with
  | 0, _ => exact Option.some.inj a1
  | 1, _ => exact Option.some.inj b1
  | 2, _ => exact Option.some.inj c1
theorem ar_grp {t n : Int} {g k c : Nat} {x' : Array Value} (h : AR (fun f => S f = true) ρ (newGrp t n (.slice (some ⟨g, 0, none⟩) k c)) x') : ∃ g', ρ g = some g' ∧ x' = newGrp t n (.slice (some ⟨g', 0, none⟩) k c) := by
  obtain ⟨v', h1, h2⟩ := AR.get h (i := 2) rfl
  obtain ⟨g', e1, rfl⟩ := h2.sliceI
  refine ⟨g', e1, Array.ext (by have := h.1; simpa [newGrp] using this.symm) fun i i1 i2 => ?_⟩
  have hi : i < 16 := by simpa [newGrp] using i2
  have hv := fun v => h.2 i v x'[i]
  rw [Array.getElem?_eq_getElem i1] at hv
  match i, hi with
  | 0, _ => exact sameI (hv _ rfl rfl) (by simp [plainV, solB, newGrp])
  | 1, _ => exact sameI (hv _ rfl rfl) (by simp [plainV, solB, newGrp])
  | 2, _ => rw [Array.getElem?_eq_getElem i1] at h1; exact Option.some.inj h1
  | 3, _ => exact sameI (hv _ rfl rfl) (by simp [plainV, solB, newGrp])
  | 4, _ => exact sameI (hv _ rfl rfl) (by simp [plainV, solB, newGrp])
  | 5, _ => exact sameI (hv _ rfl rfl) (by simp [plainV, solB, newGrp])
  | 6, _ => exact sameI (hv _ rfl rfl) (by simp [plainV, solB, newGrp])
  | 7, _ => exact sameI (hv _ rfl rfl) (by simp [plainV, solB, newGrp])
  | 8, _ => exact sameI (hv _ rfl rfl) (by simp [plainV, solB, newGrp])
  | 9, _ => exact sameI (hv _ rfl rfl) (by simp [plainV, solB, newGrp])
  | 10, _ => exact sameI (hv _ rfl rfl) (by simp [plainV, solB, newGrp])
  | 11, _ => exact sameI (hv _ rfl rfl) (by simp [plainV, solB, newGrp])
  | 12, _ => exact sameI (hv _ rfl rfl) (by simp [plainV, solB, newGrp])
  | 13, _ => exact sameI (hv _ rfl rfl) (by simp [plainV, solB, newGrp])
  | 14, _ => exact sameI (hv _ rfl rfl) (by simp [plainV, solB, newGrp])
  | 15, _ => exact sameI (hv _ rfl rfl) (by simp [plainV, solB, newGrp])
  | i + 16, hi => omega
theorem AR.made {z : Value} {n : Nat} {x' : Array Value} (h : AR (fun f => S f = true) ρ (madeCells #[z] n) x') (hp : plainV 4 z = true ∧ solB 4 z = true) : x' = madeCells #[z] n := h.plain fun i v hv => by
  have hk : i < n := by have := (Array.getElem?_eq_some_iff.1 hv).1; rw [size_madeCells] at this; exact this
  rw [made_at _ hk] at hv; cases hv; exact hp
theorem HR.blkCell (h : HR G (fun f => S f = true) ro ρ s w) {b c : Nat} (hρ : ρ b = some c) (hro : ro b = .all) {i : Nat} {v : Value} (hc : s.cell? ⟨b, i, none⟩ = some v) : ∃ C C' e, s.heap[b]? = some (.cells C e (0, 0)) ∧ w.heap[c]? = some (.cells C' e (0, 0)) ∧ AR (fun f => S f = true) ρ C C' := by
  obtain ⟨o, o', h1, h2, h3⟩ := h.row b c hρ
  rw [hro] at h3
  cases h3 with
  | cells k3 k4 k5 k6 =>
    obtain ⟨e1, e2⟩ := k5 rfl
    subst e2
    exact ⟨_, _, _, h1, h2, e1, fun i v v' a b => by obtain ⟨z, hz, hr⟩ := k4 i v a; rw [hz] at b; cases b; exact hr⟩
  | number h _ => simp [World.cell?, h1] at hc
end
end Go.Proofs.Ytpfpokjaeffbjab.Cc
