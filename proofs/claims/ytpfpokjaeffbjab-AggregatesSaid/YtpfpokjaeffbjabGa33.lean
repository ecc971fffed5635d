/- Part of the proof: AgP. -/
import Derived.Test.YtpfpokjaeffbjabGa16
import Derived.Test.YtpfpokjaeffbjabGa20
import Derived.Test.YtpfpokjaeffbjabGa19
namespace Go.Proofs.Ytpfpokjaeffbjab.Agp
open Go.RowKit Go.Conc Go.Proofs.Ytpfpokjaeffbjab.Cc Go.Proofs.Ytpfpokjaeffbjab.Pl Go.Proofs.Ytpfpokjaeffbjab.Dpl Go.Proofs.Ytpfpokjaeffbjab.Gpl Go.Proofs.Ytpfpokjaeffbjab.Kpl Go.Proofs.Ytpfpokjaeffbjab.Mem Go.Proofs.Ytpfpokjaeffbjab.Ver Go.Proofs.Ytpfpokjaeffbjab.Pkg Go.Proofs.Ytpfpokjaeffbjab.Sls Go.Proofs.Ytpfpokjaeffbjab.Grp Go.Proofs.Ytpfpokjaeffbjab.Gof
open Go.Proofs.Ytpfpokjaeffbjab.Fld hiding base
set_option linter.unusedVariables false
def aggE (t n : Int) (cs : List Int) (l : List Cm) (msg : ByteArray) (ns : Nat) : Int :=
  if groupOk t n cs = false then 4 else if pkE t n l ≠ 0 then pkE t n l else if ns ≠ l.length then 12 else if allP l (cs.getD 0 0) msg = 1 then 11 else 0
def errV (x : Int) : Value := .tuple #[.agg #[.int .u64 0, .int .u64 0], .slice none 0 0, .int .i64 x]
def Stand (B : Nat) (w w' : World) : Prop := B ≤ w'.heap.size ∧ ∀ b, b < B → w'.heap[b]? = w.heap[b]?
theorem Stand.below {B B' : Nat} {w w1 w2 : World} (h : Stand B w w1) (k : Below B' w1 w2) (hB : B ≤ B') : Stand B w w2 := ⟨Nat.le_trans h.1 k.size, fun b hb => (k.block b (by omega)).trans (h.2 b hb)⟩
theorem Stand.set_ {B : Nat} {w w1 : World} (h : Stand B w w1) {b : Nat} (hb : B ≤ b) (i : Nat) (v : Value) : Stand B w (w1.setCell ⟨b, i, none⟩ v) :=
  ⟨by simpa [World.setCell] using h.1, fun c hc => (Below.heap_setCell w1 ⟨b, i, none⟩ v c (by show c ≠ b; omega)).trans (h.2 c hc)⟩
def PreR (t n : Int) (cs : List Int) (l : List Cm) (msg : ByteArray) (ns : Nat) (w : World) (a : Act) (w' : World) : Prop :=
  aggE t n cs l msg ns ≠ 0 ∧ (Go.results Try.f16 a.tmps).run Try.prog w' = .ok (errV (aggE t n cs l msg ns)) w' ∧ Stand w.heap.size w w'
def PreN (t n : Int) (cs : List Int) (l : List Cm) (msg : ByteArray) (sA : Option Addr) (ns cap : Nat) (w : World) (a : Act) (w' : World) : Prop :=
  aggE t n cs l msg ns = 0 ∧ Stand w.heap.size w w' ∧ a.tmps.size = 107 ∧ ∃ b8 b11 b13 b15 b16 b17 Gb Pb gc lb Rb Zb Wg capg : Nat,
    (a.tmps[3]? = some (.slice sA ns cap) ∧ a.tmps[8]? = some (.pointer (some ⟨b8, 0, none⟩)) ∧ a.tmps[9]? = some (.slice none 0 0) ∧ a.tmps[10]? = some (.int .i64 0) ∧ a.tmps[11]? = some (.pointer (some ⟨b11, 0, none⟩)) ∧ a.tmps[13]? = some (.pointer (some ⟨b13, 0, none⟩)) ∧
      a.tmps[14]? = some (.int .u64 (allP l (cs.getD 0 0) msg)) ∧ a.tmps[15]? = some (.pointer (some ⟨b15, 0, none⟩)) ∧ a.tmps[16]? = some (.pointer (some ⟨b16, 0, none⟩)) ∧ a.tmps[17]? = some (.pointer (some ⟨b17, 0, none⟩)) ∧ a.tmps[18]? = some (.pointer (some ⟨Wg, 0, none⟩)) ∧
      ∀ i, (19 ≤ i ∧ i < 24) ∨ (70 ≤ i ∧ i < 107) → a.tmps[i]? = some undef) ∧
    (∀ b ∈ [b8, b11, b13, b15, b16, b17, Gb, Pb, gc, lb, Rb, Zb, Wg], w.heap.size ≤ b) ∧
    Blk w' b8 46 #[.int .u64 0, .int .u64 0] ∧ Blk w' b11 69 #[.pointer (some ⟨Gb, 0, none⟩)] ∧ Blk w' b13 90 #[.pointer (some ⟨Pb, 0, none⟩)] ∧
    Blk w' b15 72 #[.int .u64 (chal (allP l (cs.getD 0 0) msg) (cs.getD 0 0) msg)] ∧ Blk w' b16 100 #[.slice (some ⟨Rb, 0, none⟩) ns ns] ∧ Blk w' b17 101 #[.slice (some ⟨Zb, 0, none⟩) ns ns] ∧
    Blk w' Gb 143 (newGrp t n (.slice (some ⟨gc, 0, none⟩) cs.length capg)) ∧ OwnCs w' w.heap.size (.slice (some ⟨gc, 0, none⟩) cs.length capg) cs ∧
    Blk w' Pb 146 #[.pointer (some ⟨Gb, 0, none⟩), .slice (some ⟨lb, 0, none⟩) l.length l.length, .string msg] ∧ Coms w' w'.heap.size (.slice (some ⟨lb, 0, none⟩) l.length l.length) l ∧
    Blk w' Rb 4 (madeCells #[.bool false] ns) ∧ Blk w' Zb 72 (madeCells #[.int .u64 0] ns) ∧ Blk w' Wg 107 #[.int .u64 0, .int .u32 0]
theorem wpT_next {N R : Act → World → Prop} {c : Code} {cs : List Code} {a : Act} {W : World} (F : World → Prop) (hF : ∀ W τ d, F W → F (World.on W τ d)) (h : F W)
    (k : ∀ W', F W' → c.wp Try.prog (fun e a w => (e = .normal ∧ a.defers = [] ∧ wpT Try.prog N R cs a w) ∨ (e = .ret ∧ a.defers = [] ∧ R a w)) a W') : wpT Try.prog N R (c :: cs) a W := fun τ d => k _ (hF W τ d h)
theorem err_run {wq : World} {b8 : Nat} {T : Array Value} {x : Int} (h8 : Blk wq b8 46 #[.int .u64 0, .int .u64 0]) (t8 : T[8]? = some (.pointer (some ⟨b8, 0, none⟩)) := by rfl) (t9 : T[9]? = some (.slice none 0 0) := by rfl) (t10 : T[10]? = some (.int .i64 x) := by rfl) :
    (Go.results Try.f16 T).run Try.prog ((wq.setCell ⟨b8, 0, none⟩ (.int .u64 0)).setCell ⟨b8, 1, none⟩ (.int .u64 0)) = .ok (errV x) ((wq.setCell ⟨b8, 0, none⟩ (.int .u64 0)).setCell ⟨b8, 1, none⟩ (.int .u64 0)) := by
  have B := ((h8.set_ 0 (.int .u64 0)).set_ 1 (.int .u64 0))
  have c0 := B.cell 0
  have c1 := B.cell 1
  unfold errV
  simp [Go.results, Try.results16, t8, t9, t10, go_sem, c0, c1]
theorem und_at (T : Array Value) (i : Nat) (hi : (19 ≤ i ∧ i < 24) ∨ (70 ≤ i ∧ i < 107)) (h19 : T[19]? = some undef) (h20 : T[20]? = some undef) (h21 : T[21]? = some undef) (h22 : T[22]? = some undef) (h23 : T[23]? = some undef) (h70 : T[70]? = some undef) (h71 : T[71]? = some undef) (h72 : T[72]? = some undef) (h73 : T[73]? = some undef) (h74 : T[74]? = some undef) (h75 : T[75]? = some undef) (h76 : T[76]? = some undef) (h77 : T[77]? = some undef) (h78 : T[78]? = some undef) (h79 : T[79]? = some undef) (h80 : T[80]? = some undef) (h81 : T[81]? = some undef) (h82 : T[82]? = some undef) (h83 : T[83]? = some undef) (h84 : T[84]? = some undef) (h85 : T[85]? = some undef) (h86 : T[86]? = some undef) (h87 : T[87]? = some undef) (h88 : T[88]? = some undef) (h89 : T[89]? = some undef) (h90 : T[90]? = some undef) (h91 : T[91]? = some undef) (h92 : T[92]? = some undef) (h93 : T[93]? = some undef) (h94 : T[94]? = some undef) (h95 : T[95]? = some undef) (h96 : T[96]? = some undef) (h97 : T[97]? = some undef) (h98 : T[98]? = some undef) (h99 : T[99]? = some undef) (h100 : T[100]? = some undef) (h101 : T[101]? = some undef) (h102 : T[102]? = some undef) (h103 : T[103]? = some undef) (h104 : T[104]? = some undef) (h105 : T[105]? = some undef) (h106 : T[106]? = some undef) : T[i]? = some undef := by
  match i, hi with
  | 0, h => omega
  | 1, h => omega
  | 2, h => omega
  | 3, h => omega
  | 4, h => omega
  | 5, h => omega
  | 6, h => omega
  | 7, h => omega
  | 8, h => omega
  | 9, h => omega
  | 10, h => omega
  | 11, h => omega
  | 12, h => omega
  | 13, h => omega
  | 14, h => omega
  | 15, h => omega
  | 16, h => omega
  | 17, h => omega
  | 18, h => omega
  | 19, _ => exact h19
  | 20, _ => exact h20
  | 21, _ => exact h21
  | 22, _ => exact h22
  | 23, _ => exact h23
  | 24, h => omega
  | 25, h => omega
  | 26, h => omega
  | 27, h => omega
  | 28, h => omega
  | 29, h => omega
  | 30, h => omega
  | 31, h => omega
  | 32, h => omega
  | 33, h => omega
  | 34, h => omega
  | 35, h => omega
  | 36, h => omega
  | 37, h => omega
  | 38, h => omega
  | 39, h => omega
  | 40, h => omega
  | 41, h => omega
  | 42, h => omega
  | 43, h => omega
  | 44, h => omega
  | 45, h => omega
  | 46, h => omega
  | 47, h => omega
  | 48, h => omega
  | 49, h => omega
  | 50, h => omega
  | 51, h => omega
  | 52, h => omega
  | 53, h => omega
  | 54, h => omega
  | 55, h => omega
  | 56, h => omega
  | 57, h => omega
  | 58, h => omega
  | 59, h => omega
  | 60, h => omega
  | 61, h => omega
  | 62, h => omega
  | 63, h => omega
  | 64, h => omega
  | 65, h => omega
  | 66, h => omega
  | 67, h => omega
  | 68, h => omega
  | 69, h => omega
  | 70, _ => exact h70
  | 71, _ => exact h71
  | 72, _ => exact h72
  | 73, _ => exact h73
  | 74, _ => exact h74
  | 75, _ => exact h75
  | 76, _ => exact h76
  | 77, _ => exact h77
  | 78, _ => exact h78
  | 79, _ => exact h79
  | 80, _ => exact h80
  | 81, _ => exact h81
  | 82, _ => exact h82
  | 83, _ => exact h83
  | 84, _ => exact h84
  | 85, _ => exact h85
  | 86, _ => exact h86
  | 87, _ => exact h87
  | 88, _ => exact h88
  | 89, _ => exact h89
  | 90, _ => exact h90
  | 91, _ => exact h91
  | 92, _ => exact h92
  | 93, _ => exact h93
  | 94, _ => exact h94
  | 95, _ => exact h95
  | 96, _ => exact h96
  | 97, _ => exact h97
  | 98, _ => exact h98
  | 99, _ => exact h99
  | 100, _ => exact h100
  | 101, _ => exact h101
  | 102, _ => exact h102
  | 103, _ => exact h103
  | 104, _ => exact h104
  | 105, _ => exact h105
  | 106, _ => exact h106
  | i + 107, h => omega
theorem info_bool : (Try.prog.info? 4).map (fun i => (i.zero, i.size, i.bytes)) = some (some (.bool false), 1, 1) := by kernel_rfl
theorem info_sc : (Try.prog.info? 72).map (fun i => (i.zero, i.size, i.bytes)) = some (some (.int .u64 0), 1, 8) := by kernel_rfl
set_option maxRecDepth 100000 in
set_option maxHeartbeats 16000000 in
theorem preC {w : World} {t n : Int} {vg lvv : Value} {sA : Option Addr} {ns cap : Nat} {cs : List Int} {l : List Cm} {msg : ByteArray} (hv : Nums .u64 w w.heap.size vg cs) (hcb : ∀ i, i < cs.length → 0 ≤ cs.getD i 0) (hcl : cs.length ≤ 65536) (hC : Coms w w.heap.size lvv l) (hll : l.length ≤ 65536) (hb : ∀ i, i < l.length → 0 ≤ (l.getD i .zero).d ∧ 0 ≤ (l.getD i .zero).e) (hns : ns ≤ 65536) (hms : msg.size ≤ 1000000) :
    wpT Try.prog (PreN t n cs l msg sA ns cap w) (PreR t n cs l msg ns w) (unseq 12 agBody).1 ⟨#[.agg #[.int .i64 t, .int .i64 n, vg], .string msg, lvv, .slice sA ns cap, undef, undef, undef, undef, undef, undef, undef, undef, undef, undef, undef, undef, undef, undef, undef, undef, undef, undef, undef, undef, undef, undef, undef, undef, undef, undef, undef, undef, undef, undef, undef, undef, undef, undef, undef, undef, undef, undef, undef, undef, undef, undef, undef, undef, undef, undef, undef, undef, undef, undef, undef, undef, undef, undef, undef, undef, undef, undef, undef, undef, undef, undef, undef, undef, undef, undef, undef, undef, undef, undef, undef, undef, undef, undef, undef, undef, undef, undef, undef, undef, undef, undef, undef, undef, undef, undef, undef, undef, undef, undef, undef, undef, undef, undef, undef, undef, undef, undef, undef, undef, undef, undef, undef], []⟩ w := by
  obtain ⟨B, hB⟩ : ∃ B, B = w.heap.size := ⟨_, rfl⟩
  have HE : ∀ x, aggE t n cs l msg ns = x → Hid (aggE t n cs l msg ns = x) := fun x h => h
  have HCB := Lib.hid hcb
  have HBB := Lib.hid hb
  simp only [agBody, unseq, Try.f16, Option.getD_some]
  refine wpT_next (fun W => Nums .u64 W W.heap.size vg cs ∧ Coms W W.heap.size lvv l ∧ W.heap.size = B ∧ Stand B w W) (fun _ _ _ h => h) ⟨hv, hC, hB.symm, by rw [hB]; exact ⟨Nat.le_refl _, fun _ _ => rfl⟩⟩ fun w0 ⟨hv0, hC0, hz0, hs0⟩ => ?_
  have HBS := Lib.hid hB
  clear hB
  have hbel : ∀ o o' : Obj, Below w0.heap.size w0 ((w0.alloc o).alloc o') := fun o o' => (below_box w0 o).trans ((below_box (w0.alloc o) o').mono (by simp))
  have k1 := fun o o' => hv0.later (hbel o o')
  have k2 := fun o o' => hC0.later (hbel o o')
  have k3 := fun o o' => hs0.below (hbel o o') (by omega)
  clear hv hC hcb hb
  go_wp2_with fail
  refine wpT_next (fun W => Nums .u64 W W.heap.size vg cs ∧ Coms W W.heap.size lvv l ∧ Stand B w W ∧ Blk W B 28 #[.int .i64 t, .int .i64 n, vg] ∧ Blk W (B + 1) 46 #[.int .u64 0, .int .u64 0] ∧ W.heap.size = B + 2) (fun _ _ _ h => h) ⟨k1 _ _, k2 _ _, k3 _ _, ?_, ?_, by simp; omega⟩ fun w1 ⟨hv1, hC1, hs1, h4, h8, hz1⟩ => ?_
  · rw [← hz0]; exact (Blk.new w0 _ _).alloc _
  · rw [← hz0]; exact blk_new' _ _ (by simp)
  clear k1 k2 k3 hbel hs0 hC0 hv0
  have c0 := h4.cell 0
  have c1 := h4.cell 1
  have c2 := h4.cell 2
  simp at c0 c1 c2
  have HOF := Lib.hid (ofC' t n cs vg w1 hv1 hcl HCB.out)
  have H8 := Lib.hid h8
  have HC1 := Lib.hid hC1
  clear h8 hv1 hC1
  go_wp2_with fail
  refine HOF.out.mono ?_
  rintro e w2 ⟨hb2, ⟨hno, rfl⟩ | ⟨hyes, g, vc, rfl, hg, hgrp, hown⟩⟩
  · have h8' := H8.out.below hb2 H8.out.lt
    have hs2 := hs1.below hb2 (by omega)
    have HX := Lib.hid (show aggE t n cs l msg ns = 4 by unfold aggE; rw [if_pos hno])
    have hsz := hb2.size
    go_wp2_with fail
    refine wpT_next (fun W => Stand B w W ∧ Blk W (B + 1) 46 #[.int .u64 0, .int .u64 0]) (fun _ _ _ h => h) ⟨hs2.below (below_box _ _) (by omega), h8'.below (below_box _ _) h8'.lt⟩ fun w3 ⟨hs3, h83⟩ => ?_
    have e0 := h83.cell 0
    have e1 := h83.cell 1
    have f0 := h83.frozen 0
    have f1 := h83.frozen 1
    have H83 := Lib.hid h83
    clear h8' h83 hs2
    go_wp2_with fail
    exact ⟨by rw [HX.out]; decide, by rw [HX.out]; exact err_run H83.out, by rw [← HBS.out]; exact (hs3.set_ (by omega) _ _).set_ (by omega) _ _⟩
  have hsz2 := hb2.size
  have h8' := H8.out.below hb2 H8.out.lt
  have hs2 := hs1.below hb2 (by omega)
  have hC2 := HC1.out.later hb2
  have HB2 := fun o => below_box w2 o
  go_wp2_with fail
  obtain ⟨b11, hb11⟩ : ∃ b, b = w2.heap.size := ⟨_, rfl⟩
  refine wpT_next (fun W => Coms W W.heap.size lvv l ∧ Stand B w W ∧ Blk W (B + 1) 46 #[.int .u64 0, .int .u64 0] ∧ Blk W b11 69 #[.pointer (some ⟨g, 0, none⟩)] ∧ Blk W g 143 (newGrp t n vc) ∧ OwnCs W B vc cs) (fun _ _ _ h => h) ⟨hC2.later (HB2 _), hs2.below (HB2 _) (by omega), h8'.below (HB2 _) h8'.lt, by rw [hb11]; exact Blk.new _ _ _, hgrp.below (HB2 _) hgrp.lt, (own_below hown (HB2 _) (Nat.le_refl _)).mono (by omega)⟩ fun w3 ⟨hC3, hs3, h83, h113, hg3, ho3⟩ => ?_
  rw [← hb11]
  have hb11B : B ≤ b11 := by omega
  have hgB : B ≤ g := by omega
  have HYES := Lib.hid hyes
  clear HB2 hb11 hb2 h8' hs2 hC2 hgrp hown hsz2 hg hyes H8 HC1 HOF h4 c0 c1 c2 hs1 hz1
  go_wp2_with fail
  refine wpT_next (fun W => Coms W W.heap.size lvv l ∧ Stand B w W ∧ Blk W (B + 1) 46 #[.int .u64 0, .int .u64 0] ∧ Blk W b11 69 #[.pointer (some ⟨g, 0, none⟩)] ∧ Blk W g 143 (newGrp t n vc) ∧ OwnCs W B vc cs) (fun _ _ _ h => h) ⟨hC3, hs3, h83, h113, hg3, ho3⟩ fun w4 ⟨hC4, hs4, h84, h114, hg4, ho4⟩ => ?_
  clear hC3 hs3 h83 h113 hg3 ho3
  have c11 := h114.cell 0
  simp at c11
  have HPO := Lib.hid (pkgOfC' (msg := msg) (newGrp_at hg4) ho4 hC4 hll HBB.out)
  have H84 := Lib.hid h84
  have HG4 := Lib.hid hg4
  have HO4 := Lib.hid ho4
  have H114 := Lib.hid h114
  clear h84 hg4 ho4 hC4 h114
  go_wp2_with fail
  refine HPO.out.mono ?_
  rintro e w5 ⟨hb5, ⟨hno, rfl⟩ | ⟨h0, p, lv', rfl, hpk, hpB, lb, rfl, hlB⟩⟩
  · have h8' := H84.out.below hb5 H84.out.lt
    have hs5 := hs4.below hb5 hs4.1
    have HX := Lib.hid (show aggE t n cs l msg ns = pkE t n l by unfold aggE; rw [if_neg (by rw [HYES.out]; simp), if_pos hno])
    have HN := Lib.hid hno
    have hne : (pkE t n l != 0) = true := by rw [bne_iff_ne]; exact hno
    generalize pkE t n l = X at *
    clear hno
    go_wp2_with fail
    refine wpT_next (fun W => Stand B w W ∧ Blk W (B + 1) 46 #[.int .u64 0, .int .u64 0]) (fun _ _ _ h => h) ⟨hs5.below (below_box _ _) hs5.1, h8'.below (below_box _ _) h8'.lt⟩ fun w6 ⟨hs6, h86⟩ => ?_
    have e0 := h86.cell 0
    have e1 := h86.cell 1
    have f0 := h86.frozen 0
    have f1 := h86.frozen 1
    have H86 := Lib.hid h86
    clear h8' h86 hs5
    go_wp2_with fail
    exact ⟨by rw [HX.out]; exact HN.out, by rw [HX.out]; exact err_run H86.out, by rw [← HBS.out]; exact (hs6.set_ (by omega) _ _).set_ (by omega) _ _⟩
  have hs5 := hs4.below hb5 hs4.1
  have h85 := H84.out.below hb5 H84.out.lt
  have h115 := H114.out.below hb5 H114.out.lt
  have hg5 := HG4.out.below hb5 HG4.out.lt
  have HB5 := fun o => below_box w5 o
  have hsz5 := hs5.1
  have hsz4 := hs4.1
  go_wp2_with fail
  obtain ⟨b13, hb13⟩ : ∃ b, b = w5.heap.size := ⟨_, rfl⟩
  refine wpT_next (fun W => Stand B w W ∧ Blk W (B + 1) 46 #[.int .u64 0, .int .u64 0] ∧ Blk W b11 69 #[.pointer (some ⟨g, 0, none⟩)] ∧ Blk W g 143 (newGrp t n vc) ∧ Blk W b13 90 #[.pointer (some ⟨p, 0, none⟩)] ∧ Pk W p g vc (.slice (some ⟨lb, 0, none⟩) l.length l.length) t n cs l msg B) (fun _ _ _ ⟨a1, a2, a3, a4, a5, a6⟩ => ⟨a1, a2, a3, a4, a5, ⟨a6.pk, a6.coms, a6.grp, a6.own⟩⟩) ⟨hs5.below (HB5 _) hsz5, h85.below (HB5 _) h85.lt, h115.below (HB5 _) h115.lt, hg5.below (HB5 _) hg5.lt, by rw [hb13]; exact Blk.new _ _ _, hpk.later (HB5 _)⟩ fun w6 ⟨hs6, h86, h116, hg6, h136, hp6⟩ => ?_
  rw [← hb13]
  have hb13B : B ≤ b13 := by omega
  have hpB' : B ≤ p := by omega
  have hlB' : B ≤ lb := by omega
  have H0 := Lib.hid h0
  clear HB5 hb13 hb5 hs5 h85 h115 hg5 hsz5 hsz4 hpk hpB hlB h0 HPO H84 HG4 HO4 H114 c11 hs4
  go_wp2_with fail
  refine wpT_next (fun W => Stand B w W ∧ Blk W (B + 1) 46 #[.int .u64 0, .int .u64 0] ∧ Blk W b11 69 #[.pointer (some ⟨g, 0, none⟩)] ∧ Blk W g 143 (newGrp t n vc) ∧ Blk W b13 90 #[.pointer (some ⟨p, 0, none⟩)] ∧ Pk W p g vc (.slice (some ⟨lb, 0, none⟩) l.length l.length) t n cs l msg B) (fun _ _ _ ⟨a1, a2, a3, a4, a5, a6⟩ => ⟨a1, a2, a3, a4, a5, ⟨a6.pk, a6.coms, a6.grp, a6.own⟩⟩) ⟨hs6, h86, h116, hg6, h136, hp6⟩ fun w7 ⟨hs7, h87, h117, hg7, h137, hp7⟩ => ?_
  clear hs6 h86 h116 hg6 h136 hp6
  have c13 := h137.cell 0
  simp at c13
  have HLEN := Lib.hid (lenC hp7)
  have H87 := Lib.hid h87
  have H117 := Lib.hid h117
  have HG7 := Lib.hid hg7
  have HP7 := Lib.hid hp7
  have H137 := Lib.hid h137
  by_cases hln : ns = l.length
  case neg =>
    have HX := Lib.hid (show aggE t n cs l msg ns = 12 by unfold aggE; rw [if_neg (by rw [HYES.out]; simp), if_neg (by rw [H0.out]; simp), if_pos hln])
    have hne : ((ns : Int) != (l.length : Int)) = true := by rw [bne_iff_ne]; omega
    have hne' : ¬ ((ns : Int) = (l.length : Int)) := by omega
    have e0 := h87.cell 0
    have e1 := h87.cell 1
    have f0 := h87.frozen 0
    have f1 := h87.frozen 1
    clear h117 hg7 hp7 h137 h87 hln
    go_wp2_with (go_at_call 33; refine HLEN.out.mono ?_; rintro e w8 ⟨rfl, rfl⟩)
    exact ⟨by rw [HX.out]; decide, by rw [HX.out]; exact err_run H87.out, by rw [← HBS.out]; exact (hs7.set_ (by omega) _ _).set_ (by omega) _ _⟩
  case pos =>
  subst hln
  clear h117 hg7 hp7 h137 h87
  go_wp2_with (go_at_call 33; refine HLEN.out.mono ?_; rintro e w8 ⟨rfl, rfl⟩)
  refine wpT_next (fun W => Stand B w W ∧ Blk W (B + 1) 46 #[.int .u64 0, .int .u64 0] ∧ Blk W b11 69 #[.pointer (some ⟨g, 0, none⟩)] ∧ Blk W g 143 (newGrp t n vc) ∧ Blk W b13 90 #[.pointer (some ⟨p, 0, none⟩)] ∧ Pk W p g vc (.slice (some ⟨lb, 0, none⟩) l.length l.length) t n cs l msg B) (fun _ _ _ ⟨a1, a2, a3, a4, a5, a6⟩ => ⟨a1, a2, a3, a4, a5, ⟨a6.pk, a6.coms, a6.grp, a6.own⟩⟩) ⟨hs7, H87.out, H117.out, HG7.out, H137.out, HP7.out⟩ fun w8 ⟨hs8, h88, h118, hg8, h138, hp8⟩ => ?_
  clear hs7 H87 H117 HG7 HP7 H137 HLEN c13
  have c13 := h138.cell 0
  simp at c13
  obtain ⟨q1, q2, q3, q4, -, -⟩ := groupOk_spec HYES.out
  obtain ⟨p1, p2, -, -⟩ := pkE_spec H0.out
  have hgd := good_of H0.out
  have hcl0 : 0 < cs.length := by omega
  have hl9 : l.length ≤ 9 := by omega
  have hk := isEl_bd (groupOk_at HYES.out hcl0)
  have hk2 : 0 ≤ cs.getD 0 0 ∧ cs.getD 0 0 < 18446744073709551616 := by omega
  have HALL := fun r x hx => Lib.hid (allC hp8 hgd q3 hl9 hcl0 hk2 hms r x hx)
  have H88 := Lib.hid h88
  have H118 := Lib.hid h118
  have HG8 := Lib.hid hg8
  have HP8 := Lib.hid hp8
  have H138 := Lib.hid h138
  clear h88 h118 hg8 hp8 h138
  by_cases hall : allP l (cs.getD 0 0) msg = 1
  · have HX := Lib.hid (show aggE t n cs l msg l.length = 11 by unfold aggE; rw [if_neg (by rw [HYES.out]; simp), if_neg (by rw [H0.out]; simp), if_neg (by simp), if_pos hall])
    have HA := HALL 0 11 (.inl ⟨hall, rfl, rfl⟩)
    clear HALL hall
    go_wp2_with fail
    refine HA.out.mono ?_
    rintro e w9 ⟨rfl, hb9⟩
    have h89 := H88.out.below hb9 H88.out.lt
    have hs9 := hs8.below hb9 hs8.1
    go_wp2_with fail
    refine wpT_next (fun W => Stand B w W ∧ Blk W (B + 1) 46 #[.int .u64 0, .int .u64 0]) (fun _ _ _ h => h) ⟨hs9, h89⟩ fun w10 ⟨hs10, h810⟩ => ?_
    have e0 := h810.cell 0
    have e1 := h810.cell 1
    have f0 := h810.frozen 0
    have f1 := h810.frozen 1
    have H810 := Lib.hid h810
    clear h89 h810 hs9
    go_wp2_with fail
    exact ⟨by rw [HX.out]; decide, by rw [HX.out]; exact err_run H810.out, by rw [← HBS.out]; exact (hs10.set_ (by omega) _ _).set_ (by omega) _ _⟩
  obtain ⟨R, hR⟩ : ∃ R, R = allP l (cs.getD 0 0) msg := ⟨_, rfl⟩
  have HRR := Lib.hid hR
  have HX := Lib.hid (show aggE t n cs l msg l.length = 0 by unfold aggE; rw [if_neg (by rw [HYES.out]; simp), if_neg (by rw [H0.out]; simp), if_neg (by simp), if_neg hall])
  have HA := HALL R 0 (.inr ⟨hall, hR, rfl⟩)
  clear HALL hall hR
  go_wp2_with fail
  refine HA.out.mono ?_
  rintro e w9 ⟨rfl, hb9⟩
  have hs9 := hs8.below hb9 hs8.1
  have h89 := H88.out.below hb9 H88.out.lt
  have h119 := H118.out.below hb9 H118.out.lt
  have hg9 := HG8.out.below hb9 HG8.out.lt
  have h139 := H138.out.below hb9 H138.out.lt
  have hp9 := HP8.out.later hb9
  go_wp2_with fail
  refine wpT_next (fun W => Stand B w W ∧ Blk W (B + 1) 46 #[.int .u64 0, .int .u64 0] ∧ Blk W b11 69 #[.pointer (some ⟨g, 0, none⟩)] ∧ Blk W g 143 (newGrp t n vc) ∧ Blk W b13 90 #[.pointer (some ⟨p, 0, none⟩)] ∧ Pk W p g vc (.slice (some ⟨lb, 0, none⟩) l.length l.length) t n cs l msg B) (fun _ _ _ ⟨a1, a2, a3, a4, a5, a6⟩ => ⟨a1, a2, a3, a4, a5, ⟨a6.pk, a6.coms, a6.grp, a6.own⟩⟩) ⟨hs9, h89, h119, hg9, h139, hp9⟩ fun w10 ⟨hs10, h810, h1110, hg10, h1310, hp10⟩ => ?_
  clear hs9 h89 h119 hg9 h139 hp9 hb9 HA H88 H118 HG8 HP8 H138 c13 hs8
  go_wp2_with fail
  refine wpT_next (fun W => Stand B w W ∧ Blk W (B + 1) 46 #[.int .u64 0, .int .u64 0] ∧ Blk W b11 69 #[.pointer (some ⟨g, 0, none⟩)] ∧ Blk W g 143 (newGrp t n vc) ∧ Blk W b13 90 #[.pointer (some ⟨p, 0, none⟩)] ∧ Pk W p g vc (.slice (some ⟨lb, 0, none⟩) l.length l.length) t n cs l msg B) (fun _ _ _ ⟨a1, a2, a3, a4, a5, a6⟩ => ⟨a1, a2, a3, a4, a5, ⟨a6.pk, a6.coms, a6.grp, a6.own⟩⟩) ⟨hs10, h810, h1110, hg10, h1310, hp10⟩ fun w11 ⟨hs11, h811, h1111, hg11, h1311, hp11⟩ => ?_
  clear hs10 h810 h1110 hg10 h1310 hp10
  have c11 := h1111.cell 0
  simp at c11
  have hr : 0 ≤ allP l (cs.getD 0 0) msg ∧ allP l (cs.getD 0 0) msg < 2147483579 := by rw [allP_eq]; exact allR_bd _ _ _ _
  have HKEY := Lib.hid (keyC hp11.grp hp11.own hcl0)
  have HCH := Lib.hid (challengeC (allP l (cs.getD 0 0) msg) (cs.getD 0 0) msg w11 hms ⟨hr.1, by omega⟩ hk2)
  have H811 := Lib.hid h811
  have H1111 := Lib.hid h1111
  have HG11 := Lib.hid hg11
  have HP11 := Lib.hid hp11
  have H1311 := Lib.hid h1311
  have hr0 := hr.1
  have hr1 := hr.2
  have hR := HRR.out
  obtain ⟨KK, hKK⟩ : ∃ KK, KK = cs.getD 0 0 := ⟨_, rfl⟩
  obtain ⟨CCC, hCC⟩ : ∃ CC, CC = chal R KK msg := ⟨_, rfl⟩
  rw [← hR, ← hKK] at HCH
  rw [← hCC] at HCH
  rw [← hKK] at HKEY
  have HKK := Lib.hid hKK
  have HCC := Lib.hid hCC
  clear hR hKK hCC h811 h1111 hg11 hp11 h1311 hr hr0 hr1
  go_wp2_with (first | (go_at_call 40; refine HKEY.out.mono ?_; rintro e w' ⟨rfl, rfl⟩) | (go_at_call 39; refine HCH.out.mono ?_; rintro e w12 ⟨rfl, hb12⟩))
  have hs12 := hs11.below hb12 hs11.1
  have h812 := H811.out.below hb12 H811.out.lt
  have h1112 := H1111.out.below hb12 H1111.out.lt
  have hg12 := HG11.out.below hb12 HG11.out.lt
  have h1312 := H1311.out.below hb12 H1311.out.lt
  have hp12 := HP11.out.later hb12
  have HB12 := fun o => below_box w12 o
  have hsz12 := hs12.1
  obtain ⟨b15, hb15⟩ : ∃ b, b = w12.heap.size := ⟨_, rfl⟩
  refine wpT_next (fun W => Stand B w W ∧ Blk W (B + 1) 46 #[.int .u64 0, .int .u64 0] ∧ Blk W b11 69 #[.pointer (some ⟨g, 0, none⟩)] ∧ Blk W g 143 (newGrp t n vc) ∧ Blk W b13 90 #[.pointer (some ⟨p, 0, none⟩)] ∧ Pk W p g vc (.slice (some ⟨lb, 0, none⟩) l.length l.length) t n cs l msg B ∧ Blk W b15 72 #[.int .u64 CCC]) (fun _ _ _ ⟨a1, a2, a3, a4, a5, a6, a7⟩ => ⟨a1, a2, a3, a4, a5, ⟨a6.pk, a6.coms, a6.grp, a6.own⟩, a7⟩) ⟨hs12.below (HB12 _) hsz12, h812.below (HB12 _) h812.lt, h1112.below (HB12 _) h1112.lt, hg12.below (HB12 _) hg12.lt, h1312.below (HB12 _) h1312.lt, hp12.later (HB12 _), by rw [hb15]; exact Blk.new _ _ _⟩ fun w13 ⟨hs13, h813, h1113, hg13, h1313, hp13, h1513⟩ => ?_
  rw [← hb15]
  have hb15B : B ≤ b15 := by omega
  clear hs12 h812 h1112 hg12 h1312 hp12 HB12 hb15 hsz12 hb12 HKEY HCH H811 H1111 HG11 HP11 H1311 c11 hs11
  have hmkB : ∀ W, (Instr.makeSlice 100 (.int .i64 l.length) (.int .i64 l.length)).run Try.prog W = .ok (.slice (some ⟨W.heap.size, 0, none⟩) l.length l.length) (W.alloc (.cells (madeCells #[.bool false] l.length) 4)) :=
    fun W => run_make_row' 100 4 (.bool false) 1 Try.underlying100 info_bool rfl .i64 .i64 l.length (by omega) (by omega) W
  have hmkZ : ∀ W, (Instr.makeSlice 101 (.int .i64 l.length) (.int .i64 l.length)).run Try.prog W = .ok (.slice (some ⟨W.heap.size, 0, none⟩) l.length l.length) (W.alloc (.cells (madeCells #[.int .u64 0] l.length) 72)) :=
    fun W => run_make_row' 101 72 (.int .u64 0) 8 Try.underlying101 info_sc rfl .i64 .i64 l.length (by omega) (by omega) W
  have HB13 := fun o o' => (below_box w13 o).trans ((below_box (w13.alloc o) o').mono (by simp))
  obtain ⟨Rb, hRb⟩ : ∃ b, b = w13.heap.size := ⟨_, rfl⟩
  obtain ⟨b16, hb16⟩ : ∃ b, b = w13.heap.size + 1 := ⟨_, rfl⟩
  have hsz13 := hs13.1
  have HN13 := Lib.hid (show (fun W => Stand B w W ∧ Blk W (B + 1) 46 #[.int .u64 0, .int .u64 0] ∧ Blk W b11 69 #[.pointer (some ⟨g, 0, none⟩)] ∧ Blk W g 143 (newGrp t n vc) ∧ Blk W b13 90 #[.pointer (some ⟨p, 0, none⟩)] ∧ Pk W p g vc (.slice (some ⟨lb, 0, none⟩) l.length l.length) t n cs l msg B ∧ Blk W b15 72 #[.int .u64 CCC]) w13 from ⟨hs13, h813, h1113, hg13, h1313, hp13, h1513⟩)
  clear h813 h1113 hg13 h1313 hp13 h1513
  go_wp2_with fail
  obtain ⟨k1, k2, k3, k4, k5, k6, k7⟩ := HN13.out
  refine wpT_next (fun W => Stand B w W ∧ Blk W (B + 1) 46 #[.int .u64 0, .int .u64 0] ∧ Blk W b11 69 #[.pointer (some ⟨g, 0, none⟩)] ∧ Blk W g 143 (newGrp t n vc) ∧ Blk W b13 90 #[.pointer (some ⟨p, 0, none⟩)] ∧ Pk W p g vc (.slice (some ⟨lb, 0, none⟩) l.length l.length) t n cs l msg B ∧ Blk W b15 72 #[.int .u64 CCC] ∧ Blk W Rb 4 (madeCells #[.bool false] l.length) ∧ Blk W b16 100 #[.slice (some ⟨Rb, 0, none⟩) l.length l.length]) (fun _ _ _ ⟨a1, a2, a3, a4, a5, a6, a7, a8, a9⟩ => ⟨a1, a2, a3, a4, a5, ⟨a6.pk, a6.coms, a6.grp, a6.own⟩, a7, a8, a9⟩) ⟨k1.below (HB13 _ _) hsz13, k2.below (HB13 _ _) k2.lt, k3.below (HB13 _ _) k3.lt, k4.below (HB13 _ _) k4.lt, k5.below (HB13 _ _) k5.lt, k6.later (HB13 _ _), k7.below (HB13 _ _) k7.lt, by rw [hRb]; exact (Blk.new w13 _ _).alloc _, by rw [hRb, hb16]; exact blk_new' _ _ (by simp)⟩ fun w14 X14 => ?_
  rw [← hb16]
  have hRbB : B ≤ Rb := by omega
  have hb16B : B ≤ b16 := by omega
  clear k1 k2 k3 k4 k5 k6 k7 HB13 HN13 hRb hb16 hsz13 hs13
  have hsz14 := X14.1.1
  have HN14 := Lib.hid X14
  clear X14
  have HB14 := fun o o' => (below_box w14 o).trans ((below_box (w14.alloc o) o').mono (by simp))
  obtain ⟨Zb, hZb⟩ : ∃ b, b = w14.heap.size := ⟨_, rfl⟩
  obtain ⟨b17, hb17⟩ : ∃ b, b = w14.heap.size + 1 := ⟨_, rfl⟩
  go_wp2_with fail
  obtain ⟨k1, k2, k3, k4, k5, k6, k7, k8, k9⟩ := HN14.out
  refine wpT_next (fun W => Stand B w W ∧ Blk W (B + 1) 46 #[.int .u64 0, .int .u64 0] ∧ Blk W b11 69 #[.pointer (some ⟨g, 0, none⟩)] ∧ Blk W g 143 (newGrp t n vc) ∧ Blk W b13 90 #[.pointer (some ⟨p, 0, none⟩)] ∧ Pk W p g vc (.slice (some ⟨lb, 0, none⟩) l.length l.length) t n cs l msg B ∧ Blk W b15 72 #[.int .u64 CCC] ∧ Blk W Rb 4 (madeCells #[.bool false] l.length) ∧ Blk W b16 100 #[.slice (some ⟨Rb, 0, none⟩) l.length l.length] ∧ Blk W Zb 72 (madeCells #[.int .u64 0] l.length) ∧ Blk W b17 101 #[.slice (some ⟨Zb, 0, none⟩) l.length l.length]) (fun _ _ _ ⟨a1, a2, a3, a4, a5, a6, a7, a8, a9, a10, a11⟩ => ⟨a1, a2, a3, a4, a5, ⟨a6.pk, a6.coms, a6.grp, a6.own⟩, a7, a8, a9, a10, a11⟩) ⟨k1.below (HB14 _ _) hsz14, k2.below (HB14 _ _) k2.lt, k3.below (HB14 _ _) k3.lt, k4.below (HB14 _ _) k4.lt, k5.below (HB14 _ _) k5.lt, k6.later (HB14 _ _), k7.below (HB14 _ _) k7.lt, k8.below (HB14 _ _) k8.lt, k9.below (HB14 _ _) k9.lt, by rw [hZb]; exact (Blk.new w14 _ _).alloc _, by rw [hZb, hb17]; exact blk_new' _ _ (by simp)⟩ fun w15 X15 => ?_
  rw [← hb17]
  have hZbB : B ≤ Zb := by omega
  have hb17B : B ≤ b17 := by omega
  clear k1 k2 k3 k4 k5 k6 k7 k8 k9 HB14 HN14 hZb hb17 hsz14
  have hsz15 := X15.1.1
  have HN15 := Lib.hid X15
  clear X15
  go_wp2_with fail
  obtain ⟨k1, k2, k3, k4, k5, k6, k7, k8, k9, k10, k11⟩ := HN15.out
  have HB15 := fun o => below_box w15 o
  obtain ⟨gc, capg, rfl, hgcB, -⟩ := k6.own.form hcl0
  have hBS := HBS.out
  have hR := HRR.out
  have hC := HCC.out
  have hK := HKK.out
  subst hBS
  subst hR
  subst hK
  subst hC
  refine ⟨HX.out, k1.below (HB15 _) hsz15, rfl, w.heap.size + 1, b11, b13, b15, b16, b17, g, p, gc, lb, Rb, Zb, w15.heap.size, capg, ⟨rfl, rfl, rfl, rfl, rfl, rfl, rfl, rfl, rfl, rfl, rfl, fun i hi => ?_⟩, ?_, k2.below (HB15 _) k2.lt, k3.below (HB15 _) k3.lt, k5.below (HB15 _) k5.lt, k7.below (HB15 _) k7.lt, k9.below (HB15 _) k9.lt, k11.below (HB15 _) k11.lt, k4.below (HB15 _) k4.lt, own_below k6.own (HB15 _) (Nat.le_refl _), k6.pk.below (HB15 _) k6.pk.lt, k6.coms.later (HB15 _), k8.below (HB15 _) k8.lt, k10.below (HB15 _) k10.lt, Blk.new _ _ _⟩
  · exact und_at _ _ hi rfl rfl rfl rfl rfl rfl rfl rfl rfl rfl rfl rfl rfl rfl rfl rfl rfl rfl rfl rfl rfl rfl rfl rfl rfl rfl rfl rfl rfl rfl rfl rfl rfl rfl rfl rfl rfl rfl rfl rfl rfl rfl
  · intro b hb
    simp only [List.mem_cons, List.not_mem_nil, or_false] at hb
    omega
end Go.Proofs.Ytpfpokjaeffbjab.Agp
