/- A whole script: small, step, UpTo. -/
import Derived.Test.YtpfpokjaeffbjabOpenOps
import Derived.Test.YtpfpokjaeffbjabStepNew
import Derived.Test.YtpfpokjaeffbjabStepCommit
import Derived.Test.YtpfpokjaeffbjabStepSign
import Derived.Test.YtpfpokjaeffbjabStepLeft
import Derived.Test.YtpfpokjaeffbjabStepElse
namespace Go.Proofs.Ytpfpokjaeffbjab.Scr
open Go.RowKit Go.Proofs.Ytpfpokjaeffbjab.Pl Go.Proofs.Ytpfpokjaeffbjab.Mem Go.Proofs.Ytpfpokjaeffbjab.Mpp Go.Proofs.Ytpfpokjaeffbjab.Spl Go.Proofs.Ytpfpokjaeffbjab.Ver Go.Proofs.Ytpfpokjaeffbjab.Grp Go.Proofs.Ytpfpokjaeffbjab.Lev
open Go.Proofs.Ytpfpokjaeffbjab.Sgn (Only SgAt SgIn ComsBut)
open Go.Proofs.Ytpfpokjaeffbjab.Rsg (RLoc RSg Moved own_moved)
set_option linter.unusedVariables false

set_option maxRecDepth 100000 in
set_option maxHeartbeats 4000000 in
/-- A step where there is no signer. -/
theorem stepEmpty (w : World) (B WB : Nat) (sv cv : Value) (ps : List Pr) (told : List Cm) (o : OpP) (h : Wd w B WB sv cv ps told) (hB : B ≤ w.heap.size) (hk : o.kind ≠ 1) (hps : ps.length = 0) :
    Calls Try.prog 23 #[.pointer (some ⟨WB, 0, none⟩), .agg o.agg] w (StepPost B WB w ps.length told.length) := by
  have hbox := below_box w (.cells o.agg 58)
  have h1 := h.later hbox
  have HBX := Lib.hid hbox
  have H1 := Lib.hid h1
  obtain ⟨A0, c0, hsv⟩ := own_shape h.ss
  rw [hps] at hsv
  have e0 := h1.cells.1
  rw [hsv] at e0
  have k1 : (o.kind == 1) = false := by rw [beq_eq_false_iff_ne]; exact hk
  have HAG := Lib.hid (show o.agg = #[.int .i64 o.kind, .int .i64 o.a, .int .i64 o.b, .int .i64 o.c, .int .i64 o.d, .int .i64 o.t, .int .i64 o.n, o.vg, .int .u64 o.N, .int .u64 o.M, .string o.S, o.vl] from rfl)
  rw [HAG.out] at HBX H1 e0 ⊢
  have hWl := h.wd.lt
  have HPS := Lib.hid hps
  clear h h1 hbox hsv hk hps
  go_enter Try.func23, Try.ntmps23
  go_wp2_with fail
  go_ret
  exact ⟨rfl, _, _, _, _, H1.out, HBX.out.mono hB, by omega, by omega⟩
theorem stepC (w : World) (B WB : Nat) (sv cv : Value) (ps : List Pr) (told : List Cm) (o : OpP) (h : Wd w B WB sv cv ps told) (hB : B ≤ w.heap.size) (ho : OpOk w o) (hs : OpSmall o) (hp : ps.length ≤ 65536) (ht : told.length ≤ 65536) (hdb : -9223372036854775808 ≤ o.d ∧ o.d ≤ 9223372036854775807) :
    Calls Try.prog 23 #[.pointer (some ⟨WB, 0, none⟩), .agg o.agg] w (StepPost B WB w ps.length told.length) := by
  by_cases k1 : o.kind = 1
  · exact stepNew w B WB sv cv ps told o h hB ho hs hp ht k1
  by_cases h0 : ps.length = 0
  · exact stepEmpty w B WB sv cv ps told o h hB k1 h0
  by_cases k2 : o.kind = 2
  · exact stepCommit w B WB sv cv ps told o h hB ho hs hp ht k2 (by omega)
  by_cases k3 : o.kind = 3
  · exact stepSign w B WB sv cv ps told o h hB ho hs hp ht k3 (by omega) hdb
  by_cases k4 : o.kind = 4
  · exact stepLeft w B WB sv cv ps told o h hB ho hs hp ht k4 (by omega)
  · exact stepElse w B WB sv cv ps told o h hB ho hs hp ht ⟨k1, k2, k3, k4⟩ (by omega)
/-- The cells of one step in the script. -/
theorem ops_at {w : World} {A : Option Addr} {n c : Nat} {l : List OpP} (h : IsOps w (.slice A n c) l) {i : Nat} {o : OpP} (hi : l[i]? = some o) :
    ∃ b off, A = some ⟨b, off, none⟩ ∧ b < w.heap.size ∧ ∀ k, k < 12 → w.cell? ⟨b, off + i * 12 + k, none⟩ = o.cells[k]? := by
  obtain ⟨_, A', c', hv, _, hr⟩ := h.row
  have hl := (List.getElem?_eq_some_iff.1 hi).1
  obtain ⟨b, off, hA, hb, hc⟩ := hr (by omega)
  have : A = A' := by injection hv
  refine ⟨b, off, by rw [this, hA], hb, fun k hk => ?_⟩
  have h1 := opsCells_at l i o hi k hk
  have hu : o.cells[k]? = some (o.cells[k]'(by rw [opCells_length]; exact hk)) := List.getElem?_eq_getElem _
  rw [hu, Nat.add_assoc]
  exact hc _ _ (h1.trans hu)
theorem rb : reachBytes = 140737488351232 := rfl

set_option maxRecDepth 100000 in
set_option maxHeartbeats 4000000 in
theorem smallC (w : World) (v : Value) (l : List OpP) (h : IsOps w v l) :
    Calls Try.prog 9 #[v] w fun e w' => ∃ b, e = .returned (.bool b) ∧ (b = true → l.length ≤ 65536 ∧ ∀ (i : Nat) (o : OpP), l[i]? = some o → OpSmall o) ∧ Below w.heap.size w w' := by
  obtain ⟨A, c, rfl⟩ : ∃ A c, v = .slice A l.length c := by
    obtain ⟨_, A, c, hv, _⟩ := h.row
    exact ⟨A, c, hv⟩
  have hrb := rb
  have hlen := h.len
  have H := Lib.hid h
  clear h
  go_enter Try.func9, Try.ntmps9
  go_wp2_with fail
  go_loopw [3, 10] (fun n i wr => ∃ k N : Nat, k ≤ l.length ∧ i = .int .i64 k ∧ n = .int .i64 N ∧ l.length ≤ N ∧ (k = 0 → N = l.length) ∧ (0 < k → N ≤ 65536) ∧ (∀ (j : Nat) (o : OpP), j < k → l[j]? = some o → o.S.size + o.L.length + o.cs.length ≤ N) ∧ Below w.heap.size w wr) (fun _ i _ => l.length - (intOf i).toNat)
  case atStart => exact ⟨0, l.length, by omega, rfl, rfl, Nat.le_refl _, fun _ => rfl, fun h => by omega, fun j o hj => by omega, Below.refl _ _⟩
  case round =>
    obtain ⟨k, N, hk, rfl, rfl, hN, hN0, hN1, hsz, hbw⟩ := hrel
    have HSZ := Lib.hid hsz
    have HBW := Lib.hid hbw
    have HN0 := Lib.hid hN0
    have HN1 := Lib.hid hN1
    have hNb : N ≤ 140737488351232 := by
      rcases Nat.eq_zero_or_pos k with h0 | h0
      · have := hN0 h0; omega
      · have := hN1 h0; omega
    clear hsz hbw hN0 hN1
    by_cases hlt : k < l.length
    · obtain ⟨o, ho⟩ : ∃ o, l[k]? = some o := ⟨_, List.getElem?_eq_getElem hlt⟩
      obtain ⟨b, off, rfl, hb, hc⟩ := ops_at H.out ho
      have hin := H.out.ok k o ho
      have HO := Lib.hid ho
      have z : ∀ j, (hj : j < 12) → wr.cell? ⟨b, off + k * 12 + j, none⟩ = o.cells[j]? := fun j hj => (HBW.out.cell (p := ⟨b, off + k * 12 + j, none⟩) hb).trans (hc j hj)
      have y0 : wr.cell? ⟨b, off + k * 12, none⟩ = some (.int .i64 o.kind) := z 0 (by omega)
      have y1 : wr.cell? ⟨b, off + k * 12 + 1, none⟩ = some (.int .i64 o.a) := z 1 (by omega)
      have y2 : wr.cell? ⟨b, off + k * 12 + 2, none⟩ = some (.int .i64 o.b) := z 2 (by omega)
      have y3 : wr.cell? ⟨b, off + k * 12 + 3, none⟩ = some (.int .i64 o.c) := z 3 (by omega)
      have y4 : wr.cell? ⟨b, off + k * 12 + 4, none⟩ = some (.int .i64 o.d) := z 4 (by omega)
      have y5 : wr.cell? ⟨b, off + k * 12 + 5, none⟩ = some (.int .i64 o.t) := z 5 (by omega)
      have y6 : wr.cell? ⟨b, off + k * 12 + 6, none⟩ = some (.int .i64 o.n) := z 6 (by omega)
      have y7 : wr.cell? ⟨b, off + k * 12 + 7, none⟩ = some o.vg := z 7 (by omega)
      have y8 : wr.cell? ⟨b, off + k * 12 + 8, none⟩ = some (.int .u64 o.N) := z 8 (by omega)
      have y9 : wr.cell? ⟨b, off + k * 12 + 9, none⟩ = some (.int .u64 o.M) := z 9 (by omega)
      have y10 : wr.cell? ⟨b, off + k * 12 + 10, none⟩ = some (.string o.S) := z 10 (by omega)
      have y11 : wr.cell? ⟨b, off + k * 12 + 11, none⟩ = some o.vl := z 11 (by omega)
      obtain ⟨Ag, cg, hvg⟩ := nums_shape hin.ok.g
      obtain ⟨Al, cl, hvl⟩ := hin.ok.l.shape
      rw [hvg] at y7
      rw [hvl] at y11
      obtain ⟨s1, s2, s3⟩ : o.S.size ≤ 140737488351232 ∧ o.L.length ≤ 140737488351232 ∧ o.cs.length ≤ 140737488351232 := ⟨hrb ▸ hin.ss, hrb ▸ hin.ls, hrb ▸ hin.gs⟩
      have hbox := Lib.hid (HBW.out.alloc HBW.out.size (.cells #[.int .i64 o.kind, .int .i64 o.a, .int .i64 o.b, .int .i64 o.c, .int .i64 o.d, .int .i64 o.t, .int .i64 o.n, .slice Ag o.cs.length cg, .int .u64 o.N, .int .u64 o.M, .string o.S, .slice Al o.L.length cl] 58))
      have m1 : IntKind.i64.wrap ((o.S.size : Int) + (o.L.length : Int)) = (o.S.size : Int) + (o.L.length : Int) := by rw [IntKind.wrap_i64]; omega
      have m2 : IntKind.i64.wrap ((o.S.size : Int) + (o.L.length : Int) + (o.cs.length : Int)) = (o.S.size : Int) + (o.L.length : Int) + (o.cs.length : Int) := by rw [IntKind.wrap_i64]; omega
      have m3 : IntKind.i64.wrap ((N : Int) + ((o.S.size : Int) + (o.L.length : Int) + (o.cs.length : Int))) = ((N + (o.S.size + o.L.length + o.cs.length) : Nat) : Int) := by rw [IntKind.wrap_i64]; omega
      clear z hc hin hvg hvl
      by_cases hbig : 65536 < N + (o.S.size + o.L.length + o.cs.length)
      · have t1 : decide ((65536 : Int) < ((N + (o.S.size + o.L.length + o.cs.length) : Nat) : Int)) = true := decide_eq_true (by omega)
        have t1' : decide (65536 < N + (o.S.size + o.L.length + o.cs.length)) = true := decide_eq_true hbig
        generalize N + (o.S.size + o.L.length + o.cs.length) = N' at *
        go_wp2_with fail
        go_ret
        exact ⟨false, rfl, fun h => by (cases h), hbox.out⟩
      · have t1 : decide ((65536 : Int) < ((N + (o.S.size + o.L.length + o.cs.length) : Nat) : Int)) = false := decide_eq_false (by omega)
        have t1' : decide (65536 < N + (o.S.size + o.L.length + o.cs.length)) = false := decide_eq_false hbig
        obtain ⟨N', hN'⟩ : ∃ N', N + (o.S.size + o.L.length + o.cs.length) = N' := ⟨_, rfl⟩
        rw [hN'] at m3 t1 t1' hbig
        have HN' := Lib.hid hN'
        clear hN'
        go_wp2_with fail
        refine ⟨⟨k + 1, N', by omega, by go_num, rfl, by have := HN'.out; omega, fun h => by omega, fun _ => by omega, fun j o' hj ho' => ?_, hbox.out⟩, by simp [intOf]; omega⟩
        have := HN'.out
        rcases Nat.lt_or_ge j k with h | h
        · have := HSZ.out j o' h ho'; omega
        · obtain rfl : j = k := by omega
          have e : o' = o := Option.some.inj (ho'.symm.trans HO.out)
          subst e
          omega
    · obtain rfl : k = l.length := by omega
      have hfin : l.length ≤ 65536 ∧ N ≤ 65536 := by
        rcases Nat.eq_zero_or_pos l.length with h0 | h0
        · have := HN0.out h0; omega
        · have := HN1.out h0; omega
      have t1 : decide ((N : Int) ≤ 65536) = true := decide_eq_true (by omega)
      have t1' : decide (N ≤ 65536) = true := decide_eq_true hfin.2
      go_wp2_with fail
      go_ret
      refine ⟨true, rfl, fun _ => ⟨hfin.1, fun i o hi => ?_⟩, HBW.out⟩
      have h2 := HSZ.out i o (List.getElem?_eq_some_iff.1 hi).1 hi
      have h3 := hfin.2
      exact ⟨by omega, by omega, by omega⟩

set_option maxRecDepth 100000 in
set_option maxHeartbeats 4000000 in
theorem upToC (w : World) (v : Value) (l : List OpP) (only : Int) (h : IsOps w v l) (hl : l.length ≤ 65536) (hs : ∀ (i : Nat) (o : OpP), l[i]? = some o → OpSmall o) :
    Calls Try.prog 10 #[v, .int .i64 only] w fun e w' => e = .returned (.int .i64 (-1)) ∧ Below w.heap.size w w' := by
  obtain ⟨A, c, rfl⟩ : ∃ A c, v = .slice A l.length c := by
    obtain ⟨_, A, c, hv, _⟩ := h.row
    exact ⟨A, c, hv⟩
  have H := Lib.hid h
  have HS := Lib.hid hs
  have hbx := Lib.hid (below_box w (.cells #[.slice none 0 0, .slice none 0 0, .bool false] 62))
  have hwd := Lib.hid (show Wd (w.alloc (.cells #[.slice none 0 0, .slice none 0 0, .bool false] 62)) w.heap.size w.heap.size (.slice none 0 0) (.slice none 0 0) [] [] from
    ⟨Blk.new _ _ _, World.ownsRow_nil _ _ _ _, World.ownsRow_nil _ _ _ _, AllAt.nil _ _, Nat.le_refl _, fun i hi => by simp at hi⟩)
  clear h hs
  go_enter Try.func10, Try.ntmps10
  go_wp2_with fail
  go_loopw [12] (fun i wr => ∃ k : Nat, k ≤ l.length ∧ i = .int .i64 k ∧ ∃ sv cv ps told, Wd wr w.heap.size w.heap.size sv cv ps told ∧ Below w.heap.size w wr ∧ ps.length ≤ k ∧ told.length ≤ k) (fun i _ => l.length - (intOf i).toNat)
  case atStart => exact ⟨0, by omega, rfl, _, _, _, _, hwd.out, hbx.out, Nat.le_refl _, Nat.le_refl _⟩
  case round =>
    obtain ⟨k, hk, rfl, sv, cv, ps, told, hwr, hbw, hp, ht⟩ := hrel
    have HWR := Lib.hid hwr
    have HBW := Lib.hid hbw
    clear hwr hbw
    by_cases hlt : k < l.length
    · obtain ⟨o, ho⟩ : ∃ o, l[k]? = some o := ⟨_, List.getElem?_eq_getElem hlt⟩
      obtain ⟨b, off, rfl, hb, hc⟩ := ops_at H.out ho
      have hin := H.out.ok k o ho
      have hb2 := HBW.out.alloc HBW.out.size (.cells o.agg 58)
      have hbx1 := below_box wr (.cells o.agg 58)
      have hst := stepC (wr.alloc (.cells o.agg 58)) w.heap.size w.heap.size sv cv ps told o (HWR.out.later hbx1) hb2.size (hin.ok.later hb2) (HS.out k o ho) (by omega) (by omega) hin.db
      have z : ∀ j, (hj : j < 12) → wr.cell? ⟨b, off + k * 12 + j, none⟩ = o.cells[j]? := fun j hj => (HBW.out.cell (p := ⟨b, off + k * 12 + j, none⟩) hb).trans (hc j hj)
      have y0 : wr.cell? ⟨b, off + k * 12, none⟩ = some (.int .i64 o.kind) := z 0 (by omega)
      have y1 : wr.cell? ⟨b, off + k * 12 + 1, none⟩ = some (.int .i64 o.a) := z 1 (by omega)
      have y2 : wr.cell? ⟨b, off + k * 12 + 2, none⟩ = some (.int .i64 o.b) := z 2 (by omega)
      have y3 : wr.cell? ⟨b, off + k * 12 + 3, none⟩ = some (.int .i64 o.c) := z 3 (by omega)
      have y4 : wr.cell? ⟨b, off + k * 12 + 4, none⟩ = some (.int .i64 o.d) := z 4 (by omega)
      have y5 : wr.cell? ⟨b, off + k * 12 + 5, none⟩ = some (.int .i64 o.t) := z 5 (by omega)
      have y6 : wr.cell? ⟨b, off + k * 12 + 6, none⟩ = some (.int .i64 o.n) := z 6 (by omega)
      have y7 : wr.cell? ⟨b, off + k * 12 + 7, none⟩ = some o.vg := z 7 (by omega)
      have y8 : wr.cell? ⟨b, off + k * 12 + 8, none⟩ = some (.int .u64 o.N) := z 8 (by omega)
      have y9 : wr.cell? ⟨b, off + k * 12 + 9, none⟩ = some (.int .u64 o.M) := z 9 (by omega)
      have y10 : wr.cell? ⟨b, off + k * 12 + 10, none⟩ = some (.string o.S) := z 10 (by omega)
      have y11 : wr.cell? ⟨b, off + k * 12 + 11, none⟩ = some o.vl := z 11 (by omega)
      have HAG := Lib.hid (show o.agg = #[.int .i64 o.kind, .int .i64 o.a, .int .i64 o.b, .int .i64 o.c, .int .i64 o.d, .int .i64 o.t, .int .i64 o.n, o.vg, .int .u64 o.N, .int .u64 o.M, .string o.S, o.vl] from rfl)
      rw [HAG.out] at hst hb2
      obtain ⟨Ag, cg, hvg⟩ := nums_shape hin.ok.g
      obtain ⟨Al, cl, hvl⟩ := hin.ok.l.shape
      rw [hvg] at y7 hst hb2
      rw [hvl] at y11 hst hb2
      have HST := Lib.hid hst
      have HB2 := Lib.hid hb2
      clear z hc hin hst hb2 hbx1 hvg hvl
      go_wp2_with fail
      refine HST.out.mono ?_
      rintro e W2 ⟨rfl, sv', cv', ps', told', hw2, hb2, hp', ht'⟩
      have HW2 := Lib.hid hw2
      have HBB := Lib.hid (HB2.out.trans hb2)
      clear hw2 hb2
      go_wp2_with fail
      exact ⟨⟨k + 1, by omega, by go_num, _, _, _, _, HW2.out, HBB.out, by omega, by omega⟩, by simp [intOf]; omega⟩
    · obtain rfl : k = l.length := by omega
      go_wp2_with fail
      go_ret
      exact ⟨rfl, HBW.out⟩
end Go.Proofs.Ytpfpokjaeffbjab.Scr
