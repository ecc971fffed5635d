/- Packages of commitments: the program's checks. -/
import Derived.Test.YtpfpokjaeffbjabGroupOf
import Derived.Test.YtpfpokjaeffbjabPkgPlain
import Derived.Test.YtpfpokjaeffbjabSlices
import Derived.Test.YtpfpokjaeffbjabHash
import Derived.Deep.DeepCutAuto
namespace Go.Proofs.Ytpfpokjaeffbjab.Pkg
open Go.RowKit Go.Proofs.Ytpfpokjaeffbjab.Pl Go.Proofs.Ytpfpokjaeffbjab.Dpl Go.Proofs.Ytpfpokjaeffbjab.Gpl Go.Proofs.Ytpfpokjaeffbjab.Kpl Go.Proofs.Ytpfpokjaeffbjab.Fld Go.Proofs.Ytpfpokjaeffbjab.Mem Go.Proofs.Ytpfpokjaeffbjab.Ver Go.Proofs.Ytpfpokjaeffbjab.Grp Go.Proofs.Ytpfpokjaeffbjab.Gof
set_option linter.unusedVariables false

section
variable {P : Program} (w : World)
/-- copy of n elements over a row of n elements. -/
theorem run_copy_all (dT sT ty e : TypeId) (i : TypeInfo) (size : Nat) (hu : P.underlying dT = some (.slice e)) (hi : P.info? e = some i) (hsz : i.size = size)
    (g n dc : Nat) (cur : Array Value) (hg : Blk w g e cur) (hcur : cur.size = n * size) (B : Nat) (u : Value) (xs : List Value) (hr : Row w B size u n xs) (h1 : ∀ u ∈ xs, u.oneCell' = true) :
    (Builtin.copy_ #[dT, sT] ty #[.slice (some ⟨g, 0, none⟩) n dc, u]).run P w = .ok (goInt n) (w.setRow g xs.toArray) := by
  obtain ⟨hl, A, c, rfl, hc, hr⟩ := hr
  subst hsz
  rcases A with _ | ad
  · have hn : n = 0 := by
      rcases Nat.eq_zero_or_pos n with h0 | h0
      · exact h0
      · obtain ⟨b, off, h, _⟩ := hr h0
        cases h
    subst hn
    have hxs : xs = [] := List.eq_nil_of_length_eq_zero (by simpa using hl)
    subst hxs
    have hce : cur = #[] := Array.eq_empty_of_size_eq_zero (by simpa using hcur)
    subst hce
    have hs := setRow_self w g #[] e (0, 0) hg
    simp [Builtin.copy_, run_underlying hu, Builtin.lenOf, Builtin.firstCells, sizeOf, typeInfo, hi, storeCells, hs]
  · have hcells : ∀ j u, xs[j]? = some u → w.cell? (ad.add j) = some u := by
      intro j u hju
      rcases Nat.eq_zero_or_pos n with h0 | h0
      · subst h0
        have hn : xs = [] := List.eq_nil_of_length_eq_zero (by simpa using hl)
        subst hn
        simp at hju
      · obtain ⟨b, off, h, _, hcell⟩ := hr h0
        injection h with h
        subst h
        rw [add_zero_off]
        exact hcell j u hju
    have hf := run_firstCells_some (P := P) w i.size n ad n c xs hl hcells
    have hst := run_storeCells_at P g 0 e xs 0 cur w hg (by rw [hcur, hl]; omega) h1
    have e1 : cur.toList.take (0 + 0) ++ xs ++ cur.toList.drop (0 + 0 + xs.length) = xs := by
      rw [List.drop_of_length_le (by rw [Array.length_toList, hcur, hl]; omega)]
      simp
    rw [e1] at hst
    simp [Builtin.copy_, run_underlying hu, Builtin.lenOf, sizeOf, typeInfo, hi, hf, hst]
theorem wpList_copy_all {ops : Array Oper} {rest : List Oper} {o : Oper} {a : Act} {Q : Exit → Act → World → Prop} (hgd : o.guard = none) (d s : Operand) (dT sT : TypeId)
    (ho : o.op = .call { callee := .builtin .copy, args := #[d, s], argTypes := #[dT, sT] }) (e : TypeId) (i : TypeInfo) (size : Nat) (hu : P.underlying dT = some (.slice e)) (hi : P.info? e = some i) (hsz : i.size = size)
    (g n dc : Nat) (hd : a.eval d = .slice (some ⟨g, 0, none⟩) n dc) (cur : Array Value) (hg : Blk w g e cur) (hcur : cur.size = n * size) (B : Nat) (u : Value) (hs : a.eval s = u) (xs : List Value) (hr : Row w B size u n xs) (h1 : ∀ u ∈ xs, u.oneCell' = true)
    (h : wpList P ops Q rest (a.put o.dst (goInt n)) (w.setRow g xs.toArray)) : wpList P ops Q (o :: rest) a w := by
  refine wpList_plain hgd fun K hK => ?_
  have hrun := run_copy_all (P := P) w dT sT o.type e i size hu hi hsz g n dc cur hg hcur B u xs hr h1
  unfold Oper.wp
  simp [execOp, ho, resolve, invoke, builtin, hd, hs, hrun, Result.andThen]
  exact hK _ _ h
end
theorem blk_setRow {w : World} {g : Nat} {t : TypeId} {cs : Array Value} (h : Blk w g t cs) (cs2 : Array Value) : Blk (w.setRow g cs2) g t cs2 := setRow_heap w g cs cs2 t (0, 0) h

/-- Block p is a package: of a group's commitments l for a message. -/
structure Pk (w : World) (p g : Nat) (vc lv : Value) (t n : Int) (cs : List Int) (l : List Cm) (msg : ByteArray) (base : Nat) : Prop where
  pk : Blk w p 146 #[.pointer (some ⟨g, 0, none⟩), lv, .string msg]
  coms : Coms w w.heap.size lv l
  grp : GrpAt w g t n vc 0 0 cs 1
  own : OwnCs w base vc cs
theorem Pk.later {w w' : World} {p g : Nat} {vc lv : Value} {t n : Int} {cs : List Int} {l : List Cm} {msg : ByteArray} {base : Nat} (h : Pk w p g vc lv t n cs l msg base) (hb : Below w.heap.size w w') : Pk w' p g vc lv t n cs l msg base :=
  ⟨h.pk.below hb h.pk.lt, h.coms.later hb, h.grp.below hb h.grp.lt, own_below h.own hb (Nat.le_refl _)⟩
theorem Pk.cells {w : World} {p g : Nat} {vc lv : Value} {t n : Int} {cs : List Int} {l : List Cm} {msg : ByteArray} {base : Nat} (h : Pk w p g vc lv t n cs l msg base) :
    w.cell? ⟨p, 0, none⟩ = some (.pointer (some ⟨g, 0, none⟩)) ∧ w.cell? ⟨p, 1, none⟩ = some lv ∧ w.cell? ⟨p, 2, none⟩ = some (.string msg) := ⟨h.pk.cell 0, h.pk.cell 1, h.pk.cell 2⟩
section
variable {w : World} {p g : Nat} {vc lv : Value} {t n : Int} {cs : List Int} {l : List Cm} {msg : ByteArray} {base : Nat}

set_option maxRecDepth 100000 in
set_option maxHeartbeats 2000000 in
theorem manyC (h : Pk w p g vc lv t n cs l msg base) (hl : l.length ≤ 65536) (x : Int) (hx : x = if (l.length : Int) < t ∨ n < (l.length : Int) then 7 else 0) :
    Calls Try.prog 73 #[.pointer (some ⟨p, 0, none⟩)] w fun e w' => e = .returned (.int .i64 x) ∧ Below w.heap.size w w' := by
  obtain ⟨p0, p1, p2⟩ := h.cells
  obtain ⟨g0, g1, g2, g3, g4⟩ := h.grp.cells
  obtain ⟨A, c, rfl⟩ := h.coms.shape
  have HX := Lib.hid hx
  clear hx h
  by_cases h1 : (l.length : Int) < t
  · have hx2 : Hid (x = 7) := by
      show x = 7
      rw [HX.out, if_pos (.inl h1)]
    go_enter Try.func73, Try.ntmps73
    go_wp2_with fail
    go_quiet (fail)
    go_wp2_with fail
    go_ret
    exact ⟨by rw [hx2.out]; rfl, below_drewN (Below.refl _ _) _⟩
  by_cases h2 : n < (l.length : Int)
  · have hx2 : Hid (x = 7) := by
      show x = 7
      rw [HX.out, if_pos (.inr h2)]
    go_enter Try.func73, Try.ntmps73
    go_wp2_with fail
    go_quiet (fail)
    go_wp2_with fail
    go_ret
    exact ⟨by rw [hx2.out]; rfl, below_drewN (Below.refl _ _) _⟩
  have hx2 : Hid (x = 0) := by
    show x = 0
    rw [HX.out, if_neg (by omega)]
  go_enter Try.func73, Try.ntmps73
  go_wp2_with fail
  go_quiet (fail)
  go_wp2_with fail
  go_ret
  exact ⟨by rw [hx2.out]; rfl, below_drewN (Below.refl _ _) _⟩

set_option maxRecDepth 100000 in
set_option maxHeartbeats 4000000 in
theorem risingC (h : Pk w p g vc lv t n cs l msg base) (hl : l.length ≤ 65536) :
    Calls Try.prog 74 #[.pointer (some ⟨p, 0, none⟩)] w fun e w' => e = .returned (.int .i64 (riseErr n l l.length)) ∧ Below w.heap.size w w' := by
  obtain ⟨A, c, rfl⟩ := h.coms.shape
  have H := Lib.hid h
  obtain ⟨p0, p1, p2⟩ := h.cells
  clear h
  go_enter Try.func74, Try.ntmps74
  go_wp2_with fail
  go_loopw [10] (fun i wr => ∃ k : Nat, k ≤ l.length ∧ i = .int .i64 k ∧ riseErr n l k = 0 ∧ Below w.heap.size w wr) (fun i _ => l.length - (intOf i).toNat)
  case atStart => exact ⟨0, by omega, rfl, rfl, Below.refl _ _⟩
  case round =>
    obtain ⟨k, hk, rfl, he, hbw⟩ := hrel
    have HE := Lib.hid he
    clear he p0 p1 p2
    by_cases hlt : k < l.length
    · obtain ⟨b, off, rfl, hb, hc⟩ := H.out.coms.at_ (by omega)
      have HW := H.out.later hbw
      obtain ⟨q0, q1, q2⟩ := HW.cells
      obtain ⟨g0, g1, g2, g3, g4⟩ := HW.grp.cells
      obtain ⟨x0, x1, x2⟩ := hc k hlt
      replace x0 := (hbw.cell (p := ⟨b, off + k * 3, none⟩) hb).trans x0
      replace x1 := (hbw.cell (p := ⟨b, off + k * 3 + 1, none⟩) hb).trans x1
      replace x2 := (hbw.cell (p := ⟨b, off + k * 3 + 2, none⟩) hb).trans x2
      have hpr : 0 < k → wr.cell? ⟨b, off + (k - 1) * 3, none⟩ = some (.int .i64 (l.getD (k - 1) .zero).id) := fun h0 => (hbw.cell (p := ⟨b, off + (k - 1) * 3, none⟩) hb).trans (hc (k - 1) (by omega)).1
      have hpl := HW.pk.lt
      have hgl := HW.grp.lt
      have hbl : b < wr.heap.size := by have := hbw.size; omega
      have eAt : Hid (riseAt n l k = if (l.getD k .zero).id < 1 ∨ n < (l.getD k .zero).id then 5 else if 0 < k ∧ (l.getD k .zero).id ≤ (l.getD (k - 1) .zero).id then 6 else 0) := by
        show riseAt n l k = _
        rfl
      have hfin : ∀ x, riseAt n l k = x → x ≠ 0 → Hid (riseErr n l l.length = x) := fun x hx hn => riseErr_at n l hlt HE.out hx hn
      have hstep : riseAt n l k = 0 → Hid (riseErr n l (k + 1) = 0) := fun hx => riseErr_step HE.out hx
      have FIN := Lib.hid hfin
      have STEP := Lib.hid hstep
      have hbox := below_box wr (.cells #[.int .i64 (l.getD k .zero).id, .int .u64 (l.getD k .zero).d, .int .u64 (l.getD k .zero).e] 37)
      have hbb := Lib.hid (hbw.trans (hbox.mono hbw.size))
      clear hc hfin hstep HW hbw hbox
      generalize (l.getD k .zero).id = X at *
      generalize (l.getD k .zero).d = D at *
      generalize (l.getD k .zero).e = E at *
      generalize (l.getD (k - 1) .zero).id = Y at *
      by_cases d1 : X < 1
      case pos =>
        have hF := FIN.out 5 (by rw [eAt.out, if_pos (.inl d1)]) (by omega)
        go_wp2_with fail
        go_quiet (fail)
        go_wp2_with fail
        go_ret
        exact ⟨by rw [hF.out]; rfl, below_drewN hbb.out _⟩
      by_cases d2 : n < X
      case pos =>
        have hF := FIN.out 5 (by rw [eAt.out, if_pos (.inr d2)]) (by omega)
        go_wp2_with fail
        go_quiet (fail)
        go_wp2_with fail
        go_ret
        exact ⟨by rw [hF.out]; rfl, below_drewN hbb.out _⟩
      have e2 : riseAt n l k = if 0 < k ∧ X ≤ Y then 6 else 0 := by rw [eAt.out, if_neg (by omega)]
      by_cases d3 : 0 < k
      case neg =>
        have d3' : ¬ (0 : Int) < (k : Int) := by omega
        have hS := STEP.out (by rw [e2, if_neg (fun h => d3 h.1)])
        clear e2
        go_wp2_with fail
        go_quiet (fail)
        go_wp2_with fail
        go_quiet (fail)
        go_wp2_with fail
        refine ⟨⟨k + 1, by omega, by go_num, hS.out, ?_⟩, by simp [intOf]; omega⟩
        first | exact below_drewN hbb.out _ | exact below_drewN (below_drewN hbb.out _) _
      have d3' : (0 : Int) < (k : Int) := by omega
      have y0 := hpr d3
      obtain ⟨j, rfl⟩ : ∃ j, k = j + 1 := ⟨k - 1, by omega⟩
      rw [Nat.add_sub_cancel] at y0
      have s1 : IntKind.i64.wrap (((j + 1 : Nat) : Int) - 1) = (j : Int) := by rw [IntKind.wrap_i64]; omega
      have s2 : IntKind.i64.wrap ((j : Int) + 1 - 1) = (j : Int) := by rw [IntKind.wrap_i64]; omega
      have s3 : IntKind.i64.wrap (j : Int) = (j : Int) := by rw [IntKind.wrap_i64]; omega
      have s4 : (j : Int) < (l.length : Int) := by omega
      have s5 : (0 : Int) ≤ (j : Int) := by omega
      clear hpr
      by_cases d4 : X ≤ Y
      case pos =>
        have hF := FIN.out 6 (by rw [e2, if_pos ⟨d3, d4⟩]) (by omega)
        clear e2
        go_wp2_with fail
        go_quiet (fail)
        go_wp2_with fail
        go_quiet (fail)
        go_wp2_with fail
        go_ret
        exact ⟨by rw [hF.out]; rfl, by first | exact below_drewN hbb.out _ | exact below_drewN (below_drewN hbb.out _) _⟩
      have hS := STEP.out (by rw [e2, if_neg (fun h => d4 h.2)])
      clear e2
      go_wp2_with fail
      go_quiet (fail)
      go_wp2_with fail
      go_quiet (fail)
      go_wp2_with fail
      refine ⟨⟨j + 1 + 1, by omega, by go_num, hS.out, ?_⟩, by simp [intOf]; omega⟩
      first | exact below_drewN hbb.out _ | exact below_drewN (below_drewN hbb.out _) _
    · obtain rfl : k = l.length := by omega
      go_wp2_with fail
      go_ret
      exact ⟨by rw [HE.out]; rfl, hbw⟩
end
end Go.Proofs.Ytpfpokjaeffbjab.Pkg
