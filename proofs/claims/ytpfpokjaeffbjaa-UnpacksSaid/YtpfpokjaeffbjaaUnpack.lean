/- Unpack: the program's. -/
import Derived.Test.YtpfpokjaeffbjaaVerify
import Derived.Test.YtpfpokjaeffbjaaUnpackPlain
namespace Go.Proofs.Ytpfpokjaeffbjaa.Unp
open Go.RowKit Go.Proofs.Ytpfpokjaeffbjaa.Pl Go.Proofs.Ytpfpokjaeffbjaa.Fld Go.Proofs.Ytpfpokjaeffbjaa.Mem Go.Proofs.Ytpfpokjaeffbjaa.Upl Go.Proofs.Ytpfpokjaeffbjaa.Ver

def lastId (s : ByteArray) : Nat → Int
  | 0 => 0
  | k + 1 => (piece s k).id
def strSize : Value → Nat
  | .string t => t.size
  | _ => 0
def UnInv (s : ByteArray) (w : World) (x v l : Value) (wr : World) : Prop :=
  ∃ (k : Nat) (t : ByteArray), x = .string t ∧ Tail s k t ∧ upErr s k = 0 ∧ l = .int .i64 (lastId s k) ∧ wr.ownsRow w.heap.size 52 3 v k (comCells (pieces s k)) ∧ Below w.heap.size w wr
def RUnInv (s : ByteArray) (w : World) (x v : Value) (wr : World) : Prop :=
  ∃ (k : Nat) (t : ByteArray), x = .string t ∧ Tail s k t ∧ upErr s k = 0 ∧ wr.ownsRow w.heap.size 52 3 v k (comCells (pieces s k)) ∧ Below w.heap.size w wr
/-- What Unpack leaves. -/
def UnpackPost (s : ByteArray) (w : World) (e : Ending) (w' : World) : Prop :=
  Below w.heap.size w w' ∧
  ((upE s ≠ 0 ∧ e = .returned (.tuple #[.slice none 0 0, .int .i64 (upE s)])) ∨
   (upE s = 0 ∧ ∃ v, e = .returned (.tuple #[v, .int .i64 0]) ∧ Coms w' w'.heap.size v (pieces s (s.size / 9))))
theorem info_com : (Try.prog.info? 52).map (fun i => (i.zero, i.size, i.bytes)) = some (some (.agg #[.int .i64 0, .int .u64 0, .int .u64 0]), 3, 24) := by kernel_rfl

set_option maxRecDepth 100000 in
set_option maxHeartbeats 2000000 in
theorem unpackC (s : ByteArray) (w : World) (hs : s.size ≤ maxLen) :
    Calls Try.prog 21 #[.string s] w (UnpackPost s w) := by
  unfold maxLen at hs
  by_cases c1 : s.size % 9 = 0
  case neg =>
    have hE := Lib.hid (upE_len s (fun h => c1 h.1))
    have t1 : (((s.size : Int) % 9) != 0) = true := by rw [bne_iff_ne]; omega
    go_enter Try.func21, Try.ntmps21
    go_wp2_with fail
    go_ret2
    exact ⟨Below.refl _ _, .inl ⟨by rw [hE.out]; omega, by rw [hE.out]; rfl⟩⟩
  have t1 : (((s.size : Int) % 9) != 0) = false := by rw [bne_eq_false_iff_eq]; omega
  by_cases c2 : 81 < s.size
  case pos =>
    have hE := Lib.hid (upE_len s (fun h => by omega))
    clear c1
    go_enter Try.func21, Try.ntmps21
    go_wp2_with fail
    go_ret2
    exact ⟨Below.refl _ _, .inl ⟨by rw [hE.out]; omega, by rw [hE.out]; rfl⟩⟩
  have C1 := Lib.hid c1
  clear c1
  obtain ⟨i0, hi, hz0, hz1, hz2⟩ := info_parts info_com
  go_enter Try.func21, Try.ntmps21
  go_wp2_with fail
  go_loopw [0, 4, 5] (fun x v l wr => UnInv s w x v l wr) (fun x _ _ _ => strSize x)
  case atStart => exact ⟨0, s, rfl, Tail.zero s, rfl, rfl, World.ownsRow_nil _ _ _ _, Below.refl _ _⟩
  case round =>
    obtain ⟨k, t, rfl, htail, herr, rfl, hown, hbw⟩ := hrel
    have HT := Lib.hid htail
    have HE := Lib.hid herr
    have HO := Lib.hid hown
    have hsz := htail.1
    clear htail herr hown
    by_cases h0 : t.size = 0
    · have hl : t.toList = [] := by
        rw [ByteArray.toList_eq]
        exact List.eq_nil_of_length_eq_zero (by rw [Array.length_toList]; exact h0)
      have hk : 9 * k = s.size := by omega
      have HU := Lib.hid (upE_ok s C1.out (by omega) hk HE.out)
      have hk9 : Hid (s.size / 9 = k) := by
        show s.size / 9 = k
        omega
      have hcm := Coms.own (l := pieces s k) (by rw [pieces_length]; exact HO.out)
      have HCM := Lib.hid hcm
      clear hcm hk
      go_wp2_with fail
      go_ret2
      exact ⟨hbw, .inr ⟨HU.out, _, rfl, by rw [hk9.out]; exact HCM.out⟩⟩
    · have h9 : 9 ≤ t.size := by have := C1.out; omega
      have hl : t.toList.isEmpty = false := by
        rw [ByteArray.toList_eq]
        cases h : t.data.toList with
        | nil => exact absurd (show t.data.size = 0 by rw [← Array.length_toList, h]; rfl) h0
        | cons a l => rfl
      have hb0 : ((t[0]'(by omega)).toNat : Int) = byteAt s (9 * k) := by rw [byteAt_get, HT.out.2, Nat.add_zero]
      have bd0 := byteAt_bd s (9 * k)
      obtain ⟨wo, rfl⟩ : ∃ wo : World, wo = wr := ⟨_, rfl⟩
      clear h0
      go_wp2_with fail

      go_loopw [29] (fun i wr => ∃ j : Nat, j ≤ 4 ∧ i = .int .i64 j ∧ Blk wr wo.heap.size 52 #[.int .i64 (byteAt s (9 * k)), .int .u64 (num s (9 * k + 1) j), .int .u64 (num s (9 * k + 5) j)] ∧ Below wo.heap.size wo wr) (fun i _ => (4 - intOf i).toNat)
      case atStart => exact ⟨0, by omega, rfl, by first | exact Blk.new _ _ _ | simpa [num] using Blk.new wo 52 #[.int .i64 (byteAt s (9 * k)), .int .u64 0, .int .u64 0], below_box _ _⟩
      case round =>
        obtain ⟨j, hj, rfl, hblk, hbwr⟩ := hrel
        have hc1 : wr.cell? ⟨wo.heap.size, 1, none⟩ = some (.int .u64 (num s (9 * k + 1) j)) := hblk.cell 1
        have hc2 : wr.cell? ⟨wo.heap.size, 2, none⟩ = some (.int .u64 (num s (9 * k + 5) j)) := hblk.cell 2
        have hf1 := hblk.frozen 1
        have hf2 := hblk.frozen 2
        by_cases hj4 : j < 4
        · have hb1 : ((t[1 + j]'(by omega)).toNat : Int) = byteAt s (9 * k + 1 + j) := by rw [byteAt_get, HT.out.2, Nat.add_assoc]
          have hb5 : ((t[5 + j]'(by omega)).toNat : Int) = byteAt s (9 * k + 5 + j) := by rw [byteAt_get, HT.out.2, Nat.add_assoc]
          have bd1 := byteAt_bd s (9 * k + 1 + j)
          have bd5 := byteAt_bd s (9 * k + 5 + j)
          have s1 : IntKind.i64.wrap (1 + (j : Int)) = 1 + (j : Int) := by rw [IntKind.wrap_i64]; omega
          have s5 : IntKind.i64.wrap (5 + (j : Int)) = 5 + (j : Int) := by rw [IntKind.wrap_i64]; omega
          have s8 : IntKind.i64.wrap (8 * (j : Int)) = 8 * (j : Int) := by rw [IntKind.wrap_i64]; omega
          have n1 : (1 + (j : Int)).toNat = 1 + j := by omega
          have n5 : (5 + (j : Int)).toNat = 5 + j := by omega
          have n8 : (8 * (j : Int)).toNat = 8 * j := by omega
          have p1 : (0 : Int) ≤ 1 + (j : Int) := by omega
          have p5 : (0 : Int) ≤ 5 + (j : Int) := by omega
          have p8 : (0 : Int) ≤ 8 * (j : Int) := by omega
          have q1 : 1 + (j : Int) < (t.size : Int) := by omega
          have q5 : 5 + (j : Int) < (t.size : Int) := by omega
          have q8 : 8 * (j : Int) ≤ 64 := by omega
          have v1 : Hid (bits BinOp.or IntKind.u64 (num s (9 * k + 1) j) (IntKind.u64.wrap (byteAt s (9 * k + 1 + j) * 2 ^ (8 * j))) = num s (9 * k + 1) (j + 1)) := by
            show bits BinOp.or IntKind.u64 (num s (9 * k + 1) j) _ = _
            exact or_step s _ j hj4
          have v5 : Hid (bits BinOp.or IntKind.u64 (num s (9 * k + 5) j) (IntKind.u64.wrap (byteAt s (9 * k + 5 + j) * 2 ^ (8 * j))) = num s (9 * k + 5) (j + 1)) := by
            show bits BinOp.or IntKind.u64 (num s (9 * k + 5) j) _ = _
            exact or_step s _ j hj4
          go_wp2_with fail
          go_region
          all_goals
            go_wp2_with fail
            go_region
            all_goals
              go_wp2_with fail
              refine ⟨⟨j + 1, by omega, by go_num, ?_, ?_⟩, by simp [intOf]; omega⟩
              case refine_2 =>
                have hq : ∀ x y : Value, Below wo.heap.size wo ((wr.setCell ⟨wo.heap.size, 1, none⟩ x).setCell ⟨wo.heap.size, 2, none⟩ y) := fun x y => (hbwr.setCell (p := ⟨wo.heap.size, 1, none⟩) (Nat.le_refl _) x).setCell (p := ⟨wo.heap.size, 2, none⟩) (Nat.le_refl _) y
                first | exact hq _ _ | exact below_drewN (hq _ _) 2 | exact ((hq _ _).drew).drew
              rw [v1.out, v5.out]
              exact (hblk.set_ 1 (.int .u64 (num s (9 * k + 1) (j + 1)))).set_ 2 (.int .u64 (num s (9 * k + 5) (j + 1)))
        · obtain rfl : j = 4 := by omega
          have hbwf := hbw.trans (hbwr.mono hbw.size)
          have hOF := own_below HO.out hbwr (Nat.le_refl _)
          have HOF := Lib.hid hOF
          have bdd := num4_bd s (9 * k + 1)
          have bde := num4_bd s (9 * k + 5)
          have hc0 : wr.cell? ⟨wo.heap.size, 0, none⟩ = some (.int .i64 (byteAt s (9 * k))) := hblk.cell 0
          have eAt : Hid (upAt s k = if byteAt s (9 * k) < 1 ∨ 9 < byteAt s (9 * k) then 5 else if 0 < k ∧ byteAt s (9 * k) ≤ (piece s (k - 1)).id then 6
            else if isNc (num s (9 * k + 1) 4) = false ∨ isNc (num s (9 * k + 5) 4) = false then 3 else 0) := by
            show upAt s k = _
            rfl
          have ePc : Hid (piece s k = ⟨byteAt s (9 * k), num s (9 * k + 1) 4, num s (9 * k + 5) 4⟩) := by
            show piece s k = _
            rfl
          have fin : ∀ x : Int, upAt s k = x → x ≠ 0 → Hid (upE s = x) := fun x hx hn => upE_at s C1.out (by omega) (by omega) HE.out hx hn
          have FIN := Lib.hid fin
          have hlast : Hid (lastId s k = if 0 < k then (piece s (k - 1)).id else 0) := by
            show lastId s k = _
            cases k with
            | zero => rfl
            | succ k => rfl
          clear fin hOF hb0
          generalize byteAt s (9 * k) = x at *
          generalize num s (9 * k + 1) 4 = D at *
          generalize num s (9 * k + 5) 4 = E at *
          generalize hLL : lastId s k = L at *
          have HLL := Lib.hid hLL
          clear hLL
          obtain ⟨D0, D1⟩ := bdd
          obtain ⟨E0, E1'⟩ := bde
          by_cases d1 : x < 1 ∨ 9 < x
          case pos =>
            have hF := FIN.out 5 (by rw [eAt.out, if_pos d1]) (by omega)
            rcases d1 with d1 | d1
            · go_wp2_with fail
              go_ret2
              exact ⟨hbwf, .inl ⟨by rw [hF.out]; omega, by rw [hF.out]; rfl⟩⟩
            · have d2 : ¬ x < 1 := by omega
              go_wp2_with fail
              go_ret2
              exact ⟨hbwf, .inl ⟨by rw [hF.out]; omega, by rw [hF.out]; rfl⟩⟩
          have d2 : ¬ x < 1 := by omega
          have d3 : ¬ 9 < x := by omega
          have hLiff : x ≤ L ↔ (0 < k ∧ x ≤ (piece s (k - 1)).id) := by
            rw [hlast.out]
            by_cases h : 0 < k
            · rw [if_pos h]; exact ⟨fun h' => ⟨h, h'⟩, fun h' => h'.2⟩
            · rw [if_neg h]; exact ⟨fun h' => by omega, fun h' => absurd h'.1 h⟩
          have HLI := Lib.hid hLiff
          clear hLiff
          by_cases d4 : x ≤ L
          case pos =>
            have hF := FIN.out 6 (by rw [eAt.out, if_neg d1, if_pos (HLI.out.1 d4)]) (by omega)
            clear d1
            go_wp2_with fail
            go_ret2
            exact ⟨hbwf, .inl ⟨by rw [hF.out]; omega, by rw [hF.out]; rfl⟩⟩
          have e3 : upAt s k = if isNc D = false ∨ isNc E = false then 3 else 0 := by rw [eAt.out, if_neg d1, if_neg (fun h => d4 (HLI.out.2 h))]
          have fin3 : (isNc D = false ∨ isNc E = false) → Hid (upE s = 3) := fun h => FIN.out 3 (by rw [e3, if_pos h]) (by omega)
          have FIN3 := Lib.hid fin3
          have E3 := Lib.hid e3
          clear d1 e3 fin3
          have i0' : ∀ W, (Instr.index 73 (.agg #[.int .u64 D, .int .u64 E]) (.int .i64 0)).run Try.prog W = .ok (.int .u64 D) W := fun _ => by kernel_rfl
          have i1' : ∀ W, (Instr.index 73 (.agg #[.int .u64 D, .int .u64 E]) (.int .i64 1)).run Try.prog W = .ok (.int .u64 E) W := fun _ => by kernel_rfl
          go_wp2_with fail
          go_loop [76] (fun i => (i = .int .i64 0) ∨ (i = .int .i64 1 ∧ Hid (isNc D = true)) ∨ (i = .int .i64 2 ∧ Hid (isNc D = true) ∧ Hid (isNc E = true))) (fun i => (2 - intOf i).toNat)
          case atStart => exact .inl rfl
          case round =>
            rcases hrel with rfl | ⟨rfl, hD⟩ | ⟨rfl, hD, hEE⟩
            · skip
              obtain ⟨b1, e1⟩ : ∃ b, isEl D = b := ⟨_, rfl⟩
              obtain ⟨b2, e2⟩ : ∃ b, (D == 1) = b := ⟨_, rfl⟩
              have E1 := Lib.hid e1
              clear e1
              cases b1
              case false =>
                have hF := FIN3.out (.inl (by unfold isNc; rw [E1.out]; rfl))
                cases b2
                all_goals
                  go_wp2_with (go_at_call 47; refine (elIs _ D _ (by omega) E1.out).mono ?_; rintro e w' ⟨rfl, rfl⟩)
                  go_ret2
                  exact ⟨hbwf, .inl ⟨by rw [hF.out]; omega, by rw [hF.out]; rfl⟩⟩
              cases b2
              case true =>
                have hF := FIN3.out (.inl (by unfold isNc; rw [beq_iff_eq] at e2; rw [e2]; simp))
                go_wp2_with (go_at_call 47; refine (elIs _ D _ (by omega) E1.out).mono ?_; rintro e w' ⟨rfl, rfl⟩)
                go_ret2
                exact ⟨hbwf, .inl ⟨by rw [hF.out]; omega, by rw [hF.out]; rfl⟩⟩
              have hgood : isNc D = true := by unfold isNc; rw [E1.out]; rw [beq_eq_false_iff_ne] at e2; simp [e2]
              have HG := Lib.hid hgood
              clear hgood
              go_wp2_with (go_at_call 47; refine (elIs _ D _ (by omega) E1.out).mono ?_; rintro e w' ⟨rfl, rfl⟩)
              refine ⟨.inr (.inl ⟨rfl, HG⟩), by simp [intOf]⟩
            · skip
              obtain ⟨b1, e1⟩ : ∃ b, isEl E = b := ⟨_, rfl⟩
              obtain ⟨b2, e2⟩ : ∃ b, (E == 1) = b := ⟨_, rfl⟩
              have E1 := Lib.hid e1
              clear e1
              cases b1
              case false =>
                have hF := FIN3.out (.inr (by unfold isNc; rw [E1.out]; rfl))
                cases b2
                all_goals
                  go_wp2_with (go_at_call 47; refine (elIs _ E _ (by omega) E1.out).mono ?_; rintro e w' ⟨rfl, rfl⟩)
                  go_ret2
                  exact ⟨hbwf, .inl ⟨by rw [hF.out]; omega, by rw [hF.out]; rfl⟩⟩
              cases b2
              case true =>
                have hF := FIN3.out (.inr (by unfold isNc; rw [beq_iff_eq] at e2; rw [e2]; simp))
                go_wp2_with (go_at_call 47; refine (elIs _ E _ (by omega) E1.out).mono ?_; rintro e w' ⟨rfl, rfl⟩)
                go_ret2
                exact ⟨hbwf, .inl ⟨by rw [hF.out]; omega, by rw [hF.out]; rfl⟩⟩
              have hgood : isNc E = true := by unfold isNc; rw [E1.out]; rw [beq_eq_false_iff_ne] at e2; simp [e2]
              have HG := Lib.hid hgood
              clear hgood
              go_wp2_with (go_at_call 47; refine (elIs _ E _ (by omega) E1.out).mono ?_; rintro e w' ⟨rfl, rfl⟩)
              refine ⟨.inr (.inr ⟨rfl, hD, HG⟩), by simp [intOf]⟩
            · have hst : Hid (upErr s (k + 1) = 0) := by
                show upErr s (k + 1) = 0
                rw [upErr, if_pos HE.out, E3.out, if_neg]
                rintro (h | h)
                · rw [hD.out] at h; cases h
                · rw [hEE.out] at h; cases h
              have hlt := hblk.lt
              have h81 : k ≤ 9 := by omega
              have T9 := Lib.hid (HT.out.next h9)
              have q9 : (9 : Int) ≤ (t.size : Int) := by omega
              go_wp2_with (at_builtin; refine wpList_append_own _ rfl (.tmp 93) (.tmp 95) _ rfl w.heap.size 52 i0 (.agg #[.int .i64 0, .int .u64 0, .int .u64 0]) 3 24 Try.underlying26 hi hz0 hz1 hz2 rfl (by decide) _ _ _ rfl (HOF.out.alloc _) ⟨wr.heap.size, 0, none⟩ 1 1 [.int .i64 x, .int .u64 D, .int .u64 E] rfl rfl (World.news_of_block (heap_alloc_new _ _)) (by simp [Value.oneCell']) (by unfold maxLen; omega) (by omega) (by have := hbwf.size; simp; omega) ?_; intro v1 w1 hown1 hgrow1 _)
              have hbw1 := below_grown hbwf HOF.out hbwf.size hgrow1
              have hO1 : w1.ownsRow w.heap.size 52 3 v1 (k + 1) (comCells (pieces s (k + 1))) := by
                rw [pieces_step, comCells_append, ePc.out, comCells_one]
                exact hown1
              have hL1 : x = lastId s (k + 1) := by
                show x = (piece s k).id
                rw [ePc.out]
              have HO1 := Lib.hid hO1
              have HL1 := Lib.hid hL1
              clear hown1 hgrow1 hO1 hL1
              go_wp2_with fail
              refine ⟨⟨k + 1, _, rfl, T9.out, hst.out, by rw [HL1.out], HO1.out, hbw1⟩, ?_⟩
              simp [strSize]; omega
end Go.Proofs.Ytpfpokjaeffbjaa.Unp
