/- The reference's hash: it collects all bytes, then mixes them. -/
import Derived.Test.YtpfpokjaeffbjabHash
import Derived.Lib.AppendStr
namespace Go.Proofs.Ytpfpokjaeffbjab.Rhs
open Go.RowKit Go.Proofs.Ytpfpokjaeffbjab.Pl Go.Proofs.Ytpfpokjaeffbjab.Fld Go.Proofs.Ytpfpokjaeffbjab.Mem

theorem info_u8 : (Try.prog.info? 5).map (fun i => (i.zero, i.size, i.bytes)) = some (some (.int .u8 0), 1, 1) := by kernel_rfl
theorem und_u8s : Try.prog.underlying 192 = some (.slice 5) := Try.underlying192

set_option maxRecDepth 100000 in
set_option maxHeartbeats 1000000 in
theorem refHashC (tag : Int) (s : ByteArray) (l : List Int) (v : Value) (w : World) (hv : Nums .u64 w w.heap.size v l) (hl : l.length ≤ 65536) (hs : s.size ≤ 1000000)
    (ht0 : 0 ≤ tag) (ht1 : tag < 256) (hb : ∀ i, i < l.length → 0 ≤ l.getD i 0 ∧ l.getD i 0 < 18446744073709551616) :
    Calls Try.prog 101 #[.int .u8 tag, v, .string s] w fun e w' => e = .returned (.int .u64 (hashI tag s l)) ∧ Below w.heap.size w w' := by
  obtain ⟨A, c, rfl, hc, hcell⟩ := hv
  have HC := Lib.hid hcell
  have HB := Lib.hid hb
  clear hcell hb
  obtain ⟨i0, hi, hz0, hz1, hz2⟩ := info_parts info_u8
  go_enter Try.func101, Try.ntmps101
  go_wp2_with fail
  go_loopw [7, 18] (fun b i wr => ∃ k : Nat, k ≤ l.length ∧ i = .int .i64 k ∧ wr.ownsRow w.heap.size 5 1 b (1 + 8 * k) ((tag :: numsBytes l k).map (Value.int .u8)) ∧ Below w.heap.size w wr) (fun _ i _ => l.length - (intOf i).toNat)
  case atStart => exact ⟨0, by omega, rfl, World.ownsRow_lit w #[.int .u8 tag] 1 (Nat.le_refl _) (by unfold maxLen; omega) rfl, (Below.refl _ _).alloc (Nat.le_refl _) _⟩
  case round =>
    obtain ⟨k, hk, rfl, hown, hbw⟩ := hrel
    by_cases hlt : k < l.length
    · obtain ⟨b, off, rfl, hb, hcells⟩ := HC.out (by omega)
      have hck := (hbw.cell (p := ⟨b, off + k, none⟩) hb).trans (hcells k hlt)
      have hbk := HB.out k hlt
      clear hcells
      generalize hX : l.getD k 0 = X at *
      have HX := Lib.hid hX
      clear hX
      obtain ⟨x0, x1⟩ := hbk
      go_wp2_with fail
      go_loopw [7, 10] (fun b i wr => ∃ j : Nat, j ≤ 8 ∧ i = .int .i64 j ∧ wr.ownsRow w.heap.size 5 1 b (1 + 8 * k + j) ((tag :: (numsBytes l k ++ numBytes X j)).map (Value.int .u8)) ∧ Below w.heap.size w wr) (fun _ i _ => 8 - (intOf i).toNat)
      case atStart => exact ⟨0, by omega, rfl, by simpa [numBytes] using hown, hbw⟩
      case round =>
        obtain ⟨j, hj, rfl, hown1, hbw1⟩ := hrel
        clear hown hbw hck
        have HO := Lib.hid hown1
        clear hown1 x1
        by_cases hj8 : j < 8
        · have ev : X / 2 ^ (8 * j) % 256 = dv X j % 256 := by rw [dv_eq]
          have EV := Lib.hid ev
          clear ev
          go_wp2_with (at_builtin; refine wpList_append_own _ rfl (.tmp 26) (.tmp 32) _ rfl w.heap.size 5 i0 (.int .u8 0) 1 1 und_u8s hi hz0 hz1 hz2 rfl (by decide) _ _ _ rfl (HO.out.alloc _) ⟨wr.heap.size, 0, none⟩ 1 1 [.int .u8 (X / 2 ^ (8 * j) % 256)] rfl rfl (cell_one_new _ _ _) (by simp [Value.oneCell']) (by unfold maxLen; omega) (by omega) (by have := hbw1.size; simp; omega) ?_; intro v' w1 hown' hgrow _)
          have hbw2 : Below w.heap.size w w1 := (hbw1.alloc hbw1.size _).grown hgrow (by have := hbw1.size; simp; omega) (fun k hk => ((HO.out.alloc (Obj.cells #[.int .u8 0] 5)).lt k hk).1)
          rw [EV.out] at hown'
          have HO2 := Lib.hid hown'
          clear hown' hgrow
          go_wp2_with fail
          go_roundw
          case rel => exact ⟨j + 1, by omega, by go_num, by simpa [numBytes, Nat.add_assoc] using HO2.out, hbw2⟩
          case measure => simp [intOf]; omega
        · obtain rfl : j = 8 := by omega
          go_wp2_with fail
          go_roundw
          case rel => exact ⟨k + 1, by omega, by go_num, by rw [numsBytes, HX.out, show 1 + 8 * (k + 1) = 1 + 8 * k + 8 by omega]; exact HO.out, hbw1⟩
          case measure => simp [intOf]; omega
    · obtain rfl : k = l.length := by omega
      have HO := Lib.hid hown
      clear hown
      have e1 : (tag :: numsBytes l l.length).map (Value.int .u8) ++ Lib.strCells s = (allBytes tag s l).map (Value.int .u8) := by
        simp [allBytes, Lib.strCells, textBytes]
      have e2 := allBytes_length tag s l
      have E1 := Lib.hid e1
      have E2 := Lib.hid e2
      have BD := Lib.hid (allBytes_bd s l ht0 ht1)
      have HM := Lib.hid (mixL_hash tag s l)
      clear e1 e2
      generalize allBytes tag s l = bs at *
      go_wp2_with (at_builtin; refine Lib.wpList_append_own_string _ rfl (.tmp 35) (.tmp 36) _ _ rfl w.heap.size 5 i0 und_u8s Try.underlying9 hi hz0 hz1 hz2 _ _ _ rfl HO.out s rfl (by unfold maxLen; omega) (by omega) hbw.size ?_; intro v' w1 hown' hgrow _)
      rw [E1.out] at hown'
      have hbw2 : Below w.heap.size w w1 := hbw.grown hgrow hbw.size (fun k hk => (HO.out.lt k hk).1)
      obtain ⟨g, cap, rfl, hg1, hg2⟩ := hown'.form (by omega)
      have hcellb : ∀ i, i < bs.length → w1.cell? ⟨g, i, none⟩ = some (.int .u8 (bs.getD i 0)) := by
        intro i hi
        rw [hown'.cellAt i (by rw [E2.out] at hi; omega), List.getElem?_map, List.getElem?_eq_getElem hi, List.getD_eq_getElem?_getD, List.getElem?_eq_getElem hi]
        rfl
      have HCB := Lib.hid hcellb
      clear hown' hgrow hcellb
      have E3 : Hid (1 + 8 * l.length + s.size = bs.length) := by
        show 1 + 8 * l.length + s.size = bs.length
        exact E2.out.symm
      have hbl : bs.length ≤ 2000000 := by rw [E2.out]; omega
      rw [E3.out]
      go_wp2_with fail
      go_simp
      go_wp2_with fail
      go_loop [11, 40] (fun h i => ∃ k : Nat, k ≤ bs.length ∧ i = .int .i64 k ∧ h = .int .u64 (mixL fnv0 bs k)) (fun _ i => bs.length - (intOf i).toNat)
      case atStart => exact ⟨0, by omega, rfl, rfl⟩
      case round =>
        obtain ⟨k, hk, rfl, rfl⟩ := hrel
        by_cases hlt : k < bs.length
        · have hck := HCB.out k hlt
          have hbk := BD.out (bs.getD k 0) (by rw [List.getD_eq_getElem?_getD, List.getElem?_eq_getElem hlt]; exact List.getElem_mem hlt)
          have EM : Hid (mixL fnv0 bs (k + 1) = mix (mixL fnv0 bs k) (bs.getD k 0)) := by
            show mixL fnv0 bs (k + 1) = _
            rfl
          generalize hX : bs.getD k 0 = X at *
          have HX := Lib.hid hX
          clear hX
          generalize mixL fnv0 bs k = m at *
          obtain ⟨x0, x1⟩ := hbk
          go_wp2_with fail
          go_round
          case rel => exact ⟨k + 1, by omega, by go_num, by rw [EM.out]; rfl⟩
          case measure => simp [intOf]; omega
        · obtain rfl : k = bs.length := by omega
          have hm : 0 ≤ mixL fnv0 bs bs.length := mixL_nonneg _ _ _ (by unfold fnv0; omega)
          generalize mixL fnv0 bs bs.length = m at *
          go_wp2_with fail
          go_ret
          exact ⟨by rw [← HM.out]; rfl, hbw2⟩
end Go.Proofs.Ytpfpokjaeffbjab.Rhs
