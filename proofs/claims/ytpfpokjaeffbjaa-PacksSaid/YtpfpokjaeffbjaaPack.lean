/- Pack: the program's. -/
import Derived.Test.YtpfpokjaeffbjaaVerify
import Derived.Test.YtpfpokjaeffbjaaPackPlain
import Derived.Lib.JoinLaws
namespace Go.Proofs.Ytpfpokjaeffbjaa.Pak
open Go.RowKit Go.Proofs.Ytpfpokjaeffbjaa.Pl Go.Proofs.Ytpfpokjaeffbjaa.Fld Go.Proofs.Ytpfpokjaeffbjaa.Mem Go.Proofs.Ytpfpokjaeffbjaa.Ppl Go.Proofs.Ytpfpokjaeffbjaa.Ver

theorem info_u8 : (Try.prog.info? 5).map (fun i => (i.zero, i.size, i.bytes)) = some (some (.int .u8 0), 1, 1) := by kernel_rfl
/-- The program's row under way: p bytes are laid. -/
def PkInv (l : List Cm) (w : World) (p : Nat) (wr : World) : Prop := ∃ cs : Array Value, Blk wr w.heap.size 5 cs ∧ Pre l cs p ∧ Below w.heap.size w wr
theorem PkInv.lay {l : List Cm} {w wr : World} {p : Nat} (h : PkInv l w p wr) (hp : p < 9 * l.length) {x : Int} (hx : x = (packed l).getD p 0) : PkInv l w (p + 1) (wr.setCell ⟨w.heap.size, p, none⟩ (.int .u8 x)) := by
  obtain ⟨cs, hb, hpre, hbw⟩ := h
  exact ⟨_, hb.set_ p _, hpre.step hp hx, hbw.setCell (Nat.le_refl _) _⟩
theorem PkInv.alloc {l : List Cm} {w wr : World} {p : Nat} (h : PkInv l w p wr) (o : Obj) : PkInv l w p (wr.alloc o) := by
  obtain ⟨cs, hb, hpre, hbw⟩ := h
  exact ⟨cs, hb.alloc o, hpre, hbw.alloc hbw.size o⟩
theorem PkInv.cell {l : List Cm} {w wr : World} {p : Nat} (h : PkInv l w p wr) {i : Nat} (hi : i < 9 * l.length) : (wr.cell? ⟨w.heap.size, i, none⟩).isSome = true ∧ wr.frozen? ⟨w.heap.size, i, none⟩ = false := by
  obtain ⟨cs, hb, hpre, hbw⟩ := h
  refine ⟨?_, hb.frozen i⟩
  rw [hb.cell i, Array.getElem?_eq_getElem (by rw [hpre.1]; exact hi)]
  rfl
theorem PkInv.lt {l : List Cm} {w wr : World} {p : Nat} (h : PkInv l w p wr) : w.heap.size < wr.heap.size := h.choose_spec.1.lt

set_option maxRecDepth 100000 in
set_option maxHeartbeats 2000000 in
theorem packC (l : List Cm) (v : Value) (w : World) (hv : Coms w w.heap.size v l) (hl : l.length ≤ 65536)
    (hb : ∀ i, i < l.length → (0 ≤ (l.getD i .zero).d ∧ (l.getD i .zero).d < 18446744073709551616) ∧ (0 ≤ (l.getD i .zero).e ∧ (l.getD i .zero).e < 18446744073709551616)) :
    Calls Try.prog 16 #[v] w fun e w' => e = .returned (.string (strOfNums (packed l))) ∧ Below w.heap.size w w' := by
  obtain ⟨A, c, rfl⟩ := hv.shape
  have HV := Lib.hid hv
  have HB := Lib.hid hb
  have m9 : IntKind.i64.wrap (9 * (l.length : Int)) = ((9 * l.length : Nat) : Int) := by rw [IntKind.wrap_i64]; omega
  clear hv hb
  obtain ⟨i0, hi, hz0, hz1, hz2⟩ := info_parts info_u8
  go_enter Try.func16, Try.ntmps16
  go_wp2_with (refine wpList_make_row _ rfl _ _ 72 rfl 5 i0 (.int .u8 0) Try.underlying72 hi hz0 hz1 rfl .i64 .i64 (9 * l.length) (by go_simp) (by go_simp) (by rw [hz2]; omega) (by omega) ?_)
  go_loopw [16] (fun i wr => ∃ k : Nat, k ≤ l.length ∧ i = .int .i64 k ∧ PkInv l w (9 * k) wr) (fun i _ => l.length - (intOf i).toNat)
  case atStart =>
    refine ⟨0, by omega, rfl, _, Blk.new _ _ _, Pre.zero l ?_, (Below.refl _ _).alloc (Nat.le_refl _) _⟩
    simp [madeCells]
  case round =>
    obtain ⟨k, hk, rfl, hinv⟩ := hrel
    by_cases hlt : k < l.length
    · obtain ⟨b, off, rfl, hb, hc⟩ := HV.out.at_ (by omega)
      have hbw : Below w.heap.size w wr := hinv.choose_spec.2.2
      have HBW := Lib.hid hbw
      obtain ⟨x0, x1, x2⟩ := hc k hlt
      replace x0 := (hbw.cell (p := ⟨b, off + k * 3, none⟩) hb).trans x0
      replace x1 := (hbw.cell (p := ⟨b, off + k * 3 + 1, none⟩) hb).trans x1
      replace x2 := (hbw.cell (p := ⟨b, off + k * 3 + 2, none⟩) hb).trans x2
      have hbd := HB.out k hlt
      have e0 : Hid ((l.getD k .zero).id % 256 = (packed l).getD (9 * k) 0) := by
        show _ = (packed l).getD (9 * k) 0
        rw [← IntKind.wrap_u8]
        exact (packed_at l hlt (j := 0) (by omega)).symm
      have e1 : Hid (∀ j, j < 4 → (l.getD k .zero).d / 2 ^ (8 * j) % 256 = (packed l).getD (9 * k + 1 + j) 0) := by
        show ∀ j, _
        intro j hj
        rw [← IntKind.wrap_u8, Nat.add_assoc, packed_at l hlt (j := 1 + j) (by omega), cmByte, if_neg (by omega), if_pos (by omega), show 1 + j - 1 = j by omega]
      have e2 : Hid (∀ j, j < 4 → (l.getD k .zero).e / 2 ^ (8 * j) % 256 = (packed l).getD (9 * k + 5 + j) 0) := by
        show ∀ j, _
        intro j hj
        rw [← IntKind.wrap_u8, Nat.add_assoc, packed_at l hlt (j := 5 + j) (by omega), cmByte, if_neg (by omega), if_neg (by omega), show 5 + j - 5 = j by omega]
      obtain ⟨⟨D0, D1⟩, E0, E1⟩ := hbd
      have HP := Lib.hid hinv
      have hlt0 := hinv.lt
      have h0c := hinv.cell (i := 9 * k) (by omega)
      obtain ⟨u0, hu0⟩ := Option.isSome_iff_exists.1 h0c.1
      have hz0 := h0c.2
      have hn1 : ¬ wr.heap.size = w.heap.size := by omega
      have hn2 : ¬ w.heap.size = wr.heap.size := by omega
      clear hc hinv hbw h0c
      generalize (l.getD k .zero).id = x at *
      generalize (l.getD k .zero).d = D at *
      generalize (l.getD k .zero).e = E at *
      have s9 : IntKind.i64.wrap (9 * (k : Int)) = ((9 * k : Nat) : Int) := by rw [IntKind.wrap_i64]; omega
      have s1 : IntKind.i64.wrap (((9 * k : Nat) : Int) + 1) = ((9 * k + 1 : Nat) : Int) := by rw [IntKind.wrap_i64]; omega
      have s10 : IntKind.i64.wrap (((9 * k : Nat) : Int) + 9) = ((9 * k + 9 : Nat) : Int) := by rw [IntKind.wrap_i64]; omega
      have i0' : ∀ W, (Instr.index 73 (.agg #[.int .u64 D, .int .u64 E]) (.int .i64 0)).run Try.prog W = .ok (.int .u64 D) W := fun _ => by kernel_rfl
      have i1' : ∀ W, (Instr.index 73 (.agg #[.int .u64 D, .int .u64 E]) (.int .i64 1)).run Try.prog W = .ok (.int .u64 E) W := fun _ => by kernel_rfl
      go_wp2_with fail
      go_loopw [6, 41] (fun p i wr => ∃ m : Nat, m ≤ 2 ∧ i = .int .i64 m ∧ p = .slice (some ⟨w.heap.size, 9 * k, none⟩) (1 + 4 * m) 9 ∧ PkInv l w (9 * k + 1 + 4 * m) wr) (fun _ i _ => (2 - intOf i).toNat)
      case atStart =>
        refine ⟨0, by omega, rfl, by congr 1 <;> omega, ?_⟩
        exact (HP.out.lay (by omega) e0.out).alloc _
      case round =>
        obtain ⟨m, hm, rfl, rfl, hinv⟩ := hrel
        have HP2 := Lib.hid hinv
        clear hinv hu0 hz0
        by_cases hm2 : m < 2
        · have hX : Hid (∃ X, (Value.int .u64 X = if m = 0 then .int .u64 D else .int .u64 E) ∧ 0 ≤ X ∧ X < 18446744073709551616 ∧ ∀ j, j < 4 → X / 2 ^ (8 * j) % 256 = (packed l).getD (9 * k + 1 + 4 * m + j) 0) := by
            show ∃ X, _
            have : m = 0 ∨ m = 1 := by omega
            rcases this with rfl | rfl
            · exact ⟨D, by rw [if_pos rfl], D0, D1, e1.out⟩
            · exact ⟨E, by rw [if_neg (by omega)], E0, E1, e2.out⟩
          obtain ⟨X, hXe, X0, X1, hXb⟩ := hX.out
          have HXB := Lib.hid hXb
          have hidx : ∀ W, (Instr.index 73 (.agg #[.int .u64 D, .int .u64 E]) (.int .i64 m)).run Try.prog W = .ok (.int .u64 X) W := by
            intro W
            have : m = 0 ∨ m = 1 := by omega
            rcases this with rfl | rfl
            · rw [if_pos rfl] at hXe
              rw [hXe]; exact i0' W
            · rw [if_neg (by omega)] at hXe
              rw [hXe]; exact i1' W
          clear hXb hX hXe i0' i1' e1 e2 e0
          go_wp2_with fail
          go_loopw [6, 44] (fun p i wr => ∃ j : Nat, j ≤ 4 ∧ i = .int .i64 j ∧ p = .slice (some ⟨w.heap.size, 9 * k, none⟩) (1 + 4 * m + j) 9 ∧ PkInv l w (9 * k + 1 + 4 * m + j) wr) (fun _ i _ => (4 - intOf i).toNat)
          case atStart => exact ⟨0, by omega, rfl, rfl, HP2.out⟩
          case round =>
            obtain ⟨j, hj, rfl, rfl, hinv⟩ := hrel
            have HP3 := Lib.hid hinv
            clear hinv
            by_cases hj4 : j < 4
            · have s8 : IntKind.i64.wrap (8 * (j : Int)) = 8 * (j : Int) := by rw [IntKind.wrap_i64]; omega
              have n8 : (8 * (j : Int)).toNat = 8 * j := by omega
              have p8 : (0 : Int) ≤ 8 * (j : Int) := by omega
              have hce := HP3.out.cell (i := 9 * k + (1 + 4 * m + j)) (by omega)
              obtain ⟨u1, hu1⟩ := Option.isSome_iff_exists.1 hce.1
              have hz3 := hce.2
              have hn3 := HP3.out.lt
              have hn4 : ¬ w.heap.size = wr.heap.size := by omega
              clear hce
              go_wp2_with fail
              refine ⟨⟨j + 1, by omega, by go_num, by congr 1, ?_⟩, by simp [intOf]; omega⟩
              rw [show 9 * k + (1 + 4 * m + j) = 9 * k + 1 + 4 * m + j by omega]
              exact (HP3.out.lay (by omega) (HXB.out j hj4)).alloc _
            · obtain rfl : j = 4 := by omega
              go_wp2_with fail
              refine ⟨⟨m + 1, by omega, by go_num, rfl, ?_⟩, by simp [intOf]; omega⟩
              rw [show 9 * k + 1 + 4 * (m + 1) = 9 * k + 1 + 4 * m + 4 by omega]
              exact HP3.out
        · obtain rfl : m = 2 := by omega
          go_wp2_with fail
          refine ⟨⟨k + 1, by omega, by go_num, ?_⟩, by simp [intOf]; omega⟩
          rw [show 9 * (k + 1) = 9 * k + 1 + 4 * 2 by omega]
          exact HP2.out
    · obtain rfl : k = l.length := by omega
      obtain ⟨cs, hblk, hpre, hbw⟩ := hinv
      have hcv := run_convert_bytes_arg (P := Try.prog) wr 72 5 Try.underlying72 Try.underlying5 w.heap.size 0 (9 * l.length) (9 * l.length) (packed l) (packed_length l)
        (fun i hi => by rw [Nat.zero_add, hblk.cell i]; exact hpre.2 i hi) 9 Try.underlying9
      go_wp2_with fail
      go_ret
      exact ⟨rfl, hbw⟩
end Go.Proofs.Ytpfpokjaeffbjaa.Pak
