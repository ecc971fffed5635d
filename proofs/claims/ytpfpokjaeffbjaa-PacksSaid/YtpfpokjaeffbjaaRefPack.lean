/- Pack: the reference's. -/
import Derived.Test.YtpfpokjaeffbjaaPack
import Derived.Deep.DeepCutAuto
import Derived.Deep.RegionLaw
namespace Go.Proofs.Ytpfpokjaeffbjaa.Rpk
open Go.RowKit Go.Proofs.Ytpfpokjaeffbjaa.Pl Go.Proofs.Ytpfpokjaeffbjaa.Fld Go.Proofs.Ytpfpokjaeffbjaa.Mem Go.Proofs.Ytpfpokjaeffbjaa.Ppl Go.Proofs.Ytpfpokjaeffbjaa.Ver Go.Proofs.Ytpfpokjaeffbjaa.Pak
attribute [local go_sem ↓] Go.wp_at_zero Go.wp_at_succ

theorem cell_drewN (w : World) (n : Nat) (a : Addr) : (w.drewN n).cell? a = w.cell? a := rfl
theorem frozen_drewN (w : World) (n : Nat) (a : Addr) : (w.drewN n).frozen? a = w.frozen? a := rfl
theorem size_drewN (w : World) (n : Nat) : (w.drewN n).heap.size = w.heap.size := rfl
theorem alloc_drewN (w : World) (n : Nat) (o : Obj) : (w.drewN n).alloc o = (w.alloc o).drewN n := rfl
attribute [local go_sem] cell_drewN frozen_drewN size_drewN alloc_drewN

theorem blk_drew {w : World} {g : Nat} {t : TypeId} {cs : Array Value} (h : Blk w g t cs) : Blk w.drew g t cs := h
/-- Some bytes in a row of memory, as a string. -/
theorem convC (W : World) (g : Nat) (xs : List Int) (n cap : Nat) (hn : xs.length = n) (h : ∀ i, i < n → W.cell? ⟨g, i, none⟩ = some (.int .u8 (xs.getD i 0))) :
    (convert 72 9 (.slice (some ⟨g, 0, none⟩) n cap)).run Try.prog W = .ok (.string (strOfNums xs)) W :=
  run_convert_bytes_arg (P := Try.prog) W 72 5 Try.underlying72 Try.underlying5 g 0 n cap xs hn (fun i hi => by rw [Nat.zero_add]; exact h i hi) 9 Try.underlying9

def four (n : Int) : List Int := [n % 256, n / 2 ^ 8 % 256, n / 2 ^ 16 % 256, n / 2 ^ 24 % 256]
def fourCells (n : Int) : Array Value := #[.int .u8 (n % 256), .int .u8 (n / 2 ^ 8 % 256), .int .u8 (n / 2 ^ 16 % 256), .int .u8 (n / 2 ^ 24 % 256)]
set_option maxHeartbeats 1000000 in
theorem fourC (n : Int) (w : World) :
    Calls Try.prog 40 #[.int .u64 n] w fun e w' => e = .returned (.string (strOfNums (four n))) ∧ w' = w.alloc (.cells (fourCells n) 5) := by
  show Calls _ _ _ _ fun e w' => e = .returned (.string (strOfNums (four n))) ∧ w' = w.alloc (.cells #[.int .u8 (n % 256), .int .u8 (n / 2 ^ 8 % 256), .int .u8 (n / 2 ^ 16 % 256), .int .u8 (n / 2 ^ 24 % 256)] 5)
  have hcv := convC (w.alloc (.cells #[.int .u8 (n % 256), .int .u8 (n / 2 ^ 8 % 256), .int .u8 (n / 2 ^ 16 % 256), .int .u8 (n / 2 ^ 24 % 256)] 5)) w.heap.size (four n) 4 4 rfl (fun i hi => by
    rw [World.cell?_alloc_new]
    have : i = 0 ∨ i = 1 ∨ i = 2 ∨ i = 3 := by omega
    rcases this with rfl | rfl | rfl | rfl <;> rfl)
  have e8 : (2 : Int) ^ 8 = 256 := rfl
  have e16 : (2 : Int) ^ 16 = 65536 := rfl
  have e24 : (2 : Int) ^ 24 = 16777216 := rfl
  rw [e8, e16, e24] at hcv ⊢
  go_enter Try.func40, Try.ntmps40
  go_wp2_with fail
  go_ret
  exact ⟨rfl, rfl⟩
theorem four_nine (c : Cm) : nine c = [c.id % 256] ++ (four c.d ++ four c.e) := by
  rw [nine_eq, IntKind.wrap_u8, IntKind.wrap_u8, IntKind.wrap_u8, IntKind.wrap_u8, IntKind.wrap_u8, IntKind.wrap_u8, IntKind.wrap_u8, IntKind.wrap_u8, IntKind.wrap_u8, Int.pow_zero, Int.ediv_one, Int.ediv_one]
  rfl

set_option maxRecDepth 100000 in
set_option maxHeartbeats 80000000 in
theorem refPackC (l : List Cm) (v : Value) (w : World) (hv : Coms w w.heap.size v l) (hl : l.length ≤ 65536)
    (hb : ∀ i, i < l.length → (0 ≤ (l.getD i .zero).d ∧ (l.getD i .zero).d < 18446744073709551616) ∧ (0 ≤ (l.getD i .zero).e ∧ (l.getD i .zero).e < 18446744073709551616)) :
    Calls Try.prog 17 #[v] w fun e w' => e = .returned (.string (strOfNums (packed l))) ∧ Below w.heap.size w w' := by
  obtain ⟨A, c, rfl⟩ := hv.shape
  have HV := Lib.hid hv
  have HB := Lib.hid hb
  clear hv hb
  go_enter Try.func17, Try.ntmps17
  go_wp2_with fail
  go_loopw [3, 8] (fun s i wr => ∃ k : Nat, k ≤ l.length ∧ i = .int .i64 k ∧ s = .string (strOfNums (packed (l.take k))) ∧ Below w.heap.size w wr) (fun _ i _ => l.length - (intOf i).toNat)
  case atStart => exact ⟨0, by omega, rfl, rfl, Below.refl _ _⟩
  case round =>
    obtain ⟨k, hk, rfl, rfl, hbw⟩ := hrel
    by_cases hlt : k < l.length
    · obtain ⟨b, off, rfl, hb, hc⟩ := HV.out.at_ (by omega)
      obtain ⟨x0, x1, x2⟩ := hc k hlt
      replace x0 := (hbw.cell (p := ⟨b, off + k * 3, none⟩) hb).trans x0
      replace x1 := (hbw.cell (p := ⟨b, off + k * 3 + 1, none⟩) hb).trans x1
      replace x2 := (hbw.cell (p := ⟨b, off + k * 3 + 2, none⟩) hb).trans x2
      have hbd := HB.out k hlt
      have e0 : Hid (strOfNums (packed (l.take (k + 1))) = strOfNums (packed (l.take k)) ++ (strOfNums [(l.getD k .zero).id % 256] ++ strOfNums (four (l.getD k .zero).d) ++ strOfNums (four (l.getD k .zero).e))) := by
        show _ = _
        rw [packed_step l hlt, strOfNums_append, four_nine, strOfNums_append, strOfNums_append, ByteArray.append_assoc]
      obtain ⟨⟨D0, D1⟩, E0, E1⟩ := hbd
      have hbt : b < wr.heap.size := by have := hbw.size; omega
      have HBW := Lib.hid hbw
      clear hc hbw
      generalize (l.getD k .zero).id = x at *
      generalize (l.getD k .zero).d = D at *
      generalize (l.getD k .zero).e = E at *
      have hS : (strOfNums (packed (l.take k))).size ≤ 589824 := by
        rw [strOfNums_size, packed_length, List.length_take]; omega
      generalize strOfNums (packed (l.take k)) = S at *
      have z1 : (strOfNums [x % 256]).size = 1 := strOfNums_size _
      have z2 : (strOfNums (four D)).size = 4 := strOfNums_size _
      have z3 : (strOfNums (four E)).size = 4 := strOfNums_size _
      have z4 : ¬ 9223372036854775807 < S.size + (1 + 4 + 4) := by omega
      have hcv : ∀ (W : World) (g : Nat), W.cell? ⟨g, 0, none⟩ = some (.int .u8 (IntKind.u8.wrap x)) → (convert 72 9 (.slice (some ⟨g, 0, none⟩) 1 1)).run Try.prog W = .ok (.string (strOfNums [x % 256])) W :=
        fun W g h => convC W g [x % 256] 1 1 rfl (fun i hi => (show i = 0 by omega) ▸ (by rw [← IntKind.wrap_u8]; exact h))
      have HF : Hid (∀ (n : Int) (W : World), Calls Try.prog 40 #[.int .u64 n] W fun e w' => e = .returned (.string (strOfNums (four n))) ∧ w' = W.alloc (.cells (fourCells n) 5)) := fourC
      generalize hS1 : strOfNums [x % 256] = s1 at *
      clear hS1
      obtain ⟨wo, rfl⟩ : ∃ wo : World, wo = wr := ⟨_, rfl⟩
      go_wp2_with fail
      have hbw0 : Below wo.heap.size wo (wo.alloc (.cells #[.int .i64 x, .int .u64 D, .int .u64 E] 52)) := below_box _ _
      have hblk0 : Blk (wo.alloc (.cells #[.int .i64 x, .int .u64 D, .int .u64 E] 52)) wo.heap.size 52 #[.int .i64 x, .int .u64 D, .int .u64 E] := Blk.new _ _ _
      have hc0 : (wo.alloc (.cells #[.int .i64 x, .int .u64 D, .int .u64 E] 52)).cell? ⟨wo.heap.size, 0, none⟩ = some (.int .i64 x) := by simp
      have hc1 : (wo.alloc (.cells #[.int .i64 x, .int .u64 D, .int .u64 E] 52)).cell? ⟨wo.heap.size, 1, none⟩ = some (.int .u64 D) := by simp
      have hc2 : (wo.alloc (.cells #[.int .i64 x, .int .u64 D, .int .u64 E] 52)).cell? ⟨wo.heap.size, 2, none⟩ = some (.int .u64 E) := by simp
      have hsz : wo.heap.size < (wo.alloc (.cells #[.int .i64 x, .int .u64 D, .int .u64 E] 52)).heap.size := by simp
      generalize wo.alloc (.cells #[.int .i64 x, .int .u64 D, .int .u64 E] 52) = wb at *
      have HB0 := Lib.hid hbw0
      have HBLK := Lib.hid hblk0
      have k1 : ∀ o1 : Obj, ((wb.alloc (.cells #[.int .u8 (IntKind.u8.wrap x)] 5)).alloc o1).cell? ⟨wb.heap.size, 0, none⟩ = some (.int .u8 (IntKind.u8.wrap x)) := fun o1 =>
        ((Blk.new wb 5 #[.int .u8 (IntKind.u8.wrap x)]).alloc o1).cell 0
      have k2 : ∀ o1 o2 : Obj, (((wb.alloc (.cells #[.int .u8 (IntKind.u8.wrap x)] 5)).alloc o1).alloc o2).cell? ⟨wb.heap.size, 0, none⟩ = some (.int .u8 (IntKind.u8.wrap x)) := fun o1 o2 =>
        (((Blk.new wb 5 #[.int .u8 (IntKind.u8.wrap x)]).alloc o1).alloc o2).cell 0
      have hall : ∀ o1 o2 o3 : Obj, Below w.heap.size w ((((wb.alloc o1).alloc o2).alloc o3).drew) := fun o1 o2 o3 => by
        have h1 := HBW.out.trans (hbw0.mono HBW.out.size)
        have h2 := HBW.out.size
        have h3 := hbw0.size
        exact (((h1.alloc (by omega) o1).alloc (by simp; omega) o2).alloc (by simp; omega) o3).drew
      have HALL := Lib.hid hall
      clear hbw0 hblk0 hall
      go_region_law (go_simp; refine (HF.out _ _).mono ?_; rintro e w' ⟨rfl, rfl⟩)
      all_goals
        go_wp2_with fail
        refine ⟨⟨k + 1, by omega, by go_num, by rw [e0.out], HALL.out _ _ _⟩, by simp [intOf]; omega⟩
    · obtain rfl : k = l.length := by omega
      go_wp2_with fail
      go_ret
      exact ⟨by rw [List.take_length]; rfl, hbw⟩
end Go.Proofs.Ytpfpokjaeffbjaa.Rpk
