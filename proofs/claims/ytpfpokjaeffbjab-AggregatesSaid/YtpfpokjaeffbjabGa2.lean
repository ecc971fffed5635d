/- Part of the proof: MuI, Ghost. -/
import Derived.Calls
import Derived.Test.YtpfpokjaeffbjabGa1
import Derived.Conc.MuSpec
namespace Go.Proofs.Ytpfpokjaeffbjab.Cc
set_option linter.unusedSimpArgs false
inductive OwnS | chk | work | dn
  deriving DecidableEq
inductive MX
  | fresh | cont (aw : Bool) | queued | woken (h : Bool) | own (s : OwnS) | ul (old : Int) | rel | unl | out
  deriving DecidableEq
def MX.isOwn : MX → Bool | .own _ => true | _ => false
def MX.isRel : MX → Bool | .rel => true | _ => false
def MX.isUnl : MX → Bool | .unl => true | _ => false
def MX.isQ : MX → Bool | .queued => true | _ => false
def MX.isWN : MX → Bool | .woken false => true | _ => false
def MX.isWH : MX → Bool | .woken true => true | _ => false
def MX.isCT : MX → Bool | .cont true => true | _ => false
def cnt (p : MX → Bool) (m : Nat → MX) (a n : Nat) : Nat := (List.range n).countP fun k => p (m (a + k))
def upd {α : Type} (m : Nat → α) (j : Nat) (x : α) : Nat → α := fun i => if i = j then x else m i
theorem upd_self {α : Type} (m : Nat → α) (j : Nat) (x : α) : upd m j x j = x := by simp [upd]
theorem upd_ne {α : Type} (m : Nat → α) {i j : Nat} (x : α) (h : i ≠ j) : upd m j x i = m i := by simp [upd, h]
theorem cnt_upd_out (p : MX → Bool) (m : Nat → MX) {a j : Nat} (n : Nat) (x : MX) (h : j < a ∨ a + n ≤ j) : cnt p (upd m j x) a n = cnt p m a n := by
  unfold cnt
  refine List.countP_congr fun k hk => ?_
  rw [upd_ne]
  have := List.mem_range.1 hk
  omega
theorem cnt_upd (p : MX → Bool) (m : Nat → MX) {a j : Nat} (n : Nat) (x : MX) (h : a ≤ j) (h2 : j < a + n) : cnt p (upd m j x) a n + (p (m j)).toNat = cnt p m a n + (p x).toNat := by
  induction n with
  | zero => omega
  | succ n ih =>
    have s : ∀ m, cnt p m a (n + 1) = cnt p m a n + (p (m (a + n))).toNat := fun m => by
      unfold cnt
      rw [List.range_succ, List.countP_append]
      cases hp : p (m (a + n)) <;> simp [hp]
    rw [s, s]
    by_cases e : j = a + n
    · subst e
      rw [cnt_upd_out p m n x (.inr (Nat.le_refl _)), upd_self]
      omega
    · have := ih (by omega)
      rw [upd_ne m x (by omega : a + n ≠ j)]
      omega
theorem cnt_pos {p : MX → Bool} {m : Nat → MX} {a j n : Nat} (h : a ≤ j) (h2 : j < a + n) (hp : p (m j) = true) : 1 ≤ cnt p m a n := by
  unfold cnt
  refine List.countP_pos_iff.2 ⟨j - a, List.mem_range.2 (by omega), ?_⟩
  rw [show a + (j - a) = j by omega]; exact hp
def enc (L W S N : Nat) : Int := ((L + 2 * W + 4 * S + 8 * N : Nat) : Int)
structure MuI (m : Nat → MX) (a n : Nat) (L W S N tn th : Nat) : Prop where
  own : L = cnt MX.isOwn m a n
  wok : W = cnt MX.isRel m a n + tn + cnt MX.isWN m a n + cnt MX.isCT m a n
  que : N + cnt MX.isRel m a n + tn = cnt MX.isQ m a n + cnt MX.isWH m a n
  bd : L ≤ 1 ∧ W ≤ 1 ∧ S ≤ 1
  st : (S = 1 ∧ W = 0 ∧ L + cnt MX.isUnl m a n + th + cnt MX.isWH m a n = 1 ∧ 1 ≤ N) ∨ (S = 0 ∧ th = 0 ∧ cnt MX.isUnl m a n = 0 ∧ cnt MX.isWH m a n = 0)
  wit : L = 0 → W = 0 → S = 0 → 1 ≤ N → ∃ j, a ≤ j ∧ j < a + n ∧ m j = .ul (8 * N : Nat)
def crd : MX → Nat
  | .fresh => 9
  | .cont false => 8
  | .cont true => 7
  | .queued => 6
  | .woken _ => 8
  | .own _ => 6
  | .ul _ => 5
  | .rel => 4
  | .unl => 4
  | .out => 0
def pot (m : Nat → MX) (a n tok : Nat) : Nat := ((List.range n).map fun k => crd (m (a + k))).sum + 3 * tok
theorem sum_upd (m : Nat → MX) {a j : Nat} (n : Nat) (x : MX) : (j < a ∨ a + n ≤ j → ((List.range n).map fun k => crd (upd m j x (a + k))).sum = ((List.range n).map fun k => crd (m (a + k))).sum) ∧
    (a ≤ j → j < a + n → ((List.range n).map fun k => crd (upd m j x (a + k))).sum + crd (m j) = ((List.range n).map fun k => crd (m (a + k))).sum + crd x) := by
  induction n with
  | zero => exact ⟨fun _ => rfl, fun _ _ => by omega⟩
  | succ n ih =>
    simp only [List.range_succ, List.map_append, List.map_cons, List.map_nil, List.sum_append, List.sum_cons, List.sum_nil]
    refine ⟨fun h => ?_, fun h h2 => ?_⟩
    · rw [ih.1 (by omega), upd_ne m x (by omega : a + n ≠ j)]
    · by_cases e : j = a + n
      · subst e
        rw [ih.1 (.inr (Nat.le_refl _)), upd_self]; omega
      · have := ih.2 h (by omega)
        rw [upd_ne m x (by omega : a + n ≠ j)]; omega
theorem pot_upd (m : Nat → MX) {a j : Nat} (n : Nat) (x : MX) (tok tok' : Nat) (h : a ≤ j) (h2 : j < a + n) : pot (upd m j x) a n tok' + crd (m j) + 3 * tok = pot m a n tok + crd x + 3 * tok' := by
  unfold pot
  have := (sum_upd m n x).2 h h2
  omega
section
variable {m : Nat → MX} {a n j : Nat} {L W S N tn th : Nat}
theorem counts (m : Nat → MX) (x : MX) (h : a ≤ j) (h2 : j < a + n) :
    (cnt MX.isOwn (upd m j x) a n + (MX.isOwn (m j)).toNat = cnt MX.isOwn m a n + (MX.isOwn x).toNat) ∧ (cnt MX.isRel (upd m j x) a n + (MX.isRel (m j)).toNat = cnt MX.isRel m a n + (MX.isRel x).toNat) ∧
    (cnt MX.isUnl (upd m j x) a n + (MX.isUnl (m j)).toNat = cnt MX.isUnl m a n + (MX.isUnl x).toNat) ∧ (cnt MX.isQ (upd m j x) a n + (MX.isQ (m j)).toNat = cnt MX.isQ m a n + (MX.isQ x).toNat) ∧
    (cnt MX.isWN (upd m j x) a n + (MX.isWN (m j)).toNat = cnt MX.isWN m a n + (MX.isWN x).toNat) ∧ (cnt MX.isWH (upd m j x) a n + (MX.isWH (m j)).toNat = cnt MX.isWH m a n + (MX.isWH x).toNat) ∧
    (cnt MX.isCT (upd m j x) a n + (MX.isCT (m j)).toNat = cnt MX.isCT m a n + (MX.isCT x).toNat) :=
  ⟨cnt_upd _ m n x h h2, cnt_upd _ m n x h h2, cnt_upd _ m n x h h2, cnt_upd _ m n x h h2, cnt_upd _ m n x h h2, cnt_upd _ m n x h h2, cnt_upd _ m n x h h2⟩
theorem MuI.move (h : MuI m a n L W S N tn th) (hj : a ≤ j) (hj2 : j < a + n) {x y : MX} (hm : m j = y) {L' W' S' N' tn' th' : Nat}
    (k : ∀ cO cR cU cQ cN cH cT dO dR dU dQ dN dH dT : Nat, dO + y.isOwn.toNat = cO + x.isOwn.toNat → dR + y.isRel.toNat = cR + x.isRel.toNat → dU + y.isUnl.toNat = cU + x.isUnl.toNat → dQ + y.isQ.toNat = cQ + x.isQ.toNat → dN + y.isWN.toNat = cN + x.isWN.toNat → dH + y.isWH.toNat = cH + x.isWH.toNat → dT + y.isCT.toNat = cT + x.isCT.toNat →
      L = cO → W = cR + tn + cN + cT → N + cR + tn = cQ + cH → L ≤ 1 ∧ W ≤ 1 ∧ S ≤ 1 → ((S = 1 ∧ W = 0 ∧ L + cU + th + cH = 1 ∧ 1 ≤ N) ∨ (S = 0 ∧ th = 0 ∧ cU = 0 ∧ cH = 0)) →
      L' = dO ∧ W' = dR + tn' + dN + dT ∧ N' + dR + tn' = dQ + dH ∧ (L' ≤ 1 ∧ W' ≤ 1 ∧ S' ≤ 1) ∧ ((S' = 1 ∧ W' = 0 ∧ L' + dU + th' + dH = 1 ∧ 1 ≤ N') ∨ (S' = 0 ∧ th' = 0 ∧ dU = 0 ∧ dH = 0)))
    (hw : L' = 0 → W' = 0 → S' = 0 → 1 ≤ N' → x = .ul (8 * N' : Nat) ∨ (L = 0 ∧ W = 0 ∧ S = 0 ∧ N' = N ∧ y ≠ .ul (8 * N : Nat))) : MuI (upd m j x) a n L' W' S' N' tn' th' := by
  obtain ⟨c1, c2, c3, c4, c5, c6, c7⟩ := counts m x hj hj2
  rw [hm] at c1 c2 c3 c4 c5 c6 c7
  obtain ⟨h1, h2, h3, h4, h5, h6⟩ := h
  obtain ⟨k1, k2, k3, k4, k5⟩ := k _ _ _ _ _ _ _ _ _ _ _ _ _ _ c1 c2 c3 c4 c5 c6 c7 h1 h2 h3 h4 h5
  refine ⟨k1, k2, k3, k4, k5, fun a1 a2 a3 a4 => ?_⟩
  rcases hw a1 a2 a3 a4 with e | ⟨b1, b2, b3, b4, b5⟩
  · exact ⟨j, hj, hj2, by rw [upd_self]; exact e⟩
  · obtain ⟨i, i1, i2, i3⟩ := h6 b1 b2 b3 (by omega)
    have hne : i ≠ j := fun e => b5 (by rw [← hm, ← e]; exact i3)
    exact ⟨i, i1, i2, by rw [upd_ne m x hne, i3, b4]⟩
variable (h : MuI m a n L W S N tn th) (hj : a ≤ j) (hj2 : j < a + n)
include h hj hj2
omit h in
theorem cpos (p : MX → Bool) (hp : p (m j) = true) : 1 ≤ cnt p m a n := cnt_pos hj hj2 hp
theorem MuI.atCT (hm : m j = .cont true) : W = 1 ∧ S = 0 ∧ tn = 0 ∧ th = 0 := by
  have p := cpos (m := m) hj hj2 MX.isCT (by rw [hm]; rfl)
  obtain ⟨h1, h2, h3, h4, h5, -⟩ := h
  omega
theorem MuI.atWN (hm : m j = .woken false) : W = 1 ∧ S = 0 := by
  have p := cpos (m := m) hj hj2 MX.isWN (by rw [hm]; rfl)
  obtain ⟨h1, h2, h3, h4, h5, -⟩ := h
  omega
theorem MuI.atWH (hm : m j = .woken true) : L = 0 ∧ W = 0 ∧ S = 1 ∧ 1 ≤ N := by
  have p := cpos (m := m) hj hj2 MX.isWH (by rw [hm]; rfl)
  obtain ⟨h1, h2, h3, h4, h5, -⟩ := h
  omega
theorem MuI.atOwn {o : OwnS} (hm : m j = .own o) : L = 1 := by
  have p := cpos (m := m) hj hj2 MX.isOwn (by rw [hm]; rfl)
  obtain ⟨h1, h2, h3, h4, h5, -⟩ := h
  omega
theorem MuI.atUnl (hm : m j = .unl) : L = 0 ∧ S = 1 ∧ th = 0 ∧ tn = 0 := by
  have p := cpos (m := m) hj hj2 MX.isUnl (by rw [hm]; rfl)
  obtain ⟨h1, h2, h3, h4, h5, -⟩ := h
  omega
theorem MuI.fast (hm : m j = .fresh) (h0 : L = 0 ∧ W = 0 ∧ S = 0 ∧ N = 0) : MuI (upd m j (.own .chk)) a n 1 0 0 0 tn th := by
  refine h.move hj hj2 hm ?_ (fun a1 a2 a3 a4 => by omega)
  intros; simp only [MX.isOwn, MX.isRel, MX.isUnl, MX.isQ, MX.isWN, MX.isWH, MX.isCT, Bool.toNat_true, Bool.toNat_false, true_and, and_true, true_or, or_true] at *; omega
theorem MuI.slow (hm : m j = .fresh) : MuI (upd m j (.cont false)) a n L W S N tn th := by
  refine h.move hj hj2 hm ?_ (fun a1 a2 a3 a4 => .inr ⟨a1, a2, a3, rfl, by simp⟩)
  intros; simp only [MX.isOwn, MX.isRel, MX.isUnl, MX.isQ, MX.isWN, MX.isWH, MX.isCT, Bool.toNat_true, Bool.toNat_false, true_and, and_true, true_or, or_true] at *; omega
theorem MuI.spin (hm : m j = .cont false) (h0 : L = 1 ∧ W = 0 ∧ S = 0) : MuI (upd m j (.cont true)) a n L 1 S N tn th := by
  refine h.move hj hj2 hm ?_ (fun a1 a2 a3 a4 => by omega)
  intros; simp only [MX.isOwn, MX.isRel, MX.isUnl, MX.isQ, MX.isWN, MX.isWH, MX.isCT, Bool.toNat_true, Bool.toNat_false, true_and, and_true, true_or, or_true] at *; omega
theorem MuI.take (aw : Bool) (hm : m j = .cont aw) (h0 : L = 0 ∧ S = 0) : MuI (upd m j (.own .chk)) a n 1 (W - aw.toNat) S N tn th := by
  have p := fun e : aw = true => cpos (m := m) hj hj2 MX.isCT (by rw [hm, e]; rfl)
  refine h.move hj hj2 hm ?_ (fun a1 a2 a3 a4 => by omega)
  cases aw <;> (intros; simp only [MX.isOwn, MX.isRel, MX.isUnl, MX.isQ, MX.isWN, MX.isWH, MX.isCT, Bool.toNat_true, Bool.toNat_false, true_and, and_true, true_or, or_true] at *; omega)
theorem MuI.queue (aw : Bool) (hm : m j = .cont aw) (h0 : L = 1 ∨ S = 1) : MuI (upd m j .queued) a n L (W - aw.toNat) S (N + 1) tn th := by
  refine h.move hj hj2 hm ?_ (fun a1 a2 a3 a4 => by omega)
  cases aw <;> (intros; simp only [MX.isOwn, MX.isRel, MX.isUnl, MX.isQ, MX.isWN, MX.isWH, MX.isCT, Bool.toNat_true, Bool.toNat_false, true_and, and_true, true_or, or_true] at *; omega)
theorem MuI.starve (hm : m j = .cont true) (h0 : L = 1) : MuI (upd m j .queued) a n L (W - 1) 1 (N + 1) tn th := by
  have p := cpos (m := m) hj hj2 MX.isCT (by rw [hm]; rfl)
  refine h.move hj hj2 hm ?_ (fun a1 a2 a3 a4 => by omega)
  intros; simp only [MX.isOwn, MX.isRel, MX.isUnl, MX.isQ, MX.isWN, MX.isWH, MX.isCT, Bool.toNat_true, Bool.toNat_false, true_and, and_true, true_or, or_true] at *; omega
theorem MuI.wakeN (hm : m j = .queued) (h0 : 1 ≤ tn) : MuI (upd m j (.woken false)) a n L W S N (tn - 1) th := by
  refine h.move hj hj2 hm ?_ (fun a1 a2 a3 a4 => .inr ⟨a1, a2, a3, rfl, by simp⟩)
  intros; simp only [MX.isOwn, MX.isRel, MX.isUnl, MX.isQ, MX.isWN, MX.isWH, MX.isCT, Bool.toNat_true, Bool.toNat_false, true_and, and_true, true_or, or_true] at *; omega
theorem MuI.wakeH (hm : m j = .queued) (h0 : 1 ≤ th) : MuI (upd m j (.woken true)) a n L W S N tn (th - 1) := by
  refine h.move hj hj2 hm ?_ (fun a1 a2 a3 a4 => .inr ⟨a1, a2, a3, rfl, by simp⟩)
  intros; simp only [MX.isOwn, MX.isRel, MX.isUnl, MX.isQ, MX.isWN, MX.isWH, MX.isCT, Bool.toNat_true, Bool.toNat_false, true_and, and_true, true_or, or_true] at *; omega
theorem MuI.again (hm : m j = .woken false) : MuI (upd m j (.cont true)) a n L W S N tn th := by
  refine h.move hj hj2 hm ?_ (fun a1 a2 a3 a4 => .inr ⟨a1, a2, a3, rfl, by simp⟩)
  intros; simp only [MX.isOwn, MX.isRel, MX.isUnl, MX.isQ, MX.isWN, MX.isWH, MX.isCT, Bool.toNat_true, Bool.toNat_false, true_and, and_true, true_or, or_true] at *; omega
theorem MuI.handed (hm : m j = .woken true) (S' : Nat) (hS : S' = 0 ∨ (S' = 1 ∧ 2 ≤ N)) : MuI (upd m j (.own .chk)) a n 1 0 S' (N - 1) tn th := by
  have p := cpos (m := m) hj hj2 MX.isWH (by rw [hm]; rfl)
  refine h.move hj hj2 hm ?_ (fun a1 a2 a3 a4 => by omega)
  intros; simp only [MX.isOwn, MX.isRel, MX.isUnl, MX.isQ, MX.isWN, MX.isWH, MX.isCT, Bool.toNat_true, Bool.toNat_false, true_and, and_true, true_or, or_true] at *; omega
theorem MuI.owns {o o' : OwnS} (hm : m j = .own o) : MuI (upd m j (.own o')) a n L W S N tn th := by
  refine h.move hj hj2 hm ?_ (fun a1 a2 a3 a4 => .inr ⟨a1, a2, a3, rfl, by simp⟩)
  intros; simp only [MX.isOwn, MX.isRel, MX.isUnl, MX.isQ, MX.isWN, MX.isWH, MX.isCT, Bool.toNat_true, Bool.toNat_false, true_and, and_true, true_or, or_true] at *; omega
theorem MuI.letGo {o : OwnS} (hm : m j = .own o) (h0 : W = 0 ∧ S = 0 ∧ N = 0) : MuI (upd m j .out) a n 0 W S N tn th := by
  refine h.move hj hj2 hm ?_ (fun a1 a2 a3 a4 => by omega)
  intros; simp only [MX.isOwn, MX.isRel, MX.isUnl, MX.isQ, MX.isWN, MX.isWH, MX.isCT, Bool.toNat_true, Bool.toNat_false, true_and, and_true, true_or, or_true] at *; omega
theorem MuI.letGoN {o : OwnS} (hm : m j = .own o) (h0 : S = 0) : MuI (upd m j (.ul (2 * W + 8 * N : Nat))) a n 0 W S N tn th := by
  refine h.move hj hj2 hm ?_ (fun _ a2 _ _ => .inl (by rw [a2]; simp))
  intros; simp only [MX.isOwn, MX.isRel, MX.isUnl, MX.isQ, MX.isWN, MX.isWH, MX.isCT, Bool.toNat_true, Bool.toNat_false, true_and, and_true, true_or, or_true] at *; omega
theorem MuI.letGoH {o : OwnS} (hm : m j = .own o) (h0 : S = 1) : MuI (upd m j .unl) a n 0 W S N tn th := by
  refine h.move hj hj2 hm ?_ (fun a1 a2 a3 a4 => by omega)
  intros; simp only [MX.isOwn, MX.isRel, MX.isUnl, MX.isQ, MX.isWN, MX.isWH, MX.isCT, Bool.toNat_true, Bool.toNat_false, true_and, and_true, true_or, or_true] at *; omega
theorem MuI.leave {old : Int} (hm : m j = .ul old) (h0 : ∀ N' : Nat, 1 ≤ N' → old ≠ (8 * N' : Nat)) : MuI (upd m j .out) a n L W S N tn th := by
  refine h.move hj hj2 hm ?_ (fun a1 a2 a3 a4 => .inr ⟨a1, a2, a3, rfl, fun e => h0 N a4 (by simpa using e)⟩)
  intros; simp only [MX.isOwn, MX.isRel, MX.isUnl, MX.isQ, MX.isWN, MX.isWH, MX.isCT, Bool.toNat_true, Bool.toNat_false, true_and, and_true, true_or, or_true] at *; omega
theorem MuI.grab {old : Int} (hm : m j = .ul old) (h0 : L = 0 ∧ W = 0 ∧ S = 0 ∧ 1 ≤ N) : MuI (upd m j .rel) a n L 1 S (N - 1) tn th := by
  refine h.move hj hj2 hm ?_ (fun a1 a2 a3 a4 => by omega)
  intros; simp only [MX.isOwn, MX.isRel, MX.isUnl, MX.isQ, MX.isWN, MX.isWH, MX.isCT, Bool.toNat_true, Bool.toNat_false, true_and, and_true, true_or, or_true] at *; omega
theorem MuI.look {old : Int} (hm : m j = .ul old) : MuI (upd m j (.ul (enc L W S N))) a n L W S N tn th := by
  refine h.move hj hj2 hm ?_ (fun a1 a2 a3 a4 => .inl (by subst a1 a2 a3; simp [enc]))
  intros; simp only [MX.isOwn, MX.isRel, MX.isUnl, MX.isQ, MX.isWN, MX.isWH, MX.isCT, Bool.toNat_true, Bool.toNat_false, true_and, and_true, true_or, or_true] at *; omega
theorem MuI.raiseN (hm : m j = .rel) : MuI (upd m j .out) a n L W S N (tn + 1) th := by
  refine h.move hj hj2 hm ?_ (fun a1 a2 a3 a4 => .inr ⟨a1, a2, a3, rfl, by simp⟩)
  intros; simp only [MX.isOwn, MX.isRel, MX.isUnl, MX.isQ, MX.isWN, MX.isWH, MX.isCT, Bool.toNat_true, Bool.toNat_false, true_and, and_true, true_or, or_true] at *; omega
theorem MuI.raiseH (hm : m j = .unl) : MuI (upd m j .out) a n L W S N tn (th + 1) := by
  have q := h.atUnl hj hj2 hm
  refine h.move hj hj2 hm ?_ (fun a1 a2 a3 a4 => .inr ⟨a1, a2, a3, rfl, by simp⟩)
  intros; simp only [MX.isOwn, MX.isRel, MX.isUnl, MX.isQ, MX.isWN, MX.isWH, MX.isCT, Bool.toNat_true, Bool.toNat_false, true_and, and_true, true_or, or_true] at *; omega
end
theorem MuI.noDead {m : Nat → MX} {a n L W S N : Nat} (h : MuI m a n L W S N 0 0) (hall : ∀ j, a ≤ j → j < a + n → m j = .queued ∨ m j = .fresh ∨ m j = .out) {j : Nat} (hj : a ≤ j) (hj2 : j < a + n) (hq : m j = .queued) : False := by
  have z : ∀ p : MX → Bool, p .queued = false → p .fresh = false → p .out = false → cnt p m a n = 0 := fun p p1 p2 p3 => by
    unfold cnt
    rw [List.countP_eq_zero]
    intro k hk
    have := List.mem_range.1 hk
    rcases hall (a + k) (by omega) (by omega) with e | e | e <;> rw [e] <;> simp [p1, p2, p3]
  have p := cnt_pos (m := m) (p := MX.isQ) hj hj2 (by rw [hq]; rfl)
  obtain ⟨h1, h2, h3, h4, h5, h6⟩ := h
  rw [z MX.isOwn rfl rfl rfl] at h1
  rw [z MX.isRel rfl rfl rfl, z MX.isWN rfl rfl rfl, z MX.isCT rfl rfl rfl] at h2
  rw [z MX.isRel rfl rfl rfl, z MX.isWH rfl rfl rfl] at h3
  rw [z MX.isUnl rfl rfl rfl, z MX.isWH rfl rfl rfl] at h5
  obtain ⟨i, i1, i2, i3⟩ := h6 (by omega) (by omega) (by omega) (by omega)
  rcases hall i i1 i2 with e | e | e <;> rw [e] at i3 <;> cases i3
end Go.Proofs.Ytpfpokjaeffbjab.Cc
namespace Go.Proofs.Ytpfpokjaeffbjab.Cc
open Go.Conc Go.ConcN
open Go.ConcR (KK wgBlock WgAt stA smA rd wr mk)
open Go.ConcM (OsLater)
set_option linter.unusedVariables false
inductive WG | idle | work | rel | deaf | d2 | d3 | d4 | lv | gone
  deriving DecidableEq
structure Wk where
  mx : MX
  zw : Bool
  rw : Bool
  syn : Bool
  wg : WG
  df : Nat
  keep : List (Nat × Obj)
def Wk.new : Wk := ⟨.fresh, false, false, false, .idle, 0, []⟩
inductive MW | solo | sp | ad | wt | rg | pas
  deriving DecidableEq
structure Scene where
  n0 : Nat
  n : Nat
  Gb : Nat
  Wg : Nat
  Zb : Nat
  Rb : Nat
  g0 : Value
  g1 : Value
  g2 : Value
  nn : Nat
  vals : Nat → Int
  zv : Nat → Value
  rv : Nat → Value
structure Gho where
  num : Nat
  sc : Option Scene
  wk : Nat → Wk
  mw : MW
  dm : Nat
  D : Nat
  L : Nat
  W : Nat
  S : Nat
  N : Nat
  tn : Nat
  th : Nat
  gs : Nat
  gm : Nat
  ex : Nat → Loc → Prop
  rd : Nat → Loc → Prop
  sh : Nat → Loc → Prop
  dead : Nat → Prop
structure Prm where
  P : Program
  tG : TypeId
  tZ : TypeId
  tR : TypeId
  tW : TypeId
  os0 : Os
  out0 : Array (Nat × ByteArray)
  Post : Value → World → Prop
def Gho.mm (γ : Gho) : Nat → MX := fun j => (γ.wk j).mx
def ca (b off : Nat) : Loc := .cell ⟨b, off, none⟩
def cntW (p : WG → Bool) (γ : Gho) (s : Scene) : Nat := (List.range s.n).countP fun k => p (γ.wk (s.n0 + k)).wg
def WG.cd : WG → Bool | .work | .rel | .deaf => true | _ => false
def WG.cr : WG → Nat
  | .idle => 9 | .work => 8 | .rel => 7 | .deaf => 6 | .d2 => 5 | .d3 => 4 | .d4 => 3 | .lv => 1 | .gone => 0
def psi (γ : Gho) (s : Scene) : Nat := ((List.range s.n).map fun k => (γ.wk (s.n0 + k)).wg.cr).sum
def phi (γ : Gho) (s : Scene) : Nat := pot γ.mm s.n0 s.n (γ.tn + γ.th)
def WgL (mw : MW) (c d2 d3 d4 st sm : Nat) : Prop :=
  match mw with
  | .solo => False
  | .sp | .wt => st = c * 4294967296 ∧ sm = 0 ∧ d2 = 0 ∧ d3 = 0 ∧ d4 = 0
  | .ad => st = (c + 1) * 4294967296 ∧ sm = 0 ∧ d2 = 0 ∧ d3 = 0 ∧ d4 = 0
  | .rg => (1 ≤ c ∧ st = c * 4294967296 + 1 ∧ sm = 0 ∧ d2 = 0 ∧ d3 = 0 ∧ d4 = 0) ∨ (c = 0 ∧ st = 1 ∧ sm = 0 ∧ d2 + d3 = 1 ∧ d4 = 0) ∨ (c = 0 ∧ st = 0 ∧ sm = 0 ∧ d2 = 0 ∧ d3 = 0 ∧ d4 = 1) ∨ (c = 0 ∧ st = 0 ∧ sm = 1 ∧ d2 = 0 ∧ d3 = 0 ∧ d4 = 0)
  | .pas => c = 0 ∧ st = 0 ∧ sm = 0 ∧ d2 = 0 ∧ d3 = 0 ∧ d4 = 0
def Mem (s : Scene) (γ : Gho) (g : Nat) : Prop := g = 0 ∨ (s.n0 ≤ g ∧ g < γ.num)
section
variable (q : Prm)
def GbAt (s : Scene) (γ : Gho) (w : World) : Prop := ∃ C : Array Value, w.heap[s.Gb]? = some (.cells C q.tG) ∧ C.size = 16 ∧ C[0]? = some s.g0 ∧ C[1]? = some s.g1 ∧ C[2]? = some s.g2 ∧ C[3]? = some (.int .u32 γ.D) ∧
  C[4]? = some (.int .i32 (enc γ.L γ.W γ.S γ.N)) ∧ C[5]? = some (.int .u32 ((γ.tn + γ.th : Nat) : Int)) ∧ (∀ k, 6 ≤ k → k < 16 → ∃ x, C[k]? = some (.int .u64 x)) ∧ (γ.D = 1 → ∀ id, 1 ≤ id → id ≤ s.nn → C[6 + id]? = some (.int .u64 (s.vals id)))
def RowIs (b n : Nat) (t : TypeId) (f : Nat → Bool) (v : Nat → Value) (w : World) : Prop := ∃ Z : Array Value, w.heap[b]? = some (.cells Z t) ∧ Z.size = n ∧ (∀ (k : Nat) (x : Value), Z[k]? = some x → (∀ a, x ≠ Value.agg a) ∧ ∀ a, x ≠ Value.tuple a) ∧ ∀ k, k < n → f k = true → Z[k]? = some (v k)
structure SceneC (s : Scene) (st : St Gho) : Prop where
  n0 : 0 < s.n0 ∧ s.n0 ≤ st.γ.num ∧ st.γ.num ≤ s.n0 + s.n ∧ s.n ≤ 9
  gb : GbAt q s st.γ st.w
  wgb : WgAt q.tW s.Wg st.w st.γ.gs st.γ.gm
  zb : RowIs s.Zb s.n q.tZ (fun k => (st.γ.wk (s.n0 + k)).zw) s.zv st.w
  rb : RowIs s.Rb s.n q.tR (fun k => (st.γ.wk (s.n0 + k)).rw) s.rv st.w
  ne : s.Gb ≠ s.Wg ∧ s.Gb ≠ s.Zb ∧ s.Gb ≠ s.Rb ∧ s.Wg ≠ s.Zb ∧ s.Wg ≠ s.Rb ∧ s.Zb ≠ s.Rb
  mu : MuI st.γ.mm s.n0 s.n st.γ.L st.γ.W st.γ.S st.γ.N st.γ.tn st.γ.th
  D1 : st.γ.D ≤ 1
  work : ∀ j, (st.γ.wk j).mx = .own .work → st.γ.D = 0
  dn : ∀ j, (st.γ.wk j).mx = .own .dn → st.γ.D = 1
  syn : ∀ j, s.n0 ≤ j → (st.γ.wk j).syn = true → st.γ.D = 1
  new : ∀ j, st.γ.num ≤ j → st.γ.wk j = .new
  on : ∀ j, s.n0 ≤ j → j < st.γ.num → (st.γ.wk j).wg ≠ .idle
  fin : ∀ j, s.n0 ≤ j → (st.γ.wk j).wg ≠ .idle → (st.γ.wk j).wg ≠ .work → (st.γ.wk j).zw = true ∧ (st.γ.wk j).rw = true ∧ ((st.γ.wk j).mx = .fresh ∨ (st.γ.wk j).mx = .out)
  all : st.γ.mw = .wt ∨ st.γ.mw = .rg ∨ st.γ.mw = .pas → st.γ.num = s.n0 + s.n
  wgl : WgL st.γ.mw (cntW WG.cd st.γ s) (cntW (· == .d2) st.γ s) (cntW (· == .d3) st.γ s) (cntW (· == .d4) st.γ s) st.γ.gs st.γ.gm
end
structure SceneP (s : Scene) (γ : Gho) : Prop where
  spec : ∀ g b, (b = s.Gb ∨ b = s.Wg ∨ b = s.Zb ∨ b = s.Rb) → (∃ off, ¬ γ.ex g (ca b off)) ∧ ∃ off, ¬ γ.rd g (ca b off)
  exZ : ∀ k, k < s.n → s.n0 + k < γ.num → (γ.wk (s.n0 + k)).wg = .work → γ.ex (s.n0 + k) (ca s.Zb k) ∧ γ.ex (s.n0 + k) (ca s.Rb k)
  exM : ∀ k, k < s.n → γ.num ≤ s.n0 + k → γ.ex 0 (ca s.Zb k) ∧ γ.ex 0 (ca s.Rb k)
  rdG : ∀ g, Mem s γ g → ∀ off, off < 3 → γ.rd g (ca s.Gb off)
  shG : ∀ g, Mem s γ g → (∀ off, 3 ≤ off → off < 6 → γ.sh g (ca s.Gb off)) ∧ ∀ off, off < 2 → γ.sh g (ca s.Wg off)
  exS : ∀ j, (γ.wk j).mx = .own .work → ∀ off, 6 ≤ off → off < 16 → γ.ex j (ca s.Gb off)
  rdS : ∀ j, s.n0 ≤ j → (γ.wk j).syn = true → ∀ off, 6 ≤ off → off < 16 → γ.rd j (ca s.Gb off)
  noS : (∀ j, (γ.wk j).mx ≠ .own .work) → ∀ g off, 6 ≤ off → off < 16 → ¬ γ.ex g (ca s.Gb off) ∧ ¬ γ.sh g (ca s.Gb off) ∧ (γ.D = 0 → ¬ γ.rd g (ca s.Gb off))
structure SceneT (s : Scene) (st : St Gho) : Prop where
  sh0 : st.γ.D = 0 → (∀ j, (st.γ.wk j).mx ≠ .own .work) → ∀ g, Mem s st.γ g → ∀ off, 6 ≤ off → off < 16 → Perm st.t g (ca s.Gb off)
  sh1 : st.γ.D = 1 → ∃ p, LastWrite st.t ⟨s.Gb, 3, none⟩ p ∧ st.t.heard p ∧ ∀ off, 6 ≤ off → off < 16 → ∀ i a, touchAt st.t i = some a → a.loc = ca s.Gb off → a.write = true → Before st.t i p
  rel : ∀ j, s.n0 ≤ j → j < st.γ.num → (st.γ.wk j).wg ≠ .work → ∃ r, RelBy (stA s.Wg) st.t j r ∧ ∀ i a, r < i → st.t.g? i = some j → touchAt st.t i = some a → lblk a.loc = some s.Wg
section
variable (q : Prm)
structure SceneI (s : Scene) (st : St Gho) : Prop where
  c : SceneC q s st
  p : SceneP s st.γ
  t : SceneT s st
def Gho.old (γ : Gho) : Nat := match γ.sc with | some s => s.n0 | none => γ.num
structure Base (st : St Gho) : Prop where
  pos : 0 < st.γ.num
  tr : TrI st.t st.γ.num st.w.heap.size st.γ.ex st.γ.rd st.γ.sh
  gsz : q.P.globals.size ≤ st.w.heap.size
  dfm : Deaf st.t 0 = st.γ.dm
  dfw : ∀ j, 0 < j → j < st.γ.num → Deaf st.t j = (st.γ.wk j).df
  gone : ∀ j, (st.γ.wk j).wg = .gone → j ≠ 0 ∧ j < st.γ.num ∧ (st.γ.wk j).df = 0
  os : OsLater q.os0 st.w.os
  out : st.w.output = q.out0
  old : ∀ j, 0 < j → j < st.γ.old → (st.γ.wk j).wg = .lv ∨ (st.γ.wk j).wg = .gone
  dead : ∀ b, st.γ.dead b → b < st.w.heap.size
  know : ∀ i a, touchAt st.t i = some a → a.loc.isMemory = true → (∃ b, lblk a.loc = some b ∧ st.γ.dead b) ∨ Knows st.t 0 i ∨ ∃ g, st.t.g? i = some g ∧ st.γ.old ≤ g
  ho : ∀ i g, st.t.g? i = some g → g ≠ 0 → g < st.γ.old → st.t.counts i → ∃ j, st.t.g? j = some 0 ∧ HappensBefore st.t i j
  pool : ∀ g l, st.γ.ex g l ∨ st.γ.rd g l ∨ st.γ.sh g l → g < st.γ.num
  omx : ∀ j, j < st.γ.old → (st.γ.wk j).mx = .fresh ∨ (st.γ.wk j).mx = .out
  nw : ∀ j, st.γ.num ≤ j → st.γ.wk j = .new
  said : ∀ i a, touchAt st.t i = some a → a.kind = .said → st.t.g? i = some 0
  dsc : ∀ s, st.γ.sc = some s → ¬ st.γ.dead s.Gb ∧ ¬ st.γ.dead s.Zb ∧ ¬ st.γ.dead s.Rb
structure Inv (st : St Gho) : Prop where
  base : Base q st
  solo : st.γ.sc = none ↔ st.γ.mw = .solo
  scene : ∀ s, st.γ.sc = some s → SceneI q s st
def Live (i : Nat) (st : St Gho) : Prop := i = 0 ∨ ((st.γ.wk i).wg ≠ .lv ∧ (st.γ.wk i).wg ≠ .gone)
structure Rl (i : Nat) (st st₁ : St Gho) : Prop where
  size : st.w.heap.size ≤ st₁.w.heap.size
  ex : Live i st → ∀ l, st.γ.ex i l → st₁.γ.ex i l
  rd : Live i st → ∀ l, st.γ.rd i l → st₁.γ.rd i l
  blk : Live i st → ∀ b, (∀ off, st.γ.ex i (ca b off)) ∨ (∀ off, st.γ.rd i (ca b off)) → st₁.w.heap[b]? = st.w.heap[b]?
  me : i ≠ 0 → st₁.γ.wk i = st.γ.wk i
  main : i = 0 → st₁.γ.mw = st.γ.mw ∧ st₁.γ.dm = st.γ.dm ∧ st₁.γ.num = st.γ.num ∧ (∀ b, st₁.γ.dead b ↔ st.γ.dead b)
  sc : i = 0 ∨ ((st.γ.wk i).wg ≠ .lv ∧ (st.γ.wk i).wg ≠ .gone ∧ (st.γ.wk i).wg ≠ .idle) → st₁.γ.sc = st.γ.sc
  phi : i ≠ 0 → (st.γ.wk i).wg ≠ .lv → (st.γ.wk i).wg ≠ .gone ∧ (st.γ.wk i).wg ≠ .idle → ∀ s, st.γ.sc = some s → phi st₁.γ s ≤ phi st.γ s ∧ (phi st₁.γ s = phi st.γ s → st₁.γ.L = st.γ.L ∧ st₁.γ.W = st.γ.W ∧ st₁.γ.S = st.γ.S ∧ st₁.γ.N = st.γ.N) ∧ (st.γ.D = 1 → st₁.γ.D = 1)
  psi : i = 0 → ∀ s, st.γ.sc = some s → psi st₁.γ s ≤ psi st.γ s ∧ (psi st₁.γ s = psi st.γ s → st₁.γ.gs = st.γ.gs)
  work : i ≠ 0 → (st.γ.wk i).wg ≠ .lv → (st.γ.wk i).wg ≠ .gone ∧ (st.γ.wk i).wg ≠ .idle → (st.γ.wk i).mx = .own .work → ∀ s, st.γ.sc = some s → ∀ off, 6 ≤ off → off < 16 → st₁.w.cell? ⟨s.Gb, off, none⟩ = st.w.cell? ⟨s.Gb, off, none⟩
  wdone : i ≠ 0 → (st.γ.wk i).mx = .own .work → st₁.γ.D = st.γ.D
  hand : i ≠ 0 → (st.γ.wk i).mx = .woken true → (st.γ.wk i).wg = .work → st.γ.N ≤ st₁.γ.N
  num : st.γ.num ≤ st₁.γ.num
def Wt (i : Nat) (st : St Gho) : Prop := st.γ.sc ≠ none ∧ ((i = 0 ∧ st.γ.mw = .rg ∧ st.γ.gm = 0) ∨ (i ≠ 0 ∧ (st.γ.wk i).mx = .queued ∧ st.γ.tn + st.γ.th = 0 ∧ (st.γ.wk i).wg = .work))
def Lvs (i : Nat) (st : St Gho) : Prop := i ≠ 0 ∧ ((st.γ.wk i).wg = .lv ∨ (st.γ.wk i).wg = .gone)
def cfg : Cfg Gho where
  P := q.P
  Inv := Inv q
  Rel := Rl
  Waits := Wt
  Gone := fun i st => i ≠ 0 ∧ (st.γ.wk i).wg = .gone
  Lv := Lvs
  num := fun st => st.γ.num
  Post := q.Post
end
section
variable {q : Prm}
theorem Rl.refl (i : Nat) (st : St Gho) : Rl i st st :=
  ⟨Nat.le_refl _, fun _ _ h => h, fun _ _ h => h, fun _ _ _ => rfl, fun _ => rfl, fun _ => ⟨rfl, rfl, rfl, fun _ => .rfl⟩, fun _ => rfl, fun _ _ _ _ _ => ⟨Nat.le_refl _, fun _ => ⟨rfl, rfl, rfl, rfl⟩, fun h => h⟩, fun _ _ _ => ⟨Nat.le_refl _, fun _ => rfl⟩, fun _ _ _ _ _ _ _ _ _ => rfl, fun _ _ => rfl, fun _ _ _ => Nat.le_refl _, Nat.le_refl _⟩
theorem Rl.trans {i : Nat} {a b c : St Gho} (h : Rl i a b) (k : Rl i b c) : Rl i a c := by
  have lv : Live i a → Live i b := fun hl => by
    by_cases h0 : i = 0
    · exact .inl h0
    · rcases hl with hl | hl
      · exact absurd hl h0
      · right; rw [h.me h0]; exact hl
  refine ⟨Nat.le_trans h.size k.size, fun hl l x => k.ex (lv hl) l (h.ex hl l x), fun hl l x => k.rd (lv hl) l (h.rd hl l x), fun hl x hx => ?_, fun hi => (k.me hi).trans (h.me hi), fun hi => ?_, fun hi => ?_, fun hi h1 h2 s hs => ?_, fun hi s hs => ?_, fun hi l1 l2 hw s hs off h1 h2 => ?_, fun hi hw => ?_, fun hi hw hg => ?_, Nat.le_trans h.num k.num⟩
  · refine (k.blk (lv hl) x ?_).trans (h.blk hl x hx)
    exact hx.imp (fun y off => h.ex hl _ (y off)) fun y off => h.rd hl _ (y off)
  · obtain ⟨h1, h2, h3, h4⟩ := h.main hi
    obtain ⟨k1, k2, k3, k4⟩ := k.main hi
    exact ⟨k1.trans h1, k2.trans h2, k3.trans h3, fun b => (k4 b).trans (h4 b)⟩
  · refine (k.sc ?_).trans (h.sc hi)
    rcases hi with hi | hi
    · exact .inl hi
    · by_cases h0 : i = 0
      · exact .inl h0
      · rw [h.me h0]; exact .inr hi
  · have e := h.me hi
    have es := h.sc (.inr ⟨h1, h2⟩)
    obtain ⟨p1, p2, p3⟩ := h.phi hi h1 h2 s hs
    obtain ⟨q1, q2, q3⟩ := k.phi hi (by rw [e]; exact h1) (by rw [e]; exact h2) s (es.trans hs)
    refine ⟨Nat.le_trans q1 p1, fun ee => ?_, fun hD => q3 (p3 hD)⟩
    obtain ⟨a1, a2, a3, a4⟩ := p2 (by omega)
    obtain ⟨b1, b2, b3, b4⟩ := q2 (by omega)
    exact ⟨b1.trans a1, b2.trans a2, b3.trans a3, b4.trans a4⟩
  · have es := h.sc (.inl hi)
    obtain ⟨p1, p2⟩ := h.psi hi s hs
    obtain ⟨q1, q2⟩ := k.psi hi s (es.trans hs)
    exact ⟨Nat.le_trans q1 p1, fun ee => (q2 (by omega)).trans (p2 (by omega))⟩
  · have e := h.me hi
    have es := h.sc (.inr ⟨l1, l2⟩)
    exact (k.work hi (by rw [e]; exact l1) (by rw [e]; exact l2) (by rw [e]; exact hw) s (es.trans hs) off h1 h2).trans (h.work hi l1 l2 hw s hs off h1 h2)
  · exact (k.wdone hi (by rw [h.me hi]; exact hw)).trans (h.wdone hi hw)
  · exact Nat.le_trans (h.hand hi hw hg) (k.hand hi (by rw [h.me hi]; exact hw) (by rw [h.me hi]; exact hg))
theorem Inv.at {st : St Gho} (h : Inv q st) (d : Nat) : Inv q (st.at d) := by
  obtain ⟨b, hs, sc⟩ := h
  refine ⟨⟨b.pos, b.tr, b.gsz, b.dfm, b.dfw, b.gone, b.os, b.out, b.old, b.dead, b.know, b.ho, b.pool, b.omx, b.nw, b.said, b.dsc⟩, hs, fun s e => ?_⟩
  obtain ⟨x, y, z⟩ := sc s e
  exact ⟨⟨x.n0, x.gb, x.wgb, x.zb, x.rb, x.ne, x.mu, x.D1, x.work, x.dn, x.syn, x.new, x.on, x.fin, x.all, x.wgl⟩, y, ⟨z.sh0, z.sh1, z.rel⟩⟩
theorem Rl.at (i : Nat) (st : St Gho) (d : Nat) : Rl i st (st.at d) :=
  ⟨Nat.le_refl _, fun _ _ h => h, fun _ _ h => h, fun _ _ _ => rfl, fun _ => rfl, fun _ => ⟨rfl, rfl, rfl, fun _ => .rfl⟩, fun _ => rfl, fun _ _ _ _ _ => ⟨Nat.le_refl _, fun _ => ⟨rfl, rfl, rfl, rfl⟩, fun h => h⟩, fun _ _ _ => ⟨Nat.le_refl _, fun _ => rfl⟩, fun _ _ _ _ _ _ _ _ _ => rfl, fun _ _ => rfl, fun _ _ _ => Nat.le_refl _, Nat.le_refl _⟩
theorem cntW_pos {p : WG → Bool} {γ : Gho} {s : Scene} {j : Nat} (h : s.n0 ≤ j) (h2 : j < s.n0 + s.n) (hp : p (γ.wk j).wg = true) : 1 ≤ cntW p γ s := by
  unfold cntW
  refine List.countP_pos_iff.2 ⟨j - s.n0, List.mem_range.2 (by omega), ?_⟩
  rw [show s.n0 + (j - s.n0) = j by omega]; exact hp
theorem cntW_zero {p : WG → Bool} {γ : Gho} {s : Scene} (h : ∀ j, s.n0 ≤ j → j < s.n0 + s.n → p (γ.wk j).wg = false) : cntW p γ s = 0 := by
  unfold cntW
  rw [List.countP_eq_zero]
  intro k hk
  have := List.mem_range.1 hk
  rw [h (s.n0 + k) (by omega) (by omega)]; simp
theorem noDead {st : St Gho} (h : Inv q st) (hall : ∀ i, i < st.γ.num → Wt i st ∨ (i ≠ 0 ∧ (st.γ.wk i).wg = .gone)) : False := by
  obtain ⟨s, hs⟩ : ∃ s, st.γ.sc = some s := by
    rcases hall 0 h.base.pos with h0 | h0
    · cases e : st.γ.sc with
      | none => exact absurd e h0.1
      | some s => exact ⟨s, rfl⟩
    · exact absurd rfl h0.1
  have x := (h.scene s hs).c
  have hrg : st.γ.mw = .rg ∧ st.γ.gm = 0 := by
    rcases hall 0 h.base.pos with ⟨_, ⟨_, h1, h2⟩ | ⟨h1, _⟩⟩ | h0
    · exact ⟨h1, h2⟩
    · exact absurd rfl h1
    · exact absurd rfl h0.1
  have hnum := x.all (.inr (.inl hrg.1))
  have each : ∀ j, s.n0 ≤ j → j < s.n0 + s.n → ((st.γ.wk j).mx = .queued ∧ st.γ.tn + st.γ.th = 0 ∧ (st.γ.wk j).wg = .work) ∨ (st.γ.wk j).wg = .gone := fun j h1 h2 => by
    rcases hall j (by omega) with ⟨_, ⟨h3, _⟩ | ⟨_, h3⟩⟩ | h3
    · have := x.n0.1; omega
    · exact .inl h3
    · exact .inr h3.2
  by_cases hq : ∃ j, s.n0 ≤ j ∧ j < s.n0 + s.n ∧ (st.γ.wk j).mx = .queued ∧ st.γ.tn + st.γ.th = 0 ∧ (st.γ.wk j).wg = .work
  · obtain ⟨j, h1, h2, h3, h4, h5⟩ := hq
    have m := x.mu
    have e1 : st.γ.tn = 0 := by omega
    have e2 : st.γ.th = 0 := by omega
    rw [e1, e2] at m
    refine m.noDead (fun i i1 i2 => ?_) h1 h2 h3
    rcases each i i1 i2 with h | h
    · exact .inl h.1
    · have := (x.fin i i1 (by rw [h]; simp) (by rw [h]; simp)).2.2
      exact .inr this
  · have hg : ∀ j, s.n0 ≤ j → j < s.n0 + s.n → (st.γ.wk j).wg = .gone := fun j h1 h2 => (each j h1 h2).resolve_left fun h => hq ⟨j, h1, h2, h⟩
    have w := x.wgl
    rw [hrg.1] at w
    rw [cntW_zero (p := WG.cd) fun j a b => by rw [hg j a b]; rfl, cntW_zero (p := (· == .d2)) fun j a b => by rw [hg j a b]; rfl, cntW_zero (p := (· == .d3)) fun j a b => by rw [hg j a b]; rfl, cntW_zero (p := (· == .d4)) fun j a b => by rw [hg j a b]; rfl] at w
    simp only [WgL] at w
    have := hrg.2
    omega
theorem cfg_ok : (cfg q).Ok where
  refl := Rl.refl
  trans := fun i a b c h k => h.trans k
  gone := fun i a b h k => ⟨k.1, by rw [h.me k.1]; exact k.2⟩
  goneDeaf := fun i st hi hlt h => by
    rw [hi.base.dfw i (by have := h.1; omega) hlt]
    exact (hi.base.gone i h.2).2.2
  lvWaits := fun i st h k => by
    rcases h.2 with ⟨h1, _⟩ | ⟨_, _, _, h1⟩
    · exact k.1 h1
    · rcases k.2 with k | k <;> rw [h1] at k <;> cases k
  drawInv := fun st d h => h.at d
  drawRel := Rl.at
  drawNum := fun _ _ => rfl
  drawWaits := fun _ _ _ h => h
  pos := fun st h => h.base.pos
  noDead := fun st h k => Cc.noDead h fun i hi => (k i hi).imp id fun y => ⟨y.1, y.2.2⟩
end
end Go.Proofs.Ytpfpokjaeffbjab.Cc
