/- Values of a polynomial at some of the places 1 to 9, as many as it has coefficients, give its value at 0: for each choice of places the weights are reckoned by the kernel. -/
import Derived.Test.YtpfpokjaeffbjabOrder
import Derived.Test.YtpfpokjaeffbjabCombinesPlain
import Derived.Test.YtpfpokjaeffbjabDealPlain
namespace Go.Proofs.Ytpfpokjaeffbjab.Lag
open Go.Proofs.Ytpfpokjaeffbjab.Pl Go.Proofs.Ytpfpokjaeffbjab.Dpl Go.Proofs.Ytpfpokjaeffbjab.Ord Go.Proofs.Ytpfpokjaeffbjab.Cpl

/-- The inverses of 1 to 8, modulo Q. -/
def invP : Nat → Nat
  | 1 => 1
  | 2 => 536870895
  | 3 => 357913930
  | 4 => 805306342
  | 5 => 214748358
  | 6 => 178956965
  | 7 => 920350105
  | 8 => 402653171
  | _ => 0
def invD (y x : Nat) : Nat := if x < y then invP (y - x) else 1073741789 - invP (x - y)
def q2Bits : List Bool := [true, true, false, true, true, false, true, true, true, true, true, true, true, true, true, true, true, true, true, true, true, true, true, true, true, true, true, true, true, true]
def invRow (x : Nat) : Nat → Bool
  | 0 => true
  | y + 1 => invRow x y && (y + 1 == x || decide (fq ((((y + 1 : Nat) : Int) + 1073741789 - (x : Int)) % 1073741789) 1073741789 q2Bits = (invD (y + 1) x : Nat)))
def invAll : Nat → Bool
  | 0 => true
  | x + 1 => invAll x && invRow (x + 1) 9
theorem inv_all : invAll 9 = true := by kernel_rfl
theorem invAll_spec {n x : Nat} (h : invAll n = true) (h1 : 1 ≤ x) (h2 : x ≤ n) : invRow x 9 = true := by
  induction n with
  | zero => omega
  | succ n ih =>
    rw [invAll, Bool.and_eq_true] at h
    by_cases e : x = n + 1
    · rw [e]; exact h.2
    · exact ih h.1 (by omega)
theorem invRow_spec {n x y : Nat} (h : invRow x n = true) (h1 : 1 ≤ y) (h2 : y ≤ n) (hne : y ≠ x) : fq (((y : Int) + 1073741789 - (x : Int)) % 1073741789) 1073741789 q2Bits = (invD y x : Nat) := by
  induction n with
  | zero => omega
  | succ n ih =>
    rw [invRow, Bool.and_eq_true, Bool.or_eq_true, decide_eq_true_iff, beq_iff_eq] at h
    by_cases e : y = n + 1
    · subst e
      exact h.2.resolve_left hne
    · exact ih h.1 (by omega)
theorem val_q2 : val q2Bits = qm2 := by decide
theorem pw_inv {x y : Nat} (hx : 1 ≤ x ∧ x ≤ 9) (hy : 1 ≤ y ∧ y ≤ 9) (hne : y ≠ x) : pw (((y : Int) + 1073741789 - (x : Int)) % 1073741789) qm2 1073741789 = (invD y x : Nat) := by
  rw [← val_q2, ← fq_eq _ (by omega)]
  exact invRow_spec (invAll_spec inv_all hx.1 hx.2) hy.1 hy.2 hne

/-- A weight, by the table. -/
def wStep (x acc y : Nat) : Nat := if Nat.beq y x then acc else acc * y % 1073741789 * invD y x % 1073741789
def wT (xs : List Nat) (x : Nat) : Nat := xs.foldl (wStep x) 1
def sumN : List Nat → Nat
  | [] => 0
  | v :: l => v + sumN l
def next : List Nat → List Nat → List Nat
  | x :: xs, v :: vs => v * x % 1073741789 :: next xs vs
  | _, _ => []
def moms (xs : List Nat) : Nat → List Nat → Bool
  | 0, _ => true
  | f + 1, vs => Nat.beq (sumN vs % 1073741789) 0 && moms xs f (next xs vs)
def chk (xs : List Nat) : Bool := match xs with
  | [] => true
  | _ :: r => Nat.beq (sumN (xs.map (wT xs)) % 1073741789) 1 && moms xs r.length (next xs (xs.map (wT xs)))
/-- Every choice out of 1 to n, ahead of acc. -/
def allSel : Nat → List Nat → Bool
  | 0, acc => chk acc
  | n + 1, acc => allSel n acc && allSel n ((n + 1) :: acc)
theorem all_sel : allSel 9 [] = true := by kernel_rfl
/-- The chosen ones of 1 to n. -/
def sel (c : Nat → Bool) : Nat → List Nat
  | 0 => []
  | n + 1 => if c n then sel c n ++ [n + 1] else sel c n
theorem allSel_spec (c : Nat → Bool) (n : Nat) : ∀ acc, allSel n acc = true → chk (sel c n ++ acc) = true := by
  induction n with
  | zero => intro acc h; exact h
  | succ n ih =>
    intro acc h
    rw [allSel, Bool.and_eq_true] at h
    rw [sel]
    split
    · rw [List.append_assoc]; exact ih _ h.2
    · exact ih _ h.1
theorem allSel_le {n m : Nat} (h : n ≤ m) : ∀ acc, allSel m acc = true → allSel n acc = true := by
  induction m with
  | zero => obtain rfl : n = 0 := by omega
            exact fun _ h => h
  | succ m ih =>
    intro acc ha
    by_cases e : n = m + 1
    · rw [e]; exact ha
    · rw [allSel, Bool.and_eq_true] at ha
      exact ih (by omega) acc ha.1
theorem sel_chk (c : Nat → Bool) {n : Nat} (h : n ≤ 9) : chk (sel c n) = true := by
  have := allSel_spec c n [] (allSel_le h [] all_sel)
  rwa [List.append_nil] at this
theorem sel_mem (c : Nat → Bool) (n : Nat) : ∀ x ∈ sel c n, 1 ≤ x ∧ x ≤ n := by
  induction n with
  | zero => intro x hx; cases hx
  | succ n ih =>
    intro x hx
    rw [sel] at hx
    split at hx
    · rcases List.mem_append.1 hx with h | h
      · have := ih x h; omega
      · have := List.mem_singleton.1 h; omega
    · have := ih x hx; omega
theorem sel_rise (c : Nat → Bool) (n : Nat) : (sel c n).Pairwise (· < ·) := by
  induction n with
  | zero => exact .nil
  | succ n ih =>
    rw [sel]
    split
    · refine List.pairwise_append.2 ⟨ih, List.pairwise_singleton _ _, fun a ha b hb => ?_⟩
      have := sel_mem c n a ha
      have := List.mem_singleton.1 hb
      omega
    · exact ih
/-- A sum of n numbers. -/
def tot (F : Nat → Int) : Nat → Int
  | 0 => 0
  | n + 1 => tot F n + F n
theorem tot_congr {F G : Nat → Int} {n : Nat} (h : ∀ k, k < n → F k % 1073741789 = G k % 1073741789) : tot F n % 1073741789 = tot G n % 1073741789 := by
  induction n with
  | zero => rfl
  | succ n ih => rw [tot, tot, Int.add_emod, ih (fun k hk => h k (by omega)), h n (by omega), ← Int.add_emod]
theorem tot_add (F G : Nat → Int) (n : Nat) : tot (fun k => F k + G k) n = tot F n + tot G n := by
  induction n with
  | zero => rfl
  | succ n ih => rw [tot, ih, tot, tot]; omega
theorem tot_mul (a : Int) (F : Nat → Int) (n : Nat) : tot (fun k => a * F k) n = a * tot F n := by
  induction n with
  | zero => rw [tot, tot, Int.mul_zero]
  | succ n ih => rw [tot, ih, tot, Int.mul_add]
theorem tot_zero (n : Nat) : tot (fun _ => 0) n = 0 := by
  induction n with
  | zero => rfl
  | succ n ih => rw [tot, ih]; rfl
theorem tot_left (F : Nat → Int) (n : Nat) : tot F (n + 1) = F 0 + tot (fun k => F (k + 1)) n := by
  induction n with
  | zero => simp [tot]
  | succ n ih => rw [tot, ih, tot]; omega
theorem sumN_tot (l : List Nat) : ∀ F : Nat → Int, (∀ k, k < l.length → ((l.getD k 0 : Nat) : Int) % 1073741789 = F k % 1073741789) → ((sumN l : Nat) : Int) % 1073741789 = tot F l.length % 1073741789 := by
  induction l with
  | nil => intro F _; rfl
  | cons v l ih =>
    intro F h
    rw [List.length_cons, tot_left, sumN, Int.natCast_add, Int.add_emod, Int.add_emod (F 0)]
    have h0 := h 0 (by simp)
    have h1 := ih (fun k => F (k + 1)) (fun k hk => by have := h (k + 1) (by simpa using hk); simpa using this)
    rw [h1]
    have h0' : (v : Int) % 1073741789 = F 0 % 1073741789 := by simpa using h0
    rw [h0']
theorem next_length : ∀ xs vs : List Nat, xs.length = vs.length → (next xs vs).length = xs.length
  | [], [], _ => rfl
  | x :: xs, v :: vs, h => by
    show (next xs vs).length + 1 = _
    rw [next_length xs vs (by simpa using h)]
    rfl
theorem next_at : ∀ (xs vs : List Nat) (k : Nat), xs.length = vs.length → k < xs.length → (next xs vs).getD k 0 = vs.getD k 0 * xs.getD k 0 % 1073741789
  | [], [], k, _, hk => absurd hk (by simp)
  | x :: xs, v :: vs, 0, _, _ => rfl
  | x :: xs, v :: vs, k + 1, h, hk => by
    show (next xs vs).getD k 0 = _
    rw [next_at xs vs k (by simpa using h) (by simpa using hk)]
    rfl
def nx (xs ws : List Nat) : Nat → List Nat
  | 0 => ws
  | m + 1 => next xs (nx xs ws m)
theorem nx_next (xs ws : List Nat) (m : Nat) : nx xs (next xs ws) m = nx xs ws (m + 1) := by
  induction m with
  | zero => rfl
  | succ m ih => rw [nx, ih]; rfl
theorem nx_length {xs ws : List Nat} (h : xs.length = ws.length) (m : Nat) : (nx xs ws m).length = xs.length := by
  induction m with
  | zero => exact h.symm
  | succ m ih => rw [nx, next_length _ _ ih.symm]
theorem moms_spec (xs : List Nat) (f : Nat) : ∀ vs, moms xs f vs = true → ∀ m, m < f → sumN (nx xs vs m) % 1073741789 = 0 := by
  induction f with
  | zero => intro vs _ m hm; omega
  | succ f ih =>
    intro vs h m hm
    rw [moms, Bool.and_eq_true] at h
    cases m with
    | zero => exact Nat.eq_of_beq_eq_true h.1
    | succ m =>
      rw [← nx_next]
      exact ih _ h.2 m (by omega)
theorem chk_spec {xs : List Nat} (h : chk xs = true) (m : Nat) (hm : m < xs.length) : sumN (nx xs (xs.map (wT xs)) m) % 1073741789 = if m = 0 then 1 else 0 := by
  cases xs with
  | nil => simp at hm
  | cons x r =>
    unfold chk at h
    rw [Bool.and_eq_true] at h
    cases m with
    | zero => rw [if_pos rfl]; exact Nat.eq_of_beq_eq_true h.1
    | succ m =>
      rw [if_neg (by omega), ← nx_next]
      exact moms_spec _ _ _ h.2 m (by simpa using hm)
theorem nx_at {xs ws : List Nat} (h : xs.length = ws.length) (m k : Nat) (hk : k < xs.length) : (((nx xs ws m).getD k 0 : Nat) : Int) % 1073741789 = ((xs.getD k 0 : Nat) : Int) ^ m * ((ws.getD k 0 : Nat) : Int) % 1073741789 := by
  induction m with
  | zero => rw [Int.pow_zero, Int.one_mul]; rfl
  | succ m ih =>
    have e : ((((nx xs ws m).getD k 0 * xs.getD k 0 % 1073741789 : Nat)) : Int) = (((nx xs ws m).getD k 0 : Nat) : Int) * ((xs.getD k 0 : Nat) : Int) % 1073741789 := by
      rw [Int.natCast_emod, Int.natCast_mul]; rfl
    rw [nx, next_at _ _ _ (nx_length h m).symm hk, e, Int.emod_emod_of_dvd _ (Int.dvd_refl _), ← emod_mul_left, ih, emod_mul_left, Int.pow_succ]
    congr 1
    rw [Int.mul_right_comm]
/-- The places as the program has them. -/
def ints (xs : List Nat) : List Int := xs.map Int.ofNat
theorem ints_length (xs : List Nat) : (ints xs).length = xs.length := by simp [ints]
theorem ints_at (xs : List Nat) (k : Nat) : (ints xs).getD k 0 = ((xs.getD k 0 : Nat) : Int) := by
  unfold ints
  rw [List.getD_eq_getElem?_getD, List.getD_eq_getElem?_getD, List.getElem?_map]
  cases xs[k]? <;> rfl
theorem getD_mem {xs : List Nat} {k : Nat} (h : k < xs.length) : xs.getD k 0 ∈ xs := by
  rw [List.getD_eq_getElem?_getD, List.getElem?_eq_getElem h]
  exact List.getElem_mem h
theorem rise_lt {xs : List Nat} (h : xs.Pairwise (· < ·)) {i j : Nat} (hij : i < j) (hj : j < xs.length) : xs.getD i 0 < xs.getD j 0 := by
  rw [List.getD_eq_getElem?_getD, List.getD_eq_getElem?_getD, List.getElem?_eq_getElem hj, List.getElem?_eq_getElem (by omega)]
  exact List.pairwise_iff_getElem.1 h i j (by omega) hj hij
theorem rise_ne {xs : List Nat} (h : xs.Pairwise (· < ·)) {i j : Nat} (hi : i < xs.length) (hj : j < xs.length) (hne : i ≠ j) : xs.getD i 0 ≠ xs.getD j 0 := by
  rcases Nat.lt_or_ge i j with hlt | hge
  · exact Nat.ne_of_lt (rise_lt h hlt hj)
  · exact (Nat.ne_of_lt (rise_lt h (by omega) hi)).symm
theorem wt_table {xs : List Nat} (hr : xs.Pairwise (· < ·)) (hb : ∀ x ∈ xs, 1 ≤ x ∧ x ≤ 9) {k : Nat} (hk : k < xs.length) (j : Nat) (hj : j ≤ xs.length) :
    wtS (ints xs) k j = (((xs.take j).foldl (wStep (xs.getD k 0)) 1 : Nat) : Int) := by
  induction j with
  | zero => rfl
  | succ j ih =>
    have hlt : j < xs.length := by omega
    have e : xs.take (j + 1) = xs.take j ++ [xs.getD j 0] := by
      rw [List.take_succ_eq_append_getElem hlt, List.getD_eq_getElem?_getD, List.getElem?_eq_getElem hlt]
      rfl
    rw [e, List.foldl_append, List.foldl_cons, List.foldl_nil]
    have ih := ih (by omega)
    by_cases hjk : j = k
    · subst hjk
      rw [wtS_skip, ih, wStep, if_pos (Nat.beq_refl _)]
    · have hne := rise_ne hr hlt hk hjk
      rw [wtS_step _ hjk, ih, ints_at, ints_at, pw_inv (hb _ (getD_mem hk)) (hb _ (getD_mem hlt)) hne, wStep, if_neg (fun h => hne (Nat.eq_of_beq_eq_true h))]
      simp only [Int.natCast_emod, Int.natCast_mul]
      rfl
theorem weight_table {xs : List Nat} (hr : xs.Pairwise (· < ·)) (hb : ∀ x ∈ xs, 1 ≤ x ∧ x ≤ 9) {k : Nat} (hk : k < xs.length) : weight (ints xs) k = ((wT xs (xs.getD k 0) : Nat) : Int) := by
  unfold weight wT
  rw [wt_table hr hb hk _ (by rw [ints_length]; omega), ints_length, List.take_length]
/-- The moments of the weights. -/
theorem moment {c : Nat → Bool} {n : Nat} (hn : n ≤ 9) (m : Nat) (hm : m < (sel c n).length) :
    tot (fun k => (ints (sel c n)).getD k 0 ^ m * weight (ints (sel c n)) k) (sel c n).length % 1073741789 = if m = 0 then 1 else 0 := by
  have hr := sel_rise c n
  have hb : ∀ x ∈ sel c n, 1 ≤ x ∧ x ≤ 9 := fun x hx => by have := sel_mem c n x hx; omega
  have hc := sel_chk c hn
  generalize sel c n = xs at *
  have hl : xs.length = (xs.map (wT xs)).length := by simp
  have h1 := chk_spec hc m hm
  have h2 := sumN_tot (nx xs (xs.map (wT xs)) m) (fun k => (ints xs).getD k 0 ^ m * weight (ints xs) k) (fun k hk => by
    rw [nx_length hl] at hk
    rw [nx_at hl m k hk, ints_at, weight_table hr hb hk]
    congr 3
    rw [List.getD_eq_getElem?_getD, List.getElem?_map, List.getD_eq_getElem?_getD, List.getElem?_eq_getElem hk]
    rfl)
  rw [nx_length hl] at h2
  rw [← h2]
  have h3 : ((sumN (nx xs (xs.map (wT xs)) m) : Nat) : Int) % 1073741789 = ((sumN (nx xs (xs.map (wT xs)) m) % 1073741789 : Nat) : Int) := by rw [Int.natCast_emod]; rfl
  rw [h3, h1]
  split <;> rfl
theorem rsum_tot (ids shares : List Int) (n : Nat) : rsum ids shares n = tot (fun k => shares.getD k 0 * weight ids k) n % 1073741789 := by
  induction n with
  | zero => rfl
  | succ n ih => rw [rsum, ih, tot, Int.add_emod, Int.emod_emod_of_dvd _ (Int.dvd_refl _), ← Int.add_emod]
theorem psum_tot {c : Nat → Bool} {n : Nat} (hn : n ≤ 9) (coeffs : List Int) (j : Nat) (hj : j ≤ (sel c n).length) :
    tot (fun k => psum coeffs ((ints (sel c n)).getD k 0) j * weight (ints (sel c n)) k) (sel c n).length % 1073741789 = (if j = 0 then 0 else coeffs.getD 0 0) % 1073741789 := by
  induction j with
  | zero =>
    have e : (fun k => psum coeffs ((ints (sel c n)).getD k 0) 0 * weight (ints (sel c n)) k) = fun _ => 0 := by
      funext k; rw [psum, Int.zero_mul]
    rw [e, tot_zero, if_pos rfl]
  | succ j ih =>
    have hm := moment (c := c) hn j (by omega)
    have e : (fun k => psum coeffs ((ints (sel c n)).getD k 0) (j + 1) * weight (ints (sel c n)) k) =
        fun k => psum coeffs ((ints (sel c n)).getD k 0) j * weight (ints (sel c n)) k + coeffs.getD j 0 * ((ints (sel c n)).getD k 0 ^ j * weight (ints (sel c n)) k) := by
      funext k; rw [psum, Int.add_mul, Int.mul_assoc]
    rw [e, tot_add, tot_mul, Int.add_emod, ih (by omega), ← emod_mul_right, hm, if_neg (show ¬ j + 1 = 0 by omega)]
    by_cases h0 : j = 0
    · subst h0
      rw [if_pos rfl, if_pos rfl, Int.mul_one, Int.zero_emod, Int.zero_add, Int.emod_emod_of_dvd _ (Int.dvd_refl _)]
    · rw [if_neg h0, if_neg h0, Int.mul_zero, Int.zero_emod, Int.add_zero, Int.emod_emod_of_dvd _ (Int.dvd_refl _)]
/-- Shares of as many signers as the threshold give the secret. -/
theorem recombine {c : Nat → Bool} {n : Nat} (hn : n ≤ 9) (coeffs shares : List Int) (h0 : 0 < coeffs.length) (ht : coeffs.length ≤ (sel c n).length) (hc : ∀ i, i < coeffs.length → 0 ≤ coeffs.getD i 0 ∧ coeffs.getD i 0 < 1073741789)
    (hs : ∀ k, k < (sel c n).length → shares.getD k 0 = poly coeffs ((ints (sel c n)).getD k 0)) : rsum (ints (sel c n)) shares (sel c n).length = coeffs.getD 0 0 := by
  have hp := psum_tot (c := c) hn coeffs coeffs.length ht
  have hb : ∀ k, k < (sel c n).length → 1 ≤ (ints (sel c n)).getD k 0 ∧ (ints (sel c n)).getD k 0 ≤ 9 := fun k hk => by
    rw [ints_at]
    have := sel_mem c n _ (getD_mem hk)
    omega
  rw [rsum_tot, tot_congr (G := fun k => psum coeffs ((ints (sel c n)).getD k 0) coeffs.length * weight (ints (sel c n)) k) (fun k hk => by
    have := hb k hk
    rw [hs k hk, poly_rps coeffs _ (by omega) (by omega) hc, rpS_eq, emod_mul_left]), hp, if_neg (by omega)]
  have := hc 0 h0
  exact Int.emod_eq_of_lt this.1 this.2
end Go.Proofs.Ytpfpokjaeffbjab.Lag
