/- What Kept asks of a signer, in plain numbers. -/
import Derived.Test.YtpfpokjaeffbjabSignPlain
import Derived.Test.YtpfpokjaeffbjabRecPlain
namespace Go.Proofs.Ytpfpokjaeffbjab.Kep
open Go.RowKit Go.Proofs.Ytpfpokjaeffbjab.Pl Go.Proofs.Ytpfpokjaeffbjab.Dpl Go.Proofs.Ytpfpokjaeffbjab.Gpl Go.Proofs.Ytpfpokjaeffbjab.Kpl Go.Proofs.Ytpfpokjaeffbjab.Mem Go.Proofs.Ytpfpokjaeffbjab.Mpp Go.Proofs.Ytpfpokjaeffbjab.Ord Go.Proofs.Ytpfpokjaeffbjab.Ver Go.Proofs.Ytpfpokjaeffbjab.Spl Go.Proofs.Ytpfpokjaeffbjab.Rpl

/-- The pairs that are kept: (x, x + 1), x below j. -/
def Kp (j : Nat) (pl : List (Int × Int)) : Prop := ∀ q ∈ pl, ∃ x : Nat, 1 ≤ x ∧ x < j ∧ q = ((x : Int), (x : Int) + 1)
set_option linter.unusedVariables false
theorem Kp.nil (j : Nat) : Kp j [] := fun _ hq => absurd hq List.not_mem_nil
theorem Kp.push {j : Nat} {pl : List (Int × Int)} (h : Kp j pl) (hj : 1 ≤ j) : Kp (j + 1) (pl ++ [((j : Int), (j : Int) + 1)]) := fun q hq => by
  rcases List.mem_append.1 hq with h1 | h1
  · obtain ⟨x, a, b, c⟩ := h q h1
    exact ⟨x, a, by omega, c⟩
  · exact ⟨j, hj, by omega, List.mem_singleton.1 h1⟩
theorem Kp.erase {j i : Nat} {pl : List (Int × Int)} (h : Kp j pl) : Kp j (pl.eraseIdx i) := fun q hq => h q ((List.eraseIdx_sublist _ _).subset hq)
theorem Kp.new {j : Nat} {pl : List (Int × Int)} (h : Kp j pl) : ((j : Int), (j : Int) + 1) ∉ pl := fun hq => by
  obtain ⟨x, a, b, c⟩ := h _ hq
  have := congrArg Prod.fst c
  simp only at this
  omega
theorem Kp.no11 {j : Nat} {pl : List (Int × Int)} (h : Kp j pl) : ((1 : Int), (1 : Int)) ∉ pl := fun hq => by
  obtain ⟨x, a, b, c⟩ := h _ hq
  have h1 := congrArg Prod.fst c
  have h2 := congrArg Prod.snd c
  simp only at h1 h2
  omega
theorem nc_four {n : Nat} (h0 : 0 < n) (h1 : n < 1073741789) : isNc (pw 4 n 2147483579) = true := by
  have h := four_order h0 h1
  unfold isNc
  rw [four_el, Bool.true_and, decide_eq_true_iff]
  exact h
/-- The other signer's commitment. -/
def oth : Cm := cmOf 2 (3, 4)
theorem pk_two {q : Int × Int} (h : (0 < q.1 ∧ q.1 < 1073741789) ∧ (0 < q.2 ∧ q.2 < 1073741789)) : pkE 2 2 [cmOf 1 q, oth] = 0 := by
  refine pkE_ok (by simp) ?_ ?_
  · show riseErr 2 [cmOf 1 q, oth] 2 = 0
    refine riseErr_step (riseErr_step rfl ?_) ?_
    · unfold riseAt
      rw [if_neg (by show ¬ ((1 : Int) < 1 ∨ (2 : Int) < 1); omega), if_neg (by omega)]
    · unfold riseAt
      rw [if_neg (by show ¬ ((2 : Int) < 1 ∨ (2 : Int) < 2); omega), if_neg (by show ¬ (0 < 1 ∧ (2 : Int) ≤ 1); omega)]
  · show ncsTo [cmOf 1 q, oth] 2 = true
    refine ncsTo_step _ (ncsTo_step _ rfl ?_ ?_) ?_ ?_
    · exact nc_four (n := q.1.toNat) (by omega) (by omega)
    · exact nc_four (n := q.2.toNat) (by omega) (by omega)
    · exact nc_four (n := 3) (by omega) (by omega)
    · exact nc_four (n := 4) (by omega) (by omega)
theorem pk_one (c : Cm) : pkE 2 2 [c] = 7 := pkE_few (.inl (by simp))
theorem mine_two (q : Int × Int) : mineP 1 [cmOf 1 q, oth] 2 = ((0 : Nat) : Int) := by
  rw [mineP_no (by show ¬ (2 : Int) = 1; omega)]
  exact mineP_yes rfl
theorem cm44 : cmOf 1 (1, 1) = ⟨1, 4, 4⟩ := by
  have : pw 4 1 2147483579 = 4 := by decide
  simp only [cmOf, Cm.mk.injEq, true_and]
  exact ⟨this, this⟩
/-- What is known of the signer at every round. -/
structure KOk (s : St) (j : Nat) : Prop where
  ok : Ok s
  t : s.t = 2
  n : s.n = 2
  id : s.id = 1
  kp : Kp j s.pl
  j1 : 1 ≤ j
  j2 : j ≤ 1000
section
variable {s s' : St} {j : Nat} {msg : ByteArray} {v e : Int}
theorem KOk.sc {q : Int × Int} (h : KOk s j) (hq : q ∈ s.pl) : (0 < q.1 ∧ q.1 < 1073741789) ∧ (0 < q.2 ∧ q.2 < 1073741789) := h.ok.sc q hq
theorem com_full (h : KOk s j) (hl : s.pl.length = 6) : comE s j ((j : Int) + 1) = 9 ∧ comSt s j ((j : Int) + 1) = s ∧ comC s j ((j : Int) + 1) = .zero := by
  have h1 := h.j1
  have h2 := h.j2
  have e := comE_full (s := s) (d := j) (e := (j : Int) + 1) (by omega) h.kp.new hl
  exact ⟨e, com_bad (by rw [e]; decide)⟩
theorem com_new (h : KOk s j) (hl : s.pl.length ≠ 6) (hj : j < 1000) : comE s j ((j : Int) + 1) = 0 ∧ comC s j ((j : Int) + 1) = cmOf 1 ((j : Int), (j : Int) + 1) ∧
    comSt s j ((j : Int) + 1) = { s with pl := s.pl ++ [((j : Int), (j : Int) + 1)] } ∧ KOk { s with pl := s.pl ++ [((j : Int), (j : Int) + 1)] } (j + 1) := by
  have h1 := h.j1
  have h2 := h.j2
  have e := comE_ok (s := s) (d := j) (e := (j : Int) + 1) (by omega) h.kp.new hl
  obtain ⟨e1, e2⟩ := com_good e
  refine ⟨e, by rw [e2, h.id], e1, ?_⟩
  have hok := com_ok (d := (j : Int)) (e := (j : Int) + 1) h.ok (by omega) (by omega)
  rw [e1] at hok
  exact ⟨hok, h.t, h.n, h.id, h.kp.push h1, by omega, by omega⟩
theorem com_again (h : KOk s j) : comE { s with pl := s.pl ++ [((j : Int), (j : Int) + 1)] } j ((j : Int) + 1) = 15 ∧ comC { s with pl := s.pl ++ [((j : Int), (j : Int) + 1)] } j ((j : Int) + 1) = .zero ∧
    comSt { s with pl := s.pl ++ [((j : Int), (j : Int) + 1)] } j ((j : Int) + 1) = { s with pl := s.pl ++ [((j : Int), (j : Int) + 1)] } := by
  have h1 := h.j1
  have h2 := h.j2
  have e := comE_has (s := { s with pl := s.pl ++ [((j : Int), (j : Int) + 1)] }) (d := j) (e := (j : Int) + 1) (by omega) (List.mem_append_right _ (List.mem_singleton.2 rfl))
  have b := com_bad (s := { s with pl := s.pl ++ [((j : Int), (j : Int) + 1)] }) (d := j) (e := (j : Int) + 1) (by rw [e]; decide)
  exact ⟨e, b.2, b.1⟩
theorem sign_few (h : KOk s j) (c : Cm) (hr : SignRel s msg [c] v e s') : v = 0 ∧ e = 7 ∧ s' = s := by
  have hp : pkE s.t s.n [c] = 7 := by rw [h.t, h.n]; exact pk_one c
  have := rel_pk hr (by rw [hp]; decide)
  rw [hp] at this
  exact this
theorem pk_two' (h : KOk s j) {q : Int × Int} (hq : (0 < q.1 ∧ q.1 < 1073741789) ∧ (0 < q.2 ∧ q.2 < 1073741789)) : pkE s.t s.n [cmOf 1 q, oth] = 0 := by rw [h.t, h.n]; exact pk_two hq
theorem sign_lost (h : KOk s j) {q : Int × Int} (hq : (0 < q.1 ∧ q.1 < 1073741789) ∧ (0 < q.2 ∧ q.2 < 1073741789)) (hn : q ∉ s.pl) (hr : SignRel s msg [cmOf 1 q, oth] v e s') : v = 0 ∧ e = 10 ∧ s' = s := by
  refine rel_lost hr (pk_two' h hq) (m := 0) (by rw [h.id]; exact mine_two q) ?_
  rintro ⟨q', h1, h2⟩
  rw [h.id] at h2
  have := cm_inj (h.sc h1) hq h2
  rw [this] at h1
  exact hn h1
theorem sign_44 (h : KOk s j) (hr : SignRel s msg [⟨1, 4, 4⟩, oth] v e s') : v = 0 ∧ e = 10 ∧ s' = s := by
  rw [← cm44] at hr
  exact sign_lost h (by decide) h.kp.no11 hr
theorem erase_not {pl : List (Int × Int)} (hu : pl.Pairwise (· ≠ ·)) {i : Nat} {q : Int × Int} (hi : pl[i]? = some q) : q ∉ pl.eraseIdx i := fun hq => by
  obtain ⟨k, hk⟩ := List.mem_iff_getElem?.1 hq
  rw [List.getElem?_eraseIdx] at hk
  split at hk
  · have := uniq_at hu hi hk; omega
  · have := uniq_at hu hi hk; omega
theorem sign_hit (h : KOk s j) {i : Nat} {q : Int × Int} (hi : s.pl[i]? = some q) (hr : SignRel s msg [cmOf 1 q, oth] v e s') :
    (e = 11 ∧ s' = s) ∨ (e = 0 ∧ s' = { s with pl := s.pl.eraseIdx i } ∧ KOk { s with pl := s.pl.eraseIdx i } j ∧ q ∉ s.pl.eraseIdx i) := by
  have hq := List.mem_of_getElem? hi
  obtain ⟨k, hk, h1 | h1⟩ := rel_hit hr h.ok (pk_two' h (h.sc hq)) (m := 0) (by rw [h.id]; exact mine_two q) hq (by rw [h.id]; rfl)
  · exact .inl ⟨h1.2.2.1, h1.2.2.2⟩
  · obtain rfl := uniq_at h.ok.uniq hi hk
    have hs := h1.2.2.2
    have hok := rel_ok hr h.ok
    rw [hs] at hok
    exact .inr ⟨h1.2.2.1, hs, ⟨hok, h.t, h.n, h.id, h.kp.erase, h.j1, h.j2⟩, erase_not h.ok.uniq hi⟩
end
/-- The commitments that are kept. -/
def kcs (pl : List (Int × Int)) : List Cm := pl.map (cmOf 1)
theorem kcs_length (pl : List (Int × Int)) : (kcs pl).length = pl.length := List.length_map ..
theorem kcs_push (pl : List (Int × Int)) (q : Int × Int) : kcs (pl ++ [q]) = kcs pl ++ [cmOf 1 q] := by simp [kcs]
theorem kcs_at {pl : List (Int × Int)} {i : Nat} {q : Int × Int} (h : pl[i]? = some q) : (kcs pl).getD i .zero = cmOf 1 q := by
  rw [List.getD_eq_getElem?_getD, kcs, List.getElem?_map, h]; rfl
theorem kcs_erase (pl : List (Int × Int)) (i : Nat) : kcs (pl.eraseIdx i) = (kcs pl).take i ++ (kcs pl).drop (i + 1) := by
  rw [kcs, eraseIdx_mapped, List.eraseIdx_eq_take_drop_succ]; rfl
end Go.Proofs.Ytpfpokjaeffbjab.Kep
