/- What Sign answers, in plain numbers. -/
import Derived.Test.YtpfpokjaeffbjabSigPlain
namespace Go.Proofs.Ytpfpokjaeffbjab.Spl
open Go.RowKit Go.Proofs.Ytpfpokjaeffbjab.Pl Go.Proofs.Ytpfpokjaeffbjab.Dpl Go.Proofs.Ytpfpokjaeffbjab.Gpl Go.Proofs.Ytpfpokjaeffbjab.Kpl Go.Proofs.Ytpfpokjaeffbjab.Mem Go.Proofs.Ytpfpokjaeffbjab.Mpp Go.Proofs.Ytpfpokjaeffbjab.Ord Go.Proofs.Ytpfpokjaeffbjab.Ver

/-- Numbers rise. -/
theorem good_lt {n : Int} {l : List Cm} (h : Kpl.Good n l) {j : Nat} (hj : j < l.length) : ∀ i, i < j → (l.getD i .zero).id < (l.getD j .zero).id := by
  induction j with
  | zero => intro i hi; omega
  | succ j ih =>
    intro i hi
    have h1 := (h (j + 1) hj).2.1 (by omega)
    simp only [Nat.add_sub_cancel] at h1
    rcases Nat.lt_or_ge i j with h2 | h2
    · have := ih (by omega) i h2
      omega
    · obtain rfl : i = j := by omega
      exact h1
theorem good_inj {n : Int} {l : List Cm} (h : Kpl.Good n l) {i j : Nat} (hi : i < l.length) (hj : j < l.length) (he : (l.getD i .zero).id = (l.getD j .zero).id) : i = j := by
  rcases Nat.lt_trichotomy i j with hlt | heq | hgt
  · have := good_lt h hj i hlt; omega
  · exact heq
  · have := good_lt h hi j hgt; omega
/-- The last of the first k of this number, or -1. -/
def mineP (id : Int) (l : List Cm) : Nat → Int
  | 0 => -1
  | k + 1 => if (l.getD k .zero).id = id then (k : Int) else mineP id l k
theorem mineP_yes {id : Int} {l : List Cm} {k : Nat} (h : (l.getD k .zero).id = id) : mineP id l (k + 1) = k := by rw [mineP, if_pos h]
theorem mineP_no {id : Int} {l : List Cm} {k : Nat} (h : ¬ (l.getD k .zero).id = id) : mineP id l (k + 1) = mineP id l k := by rw [mineP, if_neg h]
theorem mineP_spec (id : Int) (l : List Cm) (k : Nat) : (mineP id l k = -1 ∧ ∀ i, i < k → (l.getD i .zero).id ≠ id) ∨ ∃ m : Nat, m < k ∧ mineP id l k = m ∧ (l.getD m .zero).id = id := by
  induction k with
  | zero => exact .inl ⟨rfl, fun i hi => by omega⟩
  | succ k ih =>
    by_cases h : (l.getD k .zero).id = id
    · exact .inr ⟨k, by omega, mineP_yes h, h⟩
    · rw [mineP_no h]
      rcases ih with ⟨h1, h2⟩ | ⟨m, h1, h2, h3⟩
      · refine .inl ⟨h1, fun i hi => ?_⟩
        rcases Nat.lt_or_ge i k with h3 | h3
        · exact h2 i h3
        · obtain rfl : i = k := by omega
          exact h
      · exact .inr ⟨m, by omega, h2, h3⟩
theorem mineP_hit {n : Int} {l : List Cm} (hg : Kpl.Good n l) {id : Int} {k : Nat} (hk : k < l.length) (h : (l.getD k .zero).id = id) : mineP id l l.length = k := by
  rcases mineP_spec id l l.length with ⟨_, h2⟩ | ⟨m, h1, h2, h3⟩
  · exact absurd h (h2 k hk)
  · rw [h2, good_inj hg h1 hk (h3.trans h.symm)]
/-- The share of a signature that the pair at place j gives for place k. -/
def shareP (s : St) (msg : ByteArray) (l : List Cm) (k : Nat) (q : Int × Int) : Int :=
  signP q.1 q.2 (bindP l (s.cs.getD 0 0) msg k) (lagrange (idsOf l l.length) k) s.share (chal (allP l (s.cs.getD 0 0) msg) (s.cs.getD 0 0) msg)
/-- What Sign answers: a number, an error; and the state behind it. -/
inductive SignRel (s : St) (msg : ByteArray) (l : List Cm) : Int → Int → St → Prop
  | pk (h : pkE s.t s.n l ≠ 0) : SignRel s msg l 0 (pkE s.t s.n l) s
  | mine (h : pkE s.t s.n l = 0) (hn : ∀ k q, k < l.length → q ∈ s.pl → cmOf s.id q ≠ l.getD k .zero) : SignRel s msg l 0 10 s
  | zero (k j : Nat) (q : Int × Int) (h : pkE s.t s.n l = 0) (hk : k < l.length) (hj : s.pl[j]? = some q) (hq : cmOf s.id q = l.getD k .zero) (ha : allP l (s.cs.getD 0 0) msg = 1) : SignRel s msg l 0 11 s
  | good (k j : Nat) (q : Int × Int) (h : pkE s.t s.n l = 0) (hk : k < l.length) (hj : s.pl[j]? = some q) (hq : cmOf s.id q = l.getD k .zero) (ha : allP l (s.cs.getD 0 0) msg ≠ 1) :
      SignRel s msg l (shareP s msg l k q) 0 { s with pl := s.pl.eraseIdx j }
theorem signRel_is (s : St) (msg : ByteArray) (l : List Cm) : ∃ v e s', SignRel s msg l v e s' := by
  by_cases h : pkE s.t s.n l = 0
  · by_cases hn : ∀ k q, k < l.length → q ∈ s.pl → cmOf s.id q ≠ l.getD k .zero
    · exact ⟨_, _, _, .mine h hn⟩
    · simp only [Classical.not_forall] at hn
      obtain ⟨k, q, hk, hq, hc⟩ := hn
      simp only [ne_eq, Classical.not_not] at hc
      obtain ⟨j, hj⟩ := List.mem_iff_getElem?.1 hq
      by_cases ha : allP l (s.cs.getD 0 0) msg = 1
      · exact ⟨_, _, _, .zero k j q h hk hj hc ha⟩
      · exact ⟨_, _, _, .good k j q h hk hj hc ha⟩
  · exact ⟨_, _, _, .pk h⟩
theorem rel_pk {s s' : St} {msg : ByteArray} {l : List Cm} {v e : Int} (hr : SignRel s msg l v e s') (h : pkE s.t s.n l ≠ 0) : v = 0 ∧ e = pkE s.t s.n l ∧ s' = s := by
  cases hr with
  | pk h => exact ⟨rfl, rfl, rfl⟩
  | mine h' => exact absurd h' h
  | zero _ _ _ h' => exact absurd h' h
  | good _ _ _ h' => exact absurd h' h
theorem cm_id {id : Int} {q : Int × Int} {c : Cm} (h : cmOf id q = c) : c.id = id := by rw [← h]; rfl
/-- Where no commitment in the package is of this signer. -/
theorem rel_none {s s' : St} {msg : ByteArray} {l : List Cm} {v e : Int} (hr : SignRel s msg l v e s') (h : pkE s.t s.n l = 0) (hm : mineP s.id l l.length < 0) : v = 0 ∧ e = 10 ∧ s' = s := by
  have hno : ∀ k q, k < l.length → cmOf s.id q = l.getD k .zero → False := fun k q hk hq => by
    have := mineP_hit (good_of h) hk (cm_id hq)
    omega
  cases hr with
  | pk h' => exact absurd h h'
  | mine h' => exact ⟨rfl, rfl, rfl⟩
  | zero k j q h' hk hj hq => exact absurd hq (hno k q hk)
  | good k j q h' hk hj hq => exact absurd hq (hno k q hk)
/-- Where one is, and it is none of those kept. -/
theorem rel_lost {s s' : St} {msg : ByteArray} {l : List Cm} {v e : Int} (hr : SignRel s msg l v e s') (h : pkE s.t s.n l = 0) {m : Nat} (hm : mineP s.id l l.length = m) (hn : ¬ ∃ q ∈ s.pl, cmOf s.id q = l.getD m .zero) : v = 0 ∧ e = 10 ∧ s' = s := by
  have hno : ∀ k j q, k < l.length → s.pl[j]? = some q → cmOf s.id q = l.getD k .zero → False := fun k j q hk hj hq => by
    have h1 := mineP_hit (good_of h) hk (cm_id hq)
    have h2 : k = m := by omega
    subst h2
    exact hn ⟨q, List.mem_of_getElem? hj, hq⟩
  cases hr with
  | pk h' => exact absurd h h'
  | mine h' => exact ⟨rfl, rfl, rfl⟩
  | zero k j q h' hk hj hq => exact absurd hq (hno k j q hk hj)
  | good k j q h' hk hj hq => exact absurd hq (hno k j q hk hj)
/-- Where one is, and it is kept. -/
theorem rel_hit {s s' : St} {msg : ByteArray} {l : List Cm} {v e : Int} (hr : SignRel s msg l v e s') (hok : Ok s) (h : pkE s.t s.n l = 0) {m : Nat} (hm : mineP s.id l l.length = m) {q : Int × Int} (hq : q ∈ s.pl) (hqm : cmOf s.id q = l.getD m .zero) :
    ∃ j, s.pl[j]? = some q ∧ ((allP l (s.cs.getD 0 0) msg = 1 ∧ v = 0 ∧ e = 11 ∧ s' = s) ∨ (allP l (s.cs.getD 0 0) msg ≠ 1 ∧ v = shareP s msg l m q ∧ e = 0 ∧ s' = { s with pl := s.pl.eraseIdx j })) := by
  have hin : ∀ k j q', k < l.length → s.pl[j]? = some q' → cmOf s.id q' = l.getD k .zero → k = m ∧ q' = q := fun k j q' hk hj hq' => by
    have h1 := mineP_hit (good_of h) hk (cm_id hq')
    have h2 : k = m := by omega
    subst h2
    exact ⟨rfl, cm_inj (hok.sc q' (List.mem_of_getElem? hj)) (hok.sc q hq) (hq'.trans hqm.symm)⟩
  cases hr with
  | pk h' => exact absurd h h'
  | mine h' hn =>
    rcases mineP_spec s.id l l.length with ⟨h1, _⟩ | ⟨m', h1, h2, h3⟩
    · omega
    · have : m' = m := by omega
      subst this
      exact absurd hqm (hn m' q h1 hq)
  | zero k j q' h' hk hj hq' ha =>
    obtain ⟨rfl, rfl⟩ := hin k j q' hk hj hq'
    exact ⟨j, hj, .inl ⟨ha, rfl, rfl, rfl⟩⟩
  | good k j q' h' hk hj hq' ha =>
    obtain ⟨rfl, rfl⟩ := hin k j q' hk hj hq'
    exact ⟨j, hj, .inr ⟨ha, rfl, rfl, rfl⟩⟩
theorem rel_ok {s s' : St} {msg : ByteArray} {l : List Cm} {v e : Int} (hr : SignRel s msg l v e s') (hok : Ok s) : Ok s' := by
  cases hr with
  | pk h => exact hok
  | mine h => exact hok
  | zero => exact hok
  | good k j q h' hk hj hq' ha =>
    refine ⟨hok.grp, hok.id1, hok.idn, hok.sh0, hok.sh1, ?_, ?_, ?_⟩
    · show (s.pl.eraseIdx j).length ≤ 6
      have := hok.few
      rw [List.length_eraseIdx]
      split <;> omega
    · intro q hq
      exact hok.sc q ((List.eraseIdx_sublist _ _).subset hq)
    · exact hok.uniq.sublist (List.eraseIdx_sublist _ _)
/-- The bounds of a share. -/
theorem share_bd (s : St) (msg : ByteArray) (l : List Cm) (k : Nat) (q : Int × Int) : 0 ≤ shareP s msg l k q ∧ shareP s msg l k q < 1073741789 := sadd_bd _ _
end Go.Proofs.Ytpfpokjaeffbjab.Spl
