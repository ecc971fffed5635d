/- What signers answer, in plain numbers. -/
import Derived.Test.YtpfpokjaeffbjabPkgPlain
import Derived.Test.YtpfpokjaeffbjabMap
import Derived.Test.YtpfpokjaeffbjabVerify
namespace Go.Proofs.Ytpfpokjaeffbjab.Spl
open Go.RowKit Go.Proofs.Ytpfpokjaeffbjab.Pl Go.Proofs.Ytpfpokjaeffbjab.Dpl Go.Proofs.Ytpfpokjaeffbjab.Gpl Go.Proofs.Ytpfpokjaeffbjab.Kpl Go.Proofs.Ytpfpokjaeffbjab.Mem Go.Proofs.Ytpfpokjaeffbjab.Mpp Go.Proofs.Ytpfpokjaeffbjab.Ord Go.Proofs.Ytpfpokjaeffbjab.Ver

/-- NewSigner's error. -/
def newE (t n : Int) (cs : List Int) (id share : Int) : Int := if checkE t n cs id share ≠ 0 then checkE t n cs id share else if checkB t n cs id share = false then 8 else 0
theorem newE_check {t n : Int} {cs : List Int} {id share : Int} (h : checkE t n cs id share ≠ 0) : newE t n cs id share = checkE t n cs id share := by unfold newE; rw [if_pos h]
theorem newE_share {t n : Int} {cs : List Int} {id share : Int} (h : checkE t n cs id share = 0) (h2 : checkB t n cs id share = false) : newE t n cs id share = 8 := by unfold newE; rw [if_neg (fun h' => h' h), if_pos h2]
theorem newE_ok {t n : Int} {cs : List Int} {id share : Int} (h : checkE t n cs id share = 0) (h2 : checkB t n cs id share = true) : newE t n cs id share = 0 := by unfold newE; rw [if_neg (fun h' => h' h), if_neg (by rw [h2]; simp)]
theorem newE_spec {t n : Int} {cs : List Int} {id share : Int} (h : newE t n cs id share = 0) : checkE t n cs id share = 0 ∧ checkB t n cs id share = true := by
  unfold newE at h
  by_cases h1 : checkE t n cs id share ≠ 0
  · rw [if_pos h1] at h; exact absurd h h1
  rw [if_neg h1] at h
  by_cases h2 : checkB t n cs id share = false
  · rw [if_pos h2] at h; omega
  · exact ⟨by omega, by simpa using h2⟩
theorem checkE_spec {t n : Int} {cs : List Int} {id share : Int} (h : checkE t n cs id share = 0) : groupOk t n cs = true ∧ 1 ≤ id ∧ id ≤ n ∧ share < 1073741789 := by
  unfold checkE at h
  by_cases h1 : groupOk t n cs = false
  · rw [if_pos h1] at h; omega
  rw [if_neg h1] at h
  by_cases h2 : id < 1 ∨ n < id
  · rw [if_pos h2] at h; omega
  rw [if_neg h2] at h
  by_cases h3 : 1073741789 ≤ share
  · rw [if_pos h3] at h; omega
  · exact ⟨by simpa using h1, by omega, by omega, by omega⟩
/-- A signer's plain state. -/
structure St where
  t : Int
  n : Int
  cs : List Int
  id : Int
  share : Int
  pl : List (Int × Int)
/-- What holds of every signer's state. -/
structure Ok (s : St) : Prop where
  grp : groupOk s.t s.n s.cs = true
  id1 : 1 ≤ s.id
  idn : s.id ≤ s.n
  sh0 : 0 ≤ s.share
  sh1 : s.share < 1073741789
  few : s.pl.length ≤ 6
  sc : ∀ q ∈ s.pl, (0 < q.1 ∧ q.1 < 1073741789) ∧ (0 < q.2 ∧ q.2 < 1073741789)
  uniq : s.pl.Pairwise (· ≠ ·)
theorem Ok.spec {s : St} (h : Ok s) : 2 ≤ s.t ∧ s.t ≤ s.n ∧ s.n ≤ 9 ∧ (s.cs.length : Int) = s.t ∧ s.cs.getD 0 0 ≠ 1 ∧ (∀ i, i < s.cs.length → isEl (s.cs.getD i 0) = true) := by
  have h1 := groupOk_spec h.grp
  exact ⟨h1.1, h1.2.1, h1.2.2.1, h1.2.2.2.1, h1.2.2.2.2.1, fun i hi => groupOk_at h.grp hi⟩
theorem Ok.id9 {s : St} (h : Ok s) : 1 ≤ s.id ∧ s.id ≤ 9 := by
  have := h.spec; have := h.id1; have := h.idn; omega
theorem Ok.key {s : St} (h : Ok s) : 0 < s.cs.length ∧ (0 < s.cs.getD 0 0 ∧ s.cs.getD 0 0 < 2147483579) := by
  have h1 := h.spec
  exact ⟨by omega, isEl_bd (h1.2.2.2.2.2 0 (by omega))⟩
/-- Commitments tell the pairs apart. -/
theorem cm_inj {id : Int} {q q' : Int × Int} (h1 : (0 < q.1 ∧ q.1 < 1073741789) ∧ (0 < q.2 ∧ q.2 < 1073741789)) (h2 : (0 < q'.1 ∧ q'.1 < 1073741789) ∧ (0 < q'.2 ∧ q'.2 < 1073741789)) (h : cmOf id q = cmOf id q') : q = q' := by
  have e : qq = 1073741789 := rfl
  simp only [cmOf, Cm.mk.injEq, true_and] at h
  have a1 := four_inj (a := q.1.toNat) (b := q'.1.toNat) (by omega) (by omega) h.1
  have a2 := four_inj (a := q.2.toNat) (b := q'.2.toNat) (by omega) (by omega) h.2
  obtain ⟨x, y⟩ := q
  obtain ⟨x', y'⟩ := q'
  simp only at h1 h2 a1 a2
  rw [Prod.mk.injEq]
  omega
theorem uniq_at {pl : List (Int × Int)} (h : pl.Pairwise (· ≠ ·)) {i j : Nat} {q : Int × Int} (hi : pl[i]? = some q) (hj : pl[j]? = some q) : i = j := by
  obtain ⟨hi', ei⟩ := List.getElem?_eq_some_iff.1 hi
  obtain ⟨hj', ej⟩ := List.getElem?_eq_some_iff.1 hj
  rcases Nat.lt_trichotomy i j with hlt | heq | hgt
  · exact absurd (ei.trans ej.symm) (List.pairwise_iff_getElem.1 h i j hi' hj' hlt)
  · exact heq
  · exact absurd (ej.trans ei.symm) (List.pairwise_iff_getElem.1 h j i hj' hi' hgt)
theorem Ok.at_key {s : St} (h : Ok s) {j : Nat} {q : Int × Int} (hj : s.pl[j]? = some q) : ∀ i q', s.pl[i]? = some q' → cmOf s.id q' = cmOf s.id q → i = j := fun i q' hi he => by
  have e := cm_inj (h.sc q' (List.mem_of_getElem? hi)) (h.sc q (List.mem_of_getElem? hj)) he
  subst e
  exact uniq_at h.uniq hi hj
/-- Commit's error. -/
def comE (s : St) (d e : Int) : Int := if d = 0 ∨ e = 0 ∨ 1073741789 ≤ d ∨ 1073741789 ≤ e then 2 else if (d, e) ∈ s.pl then 15 else if s.pl.length = 6 then 9 else 0
def comSt (s : St) (d e : Int) : St := if comE s d e = 0 then { s with pl := s.pl ++ [(d, e)] } else s
def comC (s : St) (d e : Int) : Cm := if comE s d e = 0 then cmOf s.id (d, e) else .zero
theorem comE_sc {s : St} {d e : Int} (h : d = 0 ∨ e = 0 ∨ 1073741789 ≤ d ∨ 1073741789 ≤ e) : comE s d e = 2 := by unfold comE; rw [if_pos h]
theorem comE_has {s : St} {d e : Int} (h : ¬ (d = 0 ∨ e = 0 ∨ 1073741789 ≤ d ∨ 1073741789 ≤ e)) (h2 : (d, e) ∈ s.pl) : comE s d e = 15 := by unfold comE; rw [if_neg h, if_pos h2]
theorem comE_full {s : St} {d e : Int} (h : ¬ (d = 0 ∨ e = 0 ∨ 1073741789 ≤ d ∨ 1073741789 ≤ e)) (h2 : (d, e) ∉ s.pl) (h3 : s.pl.length = 6) : comE s d e = 9 := by unfold comE; rw [if_neg h, if_neg h2, if_pos h3]
theorem comE_ok {s : St} {d e : Int} (h : ¬ (d = 0 ∨ e = 0 ∨ 1073741789 ≤ d ∨ 1073741789 ≤ e)) (h2 : (d, e) ∉ s.pl) (h3 : s.pl.length ≠ 6) : comE s d e = 0 := by unfold comE; rw [if_neg h, if_neg h2, if_neg h3]
theorem com_bad {s : St} {d e : Int} (h : comE s d e ≠ 0) : comSt s d e = s ∧ comC s d e = .zero := ⟨by unfold comSt; rw [if_neg h], by unfold comC; rw [if_neg h]⟩
theorem com_good {s : St} {d e : Int} (h : comE s d e = 0) : comSt s d e = { s with pl := s.pl ++ [(d, e)] } ∧ comC s d e = cmOf s.id (d, e) := ⟨by unfold comSt; rw [if_pos h], by unfold comC; rw [if_pos h]⟩
theorem comE_spec {s : St} {d e : Int} (h : comE s d e = 0) : ¬ (d = 0 ∨ e = 0 ∨ 1073741789 ≤ d ∨ 1073741789 ≤ e) ∧ (d, e) ∉ s.pl ∧ s.pl.length ≠ 6 := by
  unfold comE at h
  by_cases h1 : d = 0 ∨ e = 0 ∨ 1073741789 ≤ d ∨ 1073741789 ≤ e
  · rw [if_pos h1] at h; omega
  rw [if_neg h1] at h
  by_cases h2 : (d, e) ∈ s.pl
  · rw [if_pos h2] at h; omega
  rw [if_neg h2] at h
  by_cases h3 : s.pl.length = 6
  · rw [if_pos h3] at h; omega
  · exact ⟨h1, h2, h3⟩
theorem com_ok {s : St} {d e : Int} (h : Ok s) (hd : 0 ≤ d) (he : 0 ≤ e) : Ok (comSt s d e) := by
  by_cases h0 : comE s d e = 0
  · obtain ⟨h1, h2, h3⟩ := comE_spec h0
    rw [(com_good h0).1]
    refine ⟨h.grp, h.id1, h.idn, h.sh0, h.sh1, ?_, ?_, ?_⟩
    · show (s.pl ++ [(d, e)]).length ≤ 6
      rw [List.length_append, List.length_singleton]
      have := h.few; omega
    · intro q hq
      rcases List.mem_append.1 hq with hq | hq
      · exact h.sc q hq
      · rw [List.mem_singleton.1 hq]
        exact ⟨⟨by show 0 < d; omega, by show d < _; omega⟩, by show 0 < e; omega, by show e < _; omega⟩
    · refine List.pairwise_append.2 ⟨h.uniq, List.pairwise_singleton _ _, fun a ha b hb => ?_⟩
      rw [List.mem_singleton.1 hb]
      rintro rfl
      exact h2 ha
  · rw [(com_bad h0).1]; exact h
/-- Where the signer's own commitment stands in a package: the place, or none. -/
def mineAt (s : St) (l : List Cm) : Nat → Option Nat
  | 0 => none
  | k + 1 => if (l.getD k .zero).id = s.id then some k else mineAt s l k
end Go.Proofs.Ytpfpokjaeffbjab.Spl
