/- What Kept's walk needs of memory. -/
import Derived.Test.YtpfpokjaeffbjabSignerSign
import Derived.Test.YtpfpokjaeffbjabKeptPlain
import Derived.Deep.AppendLies
namespace Go.Proofs.Ytpfpokjaeffbjab.Kep
open Go.RowKit Go.Proofs.Ytpfpokjaeffbjab.Pl Go.Proofs.Ytpfpokjaeffbjab.Dpl Go.Proofs.Ytpfpokjaeffbjab.Gpl Go.Proofs.Ytpfpokjaeffbjab.Kpl Go.Proofs.Ytpfpokjaeffbjab.Mem Go.Proofs.Ytpfpokjaeffbjab.Mpp Go.Proofs.Ytpfpokjaeffbjab.Spl Go.Proofs.Ytpfpokjaeffbjab.Ver Go.Proofs.Ytpfpokjaeffbjab.Grp
open Go.Proofs.Ytpfpokjaeffbjab.Sgn (Only SgAt SgIn ComsBut)
set_option linter.unusedVariables false

theorem coms_take {w : World} {base b cap : Nat} {e : TypeId} {l : List Cm} {n : Nat} (hn : l.length = n) (h : w.ownsRow base e 3 (.slice (some ⟨b, 0, none⟩) n cap) n (comCells l)) {j : Nat} (hj : j ≤ n) :
    Row w w.heap.size 3 (.slice (some ⟨b, 0, none⟩) j cap) j (comCells (l.take j)) := by
  obtain ⟨hl, A, c, hv, hc, hr⟩ := Row.own h
  simp only [Value.slice.injEq] at hv
  obtain ⟨rfl, -, rfl⟩ := hv
  refine ⟨by rw [comCells_length, List.length_take]; congr 1; omega, _, _, rfl, by omega, fun hp => ?_⟩
  obtain ⟨b', off, he, hb, hcell⟩ := hr (by omega)
  refine ⟨b', off, he, hb, fun m u hu => hcell m u ?_⟩
  have e : comCells l = comCells (l.take j) ++ comCells (l.drop j) := by rw [← comCells_append, List.take_append_drop]
  rw [e, List.getElem?_append_left (List.getElem?_eq_some_iff.1 hu).1]
  exact hu
theorem coms_drop {w : World} {base b cap : Nat} {e : TypeId} {l : List Cm} {n : Nat} (hn : l.length = n) (h : w.ownsRow base e 3 (.slice (some ⟨b, 0, none⟩) n cap) n (comCells l)) {j m : Nat} (hj : j ≤ n) (hm : n - j = m) (o c : Nat) (ho : o = j * 3) (hc : m ≤ c) :
    Row w w.heap.size 3 (.slice (some ⟨b, o, none⟩) m c) m (comCells (l.drop j)) := by
  subst ho hm
  obtain ⟨hl, A, c', hv, hc', hr⟩ := Row.own h
  simp only [Value.slice.injEq] at hv
  obtain ⟨rfl, -, rfl⟩ := hv
  refine ⟨by rw [comCells_length, List.length_drop, hn], _, _, rfl, hc, fun hp => ?_⟩
  obtain ⟨b', off, he, hb, hcell⟩ := hr (by omega)
  simp only [Option.some.injEq, Addr.mk.injEq, and_true] at he
  obtain ⟨rfl, rfl⟩ := he
  refine ⟨b, _, rfl, hb, fun k u hu => ?_⟩
  have e : comCells l = comCells (l.take j) ++ comCells (l.drop j) := by rw [← comCells_append, List.take_append_drop]
  have hlt : (comCells (l.take j)).length = j * 3 := by rw [comCells_length, List.length_take]; congr 1; omega
  have := hcell (j * 3 + k) u (by rw [e, List.getElem?_append_right (by omega), hlt, Nat.add_sub_cancel_left]; exact hu)
  rwa [Nat.zero_add] at this
section
variable {P : Program} {w : World}
/-- append of a row, at a step of a region that draws its order. -/
theorem step_append_row {ops : Array Oper} {o : Oper} {a : Act} {K : Act → World → Prop} {Q : Exit → Act → World → Prop} {E : Prop} (hgd : o.guard = none) (s x : Operand) (t : TypeId)
    (ho : o.op = .call { callee := .builtin .append, args := #[s, x], argTypes := #[t, t] })
    (base : Nat) (e : TypeId) (i : TypeInfo) (z : Value) (size bytes : Nat) (ht : P.underlying t = some (.slice e)) (hi : P.info? e = some i) (hz : i.zero = some z)
    (hsize : i.size = size) (hby : i.bytes = bytes) (hzs : z.cells.size = size) (hsz : 0 < size)
    (v : Value) (n : Nat) (xs : List Value) (hs : a.eval s = v) (hown : w.ownsRow base e size v n xs)
    (B : Nat) (u : Value) (m : Nat) (news : List Value) (hx : a.eval x = u) (hr : Row w B size u m news) (h1 : ∀ u ∈ news, u.oneCell' = true)
    (h63 : n + m ≤ maxLen) (hbytes : (n + m) * bytes ≤ 140737488355328) (hbase : base ≤ w.heap.size)
    (h : ∀ v' w', w'.ownsRow base e size v' (n + m) (xs ++ news) → w.grownBy w' v.ownBlock → K (a.put o.dst v') w') :
    if Region.wanted o (yielded ops a.tmps) = true then Oper.wp P o a w K Q else E := by
  have hw : Region.wanted o (yielded ops a.tmps) = true := by simp [Region.wanted, hgd]
  rw [if_pos hw]
  obtain ⟨v', w', hrun, h2, h3⟩ := run_append_row (P := P) w base t o.type e i z size bytes ht hi hz hsize hby hzs hsz v n xs hown B u m news hr h1 h63 hbytes hbase
  unfold Oper.wp execOp
  simp only [ho, resolve, invoke, builtin, Sem.run_bind, Sem.run_pure, Result.andThen_ok, List.map_toArray, List.map_cons, List.map_nil, hs, hx, hrun]
  exact h v' w' h2 h3
end
/-- A list of commitments in a block of its own, whatever becomes of the blocks X. -/
theorem comsBut_blk {X : List Nat} {w : World} {g : Nat} {T : TypeId} {C : Array Value} {l : List Cm} (h : Blk w g T C) (hC : C.toList = comCells l) (hg : g ∉ X) : ComsBut X w (.slice (some ⟨g, 0, none⟩) l.length l.length) l := fun w' ho => by
  have hb := ho.blk h hg
  refine ⟨comCells_length l, _, _, rfl, Nat.le_refl _, fun _ => ⟨g, 0, rfl, hb.lt, fun j u hu => ?_⟩⟩
  rw [Nat.zero_add, hb.cell, ← Array.getElem?_toList, hC]
  exact hu
/-- The signer's blocks are of the base's making. -/
theorem below_only {X : List Nat} {B : Nat} {w w' : World} (ho : Only X w w') (hX : ∀ k ∈ X, B ≤ k) (hB : B ≤ w.heap.size) : Below B w w' :=
  ⟨ho.os, ho.tape, ho.output, ho.size, fun k hk => ho.block k (by omega) (fun hk' => by have := hX k hk'; omega)⟩
theorem SgAt.only {w w' : World} {a : Sgn.Loc} {s : St} {X : List Nat} (h : SgAt w a s) (ho : Only X w w') (hX : ∀ k ∈ a.foot, k ∉ X) : SgAt w' a s :=
  h.keep fun k hk => ho.block k (h.lt k hk) (hX k hk)
theorem own_moved' {w w' : World} {base n : Nat} {e : TypeId} {size : Nat} {v : Value} {xs : List Value} (h : w.ownsRow base e size v n xs) (hb : ∀ g, v.ownBlock = some g → w'.heap[g]? = w.heap[g]?) : w'.ownsRow base e size v n xs := by
  refine ⟨h.1, ?_⟩
  rcases h.2 with h2 | ⟨g, cp, cur, hv, hbg, hh, r⟩
  · exact .inl h2
  · exact .inr ⟨g, cp, cur, hv, hbg, (hb g (by rw [hv]; rfl)).trans hh, r⟩
theorem row_only {X : List Nat} {w w' : World} {base : Nat} {v : Value} {n : Nat} {e : TypeId} {size : Nat} {xs : List Value} (h : w.ownsRow base e size v n xs) (hX : ∀ k ∈ X, k < base) (ho : Only X w w') : w'.ownsRow base e size v n xs :=
  own_moved' h fun g hg => ho.block g (h.lt g hg).2 (fun hk => by have := (h.lt g hg).1; have := hX g hk; omega)
/-- Sign's contract here: the list is a block of its own. -/
theorem signL {w : World} {a : Sgn.Loc} {s : St} {msg : ByteArray} {l : List Cm} {g n : Nat} {T : TypeId} {C : Array Value} (h : SgAt w a s) (hok : Ok s) (hb : Blk w g T C) (hC : C.toList = comCells l) (hg : g ∉ a.foot) (hn : l.length = n) (hl : l.length ≤ 65536)
    (hnn : ∀ c ∈ l, 0 ≤ c.d ∧ 0 ≤ c.e) (hms : msg.size ≤ 1000000) :
    Calls Try.prog 14 #[.pointer (some ⟨a.S, 0, none⟩), .string msg, .slice (some ⟨g, 0, none⟩) n n] w fun x w' => ∃ v e s', x = .returned (.tuple #[.int .u64 v, .int .i64 e]) ∧ SignRel s msg l v e s' ∧ SgAt w' a s' ∧ Only a.foot w w' := by
  obtain ⟨v, e, s', hr⟩ := signRel_is s msg l
  subst hn
  refine (Sgn.signC w a s msg l _ h hok (comsBut_blk hb hC hg) hl (fun i hi => ?_) hms v e s' hr).mono ?_
  · rw [List.getD_eq_getElem?_getD, List.getElem?_eq_getElem hi]
    exact hnn _ (List.getElem_mem hi)
  · rintro x w' ⟨h1, h2, h3⟩
    exact ⟨v, e, s', h1, hr, h2, h3⟩
theorem cm_nonneg (id : Int) (q : Int × Int) : 0 ≤ (cmOf id q).d ∧ 0 ≤ (cmOf id q).e := ⟨(pw_bd 4 _ (by omega)).1, (pw_bd 4 _ (by omega)).1⟩
/-- What the loop keeps of memory beside the signer: the list of the commitments that are kept; the other's commitment. -/
structure KW (w : World) (a : Sgn.Loc) (OB base : Nat) (wr : World) (v : Value) (n : Nat) (l : List Cm) : Prop where
  own : wr.ownsRow base 37 3 v n (comCells l)
  ob : Blk wr OB 37 #[.int .i64 oth.id, .int .u64 oth.d, .int .u64 oth.e]
  bw : Below w.heap.size w wr
  sz : base ≤ wr.heap.size
  foot : ∀ k ∈ a.foot, w.heap.size ≤ k ∧ k < OB
  obl : OB < base
section
variable {w wr w' : World} {a : Sgn.Loc} {OB base n : Nat} {v : Value} {l : List Cm}
theorem KW.only (h : KW w a OB base wr v n l) (ho : Only a.foot wr w') : KW w a OB base w' v n l :=
  ⟨row_only h.own (fun k hk => by have := (h.foot k hk).2; have := h.obl; omega) ho, ho.blk h.ob (fun hk => by have := (h.foot OB hk).2; omega), h.bw.trans (below_only ho (fun k hk => (h.foot k hk).1) h.bw.size), Nat.le_trans h.sz ho.size, h.foot, h.obl⟩
theorem KW.later (h : KW w a OB base wr v n l) (hb : Below wr.heap.size wr w') : KW w a OB base w' v n l :=
  ⟨own_below h.own hb (Nat.le_refl _), h.ob.below hb h.ob.lt, h.bw.trans (hb.mono h.bw.size), Nat.le_trans h.sz hb.size, h.foot, h.obl⟩
theorem KW.alloc (h : KW w a OB base wr v n l) (o : Obj) : KW w a OB base (wr.alloc o) v n l := h.later (below_box _ _)
theorem KW.drew (h : KW w a OB base wr v n l) : KW w a OB base wr.drew v n l := h.later (Below.refl _ _).drew
theorem sg_later {s : St} (h : SgAt wr a s) (hb : Below wr.heap.size wr w') : SgAt w' a s := h.keep fun k hk => hb.block k (h.lt k hk)
theorem KW.free (h : KW w a OB base wr v n l) {g : Nat} (hg : base ≤ g) : g ∉ a.foot := fun hk => by have := (h.foot g hk).2; have := h.obl; omega
theorem KW.lt (h : KW w a OB base wr v n l) : OB < wr.heap.size := h.ob.lt
/-- A commitment appended. -/
theorem KW.grown {v' : Value} {l' : List Cm} {n' : Nat} (h : KW w a OB base wr v n l) (hg : wr.grownBy w' v.ownBlock) (hown : w'.ownsRow base 37 3 v' n' (comCells l')) : KW w a OB base w' v' n' l' :=
  ⟨hown, h.ob.grown hg (fun e => by have := (h.own.lt OB e.symm).1; have := h.obl; omega), h.bw.grown hg h.bw.size (fun k hk => by have h1 := (h.own.lt k hk).1; have := h.obl; have := h.sz; have := h.bw.size; have h3 := h.foot a.S (by simp [Sgn.Loc.foot]); omega), Nat.le_trans h.sz hg.size, h.foot, h.obl⟩
theorem KW.sg {s : St} (h : KW w a OB base wr v n l) (hg : wr.grownBy w' v.ownBlock) (hs : SgAt wr a s) : SgAt w' a s :=
  hs.keep fun k hk => hg.block k (hs.lt k hk) (fun e => by have := (h.own.lt k e.symm).1; have := (h.foot k hk).2; have := h.obl; omega)
end
end Go.Proofs.Ytpfpokjaeffbjab.Kep
