/- Part of the proof: Wg2, Row, Mn1, Mn2, Mn3. -/
import Derived.Test.YtpfpokjaeffbjabBb7
set_option linter.unusedVariables false
set_option linter.unusedSimpArgs false
set_option maxRecDepth 100000
set_option maxHeartbeats 16000000
namespace Go.Proofs.Ytpfpokjaeffbjab
namespace Cc
open Go.Conc Go.ConcN
open Go.ConcR (KK wgBlock WgAt stA smA rd wr mk DC0)
open Go.ConcM (OsLater)
section
section
variable{q:ig}{i:Nat}{s:aO}{x:Wk}
theorem lC{st:St aJ}(hI:Inv q st)(hA:At s i x st){w₁:WG}{fA gs₁ dV:Nat}(p:WG->Bool):dF p {st.γ with wk:=upd st.γ.wk i {x with wg:=w₁,df:=fA},gs:=gs₁,gm:=dV} s+(if p x.wg=true then 1 else 0)=dF p st.γ s+if p w₁=true then 1 else 0:=by
 have:=Oc (p:=p) (γ:=st.γ) (γ':={st.γ with wk:=upd st.γ.wk i {x with wg:=w₁,df:=fA},gs:=gs₁,gm:=dV}) hA.lo (hA.hi hI) (fun j hj=>congrArg Wk.wg (upd_ne _ _ hj));rw[hA.me]at this;rw[this];show _+(if p (upd st.γ.wk i {x with wg:=w₁,df:=fA} i).wg=true then 1 else 0)=_;rw[dJ]
theorem ac1{st:St aJ}(hI:Inv q st)(hA:At s i x st)(hx:x.wg=.work):yO st.γ.mw (dF WG.cd {st.γ with wk:=upd st.γ.wk i {x with wg:=.rel,df:=x.df},gs:=st.γ.gs,gm:=st.γ.gm} s) (dF (·== .d2) {st.γ with wk:=upd st.γ.wk i {x with wg:=.rel,df:=x.df},gs:=st.γ.gs,gm:=st.γ.gm} s) (dF (·== .d3) {st.γ with wk:=upd st.γ.wk i {x with wg:=.rel,df:=x.df},gs:=st.γ.gs,gm:=st.γ.gm} s) (dF (·== .d4) {st.γ with wk:=upd st.γ.wk i {x with wg:=.rel,df:=x.df},gs:=st.γ.gs,gm:=st.γ.gm} s) st.γ.gs st.γ.gm:=by
 have h:=(hI.aZ s hA.sc).c.uh;have c1:=lC hI hA (w₁:=.rel) (fA:=x.df) (gs₁:=st.γ.gs) (dV:=st.γ.gm) WG.cd;have c2:=lC hI hA (w₁:=.rel) (fA:=x.df) (gs₁:=st.γ.gs) (dV:=st.γ.gm) (·== .d2);have c3:=lC hI hA (w₁:=.rel) (fA:=x.df) (gs₁:=st.γ.gs) (dV:=st.γ.gm) (·== .d3);have c4:=lC hI hA (w₁:=.rel) (fA:=x.df) (gs₁:=st.γ.gs) (dV:=st.γ.gm) (·== .d4);rw[hx]at c1 c2 c3 c4;simp[WG.cd]at c1 c2 c3 c4;rw[c1,c2,c3,c4];exact h
theorem Inv.rel{st:St aJ}(h:Inv q st)(hA:At s i x st)(hx:x.wg=.work)(hdf:x.df=0)(hz:x.zw=true)(hr:x.rw=true)(hm:x.mx=.fresh\/x.mx=.out)(fn:FuncId)(pos:String):
  Inv q ⟨st.w,st.t++MemOp.ofEvents i fn pos #[⟨.mark (.releaseMerge (stA s.Wg)),false,true⟩],{st.γ with wk:=upd st.γ.wk i {x with wg:=.rel,df:=x.df},gs:=st.γ.gs,gm:=st.γ.gm}⟩/\∀j,j≠i->Rl j st ⟨st.w,st.t++MemOp.ofEvents i fn pos #[⟨.mark (.releaseMerge (stA s.Wg)),false,true⟩],{st.γ with wk:=upd st.γ.wk i {x with wg:=.rel,df:=x.df},gs:=st.γ.gs,gm:=st.γ.gm}⟩:=by
 obtain⟨c,p,t⟩:=h.aZ s hA.sc;have A:=h.base.tr.Ic;have hi2:=hA.hi h;have hmx:∀j,(upd st.γ.wk i {x with wg:=.rel,df:=x.df} j).mx=(st.γ.wk j).mx:=fun j=>by
  unfold upd;split
  ·rename_i e;subst e;rw[hA.me]
  ·rfl
 have hwn:∀j,j≠i->upd st.γ.wk i {x with wg:=.rel,df:=x.df} j=st.γ.wk j:=fun j hj=>upd_ne _ _ hj
 have hwi:upd st.γ.wk i {x with wg:=.rel,df:=x.df} i={x with wg:=.rel,df:=x.df}:=dJ _ _ _;have hmm:({st.γ with wk:=upd st.γ.wk i {x with wg:=.rel,df:=x.df},gs:=st.γ.gs,gm:=st.γ.gm}:aJ).mm=st.γ.mm:=funext fun j=>hmx j
 have hps:=Q9 (γ:=st.γ) (γ':={st.γ with wk:=upd st.γ.wk i {x with wg:=.rel,df:=x.df},gs:=st.γ.gs,gm:=st.γ.gm}) hA.lo hi2 (fun j hj=>congrArg Wk.wg (hwn j hj));rw[show({st.γ with wk:=upd st.γ.wk i {x with wg:=.rel,df:=x.df},gs:=st.γ.gs,gm:=st.γ.gm}:aJ).wk i={x with wg:=.rel,df:=x.df}from hwi,hA.me,hx]at hps;replace hps:qL {st.γ with wk:=upd st.γ.wk i {x with wg:=.rel,df:=x.df},gs:=st.γ.gs,gm:=st.γ.gm} s+8=qL st.γ s+7:=hps;have nt:∀{e:Event},e∈(#[⟨.mark (.releaseMerge (stA s.Wg)),false,true⟩]:Array Event)->(MemAct.ofEvent e).touch?=none/\e=⟨.mark (.releaseMerge (stA s.Wg)),false,true⟩:=by
  intro e he;simp at he;subst he;exact⟨rfl,rfl⟩
 have hops:∀op∈MemOp.ofEvents i fn pos #[⟨.mark (.releaseMerge (stA s.Wg)),false,true⟩],op.g=i/\op.act.touch?=none:=fun op ho=>by obtain⟨e,he,rfl⟩:=dZ ho;exact⟨rfl,(nt he).1⟩
 refine h.gen hA.sc hA.mem (γ':={st.γ with wk:=upd st.γ.wk i {x with wg:=.rel,df:=x.df},gs:=st.γ.gs,gm:=st.γ.gm}) rfl rfl (fun _=>.rfl) (fun e he y hy=>by rw[(nt he).1]at hy;cases hy) (fun e he a=>by rw[(nt he).2];simp) (fun _ e he y hy=>by rw[(nt he).1]at hy;cases hy) (fun T=>T) (fun j hj l=>⟨id,id⟩) h.base.pool rfl (fun b=>.inl rfl) (.refl _) rfl hwn (fun _=>⟨rfl,rfl⟩) (fun e=>absurd e hA.ne) (fun _=>?_) (c.Uh hA (by simp) (by simp) (fun _ _=>rfl) c.qV ⟨hz,hr,hm⟩ (ac1 h hA hx)) (p.Uh hA (by simp)) ?_ ?_ (fun _=>⟨by omega,fun _=>rfl⟩) (fun j hj e=>⟨rfl,fun _ _ _=>rfl⟩) (.inl (Nat.le_refl _))
 ·refine⟨(congrArg Wk.df hwi).trans ?_,fun e=>?_⟩
  ·rw[hA.me];exact(cu fun e he=>by rw[(nt he).2];simp).symm
  ·have:=(congrArg Wk.wg hwi).symm.trans e;cases this
 ·have T:BD s ⟨st.w,st.t++MemOp.ofEvents i fn pos #[⟨.mark (.releaseMerge (stA s.Wg)),false,true⟩],st.γ⟩:=t.app (fun op ho=>(hops op ho).1) rfl rfl id (fun _ _ _ h=>h) (fun op ho y hy=>by rw[(hops op ho).2]at hy;cases hy) fun _ hw=>absurd (by rw[hA.me];exact hx) hw
  refine⟨fun h0 h1=>T.sh0 h0 fun j hj=>h1 j ((hmx j).trans hj),T.sh1,fun j hj hj2 hw=>?_⟩;by_cases e:j=i
  ·subst e;have hact:(st.t++MemOp.ofEvents j fn pos #[⟨.mark (.releaseMerge (stA s.Wg)),false,true⟩])[st.t.size]?=some {g:=j,fn,pos,act:=.mark (.releaseMerge (stA s.Wg))}:=by
    rw[wK];simp[MemAct.ofEvent]
   have hs:(st.t++MemOp.ofEvents j fn pos #[⟨.mark (.releaseMerge (stA s.Wg)),false,true⟩]).size=st.t.size+1:=by rw[wK];simp
   refine⟨st.t.size,⟨by simp only[Trace.act?,hact];rfl,by simp only[Trace.g?,hact];rfl,⟨j,by simp only[Trace.g?,hact];rfl,?_⟩,fun k hk hg=>?_⟩,fun k a hk hg ha=>?_⟩
   ·rw[deaf_old (Nat.le_refl _)];show Deaf st.t j=0;rw[h.base.TL j (by have:=hA.ne;omega) hA.lt,hA.me,hdf]
   ·exact(kD (t:=st.t) (fun op ho=>(hops op ho).2) (Nat.le_of_lt hk)).1
   ·rw[(kD (t:=st.t) (fun op ho=>(hops op ho).2) (Nat.le_of_lt hk)).2]at ha;cases ha
  ·exact T.rel j hj hj2 (by
    have hw:(upd st.γ.wk i {x with wg:=.rel,df:=x.df} j).wg≠ .work:=hw;rw[hwn j e]at hw;exact hw)
 ·refine⟨?_,fun _=>⟨rfl,rfl,rfl,rfl⟩,id⟩;show VU (aJ.mm {st.γ with wk:=upd st.γ.wk i {x with wg:=.rel,df:=x.df},gs:=st.γ.gs,gm:=st.γ.gm}) s.n0 s.n (st.γ.tn+st.γ.th)<=_;rw[hmm];exact Nat.le_refl _
variable{Ch:Nat->Goroutine->St aJ->Prop}
theorem TT.rel{P:Program}(hP:q.P=P){g:Goroutine}{st:St aJ}(hA:At s i x st)(hx:x.wg=.work)(hdf:x.df=0)(hz:x.zw=true)(hr:x.rw=true)(hm:x.mx=.fresh\/x.mx=.out)
  (h:∀ah,At s i x ah->Inv q ah->dX q s ah->∃g',stepG P (i==0) g ah.w=.go g' ah.w #[⟨.mark (.releaseMerge (stA s.Wg)),false,true⟩]/\g'.status=.running/\
   ∀ay,At s i {x with wg:=.rel,df:=x.df} ay->Inv q ay->TT (cfg q) i Ch g' ay):TT (cfg q) i Ch g st:=by
 subst hP;refine TT.act fun ah hr' hi=>?_
 have au:=hA.rely (by rw[hx];simp) hr' hi;obtain⟨g',h1,h2,h3⟩:=h ah au hi (hi.aZ s au.sc).c;have k:=hi.rel au hx hdf hz hr hm g.frame.fn g.frame.place;exact⟨au.oh (by rw[hx];simp),g',_,_,{ah.γ with wk:=upd ah.γ.wk i {x with wg:=.rel,df:=x.df},gs:=ah.γ.gs,gm:=ah.γ.gm},h1,h2,rfl,k,.inr (mZ (by rfl) (by rfl) (by rfl) (by rfl) fun k hk=>by exact upd_ne _ _ hk),h3 _ (au.next hi rfl rfl rfl (dJ _ _ _) (fun _ h=>h) fun _ _ _ _ _=>rfl) k.1⟩
theorem TT.Uh{P:Program}(hP:q.P=P){g:Goroutine}{st:St aJ}(hA:At s i x st)(hx:x.wg≠ .work/\x.wg≠ .idle/\x.wg≠ .lv/\x.wg≠ .gone)
  (h:∀ah,At s i x ah->Inv q ah->dX q s ah->∃g' w' es w₁ gs₁ dV,stepG P (i==0) g ah.w=.go g' w' es/\g'.status=.running/\(w₁≠ .work/\w₁≠ .idle/\w₁≠ .gone/\w₁.cr<x.wg.cr)/\
   Zl s x.df es/\(w'.heap.size=ah.w.heap.size/\(∀b,b≠s.Wg->w'.heap[b]?=ah.w.heap[b]?)/\OsLater ah.w.os w'.os/\w'.output=ah.w.output)/\WgAt q.tW s.Wg w' (gs₁:Nat) (dV:Nat)/\
   (∀c d2 d3 d4:Nat,c+(if x.wg.cd=true then 1 else 0)=dF WG.cd ah.γ s+(if w₁.cd=true then 1 else 0)->d2+(if(x.wg== .d2)=true then 1 else 0)=dF (·== .d2) ah.γ s+(if(w₁== .d2)=true then 1 else 0)->
    d3+(if(x.wg== .d3)=true then 1 else 0)=dF (·== .d3) ah.γ s+(if(w₁== .d3)=true then 1 else 0)->d4+(if(x.wg== .d4)=true then 1 else 0)=dF (·== .d4) ah.γ s+(if(w₁== .d4)=true then 1 else 0)->yO ah.γ.mw c d2 d3 d4 gs₁ dV)/\
   (mayWake P g=true\/dV=ah.γ.gm)/\∀ay,At s i {x with wg:=w₁,df:=deafBehind x.df es} ay->Inv q ay->ay.γ.gs=gs₁->TT (cfg q) i Ch g' ay):TT (cfg q) i Ch g st:=by
 subst hP;refine TT.act fun ah hr' hi=>?_
 have au:=hA.rely ⟨hx.2.2.1,hx.2.2.2,hx.2.1⟩ hr' hi;obtain⟨g',w',es,w₁,gs₁,dV,h1,h2,h3,h4,h5,h6,h7,h8,h9⟩:=h ah au hi (hi.aZ s au.sc).c;have k:=hi.Uh au hx.1 h3.1 h3.2.1 h3.2.2.1 hx.2.1 h4 h5.1 h5.2.1 h5.2.2.1 h5.2.2.2 h6 h3.2.2.2 rfl (h7 _ _ _ _ (lC hi au WG.cd) (lC hi au (·== .d2)) (lC hi au (·== .d3)) (lC hi au (·== .d4))) g.frame.fn g.frame.place;refine⟨au.oh ⟨hx.2.2.1,hx.2.2.2⟩,g',w',es,{ah.γ with wk:=upd ah.γ.wk i {x with wg:=w₁,df:=deafBehind x.df es},gs:=gs₁,gm:=dV},h1,h2,rfl,k,h8.imp id fun e=>?_,h9 _ (au.next hi rfl rfl rfl (dJ _ _ _) (fun _ h=>h) fun b _ hb _ _=>h5.2.1 b hb) k.1 rfl⟩;exact mZ (st:=ah) (by rfl) (by rfl) (by exact e) (by rfl) fun k hk=>by exact upd_ne _ _ hk
end
end
section
section
variable{q:ig}{i:Nat}{s:aO}{x:Wk}
theorem uy.block{b n:Nat}{t:TypeId}{f:Nat->Bool}{v:Nat->Value}{w w':World}(h:uy b n t f v w)(e:w'.heap[b]?=w.heap[b]?){f':Nat->Bool}(hf:∀k,k<n->f' k=true->f k=true):uy b n t f' v w':=by
 obtain⟨Z,z1,z2,z3,z4⟩:=h;exact⟨Z,e.trans z1,z2,z3,fun k k1 k2=>z4 k k1 (hf k k1 k2)⟩
theorem uy.lay{b n:Nat}{t:TypeId}{f f':Nat->Bool}{v:Nat->Value}{w:World}(h:uy b n t f v w){k:Nat}(hk:k<n)(hv:(∀a,v k≠Value.agg a)/\∀a,v k≠Value.tuple a)(hf:∀j,j<n->f' j=true->f j=true\/j=k):uy b n t f' v (w.setCell ⟨b,k,none⟩ (v k)):=by
 obtain⟨Z,z1,z2,z3,z4⟩:=h;refine⟨Z.setIfInBounds k (v k),by rw[setCell_eq_setRow w b k Z t (0,0) _ z1,setRow_heap w b _ _ t _ z1],by simpa using z2,fun j y hy=>?_,fun j j1 j2=>?_⟩
 ·by_cases e:k=j
  ·subst e;rw[Array.getElem?_setIfInBounds_self_of_lt (by omega)]at hy;cases hy;exact hv
  ·rw[Array.getElem?_setIfInBounds_ne e]at hy;exact z3 j y hy
 ·by_cases e:k=j
  ·subst e;rw[Array.getElem?_setIfInBounds_self_of_lt (by omega)]
  ·rw[Array.getElem?_setIfInBounds_ne e];exact z4 j j1 ((hf j j1 j2).resolve_right (Ne.symm e))
theorem Inv.WY{st:St aJ}(h:Inv q st)(hA:At s i x st)(hx:x.wg=.work){k:Nat}(hk:i=s.n0+k)(hv:(∀a,s.zv k≠Value.agg a)/\∀a,s.zv k≠Value.tuple a)(fn:FuncId)(pos:String):
  Inv q ⟨st.w.setCell ⟨s.Zb,k,none⟩ (s.zv k),st.t++MemOp.ofEvents i fn pos #[⟨.cell ⟨s.Zb,k,none⟩,true,false⟩],{st.γ with wk:=upd st.γ.wk i {x with zw:=true}}⟩/\
  ∀j,j≠i->Rl j st ⟨st.w.setCell ⟨s.Zb,k,none⟩ (s.zv k),st.t++MemOp.ofEvents i fn pos #[⟨.cell ⟨s.Zb,k,none⟩,true,false⟩],{st.γ with wk:=upd st.γ.wk i {x with zw:=true}}⟩:=by
 obtain⟨c,p,t⟩:=h.aZ s hA.sc;have A:=h.base.tr.Ic;have hl:=c.SS;have hi2:=hA.hi h;have hkn:k<s.n:=by omega
 have TB:=(p.J3 k hkn (by rw[<-hk];exact hA.lt) (by rw[<-hk,hA.me];exact hx)).1;rw[<-hk]at TB;have W:=aside_setCell st.w ⟨s.Zb,k,none⟩ (s.zv k);have at_:∀j,upd st.γ.wk i {x with zw:=true} j=if j=i then{x with zw:=true}else st.γ.wk j:=fun j=>rfl
 have hmx:∀j,(upd st.γ.wk i {x with zw:=true} j).mx=(st.γ.wk j).mx:=fun j=>by
  rw[at_];split
  ·rename_i e;subst e;rw[hA.me]
  ·rfl
 have hwg:∀j,(upd st.γ.wk i {x with zw:=true} j).wg=(st.γ.wk j).wg:=fun j=>by
  rw[at_];split
  ·rename_i e;subst e;rw[hA.me]
  ·rfl
 have pJ:∀j,(upd st.γ.wk i {x with zw:=true} j).syn=(st.γ.wk j).syn:=fun j=>by
  rw[at_];split
  ·rename_i e;subst e;rw[hA.me]
  ·rfl
 have hrw:∀j,(upd st.γ.wk i {x with zw:=true} j).rw=(st.γ.wk j).rw:=fun j=>by
  rw[at_];split
  ·rename_i e;subst e;rw[hA.me]
  ·rfl
 have hzw:∀j,(upd st.γ.wk i {x with zw:=true} j).zw=true->(st.γ.wk j).zw=true\/j=i:=fun j=>by
  rw[at_];split
  ·rename_i e;exact fun _=>.inr e
  ·exact .inl
 have by4:∀j,(st.γ.wk j).zw=true->(upd st.γ.wk i {x with zw:=true} j).zw=true:=fun j h=>by
  rw[at_];split
  ·rfl
  ·exact h
 have hdf:∀j,(upd st.γ.wk i {x with zw:=true} j).df=(st.γ.wk j).df:=fun j=>by
  rw[at_];split
  ·rename_i e;subst e;rw[hA.me]
  ·rfl
 have hmm:({st.γ with wk:=upd st.γ.wk i {x with zw:=true}}:aJ).mm=st.γ.mm:=funext fun j=>hmx j
 have xY:∀{e:Event},e∈(#[⟨.cell ⟨s.Zb,k,none⟩,true,false⟩]:Array Event)->∀{y:Touch},(MemAct.ofEvent e).touch?=some y->y=⟨ca s.Zb k,true,.plain⟩:=by
  intro e he y hy;simp at he;subst he;cases hy;rfl
 have hops:∀op∈MemOp.ofEvents i fn pos #[⟨.cell ⟨s.Zb,k,none⟩,true,false⟩],op.g=i:=fun op ho=>by obtain⟨e,_,rfl⟩:=dZ ho;rfl
 have cellS:∀off,(st.w.setCell ⟨s.Zb,k,none⟩ (s.zv k)).cell? ⟨s.Gb,off,none⟩=st.w.cell? ⟨s.Gb,off,none⟩:=fun off=>World.cell?_setCell_other _ ⟨s.Zb,k,none⟩ ⟨s.Gb,off,none⟩ _ (by have:=c.ne.2.1;simp;omega)
 refine h.gen hA.sc hA.mem (γ':={st.γ with wk:=upd st.γ.wk i {x with zw:=true}}) rfl rfl (fun _=>.rfl) (fun e he y hy=>?_) (fun e he a=>?_) (fun _ e he y hy=>by rw[xY he hy];simp) (fun T=>T) (fun j hj l=>⟨id,id⟩) h.base.pool W.size (fun b=>?_) (by rw[W.os];exact .refl _) W.output (fun j hj=>upd_ne _ _ hj) (fun _=>⟨rfl,rfl⟩) (fun e=>absurd e hA.ne) (fun _=>?_) ?_ ?_ ?_ ?_ (fun _=>⟨Nat.le_of_eq (rD hwg s),fun _=>rfl⟩) (fun j hj e=>⟨rfl,fun off _ _=>cellS off⟩) (.inl (Nat.le_refl _))
 ·rw[xY he hy];refine⟨.inr (.inl TB),fun b hb=>?_⟩;have hb:fE (ca s.Zb k)=some b:=hb;have:s.Zb=b:=by unfold ca fE at hb;simpa using hb
  rw[W.size];omega
 ·simp at he;subst he;simp
 ·by_cases e:b=s.Zb
  ·exact .inr (.inr (.inr (.inr (.inl e))))
  ·exact .inl (W.block b e)
 ·refine⟨(hdf i).trans (cu fun e he=>?_).symm,by show(upd st.γ.wk i _ i).wg≠_;rw[hwg,hA.me,hx];simp⟩;simp at he;subst he;simp
 ·exact{
   n0:=c.n0
   gb:=c.gb.of (W.block _ c.ne.2.1) rfl ⟨rfl,rfl,rfl,rfl⟩ rfl
   qV:=c.qV.of_block (W.block _ c.ne.2.2.2.1)
   zb:=c.zb.lay hkn hv fun j _ hj=>(hzw (s.n0+j) hj).imp id fun e=>by omega
   rb:=c.rb.block (W.block _ c.ne.2.2.2.2.2.symm) fun j _ hj=>(hrw (s.n0+j)).symm.trans hj
   ne:=c.ne
   mu:=by have:=c.mu;rw[<-hmm]at this;exact this
   D1:=c.D1
   work:=fun j hj=>c.work j ((hmx j).symm.trans hj)
   dn:=fun j hj=>c.dn j ((hmx j).symm.trans hj)
   syn:=fun j h0 hj=>c.syn j h0 ((pJ j).symm.trans hj)
   new:=fun j hj=>by
    have hne:j≠i:=by have:=hA.lt;have hj:st.γ.num<=j:=hj;omega
    show upd st.γ.wk i _ j=_;rw[upd_ne _ _ hne];exact c.new j hj
   on:=fun j h1 h2=>by show(upd st.γ.wk i _ j).wg≠_;rw[hwg];exact c.on j h1 h2
   fin:=fun j h1 h2 h3=>by
    have h2:(upd st.γ.wk i {x with zw:=true} j).wg≠ .idle:=h2;have h3:(upd st.γ.wk i {x with zw:=true} j).wg≠ .work:=h3;rw[hwg]at h2 h3;obtain⟨a,b,d⟩:=c.fin j h1 h2 h3;exact⟨by4 j a,(hrw j).trans b,by have:=d;rw[<-hmx j]at this;exact this⟩
   all:=c.all
   uh:=by
    have w:=c.uh;rw[<-fV (γ':={st.γ with wk:=upd st.γ.wk i {x with zw:=true}}) hwg s,<-fV (p:=(·== .d2)) (γ':={st.γ with wk:=upd st.γ.wk i {x with zw:=true}}) hwg s,<-fV (p:=(·== .d3)) (γ':={st.γ with wk:=upd st.γ.wk i {x with zw:=true}}) hwg s,<-fV (p:=(·== .d4)) (γ':={st.γ with wk:=upd st.γ.wk i {x with zw:=true}}) hwg s]at w;exact w}
 ·refine⟨p.spec,fun k k1 k2 k3=>p.J3 k k1 k2 ((hwg _).symm.trans k3),p.Qj,p.OE,p.OC,fun j hj=>p.exS j ((hmx j).symm.trans hj),fun j h0 hj=>p.Xc j h0 ((pJ j).symm.trans hj),fun hn=>p.noS fun j hj=>hn j ((hmx j).trans hj)⟩
 ·refine t.app hops rfl rfl (fun hn j hj=>hn j ((hmx j).trans hj)) (fun j _ _ hw=>by rw[<-hwg];exact hw) (fun op ho y hy=>?_) fun hn hw=>absurd (by rw[hA.me];exact hx) hw
  obtain⟨e,he,rfl⟩:=dZ ho;rw[xY he hy];have:=c.ne.2.1;refine⟨fun off _ _ e=>?_,fun e=>?_⟩
  ·unfold ca at e;simp at e;omega
  ·unfold ca at e;simp at e;omega
 ·unfold phi;rw[hmm];exact⟨Nat.le_refl _,fun _=>⟨rfl,rfl,rfl,rfl⟩,id⟩
variable{Ch:Nat->Goroutine->St aJ->Prop}
theorem TT.WY{P:Program}(hP:q.P=P){g:Goroutine}{st:St aJ}(hA:At s i x st)(hx:x.wg=.work){k:Nat}(hk:i=s.n0+k)(hv:(∀a,s.zv k≠Value.agg a)/\∀a,s.zv k≠Value.tuple a)
  (h:∀ah,Rl i st ah->Inv q ah->At s i x ah->dX q s ah->∃g',stepG P (i==0) g ah.w=.go g' (ah.w.setCell ⟨s.Zb,k,none⟩ (s.zv k)) #[⟨.cell ⟨s.Zb,k,none⟩,true,false⟩]/\g'.status=.running/\
   ∀ay,At s i {x with zw:=true} ay->Inv q ay->(∀l,ah.γ.rd i l->ay.γ.rd i l)->(∀b,b≠s.Zb->ay.w.heap[b]?=ah.w.heap[b]?)->TT (cfg q) i Ch g' ay):TT (cfg q) i Ch g st:=by
 subst hP;refine TT.act fun ah hr hi=>?_
 have au:=hA.rely (by rw[hx];simp) hr hi;obtain⟨g',h1,h2,h3⟩:=h ah hr hi au (hi.aZ s au.sc).c;have k':=hi.WY au hx hk hv g.frame.fn g.frame.place;exact⟨au.oh (by rw[hx];simp),g',_,_,{ah.γ with wk:=upd ah.γ.wk i {x with zw:=true}},h1,h2,rfl,k',.inr (mZ (by rfl) (by rfl) (by rfl) (by rfl) fun k hk=>by exact upd_ne _ _ hk),h3 _ (au.next hi rfl rfl rfl (dJ _ _ _) (fun _ h=>h) fun b _ _ a3 _=>(aside_setCell ah.w ⟨s.Zb,k,none⟩ (s.zv k)).block b a3) k'.1 (fun _ h=>h) fun b hb=>(aside_setCell ah.w ⟨s.Zb,k,none⟩ (s.zv k)).block b hb⟩
theorem Inv.QY{st:St aJ}(h:Inv q st)(hA:At s i x st)(hx:x.wg=.work){k:Nat}(hk:i=s.n0+k)(hv:(∀a,s.rv k≠Value.agg a)/\∀a,s.rv k≠Value.tuple a)(fn:FuncId)(pos:String):
  Inv q ⟨st.w.setCell ⟨s.Rb,k,none⟩ (s.rv k),st.t++MemOp.ofEvents i fn pos #[⟨.cell ⟨s.Rb,k,none⟩,true,false⟩],{st.γ with wk:=upd st.γ.wk i {x with rw:=true}}⟩/\
  ∀j,j≠i->Rl j st ⟨st.w.setCell ⟨s.Rb,k,none⟩ (s.rv k),st.t++MemOp.ofEvents i fn pos #[⟨.cell ⟨s.Rb,k,none⟩,true,false⟩],{st.γ with wk:=upd st.γ.wk i {x with rw:=true}}⟩:=by
 obtain⟨c,p,t⟩:=h.aZ s hA.sc;have A:=h.base.tr.Ic;have hl:=c.SS;have hi2:=hA.hi h;have hkn:k<s.n:=by omega
 have TB:=(p.J3 k hkn (by rw[<-hk];exact hA.lt) (by rw[<-hk,hA.me];exact hx)).2;rw[<-hk]at TB;have W:=aside_setCell st.w ⟨s.Rb,k,none⟩ (s.rv k);have at_:∀j,upd st.γ.wk i {x with rw:=true} j=if j=i then{x with rw:=true}else st.γ.wk j:=fun j=>rfl
 have hmx:∀j,(upd st.γ.wk i {x with rw:=true} j).mx=(st.γ.wk j).mx:=fun j=>by
  rw[at_];split
  ·rename_i e;subst e;rw[hA.me]
  ·rfl
 have hwg:∀j,(upd st.γ.wk i {x with rw:=true} j).wg=(st.γ.wk j).wg:=fun j=>by
  rw[at_];split
  ·rename_i e;subst e;rw[hA.me]
  ·rfl
 have pJ:∀j,(upd st.γ.wk i {x with rw:=true} j).syn=(st.γ.wk j).syn:=fun j=>by
  rw[at_];split
  ·rename_i e;subst e;rw[hA.me]
  ·rfl
 have hzq:∀j,(upd st.γ.wk i {x with rw:=true} j).zw=(st.γ.wk j).zw:=fun j=>by
  rw[at_];split
  ·rename_i e;subst e;rw[hA.me]
  ·rfl
 have hrq:∀j,(upd st.γ.wk i {x with rw:=true} j).rw=true->(st.γ.wk j).rw=true\/j=i:=fun j=>by
  rw[at_];split
  ·rename_i e;exact fun _=>.inr e
  ·exact .inl
 have hrw2:∀j,(st.γ.wk j).rw=true->(upd st.γ.wk i {x with rw:=true} j).rw=true:=fun j h=>by
  rw[at_];split
  ·rfl
  ·exact h
 have hdf:∀j,(upd st.γ.wk i {x with rw:=true} j).df=(st.γ.wk j).df:=fun j=>by
  rw[at_];split
  ·rename_i e;subst e;rw[hA.me]
  ·rfl
 have hmm:({st.γ with wk:=upd st.γ.wk i {x with rw:=true}}:aJ).mm=st.γ.mm:=funext fun j=>hmx j
 have xY:∀{e:Event},e∈(#[⟨.cell ⟨s.Rb,k,none⟩,true,false⟩]:Array Event)->∀{y:Touch},(MemAct.ofEvent e).touch?=some y->y=⟨ca s.Rb k,true,.plain⟩:=by
  intro e he y hy;simp at he;subst he;cases hy;rfl
 have hops:∀op∈MemOp.ofEvents i fn pos #[⟨.cell ⟨s.Rb,k,none⟩,true,false⟩],op.g=i:=fun op ho=>by obtain⟨e,_,rfl⟩:=dZ ho;rfl
 have cellS:∀off,(st.w.setCell ⟨s.Rb,k,none⟩ (s.rv k)).cell? ⟨s.Gb,off,none⟩=st.w.cell? ⟨s.Gb,off,none⟩:=fun off=>World.cell?_setCell_other _ ⟨s.Rb,k,none⟩ ⟨s.Gb,off,none⟩ _ (by have:=c.ne.2.2.1;simp;omega)
 refine h.gen hA.sc hA.mem (γ':={st.γ with wk:=upd st.γ.wk i {x with rw:=true}}) rfl rfl (fun _=>.rfl) (fun e he y hy=>?_) (fun e he a=>?_) (fun _ e he y hy=>by rw[xY he hy];simp) (fun T=>T) (fun j hj l=>⟨id,id⟩) h.base.pool W.size (fun b=>?_) (by rw[W.os];exact .refl _) W.output (fun j hj=>upd_ne _ _ hj) (fun _=>⟨rfl,rfl⟩) (fun e=>absurd e hA.ne) (fun _=>?_) ?_ ?_ ?_ ?_ (fun _=>⟨Nat.le_of_eq (rD hwg s),fun _=>rfl⟩) (fun j hj e=>⟨rfl,fun off _ _=>cellS off⟩) (.inl (Nat.le_refl _))
 ·rw[xY he hy];refine⟨.inr (.inl TB),fun b hb=>?_⟩;have hb:fE (ca s.Rb k)=some b:=hb;have:s.Rb=b:=by unfold ca fE at hb;simpa using hb
  rw[W.size];omega
 ·simp at he;subst he;simp
 ·by_cases e:b=s.Rb
  ·exact .inr (.inr (.inr (.inr (.inr e))))
  ·exact .inl (W.block b e)
 ·refine⟨(hdf i).trans (cu fun e he=>?_).symm,by show(upd st.γ.wk i _ i).wg≠_;rw[hwg,hA.me,hx];simp⟩;simp at he;subst he;simp
 ·exact{
   n0:=c.n0
   gb:=c.gb.of (W.block _ c.ne.2.2.1) rfl ⟨rfl,rfl,rfl,rfl⟩ rfl
   qV:=c.qV.of_block (W.block _ c.ne.2.2.2.2.1)
   rb:=c.rb.lay hkn hv fun j _ hj=>(hrq (s.n0+j) hj).imp id fun e=>by omega
   zb:=c.zb.block (W.block _ c.ne.2.2.2.2.2) fun j _ hj=>(hzq (s.n0+j)).symm.trans hj
   ne:=c.ne
   mu:=by have:=c.mu;rw[<-hmm]at this;exact this
   D1:=c.D1
   work:=fun j hj=>c.work j ((hmx j).symm.trans hj)
   dn:=fun j hj=>c.dn j ((hmx j).symm.trans hj)
   syn:=fun j h0 hj=>c.syn j h0 ((pJ j).symm.trans hj)
   new:=fun j hj=>by
    have hne:j≠i:=by have:=hA.lt;have hj:st.γ.num<=j:=hj;omega
    show upd st.γ.wk i _ j=_;rw[upd_ne _ _ hne];exact c.new j hj
   on:=fun j h1 h2=>by show(upd st.γ.wk i _ j).wg≠_;rw[hwg];exact c.on j h1 h2
   fin:=fun j h1 h2 h3=>by
    have h2:(upd st.γ.wk i {x with rw:=true} j).wg≠ .idle:=h2;have h3:(upd st.γ.wk i {x with rw:=true} j).wg≠ .work:=h3;rw[hwg]at h2 h3;obtain⟨a,b,d⟩:=c.fin j h1 h2 h3;exact⟨(hzq j).trans a,hrw2 j b,by have:=d;rw[<-hmx j]at this;exact this⟩
   all:=c.all
   uh:=by
    have w:=c.uh;rw[<-fV (γ':={st.γ with wk:=upd st.γ.wk i {x with rw:=true}}) hwg s,<-fV (p:=(·== .d2)) (γ':={st.γ with wk:=upd st.γ.wk i {x with rw:=true}}) hwg s,<-fV (p:=(·== .d3)) (γ':={st.γ with wk:=upd st.γ.wk i {x with rw:=true}}) hwg s,<-fV (p:=(·== .d4)) (γ':={st.γ with wk:=upd st.γ.wk i {x with rw:=true}}) hwg s]at w;exact w}
 ·refine⟨p.spec,fun k k1 k2 k3=>p.J3 k k1 k2 ((hwg _).symm.trans k3),p.Qj,p.OE,p.OC,fun j hj=>p.exS j ((hmx j).symm.trans hj),fun j h0 hj=>p.Xc j h0 ((pJ j).symm.trans hj),fun hn=>p.noS fun j hj=>hn j ((hmx j).trans hj)⟩
 ·refine t.app hops rfl rfl (fun hn j hj=>hn j ((hmx j).trans hj)) (fun j _ _ hw=>by rw[<-hwg];exact hw) (fun op ho y hy=>?_) fun hn hw=>absurd (by rw[hA.me];exact hx) hw
  obtain⟨e,he,rfl⟩:=dZ ho;rw[xY he hy];have:=c.ne.2.2.1;refine⟨fun off _ _ e=>?_,fun e=>?_⟩
  ·unfold ca at e;simp at e;omega
  ·unfold ca at e;simp at e;omega
 ·unfold phi;rw[hmm];exact⟨Nat.le_refl _,fun _=>⟨rfl,rfl,rfl,rfl⟩,id⟩
theorem TT.QY{P:Program}(hP:q.P=P){g:Goroutine}{st:St aJ}(hA:At s i x st)(hx:x.wg=.work){k:Nat}(hk:i=s.n0+k)(hv:(∀a,s.rv k≠Value.agg a)/\∀a,s.rv k≠Value.tuple a)
  (h:∀ah,Rl i st ah->Inv q ah->At s i x ah->dX q s ah->∃g',stepG P (i==0) g ah.w=.go g' (ah.w.setCell ⟨s.Rb,k,none⟩ (s.rv k)) #[⟨.cell ⟨s.Rb,k,none⟩,true,false⟩]/\g'.status=.running/\
   ∀ay,At s i {x with rw:=true} ay->Inv q ay->(∀l,ah.γ.rd i l->ay.γ.rd i l)->(∀b,b≠s.Rb->ay.w.heap[b]?=ah.w.heap[b]?)->TT (cfg q) i Ch g' ay):TT (cfg q) i Ch g st:=by
 subst hP;refine TT.act fun ah hr hi=>?_
 have au:=hA.rely (by rw[hx];simp) hr hi;obtain⟨g',h1,h2,h3⟩:=h ah hr hi au (hi.aZ s au.sc).c;have k':=hi.QY au hx hk hv g.frame.fn g.frame.place;exact⟨au.oh (by rw[hx];simp),g',_,_,{ah.γ with wk:=upd ah.γ.wk i {x with rw:=true}},h1,h2,rfl,k',.inr (mZ (by rfl) (by rfl) (by rfl) (by rfl) fun k hk=>by exact upd_ne _ _ hk),h3 _ (au.next hi rfl rfl rfl (dJ _ _ _) (fun _ h=>h) fun b _ _ _ a3=>(aside_setCell ah.w ⟨s.Rb,k,none⟩ (s.rv k)).block b a3) k'.1 (fun _ h=>h) fun b hb=>(aside_setCell ah.w ⟨s.Rb,k,none⟩ (s.rv k)).block b hb⟩
end
end
section
structure nP(s:aO)(mw:MW)(dm num:Nat)(K:List (Nat×Obj))(st:St aJ):Prop where
 sc:st.γ.sc=some s
 mw:st.γ.mw=mw
 dm:st.γ.dm=dm
 num:st.γ.num=num
 fz:∀b o,(b,o)∈K->st.w.heap[b]?=some o/\((∀off,st.γ.ex 0 (ca b off))\/∀off,st.γ.rd 0 (ca b off))
 nd:∀b o,(b,o)∈K->¬st.γ.dead b
section
variable{q:ig}{s:aO}{mw:MW}{dm num:Nat}{K:List (Nat×Obj)}
theorem nP.rely{st ah:St aJ}(h:nP s mw dm num K st)(hr:Rl 0 st ah):nP s mw dm num K ah:=by
 obtain⟨m1,m2,m3,m4⟩:=hr.main rfl;refine⟨(hr.sc (.inl rfl)).trans h.sc,m1.trans h.mw,m2.trans h.dm,m3.trans h.num,fun b o hb=>?_,fun b o hb hx=>h.nd b o hb ((m4 b).1 hx)⟩;obtain⟨h1,h2⟩:=h.fz b o hb;exact⟨(hr.blk (.inl rfl) b h2).trans h1,h2.imp (fun x off=>hr.ex (.inl rfl) _ (x off)) fun x off=>hr.rd (.inl rfl) _ (x off)⟩
theorem nP.apart{st:St aJ}(h:nP s mw dm num K st)(hi:Inv q st){b:Nat}{o:Obj}(hb:(b,o)∈K):b≠s.Gb/\b≠s.Wg/\b≠s.Zb/\b≠s.Rb:=by
 have p:=(hi.aZ s h.sc).p.spec 0;have hr:=(h.fz b o hb).2;have key:∀b',(b'=s.Gb\/b'=s.Wg\/b'=s.Zb\/b'=s.Rb)->b≠b':=fun b' hb' e=>by
  obtain⟨⟨o1,h1⟩,o2,h2⟩:=p b' hb';rcases hr with hr|hr
  ·exact h1 (e ▸ hr o1)
  ·exact h2 (e ▸ hr o2)
 exact⟨key _ (.inl rfl),key _ (.inr (.inl rfl)),key _ (.inr (.inr (.inl rfl))),key _ (.inr (.inr (.inr rfl)))⟩
theorem nP.next{st ay:St aJ}(h:nP s mw dm num K st)(hi:Inv q st){mw':MW}{dm':Nat}(hsc:ay.γ.sc=st.γ.sc)(hmw:ay.γ.mw=mw')(hdm:ay.γ.dm=dm')(hnum:ay.γ.num=st.γ.num)(hex:∀l,st.γ.ex 0 l->ay.γ.ex 0 l)(hrd:∀l,st.γ.rd 0 l->ay.γ.rd 0 l)(hdd:∀b,ay.γ.dead b->st.γ.dead b)(hb:∀b,b≠s.Gb->b≠s.Wg->b≠s.Zb->b≠s.Rb->b<st.w.heap.size->ay.w.heap[b]?=st.w.heap[b]?):nP s mw' dm' num K ay:=by
 refine⟨hsc.trans h.sc,hmw,hdm,hnum.trans h.num,fun b o hbo=>?_,fun b o hbo hx=>h.nd b o hbo (hdd b hx)⟩;obtain⟨a1,a2,a3,a4⟩:=h.apart hi hbo;obtain⟨h1,h2⟩:=h.fz b o hbo;exact⟨(hb b a1 a2 a3 a4 (lt_of_block h1)).trans h1,h2.imp (fun x off=>hex _ (x off)) fun x off=>hrd _ (x off)⟩
def EvM(s:aO)(e:Event):Prop:=(∃m,e.loc=.mark m/\(∀a,m≠ .release a)/\(∀a,m≠ .read a)/\∀a,m≠ .write a)\/(∃off y,e=⟨ca s.Wg off,y,true⟩/\off<2)\/∃off,off<2/\(e.loc=.mark (.read ⟨s.Wg,off,none⟩)\/e.loc=.mark (.write ⟨s.Wg,off,none⟩))
theorem Inv.PV{st:St aJ}(h:Inv q st)(hs:st.γ.sc=some s){l7:MW}{gs₁ dV:Nat}{es:Array Event}{w':World}(hev:∀e∈es,EvM s e)(hsz:w'.heap.size=st.w.heap.size)(hb:∀b,b≠s.Wg->w'.heap[b]?=st.w.heap[b]?)(hos:OsLater st.w.os w'.os)(hout:w'.output=st.w.output)(hW:WgAt q.tW s.Wg w' gs₁ dV)
  (hmw:l7≠ .solo)(hall:l7=.wt\/l7=.rg\/l7=.lI->st.γ.num=s.n0+s.n)(hL:yO l7 (dF WG.cd st.γ s) (dF (·== .d2) st.γ s) (dF (·== .d3) st.γ s) (dF (·== .d4) st.γ s) gs₁ dV)(fn:FuncId)(pos:String):
  Inv q ⟨w',st.t++MemOp.ofEvents 0 fn pos es,{st.γ with mw:=l7,dm:=deafBehind st.γ.dm es,gs:=gs₁,gm:=dV}⟩/\∀j,j≠0->Rl j st ⟨w',st.t++MemOp.ofEvents 0 fn pos es,{st.γ with mw:=l7,dm:=deafBehind st.γ.dm es,gs:=gs₁,gm:=dV}⟩:=by
 have X:=h.aZ s hs;have c:=X.c;have n0:=c.n0;refine h.act hs (.inl rfl) (γ':={st.γ with mw:=l7,dm:=deafBehind st.γ.dm es,gs:=gs₁,gm:=dV}) ⟨rfl,rfl,rfl,rfl,rfl,rfl⟩ (fun e he=>?_) (fun e he=>?_) hsz (fun b _ hb'=>hb b hb') (fun off _ _=>cell_of (hb _ c.ne.1)) hos hout (fun _ _=>rfl) (fun e=>absurd rfl e) (fun _=>⟨rfl,rfl,hmw⟩) (fun e=>absurd rfl e) ?_ ⟨X.p.spec,X.p.J3,X.p.Qj,X.p.OE,X.p.OC,X.p.exS,X.p.Xc,X.p.noS⟩ rfl id (fun hw h0=>by omega) (fun h0 _=>by omega) ⟨Nat.le_refl _,fun _=>⟨rfl,rfl,rfl,rfl⟩⟩ (fun e=>absurd rfl e) (.inl (Nat.le_refl _))
 ·rcases hev e he with⟨m,h1,h2⟩|⟨off,y,rfl,ho⟩|⟨off,ho,hm⟩
  ·exact .inr (.inl ⟨m,h1,h2⟩)
  ·exact .inl ⟨_,_,_,rfl,.inr ⟨rfl,ho⟩⟩
  ·exact .inr (.inr ⟨rfl,off,ho,hm⟩)
 ·intro e';rcases hev e he with⟨m,h1,_⟩|⟨off,y,h1,ho⟩|⟨off,ho,hm|hm⟩
  ·rw[e']at h1;unfold ca at h1;cases h1
  ·rw[e']at h1;have:s.Gb=s.Wg:=by unfold ca at h1;simp at h1;exact h1.1.1
   exact c.ne.1 this
  ·rw[e']at hm;unfold ca at hm;cases hm
  ·rw[e']at hm;unfold ca at hm;cases hm
 ·exact{
   n0:=c.n0
   gb:=c.gb.of (hb _ c.ne.1) rfl ⟨rfl,rfl,rfl,rfl⟩ rfl
   qV:=hW
   zb:=c.zb.block (hb _ c.ne.2.2.2.1.symm) fun _ _ h=>h
   rb:=c.rb.block (hb _ c.ne.2.2.2.2.1.symm) fun _ _ h=>h
   ne:=c.ne
   mu:=c.mu
   D1:=c.D1
   work:=c.work
   dn:=c.dn
   syn:=c.syn
   new:=c.new
   on:=c.on
   fin:=c.fin
   all:=hall
   uh:=hL}
variable{Ch:Nat->Goroutine->St aJ->Prop}
theorem TT.PV{P:Program}(hP:q.P=P){g:Goroutine}{st:St aJ}(hA:nP s mw dm num K st)
  (h:∀ah,nP s mw dm num K ah->Inv q ah->dX q s ah->qL ah.γ s<=qL st.γ s->(qL ah.γ s=qL st.γ s->ah.γ.gs=st.γ.gs)->∃g' w' es l7 gs₁ dV,stepG P (0==0) g ah.w=.go g' w' es/\g'.status=.running/\(∀e∈es,EvM s e)/\(w'.heap.size=ah.w.heap.size/\(∀b,b≠s.Wg->w'.heap[b]?=ah.w.heap[b]?)/\OsLater ah.w.os w'.os/\w'.output=ah.w.output)/\WgAt q.tW s.Wg w' (gs₁:Nat) (dV:Nat)/\
   l7≠ .solo/\(l7=.wt\/l7=.rg\/l7=.lI->num=s.n0+s.n)/\yO l7 (dF WG.cd ah.γ s) (dF (·== .d2) ah.γ s) (dF (·== .d3) ah.γ s) (dF (·== .d4) ah.γ s) gs₁ dV/\
   ∀ay,nP s l7 (deafBehind dm es) num K ay->Inv q ay->ay.γ.gs=gs₁->qL ay.γ s=qL ah.γ s->TT (cfg q) 0 Ch g' ay):TT (cfg q) 0 Ch g st:=by
 subst hP;refine TT.act fun ah hr' hi=>?_
 have au:=hA.rely hr';obtain⟨p1,p2⟩:=hr'.qL rfl s hA.sc;obtain⟨g',w',es,l7,gs₁,dV,h1,h2,h3,h4,h5,h6,h7,h8,h9⟩:=h ah au hi (hi.aZ s au.sc).c p1 p2;have k:=hi.PV au.sc h3 h4.1 h4.2.1 h4.2.2.1 h4.2.2.2 h5 h6 (by rw[au.num];exact h7) h8 g.frame.fn g.frame.place;refine⟨fun hl=>hl.1 rfl,g',w',es,{ah.γ with mw:=l7,dm:=deafBehind ah.γ.dm es,gs:=gs₁,gm:=dV},h1,h2,rfl,k,.inr fun k hk hw=>?_,h9 _ (au.next hi rfl rfl (by show deafBehind ah.γ.dm es=_;rw[au.dm]) rfl (fun _ h=>h) (fun _ h=>h) (fun _ h=>h) fun b _ hb _ _ _=>h4.2.1 b hb) k.1 rfl rfl⟩;obtain⟨w1,w2⟩:=hw;exact⟨w1,w2.imp (fun⟨a,_⟩=>absurd a hk) id⟩
end
end
section
def yI(γ:aJ)(s:aO)(k:Nat)(F:Nat->Prop):Nat->Loc->Prop:=fun g l=>(γ.ex g l/\¬(g=0/\(l=ca s.Zb k\/l=ca s.Rb k\/∃b,F b/\fE l=some b)))\/(g=γ.num/\(l=ca s.Zb k\/l=ca s.Rb k))
def yH(γ:aJ)(s:aO)(F Fr:Nat->Prop):Nat->Loc->Prop:=fun g l=>γ.rd g l\/((g=0\/g=γ.num)/\∃b off,(F b\/Fr b)/\l=ca b off)\/(g=γ.num/\∃off,off<3/\l=ca s.Gb off)
def yG(γ:aJ):Nat->Loc->Prop:=fun g l=>γ.sh g l\/(g=γ.num/\γ.sh 0 l)
theorem fU{b b' o o':Nat}(h:ca b o=ca b' o'):b=b'/\o=o':=by unfold ca at h;simpa using h
section
variable{q:ig}{s:aO}{k:Nat}{F Fr:Nat->Prop}{keep:List (Nat×Obj)}
theorem Inv.fork{st:St aJ}(h:Inv q st)(hs:st.γ.sc=some s)(hmw:st.γ.mw=.ad)(hdm:st.γ.dm=0)(hk:st.γ.num=s.n0+k)(hkn:k<s.n)(hF:∀b,F b->∀off,st.γ.ex 0 (ca b off))(hFr:∀b,Fr b->∀off,st.γ.rd 0 (ca b off)){x y:MemOp}(hx:x.g=0/\x.act=.go st.γ.num)(hy:y.g=st.γ.num/\y.act=.start):
  Inv q ⟨st.w,st.t++#[x,y],{st.γ with num:=st.γ.num+1,mw:=.sp,wk:=upd st.γ.wk st.γ.num {mx:=.fresh,zw:=false,rw:=false,syn:=false,wg:=.work,df:=0,keep:=keep},ex:=yI st.γ s k F,rd:=yH st.γ s F Fr,sh:=yG st.γ}⟩/\∀j,j≠0->j<st.γ.num->Rl j st ⟨st.w,st.t++#[x,y],{st.γ with num:=st.γ.num+1,mw:=.sp,wk:=upd st.γ.wk st.γ.num {mx:=.fresh,zw:=false,rw:=false,syn:=false,wg:=.work,df:=0,keep:=keep},ex:=yI st.γ s k F,rd:=yH st.γ s F Fr,sh:=yG st.γ}⟩:=by
 obtain⟨c,p,T⟩:=h.aZ s hs;have A:=h.base.tr.Ic;have n0:=c.n0;have pos:=h.base.pos;have hl:=c.SS;have pool:=h.base.pool;have bk3:=p.Qj k hkn (by omega);have notS:∀b,F b\/Fr b->b≠s.Gb/\b≠s.Wg/\b≠s.Zb/\b≠s.Rb:=fun b hb=>by
  have key:∀b',(b'=s.Gb\/b'=s.Wg\/b'=s.Zb\/b'=s.Rb)->b≠b':=fun b' hb' e=>by
   obtain⟨⟨o1,h1⟩,o2,h2⟩:=p.spec 0 b' hb';rcases hb with hb|hb
   ·exact h1 (e ▸ hF b hb o1)
   ·exact h2 (e ▸ hFr b hb o2)
  exact⟨key _ (.inl rfl),key _ (.inr (.inl rfl)),key _ (.inr (.inr (.inl rfl))),key _ (.inr (.inr (.inr rfl)))⟩
 have exn:∀l,¬st.γ.ex st.γ.num l:=fun l hl=>by have:=pool _ l (.inl hl);omega
 have rdn:∀l,¬st.γ.rd st.γ.num l:=fun l hl=>by have:=pool _ l (.inr (.inl hl));omega
 have shn:∀l,¬st.γ.sh st.γ.num l:=fun l hl=>by have:=pool _ l (.inr (.inr hl));omega
 have Xd:=p.OE 0 (.inl rfl);have Pz:∀l,(l=ca s.Zb k\/l=ca s.Rb k)->st.γ.ex 0 l:=fun l hl=>by rcases hl with rfl|rfl;exact bk3.1;exact bk3.2
 have A':QC st.w.heap.size (yI st.γ s k F) (yH st.γ s F Fr) (yG st.γ):=by
  refine⟨fun g g' l h1 h2=>?_,fun g g' l h1 h2=>?_,fun g g' l h1 h2=>?_,fun g g' l h1 h2=>?_,fun g l h1 b hb=>?_,fun g l h1 b hb=>?_,fun g l h1 b hb=>?_,fun g l h1=>?_⟩
  ·rcases h1 with⟨h1,n1⟩|⟨rfl,h1⟩<;>rcases h2 with⟨h2,n2⟩|⟨rfl,h2⟩
   ·exact A.ee _ _ _ h1 h2
   ·have:=A.ee _ _ _ h1 (Pz l h2);exact absurd ⟨this,h2.imp id .inl⟩ n1
   ·have:=A.ee _ _ _ h2 (Pz l h1);exact absurd ⟨this,h1.imp id .inl⟩ n2
   ·rfl
  ·rcases h1 with⟨h1,n1⟩|⟨rfl,h1⟩
   ·rcases h2 with h2|⟨_,b,off,hb,rfl⟩|⟨_,off,ho,rfl⟩
    ·exact A.er _ _ _ h1 h2
    ·rcases hb with hb|hb
     ·exact n1 ⟨A.ee _ _ _ h1 (hF b hb off),.inr (.inr ⟨b,hb,rfl⟩)⟩
     ·exact A.er _ _ _ h1 (hFr b hb off)
    ·exact A.er _ _ _ h1 (Xd off ho)
   ·have e0:=Pz l h1;rcases h2 with h2|⟨_,b,off,hb,rfl⟩|⟨_,off,ho,rfl⟩
    ·exact A.er _ _ _ e0 h2
    ·have:=notS b hb;rcases h1 with h1|h1
     ·exact this.2.2.1 (fU h1).1
     ·exact this.2.2.2 (fU h1).1
    ·exact A.er _ _ _ e0 (Xd off ho)
  ·have e:st.γ.ex g l\/st.γ.ex 0 l:=by
    rcases h1 with⟨h1,_⟩|⟨_,h1⟩
    ·exact .inl h1
    ·exact .inr (Pz l h1)
   have f:st.γ.sh g' l\/st.γ.sh 0 l:=by
    rcases h2 with h2|⟨_,h2⟩
    ·exact .inl h2
    ·exact .inr h2
   rcases e with e|e<;>rcases f with f|f<;>exact A.es _ _ _ e f
  ·have f:st.γ.sh g' l\/st.γ.sh 0 l:=by
    rcases h2 with h2|⟨_,h2⟩
    ·exact .inl h2
    ·exact .inr h2
   rcases h1 with h1|⟨_,b,off,hb,rfl⟩|⟨_,off,ho,rfl⟩
   ·rcases f with f|f<;>exact A.rs _ _ _ h1 f
   ·rcases hb with hb|hb
    ·rcases f with f|f<;>exact A.es _ _ _ (hF b hb off) f
    ·rcases f with f|f<;>exact A.rs _ _ _ (hFr b hb off) f
   ·rcases f with f|f<;>exact A.rs _ _ _ (Xd off ho) f
  ·rcases h1 with⟨h1,_⟩|⟨_,h1⟩
   ·exact A.low _ _ h1 b hb
   ·exact A.low _ _ (Pz l h1) b hb
  ·rcases h1 with h1|⟨_,b',off,hb',rfl⟩|⟨_,off,ho,rfl⟩
   ·exact A.zf _ _ h1 b hb
   ·rcases hb' with hb'|hb'
    ·exact A.low _ _ (hF b' hb' off) b hb
    ·exact A.zf _ _ (hFr b' hb' off) b hb
   ·exact A.zf _ _ (Xd off ho) b hb
  ·rcases h1 with h1|⟨_,h1⟩
   ·exact A.slow _ _ h1 b hb
   ·exact A.slow _ _ h1 b hb
  ·rcases h1 with h1|h1|h1
   ·rcases h1 with⟨h1,_⟩|⟨_,h1⟩
    ·exact A.mem _ _ (.inl h1)
    ·exact A.mem _ _ (.inl (Pz l h1))
   ·rcases h1 with h1|⟨_,b',off,hb',rfl⟩|⟨_,off,ho,rfl⟩
    ·exact A.mem _ _ (.inr (.inl h1))
    ·rfl
    ·rfl
   ·rcases h1 with h1|⟨_,h1⟩
    ·exact A.mem _ _ (.inr (.inr h1))
    ·exact A.mem _ _ (.inr (.inr h1))
 have hd0:Deaf st.t 0=0:=by rw[h.base.dfm,hdm]
 have htr:Ie (st.t++#[x,y]) (st.γ.num+1) st.w.heap.size (yI st.γ s k F) (yH st.γ s F Fr) (yG st.γ):=by
  refine h.base.tr.fork pos hx hy hd0 A' (fun g l hl=>?_) (fun g l hl=>?_) fun g l hl=>?_
  ·split
   ·rename_i e;rcases hl with⟨hl,_⟩|⟨_,hl⟩
    ·rw[e]at hl;exact absurd hl (exn l)
    ·exact Pz l hl
   ·rename_i e;rcases hl with⟨hl,_⟩|⟨hl,_⟩
    ·exact hl
    ·exact absurd hl e
  ·split
   ·rename_i e;rcases hl with hl|⟨_,b,off,hb,rfl⟩|⟨_,off,ho,rfl⟩
    ·rw[e]at hl;exact absurd hl (rdn l)
    ·rcases hb with hb|hb
     ·exact .inr (hF b hb off)
     ·exact .inl (hFr b hb off)
    ·exact .inl (Xd off ho)
   ·rename_i e;rcases hl with hl|⟨hg,b,off,hb,rfl⟩|⟨hg,off,ho,rfl⟩
    ·exact .inl hl
    ·rcases hg with rfl|hg
     ·rcases hb with hb|hb
      ·exact .inr (hF b hb off)
      ·exact .inl (hFr b hb off)
     ·exact absurd hg e
    ·exact absurd hg e
  ·split
   ·rename_i e;rcases hl with hl|⟨_,hl⟩
    ·rw[e]at hl;exact absurd hl (shn l)
    ·exact hl
   ·rename_i e;rcases hl with hl|⟨hl,_⟩
    ·exact hl
    ·exact absurd hl e
 have nt:∀op∈#[x,y],op.act.touch?=none:=by
  intro op ho;simp at ho;rcases ho with rfl|rfl
  ·rw[hx.2];rfl
  ·rw[hy.2];rfl
 have told:∀{i:Nat} {a:Touch},touchAt (st.t++#[x,y]) i=some a->i<st.t.size/\touchAt st.t i=some a:=by
  intro i a ha;rcases eu ha with h1|⟨_,op,hop,_,hxa⟩
  ·exact h1
  ·rw[nt op hop]at hxa;cases hxa
 have gold:∀{i g:Nat},i<st.t.size->((st.t++#[x,y]).g? i=some g↔st.t.g? i=some g):=fun hi=>by simp only[Trace.g?,getElem?_append_old hi]
 have deaf:∀j,Deaf (st.t++#[x,y]) j=Deaf st.t j:=fun j=>by
  have e:#[x,y]=([x,y]:List MemOp).toArray:=rfl;rw[e,Deaf_append];simp[deafStep,hx.2,hy.2]
 have OV:∀j,j≠st.γ.num->upd st.γ.wk st.γ.num {mx:=.fresh,zw:=false,rw:=false,syn:=false,wg:=.work,df:=0,keep:=keep} j=st.γ.wk j:=fun j hj=>upd_ne _ _ hj
 have ZI:upd st.γ.wk st.γ.num {mx:=.fresh,zw:=false,rw:=false,syn:=false,wg:=.work,df:=0,keep:=keep} st.γ.num={mx:=.fresh,zw:=false,rw:=false,syn:=false,wg:=.work,df:=0,keep:=keep}:=dJ _ _ _;have new:=c.new st.γ.num (Nat.le_refl _);have hmx:∀j,(upd st.γ.wk st.γ.num {mx:=.fresh,zw:=false,rw:=false,syn:=false,wg:=.work,df:=0,keep:=keep} j).mx=(st.γ.wk j).mx:=fun j=>by
  by_cases e:j=st.γ.num
  ·rw[e,ZI,new];rfl
  ·rw[OV j e]
 have pJ:∀j,(upd st.γ.wk st.γ.num {mx:=.fresh,zw:=false,rw:=false,syn:=false,wg:=.work,df:=0,keep:=keep} j).syn=(st.γ.wk j).syn:=fun j=>by
  by_cases e:j=st.γ.num
  ·rw[e,ZI,new];rfl
  ·rw[OV j e]
 have hmm:({st.γ with num:=st.γ.num+1,mw:=.sp,wk:=upd st.γ.wk st.γ.num {mx:=.fresh,zw:=false,rw:=false,syn:=false,wg:=.work,df:=0,keep:=keep},ex:=yI st.γ s k F,rd:=yH st.γ s F Fr,sh:=yG st.γ}:aJ).mm=st.γ.mm:=funext fun j=>hmx j
 have hold:st.γ.old=s.n0:=by unfold aJ.old;rw[hs]
 have hold':({st.γ with num:=st.γ.num+1,mw:=.sp,wk:=upd st.γ.wk st.γ.num {mx:=.fresh,zw:=false,rw:=false,syn:=false,wg:=.work,df:=0,keep:=keep},ex:=yI st.γ s k F,rd:=yH st.γ s F Fr,sh:=yG st.γ}:aJ).old=s.n0:=by unfold aJ.old;rw[hs]
 have cnt:∀(p:WG->Bool),p .idle=false->dF p {st.γ with num:=st.γ.num+1,mw:=.sp,wk:=upd st.γ.wk st.γ.num {mx:=.fresh,zw:=false,rw:=false,syn:=false,wg:=.work,df:=0,keep:=keep},ex:=yI st.γ s k F,rd:=yH st.γ s F Fr,sh:=yG st.γ} s=dF p st.γ s+if p .work=true then 1 else 0:=fun p hp=>by
  have:=Oc (p:=p) (γ:=st.γ) (γ':={st.γ with num:=st.γ.num+1,mw:=.sp,wk:=upd st.γ.wk st.γ.num {mx:=.fresh,zw:=false,rw:=false,syn:=false,wg:=.work,df:=0,keep:=keep},ex:=yI st.γ s k F,rd:=yH st.γ s F Fr,sh:=yG st.γ}) (s:=s) (i:=st.γ.num) (by omega) (by omega) (fun j hj=>congrArg Wk.wg (OV j hj));rw[new,show({st.γ with num:=st.γ.num+1,mw:=.sp,wk:=upd st.γ.wk st.γ.num {mx:=.fresh,zw:=false,rw:=false,syn:=false,wg:=.work,df:=0,keep:=keep},ex:=yI st.γ s k F,rd:=yH st.γ s F Fr,sh:=yG st.γ}:aJ).wk st.γ.num=_ from ZI]at this;simp only[Wk.new,hp]at this
  simpa using this
 refine⟨⟨⟨by show 0<st.γ.num+1;omega,htr,h.base.Nu,(deaf 0).trans h.base.dfm,fun j hj hj2=>?_,fun j hj=>?_,h.base.os,h.base.out,fun j hj hj2=>?_,h.base.dead,fun i a ha hm=>?_,fun i g hg hne hlt hc=>?_,fun g l hl=>?_,fun j hj=>?_,fun j hj=>?_,fun i a ha hk'=>?_,h.base.dsc⟩,?_,fun s' hs'=>?_⟩,fun j hj hj2=>?_⟩
 ·show Deaf (st.t++#[x,y]) j=(upd st.γ.wk st.γ.num _ j).df;rw[deaf j];have hj2:j<st.γ.num+1:=hj2;by_cases e:j=st.γ.num
  ·rw[e,ZI];exact Deaf_absent fun i op hi e'=>by have:=h.base.tr.gs i op hi;omega
  ·rw[OV j e];exact h.base.TL j hj (by omega)
 ·have hj:(upd st.γ.wk st.γ.num {mx:=.fresh,zw:=false,rw:=false,syn:=false,wg:=.work,df:=0,keep:=keep} j).wg=.gone:=hj;show j≠0/\j<st.γ.num+1/\(upd st.γ.wk st.γ.num _ j).df=0;by_cases e:j=st.γ.num
  ·rw[e,ZI]at hj;cases hj
  ·rw[OV j e]at hj ⊢;obtain⟨a,b,d⟩:=h.base.gone j hj;exact⟨a,by omega,d⟩
 ·replace hj2:j<({st.γ with num:=st.γ.num+1,mw:=.sp,wk:=upd st.γ.wk st.γ.num {mx:=.fresh,zw:=false,rw:=false,syn:=false,wg:=.work,df:=0,keep:=keep},ex:=yI st.γ s k F,rd:=yH st.γ s F Fr,sh:=yG st.γ}:aJ).old:=hj2;rw[hold']at hj2;show(upd st.γ.wk st.γ.num _ j).wg=.lv\/(upd st.γ.wk st.γ.num _ j).wg=.gone;rw[OV j (by omega)];exact h.base.old j hj (by rw[hold];exact hj2)
 ·obtain⟨hlt,ha'⟩:=told ha;show(∃b,fE a.loc=some b/\st.γ.dead b)\/Knows (st.t++#[x,y]) 0 i\/∃g,(st.t++#[x,y]).g? i=some g/\({st.γ with num:=st.γ.num+1,mw:=.sp,wk:=upd st.γ.wk st.γ.num {mx:=.fresh,zw:=false,rw:=false,syn:=false,wg:=.work,df:=0,keep:=keep},ex:=yI st.γ s k F,rd:=yH st.γ s F Fr,sh:=yG st.γ}:aJ).old<=g;rw[hold'];rcases h.base.know i a ha' hm with h1|h1|⟨g,h1,h2⟩
  ·exact .inl h1
  ·exact .inr (.inl (h1.app _))
  ·exact .inr (.inr ⟨g,(gold hlt).2 h1,by rw[hold]at h2;exact h2⟩)
 ·replace hlt:g<({st.γ with num:=st.γ.num+1,mw:=.sp,wk:=upd st.γ.wk st.γ.num {mx:=.fresh,zw:=false,rw:=false,syn:=false,wg:=.work,df:=0,keep:=keep},ex:=yI st.γ s k F,rd:=yH st.γ s F Fr,sh:=yG st.γ}:aJ).old:=hlt;rw[hold']at hlt;have hc:(st.t++#[x,y]).counts i:=hc;rcases Nat.lt_or_ge i st.t.size with hi|hi
  ·obtain⟨j,h1,h2⟩:=h.base.ho i g ((gold hi).1 hg) hne (by rw[hold];exact hlt) (by rw[counts_old hi]at hc;exact hc);have hj:j<st.t.size:=by
    unfold Trace.g? at h1;obtain⟨op,ho,_⟩:=Option.map_eq_some_iff.1 h1;exact lt_size_of_getElem? ho
   exact⟨j,(gold hj).2 h1,hb_app _ h2⟩
  ·exact absurd hc (kD nt hi).1
 ·show g<st.γ.num+1;rcases hl with(⟨hl,_⟩|⟨hl,_⟩)|(hl|⟨hg,_⟩|⟨hl,_⟩)|(hl|⟨hl,_⟩)
  ·have:=pool g l (.inl hl);omega
  ·omega
  ·have:=pool g l (.inr (.inl hl));omega
  ·rcases hg with rfl|hg<;>omega
  ·omega
  ·have:=pool g l (.inr (.inr hl));omega
  ·omega
 ·replace hj:j<({st.γ with num:=st.γ.num+1,mw:=.sp,wk:=upd st.γ.wk st.γ.num {mx:=.fresh,zw:=false,rw:=false,syn:=false,wg:=.work,df:=0,keep:=keep},ex:=yI st.γ s k F,rd:=yH st.γ s F Fr,sh:=yG st.γ}:aJ).old:=hj;rw[hold']at hj;show(upd st.γ.wk st.γ.num _ j).mx=.fresh\/(upd st.γ.wk st.γ.num _ j).mx=.out;rw[hmx];exact h.base.Xr j (by rw[hold];exact hj)
 ·have hj:st.γ.num+1<=j:=hj;exact(OV j (by omega)).trans (h.base.nw j (by omega))
 ·obtain⟨hlt,ha'⟩:=told ha;exact(gold hlt).2 (h.base.said i a ha' hk')
 ·show st.γ.sc=none↔MW.sp=.solo;rw[hs];simp
 ·have hs':st.γ.sc=some s':=hs';rw[hs]at hs';cases hs';refine⟨?_,?_,?_⟩
  ·exact{
    n0:=⟨n0.1,by show s.n0<=st.γ.num+1;omega,by show st.γ.num+1<=_;omega,n0.2.2.2⟩
    gb:=c.gb
    qV:=c.qV
    zb:=c.zb.block rfl fun k' _ hf=>by
     have hf:(upd st.γ.wk st.γ.num {mx:=.fresh,zw:=false,rw:=false,syn:=false,wg:=.work,df:=0,keep:=keep} (s.n0+k')).zw=true:=hf;by_cases e:s.n0+k'=st.γ.num
     ·rw[e,ZI]at hf;cases hf
     ·rw[OV _ e]at hf;exact hf
    rb:=c.rb.block rfl fun k' _ hf=>by
     have hf:(upd st.γ.wk st.γ.num {mx:=.fresh,zw:=false,rw:=false,syn:=false,wg:=.work,df:=0,keep:=keep} (s.n0+k')).rw=true:=hf;by_cases e:s.n0+k'=st.γ.num
     ·rw[e,ZI]at hf;cases hf
     ·rw[OV _ e]at hf;exact hf
    ne:=c.ne
    mu:=by have:=c.mu;rw[<-hmm]at this;exact this
    D1:=c.D1
    work:=fun j hj=>c.work j ((hmx j).symm.trans hj)
    dn:=fun j hj=>c.dn j ((hmx j).symm.trans hj)
    syn:=fun j h0 hj=>c.syn j h0 ((pJ j).symm.trans hj)
    new:=fun j hj=>by
     have hj:st.γ.num+1<=j:=hj;exact(OV j (by omega)).trans (c.new j (by omega))
    on:=fun j h1 h2=>by
     have h2:j<st.γ.num+1:=h2;show(upd st.γ.wk st.γ.num _ j).wg≠_;by_cases e:j=st.γ.num
     ·rw[e,ZI];simp
     ·rw[OV j e];exact c.on j h1 (by omega)
    fin:=fun j h1 h2 h3=>by
     have h2:(upd st.γ.wk st.γ.num {mx:=.fresh,zw:=false,rw:=false,syn:=false,wg:=.work,df:=0,keep:=keep} j).wg≠ .idle:=h2;have h3:(upd st.γ.wk st.γ.num {mx:=.fresh,zw:=false,rw:=false,syn:=false,wg:=.work,df:=0,keep:=keep} j).wg≠ .work:=h3;show(upd st.γ.wk st.γ.num {mx:=.fresh,zw:=false,rw:=false,syn:=false,wg:=.work,df:=0,keep:=keep} j).zw=true/\(upd st.γ.wk st.γ.num {mx:=.fresh,zw:=false,rw:=false,syn:=false,wg:=.work,df:=0,keep:=keep} j).rw=true/\((upd st.γ.wk st.γ.num {mx:=.fresh,zw:=false,rw:=false,syn:=false,wg:=.work,df:=0,keep:=keep} j).mx=.fresh\/(upd st.γ.wk st.γ.num {mx:=.fresh,zw:=false,rw:=false,syn:=false,wg:=.work,df:=0,keep:=keep} j).mx=.out);by_cases e:j=st.γ.num
     ·rw[e,ZI]at h3;exact absurd rfl h3
     ·rw[OV j e]at h2 h3 ⊢;exact c.fin j h1 h2 h3
    all:=fun hm=>by
     have hm:MW.sp=.wt\/MW.sp=.rg\/MW.sp=.lI:=hm;simp at hm
    uh:=by
     have w:=c.uh;rw[hmw]at w;show yO .sp (dF WG.cd _ s) (dF (·== .d2) _ s) (dF (·== .d3) _ s) (dF (·== .d4) _ s) st.γ.gs st.γ.gm;rw[cnt WG.cd rfl,cnt (·== .d2) rfl,cnt (·== .d3) rfl,cnt (·== .d4) rfl];simp only[yO]at w ⊢;simp[WG.cd];exact w}
  ·refine⟨fun g b hb=>?_,fun k' k1 k2 k3=>?_,fun k' k1 k2=>?_,fun g hg off ho=>?_,fun g hg=>?_,fun j hj off o1 o2=>?_,fun j h0 hj off o1 o2=>.inl (p.Xc j h0 ((pJ j).symm.trans hj) off o1 o2),fun hn g off o1 o2=>?_⟩
   ·obtain⟨⟨o1,h1⟩,o2,h2⟩:=p.spec g b hb;by_cases e:g=st.γ.num
    ·subst e;refine⟨⟨k+1,fun hx=>?_⟩,3,fun hx=>?_⟩
     ·rcases hx with⟨hx,_⟩|⟨_,hx|hx⟩
      ·exact exn _ hx
      ·have:=(fU hx).2;omega
      ·have:=(fU hx).2;omega
     ·rcases hx with hx|⟨_,b',off,hb',e⟩|⟨_,off,ho,e⟩
      ·exact rdn _ hx
      ·have:=notS b' hb';rw[(fU e).1]at hb;rcases hb with hb|hb|hb|hb
       ·exact this.1 hb
       ·exact this.2.1 hb
       ·exact this.2.2.1 hb
       ·exact this.2.2.2 hb
      ·have:=(fU e).2;omega
    ·refine⟨⟨o1,fun hx=>?_⟩,o2,fun hx=>?_⟩
     ·rcases hx with⟨hx,_⟩|⟨hx,_⟩
      ·exact h1 hx
      ·exact e hx
     ·rcases hx with hx|⟨_,b',off,hb',e'⟩|⟨hx,_⟩
      ·exact h2 hx
      ·have:=notS b' hb';rw[(fU e').1]at hb;rcases hb with hb|hb|hb|hb
       ·exact this.1 hb
       ·exact this.2.1 hb
       ·exact this.2.2.1 hb
       ·exact this.2.2.2 hb
      ·exact e hx
   ·have k2:s.n0+k'<st.γ.num+1:=k2;have k3:(upd st.γ.wk st.γ.num {mx:=.fresh,zw:=false,rw:=false,syn:=false,wg:=.work,df:=0,keep:=keep} (s.n0+k')).wg=.work:=k3;by_cases e:s.n0+k'=st.γ.num
    ·have:k'=k:=by omega
     subst this;exact⟨.inr ⟨e,.inl rfl⟩,.inr ⟨e,.inr rfl⟩⟩
    ·rw[OV _ e]at k3;obtain⟨a,b⟩:=p.J3 k' k1 (by omega) k3;exact⟨.inl ⟨a,fun h0=>by have:=h0.1;omega⟩,.inl ⟨b,fun h0=>by have:=h0.1;omega⟩⟩
   ·have k2:st.γ.num+1<=s.n0+k':=k2;obtain⟨a,b⟩:=p.Qj k' k1 (by omega);refine⟨.inl ⟨a,fun h0=>?_⟩,.inl ⟨b,fun h0=>?_⟩⟩
    ·rcases h0.2 with e|e|⟨b',hb',e⟩
     ·have:=(fU e).2;omega
     ·exact c.ne.2.2.2.2.2 (fU e).1
     ·have e:s.Zb=b':=by unfold ca fE at e;simpa using e
      exact(notS b' (.inl hb')).2.2.1 e.symm
    ·rcases h0.2 with e|e|⟨b',hb',e⟩
     ·exact c.ne.2.2.2.2.2 (fU e).1.symm
     ·have:=(fU e).2;omega
     ·have e:s.Rb=b':=by unfold ca fE at e;simpa using e
      exact(notS b' (.inl hb')).2.2.2 e.symm
   ·by_cases e:g=st.γ.num
    ·exact .inr (.inr ⟨e,off,ho,rfl⟩)
    ·refine .inl (p.OE g (hg.imp id fun⟨a,b⟩=>⟨a,?_⟩) off ho);have b:g<st.γ.num+1:=b;omega
   ·by_cases e:g=st.γ.num
    ·obtain⟨s1,s2⟩:=p.OC 0 (.inl rfl);exact⟨fun off a b=>.inr ⟨e,s1 off a b⟩,fun off a=>.inr ⟨e,s2 off a⟩⟩
    ·obtain⟨s1,s2⟩:=p.OC g (hg.imp id fun⟨a,b⟩=>⟨a,by
      have b:g<st.γ.num+1:=b;omega⟩)
     exact⟨fun off a b=>.inl (s1 off a b),fun off a=>.inl (s2 off a)⟩
   ·have hj:(upd st.γ.wk st.γ.num {mx:=.fresh,zw:=false,rw:=false,syn:=false,wg:=.work,df:=0,keep:=keep} j).mx=.own .work:=hj;rw[hmx]at hj;refine .inl ⟨p.exS j hj off o1 o2,fun h0=>?_⟩;have:=h.base.Xr 0 (by rw[hold];omega);rw[h0.1]at hj;rw[hj]at this;rcases this with h|h<;>cases h
   ·obtain⟨a,b,d⟩:=p.noS (fun j hj=>hn j ((hmx j).trans hj)) g off o1 o2;obtain⟨a0,b0,d0⟩:=p.noS (fun j hj=>hn j ((hmx j).trans hj)) 0 off o1 o2;refine⟨fun hx=>?_,fun hx=>?_,fun hD hx=>?_⟩
    ·rcases hx with⟨hx,_⟩|⟨_,hx|hx⟩
     ·exact a hx
     ·exact c.ne.2.1 (fU hx).1
     ·exact c.ne.2.2.1 (fU hx).1
    ·rcases hx with hx|⟨_,hx⟩
     ·exact b hx
     ·exact b0 hx
    ·rcases hx with hx|⟨_,b',off',hb',e⟩|⟨_,off',ho,e⟩
     ·exact d hD hx
     ·exact(notS b' hb').1 (fU e).1.symm
     ·have:=(fU e).2;omega
  ·refine⟨fun h0 h1 g hg off o1 o2=>?_,fun h1=>?_,fun j hj hj2 hw=>?_⟩
   ·have P0:=fun g hg=>T.sh0 h0 (fun j hj=>h1 j ((hmx j).trans hj)) g hg off o1 o2
    by_cases e:g=st.γ.num
    ·subst e;intro i a ha e';obtain⟨hlt,ha'⟩:=told ha;exact fork_knows hx hy hd0 (Deaf_absent fun i op hi e'=>by have:=h.base.tr.gs i op hi;omega) (P0 0 (.inl rfl) i a ha' e')
    ·refine(P0 g (hg.imp id fun⟨a,b⟩=>⟨a,?_⟩)).app fun op hop b hb=>by rw[nt op hop]at hb;cases hb
     have b:g<st.γ.num+1:=b;omega
   ·obtain⟨r,r1,r2,r3⟩:=T.sh1 h1;have hp:=lt_of_act? r1.1;refine⟨r,r1.app fun op hop sync e=>?_,(heard_old hp).2 r2,fun off o1 o2 i a ha e hw=>?_⟩
    ·have:=nt op hop;rw[e]at this;cases this
    ·obtain⟨hlt,ha'⟩:=told ha;exact(r3 off o1 o2 i a ha' e hw).app _
   ·have hw:(upd st.γ.wk st.γ.num {mx:=.fresh,zw:=false,rw:=false,syn:=false,wg:=.work,df:=0,keep:=keep} j).wg≠ .work:=hw;have hj2:j<st.γ.num+1:=hj2;by_cases e:j=st.γ.num
    ·rw[e,ZI]at hw;exact absurd rfl hw
    ·rw[OV j e]at hw;obtain⟨r,r1,r2⟩:=T.rel j hj (by omega) hw;refine⟨r,r1.app fun i hi _=>(kD nt hi).1,fun i a hri hg ha=>?_⟩;obtain⟨hlt,ha'⟩:=told ha;exact r2 i a hri ((gold hlt).1 hg) ha'
 ·refine⟨Nat.le_refl _,fun _ l hl=>.inl ⟨hl,fun h0=>hj h0.1⟩,fun _ l hl=>.inl hl,fun _ b hb=>rfl,fun _=>OV j (by omega),fun h0=>absurd h0 hj,fun _=>rfl,fun _ _ _ s' hs'=>?_,fun h0=>absurd h0 hj,fun _ _ _ _ _ _ _ _ _=>rfl,fun _ _=>rfl,fun _ _ _=>Nat.le_refl _,by show st.γ.num<=st.γ.num+1;omega⟩;refine⟨?_,fun _=>⟨rfl,rfl,rfl,rfl⟩,id⟩;show VU (aJ.mm {st.γ with num:=st.γ.num+1,mw:=.sp,wk:=upd st.γ.wk st.γ.num {mx:=.fresh,zw:=false,rw:=false,syn:=false,wg:=.work,df:=0,keep:=keep},ex:=yI st.γ s k F,rd:=yH st.γ s F Fr,sh:=yG st.γ}) s'.n0 s'.n (st.γ.tn+st.γ.th)<=_;rw[hmm];exact Nat.le_refl _
end
end
end Cc
namespace Cc
open Go.Conc Go.ConcN
open Go.ConcR (KK wgBlock WgAt stA smA rd wr mk DC0)
def Wk.start(keep:List (Nat×Obj)):Wk:={mx:=.fresh,zw:=false,rw:=false,syn:=false,wg:=.work,df:=0,keep:=keep}
section
variable{q:ig}{s:aO}{num:Nat}{K:List (Nat×Obj)}
theorem TT.fork{P:Program}(hP:q.P=P){g:Goroutine}{st:St aJ}{k:Nat}(hA:nP s .ad 0 num K st)(hk:num=s.n0+k)(hkn:k<s.n)
  (h:∀ah,nP s .ad 0 num K ah->Inv q ah->dX q s ah->∃g' child,stepG P (0==0) g ah.w=.spawn g' child ah.w #[]/\g'.status=.running/\child.status=.running/\
   ∃(keep:List (Nat×Obj)) (F Fr:Nat->Prop),(∀b,F b->∀off,ah.γ.ex 0 (ca b off))/\(∀b,Fr b->∀off,ah.γ.rd 0 (ca b off))/\(∀b o,(b,o)∈keep->(F b\/Fr b)/\ah.w.heap[b]?=some o)/\
   (∀ay,At s num (Wk.start keep) ay->Inv q ay->TW (cfg q) num child ay)/\∀ay,nP s .sp 0 (num+1) K ay->Inv q ay->TT (cfg q) 0 (TW (cfg q)) g' ay):TT (cfg q) 0 (TW (cfg q)) g st:=by
 subst hP;refine TT.step fun ah hr hi=>⟨fun hl=>absurd rfl hl.1,?_⟩
 have hr:Rl 0 st ah:=hr;have hi:Inv q ah:=hi;have au:=hA.rely hr;obtain⟨g',child,h1,h2,h3,keep,F,Fr,hF,hFr,hkeep,h4,h5⟩:=h ah au hi (hi.aZ s au.sc).c;unfold iI;rw[show stepG (cfg q).P (0==0) g ah.w=_ from h1];have hnum:=au.num;subst hnum;obtain⟨k1,k2⟩:=hi.fork (keep:=keep) (F:=F) (Fr:=Fr) (k:=k) au.sc au.mw au.dm hk hkn hF hFr (x:={g:=0,fn:=g.frame.fn,pos:=g.frame.place,act:=.go ah.γ.num}) (y:={g:=ah.γ.num,fn:=child.frame.fn,pos:=g.frame.place,act:=.start}) ⟨rfl,rfl⟩ ⟨rfl,rfl⟩;have e:(ah.t++((MemOp.ofEvents 0 g.frame.fn g.frame.place #[]).push {g:=0,fn:=g.frame.fn,pos:=g.frame.place,act:=.go ah.γ.num}).push {g:=ah.γ.num,fn:=child.frame.fn,pos:=g.frame.place,act:=.start})=ah.t++#[{g:=0,fn:=g.frame.fn,pos:=g.frame.place,act:=.go ah.γ.num},{g:=ah.γ.num,fn:=child.frame.fn,pos:=g.frame.place,act:=.start}]:=by
  rw[ofEvents_none];rfl
 refine⟨({ah.γ with num:=ah.γ.num+1,mw:=.sp,wk:=upd ah.γ.wk ah.γ.num (Wk.start keep),ex:=yI ah.γ s k F,rd:=yH ah.γ s F Fr,sh:=yG ah.γ}:aJ),?_⟩
 ·have hnew:=(hi.aZ s au.sc).c.new ah.γ.num (Nat.le_refl _);have n0:=(hi.aZ s au.sc).c.n0;show Inv q ⟨ah.w,ah.t++((MemOp.ofEvents 0 g.frame.fn g.frame.place #[]).push {g:=0,fn:=g.frame.fn,pos:=g.frame.place,act:=.go ah.γ.num}).push {g:=ah.γ.num,fn:=child.frame.fn,pos:=g.frame.place,act:=.start},_⟩/\_;simp only[cfg];rw[e];refine⟨k1,trivial,fun j hj hlt=>k2 j hj hlt,fun j hj hw=>?_,h2,?_,trivial,h3,?_⟩
  ·obtain⟨w1,w2⟩:=hw;refine⟨w1,?_⟩;rcases w2 with⟨a,_⟩|⟨a,b,d,f⟩
   ·exact absurd a hj
   ·have hne:j≠ah.γ.num:=fun e=>by rw[e,hnew]at b;cases b
    right;refine⟨a,?_,d,?_⟩
    ·show(upd ah.γ.wk ah.γ.num (Wk.start keep) j).mx=.queued;rw[upd_ne _ _ hne];exact b
    ·show(upd ah.γ.wk ah.γ.num (Wk.start keep) j).wg=.work;rw[upd_ne _ _ hne];exact f
  ·refine h5 _ ⟨au.sc,rfl,au.dm,rfl,fun b o hb=>?_,au.nd⟩ k1;obtain⟨f1,f2⟩:=au.fz b o hb;obtain⟨a1,a2,a3,a4⟩:=au.apart hi hb;refine⟨f1,?_⟩;by_cases hFb:F b
   ·exact .inr fun off=>.inr (.inl ⟨.inl rfl,b,off,.inl hFb,rfl⟩)
   ·rcases f2 with f2|f2
    ·refine .inl fun off=>.inl ⟨f2 off,fun h0=>?_⟩
     rcases h0.2 with e|e|⟨b',hb',e⟩
     ·exact a3 (fU e).1
     ·exact a4 (fU e).1
     ·have e:b=b':=by unfold ca fE at e;simpa using e
      exact hFb (e ▸ hb')
    ·exact .inr fun off=>.inl (f2 off)
  ·show TW (cfg q) ah.γ.num child _;refine h4 _ ⟨by have:=n0.1;omega,au.sc,by omega,by show ah.γ.num<ah.γ.num+1;omega,?_,fun b o hb=>?_⟩ k1
   ·exact dJ _ _ _
   ·obtain⟨f1,f2⟩:=hkeep b o hb;exact⟨f2,fun off=>.inr (.inl ⟨.inr rfl,b,off,f1,rfl⟩)⟩
end
end Cc
end Go.Proofs.Ytpfpokjaeffbjab
