/- Part of the proof: Mu, Bits, Mu2, Gen, Onc1, Onc2, Onc3, Onc4. -/
import Derived.Test.YtpfpokjaeffbjabBb5
import Derived.Test.YtpfpokjaeffbjabBb1
import Derived.Conc.MuWords
set_option linter.unusedVariables false
set_option linter.unusedSimpArgs false
set_option maxRecDepth 100000
set_option maxHeartbeats 16000000
namespace Go.Proofs.Ytpfpokjaeffbjab
namespace Cc
open Go.Conc Go.ConcN
open Go.ConcR (KK wgBlock WgAt stA smA rd wr mk DC0)
open Go.ConcM (OsLater)
structure At(s:aO)(i:Nat)(x:Wk)(st:St aJ):Prop where
 ne:i≠0
 sc:st.γ.sc=some s
 lo:s.n0<=i
 lt:i<st.γ.num
 me:st.γ.wk i=x
 fz:∀b o,(b,o)∈x.keep->st.w.heap[b]?=some o/\∀off,st.γ.rd i (ca b off)
section
variable{q:ig}{i:Nat}{s:aO}{x:Wk}
theorem At.rely{st ah:St aJ}(h:At s i x st)(hx:x.wg≠ .lv/\x.wg≠ .gone/\x.wg≠ .idle)(hr:Rl i st ah)(hi:Inv q ah):At s i x ah:=by
 have e1:ah.γ.sc=some s:=(hr.sc (.inr (by rw[h.me];exact hx))).trans h.sc;have e2:ah.γ.wk i=x:=(hr.me h.ne).trans h.me;have hl:Live i st:=.inr (by rw[h.me];exact⟨hx.1,hx.2.1⟩);refine⟨h.ne,e1,h.lo,Nat.lt_of_not_le fun hge=>?_,e2,fun b o hb=>⟨(hr.blk hl b (.inr (h.fz b o hb).2)).trans (h.fz b o hb).1,fun off=>hr.rd hl _ ((h.fz b o hb).2 off)⟩⟩;have:=(hi.aZ s e1).c.new i hge;rw[e2]at this;rw[this]at hx;exact hx.2.2 rfl
theorem At.hi{st:St aJ}(h:At s i x st)(hi:Inv q st):i<s.n0+s.n:=by
 have:=(hi.aZ s h.sc).c.n0;have:=h.lt;omega
theorem At.apart{st:St aJ}(h:At s i x st)(hi:Inv q st){b:Nat}{o:Obj}(hb:(b,o)∈x.keep):b≠s.Gb/\b≠s.Wg/\b≠s.Zb/\b≠s.Rb:=by
 have p:=(hi.aZ s h.sc).p.spec i;have hr:=(h.fz b o hb).2;refine⟨fun e=>?_,fun e=>?_,fun e=>?_,fun e=>?_⟩
 ·obtain⟨_,o',ho⟩:=p s.Gb (.inl rfl);exact ho (e ▸ hr o')
 ·obtain⟨_,o',ho⟩:=p s.Wg (.inr (.inl rfl));exact ho (e ▸ hr o')
 ·obtain⟨_,o',ho⟩:=p s.Zb (.inr (.inr (.inl rfl)));exact ho (e ▸ hr o')
 ·obtain⟨_,o',ho⟩:=p s.Rb (.inr (.inr (.inr rfl)));exact ho (e ▸ hr o')
theorem At.next{st ay:St aJ}(h:At s i x st)(hi:Inv q st){x':Wk}(hk:x'.keep=x.keep)(hsc:ay.γ.sc=st.γ.sc)(hnum:ay.γ.num=st.γ.num)(hme:ay.γ.wk i=x')(hrd:∀l,st.γ.rd i l->ay.γ.rd i l)(hb:∀b,b≠s.Gb->b≠s.Wg->b≠s.Zb->b≠s.Rb->ay.w.heap[b]?=st.w.heap[b]?):At s i x' ay:=by
 refine⟨h.ne,hsc.trans h.sc,h.lo,by rw[hnum];exact h.lt,hme,fun b o hbo=>?_⟩;rw[hk]at hbo;obtain⟨a1,a2,a3,a4⟩:=h.apart hi hbo;exact⟨(hb b a1 a2 a3 a4).trans (h.fz b o hbo).1,fun off=>hrd _ ((h.fz b o hbo).2 off)⟩
theorem At.mem{st:St aJ}(h:At s i x st):Mem s st.γ i:=.inr ⟨h.lo,h.lt⟩
theorem At.oh{st:St aJ}(h:At s i x st)(hx:x.wg≠ .lv/\x.wg≠ .gone):¬Lvs i st:=fun hl=>by
 have:=hl.2;rw[h.me]at this;exact this.elim hx.1 hx.2
def aJ.setMu(γ:aJ)(i:Nat)(x:Wk)(L W S N tn th:Nat):aJ:={γ with wk:=upd γ.wk i x,L:=L,W:=W,S:=S,N:=N,tn:=tn,th:=th}
theorem KG(γ:aJ)(i:Nat)(x:Wk)(L W S N tn th:Nat):(γ.setMu i x L W S N tn th).mm=upd γ.mm i x.mx:=by
 funext j;unfold aJ.mm aJ.setMu upd;by_cases e:j=i<;>simp[e]
theorem fV{p:WG->Bool}{γ γ':aJ}(h:∀j,(γ'.wk j).wg=(γ.wk j).wg)(s:aO):dF p γ' s=dF p γ s:=by
 unfold dF;simp only[h]
theorem rD{γ γ':aJ}(h:∀j,(γ'.wk j).wg=(γ.wk j).wg)(s:aO):qL γ' s=qL γ s:=by
 unfold qL;simp only[h]
theorem kR.of{γ γ':aJ}{w w':World}(h:kR q s γ w)(hb:w'.heap[s.Gb]?=w.heap[s.Gb]?)(hD:γ'.D=γ.D)(hw:γ'.L=γ.L/\γ'.W=γ.W/\γ'.S=γ.S/\γ'.N=γ.N)(ht:γ'.tn+γ'.th=γ.tn+γ.th):kR q s γ' w':=by
 unfold kR at h ⊢;rw[hb,hD,hw.1,hw.2.1,hw.2.2.1,hw.2.2.2,ht];exact h
theorem kR.cell{γ:aJ}{w:World}(h:kR q s γ w):w.cell? ⟨s.Gb,3,none⟩=some (.int .u32 γ.D)/\w.cell? ⟨s.Gb,4,none⟩=some (.int .i32 (enc γ.L γ.W γ.S γ.N))/\w.cell? ⟨s.Gb,5,none⟩=some (.int .u32 ((γ.tn+γ.th:Nat):Int))/\∀off,w.frozen? ⟨s.Gb,off,none⟩=false:=by
 obtain⟨C,h1,h2,h3,h4,h5,h6,h7,h8,h9⟩:=h;refine⟨?_,?_,?_,fun off=>?_⟩
 ·simp[World.cell?,h1,h6]
 ·simp[World.cell?,h1,h7]
 ·simp[World.cell?,h1,h8]
 ·simp[World.frozen?,h1]
theorem EZ{w:World}{C:Array Value}(h:w.heap[s.Gb]?=some (.cells C q.tG))(off:Nat)(v:Value):(w.setCell ⟨s.Gb,off,none⟩ v).heap[s.Gb]?=some (.cells (C.setIfInBounds off v) q.tG):=by
 rw[setCell_eq_setRow w s.Gb off C q.tG (0,0) v h,setRow_heap w s.Gb _ _ q.tG _ h]
theorem kR.bv2{γ:aJ}{w:World}(h:kR q s γ w){γ':aJ}(hD:γ'.D=γ.D)(ht:γ'.tn+γ'.th=γ.tn+γ.th){v:Int}(hv:v=enc γ'.L γ'.W γ'.S γ'.N):kR q s γ' (w.setCell ⟨s.Gb,4,none⟩ (.int .i32 v)):=by
 obtain⟨C,h1,h2,h3,h4,h5,h6,h7,h8,h9,h10⟩:=h;refine⟨_,EZ h1 4 _,by simpa using h2,?_,?_,?_,?_,?_,?_,fun k k1 k2=>?_,fun e id i1 i2=>?_⟩
 ·rw[Array.getElem?_setIfInBounds_ne (by omega)];exact h3
 ·rw[Array.getElem?_setIfInBounds_ne (by omega)];exact h4
 ·rw[Array.getElem?_setIfInBounds_ne (by omega)];exact h5
 ·rw[Array.getElem?_setIfInBounds_ne (by omega),hD];exact h6
 ·rw[Array.getElem?_setIfInBounds_self_of_lt (by omega),hv]
 ·rw[Array.getElem?_setIfInBounds_ne (by omega),ht];exact h8
 ·rw[Array.getElem?_setIfInBounds_ne (by omega)];exact h9 k k1 k2
 ·rw[Array.getElem?_setIfInBounds_ne (by omega)];exact h10 (by omega) id i1 i2
theorem kR.bv1{γ:aJ}{w:World}(h:kR q s γ w){γ':aJ}(hD:γ'.D=γ.D)(hw:γ'.L=γ.L/\γ'.W=γ.W/\γ'.S=γ.S/\γ'.N=γ.N){v:Int}(hv:v=((γ'.tn+γ'.th:Nat):Int)):kR q s γ' (w.setCell ⟨s.Gb,5,none⟩ (.int .u32 v)):=by
 obtain⟨C,h1,h2,h3,h4,h5,h6,h7,h8,h9,h10⟩:=h;refine⟨_,EZ h1 5 _,by simpa using h2,?_,?_,?_,?_,?_,?_,fun k k1 k2=>?_,fun e id i1 i2=>?_⟩
 ·rw[Array.getElem?_setIfInBounds_ne (by omega)];exact h3
 ·rw[Array.getElem?_setIfInBounds_ne (by omega)];exact h4
 ·rw[Array.getElem?_setIfInBounds_ne (by omega)];exact h5
 ·rw[Array.getElem?_setIfInBounds_ne (by omega),hD];exact h6
 ·rw[Array.getElem?_setIfInBounds_ne (by omega),hw.1,hw.2.1,hw.2.2.1,hw.2.2.2];exact h7
 ·rw[Array.getElem?_setIfInBounds_self_of_lt (by omega),hv]
 ·rw[Array.getElem?_setIfInBounds_ne (by omega)];exact h9 k k1 k2
 ·rw[Array.getElem?_setIfInBounds_ne (by omega)];exact h10 (by omega) id i1 i2
structure aY(s:aO)(w w':World):Prop where
 size:w'.heap.size=w.heap.size
 blk:∀b,b≠s.Gb->w'.heap[b]?=w.heap[b]?
 sh:∀off,6<=off->off<16->w'.cell? ⟨s.Gb,off,none⟩=w.cell? ⟨s.Gb,off,none⟩
 os:OsLater w.os w'.os
 out:w'.output=w.output
theorem aY.refl(w:World):aY s w w:=⟨rfl,fun _ _=>rfl,fun _ _ _=>rfl,.refl _,rfl⟩
theorem aY.later(w:World):aY s w w.later:=⟨rfl,fun _ _=>rfl,fun _ _ _=>rfl,⟨w.tick,rfl⟩,rfl⟩
theorem aY.asked(w:World):aY s w w.asked:=⟨rfl,fun _ _=>rfl,fun _ _ _=>rfl,.refl _,rfl⟩
theorem aY.set(w:World)(off:Nat)(v:Value)(h:off<6):aY s w (w.setCell ⟨s.Gb,off,none⟩ v):=
 have A:=aside_setCell w ⟨s.Gb,off,none⟩ v
 ⟨A.size,fun b hb=>A.block b hb,fun o o1 o2=>World.cell?_setCell_other _ ⟨s.Gb,off,none⟩ ⟨s.Gb,o,none⟩ _ (by simp;omega),by rw[A.os];exact .refl _,A.output⟩
theorem Inv.mu{st:St aJ}(h:Inv q st)(hA:At s i x st)(hx:x.wg=.work){x':Wk}(hx':x'={x with mx:=x'.mx,df:=x'.df}){es:Array Event}(hdf:x'.df=deafBehind x.df es)
  (n1:x.mx≠ .own .work)(n2:x'.mx≠ .own .work)(n3:x'.mx=.own .dn->st.γ.D=1){L W S N tn th:Nat}(hm:jC (upd st.γ.mm i x'.mx) s.n0 s.n L W S N tn th){w':World}(hG:kR q s (st.γ.setMu i x' L W S N tn th) w')(hE:aY s st.w w')
  (hp:kM x'.mx+3*(tn+th)<kM x.mx+3*(st.γ.tn+st.γ.th)\/(kM x'.mx+3*(tn+th)=kM x.mx+3*(st.γ.tn+st.γ.th)/\L=st.γ.L/\W=st.γ.W/\S=st.γ.S/\N=st.γ.N))(hN:st.γ.N<=N\/∀j,j≠i->s.n0<=j->j<s.n0+s.n->(st.γ.wk j).mx≠ .woken true)(hev:∀e∈es,EvS s i e/\e≠⟨ca s.Gb 3,true,true⟩)(fn:FuncId)(pos:String):
  (Inv q ⟨w',st.t++MemOp.ofEvents i fn pos es,st.γ.setMu i x' L W S N tn th⟩/\∀j,j≠i->Rl j st ⟨w',st.t++MemOp.ofEvents i fn pos es,st.γ.setMu i x' L W S N tn th⟩)/\
   phi (st.γ.setMu i x' L W S N tn th) s+kM x.mx+3*(st.γ.tn+st.γ.th)=phi st.γ s+kM x'.mx+3*(tn+th):=by
 have X:=h.aZ s hA.sc;have hi2:=hA.hi h;have e1:x'.wg=.work:=by rw[hx'];exact hx
 have e2:x'.zw=x.zw:=by rw[hx']
 have e3:x'.rw=x.rw:=by rw[hx']
 have e4:x'.syn=x.syn:=by rw[hx']
 have hwk:∀j,(st.γ.setMu i x' L W S N tn th).wk j=if j=i then x' else st.γ.wk j:=fun j=>rfl
 have hwg:∀j,((st.γ.setMu i x' L W S N tn th).wk j).wg=(st.γ.wk j).wg:=fun j=>by
  rw[hwk];split
  ·rename_i e;subst e;rw[hA.me,hx,e1]
  ·rfl
 have hzw:∀j,((st.γ.setMu i x' L W S N tn th).wk j).zw=(st.γ.wk j).zw:=fun j=>by
  rw[hwk];split
  ·rename_i e;subst e;rw[hA.me,e2]
  ·rfl
 have hrw:∀j,((st.γ.setMu i x' L W S N tn th).wk j).rw=(st.γ.wk j).rw:=fun j=>by
  rw[hwk];split
  ·rename_i e;subst e;rw[hA.me,e3]
  ·rfl
 have pJ:∀j,((st.γ.setMu i x' L W S N tn th).wk j).syn=(st.γ.wk j).syn:=fun j=>by
  rw[hwk];split
  ·rename_i e;subst e;rw[hA.me,e4]
  ·rfl
 have hmx:∀j,j≠i->((st.γ.setMu i x' L W S N tn th).wk j).mx=(st.γ.wk j).mx:=fun j hj=>by rw[hwk,if_neg hj]
 have be0:((st.γ.setMu i x' L W S N tn th).wk i).mx=x'.mx:=by rw[hwk,if_pos rfl]
 have nI:∀j,((st.γ.setMu i x' L W S N tn th).wk j).mx=.own .work->(st.γ.wk j).mx=.own .work:=fun j hj=>by
  by_cases e:j=i
  ·subst e;rw[be0]at hj;exact absurd hj n2
  ·rwa [hmx j e]at hj
 have Nh:phi (st.γ.setMu i x' L W S N tn th) s+kM x.mx+3*(st.γ.tn+st.γ.th)=phi st.γ s+kM x'.mx+3*(tn+th):=by
  have:=IQ st.γ.mm (a:=s.n0) s.n x'.mx (st.γ.tn+st.γ.th) (tn+th) hA.lo hi2;unfold phi;rw[KG];have e:kM (st.γ.mm i)=kM x.mx:=by unfold aJ.mm;rw[hA.me]
  show VU (upd st.γ.mm i x'.mx) s.n0 s.n (tn+th)+_+_=_;omega
 have c:=X.c;refine⟨h.act hA.sc hA.mem (γ':=st.γ.setMu i x' L W S N tn th) ⟨rfl,rfl,rfl,rfl,rfl,rfl⟩ (fun e he=>(hev e he).1) (fun e he=>(hev e he).2) hE.size (fun b hb _=>hE.blk b hb) hE.sh hE.os hE.out (fun j hj=>by rw[hwk,if_neg hj]) (fun _=>⟨rfl,rfl⟩) (fun e=>absurd e hA.ne) (fun _=>?_) ?_ ?_ rfl (fun hn j hj=>?_) (fun hw _=>by rw[hwg]at hw;exact hw) (fun _ hw=>absurd (by rw[hA.me];exact hx) hw) ?_ (fun _=>?_) hN,Nh⟩
 ·rw[hwk,if_pos rfl,hA.me];exact⟨hdf,by rw[e1];simp⟩
 ·refine⟨c.n0,hG,c.qV.of_block (hE.blk _ c.ne.1.symm),?_,?_,c.ne,by rw[show(St.mk w' (st.t++MemOp.ofEvents i fn pos es) (st.γ.setMu i x' L W S N tn th)).γ.mm=upd st.γ.mm i x'.mx from KG ..];exact hm,c.D1,fun j hj=>c.work j (nI j hj),fun j hj=>?_,fun j h0 hj=>c.syn j h0 (by rw[<-pJ j];exact hj),fun j hj=>?_,fun j h1 h2=>?_,fun j h1 h2 h3=>?_,c.all,?_⟩
  ·obtain⟨Z,z1,z2,z3,z4⟩:=c.zb;exact⟨Z,(hE.blk _ c.ne.2.1.symm).trans z1,z2,z3,fun k k1 k2=>z4 k k1 ((hzw _).symm.trans k2)⟩
  ·obtain⟨Z,z1,z2,z3,z4⟩:=c.rb;exact⟨Z,(hE.blk _ c.ne.2.2.1.symm).trans z1,z2,z3,fun k k1 k2=>z4 k k1 ((hrw _).symm.trans k2)⟩
  ·by_cases e:j=i
   ·subst e;have hj:((st.γ.setMu j x' L W S N tn th).wk j).mx=.own .dn:=hj;rw[be0]at hj;exact n3 hj
   ·have hj:((st.γ.setMu i x' L W S N tn th).wk j).mx=.own .dn:=hj;rw[hmx j e]at hj;exact c.dn j hj
  ·have hne:j≠i:=by have:=hA.lt;have hj:st.γ.num<=j:=hj;omega
   show(st.γ.setMu i x' L W S N tn th).wk j=.new;rw[hwk,if_neg hne];exact c.new j hj
  ·show((st.γ.setMu i x' L W S N tn th).wk j).wg≠ .idle;rw[hwg];exact c.on j h1 h2
  ·have h2:((st.γ.setMu i x' L W S N tn th).wk j).wg≠ .idle:=h2;have h3:((st.γ.setMu i x' L W S N tn th).wk j).wg≠ .work:=h3;rw[hwg]at h2 h3;have hne:j≠i:=fun e=>h3 (by rw[e,hA.me];exact hx)
   show((st.γ.setMu i x' L W S N tn th).wk j).zw=true/\((st.γ.setMu i x' L W S N tn th).wk j).rw=true/\(((st.γ.setMu i x' L W S N tn th).wk j).mx=.fresh\/_=_);rw[hwk,if_neg hne];exact c.fin j h1 h2 h3
  ·show yO st.γ.mw (dF WG.cd (st.γ.setMu i x' L W S N tn th) s) (dF (·== .d2) (st.γ.setMu i x' L W S N tn th) s) (dF (·== .d3) (st.γ.setMu i x' L W S N tn th) s) (dF (·== .d4) (st.γ.setMu i x' L W S N tn th) s) st.γ.gs st.γ.gm;rw[fV hwg,fV hwg,fV hwg,fV hwg];exact c.uh
 ·have p:=X.p;refine⟨p.spec,fun k k1 k2 k3=>p.J3 k k1 k2 (by rw[<-hwg];exact k3),p.Qj,p.OE,p.OC,fun j hj=>p.exS j (nI j hj),fun j h0 hj=>p.Xc j h0 (by rw[<-pJ];exact hj),fun hn=>p.noS fun j hj=>?_⟩;by_cases e:j=i
  ·subst e;rw[hA.me]at hj;exact n1 hj
  ·exact hn j (by rw[hmx j e];exact hj)
 ·by_cases e:j=i
  ·subst e;rw[hA.me]at hj;exact n1 hj
  ·exact hn j (by rw[hmx j e];exact hj)
 ·refine⟨by omega,fun e=>?_⟩;rcases hp with hp|hp
  ·omega
  ·exact⟨hp.2.1,hp.2.2.1,hp.2.2.2.1,hp.2.2.2.2⟩
 ·rw[rD hwg];exact⟨Nat.le_refl _,fun _=>rfl⟩
theorem Wq{st st':St aJ}(hsc:st'.γ.sc=st.γ.sc)(hmw:st'.γ.mw=st.γ.mw)(hgm:st'.γ.gm=st.γ.gm)(htok:st'.γ.tn+st'.γ.th<=st.γ.tn+st.γ.th){i:Nat}(hwk:∀k,k≠i->st'.γ.wk k=st.γ.wk k):∀k,k≠i->Wt k st->Wt k st':=fun k hk hw=>by
 obtain⟨h1,h2⟩:=hw;refine⟨by rw[hsc];exact h1,h2.imp (fun⟨a,b,c⟩=>⟨a,hmw.trans b,hgm.trans c⟩) fun⟨a,b,c,d⟩=>⟨a,by rw[hwk k hk];exact b,by omega,by rw[hwk k hk];exact d⟩⟩
variable{Ch:Nat->Goroutine->St aJ->Prop}
theorem TT.mu{P:Program}(hP:q.P=P){g:Goroutine}{st:St aJ}(hA:At s i x st)(hx:x.wg=.work){mx:MX}(hmx:x.mx=mx)(n1:mx≠ .own .work)
  (h:∀ah,At s i x ah->Inv q ah->dX q s ah->phi ah.γ s<=phi st.γ s->(phi ah.γ s=phi st.γ s->ah.γ.L=st.γ.L/\ah.γ.W=st.γ.W/\ah.γ.S=st.γ.S/\ah.γ.N=st.γ.N)->(st.γ.D=1->ah.γ.D=1)->(mx=.woken true->st.γ.N<=ah.γ.N)->
   ∃g' w' es mx' V5 L W S N tn th,stepG P (i==0) g ah.w=.go g' w' es/\g'.status=.running/\V5=deafBehind x.df es/\mx'≠ .own .work/\(mx'=.own .dn->ah.γ.D=1)/\
    jC (upd ah.γ.mm i mx') s.n0 s.n L W S N tn th/\kR q s (ah.γ.setMu i {x with mx:=mx',df:=V5} L W S N tn th) w'/\aY s ah.w w'/\
    (kM mx'+3*(tn+th)<kM mx+3*(ah.γ.tn+ah.γ.th)\/(kM mx'+3*(tn+th)=kM mx+3*(ah.γ.tn+ah.γ.th)/\L=ah.γ.L/\W=ah.γ.W/\S=ah.γ.S/\N=ah.γ.N))/\(ah.γ.N<=N\/∀j,j≠i->s.n0<=j->j<s.n0+s.n->(ah.γ.wk j).mx≠ .woken true)/\
    (∀e∈es,EvS s i e/\e≠⟨ca s.Gb 3,true,true⟩)/\(mayWake P g=true\/tn+th<=ah.γ.tn+ah.γ.th)/\
    ∀ay,At s i {x with mx:=mx',df:=V5} ay->Inv q ay->ay.w=w'->ay.γ.L=L/\ay.γ.W=W/\ay.γ.S=S/\ay.γ.N=N->ay.γ.D=ah.γ.D->phi ay.γ s+kM mx+3*(ah.γ.tn+ah.γ.th)=phi ah.γ s+kM mx'+3*(tn+th)->TT (cfg q) i Ch g' ay):
  TT (cfg q) i Ch g st:=by
 subst hP hmx;exact TT.act fun ah hr hi=>by
  have hA1:=hA.rely (by rw[hx];simp) hr hi;obtain⟨p1,p2,p3⟩:=hr.phi hA.ne (by rw[hA.me,hx];simp) (by rw[hA.me,hx];simp) s hA.sc;obtain⟨g',w',es,mx',V5,L,W,S,N,tn,th,h1,h2,h3,h4,h5,h6,h7,h8,h9,h9',h10,h11,h12⟩:=h ah hA1 hi (hi.aZ s hA1.sc).c p1 p2 p3 fun e=>hr.hand hA.ne (by rw[hA.me];exact e) (by rw[hA.me];exact hx)
  obtain⟨⟨k1,k2⟩,k3⟩:=hi.mu hA1 hx (x':={x with mx:=mx',df:=V5}) rfl h3 n1 h4 h5 h6 h7 h8 h9 h9' h10 g.frame.fn g.frame.place;refine⟨hA1.oh (by rw[hx];simp),g',w',es,ah.γ.setMu i {x with mx:=mx',df:=V5} L W S N tn th,h1,h2,rfl,⟨k1,k2⟩,?_,h12 _ (hA1.next hi rfl rfl rfl (by simp[aJ.setMu,upd]) (fun _ h=>h) fun b a1 _ _ _=>h8.blk b a1) k1 rfl ⟨rfl,rfl,rfl,rfl⟩ rfl k3⟩;exact h11.imp id fun(ht:tn+th<=ah.γ.tn+ah.γ.th)=>Wq (st:=ah) (st':=⟨w',ah.t++MemOp.ofEvents i g.frame.fn g.frame.place es,ah.γ.setMu i {x with mx:=mx',df:=V5} L W S N tn th⟩) rfl rfl rfl ht fun k hk=>upd_ne _ _ hk
theorem TT.road{P:Program}(hP:q.P=P){g:Goroutine}{st:St aJ}(hA:At s i x st)(hx:x.wg≠ .lv/\x.wg≠ .gone/\x.wg≠ .idle)(n:Nat)
  (h:∀w:World,(∃v,w.cell? ⟨s.Gb,4,none⟩=some v)->Goes P (i==0) (fun _ w₁=>∃v,w₁.cell? ⟨s.Gb,4,none⟩=some v) DC0 (fun g' _=>g'.status=.running/\TT (cfg q) i Ch g' st) n g w):TT (cfg q) i Ch g st:=by
 subst hP;exact TT.step fun ah hr hi=>by
  have hr:Rl i st ah:=hr;have hi:Inv q ah:=hi;have f:∀ah,Rl i st ah->Inv q ah->∃v,ah.w.cell? ⟨s.Gb,4,none⟩=some v:=fun ah hr hi=>⟨_,((hi.aZ s (hA.rely hx hr hi).sc).c.gb.cell).2.1⟩
  exact(TT.walk (C:=cfg q) FC (F:=fun w₁=>∃v,w₁.cell? ⟨s.Gb,4,none⟩=some v) f (fun ah hr hi=>(hA.rely hx hr hi).oh ⟨hx.1,hx.2.1⟩) n g ah.w (h ah.w (f ah hr hi))).elim ah hr hi
theorem aj{s:aO}{w₀ w₁:World}(_:∃v,w₀.cell? ⟨s.Gb,4,none⟩=some v)(r:∃v,w₁.cell? ⟨s.Gb,4,none⟩=some v):∃v,w₁.cell? ⟨s.Gb,4,none⟩=some v:=r
end
end Cc
namespace Cc
section
open Go
section
variable(l w s:Nat)(N:Nat)(hl:l<=1)(hw:w<=1)(hs:s<=1)(hN:N<=11)
include hl hw hs hN
theorem jK{p:Nat->Nat->Nat->Nat->Prop}(h:∀l w s:Fin 2,∀N:Fin 12,p l w s N):p l w s N:=h ⟨l,by omega⟩ ⟨w,by omega⟩ ⟨s,by omega⟩ ⟨N,by omega⟩
theorem wu:bits BinOp.and IntKind.i32 (enc l w s N) 5=((l+4*s:Nat):Int):=jK l w s N hl hw hs hN (p:=fun l w s N=>bits BinOp.and IntKind.i32 (enc l w s N) 5=((l+4*s:Nat):Int)) (by decide)
theorem Bh:bits BinOp.and IntKind.i32 (enc l w s N) 2=((2*w:Nat):Int):=jK l w s N hl hw hs hN (p:=fun l w s N=>bits BinOp.and IntKind.i32 (enc l w s N) 2=((2*w:Nat):Int)) (by decide)
theorem mW:bits BinOp.and IntKind.i32 (enc l w s N) 4=((4*s:Nat):Int):=jK l w s N hl hw hs hN (p:=fun l w s N=>bits BinOp.and IntKind.i32 (enc l w s N) 4=((4*s:Nat):Int)) (by decide)
theorem Fh:bits BinOp.and IntKind.i32 (enc l w s N) 1=((l:Nat):Int):=jK l w s N hl hw hs hN (p:=fun l w s N=>bits BinOp.and IntKind.i32 (enc l w s N) 1=((l:Nat):Int)) (by decide)
theorem aN5:bits BinOp.and IntKind.i32 (enc l w s N) 3=((l+2*w:Nat):Int):=jK l w s N hl hw hs hN (p:=fun l w s N=>bits BinOp.and IntKind.i32 (enc l w s N) 3=((l+2*w:Nat):Int)) (by decide)
theorem aN4:bits BinOp.and IntKind.i32 (enc l w s N) 7=((l+2*w+4*s:Nat):Int):=jK l w s N hl hw hs hN (p:=fun l w s N=>bits BinOp.and IntKind.i32 (enc l w s N) 7=((l+2*w+4*s:Nat):Int)) (by decide)
theorem Hf:bits BinOp.or IntKind.i32 (enc l w s N) 1=enc 1 w s N:=jK l w s N hl hw hs hN (p:=fun l w s N=>bits BinOp.or IntKind.i32 (enc l w s N) 1=enc 1 w s N) (by decide)
theorem av1:bits BinOp.or IntKind.i32 (enc l w s N) 2=enc l 1 s N:=jK l w s N hl hw hs hN (p:=fun l w s N=>bits BinOp.or IntKind.i32 (enc l w s N) 2=enc l 1 s N) (by decide)
theorem bk7:bits BinOp.or IntKind.i32 (enc l w s N) 4=enc l w 1 N:=jK l w s N hl hw hs hN (p:=fun l w s N=>bits BinOp.or IntKind.i32 (enc l w s N) 4=enc l w 1 N) (by decide)
theorem Ju:bits BinOp.andNot IntKind.i32 (enc l w s N) 2=enc l 0 s N:=jK l w s N hl hw hs hN (p:=fun l w s N=>bits BinOp.andNot IntKind.i32 (enc l w s N) 2=enc l 0 s N) (by decide)
omit hl hw hs hN in
theorem YL:enc l w s N+8=enc l w s (N+1):=by unfold enc;omega
theorem Fj:IntKind.wrap .i32 (enc l w s N+8)=enc l w s (N+1):=by rw[YL];rw[IntKind.wrap_i32];unfold enc;omega
omit hN in
theorem YN:enc l w s N/8=(N:Int):=by unfold enc;omega
theorem aN3(h1:1<=N):IntKind.wrap .i32 (enc l w s N-8)=enc l w s (N-1):=by rw[IntKind.wrap_i32];unfold enc;omega
end
theorem jW{l w s N l' w' s' N':Nat}(h:enc l w s N=enc l' w' s' N')(h1:l<=1/\w<=1/\s<=1)(h2:l'<=1/\w'<=1/\s'<=1):l=l'/\w=w'/\s=s'/\N=N':=by unfold enc at h;omega
end
section
open Go.Conc Go.ConcN
open Go.ConcR (KK wgBlock WgAt stA smA rd wr mk DC0)
open Go.ConcM (OsLater)
section
variable{q:ig}{i:Nat}{s:aO}{x:Wk}
theorem dG:∀e∈(#[]:Array Event),EvS s i e/\e≠⟨ca s.Gb 3,true,true⟩:=by simp
theorem jh(off:Nat)(h:off=4\/off=5):∀e∈(#[⟨.cell ⟨s.Gb,off,none⟩,false,true⟩,⟨.cell ⟨s.Gb,off,none⟩,true,true⟩]:Array Event),EvS s i e/\e≠⟨ca s.Gb 3,true,true⟩:=by
 intro e he;simp at he;rcases he with rfl|rfl
 ·exact⟨.inl ⟨s.Gb,off,_,rfl,.inl ⟨rfl,by omega,by omega⟩⟩,by simp[ca]⟩
 ·exact⟨.inl ⟨s.Gb,off,_,rfl,.inl ⟨rfl,by omega,by omega⟩⟩,by simp[ca];omega⟩
theorem pW(off:Nat)(h:3<=off/\off<6):∀e∈(#[⟨.cell ⟨s.Gb,off,none⟩,false,true⟩]:Array Event),EvS s i e/\e≠⟨ca s.Gb 3,true,true⟩:=by
 intro e he;simp at he;subst he;exact⟨.inl ⟨s.Gb,off,_,rfl,.inl ⟨rfl,h.1,h.2⟩⟩,by simp[ca]⟩
theorem pX(m:Mark)(h:(∀a,m≠ .release a)/\(∀a,m≠ .read a)/\∀a,m≠ .write a):∀e∈(#[⟨.mark m,false,true⟩]:Array Event),EvS s i e/\e≠⟨ca s.Gb 3,true,true⟩:=by
 intro e he;simp at he;subst he;exact⟨.inr (.inl ⟨m,rfl,h⟩),by simp[ca]⟩
theorem Js:∀e∈semEvents ⟨s.Gb,5,none⟩,EvS s i e/\e≠⟨ca s.Gb 3,true,true⟩:=by
 intro e he;simp[semEvents]at he;rcases he with rfl|rfl|rfl|rfl
 ·exact⟨.inr (.inl ⟨.disable,rfl,by simp⟩),by simp[ca]⟩
 ·exact⟨.inl ⟨s.Gb,5,_,rfl,.inl ⟨rfl,by omega,by omega⟩⟩,by simp[ca]⟩
 ·exact⟨.inl ⟨s.Gb,5,_,rfl,.inl ⟨rfl,by omega,by omega⟩⟩,by simp[ca]⟩
 ·exact⟨.inr (.inl ⟨.enable,rfl,by simp⟩),by simp[ca]⟩
theorem YQ(d:Nat)(a:Loc)(x:Bool)(h:∀m,a≠ .mark m):d=deafBehind d #[⟨a,x,true⟩]:=(cu fun e he=>by simp at he;subst he;exact⟨h _,h _⟩).symm
theorem kU(d:Nat)(a:Addr):d=deafBehind d #[⟨.cell a,false,true⟩,⟨.cell a,true,true⟩]:=(cu fun e he=>by simp at he;rcases he with rfl|rfl<;>simp).symm
theorem wz(d:Nat)(a:Addr):d=deafBehind d #[⟨.cell a,false,true⟩]:=(cu fun e he=>by simp at he;subst he;simp).symm
theorem Qm(d:Nat)(a:Addr):d=deafBehind d (semEvents a):=by simp[semEvents,deafBehind]
theorem YP(d:Nat):d+1=deafBehind d #[⟨.mark .disable,false,true⟩]:=by simp[deafBehind]
theorem Hr(d:Nat):d=deafBehind (d+1) #[⟨.mark .enable,false,true⟩]:=by simp[deafBehind]
theorem YR(d:Nat)(m:Mark)(h:m≠ .disable/\m≠ .enable):d=deafBehind d #[⟨.mark m,false,true⟩]:=(cu fun e he=>by simp at he;subst he;simpa using h).symm
theorem dA{st:St aJ}(h:At s i x st):st.γ.mm i=x.mx:=by unfold aJ.mm;rw[h.me]
theorem upd_same{α:Type}(m:Nat->α)(j:Nat):upd m j (m j)=m:=by
 funext k;unfold upd;split
 ·rename_i e;rw[e]
 ·rfl
theorem kR.swap{γ:aJ}{w:World}(h:kR q s γ w){x':Wk}{L W S N tn th:Nat}(ht:tn+th=γ.tn+γ.th){v:Int}(hv:v=enc L W S N):kR q s (γ.setMu i x' L W S N tn th) (w.setCell ⟨s.Gb,4,none⟩ (.int .i32 v)):=h.bv2 (γ':=γ.setMu i x' L W S N tn th) rfl ht hv
theorem kR.sema{γ:aJ}{w:World}(h:kR q s γ w){x':Wk}{tn th:Nat}{v:Int}(hv:v=((tn+th:Nat):Int)):kR q s (γ.setMu i x' γ.L γ.W γ.S γ.N tn th) (w.setCell ⟨s.Gb,5,none⟩ (.int .u32 v)):=h.bv1 (γ':=γ.setMu i x' γ.L γ.W γ.S γ.N tn th) rfl ⟨rfl,rfl,rfl,rfl⟩ hv
theorem kR.stay{γ:aJ}{w w':World}(h:kR q s γ w)(hb:w'.heap[s.Gb]?=w.heap[s.Gb]?){x':Wk}{tn th:Nat}(ht:tn+th=γ.tn+γ.th):kR q s (γ.setMu i x' γ.L γ.W γ.S γ.N tn th) w':=h.of (γ':=γ.setMu i x' γ.L γ.W γ.S γ.N tn th) hb rfl ⟨rfl,rfl,rfl,rfl⟩ ht
theorem jC.still{st:St aJ}(h:dX q s st)(hA:At s i x st){mx:MX}(hmx:x.mx=mx):jC (upd st.γ.mm i mx) s.n0 s.n st.γ.L st.γ.W st.γ.S st.γ.N st.γ.tn st.γ.th:=by
 rw[<-hmx,<-dA hA,upd_same];exact h.mu
variable{Ch:Nat->Goroutine->St aJ->Prop}
theorem TT.lI{P:Program}(hP:q.P=P){g:Goroutine}{st:St aJ}(hA:At s i x st)(hx:x.wg=.work){mx:MX}(hmx:x.mx=mx)(n1:mx≠ .own .work)
  (h:∀ah,At s i x ah->Inv q ah->dX q s ah->∃g' w' es V5,stepG P (i==0) g ah.w=.go g' w' es/\g'.status=.running/\V5=deafBehind x.df es/\w'.heap[s.Gb]?=ah.w.heap[s.Gb]?/\aY s ah.w w'/\
    (∀e∈es,EvS s i e/\e≠⟨ca s.Gb 3,true,true⟩)/\
    ∀ay,At s i {x with df:=V5} ay->Inv q ay->ay.w=w'->ay.γ.L=ah.γ.L/\ay.γ.W=ah.γ.W/\ay.γ.S=ah.γ.S/\ay.γ.N=ah.γ.N->phi ay.γ s<=phi st.γ s/\(phi ay.γ s=phi st.γ s->ay.γ.L=st.γ.L/\ay.γ.W=st.γ.W/\ay.γ.S=st.γ.S/\ay.γ.N=st.γ.N)->(st.γ.D=1->ay.γ.D=1)->TT (cfg q) i Ch g' ay):TT (cfg q) i Ch g st:=by
 subst hmx;exact TT.mu hP hA hx rfl n1 fun ah au hI₁ aB p1 p2 p3 _=>by
  obtain⟨g',w',es,V5,h1,h2,h3,h4,h5,h6,h7⟩:=h ah au hI₁ aB;refine⟨g',w',es,x.mx,V5,ah.γ.L,ah.γ.W,ah.γ.S,ah.γ.N,ah.γ.tn,ah.γ.th,h1,h2,h3,n1,fun e=>aB.dn i (by rw[au.me];exact e),?_,?_,h5,.inr ⟨rfl,rfl,rfl,rfl,rfl⟩,.inl (Nat.le_refl _),h6,.inr (Nat.le_refl _),fun ay k1 k2 k3 k4 k5 k6=>?_⟩
  ·rw[<-dA au,upd_same];exact aB.mu
  ·exact aB.gb.of h4 rfl ⟨rfl,rfl,rfl,rfl⟩ rfl
  ·refine h7 ay k1 k2 k3 k4 ⟨by omega,fun e=>?_⟩ (fun e=>k5.trans (p3 e));obtain⟨a,b,c,d⟩:=p2 (by omega);exact⟨k4.1.trans a,k4.2.1.trans b,k4.2.2.1.trans c,k4.2.2.2.trans d⟩
theorem jC.IU{m:Nat->MX}{a n j L W S N tn th:Nat}(h:jC m a n L W S N tn th)(hj:a<=j)(hj2:j<a+n)(hm:m j=.woken true){k:Nat}(hk:k≠j)(k1:a<=k)(k2:k<a+n):m k≠ .woken true:=by
 intro e;have c:=oD MX.jg m n .out hj hj2;have p:=zX (m:=upd m j .out) (p:=MX.jg) k1 k2 (by rw[upd_ne m _ hk,e];rfl);rw[hm]at c;simp[MX.jg]at c;have:=h.st;omega
theorem jC.bw8{m:Nat->MX}{a n L W S N tn th:Nat}(h:jC m a n L W S N tn th)(hS:S=0){k:Nat}(k1:a<=k)(k2:k<a+n):m k≠ .woken true:=by
 intro e;have p:=zX (m:=m) (p:=MX.jg) k1 k2 (by rw[e];rfl);have:=h.st;omega
theorem TT.sem{P:Program}(hP:q.P=P){g:Goroutine}{st:St aJ}(hA:At s i x st)(hx:x.wg=.work)(hmx:x.mx=.queued)(hoff:g.offers=none)
  (hblk:∀w:World,w.cell? ⟨s.Gb,5,none⟩=some (.int .u32 0)->stepG P (i==0) g w=.go {g with status:=.blocked} w #[])
  (h:∃g':Goroutine,(∀(w:World) (n:Int),w.cell? ⟨s.Gb,5,none⟩=some (.int .u32 n)->n≠0->w.frozen? ⟨s.Gb,5,none⟩=false->stepG P (i==0) g w=.go g' (w.setCell ⟨s.Gb,5,none⟩ (.int .u32 (n-1))) (semEvents ⟨s.Gb,5,none⟩))/\g'.status=.running/\
   (∀ay,At s i {x with mx:=.woken false} ay->Inv q ay->phi ay.γ s<phi st.γ s->TT (cfg q) i Ch g' ay)/\∀ay,At s i {x with mx:=.woken true} ay->Inv q ay->phi ay.γ s<phi st.γ s->TT (cfg q) i Ch g' ay):TT (cfg q) i Ch g st:=by
 subst hP;obtain⟨g',hgo,hs,hN,hH⟩:=h;refine TT.step fun ah hr hi=>?_
 have hr:Rl i st ah:=hr;have hi:Inv q ah:=hi;have au:=hA.rely (by rw[hx];simp) hr hi;have hC:=(hi.aZ s au.sc).c;obtain⟨p1,p2,p3⟩:=hr.phi hA.ne (by rw[hA.me,hx];simp) (by rw[hA.me,hx];simp) s hA.sc;refine⟨fun hl=>absurd hl (au.oh (by rw[hx];simp)),?_⟩;have cell:=hC.gb.cell.2.2.1;by_cases h0:ah.γ.tn+ah.γ.th=0
 ·unfold iI;rw[h0]at cell;rw[show stepG (cfg q).P (i==0) g ah.w=_ from hblk ah.w cell];exact .inl ⟨rfl,hoff,rfl,rfl,by rw[au.sc];simp,.inr ⟨au.ne,by rw[au.me];exact hmx,h0,by rw[au.me];exact hx⟩⟩
 ·have hstep:=hgo ah.w _ cell (by omega) (hC.gb.cell.2.2.2 5);have mm:ah.γ.mm i=.queued:=(dA au).trans hmx;have go:∀(hh:Bool) (tn th:Nat),jC (upd ah.γ.mm i (.woken hh)) s.n0 s.n ah.γ.L ah.γ.W ah.γ.S ah.γ.N tn th->tn+th+1=ah.γ.tn+ah.γ.th->
    (∀ay,At s i {x with mx:=.woken hh} ay->Inv q ay->phi ay.γ s<phi st.γ s->TT (cfg q) i Ch g' ay)->iI (cfg q) i Ch (TT (cfg q) i Ch) g ah:=by
   intro hh tn th hm ht hk;obtain⟨⟨k1,k2⟩,k3⟩:=hi.mu au hx (x':={x with mx:=.woken hh}) rfl (es:=semEvents ⟨s.Gb,5,none⟩) (Qm _ _) (by rw[hmx];simp) (by simp) (by simp) hm (hC.gb.sema (tn:=tn) (th:=th) (v:=((ah.γ.tn+ah.γ.th:Nat):Int)-1) (by omega)) (aY.set _ 5 _ (by omega)) (.inl (by rw[hmx];simp[kM];omega)) (.inl (Nat.le_refl _)) Js g.frame.fn g.frame.place;refine iI.own (C:=cfg q) (γ':=ah.γ.setMu i {x with mx:=.woken hh} ah.γ.L ah.γ.W ah.γ.S ah.γ.N tn th) hstep hs k1 rfl k2 (.inr (Wq (st:=ah) (st':=⟨_,_,ah.γ.setMu i {x with mx:=.woken hh} ah.γ.L ah.γ.W ah.γ.S ah.γ.N tn th⟩) rfl rfl rfl (by show tn+th<=_;omega) fun k hk=>upd_ne _ _ hk)) (hk _ (au.next hi rfl rfl rfl (by simp[aJ.setMu,upd]) (fun _ h=>h) fun b a1 _ _ _=>(aY.set (s:=s) ah.w 5 _ (by omega)).blk b a1) k1 ?_);show phi (ah.γ.setMu i {x with mx:=.woken hh} ah.γ.L ah.γ.W ah.γ.S ah.γ.N tn th) s<_;rw[hmx]at k3;simp only[kM]at k3;omega
  rcases Nat.eq_zero_or_pos ah.γ.tn with e|e
  ·exact go true ah.γ.tn (ah.γ.th-1) (hC.mu.aX2 au.lo (au.hi hi) mm (by omega)) (by omega) hH
  ·exact go false (ah.γ.tn-1) ah.γ.th (hC.mu.aX1 au.lo (au.hi hi) mm e) (by omega) hN
end
end
section
open Go.Conc Go.ConcN
open Go.ConcR (KK wgBlock WgAt stA smA rd wr mk DC0)
open Go.ConcM (OsLater)
section
variable{q:ig}{i:Nat}
theorem Inv.gen{st:St aJ}(h:Inv q st){s:aO}(hs:st.γ.sc=some s)(hi:Mem s st.γ i){fn:FuncId}{pos:String}{es:Array Event}{w':World}{γ':aJ}(hsc:γ'.sc=st.γ.sc)(hnum:γ'.num=st.γ.num)(BR:∀b,γ'.dead b↔st.γ.dead b)
  (hmay:∀e∈es,∀x,(MemAct.ofEvent e).touch?=some x->May st.w.heap.size st.γ.ex st.γ.rd st.γ.sh i x/\∀b,fE x.loc=some b->b<w'.heap.size)(hrel:∀e∈es,∀a,e.loc≠ .mark (.release a))(hsaid:i≠0->∀e∈es,∀x,(MemAct.ofEvent e).touch?=some x->x.kind≠ .said)
  (hsub:Ie (st.t++MemOp.ofEvents i fn pos es) st.γ.num w'.heap.size st.γ.ex st.γ.rd st.γ.sh->Ie (st.t++MemOp.ofEvents i fn pos es) st.γ.num w'.heap.size γ'.ex γ'.rd γ'.sh)(hkeep:∀j,j≠i->∀l,(st.γ.ex j l->γ'.ex j l)/\(st.γ.rd j l->γ'.rd j l))(X9:∀g l,γ'.ex g l\/γ'.rd g l\/γ'.sh g l->g<st.γ.num)
  (hsz:w'.heap.size=st.w.heap.size)(hblk:∀b,w'.heap[b]?=st.w.heap[b]?\/(∃off,st.γ.ex i (ca b off))\/b=s.Gb\/b=s.Wg\/b=s.Zb\/b=s.Rb)(hos:OsLater st.w.os w'.os)(hout:w'.output=st.w.output)
  (hwk:∀j,j≠i->γ'.wk j=st.γ.wk j)(hmw:i≠0->γ'.mw=st.γ.mw/\γ'.dm=st.γ.dm)(h0:i=0->γ'.dm=deafBehind st.γ.dm es/\γ'.wk 0=st.γ.wk 0/\γ'.mw≠ .solo)(hdf:i≠0->(γ'.wk i).df=deafBehind (st.γ.wk i).df es/\(γ'.wk i).wg≠ .gone)
  (hC:dX q s ⟨w',st.t++MemOp.ofEvents i fn pos es,γ'⟩)(hP:tX s γ')(hT:BD s ⟨w',st.t++MemOp.ofEvents i fn pos es,γ'⟩)
  (Nh:phi γ' s<=phi st.γ s/\(phi γ' s=phi st.γ s->γ'.L=st.γ.L/\γ'.W=st.γ.W/\γ'.S=st.γ.S/\γ'.N=st.γ.N)/\(st.γ.D=1->γ'.D=1))(P8:i≠0->qL γ' s<=qL st.γ s/\(qL γ' s=qL st.γ s->γ'.gs=st.γ.gs))
  (nI:∀j,j≠i->(st.γ.wk j).mx=.own .work->γ'.D=st.γ.D/\∀off,6<=off->off<16->w'.cell? ⟨s.Gb,off,none⟩=st.w.cell? ⟨s.Gb,off,none⟩)
  (Nl:st.γ.N<=γ'.N\/∀j,j≠i->s.n0<=j->j<s.n0+s.n->(st.γ.wk j).mx≠ .woken true):
  Inv q ⟨w',st.t++MemOp.ofEvents i fn pos es,γ'⟩/\∀j,j≠i->Rl j st ⟨w',st.t++MemOp.ofEvents i fn pos es,γ'⟩:=by
 have x:=h.aZ s hs;have A:=h.base.tr.Ic;have hilt:i<st.γ.num:=by rcases hi with rfl|hi;exact h.base.pos;exact hi.2
 have EU:st.γ.old=s.n0:=by unfold aJ.old;rw[hs]
 have hold:γ'.old=st.γ.old:=by unfold aJ.old;rw[hsc,hnum]
 have htr:Ie (st.t++MemOp.ofEvents i fn pos es) st.γ.num w'.heap.size γ'.ex γ'.rd γ'.sh:=by
  refine hsub (h.base.tr.step (Nat.le_of_eq hsz.symm) hilt (fun op ho=>?_) (fun op ho y hy=>?_) (fun op ho y hy=>?_) (fun op ho a e=>?_) |>.sub ?_ (fun g l hl=>.inl hl) (fun g l hl=>.inl hl) fun g l hl=>.inl hl)
  ·obtain⟨e,_,rfl⟩:=dZ ho;rfl
  ·obtain⟨e,he,rfl⟩:=dZ ho;exact(hmay e he y hy).1
  ·obtain⟨e,he,rfl⟩:=dZ ho;exact(hmay e he y hy).2
  ·obtain⟨e',he,rfl⟩:=dZ ho;exact hrel e' he a ((ou e' _).1 e)
  ·rw[hsz];exact A
 refine⟨⟨h.base.step hilt (by rcases hi with hi|hi;exact .inl hi;exact .inr (by rw[EU];exact hi.1)) (Nat.le_of_eq hsz.symm) (by rw[hnum];exact htr) hnum hold BR hsc hos hout ?_ hwk (fun hne=>(hdf hne).1) (fun hne=>(hdf hne).2) (fun he=>(h0 he).2.1) (fun g l hl=>by rw[hnum];exact X9 g l hl) hsaid,?_,fun s' hs'=>?_⟩,fun j hj=>?_⟩
 ·split
  ·rename_i e;exact(h0 e).1
  ·rename_i e;exact(hmw e).2
 ·show γ'.sc=none↔γ'.mw=.solo;rw[hsc,hs];by_cases e:i=0
  ·exact⟨fun hn=>(by cases hn),fun hn=>absurd hn (h0 e).2.2⟩
  ·rw[(hmw e).1,<-hs];exact h.solo
 ·have hs':γ'.sc=some s':=hs';rw[hsc,hs]at hs';cases hs';exact⟨hC,hP,hT⟩
 ·refine Rl.other hj (size:=0) A (Nat.le_of_eq hsz.symm) (fun l hl=>(hkeep j hj l).1 hl) (fun l hl=>(hkeep j hj l).2 hl) (fun b=>?_) hwk (fun hne=>⟨(hmw hne).1,(hmw hne).2,hnum,BR⟩) hsc (fun s' hs'=>?_) (fun s' hs' hne=>?_) (fun hw=>⟨(nI j hj hw).1,fun s' hs' off o1 o2=>?_⟩) (fun hz hw hg=>Nl.resolve_right fun hh=>hh j hj ?_ ?_ hw) (Nat.le_of_eq hnum.symm)
  ·rcases hblk b with e|e|e
   ·exact .inl e
   ·exact .inr (.inr (.inl e))
   ·exact .inr (.inr (.inr (x.p.spec j b e)))
  ·rw[hs]at hs';cases hs';exact Nh
  ·rw[hs]at hs';cases hs';exact P8 hne
  ·rw[hs]at hs';cases hs';exact(nI j hj hw).2 off o1 o2
  ·refine Nat.le_of_not_lt fun hlt=>?_
   rcases h.base.old j (by omega) (by rw[EU];exact hlt)with e|e<;>rw[hg]at e<;>cases e
  ·refine Nat.lt_of_not_le fun hge=>?_
   have:=x.c.new j (by have:=x.c.n0;omega);rw[this]at hg;cases hg
end
end
section
open Go.Conc Go.ConcN
open Go.ConcR (KK wgBlock WgAt stA smA rd wr mk DC0)
open Go.ConcM (OsLater)
theorem MP{t:Trace}{a:Addr}{p:Nat}{y:MemOp}(h:LastWrite t a p)(h1:t.heard p)(h2:Deaf t y.g=0)(hy:y.act=.access ⟨.cell a,false,true⟩):Knows (t++#[y]) y.g p:=by
 have hlast:(t++#[y])[t.size]?=some y:=by rw[Array.getElem?_append_right (Nat.le_refl _)];simp
 have hp:=lt_of_act? h.1;obtain⟨z,hz,_⟩:=Option.map_eq_some_iff.1 h.1;have hheard:(t++#[y]).heard t.size:=⟨y.g,by simp[Trace.g?],by rw[deaf_old (Nat.le_refl _)];exact h2⟩;refine⟨t.size,y,hlast,rfl,.inr (.single (.inr ⟨.atomic (a:=a) hp (by rw[act?_old hp];exact h.1) (by rw[act?_of hlast,hy]) (fun k sync h1 h2=>by rw[act?_old h2];exact h.2 k sync h1),(heard_old hp).2 h1,hheard⟩))⟩
section
variable{q:ig}{i:Nat}{s:aO}{x:Wk}
theorem dX.turn{st:St aJ}(c:dX q s st)(hA:At s i x st)(hx:x.wg=.work){x':Wk}(e1:x'.wg=.work)(e2:x'.zw=x.zw)(e3:x'.rw=x.rw){w':World}{t':Trace}{γ':aJ}(hwk:γ'.wk=upd st.γ.wk i x')(hk:γ'.mw=st.γ.mw/\γ'.gs=st.γ.gs/\γ'.gm=st.γ.gm/\γ'.num=st.γ.num)
  (hG:kR q s γ' w')(hblk:∀b,b≠s.Gb->w'.heap[b]?=st.w.heap[b]?)(hmu:jC (upd st.γ.mm i x'.mx) s.n0 s.n γ'.L γ'.W γ'.S γ'.N γ'.tn γ'.th)(hD:γ'.D<=1)
  (nI:∀j,(γ'.wk j).mx=.own .work->γ'.D=0)(hdn:∀j,(γ'.wk j).mx=.own .dn->γ'.D=1)(pJ:∀j,s.n0<=j->(γ'.wk j).syn=true->γ'.D=1):dX q s ⟨w',t',γ'⟩:=by
 have at_:∀j,γ'.wk j=if j=i then x' else st.γ.wk j:=fun j=>by rw[hwk];rfl
 have hwg:∀j,(γ'.wk j).wg=(st.γ.wk j).wg:=fun j=>by
  rw[at_];split
  ·rename_i e;subst e;rw[hA.me,hx,e1]
  ·rfl
 have hzw:∀j,(γ'.wk j).zw=(st.γ.wk j).zw:=fun j=>by
  rw[at_];split
  ·rename_i e;subst e;rw[hA.me,e2]
  ·rfl
 have hrw:∀j,(γ'.wk j).rw=(st.γ.wk j).rw:=fun j=>by
  rw[at_];split
  ·rename_i e;subst e;rw[hA.me,e3]
  ·rfl
 have hmm:γ'.mm=upd st.γ.mm i x'.mx:=by
  funext j;unfold aJ.mm;rw[at_];unfold upd;split<;>rfl
 obtain⟨k1,k2,k3,k4⟩:=hk;refine⟨by show _/\s.n0<=γ'.num/\γ'.num<=_/\_;rw[k4];exact c.n0,hG,?_,?_,?_,c.ne,?_,hD,nI,hdn,pJ,fun j hj=>?_,fun j h1 h2=>?_,fun j h1 h2 h3=>?_,?_,?_⟩
 ·show WgAt q.tW s.Wg w' γ'.gs γ'.gm;rw[k2,k3];exact c.qV.of_block (hblk _ c.ne.1.symm)
 ·obtain⟨Z,z1,z2,z3,z4⟩:=c.zb;exact⟨Z,(hblk _ c.ne.2.1.symm).trans z1,z2,z3,fun k k1 k2=>z4 k k1 ((hzw _).symm.trans k2)⟩
 ·obtain⟨Z,z1,z2,z3,z4⟩:=c.rb;exact⟨Z,(hblk _ c.ne.2.2.1.symm).trans z1,z2,z3,fun k k1 k2=>z4 k k1 ((hrw _).symm.trans k2)⟩
 ·show jC γ'.mm ..;rw[hmm];exact hmu
 ·have hj:γ'.num<=j:=hj;have hne:j≠i:=by have:=hA.lt;omega
  show γ'.wk j=.new;rw[at_,if_neg hne];exact c.new j (by omega)
 ·show(γ'.wk j).wg≠ .idle;rw[hwg];exact c.on j h1 (by rw[<-k4];exact h2)
 ·have h2:(γ'.wk j).wg≠ .idle:=h2;have h3:(γ'.wk j).wg≠ .work:=h3;rw[hwg]at h2 h3;have hne:j≠i:=fun e=>h3 (by rw[e,hA.me];exact hx)
  show(γ'.wk j).zw=true/\(γ'.wk j).rw=true/\((γ'.wk j).mx=.fresh\/(γ'.wk j).mx=.out);rw[at_,if_neg hne];exact c.fin j h1 h2 h3
 ·intro h;show γ'.num=_;rw[k4];refine c.all ?_;have h:γ'.mw=.wt\/γ'.mw=.rg\/γ'.mw=.lI:=h;rw[k1]at h;exact h
 ·show yO γ'.mw (dF WG.cd γ' s) (dF (·== .d2) γ' s) (dF (·== .d3) γ' s) (dF (·== .d4) γ' s) γ'.gs γ'.gm;rw[fV hwg,fV hwg,fV hwg,fV hwg,k1,k2,k3];exact c.uh
end
end
section
open Go.Conc Go.ConcN
open Go.ConcR (KK wgBlock WgAt stA smA rd wr mk DC0)
open Go.ConcM (OsLater)
def jr(f:Nat->Loc->Prop)(i:Nat)(s:aO):Nat->Loc->Prop:=fun g l=>f g l\/(g=i/\∃off,6<=off/\off<16/\l=ca s.Gb off)
theorem wK(i:Nat)(fn:FuncId)(pos:String)(e:Event):MemOp.ofEvents i fn pos #[e]=#[{g:=i,fn,pos,act:=.ofEvent e}]:=by rw[ofEvents_eq];simp
section
variable{q:ig}{i:Nat}{s:aO}{x:Wk}
theorem AO{st:St aJ}(h:Inv q st)(hA:At s i x st){o:JL}(hmx:x.mx=.own o):∀j,j≠i->∀o',(st.γ.wk j).mx≠ .own o':=by
 intro j hj o' e;have c:=(h.aZ s hA.sc).c;have EU:st.γ.old=s.n0:=by unfold aJ.old;rw[hA.sc]
 have hi2:=hA.hi h;by_cases h1:j<s.n0
 ·rcases h.base.Xr j (by rw[EU];exact h1)with h2|h2<;>rw[e]at h2<;>cases h2
 by_cases h2:st.γ.num<=j
 ·have:=c.new j h2;rw[this]at e;cases e
 have hj2:j<s.n0+s.n:=by have:=c.n0;omega
 have e1:=oD MX.iE st.γ.mm s.n .out hA.lo hi2;have e2:=zX (m:=upd st.γ.mm i .out) (p:=MX.iE) (by omega:s.n0<=j) hj2 (by rw[upd_ne _ _ hj];show MX.iE (st.γ.wk j).mx=true;rw[e];rfl);rw[show st.γ.mm i=.own o from(dA hA).trans hmx]at e1;simp[MX.iE]at e1;have:=c.mu.own;have:=c.mu.bd;omega
theorem oO{e:Event}(he:e∈(#[⟨.cell ⟨s.Gb,3,none⟩,false,true⟩]:Array Event)){y:Touch}(hy:(MemAct.ofEvent e).touch?=some y):y=⟨ca s.Gb 3,false,.atomic⟩:=by
 simp at he;subst he;cases hy;rfl
theorem Inv.ba4{st:St aJ}(h:Inv q st)(hA:At s i x st)(hx:x.wg=.work)(hdf:x.df=0)(hD:st.γ.D=1)(n1:x.mx≠ .own .work)(fn:FuncId)(pos:String):
  Inv q ⟨st.w,st.t++MemOp.ofEvents i fn pos #[⟨.cell ⟨s.Gb,3,none⟩,false,true⟩],{st.γ with wk:=upd st.γ.wk i {x with syn:=true},rd:=jr st.γ.rd i s}⟩/\
  ∀j,j≠i->Rl j st ⟨st.w,st.t++MemOp.ofEvents i fn pos #[⟨.cell ⟨s.Gb,3,none⟩,false,true⟩],{st.γ with wk:=upd st.γ.wk i {x with syn:=true},rd:=jr st.γ.rd i s}⟩:=by
 obtain⟨c,p,t⟩:=h.aZ s hA.sc;have A:=h.base.tr.Ic;have hl:=c.SS;have jL:∀j,(st.γ.wk j).mx≠ .own .work:=fun j e=>by have:=c.work j e;omega
 have at_:∀j,upd st.γ.wk i {x with syn:=true} j=if j=i then{x with syn:=true}else st.γ.wk j:=fun j=>rfl
 have hmx:∀j,(upd st.γ.wk i {x with syn:=true} j).mx=(st.γ.wk j).mx:=fun j=>by
  rw[at_];split
  ·rename_i e;subst e;rw[hA.me]
  ·rfl
 have hwg:∀j,(upd st.γ.wk i {x with syn:=true} j).wg=(st.γ.wk j).wg:=fun j=>by
  rw[at_];split
  ·rename_i e;subst e;rw[hA.me]
  ·rfl
 have hmm:({st.γ with wk:=upd st.γ.wk i {x with syn:=true},rd:=jr st.γ.rd i s}:aJ).mm=st.γ.mm:=funext fun j=>hmx j
 have noS:=p.noS jL;have A':QC st.w.heap.size st.γ.ex (jr st.γ.rd i s) st.γ.sh:=by
  refine⟨A.ee,fun g g' l h1 h2=>?_,A.es,fun g g' l h1 h2=>?_,A.low,fun g l h1 b hb=>?_,A.slow,fun g l h1=>?_⟩
  ·rcases h2 with h2|⟨_,off,o1,o2,rfl⟩
   ·exact A.er _ _ _ h1 h2
   ·exact absurd h1 (noS g off o1 o2).1
  ·rcases h1 with h1|⟨_,off,o1,o2,rfl⟩
   ·exact A.rs _ _ _ h1 h2
   ·exact(noS g' off o1 o2).2.1 h2
  ·rcases h1 with h1|⟨_,off,o1,o2,rfl⟩
   ·exact A.zf _ _ h1 b hb
   ·have:s.Gb=b:=by unfold ca fE at hb;simpa using hb
    omega
  ·rcases h1 with h1|(h1|⟨_,off,o1,o2,rfl⟩)|h1
   ·exact A.mem _ _ (.inl h1)
   ·exact A.mem _ _ (.inr (.inl h1))
   ·rfl
   ·exact A.mem _ _ (.inr (.inr h1))
 have hmem:=hA.mem;have sh3:=(p.OC i hmem).1 3 (by omega) (by omega);refine h.gen hA.sc hmem rfl rfl (fun _=>.rfl) (fun e he y hy=>?_) (fun e he a=>?_) (fun _ e he y hy=>by rw[oO he hy];simp) (fun T=>?_) (fun j hj l=>⟨id,.inl⟩) (fun g l hl=>?_) rfl (fun _=>.inl rfl) (.refl _) rfl (fun j hj=>upd_ne _ _ hj) (fun _=>⟨rfl,rfl⟩) (fun e=>absurd e hA.ne) (fun _=>?_) ?_ ?_ ?_ ?_ (fun _=>?_) (fun j _ e=>absurd e (jL j)) (.inl (Nat.le_refl _))
 ·rw[oO he hy];refine⟨.inr (.inr (.inr (.inl ⟨sh3,.inl rfl⟩))),fun b hb=>?_⟩;have hb:fE (ca s.Gb 3)=some b:=hb;have:s.Gb=b:=by unfold ca fE at hb;simpa using hb
  show b<st.w.heap.size;omega
 ·simp at he;subst he;simp
 ·refine⟨T.nr,A',T.ex,fun g l hl=>?_,T.sh,T.low,T.gs,T.norel⟩;rcases hl with hl|⟨rfl,off,o1,o2,rfl⟩
  ·exact T.rd g l hl
  ·obtain⟨pp,p1,p2,p3⟩:=t.sh1 hD;intro k a ha hal hw;rw[wK]at ha ⊢;have kn:Knows (st.t++#[{g:=g,fn,pos,act:=.ofEvent ⟨.cell ⟨s.Gb,3,none⟩,false,true⟩}]) g pp:=by
    refine MP (y:={g:=g,fn,pos,act:=.ofEvent ⟨.cell ⟨s.Gb,3,none⟩,false,true⟩}) p1 p2 ?_ rfl;have:=h.base.TL g (Nat.pos_of_ne_zero hA.ne) hA.lt;rw[hA.me,hdf]at this;exact this
   rcases eu ha with⟨hlt,ha'⟩|⟨_,op,hop,hx1,hxa⟩
   ·exact Knows.of_before ((p3 off o1 o2 k a ha' hal hw).app _) kn
   ·simp at hop;subst hop;cases hxa;cases hw
 ·rcases hl with hl|(hl|⟨rfl,_⟩)|hl
  ·exact h.base.pool g l (.inl hl)
  ·exact h.base.pool g l (.inr (.inl hl))
  ·exact hA.lt
  ·exact h.base.pool g l (.inr (.inr hl))
 ·show(upd st.γ.wk i {x with syn:=true} i).df=_/\(upd st.γ.wk i {x with syn:=true} i).wg≠_;rw[dJ,hA.me];exact⟨wz _ _,by show x.wg≠_;rw[hx];simp⟩
 ·refine c.turn hA hx (x':={x with syn:=true}) hx rfl rfl rfl ⟨rfl,rfl,rfl,rfl⟩ (c.gb.of rfl rfl ⟨rfl,rfl,rfl,rfl⟩ rfl) (fun _ _=>rfl) (jC.still c hA rfl) c.D1 (fun j hj=>c.work j ((hmx j).symm.trans hj)) (fun j hj=>c.dn j ((hmx j).symm.trans hj)) fun _ _ _=>hD
 ·refine⟨fun g b hb=>?_,fun k k1 k2 k3=>p.J3 k k1 k2 ((hwg _).symm.trans k3),p.Qj,fun g hg off ho=>.inl (p.OE g hg off ho),p.OC,fun j hj=>p.exS j ((hmx j).symm.trans hj),fun j hj0 hj off o1 o2=>?_,fun _ g off o1 o2=>⟨(noS g off o1 o2).1,(noS g off o1 o2).2.1,fun h0=>?_⟩⟩
  ·obtain⟨h1,o2,h2⟩:=p.spec g b hb;refine⟨h1,?_⟩;by_cases e:b=s.Gb
   ·subst e;refine⟨3,fun h3=>?_⟩;rcases h3 with h3|⟨_,off,o1,_,e⟩
    ·exact A.rs _ _ _ h3 sh3
    ·unfold ca at e;simp at e;omega
   ·refine⟨o2,fun h3=>?_⟩;rcases h3 with h3|⟨_,off,_,_,e2⟩
    ·exact h2 h3
    ·unfold ca at e2;simp at e2;exact e e2.1
  ·by_cases e:j=i
   ·exact .inr ⟨e,off,o1,o2,rfl⟩
   ·have hj:(upd st.γ.wk i {x with syn:=true} j).syn=true:=hj;rw[upd_ne _ _ e]at hj;exact .inl (p.Xc j hj0 hj off o1 o2)
  ·have h0:st.γ.D=0:=h0;omega
 ·refine t.app (i:=i) (fun op ho=>?_) rfl rfl (fun _=>jL) (fun j _ _ hw e=>hw ((hwg j).trans e)) (fun op ho y hy=>?_) fun _ hw=>absurd (by rw[hA.me];exact hx) hw
  ·obtain⟨e,_,rfl⟩:=dZ ho;rfl
  ·obtain⟨e,he,rfl⟩:=dZ ho;rw[oO he hy];exact⟨fun off o1 _ e=>by unfold ca at e;simp at e;omega,fun _=>rfl⟩
 ·have:phi ({st.γ with wk:=upd st.γ.wk i {x with syn:=true},rd:=jr st.γ.rd i s}:aJ) s=phi st.γ s:=by unfold phi;rw[hmm]
  exact⟨Nat.le_of_eq this,fun _=>⟨rfl,rfl,rfl,rfl⟩,id⟩
 ·rw[rD (γ:=st.γ) hwg];exact⟨Nat.le_refl _,fun _=>rfl⟩
end
end
section
open Go.Conc Go.ConcN
open Go.ConcR (KK wgBlock WgAt stA smA rd wr mk DC0)
open Go.ConcM (OsLater)
section
variable{q:ig}{i:Nat}{s:aO}{x:Wk}
theorem Zh{size:Nat}{ex rd sh:Nat->Loc->Prop}(A:QC size ex rd sh)(hG:s.Gb<size)(no:∀g off,6<=off->off<16->¬ex g (ca s.Gb off)/\¬sh g (ca s.Gb off)/\¬rd g (ca s.Gb off)):QC size (jr ex i s) rd sh:=by
 refine⟨fun g g' l h1 h2=>?_,fun g g' l h1 h2=>?_,fun g g' l h1 h2=>?_,A.rs,fun g l h1 b hb=>?_,A.zf,A.slow,fun g l h1=>?_⟩
 ·rcases h1 with h1|⟨rfl,off,o1,o2,rfl⟩<;>rcases h2 with h2|⟨rfl,off',o1',o2',e⟩
  ·exact A.ee _ _ _ h1 h2
  ·subst e;exact absurd h1 (no g off' o1' o2').1
  ·exact absurd h2 (no g' off o1 o2).1
  ·rfl
 ·rcases h1 with h1|⟨rfl,off,o1,o2,rfl⟩
  ·exact A.er _ _ _ h1 h2
  ·exact absurd h2 (no g' off o1 o2).2.2
 ·rcases h1 with h1|⟨rfl,off,o1,o2,rfl⟩
  ·exact A.es _ _ _ h1 h2
  ·exact(no g' off o1 o2).2.1 h2
 ·rcases h1 with h1|⟨_,off,o1,o2,rfl⟩
  ·exact A.low _ _ h1 b hb
  ·have:s.Gb=b:=by unfold ca fE at hb;simpa using hb
   omega
 ·rcases h1 with(h1|⟨_,off,o1,o2,rfl⟩)|h1
  ·exact A.mem _ _ (.inl h1)
  ·rfl
  ·exact A.mem _ _ (.inr h1)
theorem Inv.ba5{st:St aJ}(h:Inv q st)(hA:At s i x st)(hx:x.wg=.work)(hD:st.γ.D=0)(n1:x.mx=.own .chk)(fn:FuncId)(pos:String):
  Inv q ⟨st.w,st.t++MemOp.ofEvents i fn pos #[⟨.cell ⟨s.Gb,3,none⟩,false,true⟩],{st.γ with wk:=upd st.γ.wk i {x with mx:=.own .work},ex:=jr st.γ.ex i s}⟩/\
  ∀j,j≠i->Rl j st ⟨st.w,st.t++MemOp.ofEvents i fn pos #[⟨.cell ⟨s.Gb,3,none⟩,false,true⟩],{st.γ with wk:=upd st.γ.wk i {x with mx:=.own .work},ex:=jr st.γ.ex i s}⟩:=by
 obtain⟨c,p,t⟩:=h.aZ s hA.sc;have A:=h.base.tr.Ic;have hl:=c.SS;have one:=AO h hA n1;have jL:∀j,(st.γ.wk j).mx≠ .own .work:=fun j e=>by
  by_cases hj:j=i
  ·subst hj;rw[hA.me,n1]at e;cases e
  ·exact one j hj _ e
 have at_:∀j,upd st.γ.wk i {x with mx:=.own .work} j=if j=i then{x with mx:=.own .work}else st.γ.wk j:=fun j=>rfl
 have hmx:∀j,j≠i->(upd st.γ.wk i {x with mx:=.own .work} j).mx=(st.γ.wk j).mx:=fun j hj=>by rw[upd_ne _ _ hj]
 have hwg:∀j,(upd st.γ.wk i {x with mx:=.own .work} j).wg=(st.γ.wk j).wg:=fun j=>by
  rw[at_];split
  ·rename_i e;subst e;rw[hA.me]
  ·rfl
 have pJ:∀j,(upd st.γ.wk i {x with mx:=.own .work} j).syn=(st.γ.wk j).syn:=fun j=>by
  rw[at_];split
  ·rename_i e;subst e;rw[hA.me]
  ·rfl
 have noS:=fun g off o1 o2=>(⟨(p.noS jL g off o1 o2).1,(p.noS jL g off o1 o2).2.1,(p.noS jL g off o1 o2).2.2 hD⟩:¬st.γ.ex g (ca s.Gb off)/\¬st.γ.sh g (ca s.Gb off)/\¬st.γ.rd g (ca s.Gb off))
 have A':QC st.w.heap.size (jr st.γ.ex i s) st.γ.rd st.γ.sh:=Zh A hl.1 noS;have hmem:=hA.mem;have sh3:=(p.OC i hmem).1 3 (by omega) (by omega);have hm:jC (upd st.γ.mm i (.own .work)) s.n0 s.n st.γ.L st.γ.W st.γ.S st.γ.N st.γ.tn st.γ.th:=c.mu.owns hA.lo (hA.hi h) ((dA hA).trans n1);refine h.gen hA.sc hmem rfl rfl (fun _=>.rfl) (fun e he y hy=>?_) (fun e he a=>?_) (fun _ e he y hy=>by rw[oO he hy];simp) (fun T=>?_) (fun j hj l=>⟨.inl,id⟩) (fun g l hl=>?_) rfl (fun _=>.inl rfl) (.refl _) rfl (fun j hj=>upd_ne _ _ hj) (fun _=>⟨rfl,rfl⟩) (fun e=>absurd e hA.ne) (fun _=>?_) ?_ ?_ ?_ ?_ (fun _=>?_) (fun j _ e=>absurd e (jL j)) (.inl (Nat.le_refl _))
 ·rw[oO he hy];refine⟨.inr (.inr (.inr (.inl ⟨sh3,.inl rfl⟩))),fun b hb=>?_⟩;have hb:fE (ca s.Gb 3)=some b:=hb;have:s.Gb=b:=by unfold ca fE at hb;simpa using hb
  show b<st.w.heap.size;omega
 ·simp at he;subst he;simp
 ·refine⟨T.nr,A',fun g l hl=>?_,T.rd,T.sh,T.low,T.gs,T.norel⟩;rcases hl with hl|⟨rfl,off,o1,o2,rfl⟩
  ·exact T.ex g l hl
  ·refine(t.sh0 hD jL g hmem off o1 o2).app fun op hop y hy e=>?_
   obtain⟨e',he,rfl⟩:=dZ hop;rfl
 ·rcases hl with(hl|⟨rfl,_⟩)|hl
  ·exact h.base.pool g l (.inl hl)
  ·exact hA.lt
  ·exact h.base.pool g l (.inr hl)
 ·show(upd st.γ.wk i {x with mx:=.own .work} i).df=_/\(upd st.γ.wk i {x with mx:=.own .work} i).wg≠_;rw[dJ,hA.me];exact⟨wz _ _,by show x.wg≠_;rw[hx];simp⟩
 ·refine c.turn hA hx (x':={x with mx:=.own .work}) hx rfl rfl rfl ⟨rfl,rfl,rfl,rfl⟩ (c.gb.of rfl rfl ⟨rfl,rfl,rfl,rfl⟩ rfl) (fun _ _=>rfl) hm c.D1 (fun _ _=>hD) (fun j hj=>?_) fun j h0 hj=>c.syn j h0 ((pJ j).symm.trans hj)
  replace hj:(upd st.γ.wk i {x with mx:=.own .work} j).mx=.own .dn:=hj;by_cases e:j=i
  ·subst e;rw[dJ]at hj;cases hj
  ·rw[hmx j e]at hj;exact c.dn j hj
 ·have nf:∀{g b off},b≠s.Gb->jr st.γ.ex i s g (ca b off)->st.γ.ex g (ca b off):=by
   intro g b off hb h1;rcases h1 with h1|⟨_,off',_,_,e⟩
   ·exact h1
   ·unfold ca at e;simp at e;exact absurd e.1 hb
  refine⟨fun g b hb=>?_,fun k k1 k2 k3=>⟨.inl (p.J3 k k1 k2 ((hwg _).symm.trans k3)).1,.inl (p.J3 k k1 k2 ((hwg _).symm.trans k3)).2⟩,fun k k1 k2=>⟨.inl (p.Qj k k1 k2).1,.inl (p.Qj k k1 k2).2⟩,p.OE,p.OC,fun j hj off o1 o2=>?_,fun j h0 hj=>p.Xc j h0 ((pJ j).symm.trans hj),fun hn=>absurd (by show(upd st.γ.wk i {x with mx:=.own .work} i).mx=_;rw[dJ]) (hn i)⟩
  ·obtain⟨⟨o1,h1⟩,h2⟩:=p.spec g b hb;refine⟨?_,h2⟩;by_cases e:b=s.Gb
   ·subst e;refine⟨3,fun h3=>?_⟩;rcases h3 with h3|⟨_,off,o1,_,e⟩
    ·exact A.es _ _ _ h3 sh3
    ·unfold ca at e;simp at e;omega
   ·exact⟨o1,fun h3=>h1 (nf e h3)⟩
  ·replace hj:(upd st.γ.wk i {x with mx:=.own .work} j).mx=.own .work:=hj;by_cases e:j=i
   ·exact .inr ⟨e,off,o1,o2,rfl⟩
   ·rw[hmx j e]at hj;exact absurd hj (jL j)
 ·refine t.app (i:=i) (fun op ho=>?_) rfl rfl (fun _=>jL) (fun j _ _ hw e=>hw ((hwg j).trans e)) (fun op ho y hy=>?_) fun _ hw=>absurd (by rw[hA.me];exact hx) hw
  ·obtain⟨e,_,rfl⟩:=dZ ho;rfl
  ·obtain⟨e,he,rfl⟩:=dZ ho;rw[oO he hy];exact⟨fun off o1 _ e=>by unfold ca at e;simp at e;omega,fun _=>rfl⟩
 ·have e2:({st.γ with wk:=upd st.γ.wk i {x with mx:=.own .work},ex:=jr st.γ.ex i s}:aJ).mm=upd st.γ.mm i (.own .work):=by
   funext j;show(upd st.γ.wk i {x with mx:=.own .work} j).mx=_;unfold upd;split<;>rfl
  have e3:=IQ st.γ.mm (a:=s.n0) s.n (.own .work) (st.γ.tn+st.γ.th) (st.γ.tn+st.γ.th) hA.lo (hA.hi h);rw[show st.γ.mm i=.own .chk from(dA hA).trans n1]at e3;have:phi ({st.γ with wk:=upd st.γ.wk i {x with mx:=.own .work},ex:=jr st.γ.ex i s}:aJ) s=phi st.γ s:=by
   unfold phi;rw[e2];show VU _ _ _ (st.γ.tn+st.γ.th)=_;simp only[kM]at e3;omega
  exact⟨Nat.le_of_eq this,fun _=>⟨rfl,rfl,rfl,rfl⟩,id⟩
 ·rw[rD (γ:=st.γ) hwg];exact⟨Nat.le_refl _,fun _=>rfl⟩
end
end
section
open Go.Conc Go.ConcN
open Go.ConcR (KK wgBlock WgAt stA smA rd wr mk DC0)
open Go.ConcM (OsLater)
def sV(f:Nat->Loc->Prop)(i:Nat)(s:aO):Nat->Loc->Prop:=fun g l=>f g l/\¬(g=i/\∃off,6<=off/\off<16/\l=ca s.Gb off)
section
variable{q:ig}{i:Nat}{s:aO}{x:Wk}
theorem kR.bv3{γ:aJ}{w:World}(h:kR q s γ w){γ':aJ}(hw:γ'.L=γ.L/\γ'.W=γ.W/\γ'.S=γ.S/\γ'.N=γ.N)(ht:γ'.tn+γ'.th=γ.tn+γ.th)(hD:γ'.D=1)(hv:∀id,1<=id->id<=s.nn->w.cell? ⟨s.Gb,6+id,none⟩=some (.int .u64 (s.vals id))):kR q s γ' (w.setCell ⟨s.Gb,3,none⟩ (.int .u32 1)):=by
 obtain⟨C,h1,h2,h3,h4,h5,h6,h7,h8,h9,h10⟩:=h;refine⟨_,EZ h1 3 _,by simpa using h2,?_,?_,?_,?_,?_,?_,fun k k1 k2=>?_,fun e id i1 i2=>?_⟩
 ·rw[Array.getElem?_setIfInBounds_ne (by omega)];exact h3
 ·rw[Array.getElem?_setIfInBounds_ne (by omega)];exact h4
 ·rw[Array.getElem?_setIfInBounds_ne (by omega)];exact h5
 ·rw[Array.getElem?_setIfInBounds_self_of_lt (by omega),hD];rfl
 ·rw[Array.getElem?_setIfInBounds_ne (by omega),hw.1,hw.2.1,hw.2.2.1,hw.2.2.2];exact h7
 ·rw[Array.getElem?_setIfInBounds_ne (by omega),ht];exact h8
 ·rw[Array.getElem?_setIfInBounds_ne (by omega)];exact h9 k k1 k2
 ·rw[Array.getElem?_setIfInBounds_ne (by omega)];have:=hv id i1 i2
  simpa [World.cell?,h1]using this
theorem Inv.store1{st:St aJ}(h:Inv q st)(hA:At s i x st)(hx:x.wg=.work)(hdf:x.df=0)(n1:x.mx=.own .work)(hv:∀id,1<=id->id<=s.nn->st.w.cell? ⟨s.Gb,6+id,none⟩=some (.int .u64 (s.vals id)))(fn:FuncId)(pos:String):
  Inv q ⟨st.w.setCell ⟨s.Gb,3,none⟩ (.int .u32 1),st.t++MemOp.ofEvents i fn pos #[⟨.cell ⟨s.Gb,3,none⟩,true,true⟩],{st.γ with wk:=upd st.γ.wk i {x with mx:=.own .dn,syn:=true},D:=1,ex:=sV st.γ.ex i s,rd:=jr st.γ.rd i s}⟩/\
  ∀j,j≠i->Rl j st ⟨st.w.setCell ⟨s.Gb,3,none⟩ (.int .u32 1),st.t++MemOp.ofEvents i fn pos #[⟨.cell ⟨s.Gb,3,none⟩,true,true⟩],{st.γ with wk:=upd st.γ.wk i {x with mx:=.own .dn,syn:=true},D:=1,ex:=sV st.γ.ex i s,rd:=jr st.γ.rd i s}⟩:=by
 obtain⟨c,p,t⟩:=h.aZ s hA.sc;have A:=h.base.tr.Ic;have hl:=c.SS;have one:=AO h hA n1;have hD:st.γ.D=0:=c.work i (by rw[hA.me];exact n1);have TB:=p.exS i (by rw[hA.me];exact n1);have at_:∀j,upd st.γ.wk i {x with mx:=.own .dn,syn:=true} j=if j=i then{x with mx:=.own .dn,syn:=true}else st.γ.wk j:=fun j=>rfl
 have hne:∀j,j≠i->upd st.γ.wk i {x with mx:=.own .dn,syn:=true} j=st.γ.wk j:=fun j hj=>upd_ne _ _ hj
 have hwg:∀j,(upd st.γ.wk i {x with mx:=.own .dn,syn:=true} j).wg=(st.γ.wk j).wg:=fun j=>by
  rw[at_];split
  ·rename_i e;subst e;rw[hA.me]
  ·rfl
 have jL:∀j,(upd st.γ.wk i {x with mx:=.own .dn,syn:=true} j).mx≠ .own .work:=fun j e=>by
  by_cases hj:j=i
  ·subst hj;rw[dJ]at e;cases e
  ·rw[hne j hj]at e;exact one j hj _ e
 have aZ5:∀j,s.n0<=j->(st.γ.wk j).syn≠true:=fun j h0 e=>by have:=c.syn j h0 e;omega
 have W:=aside_setCell st.w ⟨s.Gb,3,none⟩ (.int .u32 1);have hmem:=hA.mem;have sh3:=(p.OC i hmem).1 3 (by omega) (by omega);have aZ6:∀g off,6<=off->off<16->¬sV st.γ.ex i s g (ca s.Gb off):=fun g off o1 o2 ⟨h1,h2⟩=>h2 ⟨A.ee _ _ _ h1 (TB off o1 o2),off,o1,o2,rfl⟩
 have A':QC st.w.heap.size (sV st.γ.ex i s) (jr st.γ.rd i s) st.γ.sh:=by
  refine⟨fun g g' l h1 h2=>A.ee _ _ _ h1.1 h2.1,fun g g' l h1 h2=>?_,fun g g' l h1=>A.es _ _ _ h1.1,fun g g' l h1 h2=>?_,fun g l h1=>A.low _ _ h1.1,fun g l h1 b hb=>?_,A.slow,fun g l h1=>?_⟩
  ·rcases h2 with h2|⟨_,off,o1,o2,rfl⟩
   ·exact A.er _ _ _ h1.1 h2
   ·exact absurd h1 (aZ6 g off o1 o2)
  ·rcases h1 with h1|⟨_,off,o1,o2,rfl⟩
   ·exact A.rs _ _ _ h1 h2
   ·exact A.es _ _ _ (TB off o1 o2) h2
  ·rcases h1 with h1|⟨_,off,o1,o2,rfl⟩
   ·exact A.zf _ _ h1 b hb
   ·exact A.low _ _ (TB off o1 o2) b hb
  ·rcases h1 with h1|(h1|⟨_,off,o1,o2,rfl⟩)|h1
   ·exact A.mem _ _ (.inl h1.1)
   ·exact A.mem _ _ (.inr (.inl h1))
   ·rfl
   ·exact A.mem _ _ (.inr (.inr h1))
 have xY:∀{e:Event},e∈(#[⟨.cell ⟨s.Gb,3,none⟩,true,true⟩]:Array Event)->∀{y:Touch},(MemAct.ofEvent e).touch?=some y->y=⟨ca s.Gb 3,true,.atomic⟩:=by
  intro e he y hy;simp at he;subst he;cases hy;rfl
 refine h.gen hA.sc hmem rfl rfl (fun _=>.rfl) (fun e he y hy=>?_) (fun e he a=>?_) (fun _ e he y hy=>by rw[xY he hy];simp) (fun T=>?_) (fun j hj l=>⟨fun hl=>⟨hl,fun e=>hj e.1⟩,.inl⟩) (fun g l hl=>?_) W.size (fun b=>?_) (by rw[W.os];exact .refl _) W.output (fun j hj=>upd_ne _ _ hj) (fun _=>⟨rfl,rfl⟩) (fun e=>absurd e hA.ne) (fun _=>?_) ?_ ?_ ?_ ?_ (fun _=>?_) (fun j hj e=>absurd e (one j hj _)) (.inl (Nat.le_refl _))
 ·rw[xY he hy];refine⟨.inr (.inr (.inr (.inl ⟨sh3,.inl rfl⟩))),fun b hb=>?_⟩;have hb:fE (ca s.Gb 3)=some b:=hb;have:s.Gb=b:=by unfold ca fE at hb;simpa using hb
  rw[W.size];omega
 ·simp at he;subst he;simp
 ·refine⟨T.nr,by rw[W.size];exact A',fun g l hl=>T.ex g l hl.1,fun g l hl=>?_,T.sh,T.low,T.gs,T.norel⟩;rcases hl with hl|⟨rfl,off,o1,o2,rfl⟩
  ·exact T.rd g l hl
  ·exact PermW.of (T.ex g _ (TB off o1 o2))
 ·rcases hl with hl|(hl|⟨rfl,_⟩)|hl
  ·exact h.base.pool g l (.inl hl.1)
  ·exact h.base.pool g l (.inr (.inl hl))
  ·exact hA.lt
  ·exact h.base.pool g l (.inr (.inr hl))
 ·by_cases e:b=s.Gb
  ·exact .inr (.inr (.inl e))
  ·exact .inl (W.block b e)
 ·show(upd st.γ.wk i {x with mx:=.own .dn,syn:=true} i).df=_/\(upd st.γ.wk i {x with mx:=.own .dn,syn:=true} i).wg≠_;rw[dJ,hA.me];exact⟨YQ _ _ _ (by simp),by show x.wg≠_;rw[hx];simp⟩
 ·refine c.turn hA hx (x':={x with mx:=.own .dn,syn:=true}) hx rfl rfl rfl ⟨rfl,rfl,rfl,rfl⟩ (c.gb.bv3 ⟨rfl,rfl,rfl,rfl⟩ rfl rfl hv) (fun b hb=>W.block b hb) (c.mu.owns hA.lo (hA.hi h) ((dA hA).trans n1)) (Nat.le_refl 1) (fun j hj=>absurd hj (jL j)) (fun _ _=>rfl) fun _ _ _=>rfl
 ·refine⟨fun g b hb=>?_,fun k k1 k2 k3=>⟨⟨(p.J3 k k1 k2 ((hwg _).symm.trans k3)).1,?_⟩,(p.J3 k k1 k2 ((hwg _).symm.trans k3)).2,?_⟩,fun k k1 k2=>⟨⟨(p.Qj k k1 k2).1,?_⟩,(p.Qj k k1 k2).2,?_⟩,fun g hg off ho=>.inl (p.OE g hg off ho),p.OC,fun j hj=>absurd hj (jL j),fun j hj0 hj off o1 o2=>?_,fun _ g off o1 o2=>⟨aZ6 g off o1 o2,A.es _ _ _ (TB off o1 o2),fun h0=>by cases h0⟩⟩
  ·obtain⟨⟨o1,h1⟩,o2,h2⟩:=p.spec g b hb;refine⟨⟨o1,fun h3=>h1 h3.1⟩,?_⟩;by_cases e:b=s.Gb
   ·subst e;refine⟨3,fun h3=>?_⟩;rcases h3 with h3|⟨_,off,o1,_,e⟩
    ·exact A.rs _ _ _ h3 sh3
    ·unfold ca at e;simp at e;omega
   ·refine⟨o2,fun h3=>?_⟩;rcases h3 with h3|⟨_,off,_,_,e2⟩
    ·exact h2 h3
    ·unfold ca at e2;simp at e2;exact e e2.1
  all_goals first
   |(rintro ⟨_,off,_,_,e⟩
     unfold ca at e;simp at e
     first|exact c.ne.2.1 e.1.symm|exact c.ne.2.2.1 e.1.symm)
   |skip
  replace hj:(upd st.γ.wk i {x with mx:=.own .dn,syn:=true} j).syn=true:=hj;by_cases e:j=i
  ·exact .inr ⟨e,off,o1,o2,rfl⟩
  ·rw[hne j e]at hj;exact absurd hj (aZ5 j hj0)
 ·rw[wK];refine⟨fun h0=>(by cases h0),fun _=>⟨st.t.size,LastWrite.new _ _ rfl,⟨i,by simp[Trace.g?],?_⟩,fun off o1 o2 k a ha hal hw=>?_⟩,fun j hj hj2 hw=>?_⟩
  ·rw[deaf_old (Nat.le_refl _)];have:=h.base.TL i (Nat.pos_of_ne_zero hA.ne) hA.lt;rw[hA.me,hdf]at this;exact this
  ·rcases eu ha with⟨hlt,ha'⟩|⟨_,op,hop,hx1,hxa⟩
   ·have kn:=h.base.tr.ex i _ (TB off o1 o2) k a ha' hal;exact .inr (kn.hb_new (Nat.le_refl _) (y:={g:=i,fn,pos,act:=.ofEvent ⟨.cell ⟨s.Gb,3,none⟩,true,true⟩}) (by rw[Array.getElem?_append_right (Nat.le_refl _)];simp) rfl)
   ·simp at hop;subst hop;cases hxa;unfold ca at hal;simp at hal;omega
  ·have hw:(upd st.γ.wk i {x with mx:=.own .dn,syn:=true} j).wg≠ .work:=hw;rw[hwg]at hw;have hji:j≠i:=fun e=>hw (by rw[e,hA.me];exact hx)
   obtain⟨r,r1,r2⟩:=t.rel j hj hj2 hw;have other:∀k,st.t.size<=k->(st.t++#[({g:=i,fn,pos,act:=.ofEvent ⟨.cell ⟨s.Gb,3,none⟩,true,true⟩}:MemOp)]).g? k≠some j:=fun k hk hg=>by
    obtain⟨op,ho,hog⟩:=Option.map_eq_some_iff.1 hg;rcases getElem?_append_cases ho with⟨hlt2,_⟩|⟨_,hou⟩
    ·omega
    ·simp at hou;subst hou;exact hji hog.symm
   refine⟨r,r1.app fun k hk hg=>absurd hg (other k hk),fun k a hrk hg ha=>?_⟩;rcases Nat.lt_or_ge k st.t.size with hlt|hge
   ·exact r2 k a hrk (by simpa only[Trace.g?,getElem?_append_old hlt]using hg) (by rw[touchAt_old hlt]at ha;exact ha)
   ·exact absurd hg (other k hge)
 ·have e2:({st.γ with wk:=upd st.γ.wk i {x with mx:=.own .dn,syn:=true},D:=1,ex:=sV st.γ.ex i s,rd:=jr st.γ.rd i s}:aJ).mm=upd st.γ.mm i (.own .dn):=by
   funext j;show(upd st.γ.wk i {x with mx:=.own .dn,syn:=true} j).mx=_;unfold upd;split<;>rfl
  have e3:=IQ st.γ.mm (a:=s.n0) s.n (.own .dn) (st.γ.tn+st.γ.th) (st.γ.tn+st.γ.th) hA.lo (hA.hi h);rw[show st.γ.mm i=.own .work from(dA hA).trans n1]at e3;have:phi ({st.γ with wk:=upd st.γ.wk i {x with mx:=.own .dn,syn:=true},D:=1,ex:=sV st.γ.ex i s,rd:=jr st.γ.rd i s}:aJ) s=phi st.γ s:=by
   unfold phi;rw[e2];show VU _ _ _ (st.γ.tn+st.γ.th)=_;simp only[kM]at e3;omega
  exact⟨Nat.le_of_eq this,fun _=>⟨rfl,rfl,rfl,rfl⟩,fun _=>rfl⟩
 ·rw[rD (γ:=st.γ) hwg];exact⟨Nat.le_refl _,fun _=>rfl⟩
end
end
end Cc
end Go.Proofs.Ytpfpokjaeffbjab
