/- Part of the proof: Onc4, Onc5, Any, Mu3, Read, Lv, Wg, Wg2, Row, Mn1. -/
import Derived.Test.YtpfpokjaeffbjaaKk0
import Derived.Test.YtpfpokjaeffbjaaKk3
import Derived.Conc.CompanyDraw
set_option linter.unusedVariables false
set_option linter.unusedSimpArgs false
set_option maxRecDepth 100000
set_option maxHeartbeats 16000000
open Array renaming getElem?_setIfInBounds_ne→aB,getElem?_setIfInBounds_self_of_lt→aW,mem_of_getElem?→bF
open Go.World renaming cell?→bM,cell?_setCell_other→bX
open Go.MemOp renaming ofEvents→aA
open Go.MemAct renaming ofEvent→bJ
open Nat renaming le_refl→aH,lt_or_ge→bw,le_of_eq→cP
open Go.Trace renaming g?→cX
open Go.Region renaming wanted→bg
open List renaming mem_cons→aM,range→bq
namespace Go.Proofs.Ytpfpokjaeffbjaa
open Go renaming World→ae,Value→af,Goroutine→ah,Frame→ai,TypeId→aj,FuncId→ak,Program→au,undef→av,execOp→ax
open Go.Lib renaming hid→ay
namespace Cc
open Go.Conc Go.ConcN
open Go.ConcR (KK wgBlock WgAt stA smA rd wr mk DC0)
open Go.ConcM (OsLater)
section
def rQ(f:Nat->Loc->Prop)(i:Nat)(s:eI):Nat->Loc->Prop:=fun g l=>f g l/\¬(g=i/\∃off,6<=off/\off<16/\l=ca s.Gb off)
section
variable{q:iK}{i:Nat}{s:eI}{x:Wk}
theorem kK.bn9{γ:eD}{w:ae}(h:kK q s γ w){γ':eD}(hw:γ'.L=γ.L/\γ'.W=γ.W/\γ'.S=γ.S/\γ'.N=γ.N)(ht:γ'.tn+γ'.th=γ.tn+γ.th)(hD:γ'.D=1)(hv:∀id,1<=id->id<=s.nn->w.cell? ⟨s.Gb,6+id,none⟩=some (.int .u64 (s.vals id))):kK q s γ' (w.setCell ⟨s.Gb,3,none⟩ (.int .u32 1)):=by
 obtain⟨C,h1,h2,h3,h4,h5,h6,h7,h8,h9,h10⟩:=h;refine⟨_,C8 h1 3 _,by simpa using h2,?_,?_,?_,?_,?_,?_,fun k k1 k2=>?_,fun e id i1 i2=>?_⟩
 ·rw[aB (by omega)];exact h3
 ·rw[aB (by omega)];exact h4
 ·rw[aB (by omega)];exact h5
 ·rw[aW (by omega),hD];rfl
 ·rw[aB (by omega),hw.1,hw.2.1,hw.2.2.1,hw.2.2.2];exact h7
 ·rw[aB (by omega),ht];exact h8
 ·rw[aB (by omega)];exact h9 k k1 k2
 ·rw[aB (by omega)];have:=hv id i1 i2
  simpa [bM,h1]using this
theorem Inv.ai8{st:St eD}(h:Inv q st)(hA:At s i x st)(hx:x.wg=.work)(mg:x.df=0)(n1:x.mx=.own .work)(hv:∀id,1<=id->id<=s.nn->st.w.cell? ⟨s.Gb,6+id,none⟩=some (.int .u64 (s.vals id)))(fn:ak)(pos:String):
  Inv q ⟨st.w.setCell ⟨s.Gb,3,none⟩ (.int .u32 1),st.t++aA i fn pos #[⟨.cell ⟨s.Gb,3,none⟩,true,true⟩],{st.γ with wk:=upd st.γ.wk i {x with mx:=.own .dn,syn:=true},D:=1,ex:=rQ st.γ.ex i s,rd:=jA st.γ.rd i s}⟩/\
  ∀j,j≠i->Rl j st ⟨st.w.setCell ⟨s.Gb,3,none⟩ (.int .u32 1),st.t++aA i fn pos #[⟨.cell ⟨s.Gb,3,none⟩,true,true⟩],{st.γ with wk:=upd st.γ.wk i {x with mx:=.own .dn,syn:=true},D:=1,ex:=rQ st.γ.ex i s,rd:=jA st.γ.rd i s}⟩:=by
 obtain⟨c,p,t⟩:=h.eZ s hA.sc;have A:=h.base.tr.FD;have hl:=c.OD;have one:=yO h hA n1;have hD:st.γ.D=0:=c.work i (by rw[hA.me];exact n1);have O8:=p.UO i (by rw[hA.me];exact n1);have at_:∀j,upd st.γ.wk i {x with mx:=.own .dn,syn:=true} j=if j=i then{x with mx:=.own .dn,syn:=true}else st.γ.wk j:=fun j=>rfl;have hne:∀j,j≠i->upd st.γ.wk i {x with mx:=.own .dn,syn:=true} j=st.γ.wk j:=fun j hj=>upd_ne _ _ hj;have lH:∀j,(upd st.γ.wk i {x with mx:=.own .dn,syn:=true} j).wg=(st.γ.wk j).wg:=fun j=>by
  rw[at_];split
  ·rename_i e;subst e;rw[hA.me]
  ·rfl
 have jV:∀j,(upd st.γ.wk i {x with mx:=.own .dn,syn:=true} j).mx≠ .own .work:=fun j e=>by
  by_cases hj:j=i
  ·subst hj;rw[gF]at e;cases e
  ·rw[hne j hj]at e;exact one j hj _ e
 have aP1:∀j,s.n0<=j->(st.γ.wk j).syn≠true:=fun j h0 e=>by have:=c.syn j h0 e;omega
 have W:=aside_setCell st.w ⟨s.Gb,3,none⟩ (.int .u32 1);have hmem:=hA.mem;have Zu:=(p.KU i hmem).1 3 (by omega) (by omega);have aP2:∀g off,6<=off->off<16->¬rQ st.γ.ex i s g (ca s.Gb off):=fun g off o1 o2 ⟨h1,h2⟩=>h2 ⟨A.ee _ _ _ h1 (O8 off o1 o2),off,o1,o2,rfl⟩;have A':Ng st.w.heap.size (rQ st.γ.ex i s) (jA st.γ.rd i s) st.γ.sh:=by
  refine⟨fun g g' l h1 h2=>A.ee _ _ _ h1.1 h2.1,fun g g' l h1 h2=>?_,fun g g' l h1=>A.es _ _ _ h1.1,fun g g' l h1 h2=>?_,fun g l h1=>A.low _ _ h1.1,fun g l h1 b hb=>?_,A.slow,fun g l h1=>?_⟩
  ·rcases h2 with h2|⟨_,off,o1,o2,rfl⟩
   ·exact A.er _ _ _ h1.1 h2
   ·exact absurd h1 (aP2 g off o1 o2)
  ·rcases h1 with h1|⟨_,off,o1,o2,rfl⟩
   ·exact A.rs _ _ _ h1 h2
   ·exact A.es _ _ _ (O8 off o1 o2) h2
  ·rcases h1 with h1|⟨_,off,o1,o2,rfl⟩
   ·exact A.xI _ _ h1 b hb
   ·exact A.low _ _ (O8 off o1 o2) b hb
  ·rcases h1 with h1|(h1|⟨_,off,o1,o2,rfl⟩)|h1
   ·exact A.mem _ _ (.inl h1.1)
   ·exact A.mem _ _ (.inr (.inl h1))
   ·rfl
   ·exact A.mem _ _ (.inr (.inr h1))
 have wz:∀{e:Event},e∈(#[⟨.cell ⟨s.Gb,3,none⟩,true,true⟩]:Array Event)->∀{y:Touch},(bJ e).touch?=some y->y=⟨ca s.Gb 3,true,.atomic⟩:=by
  intro e he y hy;simp at he;subst he;cases hy;rfl
 refine h.gen hA.sc hmem rfl rfl (fun _=>.rfl) (fun e he y hy=>?_) (fun e he a=>?_) (fun _ e he y hy=>by rw[wz he hy];simp) (fun T=>?_) (fun j hj l=>⟨fun hl=>⟨hl,fun e=>hj e.1⟩,.inl⟩) (fun g l hl=>?_) W.size (fun b=>?_) (by rw[W.os];exact .refl _) W.output (fun j hj=>upd_ne _ _ hj) (fun _=>⟨rfl,rfl⟩) (fun e=>absurd e hA.ne) (fun _=>?_) ?_ ?_ ?_ ?_ (fun _=>?_) (fun j hj e=>absurd e (one j hj _)) (.inl nle)
 ·rw[wz he hy];refine⟨.inr (.inr (.inr (.inl ⟨Zu,.inl rfl⟩))),fun b hb=>?_⟩;have hb:ij (ca s.Gb 3)=some b:=hb;have:s.Gb=b:=by unfold ca ij at hb;simpa using hb
  rw[W.size];omega
 ·simp at he;subst he;simp
 ·refine⟨T.nr,by rw[W.size];exact A',fun g l hl=>T.ex g l hl.1,fun g l hl=>?_,T.sh,T.low,T.gs,T.norel⟩;rcases hl with hl|⟨rfl,off,o1,o2,rfl⟩
  ·exact T.rd g l hl
  ·exact PermW.of (T.ex g _ (O8 off o1 o2))
 ·rcases hl with hl|(hl|⟨rfl,_⟩)|hl
  ·exact h.base.pool g l (.inl hl.1)
  ·exact h.base.pool g l (.inr (.inl hl))
  ·exact hA.lt
  ·exact h.base.pool g l (.inr (.inr hl))
 ·by_cases e:b=s.Gb
  ·exact .inr (.inr (.inl e))
  ·exact .inl (W.block b e)
 ·show(upd st.γ.wk i {x with mx:=.own .dn,syn:=true} i).df=_/\(upd st.γ.wk i {x with mx:=.own .dn,syn:=true} i).wg≠_;rw[gF,hA.me];exact⟨U2 _ _ _ (by simp),by show x.wg≠_;rw[hx];simp⟩
 ·refine c.turn hA hx (x':={x with mx:=.own .dn,syn:=true}) hx rfl rfl rfl ⟨rfl,rfl,rfl,rfl⟩ (c.gb.bn9 ⟨rfl,rfl,rfl,rfl⟩ rfl rfl hv) (fun b hb=>W.block b hb) (c.mu.owns hA.lo (hA.hi h) ((fY hA).trans n1)) (aH 1) (fun j hj=>absurd hj (jV j)) (fun _ _=>rfl) fun _ _ _=>rfl
 ·refine⟨fun g b hb=>?_,fun k k1 k2 k3=>⟨⟨(p.Hy k k1 k2 ((lH _).symm.trans k3)).1,?_⟩,(p.Hy k k1 k2 ((lH _).symm.trans k3)).2,?_⟩,fun k k1 k2=>⟨⟨(p.MH k k1 k2).1,?_⟩,(p.MH k k1 k2).2,?_⟩,fun g hg off ho=>.inl (p.KW g hg off ho),p.KU,fun j hj=>absurd hj (jV j),fun j hj0 hj off o1 o2=>?_,fun _ g off o1 o2=>⟨aP2 g off o1 o2,A.es _ _ _ (O8 off o1 o2),fun h0=>by cases h0⟩⟩
  ·obtain⟨⟨o1,h1⟩,o2,h2⟩:=p.spec g b hb;refine⟨⟨o1,fun h3=>h1 h3.1⟩,?_⟩;by_cases e:b=s.Gb
   ·subst e;refine⟨3,fun h3=>?_⟩;rcases h3 with h3|⟨_,off,o1,_,e⟩
    ·exact A.rs _ _ _ h3 Zu
    ·unfold ca at e;simp at e<;>omega
   ·refine⟨o2,fun h3=>?_⟩;rcases h3 with h3|⟨_,off,_,_,e2⟩
    ·exact h2 h3
    ·unfold ca at e2;simp at e2<;>exact e e2.1
  all_goals first
   |(rintro ⟨_,off,_,_,e⟩
     unfold ca at e;simp at e;first|exact c.ne.2.1 e.1.symm|exact c.ne.2.2.1 e.1.symm)
   |skip
  replace hj:(upd st.γ.wk i {x with mx:=.own .dn,syn:=true} j).syn=true:=hj;by_cases e:j=i
  ·exact .inr ⟨e,off,o1,o2,rfl⟩
  ·rw[hne j e]at hj;exact absurd hj (aP1 j hj0)
 ·rw[uZ];refine⟨fun h0=>(by cases h0),fun _=>⟨st.t.size,LastWrite.new _ _ rfl,⟨i,by simp[cX],?_⟩,fun off o1 o2 k a ha hal hw=>?_⟩,fun j hj jz hw=>?_⟩
  ·rw[deaf_old nle];have:=h.base.Pm i (Nat.pos_of_ne_zero hA.ne) hA.lt
   rw[hA.me,mg]at this;exact this
  ·rcases gT ha with⟨hlt,ha'⟩|⟨_,op,hop,hx1,vN⟩
   ·have kn:=h.base.tr.ex i _ (O8 off o1 o2) k a ha' hal;exact .inr (kn.hb_new nle (y:={g:=i,fn,pos,act:=.ofEvent ⟨.cell ⟨s.Gb,3,none⟩,true,true⟩}) (by rw[Array.getElem?_append_right nle];simp) rfl)
   ·simp at hop;subst hop;cases vN;unfold ca at hal;simp at hal<;>omega
  ·have hw:(upd st.γ.wk i {x with mx:=.own .dn,syn:=true} j).wg≠ .work:=hw;rw[lH]at hw;have OW:j≠i:=fun e=>hw (by rw[e,hA.me];exact hx);obtain⟨r,r1,r2⟩:=t.rel j hj jz hw;have other:∀k,st.t.size<=k->(st.t++#[({g:=i,fn,pos,act:=.ofEvent ⟨.cell ⟨s.Gb,3,none⟩,true,true⟩}:MemOp)]).g? k≠some j:=fun k hk hg=>by
    obtain⟨op,ho,Ug⟩:=Option.map_eq_some_iff.1 hg;rcases getElem?_append_cases ho with⟨lU,_⟩|⟨_,OT⟩
    ·omega
    ·simp at OT;subst OT;exact OW Ug.symm
   refine⟨r,r1.app fun k hk hg=>absurd hg (other k hk),fun k a X8 hg ha=>?_⟩;rcases bw k st.t.size with hlt|hge
   ·exact r2 k a X8 (by simpa only[cX,getElem?_append_old hlt]using hg) (by rw[touchAt_old hlt]at ha;exact ha)
   ·exact absurd hg (other k hge)
 ·have e2:({st.γ with wk:=upd st.γ.wk i {x with mx:=.own .dn,syn:=true},D:=1,ex:=rQ st.γ.ex i s,rd:=jA st.γ.rd i s}:eD).mm=upd st.γ.mm i (.own .dn):=by
   funext j;show(upd st.γ.wk i {x with mx:=.own .dn,syn:=true} j).mx=_;unfold upd;split<;>rfl
  have e3:=Gg st.γ.mm (a:=s.n0) s.n (.own .dn) (st.γ.tn+st.γ.th) (st.γ.tn+st.γ.th) hA.lo (hA.hi h);rw[show st.γ.mm i=.own .work from(fY hA).trans n1]at e3;have:phi ({st.γ with wk:=upd st.γ.wk i {x with mx:=.own .dn,syn:=true},D:=1,ex:=rQ st.γ.ex i s,rd:=jA st.γ.rd i s}:eD) s=phi st.γ s:=by
   unfold phi;rw[e2];show RG _ _ _ (st.γ.tn+st.γ.th)=_;simp only[kF]at e3;omega
  exact⟨cP this,fun _=>⟨rfl,rfl,rfl,rfl⟩,fun _=>rfl⟩
 ·rw[qT (γ:=st.γ) lH];exact⟨aH _,fun _=>rfl⟩
end
end
section
section
variable{q:iK}{i:Nat}{s:eI}{x:Wk}
theorem kK.bn6{γ:eD}{w:ae}(h:kK q s γ w)(hD:γ.D=0){off:Nat}(o1:6<=off)(o2:off<16)(v:Int):kK q s γ (w.setCell ⟨s.Gb,off,none⟩ (.int .u64 v)):=by
 obtain⟨C,h1,h2,h3,h4,h5,h6,h7,h8,h9,h10⟩:=h;refine⟨_,C8 h1 off _,by simpa using h2,?_,?_,?_,?_,?_,?_,fun k k1 k2=>?_,fun e=>by omega⟩
 ·rw[aB (by omega)];exact h3
 ·rw[aB (by omega)];exact h4
 ·rw[aB (by omega)];exact h5
 ·rw[aB (by omega)];exact h6
 ·rw[aB (by omega)];exact h7
 ·rw[aB (by omega)];exact h8
 ·by_cases e:off=k
  ·subst e;rw[aW (by omega)];exact⟨_,rfl⟩
  ·rw[aB e];exact h9 k k1 k2
theorem Inv.share{st:St eD}(h:Inv q st)(hA:At s i x st)(hx:x.wg=.work)(n1:x.mx=.own .work){off:Nat}(o1:6<=off)(o2:off<16)(v:Int)(fn:ak)(pos:String):
  Inv q ⟨st.w.setCell ⟨s.Gb,off,none⟩ (.int .u64 v),st.t++aA i fn pos #[⟨.cell ⟨s.Gb,off,none⟩,true,false⟩],st.γ⟩/\
  ∀j,j≠i->Rl j st ⟨st.w.setCell ⟨s.Gb,off,none⟩ (.int .u64 v),st.t++aA i fn pos #[⟨.cell ⟨s.Gb,off,none⟩,true,false⟩],st.γ⟩:=by
 obtain⟨c,p,t⟩:=h.eZ s hA.sc;have A:=h.base.tr.FD;have hl:=c.OD;have one:=yO h hA n1;have own:(st.γ.wk i).mx=.own .work:=by rw[hA.me];exact n1
 have hD:st.γ.D=0:=c.work i own;have O8:=p.UO i own;have W:=aside_setCell st.w ⟨s.Gb,off,none⟩ (.int .u64 v);have wz:∀{e:Event},e∈(#[⟨.cell ⟨s.Gb,off,none⟩,true,false⟩]:Array Event)->∀{y:Touch},(bJ e).touch?=some y->y=⟨ca s.Gb off,true,.plain⟩:=by
  intro e he y hy;simp at he;subst he;cases hy;rfl
 refine h.gen hA.sc hA.mem (γ':=st.γ) rfl rfl (fun _=>.rfl) (fun e he y hy=>?_) (fun e he a=>?_) (fun _ e he y hy=>by rw[wz he hy];simp) (fun T=>T) (fun j hj l=>⟨id,id⟩) h.base.pool W.size (fun b=>?_) (by rw[W.os];exact .refl _) W.output (fun _ _=>rfl) (fun _=>⟨rfl,rfl⟩) (fun e=>absurd e hA.ne) (fun _=>?_) ?_ p ?_ ⟨aH _,fun _=>⟨rfl,rfl,rfl,rfl⟩,id⟩ (fun _=>⟨aH _,fun _=>rfl⟩) (fun j hj e=>absurd e (one j hj _)) (.inl nle)
 ·rw[wz he hy];refine⟨.inr (.inl (O8 off o1 o2)),fun b hb=>?_⟩;have hb:ij (ca s.Gb off)=some b:=hb;have:s.Gb=b:=by unfold ca ij at hb;simpa using hb
  rw[W.size];omega
 ·simp at he;subst he;simp
 ·by_cases e:b=s.Gb
  ·exact .inr (.inr (.inl e))
  ·exact .inl (W.block b e)
 ·refine⟨(fU fun e he=>?_).symm,by rw[hA.me,hx];simp⟩;simp at he;subst he;simp
 ·refine⟨c.n0,c.gb.bn6 hD o1 o2 v,c.qL.of_block (W.block _ c.ne.1.symm),?_,?_,c.ne,c.mu,c.D1,c.work,c.dn,c.syn,c.new,c.on,c.fin,c.all,c.sD⟩
  ·obtain⟨Z,z1,z2⟩:=c.zb;exact⟨Z,(W.block _ c.ne.2.1.symm).trans z1,z2⟩
  ·obtain⟨Z,z1,z2⟩:=c.rb;exact⟨Z,(W.block _ c.ne.2.2.1.symm).trans z1,z2⟩
 ·rw[uZ];refine⟨fun _ hn=>absurd own (hn i),fun h1=>?_,fun j hj jz hw=>?_⟩
  ·have h1:st.γ.D=1:=h1;omega
  ·have hw:(st.γ.wk j).wg≠ .work:=hw;have OW:j≠i:=fun e=>hw (by rw[e,hA.me];exact hx);obtain⟨r,r1,r2⟩:=t.rel j hj jz hw;have other:∀k,st.t.size<=k->(st.t++#[({g:=i,fn,pos,act:=.ofEvent ⟨.cell ⟨s.Gb,off,none⟩,true,false⟩}:MemOp)]).g? k≠some j:=fun k hk hg=>by
    obtain⟨op,ho,Ug⟩:=Option.map_eq_some_iff.1 hg;rcases getElem?_append_cases ho with⟨lU,_⟩|⟨_,OT⟩
    ·omega
    ·simp at OT;subst OT;exact OW Ug.symm
   refine⟨r,r1.app fun k hk hg=>absurd hg (other k hk),fun k a X8 hg ha=>?_⟩;rcases bw k st.t.size with hlt|hge
   ·exact r2 k a X8 (by simpa only[cX,getElem?_append_old hlt]using hg) (by rw[touchAt_old hlt]at ha;exact ha)
   ·exact absurd hg (other k hge)
variable{Ch:Nat->ah->St eD->Prop}
theorem mE{st st':St eD}(hsc:st'.γ.sc=st.γ.sc)(zM:st'.γ.mw=st.γ.mw)(Hu:st'.γ.gm=st.γ.gm)(aU7:st'.γ.tn+st'.γ.th=st.γ.tn+st.γ.th){i:Nat}(hwk:∀k,k≠i->st'.γ.wk k=st.γ.wk k):∀k,k≠i->Wt k st->Wt k st':=R6 hsc zM Hu (cP aU7) hwk
theorem TT.aS5{P:au}(hP:q.P=P){g:ah}{st:St eD}(hA:At s i x st)(hx:x.wg=.work)(mg:x.df=0)(n1:x.mx≠ .own .work)
  (h:∀dV,At s i x dV->Inv q dV->gL q s dV->∃g',stepG P (i==0) g dV.w=.go g' dV.w #[⟨.cell ⟨s.Gb,3,none⟩,false,true⟩]/\g'.status=.running/\
   (dV.γ.D=1->∀dY,At s i {x with syn:=true} dY->Inv q dY->dY.γ.D=1->TT (cfg q) i Ch g' dY)/\
   (dV.γ.D=0->x.mx≠ .own .Ah->∀dY,At s i x dY->Inv q dY->TT (cfg q) i Ch g' dY)/\
   (dV.γ.D=0->x.mx=.own .Ah->∀dY,At s i {x with mx:=.own .work} dY->Inv q dY->TT (cfg q) i Ch g' dY)):TT (cfg q) i Ch g st:=by
 subst hP;refine TT.act fun dV hr hi=>?_;have dX:=hA.rely (by rw[hx];simp) hr hi;have hC:=(hi.eZ s dX.sc).c;obtain⟨g',h1,h2,h3,h4,h5⟩:=h dV dX hi hC;refine⟨dX.nH (by rw[hx];simp),g',dV.w,#[⟨.cell ⟨s.Gb,3,none⟩,false,true⟩],?_⟩;by_cases hD:dV.γ.D=1
 ·have k:=hi.aS6 dX hx mg hD n1 g.frame.fn g.frame.place;exact⟨{dV.γ with wk:=upd dV.γ.wk i {x with syn:=true},rd:=jA dV.γ.rd i s},h1,h2,rfl,k,.inr (mE (by rfl) (by rfl) (by rfl) (by rfl) fun k hk=>by exact upd_ne _ _ hk),h3 hD _ (dX.next hi rfl rfl rfl (gF _ _ _) (fun _ h=>.inl h) fun _ _ _ _ _=>rfl) k.1 hD⟩
 have hD:dV.γ.D=0:=by have:=hC.D1;omega
 by_cases hm:x.mx=.own .Ah
 ·have k:=hi.aS7 dX hx hD hm g.frame.fn g.frame.place;exact⟨{dV.γ with wk:=upd dV.γ.wk i {x with mx:=.own .work},ex:=jA dV.γ.ex i s},h1,h2,rfl,k,.inr (mE (by rfl) (by rfl) (by rfl) (by rfl) fun k hk=>by exact upd_ne _ _ hk),h5 hD hm _ (dX.next hi rfl rfl rfl (gF _ _ _) (fun _ h=>h) fun _ _ _ _ _=>rfl) k.1⟩
 ·obtain⟨k,_⟩:=hi.mu dX hx (x':=x) rfl (es:=#[⟨.cell ⟨s.Gb,3,none⟩,false,true⟩]) (uN _ _) n1 n1 (fun e=>hC.dn i (by rw[dX.me];exact e)) (jJ.still hC dX rfl) (hC.gb.stay rfl rfl) (eW.refl _) (.inr ⟨rfl,rfl,rfl,rfl,rfl⟩) (.inl nle) (oH 3 (by omega)) g.frame.fn g.frame.place;exact⟨dV.γ.setMu i x dV.γ.L dV.γ.W dV.γ.S dV.γ.N dV.γ.tn dV.γ.th,h1,h2,rfl,k,.inr (mE (by rfl) (by rfl) (by rfl) (by rfl) fun k hk=>by exact upd_ne _ _ hk),h4 hD hm _ (dX.next hi rfl rfl rfl (gF _ _ _) (fun _ h=>h) fun _ _ _ _ _=>rfl) k.1⟩
theorem TT.ai7{P:au}(hP:q.P=P){g:ah}{st:St eD}(hA:At s i x st)(hx:x.wg=.work)(mg:x.df=0)(n1:x.mx=.own .work)(hv:∀id,1<=id->id<=s.nn->st.w.cell? ⟨s.Gb,6+id,none⟩=some (.int .u64 (s.vals id)))(hnn:s.nn<=9)
  (h:∀dV,At s i x dV->Inv q dV->gL q s dV->∃g',stepG P (i==0) g dV.w=.go g' (dV.w.setCell ⟨s.Gb,3,none⟩ (.int .u32 1)) #[⟨.cell ⟨s.Gb,3,none⟩,true,true⟩]/\g'.status=.running/\
   ∀dY,At s i {x with mx:=.own .dn,syn:=true} dY->Inv q dY->TT (cfg q) i Ch g' dY):TT (cfg q) i Ch g st:=by
 subst hP;refine TT.act fun dV hr hi=>?_;have dX:=hA.rely (by rw[hx];simp) hr hi;have hC:=(hi.eZ s dX.sc).c;obtain⟨g',h1,h2,h3⟩:=h dV dX hi hC;have hw:=hr.work hA.ne (by rw[hA.me,hx];simp) (by rw[hA.me,hx];simp) (by rw[hA.me];exact n1) s hA.sc;have k:=hi.ai8 dX hx mg n1 (fun id i1 i2=>(hw (6+id) (by omega) (by omega)).trans (hv id i1 i2)) g.frame.fn g.frame.place;exact⟨dX.nH (by rw[hx];simp),g',_,_,{dV.γ with wk:=upd dV.γ.wk i {x with mx:=.own .dn,syn:=true},D:=1,ex:=rQ dV.γ.ex i s,rd:=jA dV.γ.rd i s},h1,h2,rfl,k,.inr (mE (by rfl) (by rfl) (by rfl) (by rfl) fun k hk=>by exact upd_ne _ _ hk),h3 _ (dX.next hi rfl rfl rfl (gF _ _ _) (fun _ h=>.inl h) fun b a1 _ _ _=>(aside_setCell dV.w ⟨s.Gb,3,none⟩ (.int .u32 1)).block b a1) k.1⟩
theorem TT.share{P:au}(hP:q.P=P){g:ah}{st:St eD}(hA:At s i x st)(hx:x.wg=.work)(n1:x.mx=.own .work){off:Nat}(o1:6<=off)(o2:off<16)(v:Int)
  (h:∀dV,Rl i st dV->At s i x dV->Inv q dV->gL q s dV->∃g',stepG P (i==0) g dV.w=.go g' (dV.w.setCell ⟨s.Gb,off,none⟩ (.int .u64 v)) #[⟨.cell ⟨s.Gb,off,none⟩,true,false⟩]/\g'.status=.running/\
   ∀dY,At s i x dY->Inv q dY->dY.w.cell? ⟨s.Gb,off,none⟩=some (.int .u64 v)->(∀o,6<=o->o<16->o≠off->dY.w.cell? ⟨s.Gb,o,none⟩=st.w.cell? ⟨s.Gb,o,none⟩)->dY.γ=dV.γ->(∀b,b≠s.Gb->dY.w.heap[b]?=dV.w.heap[b]?)->TT (cfg q) i Ch g' dY):TT (cfg q) i Ch g st:=by
 subst hP;refine TT.act fun dV hr hi=>?_;have dX:=hA.rely (by rw[hx];simp) hr hi;have hC:=(hi.eZ s dX.sc).c;obtain⟨g',h1,h2,h3⟩:=h dV hr dX hi hC;have hw:=hr.work hA.ne (by rw[hA.me,hx];simp) (by rw[hA.me,hx];simp) (by rw[hA.me];exact n1) s hA.sc;have k:=hi.share dX hx n1 o1 o2 v g.frame.fn g.frame.place;refine⟨dX.nH (by rw[hx];simp),g',_,_,dV.γ,h1,h2,rfl,k,.inr fun _ _ h=>h,h3 _ (dX.next hi rfl rfl rfl dX.me (fun _ h=>h) fun b a1 _ _ _=>(aside_setCell dV.w ⟨s.Gb,off,none⟩ (.int .u64 v)).block b a1) k.1 ?_ (fun o p1 p2 p3=>?_) rfl fun b hb=>(aside_setCell dV.w ⟨s.Gb,off,none⟩ (.int .u64 v)).block b hb⟩
 ·obtain⟨C,c1,c2,_⟩:=hC.gb;have:=C8 c1 off (.int .u64 v)
  show bM (dV.w.setCell _ _) _=_;simp[bM,this,c2,o2]
 ·refine(bX _ ⟨s.Gb,off,none⟩ ⟨s.Gb,o,none⟩ _ (by simp<;>omega)).trans (hw o p1 p2)
end
end
end Cc
namespace Cc
open Go.Conc Go.ConcN
section
section
variable{Γ:Type}(C:RF Γ)(i:Nat)(Ch:Nat->ah->St Γ->Prop)(b:ai)(ops:Array Oper)(k:List Item)(cs:List ai)(S:Array Bool->St Γ->Prop)
def Does(j:Nat)(o:Oper)(X:Sem Next)(v:af):Prop:=
 ∀(l:Array Bool) (a:Act) (rest:List Nat) (st:St Γ),l.getD j true=false->S l st->ax a.eval o=X->bg o (yielded ops a.tmps)=true->(∀st',S (l.setIfInBounds j true) st'->TT C i Ch (G (b.at (a.put o.dst v) (.inRegion ops rest::k)) cs) st')->TT C i Ch (G (b.at a (.inRegion ops (j::rest)::k)) cs) st
def RV(j:Nat)(K:Act->Prop)(a:Act):Prop:=
 match ops[j]? with
 |none=>False
 |some o=>if bg o (yielded ops a.tmps)then∃v,Does C i Ch b ops k cs S j o (ax a.eval o) v/\K (a.put o.dst v)else K (a.put o.dst av)
def Hq(md:Region.Mode)(F:Array Bool->Act->Prop):Nat->Array Bool->Act->Prop
 |0,listed,a=>Region.ready md ops listed=[]/\F listed a
 |n+1,listed,a=>(Region.ready md ops listed=[]->F listed a)/\∀j∈Region.ready md ops listed,RV C i Ch b ops k cs S j (Hq md F n (listed.setIfInBounds j true)) a
end
section
variable{Γ:Type}{C:RF Γ}{i:Nat}{Ch:Nat->ah->St Γ->Prop}{b:ai}{ops:Array Oper}{k:List Item}{cs:List ai}{S:Array Bool->St Γ->Prop}
theorem RV.mono{j:Nat}{K K':Act->Prop}{a:Act}(h:RV C i Ch b ops k cs S j K a)(hk:∀a,K a->K' a):RV C i Ch b ops k cs S j K' a:=by
 unfold RV at*;split
 ·simp_all
 ·rename_i o ho;simp only[ho]at h;split
  ·rename_i hw;simp only[hw,if_true]at h;obtain⟨v,h1,h2⟩:=h;exact⟨v,h1,hk _ h2⟩
  ·rename_i hw;simp only[hw]at h;exact hk _ h
theorem Dr{md:Region.Mode}{F:Array Bool->Act->Prop}(hF:∀l a st,F l a->S l st->TT C i Ch (G (b.at a (.inRegion ops []::k)) cs) st)
  (sk:∀(j:Nat) (l:Array Bool) (a:Act) (o:Oper) (rest:List Nat) (st:St Γ),ops[j]?=some o->l.getD j true=false->bg o (yielded ops a.tmps)=false->S l st->(∀st',S (l.setIfInBounds j true) st'->TT C i Ch (G (b.at (a.put o.dst av) (.inRegion ops rest::k)) cs) st')->TT C i Ch (G (b.at a (.inRegion ops (j::rest)::k)) cs) st):
  ∀(n t:Nat) (listed:Array Bool) (a:Act) (st:St Γ),Hq C i Ch b ops k cs S md F n listed a->S listed st->TT C i Ch (G (b.at a (.inRegion ops (Region.linearise.go md ops n t listed [])::k)) cs) st:=by
 intro n;induction n with
 |zero=>intro t listed a st h hs;exact hF listed a st h.2 hs
 |succ n ih=>
  intro t listed a st h hs;obtain⟨h₀,h₁⟩:=h;simp only[Region.linearise.go];change TT C i Ch (G (b.at a (.inRegion ops (match(Region.ready md ops listed)[t%(Region.ready md ops listed).length]? with
   |some i=>Region.linearise.go md ops n (t/(Region.ready md ops listed).length) (listed.setIfInBounds i true) [i]
   |none=>[].reverse)::k)) cs) st
  cases hi:(Region.ready md ops listed)[t%(Region.ready md ops listed).length]? with
  |none=>
   have hnil:Region.ready md ops listed=[]:=by
    cases hr:Region.ready md ops listed with
    |nil=>rfl
    |cons x xs=>
     rw[hr]at hi;have hlt:t%(x::xs).length<(x::xs).length:=Nat.mod_lt _ (by simp);simp at hi;simp at hlt<;>omega
   exact hF listed a st (h₀ hnil) hs
  |some j=>
   simp only[];rw[linearise_go_acc,List.reverse_singleton,List.singleton_append];have hmj:=List.mem_of_getElem? hi;have hun:=(mem_ready.1 hmj).1;have h:=h₁ j hmj;unfold RV at h;split at h
   ·exact h.elim
   ·rename_i o ho;split at h
    ·rename_i hw;obtain⟨v,h1,h2⟩:=h;exact h1 listed a _ st hun hs rfl hw fun st' hs'=>ih _ _ _ st' h2 hs'
    ·rename_i hw;exact sk j listed a o _ st ho hun (by simpa using hw) hs fun st' hs'=>ih _ _ _ st' h hs'
variable(C i Ch b ops k cs S) in
def kU(j:Nat)(o:Oper)(v:af)(a:Act):Prop:=
 (bg o (yielded ops a.tmps)=true/\Does C i Ch b ops k cs S j o (ax a.eval o) v)\/(bg o (yielded ops a.tmps)=false/\v=av)
theorem kU.of_same{j:Nat}{o:Oper}{v:af}{a a':Act}(hy:kU C i Ch b ops k cs S j o v a)(he:ax a'.eval o=ax a.eval o)(hw:bg o (yielded ops a'.tmps)=bg o (yielded ops a.tmps)):kU C i Ch b ops k cs S j o v a':=by
 unfold kU at*;rw[he,hw];exact hy
theorem kU.op{j:Nat}{o:Oper}{v:af}{a:Act}(hj:ops[j]?=some o)(hy:kU C i Ch b ops k cs S j o v a){K:Act->Prop}(h:K (a.put o.dst v)):RV C i Ch b ops k cs S j K a:=by
 unfold RV;simp only[hj];rcases hy with⟨hw,hv⟩|⟨hw,rfl⟩
 ·simp only[hw,if_true];exact⟨v,hv,h⟩
 ·simp only[hw,Bool.false_eq_true,if_false];exact h
theorem Ru{i' j:Nat}{oi oj:Oper}{v:af}(hj:ops[j]?=some oj)(hap:oi.apart ops oj=true)(hsi:∀cs b,oi.op≠ .select cs b)(hsj:∀cs b,oj.op≠ .select cs b){K:Act->Prop}{a:Act}
  (hy:kU C i Ch b ops k cs S i' oi v a)(h:RV C i Ch b ops k cs S j K (a.put oi.dst v)):RV C i Ch b ops k cs S j (fun a'=>kU C i Ch b ops k cs S i' oi v a'/\K (a'.put oi.dst v)) a:=by
 obtain⟨h1,h2,h3⟩:=Oper.apart_spec hap;have keep:∀(a:Act),kU C i Ch b ops k cs S i' oi v a->∀u,kU C i Ch b ops k cs S i' oi v (a.put oj.dst u):=fun a hy u=>
  hy.of_same (execOp_put oi hsi a oj.dst u h3) (wanted_put oi a oj.dst u h3)
 unfold RV at*;simp only[hj]at*;rw[wanted_put oj a oi.dst v h1,execOp_put oj hsj a oi.dst v h1]at h;split
 ·rename_i hw;simp only[hw,if_true]at h;obtain⟨u,h4,h5⟩:=h;exact⟨u,h4,keep a hy u,by rw[<-Act.put_comm a v u h2];exact h5⟩
 ·rename_i hw;simp only[hw]at h;exact⟨keep a hy _,by rw[<-Act.put_comm a v av h2];exact h⟩
theorem M3{md:Region.Mode}{F:Array Bool->Act->Prop}{i':Nat}{oi:Oper}{v:af}(hi:ops[i']?=some oi)(aV4:∀(j:Nat) (o:Oper) cs b,ops[j]?=some o->o.op≠ .select cs b):
  ∀(n:Nat) (listed:Array Bool) (a:Act),
   (∀j oj,ops[j]?=some oj->j≠i'->listed.getD j true=false->(∀e∈oj.after,Region.binds md e=true->e.on≠i')->oi.apart ops oj=true)->
   i'∈Region.ready md ops listed->kU C i Ch b ops k cs S i' oi v a->
   Hq C i Ch b ops k cs S md F n (listed.setIfInBounds i' true) (a.put oi.dst v)->Hq C i Ch b ops k cs S md F (n+1) listed a:=by
 intro n;induction n with
 |zero=>
  intro listed a _ hr hy H;refine⟨fun h=>(by rw[h]at hr;cases hr),fun j hj=>?_⟩;by_cases OW:j=i'
  ·subst OW;exact hy.op hi H
  ·have:=ready_mono hj OW
   rw[H.1]at this;cases this
 |succ n ih=>
  intro listed a hfree hr hy H;refine⟨fun h=>(by rw[h]at hr;cases hr),fun j hj=>?_⟩;by_cases OW:j=i'
  ·subst OW;exact hy.op hi H
  ·have h1:=H.2 j (ready_mono hj OW);obtain⟨aX7,oj,hoj,hall⟩:=mem_ready.1 hj;have hnot:∀e∈oj.after,Region.binds md e=true->e.on≠i':=fun e he hb heq=>by
    have h1:=hall e he hb;have h0:=(mem_ready.1 hr).1;rw[heq]at h1;rcases bw i' listed.size with h'|h'
    ·simp[h']at h0 h1;rw[h0]at h1;cases h1
    ·simp[Array.getElem?_eq_none h']at h1
   have h2:=Ru hoj (hfree j oj hoj OW aX7 hnot) (fun cs b=>aV4 i' oi cs b hi) (fun cs b=>aV4 j oj cs b hoj) hy h1;have ax2:∀k ok,ops[k]?=some ok->k≠i'->(listed.setIfInBounds j true).getD k true=false->
     (∀e∈ok.after,Region.binds md e=true->e.on≠i')->oi.apart ops ok=true:=fun k ok hk hki hun hno=>by
    refine hfree k ok hk hki ?_ hno;by_cases hjk:j=k
    ·subst hjk;exact aX7
    ·rw[getD_set_ne true hjk]at hun;exact hun
   refine RV.mono h2 fun a' h3=>ih (listed.setIfInBounds j true) a' ax2 (ready_mono hr (Ne.symm OW)) h3.1 ?_;rw[Array.setIfInBounds_comm _ _ OW];exact h3.2
theorem eH{md:Region.Mode}{F:Array Bool->Act->Prop}{i':Nat}{oi:Oper}{v:af}{n:Nat}{listed:Array Bool}{a:Act}(hi:ops[i']?=some oi)(hs:Region.noSelect ops=true)(hf:Region.free md ops listed i'=true)(hr:(Region.ready md ops listed).contains i'=true)
  (hy:kU C i Ch b ops k cs S i' oi v a)(h:Hq C i Ch b ops k cs S md F n (listed.setIfInBounds i' true) (a.put oi.dst v)):Hq C i Ch b ops k cs S md F (n+1) listed a:=
 M3 hi (Region.noSelect_spec hs) n listed a (Region.free_spec hi hf) (by simpa using hr) hy h
end
end
section
section
variable{q:iK}{i:Nat}{s:eI}{x:Wk}{Ch:Nat->ah->St eD->Prop}
theorem TT.ask{P:au}(hP:q.P=P){g:ah}{st:St eD}(hA:At s i x st)(hx:x.wg=.work)
  (h:∀dV,At s i x dV->Inv q dV->∃g',stepG P (i==0) g dV.w=.go g' dV.w.asked #[]/\g'.status=.running/\
   ∀dY,At s i x dY->Inv q dY->(x.mx=.own .work->∀o,6<=o->o<16->dY.w.cell? ⟨s.Gb,o,none⟩=st.w.cell? ⟨s.Gb,o,none⟩)->TT (cfg q) i Ch g' dY):TT (cfg q) i Ch g st:=by
 subst hP;refine TT.act fun dV hr hi=>?_;have dX:=hA.rely (by rw[hx];simp) hr hi;obtain⟨g',h1,h2,h3⟩:=h dV dX hi;have hold:dV.γ.old<=i:=by unfold eD.old;rw[dX.sc];exact dX.lo
 have k:=hi.own dX.lt (.inr hold) (fun _=>by rw[dX.me];exact hx) (fn:=g.frame.fn) (pos:=g.frame.place) (es:=#[]) (w':=dV.w.asked) nle (by simp) (by simp) (by simp) (.refl _) rfl (fun b _=>.inl rfl) (by simp);refine⟨dX.nH (by rw[hx];simp),g',_,_,_,h1,h2,?_,k,.inr fun _ _ h=>h,h3 _ (dX.next hi rfl rfl rfl dX.me (fun _ h=>h) fun _ _ _ _ _=>rfl) k.1 fun hm o o1 o2=>?_⟩
 ·rfl
 ·exact hr.work hA.ne (by rw[hA.me,hx];simp) (by rw[hA.me,hx];simp) (by rw[hA.me];exact hm) s hA.sc o o1 o2
variable{b:ai}{ops:Array Oper}{k:List Item}{cs:List ai}{S:Array Bool->St eD->Prop}
theorem Does.quiet{P:au}(hP:q.P=P){j:Nat}{o:Oper}{X:Sem Next}{v:af}(ho:ops[j]?=some o)(hk:b.kind≠ .early)(hS:∀l st,l.getD j true=false->S l st->(∃x:Wk,(x.wg≠ .lv/\x.wg≠ .gone/\x.wg≠ .idle)/\At s i x st)/\∀dV,Rl i st dV->Inv q dV->S (l.setIfInBounds j true) dV)
  (hrun:∀w,X.run P w=.ok (.value v) w)(hev:∀(a:Act) (w:ae),ax a.eval o=X->listed P b.fn a o w=#[]):Does (cfg q) i Ch b ops k cs S j o X v:=by
 subst hP;intro l a rest st hl hs he hw hn;obtain⟨⟨x,hx,hA⟩,Yl⟩:=hS l st hl hs;refine TT.step fun dV hr hi=>⟨fun hl=>absurd hl ((hA.rely hx hr hi).nH ⟨hx.1,hx.2.1⟩),?_⟩;have hstep:stepG (cfg q).P (i==0) (G (b.at a (.inRegion ops (j::rest)::k)) cs) dV.w=.go (G (b.at (a.put o.dst v) (.inRegion ops rest::k)) cs) dV.w #[]:=by
  have:=stepG_value (P:=q.P) (main:=i==0) (cs:=cs) (k:=k) (rest:=rest) (w:=dV.w) ho hw hk (by rw[he];exact hrun dV.w)
  rw[hev a dV.w he]at this;exact this
 unfold iR;rw[hstep];have e:(⟨dV.w,dV.t++aA i (G (b.at a (.inRegion ops (j::rest)::k)) cs).frame.fn (G (b.at a (.inRegion ops (j::rest)::k)) cs).frame.place #[],dV.γ⟩:St eD)=dV:=by rw[ofEvents_none,Array.append_empty]
 refine .inr ⟨dV.γ,by rw[e];exact hi,by rw[e],fun j hj=>by rw[e];exact Rl.refl j dV,.inr fun k _ hw=>by rw[e];exact hw,?_⟩;rw[e];exact .inl ⟨rfl,hn dV (Yl dV hr hi)⟩
theorem Does.enter{P:au}(hP:q.P=P){j:Nat}{o:Oper}{X:Sem Next}{v:af}{f:ak}{args:Array af}(ho:ops[j]?=some o)(hk:b.kind≠ .early)(hS:∀l st,S l st->(∃x:Wk,(x.wg≠ .lv/\x.wg≠ .gone/\x.wg≠ .idle)/\At s i x st)/\∀dV,Rl i st dV->Inv q dV->S l dV)
  (hrun:∀w,X.run P w=.ok (.enter f args) w)(hev:∀(a:Act) (w:ae),ax a.eval o=X->listed P b.fn a o w=#[])
  (hT:∀(l:Array Bool) (a:Act) (rest:List Nat) (st:St eD),l.getD j true=false->S l st->(∀st',S (l.setIfInBounds j true) st'->TT (cfg q) i Ch (G (b.at (a.put o.dst v) (.inRegion ops rest::k)) cs) st')->TT (cfg q) i Ch (G (Frame.enter P f args .normal) (b.at a (.inRegion ops (j::rest)::k)::cs)) st):Does (cfg q) i Ch b ops k cs S j o X v:=by
 subst hP;intro l a rest st hl hs he hw hn;obtain⟨⟨x,hx,hA⟩,Yl⟩:=hS l st hs;refine TT.step fun dV hr hi=>⟨fun hl=>absurd hl ((hA.rely hx hr hi).nH ⟨hx.1,hx.2.1⟩),?_⟩;have hstep:stepG (cfg q).P (i==0) (G (b.at a (.inRegion ops (j::rest)::k)) cs) dV.w=.go (G (Frame.enter q.P f args .normal) (b.at a (.inRegion ops (j::rest)::k)::cs)) dV.w #[]:=by
  have:=stepG_enter (P:=q.P) (main:=i==0) (cs:=cs) (k:=k) (rest:=rest) (w:=dV.w) ho hw hk (by rw[he];exact hrun dV.w)
  rw[hev a dV.w he]at this;exact this
 unfold iR;rw[hstep];have e:(⟨dV.w,dV.t++aA i (G (b.at a (.inRegion ops (j::rest)::k)) cs).frame.fn (G (b.at a (.inRegion ops (j::rest)::k)) cs).frame.place #[],dV.γ⟩:St eD)=dV:=by rw[ofEvents_none,Array.append_empty]
 refine .inr ⟨dV.γ,by rw[e];exact hi,by rw[e],fun j hj=>by rw[e];exact Rl.refl j dV,.inr fun k _ hw=>by rw[e];exact hw,?_⟩;rw[e];exact .inl ⟨rfl,hT l a rest dV hl (Yl dV hr hi) hn⟩
theorem Does.call{P:au}(hP:q.P=P){j:Nat}{o:Oper}{a₀:Act}{v:af}{f:ak}{fn:Func}{c:Code}{ik:Array Operand}{ats:Array aj}{args:Array af}(ho:ops[j]?=some o)(hk:b.kind≠ .early)(hop:o.op=.call {callee:=.value (.func f),args:=ik,argTypes:=ats})
  (hf:P.funcs[f]?=some fn)(hname:(fn.name== "runtime.NumGoroutine")=false)(hb:fn.body=some c)(hargs:ik.map a₀.eval=args)(hS:∀l st,S l st->(∃x:Wk,(x.wg≠ .lv/\x.wg≠ .gone/\x.wg≠ .idle)/\At s i x st)/\∀dV,Rl i st dV->Inv q dV->S l dV)
  (hT:∀(l:Array Bool) (a:Act) (rest:List Nat) (st:St eD),l.getD j true=false->S l st->(∀st',S (l.setIfInBounds j true) st'->TT (cfg q) i Ch (G (b.at (a.put o.dst v) (.inRegion ops rest::k)) cs) st')->TT (cfg q) i Ch (G (Frame.enter P f args .normal) (b.at a (.inRegion ops (j::rest)::k)::cs)) st):Does (cfg q) i Ch b ops k cs S j o (ax a₀.eval o) v:=by
 have hb':fn.body.isNone=false:=by rw[hb];rfl
 subst hargs;refine Does.enter hP ho hk hS (fun w=>run_call_body hop hf hname hb') (fun a w _=>?_) hT;unfold listed;rw[events_call_body hop hf hname hb'];exact seen_none P _
end
end
section
open Go.ConcR (KK wgBlock WgAt stA smA rd wr mk DC0)
open Go.ConcM (OsLater)
theorem cell_of{w w':ae}{b off:Nat}(h:w'.heap[b]?=w.heap[b]?):w'.cell? ⟨b,off,none⟩=w.cell? ⟨b,off,none⟩:=by simp[bM,h]
def Reads(i:Nat)(γ:eD)(es:Array Event):Prop:=∀e∈es,∃b off,e=⟨.cell ⟨b,off,none⟩,false,false⟩/\γ.rd i (ca b off)
section
variable{q:iK}{i:Nat}{s:eI}{x:Wk}
theorem Rl.still(i:Nat)(st:St eD)(t:Trace):Rl i st ⟨st.w,t,st.γ⟩:=
 ⟨aH _,fun _ _ h=>h,fun _ _ h=>h,fun _ _ _=>rfl,fun _=>rfl,fun _=>⟨rfl,rfl,rfl,fun _=>.rfl⟩,fun _=>rfl,fun _ _ _ _ _=>⟨aH _,fun _=>⟨rfl,rfl,rfl,rfl⟩,fun h=>h⟩,fun _ _ _=>⟨aH _,fun _=>rfl⟩,fun _ _ _ _ _ _ _ _ _=>rfl,fun _ _=>rfl,fun _ _ _=>aH _,aH _⟩
theorem Inv.read{st:St eD}(h:Inv q st)(hA:At s i x st)(hx:x.wg=.work){es:Array Event}(hR:Reads i st.γ es)(fn:ak)(pos:String):
  Inv q ⟨st.w,st.t++aA i fn pos es,st.γ⟩/\∀j,j≠i->Rl j st ⟨st.w,st.t++aA i fn pos es,st.γ⟩:=by
 obtain⟨c,p,t⟩:=h.eZ s hA.sc;have A:=h.base.tr.FD;have hl:=c.OD;have wz:∀{e:Event},e∈es->∀{y:Touch},(bJ e).touch?=some y->∃b off,y=⟨ca b off,false,.plain⟩/\st.γ.rd i (ca b off):=by
  intro e he y hy;obtain⟨b,off,rfl,hr⟩:=hR e he;cases hy;exact⟨b,off,rfl,hr⟩
 have mU:∀op∈aA i fn pos es,op.g=i:=fun op ho=>by obtain⟨e,_,rfl⟩:=gQ ho;rfl
 refine h.gen hA.sc hA.mem (γ':=st.γ) rfl rfl (fun _=>.rfl) (fun e he y hy=>?_) (fun e he a=>?_) (fun _ e he y hy=>by obtain⟨b,off,rfl,_⟩:=wz he hy;simp) (fun T=>T) (fun j hj l=>⟨id,id⟩) h.base.pool rfl (fun b=>.inl rfl) (.refl _) rfl (fun _ _=>rfl) (fun _=>⟨rfl,rfl⟩) (fun e=>absurd e hA.ne) (fun _=>?_) ?_ p ?_ ⟨aH _,fun _=>⟨rfl,rfl,rfl,rfl⟩,id⟩ (fun _=>⟨aH _,fun _=>rfl⟩) (fun j hj e=>⟨rfl,fun _ _ _=>rfl⟩) (.inl nle)
 ·obtain⟨b,off,rfl,hr⟩:=wz he hy;exact⟨.inr (.inr (.inl ⟨hr,rfl⟩)),fun b' hb'=>A.xI _ _ hr _ hb'⟩
 ·obtain⟨b,off,rfl,hr⟩:=hR e he;simp
 ·refine⟨(fU fun e he=>?_).symm,by rw[hA.me,hx];simp⟩;obtain⟨b,off,rfl,hr⟩:=hR e he;simp
 ·exact⟨c.n0,c.gb,c.qL,c.zb,c.rb,c.ne,c.mu,c.D1,c.work,c.dn,c.syn,c.new,c.on,c.fin,c.all,c.sD⟩
 ·refine⟨fun h0 hn g hg off o1 o2=>?_,fun h1=>?_,fun j hj jz hw=>?_⟩
  ·refine(t.Zv h0 hn g hg off o1 o2).app fun op hop b hb e=>?_;obtain⟨e',he,rfl⟩:=gQ hop;obtain⟨b',off',rfl,hr⟩:=wz he hb;have e:ca b' off'=ca s.Gb off:=e;rw[e]at hr;exact absurd hr ((p.DX hn i off o1 o2).2.2 h0)
  ·obtain⟨r,r1,r2,r3⟩:=t.VT h1;have hp:=lt_of_act? r1.1;refine⟨r,r1.app fun op hop sync e=>?_,(heard_old hp).2 r2,fun off o1 o2 k a ha e hw=>?_⟩
   ·obtain⟨e',he,rfl⟩:=gQ hop;obtain⟨b',off',rfl,hr⟩:=hR e' he;cases e
   ·rcases gT ha with⟨hlt,ha'⟩|⟨_,op,hop,hx,vN⟩
    ·exact(r3 off o1 o2 k a ha' e hw).app _
    ·obtain⟨e',he,rfl⟩:=gQ hop;obtain⟨b',off',rfl,hr⟩:=wz he vN;cases hw
  ·have hw:(st.γ.wk j).wg≠ .work:=hw;have OW:j≠i:=fun e=>hw (by rw[e,hA.me];exact hx);obtain⟨r,r1,r2⟩:=t.rel j hj jz hw;have other:∀k,st.t.size<=k->(st.t++aA i fn pos es).g? k≠some j:=fun k hk hg=>by
    obtain⟨op,ho,Ug⟩:=Option.map_eq_some_iff.1 hg;rcases getElem?_append_cases ho with⟨lU,_⟩|⟨_,OT⟩
    ·omega
    ·exact OW (Ug.symm.trans (mU op OT))
   refine⟨r,r1.app fun k hk hg=>absurd hg (other k hk),fun k a X8 hg ha=>?_⟩;rcases bw k st.t.size with hlt|hge
   ·exact r2 k a X8 (by simpa only[cX,getElem?_append_old hlt]using hg) (by rw[touchAt_old hlt]at ha;exact ha)
   ·exact absurd hg (other k hge)
variable{Ch:Nat->ah->St eD->Prop}
theorem TT.read{P:au}(hP:q.P=P){g:ah}{st:St eD}(hA:At s i x st)(hx:x.wg=.work)
  (h:∀dV,Rl i st dV->Inv q dV->At s i x dV->∃g' es,stepG P (i==0) g dV.w=.go g' dV.w es/\g'.status=.running/\Reads i dV.γ es/\
   ∀dY,Rl i st dY->Inv q dY->At s i x dY->TT (cfg q) i Ch g' dY):TT (cfg q) i Ch g st:=by
 subst hP;refine TT.act fun dV hr hi=>?_;have dX:=hA.rely (by rw[hx];simp) hr hi;obtain⟨g',es,h1,h2,h3,h4⟩:=h dV hr hi dX;have k:=hi.read dX hx h3 g.frame.fn g.frame.place;exact⟨dX.nH (by rw[hx];simp),g',_,_,dV.γ,h1,h2,rfl,k,.inr fun _ _ h=>h,h4 _ (hr.trans (Rl.still i dV _)) k.1 (dX.next hi rfl rfl rfl dX.me (fun _ h=>h) fun _ _ _ _ _=>rfl)⟩
variable{b:ai}{ops:Array Oper}{k:List Item}{cs:List ai}{S:Array Bool->St eD->Prop}
theorem Does.reads{P:au}(hP:q.P=P){j:Nat}{o:Oper}{X:Sem Next}{v:af}(ho:ops[j]?=some o)(hk:b.kind≠ .early)
  (hS:∀l st,l.getD j true=false->S l st->(∃x:Wk,x.wg=.work/\At s i x st)/\∀dV,Rl i st dV->Inv q dV->S (l.setIfInBounds j true) dV/\X.run P dV.w=.ok (.value v) dV.w/\∀(a:Act),ax a.eval o=X->Reads i dV.γ (listed P b.fn a o dV.w)):Does (cfg q) i Ch b ops k cs S j o X v:=by
 intro l a rest st hl hs he hw hn;obtain⟨⟨x,hx,hA⟩,Yl⟩:=hS l st hl hs;refine TT.read hP hA hx fun dV hr hi dX=>⟨_,_,stepG_value ho hw hk (by rw[he];exact(Yl dV hr hi).2.1),rfl,(Yl dV hr hi).2.2 a he,fun dY yh aX8 eo=>hn dY (Yl dY yh aX8).1⟩
end
end
section
open Go.ConcR (KK wgBlock WgAt stA smA rd wr mk DC0)
open Go.ConcM (OsLater)
theorem Cf{e:Event}(h:e.mute=true):(bJ e).touch?=none/\∀a,e.loc≠ .mark (.release a):=by
 obtain⟨l,w,s⟩:=e;cases l with
 |mark m=>cases m<;>first|(cases h;done)|exact⟨rfl,by simp⟩
 |_=>cases h
theorem TI{i:Nat}{fn:ak}{pos:String}{es:Array Event}(h:∀e∈es,Event.mute e=true):∀op∈aA i fn pos es,op.g=i/\op.act.touch?=none/\∀a,op.act≠ .mark (.release a):=by
 intro op ho;obtain⟨e,he,rfl⟩:=gQ ho;obtain⟨h1,h2⟩:=Cf (h e he);exact⟨rfl,h1,fun a hm=>h2 a ((nO e _).1 hm)⟩
theorem BH{f g:Nat->Nat}(h:∀k,f k<=g k):∀l:List Nat,(l.map f).sum<=(l.map g).sum
 |[]=>aH _
 |k::l=>by simp only[List.map_cons,List.sum_cons];have:=h k;have:=BH h l;omega
theorem ku{t u:Trace}(hu:∀op∈u,op.act.touch?=none){k:Nat}(hk:t.size<=k):¬(t++u).counts k/\touchAt (t++u) k=none:=by
 have key:∀y,touchAt (t++u) k=some y->False:=by
  intro y hy;rcases gT hy with⟨hlt,_⟩|⟨_,op,hop,_,hx⟩
  ·omega
  ·rw[hu op hop]at hx;cases hx
 refine⟨fun⟨y,hy,_⟩=>key y ?_,?_⟩
 ·unfold touchAt;exact hy
 ·cases h:touchAt (t++u) k with
  |none=>rfl
  |some y=>exact(key y h).elim
section
variable{q:iK}{i:Nat}
theorem Inv.leave{st:St eD}(h:Inv q st)(hi:i≠0)(hlt:i<st.γ.num)(hlv:(st.γ.wk i).wg=.lv){es:Array Event}(hm:∀e∈es,Event.mute e=true){w':WG}(hw:w'=.lv\/(w'=.gone/\deafBehind (st.γ.wk i).df es=0))(fn:ak)(pos:String):
  Inv q ⟨st.w,st.t++aA i fn pos es,{st.γ with wk:=upd st.γ.wk i {st.γ.wk i with df:=deafBehind (st.γ.wk i).df es,wg:=w'}}⟩/\
  ∀j,j≠i->Rl j st ⟨st.w,st.t++aA i fn pos es,{st.γ with wk:=upd st.γ.wk i {st.γ.wk i with df:=deafBehind (st.γ.wk i).df es,wg:=w'}}⟩:=by
 have A:=h.base.tr.FD;have mU:=TI (i:=i) (fn:=fn) (pos:=pos) hm;generalize hu:aA i fn pos es=u at mU ⊢;have hg:∀op∈u,op.g=i:=fun op ho=>(mU op ho).1;have ht:∀op∈u,op.act.touch?=none:=fun op ho=>(mU op ho).2.1;have at_:∀j,upd st.γ.wk i {st.γ.wk i with df:=deafBehind (st.γ.wk i).df es,wg:=w'} j=if j=i then{st.γ.wk i with df:=deafBehind (st.γ.wk i).df es,wg:=w'}else st.γ.wk j:=fun j=>rfl;have hmx:∀j,(upd st.γ.wk i {st.γ.wk i with df:=deafBehind (st.γ.wk i).df es,wg:=w'} j).mx=(st.γ.wk j).mx:=fun j=>by
  rw[at_];split
  ·rename_i e;subst e;rfl
  ·rfl
 have V6:∀j,(upd st.γ.wk i {st.γ.wk i with df:=deafBehind (st.γ.wk i).df es,wg:=w'} j).zw=(st.γ.wk j).zw:=fun j=>by
  rw[at_];split
  ·rename_i e;subst e;rfl
  ·rfl
 have Ud:∀j,(upd st.γ.wk i {st.γ.wk i with df:=deafBehind (st.γ.wk i).df es,wg:=w'} j).rw=(st.γ.wk j).rw:=fun j=>by
  rw[at_];split
  ·rename_i e;subst e;rfl
  ·rfl
 have oD:∀j,(upd st.γ.wk i {st.γ.wk i with df:=deafBehind (st.γ.wk i).df es,wg:=w'} j).syn=(st.γ.wk j).syn:=fun j=>by
  rw[at_];split
  ·rename_i e;subst e;rfl
  ·rfl
 have KY:(upd st.γ.wk i {st.γ.wk i with df:=deafBehind (st.γ.wk i).df es,wg:=w'} i).wg=w':=by rw[at_,if_pos rfl]
 have hwn:∀j,j≠i->upd st.γ.wk i {st.γ.wk i with df:=deafBehind (st.γ.wk i).df es,wg:=w'} j=st.γ.wk j:=fun j hj=>by rw[at_,if_neg hj]
 have w1:w'≠ .work/\w'≠ .idle/\w'.cd=false/\(w'== .d2)=false/\(w'== .d3)=false/\(w'== .d4)=false/\w'.cr<=1:=by
  rcases hw with e|⟨e,_⟩<;>subst e<;>decide
 have Yh:∀(p:WG->Bool) (s:eI),p .lv=false->p w'=false->gj p {st.γ with wk:=upd st.γ.wk i {st.γ.wk i with df:=deafBehind (st.γ.wk i).df es,wg:=w'}} s=gj p st.γ s:=fun p s h1 h2=>by
  unfold gj;refine congrArg (fun f=>List.countP f _) (funext fun k=>?_);show p (upd st.γ.wk i _ (s.n0+k)).wg=p (st.γ.wk (s.n0+k)).wg;by_cases e:s.n0+k=i
  ·rw[e,KY,hlv,h1,h2]
  ·rw[hwn _ e]
 have hmm:({st.γ with wk:=upd st.γ.wk i {st.γ.wk i with df:=deafBehind (st.γ.wk i).df es,wg:=w'}}:eD).mm=st.γ.mm:=funext fun j=>hmx j;have htr:FH (st.t++u) st.γ.num st.w.heap.size st.γ.ex st.γ.rd st.γ.sh:=by
  refine(h.base.tr.step nle hlt hg (fun op ho x hx=>?_) (fun op ho x hx=>?_) (fun op ho=>(mU op ho).2.2)).sub A (fun g l hl=>.inl hl) (fun g l hl=>.inl hl) fun g l hl=>.inl hl
  ·rw[ht op ho]at hx;cases hx
  ·rw[ht op ho]at hx;cases hx
 have Mm:∀s,st.γ.sc=some s->pI {st.γ with wk:=upd st.γ.wk i {st.γ.wk i with df:=deafBehind (st.γ.wk i).df es,wg:=w'}} s<=pI st.γ s:=fun s _=>by
  unfold pI;refine BH (fun k=>?_) _;show(upd st.γ.wk i _ (s.n0+k)).wg.cr<=(st.γ.wk (s.n0+k)).wg.cr;by_cases e:s.n0+k=i
  ·rw[e,KY,hlv];exact w1.2.2.2.2.2.2
  ·rw[hwn _ e];exact aH _
 refine⟨⟨⟨h.base.pos,htr,h.base.JY,?_,fun j hj jz=>?_,fun j hj=>?_,h.base.os,h.base.out,fun j hj jz=>?_,h.base.dead,fun k a ha hme=>?_,fun k g hk hne lU hc=>?_,h.base.pool,fun j hj=>?_,fun j hj=>?_,fun k a ha hk=>?_,h.base.dsc⟩,h.solo,fun s hs=>?_⟩,fun j hj=>?_⟩
 ·show Deaf (st.t++u) 0=st.γ.dm;rw[Deaf_other st.t hi _ hg,h.base.YG]
 ·show Deaf (st.t++u) j=(upd st.γ.wk i _ j).df;have jz:j<st.γ.num:=jz;by_cases e:j=i
  ·subst e;rw[at_,if_pos rfl,<-hu,Deaf_own,h.base.Pm j hj jz]
  ·rw[hwn j e,Deaf_other st.t (Ne.symm e) _ hg,h.base.Pm j hj jz]
 ·have hj:(upd st.γ.wk i {st.γ.wk i with df:=deafBehind (st.γ.wk i).df es,wg:=w'} j).wg=.gone:=hj;show j≠0/\j<st.γ.num/\(upd st.γ.wk i _ j).df=0;by_cases e:j=i
  ·subst e;rw[KY]at hj;refine⟨hi,hlt,?_⟩;rw[at_,if_pos rfl];rcases hw with e|⟨_,e⟩
   ·rw[e]at hj;cases hj
   ·exact e
  ·rw[hwn j e]at hj ⊢;exact h.base.gone j hj
 ·show(upd st.γ.wk i {st.γ.wk i with df:=deafBehind (st.γ.wk i).df es,wg:=w'} j).wg=.lv\/(upd st.γ.wk i {st.γ.wk i with df:=deafBehind (st.γ.wk i).df es,wg:=w'} j).wg=.gone;by_cases e:j=i
  ·subst e;rw[KY];exact hw.imp id (·.1)
  ·rw[hwn j e];exact h.base.old j hj jz
 ·show(∃b,ij a.loc=some b/\st.γ.dead b)\/Knows (st.t++u) 0 k\/∃g,(st.t++u).g? k=some g/\st.γ.old<=g;rcases gT ha with⟨lU,ha'⟩|⟨_,op,hop,_,vN⟩
  ·rcases h.base.know k a ha' hme with h1|h1|⟨g,h1,h2⟩
   ·exact .inl h1
   ·exact .inr (.inl (h1.app _))
   ·exact .inr (.inr ⟨g,by simp only[cX,getElem?_append_old lU]at h1 ⊢;exact h1,h2⟩)
  ·rw[ht op hop]at vN;cases vN
 ·have hc:(st.t++u).counts k:=hc;rcases bw k st.t.size with hk2|hk2
  ·have hk':st.t.g? k=some g:=by simpa only[cX,getElem?_append_old hk2]using hk
   obtain⟨j,h1,h2⟩:=h.base.ho k g hk' hne lU (by rw[counts_old hk2]at hc;exact hc);have hj:j<st.t.size:=by
    unfold cX at h1;obtain⟨op,ho,_⟩:=Option.map_eq_some_iff.1 h1;exact lt_size_of_getElem? ho
   exact⟨j,by simp only[cX,getElem?_append_old hj]at h1 ⊢;exact h1,hb_app _ h2⟩
  ·exact absurd hc (ku ht hk2).1
 ·show(upd st.γ.wk i _ j).mx=.fresh\/_=_;rw[hmx];exact h.base.S9 j hj
 ·have hj:st.γ.num<=j:=hj;exact(hwn j (by omega)).trans (h.base.nw j hj)
 ·show(st.t++u).g? k=some 0;rcases gT ha with⟨lU,ha'⟩|⟨_,op,hop,_,vN⟩
  ·have:=h.base.said k a ha' hk
   simp only[cX,getElem?_append_old lU]at this ⊢;exact this
  ·rw[ht op hop]at vN;cases vN
 ·have hs:st.γ.sc=some s:=hs;obtain⟨c,p,t⟩:=h.eZ s hs;refine⟨?_,?_,?_⟩
  ·exact{
    n0:=c.n0
    gb:=c.gb
    qL:=c.qL
    zb:=by
     obtain⟨Z,z1,z2,z3,z4⟩:=c.zb;exact⟨Z,z1,z2,z3,fun k k1 k2=>z4 k k1 ((V6 _).symm.trans k2)⟩
    rb:=by
     obtain⟨Z,z1,z2,z3,z4⟩:=c.rb;exact⟨Z,z1,z2,z3,fun k k1 k2=>z4 k k1 ((Ud _).symm.trans k2)⟩
    ne:=c.ne
    mu:=by have:=c.mu;rw[<-hmm]at this;exact this
    D1:=c.D1
    work:=fun j hj=>c.work j ((hmx j).symm.trans hj)
    dn:=fun j hj=>c.dn j ((hmx j).symm.trans hj)
    syn:=fun j h0 hj=>c.syn j h0 ((oD j).symm.trans hj)
    new:=fun j hj=>by
     have hne:j≠i:=by have hj:st.γ.num<=j:=hj;omega
     show upd st.γ.wk i _ j=_;rw[hwn j hne];exact c.new j hj
    on:=fun j h1 h2=>by
     show(upd st.γ.wk i _ j).wg≠_;by_cases e:j=i
     ·rw[e,KY];exact w1.2.1
     ·rw[hwn j e];exact c.on j h1 h2
    fin:=fun j h1 h2 h3=>by
     have h2:(upd st.γ.wk i {st.γ.wk i with df:=deafBehind (st.γ.wk i).df es,wg:=w'} j).wg≠ .idle:=h2;have h3:(upd st.γ.wk i {st.γ.wk i with df:=deafBehind (st.γ.wk i).df es,wg:=w'} j).wg≠ .work:=h3;have:=c.fin j h1 (by
      by_cases e:j=i
      ·rw[e,hlv];simp
      ·rw[hwn j e]at h2;exact h2) (by
      by_cases e:j=i
      ·rw[e,hlv];simp
      ·rw[hwn j e]at h3;exact h3)
     exact⟨(V6 j).trans this.1,(Ud j).trans this.2.1,by have:=this.2.2;rw[<-hmx j]at this;exact this⟩
    all:=c.all
    sD:=by
     have w:=c.sD;rw[<-Yh WG.cd s rfl w1.2.2.1,<-Yh (·== .d2) s rfl w1.2.2.2.1,<-Yh (·== .d3) s rfl w1.2.2.2.2.1,<-Yh (·== .d4) s rfl w1.2.2.2.2.2.1]at w;exact w}
  ·refine⟨p.spec,fun k k1 k2 k3=>p.Hy k k1 k2 ?_,p.MH,p.KW,p.KU,fun j hj=>p.UO j ((hmx j).symm.trans hj),fun j h0 hj=>p.SP j h0 ((oD j).symm.trans hj),fun hn=>p.DX fun j hj=>hn j ((hmx j).trans hj)⟩;have k3:(upd st.γ.wk i {st.γ.wk i with df:=deafBehind (st.γ.wk i).df es,wg:=w'} (s.n0+k)).wg=.work:=k3;by_cases e:s.n0+k=i
   ·rw[e,KY]at k3;exact absurd k3 w1.1
   ·rw[hwn _ e]at k3;exact k3
  ·refine t.app hg rfl rfl (fun hn j hj=>hn j ((hmx j).trans hj)) (fun j _ _ hw=>?_) (fun op ho y hy=>?_) fun _ _ k hk _=>?_
   ·have hw:(upd st.γ.wk i {st.γ.wk i with df:=deafBehind (st.γ.wk i).df es,wg:=w'} j).wg≠ .work:=hw;by_cases e:j=i
    ·rw[e,hlv];simp
    ·rw[hwn j e]at hw;exact hw
   ·rw[ht op ho]at hy;cases hy
   ·obtain⟨a,b⟩:=ku (t:=st.t) ht hk;exact⟨a,fun y hy=>by rw[b]at hy;cases hy⟩
 ·refine Rl.other hj (size:=0) A nle (fun l hl=>hl) (fun l hl=>hl) (fun b=>.inl rfl) (fun k hk=>hwn k hk) (fun _=>⟨rfl,rfl,rfl,fun _=>.rfl⟩) rfl (fun s hs=>?_) (fun s hs _=>⟨Mm s hs,fun _=>rfl⟩) (fun hw=>⟨rfl,fun s hs off o1 o2=>rfl⟩) (fun _ _ _=>aH _) nle;unfold phi;have e:=hmm;refine⟨?_,fun _=>⟨rfl,rfl,rfl,rfl⟩,id⟩;show RG (eD.mm {st.γ with wk:=upd st.γ.wk i {st.γ.wk i with df:=deafBehind (st.γ.wk i).df es,wg:=w'}}) s.n0 s.n (st.γ.tn+st.γ.th)<=_;rw[e];exact aH _
variable{Ch:Nat->ah->St eD->Prop}
theorem TT.quits{P:au}(hP:q.P=P):∀(n:Nat) (g:ah) (st:St eD),i≠0->i<st.γ.num->(st.γ.wk i).wg=.lv->g.status=.running->QuitsD P n (st.γ.wk i).df g->TT (cfg q) i Ch g st:=by
 subst hP;intro n;induction n with
 |zero=>intro g st _ _ _ hs hq;rw[hq.1]at hs;cases hs
 |succ n ih=>
  intro g st hi hlt hlv hs hq;refine TT.step fun dV hr hI=>?_;have hr:Rl i st dV:=hr;have hI:Inv q dV:=hI;have hme:=hr.me hi;have GF:i<dV.γ.num:=Nat.lt_of_lt_of_le hlt hr.num;have hd:Deaf dV.t i=(st.γ.wk i).df:=by rw[hI.base.Pm i (by omega) GF,hme]
  refine⟨fun _=>⟨n+1,by rw[hd];exact hq⟩,?_⟩;rcases hq with⟨h1,_⟩|⟨_,g',es,hm,hst,hq⟩
  ·rw[h1]at hs;cases hs
  have h0:(i==0)=false:=by simp[hi]
  have hstep:stepG (cfg q).P (i==0) g dV.w=.go g' dV.w es:=by rw[h0];exact hst dV.w
  unfold iR;rw[hstep];rcases hq.status with hs'|hs'
  ·obtain⟨a,b⟩:=hI.leave hi GF (by rw[hme];exact hlv) hm (w':=.lv) (.inl rfl) g.frame.fn g.frame.place;refine .inr ⟨{dV.γ with wk:=upd dV.γ.wk i {dV.γ.wk i with df:=deafBehind (dV.γ.wk i).df es,wg:=.lv}},a,rfl,b,.inr fun k hk hw=>?_,.inl ⟨hs',?_⟩⟩
   ·exact mE (st:=dV) (by rfl) (by rfl) (by rfl) (by rfl) (fun k hk=>by exact upd_ne _ _ hk) k hk hw
   ·refine ih g' _ hi GF (congrArg Wk.wg (gF _ _ _)) hs' ?_;show QuitsD q.P n (upd dV.γ.wk i {dV.γ.wk i with df:=deafBehind (dV.γ.wk i).df es,wg:=.lv} i).df g';rw[gF,hme];exact hq
  ·have hd0:deafBehind (st.γ.wk i).df es=0:=by
    cases n with
    |zero=>exact hq.2
    |succ n=>
     rcases hq with⟨_,h⟩|⟨h,_⟩
     ·exact h
     ·rw[hs']at h;cases h
   obtain⟨a,b⟩:=hI.leave hi GF (by rw[hme];exact hlv) hm (w':=.gone) (.inr ⟨rfl,by rw[hme];exact hd0⟩) g.frame.fn g.frame.place;refine .inr ⟨{dV.γ with wk:=upd dV.γ.wk i {dV.γ.wk i with df:=deafBehind (dV.γ.wk i).df es,wg:=.gone}},a,rfl,b,.inr fun k hk hw=>?_,.inr ⟨hs',hi,hi,congrArg Wk.wg (gF _ _ _)⟩⟩;exact mE (st:=dV) (by rfl) (by rfl) (by rfl) (by rfl) (fun k hk=>by exact upd_ne _ _ hk) k hk hw
end
end
section
open Go.ConcR (KK wgBlock WgAt stA smA rd wr mk DC0)
open Go.ConcM (OsLater)
theorem U6{t:Trace}{i:Nat}{fn:ak}{pos:String}{es:Array Event}{k:Nat}(hk:k<=es.size):(t++aA i fn pos es).deaf i (t.size+k)=deafBehind (Deaf t i) (es.extract 0 k):=by
 have e:es=es.extract 0 k++es.extract k es.size:=by
  rw[Array.extract_append_extract,Nat.max_eq_right hk];simp
 have e2:t++aA i fn pos es=(t++aA i fn pos (es.extract 0 k))++aA i fn pos (es.extract k es.size):=by
  rw[Array.append_assoc];congr 1;rw[ofEvents_eq,ofEvents_eq,ofEvents_eq,<-Array.map_append,<-e]
 have hs:(t++aA i fn pos (es.extract 0 k)).size=t.size+k:=by
  rw[ofEvents_eq,Array.size_append,Array.size_map,Array.size_extract];omega
 rw[e2,deaf_old (by rw[hs];exact aH _),<-hs];exact Deaf_own t i fn pos _
def Vx(s:eI)(d:Nat)(es:Array Event):Prop:=∀(k:Nat) (e:Event),es[k]?=some e->e.mute=true\/((∃off y,e=⟨ca s.Wg off,y,true⟩/\off<2)/\0<deafBehind d (es.extract 0 k))
theorem Kw{p:WG->Bool}{γ γ':eD}{s:eI}{i:Nat}(hi:s.n0<=i)(hi2:i<s.n0+s.n)(hw:∀j,j≠i->(γ'.wk j).wg=(γ.wk j).wg):gj p γ' s+(if p (γ.wk i).wg=true then 1 else 0)=gj p γ s+if p (γ'.wk i).wg=true then 1 else 0:=by
 unfold gj;have key:∀(l:List Nat),l.Nodup->(∀k∈l,True)->(l.countP fun k=>p (γ'.wk (s.n0+k)).wg)+(if(i-s.n0)∈l then(if p (γ.wk i).wg=true then 1 else 0)else 0)=(l.countP fun k=>p (γ.wk (s.n0+k)).wg)+if(i-s.n0)∈l then(if p (γ'.wk i).wg=true then 1 else 0)else 0:=by
  intro l hl _;induction l with
  |nil=>simp
  |cons k l ih=>
   rw[List.nodup_cons]at hl;have:=ih hl.2 (fun _ _=>trivial)
   rw[List.countP_cons,List.countP_cons];by_cases e:k=i-s.n0
   ·subst e;have hni:¬(i-s.n0)∈l:=hl.1;have hei:s.n0+(i-s.n0)=i:=by omega
    simp only[hni,if_false,aM,true_or,if_true,hei]at this ⊢;omega
   ·have hne:s.n0+k≠i:=by omega
    have hmem:(i-s.n0)∈k::l↔(i-s.n0)∈l:=by simp[Ne.symm e]
    simp only[hmem,hw _ hne];omega
 have h:=key (bq s.n) List.nodup_range (fun _ _=>trivial);have hm:(i-s.n0)∈bq s.n:=List.mem_range.2 (by omega);simp only[hm,if_true]at h;exact h
theorem ND{γ γ':eD}{s:eI}{i:Nat}(hi:s.n0<=i)(hi2:i<s.n0+s.n)(hw:∀j,j≠i->(γ'.wk j).wg=(γ.wk j).wg):pI γ' s+(γ.wk i).wg.cr=pI γ s+(γ'.wk i).wg.cr:=by
 unfold pI;have key:∀(l:List Nat),l.Nodup->(l.map fun k=>(γ'.wk (s.n0+k)).wg.cr).sum+(if(i-s.n0)∈l then(γ.wk i).wg.cr else 0)=(l.map fun k=>(γ.wk (s.n0+k)).wg.cr).sum+if(i-s.n0)∈l then(γ'.wk i).wg.cr else 0:=by
  intro l hl;induction l with
  |nil=>simp
  |cons k l ih=>
   rw[List.nodup_cons]at hl;have:=ih hl.2
   simp only[List.map_cons,List.sum_cons];by_cases e:k=i-s.n0
   ·subst e;have hni:¬(i-s.n0)∈l:=hl.1;have hei:s.n0+(i-s.n0)=i:=by omega
    simp only[hni,if_false,aM,true_or,if_true,hei]at this ⊢;omega
   ·have hne:s.n0+k≠i:=by omega
    have hmem:(i-s.n0)∈k::l↔(i-s.n0)∈l:=by simp[Ne.symm e]
    simp only[hmem,hw _ hne];omega
 have h:=key (bq s.n) List.nodup_range;have hm:(i-s.n0)∈bq s.n:=List.mem_range.2 (by omega);simp only[hm,if_true]at h;exact h
section
variable{q:iK}{i:Nat}{s:eI}{x:Wk}
theorem gL.PN{st:St eD}(c:gL q s st)(hA:At s i x st){w₁:WG}{ia:Nat}{gs₁ gJ:Nat}{w':ae}{t:Trace}(n1:w₁≠ .work)(n2:w₁≠ .idle)(hb:∀b,b≠s.Wg->w'.heap[b]?=st.w.heap[b]?)(hW:WgAt q.tW s.Wg w' gs₁ gJ)
  (hfin:x.zw=true/\x.rw=true/\(x.mx=.fresh\/x.mx=.out))
  (hL:xh st.γ.mw (gj WG.cd {st.γ with wk:=upd st.γ.wk i {x with wg:=w₁,df:=ia},gs:=gs₁,gm:=gJ} s) (gj (·== .d2) {st.γ with wk:=upd st.γ.wk i {x with wg:=w₁,df:=ia},gs:=gs₁,gm:=gJ} s) (gj (·== .d3) {st.γ with wk:=upd st.γ.wk i {x with wg:=w₁,df:=ia},gs:=gs₁,gm:=gJ} s) (gj (·== .d4) {st.γ with wk:=upd st.γ.wk i {x with wg:=w₁,df:=ia},gs:=gs₁,gm:=gJ} s) gs₁ gJ):
  gL q s ⟨w',t,{st.γ with wk:=upd st.γ.wk i {x with wg:=w₁,df:=ia},gs:=gs₁,gm:=gJ}⟩:=by
 have at_:∀j,upd st.γ.wk i {x with wg:=w₁,df:=ia} j=if j=i then{x with wg:=w₁,df:=ia}else st.γ.wk j:=fun j=>rfl;have hmx:∀j,(upd st.γ.wk i {x with wg:=w₁,df:=ia} j).mx=(st.γ.wk j).mx:=fun j=>by
  rw[at_];split
  ·rename_i e;subst e;rw[hA.me]
  ·rfl
 have V6:∀j,(upd st.γ.wk i {x with wg:=w₁,df:=ia} j).zw=(st.γ.wk j).zw:=fun j=>by
  rw[at_];split
  ·rename_i e;subst e;rw[hA.me]
  ·rfl
 have Ud:∀j,(upd st.γ.wk i {x with wg:=w₁,df:=ia} j).rw=(st.γ.wk j).rw:=fun j=>by
  rw[at_];split
  ·rename_i e;subst e;rw[hA.me]
  ·rfl
 have oD:∀j,(upd st.γ.wk i {x with wg:=w₁,df:=ia} j).syn=(st.γ.wk j).syn:=fun j=>by
  rw[at_];split
  ·rename_i e;subst e;rw[hA.me]
  ·rfl
 have hwn:∀j,j≠i->upd st.γ.wk i {x with wg:=w₁,df:=ia} j=st.γ.wk j:=fun j hj=>by rw[at_,if_neg hj]
 have KY:upd st.γ.wk i {x with wg:=w₁,df:=ia} i={x with wg:=w₁,df:=ia}:=by rw[at_,if_pos rfl]
 have hmm:({st.γ with wk:=upd st.γ.wk i {x with wg:=w₁,df:=ia},gs:=gs₁,gm:=gJ}:eD).mm=st.γ.mm:=funext fun j=>hmx j;exact{
  n0:=c.n0
  gb:=c.gb.of (hb _ c.ne.1) rfl ⟨rfl,rfl,rfl,rfl⟩ rfl
  qL:=hW
  zb:=by
   obtain⟨Z,z1,z2,z3,z4⟩:=c.zb;exact⟨Z,(hb _ c.ne.2.2.2.1.symm).trans z1,z2,z3,fun k k1 k2=>z4 k k1 ((V6 _).symm.trans k2)⟩
  rb:=by
   obtain⟨Z,z1,z2,z3,z4⟩:=c.rb;exact⟨Z,(hb _ c.ne.2.2.2.2.1.symm).trans z1,z2,z3,fun k k1 k2=>z4 k k1 ((Ud _).symm.trans k2)⟩
  ne:=c.ne
  mu:=by have:=c.mu;rw[<-hmm]at this;exact this
  D1:=c.D1
  work:=fun j hj=>c.work j ((hmx j).symm.trans hj)
  dn:=fun j hj=>c.dn j ((hmx j).symm.trans hj)
  syn:=fun j h0 hj=>c.syn j h0 ((oD j).symm.trans hj)
  new:=fun j hj=>by
   have hne:j≠i:=by have:=hA.lt;have hj:st.γ.num<=j:=hj;omega
   show upd st.γ.wk i _ j=_;rw[hwn j hne];exact c.new j hj
  on:=fun j h1 h2=>by
   show(upd st.γ.wk i _ j).wg≠_;by_cases e:j=i
   ·rw[e,KY];exact n2
   ·rw[hwn j e];exact c.on j h1 h2
  fin:=fun j h1 h2 h3=>by
   have h2:(upd st.γ.wk i {x with wg:=w₁,df:=ia} j).wg≠ .idle:=h2;have h3:(upd st.γ.wk i {x with wg:=w₁,df:=ia} j).wg≠ .work:=h3;show(upd st.γ.wk i {x with wg:=w₁,df:=ia} j).zw=true/\(upd st.γ.wk i {x with wg:=w₁,df:=ia} j).rw=true/\((upd st.γ.wk i {x with wg:=w₁,df:=ia} j).mx=.fresh\/(upd st.γ.wk i {x with wg:=w₁,df:=ia} j).mx=.out);by_cases e:j=i
   ·rw[e,KY];exact hfin
   ·rw[hwn j e]at h2 h3 ⊢;exact c.fin j h1 h2 h3
  all:=c.all
  sD:=hL}
theorem sf.PN{st:St eD}(p:sf s st.γ)(hA:At s i x st){w₁:WG}{ia:Nat}{gs₁ gJ:Nat}(n1:w₁≠ .work):sf s {st.γ with wk:=upd st.γ.wk i {x with wg:=w₁,df:=ia},gs:=gs₁,gm:=gJ}:=by
 have at_:∀j,upd st.γ.wk i {x with wg:=w₁,df:=ia} j=if j=i then{x with wg:=w₁,df:=ia}else st.γ.wk j:=fun j=>rfl;have hmx:∀j,(upd st.γ.wk i {x with wg:=w₁,df:=ia} j).mx=(st.γ.wk j).mx:=fun j=>by
  rw[at_];split
  ·rename_i e;subst e;rw[hA.me]
  ·rfl
 have oD:∀j,(upd st.γ.wk i {x with wg:=w₁,df:=ia} j).syn=(st.γ.wk j).syn:=fun j=>by
  rw[at_];split
  ·rename_i e;subst e;rw[hA.me]
  ·rfl
 refine⟨p.spec,fun k k1 k2 k3=>p.Hy k k1 k2 ?_,p.MH,p.KW,p.KU,fun j hj=>p.UO j ((hmx j).symm.trans hj),fun j h0 hj=>p.SP j h0 ((oD j).symm.trans hj),fun hn=>p.DX fun j hj=>hn j ((hmx j).trans hj)⟩;have k3:(upd st.γ.wk i {x with wg:=w₁,df:=ia} (s.n0+k)).wg=.work:=k3;rw[at_]at k3;split at k3
 ·exact absurd k3 n1
 ·exact k3
theorem Inv.PN{st:St eD}(h:Inv q st)(hA:At s i x st)(hx:x.wg≠ .work){w₁:WG}{gs₁ gJ:Nat}{es:Array Event}{w':ae}(n1:w₁≠ .work)(n2:w₁≠ .idle)(n3:w₁≠ .gone)(hx1:x.wg≠ .idle)
  (hev:Vx s x.df es)(hsz:w'.heap.size=st.w.heap.size)(hb:∀b,b≠s.Wg->w'.heap[b]?=st.w.heap[b]?)(hos:OsLater st.w.os w'.os)(hout:w'.output=st.w.output)(hW:WgAt q.tW s.Wg w' gs₁ gJ)
  (hcr:w₁.cr<x.wg.cr){ia:Nat}(mg:ia=deafBehind x.df es)
  (hL:xh st.γ.mw (gj WG.cd {st.γ with wk:=upd st.γ.wk i {x with wg:=w₁,df:=ia},gs:=gs₁,gm:=gJ} s) (gj (·== .d2) {st.γ with wk:=upd st.γ.wk i {x with wg:=w₁,df:=ia},gs:=gs₁,gm:=gJ} s) (gj (·== .d3) {st.γ with wk:=upd st.γ.wk i {x with wg:=w₁,df:=ia},gs:=gs₁,gm:=gJ} s) (gj (·== .d4) {st.γ with wk:=upd st.γ.wk i {x with wg:=w₁,df:=ia},gs:=gs₁,gm:=gJ} s) gs₁ gJ)(fn:ak)(pos:String):
  Inv q ⟨w',st.t++aA i fn pos es,{st.γ with wk:=upd st.γ.wk i {x with wg:=w₁,df:=ia},gs:=gs₁,gm:=gJ}⟩/\∀j,j≠i->Rl j st ⟨w',st.t++aA i fn pos es,{st.γ with wk:=upd st.γ.wk i {x with wg:=w₁,df:=ia},gs:=gs₁,gm:=gJ}⟩:=by
 subst mg;have X:=h.eZ s hA.sc;have c:=X.c;have hi2:=hA.hi h;have hfin:=c.fin i hA.lo (by rw[hA.me];exact hx1) (by rw[hA.me];exact hx);rw[hA.me]at hfin;have hmx:∀j,(upd st.γ.wk i {x with wg:=w₁,df:=deafBehind x.df es} j).mx=(st.γ.wk j).mx:=fun j=>by
  unfold upd;split
  ·rename_i e;subst e;rw[hA.me]
  ·rfl
 have hwn:∀j,j≠i->upd st.γ.wk i {x with wg:=w₁,df:=deafBehind x.df es} j=st.γ.wk j:=fun j hj=>upd_ne _ _ hj;have KY:upd st.γ.wk i {x with wg:=w₁,df:=deafBehind x.df es} i={x with wg:=w₁,df:=deafBehind x.df es}:=gF _ _ _;have hmm:({st.γ with wk:=upd st.γ.wk i {x with wg:=w₁,df:=deafBehind x.df es},gs:=gs₁,gm:=gJ}:eD).mm=st.γ.mm:=funext fun j=>hmx j;have hps:=ND (γ:=st.γ) (γ':={st.γ with wk:=upd st.γ.wk i {x with wg:=w₁,df:=deafBehind x.df es},gs:=gs₁,gm:=gJ}) hA.lo hi2 (fun j hj=>congrArg Wk.wg (hwn j hj));have e1:(({st.γ with wk:=upd st.γ.wk i {x with wg:=w₁,df:=deafBehind x.df es},gs:=gs₁,gm:=gJ}:eD).wk i).wg=w₁:=congrArg Wk.wg KY;rw[e1,hA.me]at hps;have hp:RG (eD.mm {st.γ with wk:=upd st.γ.wk i {x with wg:=w₁,df:=deafBehind x.df es},gs:=gs₁,gm:=gJ}) s.n0 s.n (st.γ.tn+st.γ.th)=phi st.γ s:=by rw[hmm];rfl
 have aZ5:Deaf st.t i=x.df:=by rw[h.base.Pm i (by have:=hA.ne;omega) hA.lt,hA.me]
 refine h.act hA.sc hA.mem (γ':={st.γ with wk:=upd st.γ.wk i {x with wg:=w₁,df:=deafBehind x.df es},gs:=gs₁,gm:=gJ}) ⟨rfl,rfl,rfl,rfl,rfl,rfl⟩ (fun e he=>?_) (fun e he=>?_) hsz (fun b _ hb'=>hb b hb') (fun off _ _=>cell_of (hb _ c.ne.1)) hos hout hwn (fun _=>⟨rfl,rfl⟩) (fun e=>absurd e hA.ne) (fun _=>?_) ?_ (X.p.PN hA n1) rfl (fun hn j hj=>hn j ((hmx j).trans hj)) (fun _ _=>by rw[hA.me];exact hx) (fun _ _ k hk hg=>?_) ?_ (fun _=>⟨by omega,fun e=>by omega⟩) (.inl nle)
 ·obtain⟨k,hk⟩:=Array.mem_iff_getElem?.1 he;rcases hev k e hk with hm|⟨⟨off,y,rfl,ho⟩,_⟩
  ·obtain⟨l,w,sy⟩:=e;cases l with
   |mark m=>cases m<;>first|(cases hm;done)|exact .inr (.inl ⟨_,rfl,by simp,by simp,by simp⟩)
   |_=>cases hm
  ·exact .inl ⟨_,_,_,rfl,.inr ⟨rfl,ho⟩⟩
 ·obtain⟨k,hk⟩:=Array.mem_iff_getElem?.1 he;rcases hev k e hk with hm|⟨⟨off,y,rfl,ho⟩,_⟩
  ·intro e';subst e';cases hm
  ·intro e';have:s.Wg=s.Gb:=by unfold ca at e';simp at e'<;>exact e'.1.1
   exact c.ne.1 this.symm
 ·exact⟨(congrArg Wk.df KY).trans (by rw[hA.me]),fun e=>n3 (e1.symm.trans e)⟩
 ·exact c.PN hA n1 n2 hb hW hfin hL
 ·have wz:∀y,touchAt (st.t++aA i fn pos es) k=some y->y.kind=.atomic/\(∃off,y.loc=ca s.Wg off)/\(st.t++aA i fn pos es).deaf i k≠0:=by
   intro y hy;obtain⟨op,ho,hop⟩:=touch_of hy;rcases getElem?_append_cases ho with⟨hlt,_⟩|⟨hge,OT⟩
   ·omega
   ·have hk':(aA i fn pos es)[k-st.t.size]?=some op:=by
     rw[Array.getElem?_append_right hk]at ho;exact ho
    rw[ofEvents_eq,Array.getElem?_map]at hk';obtain⟨e,he,rfl⟩:=Option.map_eq_some_iff.1 hk';rcases hev _ e he with hm|⟨⟨off,z,rfl,ho'⟩,hd⟩
    ·rw[(Cf hm).1]at hop;cases hop
    ·cases hop;refine⟨rfl,⟨off,rfl⟩,?_⟩;have hlt:=(Array.getElem?_eq_some_iff.1 he).1;have:=U6 (t:=st.t) (i:=i) (fn:=fn) (pos:=pos) (es:=es) (k:=k-st.t.size) (Nat.le_of_lt hlt)
     rw[show st.t.size+(k-st.t.size)=k by omega,aZ5]at this;omega
  refine⟨fun⟨y,hy,hm,hc⟩=>?_,fun y hy=>?_⟩
  ·have hy':touchAt (st.t++aA i fn pos es) k=some y:=hy;obtain⟨a,_,b⟩:=wz y hy';rcases hc with hc|hc
   ·exact hc a
   ·obtain⟨g,hg',hd'⟩:=hc;rw[hg]at hg';cases hg';exact b hd'
  ·obtain⟨_,⟨off,ho⟩,_⟩:=wz y hy;rw[ho];rfl
 ·exact⟨by show RG _ _ _ _<=_;rw[hp];exact aH _,fun _=>⟨rfl,rfl,rfl,rfl⟩⟩
theorem PO{d:Nat}{es:Array Event}(h:∀e∈es,Event.mute e=true):Vx s d es:=fun k e hk=>.inl (h e (bF hk))
theorem rE{d:Nat}{es:Array Event}(hd:0<d)(h:∀e∈es,∃off y,e=⟨ca s.Wg off,y,true⟩/\off<2):Vx s d es:=fun k e hk=>by
 refine .inr ⟨h e (bF hk),?_⟩;rw[fU]
 ·exact hd
 ·intro e' he';obtain⟨off,y,rfl,_⟩:=h e' (by
   obtain⟨j,hj⟩:=Array.mem_iff_getElem?.1 he';rw[Array.getElem?_extract]at hj;split at hj
   ·exact bF hj
   ·cases hj)
  exact⟨by unfold ca;simp,by unfold ca;simp⟩
theorem R9{d:Nat}:Vx s d (semEvents (smA s.Wg)):=fun k e hk=>by
 unfold semEvents at hk ⊢;match k,hk with
 |0,hk=>simp at hk;subst hk;exact .inl rfl
 |1,hk=>
  simp at hk;subst hk;exact .inr ⟨⟨1,false,rfl,by omega⟩,by simp[deafBehind]⟩
 |2,hk=>
  simp at hk;subst hk;exact .inr ⟨⟨1,true,rfl,by omega⟩,by simp[deafBehind]⟩
 |3,hk=>simp at hk;subst hk;exact .inl rfl
 |k+4,hk=>simp at hk
end
end
section
open Go.ConcR (KK wgBlock WgAt stA smA rd wr mk DC0)
open Go.ConcM (OsLater)
section
variable{q:iK}{i:Nat}{s:eI}{x:Wk}
theorem lu{st:St eD}(hI:Inv q st)(hA:At s i x st){w₁:WG}{ia gs₁ gJ:Nat}(p:WG->Bool):gj p {st.γ with wk:=upd st.γ.wk i {x with wg:=w₁,df:=ia},gs:=gs₁,gm:=gJ} s+(if p x.wg=true then 1 else 0)=gj p st.γ s+if p w₁=true then 1 else 0:=by
 have:=Kw (p:=p) (γ:=st.γ) (γ':={st.γ with wk:=upd st.γ.wk i {x with wg:=w₁,df:=ia},gs:=gs₁,gm:=gJ}) hA.lo (hA.hi hI) (fun j hj=>congrArg Wk.wg (upd_ne _ _ hj))
 rw[hA.me]at this;rw[this];show _+(if p (upd st.γ.wk i {x with wg:=w₁,df:=ia} i).wg=true then 1 else 0)=_;rw[gF]
theorem WN{st:St eD}(hI:Inv q st)(hA:At s i x st)(hx:x.wg=.work):xh st.γ.mw (gj WG.cd {st.γ with wk:=upd st.γ.wk i {x with wg:=.rel,df:=x.df},gs:=st.γ.gs,gm:=st.γ.gm} s) (gj (·== .d2) {st.γ with wk:=upd st.γ.wk i {x with wg:=.rel,df:=x.df},gs:=st.γ.gs,gm:=st.γ.gm} s) (gj (·== .d3) {st.γ with wk:=upd st.γ.wk i {x with wg:=.rel,df:=x.df},gs:=st.γ.gs,gm:=st.γ.gm} s) (gj (·== .d4) {st.γ with wk:=upd st.γ.wk i {x with wg:=.rel,df:=x.df},gs:=st.γ.gs,gm:=st.γ.gm} s) st.γ.gs st.γ.gm:=by
 have h:=(hI.eZ s hA.sc).c.sD;have c1:=lu hI hA (w₁:=.rel) (ia:=x.df) (gs₁:=st.γ.gs) (gJ:=st.γ.gm) WG.cd;have c2:=lu hI hA (w₁:=.rel) (ia:=x.df) (gs₁:=st.γ.gs) (gJ:=st.γ.gm) (·== .d2);have c3:=lu hI hA (w₁:=.rel) (ia:=x.df) (gs₁:=st.γ.gs) (gJ:=st.γ.gm) (·== .d3);have c4:=lu hI hA (w₁:=.rel) (ia:=x.df) (gs₁:=st.γ.gs) (gJ:=st.γ.gm) (·== .d4);rw[hx]at c1 c2 c3 c4;simp[WG.cd]at c1 c2 c3 c4;rw[c1,c2,c3,c4];exact h
theorem Inv.rel{st:St eD}(h:Inv q st)(hA:At s i x st)(hx:x.wg=.work)(mg:x.df=0)(hz:x.zw=true)(hr:x.rw=true)(hm:x.mx=.fresh\/x.mx=.out)(fn:ak)(pos:String):
  Inv q ⟨st.w,st.t++aA i fn pos #[⟨.mark (.releaseMerge (stA s.Wg)),false,true⟩],{st.γ with wk:=upd st.γ.wk i {x with wg:=.rel,df:=x.df},gs:=st.γ.gs,gm:=st.γ.gm}⟩/\∀j,j≠i->Rl j st ⟨st.w,st.t++aA i fn pos #[⟨.mark (.releaseMerge (stA s.Wg)),false,true⟩],{st.γ with wk:=upd st.γ.wk i {x with wg:=.rel,df:=x.df},gs:=st.γ.gs,gm:=st.γ.gm}⟩:=by
 obtain⟨c,p,t⟩:=h.eZ s hA.sc;have A:=h.base.tr.FD;have hi2:=hA.hi h;have hmx:∀j,(upd st.γ.wk i {x with wg:=.rel,df:=x.df} j).mx=(st.γ.wk j).mx:=fun j=>by
  unfold upd;split
  ·rename_i e;subst e;rw[hA.me]
  ·rfl
 have hwn:∀j,j≠i->upd st.γ.wk i {x with wg:=.rel,df:=x.df} j=st.γ.wk j:=fun j hj=>upd_ne _ _ hj;have KY:upd st.γ.wk i {x with wg:=.rel,df:=x.df} i={x with wg:=.rel,df:=x.df}:=gF _ _ _;have hmm:({st.γ with wk:=upd st.γ.wk i {x with wg:=.rel,df:=x.df},gs:=st.γ.gs,gm:=st.γ.gm}:eD).mm=st.γ.mm:=funext fun j=>hmx j;have hps:=ND (γ:=st.γ) (γ':={st.γ with wk:=upd st.γ.wk i {x with wg:=.rel,df:=x.df},gs:=st.γ.gs,gm:=st.γ.gm}) hA.lo hi2 (fun j hj=>congrArg Wk.wg (hwn j hj));rw[show({st.γ with wk:=upd st.γ.wk i {x with wg:=.rel,df:=x.df},gs:=st.γ.gs,gm:=st.γ.gm}:eD).wk i={x with wg:=.rel,df:=x.df}from KY,hA.me,hx]at hps;replace hps:pI {st.γ with wk:=upd st.γ.wk i {x with wg:=.rel,df:=x.df},gs:=st.γ.gs,gm:=st.γ.gm} s+8=pI st.γ s+7:=hps;have nt:∀{e:Event},e∈(#[⟨.mark (.releaseMerge (stA s.Wg)),false,true⟩]:Array Event)->(bJ e).touch?=none/\e=⟨.mark (.releaseMerge (stA s.Wg)),false,true⟩:=by
  intro e he;simp at he;subst he;exact⟨rfl,rfl⟩
 have mU:∀op∈aA i fn pos #[⟨.mark (.releaseMerge (stA s.Wg)),false,true⟩],op.g=i/\op.act.touch?=none:=fun op ho=>by obtain⟨e,he,rfl⟩:=gQ ho;exact⟨rfl,(nt he).1⟩
 refine h.gen hA.sc hA.mem (γ':={st.γ with wk:=upd st.γ.wk i {x with wg:=.rel,df:=x.df},gs:=st.γ.gs,gm:=st.γ.gm}) rfl rfl (fun _=>.rfl) (fun e he y hy=>by rw[(nt he).1]at hy;cases hy) (fun e he a=>by rw[(nt he).2];simp) (fun _ e he y hy=>by rw[(nt he).1]at hy;cases hy) (fun T=>T) (fun j hj l=>⟨id,id⟩) h.base.pool rfl (fun b=>.inl rfl) (.refl _) rfl hwn (fun _=>⟨rfl,rfl⟩) (fun e=>absurd e hA.ne) (fun _=>?_) (c.PN hA (by simp) (by simp) (fun _ _=>rfl) c.qL ⟨hz,hr,hm⟩ (WN h hA hx)) (p.PN hA (by simp)) ?_ ?_ (fun _=>⟨by omega,fun _=>rfl⟩) (fun j hj e=>⟨rfl,fun _ _ _=>rfl⟩) (.inl nle)
 ·refine⟨(congrArg Wk.df KY).trans ?_,fun e=>?_⟩
  ·rw[hA.me];exact(fU fun e he=>by rw[(nt he).2];simp).symm
  ·have:=(congrArg Wk.wg KY).symm.trans e
   cases this
 ·have T:zy s ⟨st.w,st.t++aA i fn pos #[⟨.mark (.releaseMerge (stA s.Wg)),false,true⟩],st.γ⟩:=t.app (fun op ho=>(mU op ho).1) rfl rfl id (fun _ _ _ h=>h) (fun op ho y hy=>by rw[(mU op ho).2]at hy;cases hy) fun _ hw=>absurd (by rw[hA.me];exact hx) hw;refine⟨fun h0 h1=>T.Zv h0 fun j hj=>h1 j ((hmx j).trans hj),T.VT,fun j hj jz hw=>?_⟩;by_cases e:j=i
  ·subst e;have ay1:(st.t++aA j fn pos #[⟨.mark (.releaseMerge (stA s.Wg)),false,true⟩])[st.t.size]?=some {g:=j,fn,pos,act:=.mark (.releaseMerge (stA s.Wg))}:=by
    rw[uZ];simp[bJ]
   have hs:(st.t++aA j fn pos #[⟨.mark (.releaseMerge (stA s.Wg)),false,true⟩]).size=st.t.size+1:=by rw[uZ];simp
   refine⟨st.t.size,⟨by simp only[Trace.act?,ay1];rfl,by simp only[cX,ay1];rfl,⟨j,by simp only[cX,ay1];rfl,?_⟩,fun k hk hg=>?_⟩,fun k a hk hg ha=>?_⟩
   ·rw[deaf_old nle];show Deaf st.t j=0;rw[h.base.Pm j (by have:=hA.ne;omega) hA.lt,hA.me,mg]
   ·exact(ku (t:=st.t) (fun op ho=>(mU op ho).2) (Nat.le_of_lt hk)).1
   ·rw[(ku (t:=st.t) (fun op ho=>(mU op ho).2) (Nat.le_of_lt hk)).2]at ha;cases ha
  ·exact T.rel j hj jz (by
    have hw:(upd st.γ.wk i {x with wg:=.rel,df:=x.df} j).wg≠ .work:=hw;rw[hwn j e]at hw;exact hw)
 ·refine⟨?_,fun _=>⟨rfl,rfl,rfl,rfl⟩,id⟩;show RG (eD.mm {st.γ with wk:=upd st.γ.wk i {x with wg:=.rel,df:=x.df},gs:=st.γ.gs,gm:=st.γ.gm}) s.n0 s.n (st.γ.tn+st.γ.th)<=_;rw[hmm];exact aH _
variable{Ch:Nat->ah->St eD->Prop}
theorem TT.rel{P:au}(hP:q.P=P){g:ah}{st:St eD}(hA:At s i x st)(hx:x.wg=.work)(mg:x.df=0)(hz:x.zw=true)(hr:x.rw=true)(hm:x.mx=.fresh\/x.mx=.out)
  (h:∀dV,At s i x dV->Inv q dV->gL q s dV->∃g',stepG P (i==0) g dV.w=.go g' dV.w #[⟨.mark (.releaseMerge (stA s.Wg)),false,true⟩]/\g'.status=.running/\
   ∀dY,At s i {x with wg:=.rel,df:=x.df} dY->Inv q dY->TT (cfg q) i Ch g' dY):TT (cfg q) i Ch g st:=by
 subst hP;refine TT.act fun dV hr' hi=>?_;have dX:=hA.rely (by rw[hx];simp) hr' hi;obtain⟨g',h1,h2,h3⟩:=h dV dX hi (hi.eZ s dX.sc).c;have k:=hi.rel dX hx mg hz hr hm g.frame.fn g.frame.place;exact⟨dX.nH (by rw[hx];simp),g',_,_,{dV.γ with wk:=upd dV.γ.wk i {x with wg:=.rel,df:=x.df},gs:=dV.γ.gs,gm:=dV.γ.gm},h1,h2,rfl,k,.inr (mE (by rfl) (by rfl) (by rfl) (by rfl) fun k hk=>by exact upd_ne _ _ hk),h3 _ (dX.next hi rfl rfl rfl (gF _ _ _) (fun _ h=>h) fun _ _ _ _ _=>rfl) k.1⟩
theorem TT.PN{P:au}(hP:q.P=P){g:ah}{st:St eD}(hA:At s i x st)(hx:x.wg≠ .work/\x.wg≠ .idle/\x.wg≠ .lv/\x.wg≠ .gone)
  (h:∀dV,At s i x dV->Inv q dV->gL q s dV->∃g' w' es w₁ gs₁ gJ,stepG P (i==0) g dV.w=.go g' w' es/\g'.status=.running/\(w₁≠ .work/\w₁≠ .idle/\w₁≠ .gone/\w₁.cr<x.wg.cr)/\
   Vx s x.df es/\(w'.heap.size=dV.w.heap.size/\(∀b,b≠s.Wg->w'.heap[b]?=dV.w.heap[b]?)/\OsLater dV.w.os w'.os/\w'.output=dV.w.output)/\WgAt q.tW s.Wg w' (gs₁:Nat) (gJ:Nat)/\
   (∀c d2 d3 d4:Nat,c+(if x.wg.cd=true then 1 else 0)=gj WG.cd dV.γ s+(if w₁.cd=true then 1 else 0)->d2+(if(x.wg== .d2)=true then 1 else 0)=gj (·== .d2) dV.γ s+(if(w₁== .d2)=true then 1 else 0)->
    d3+(if(x.wg== .d3)=true then 1 else 0)=gj (·== .d3) dV.γ s+(if(w₁== .d3)=true then 1 else 0)->d4+(if(x.wg== .d4)=true then 1 else 0)=gj (·== .d4) dV.γ s+(if(w₁== .d4)=true then 1 else 0)->xh dV.γ.mw c d2 d3 d4 gs₁ gJ)/\
   (mayWake P g=true\/gJ=dV.γ.gm)/\∀dY,At s i {x with wg:=w₁,df:=deafBehind x.df es} dY->Inv q dY->dY.γ.gs=gs₁->TT (cfg q) i Ch g' dY):TT (cfg q) i Ch g st:=by
 subst hP;refine TT.act fun dV hr' hi=>?_;have dX:=hA.rely ⟨hx.2.2.1,hx.2.2.2,hx.2.1⟩ hr' hi;obtain⟨g',w',es,w₁,gs₁,gJ,h1,h2,h3,h4,h5,h6,h7,h8,h9⟩:=h dV dX hi (hi.eZ s dX.sc).c;have k:=hi.PN dX hx.1 h3.1 h3.2.1 h3.2.2.1 hx.2.1 h4 h5.1 h5.2.1 h5.2.2.1 h5.2.2.2 h6 h3.2.2.2 rfl (h7 _ _ _ _ (lu hi dX WG.cd) (lu hi dX (·== .d2)) (lu hi dX (·== .d3)) (lu hi dX (·== .d4))) g.frame.fn g.frame.place;refine⟨dX.nH ⟨hx.2.2.1,hx.2.2.2⟩,g',w',es,{dV.γ with wk:=upd dV.γ.wk i {x with wg:=w₁,df:=deafBehind x.df es},gs:=gs₁,gm:=gJ},h1,h2,rfl,k,h8.imp id fun e=>?_,h9 _ (dX.next hi rfl rfl rfl (gF _ _ _) (fun _ h=>h) fun b _ hb _ _=>h5.2.1 b hb) k.1 rfl⟩;exact mE (st:=dV) (by rfl) (by rfl) (by exact e) (by rfl) fun k hk=>by exact upd_ne _ _ hk
end
end
section
open Go.ConcR (KK wgBlock WgAt stA smA rd wr mk DC0)
open Go.ConcM (OsLater)
section
variable{q:iK}{i:Nat}{s:eI}{x:Wk}
theorem tF.block{b n:Nat}{t:aj}{f:Nat->Bool}{v:Nat->af}{w w':ae}(h:tF b n t f v w)(e:w'.heap[b]?=w.heap[b]?){f':Nat->Bool}(hf:∀k,k<n->f' k=true->f k=true):tF b n t f' v w':=by
 obtain⟨Z,z1,z2,z3,z4⟩:=h;exact⟨Z,e.trans z1,z2,z3,fun k k1 k2=>z4 k k1 (hf k k1 k2)⟩
theorem tF.lay{b n:Nat}{t:aj}{f f':Nat->Bool}{v:Nat->af}{w:ae}(h:tF b n t f v w){k:Nat}(hk:k<n)(hv:(∀a,v k≠Value.agg a)/\∀a,v k≠Value.tuple a)(hf:∀j,j<n->f' j=true->f j=true\/j=k):tF b n t f' v (w.setCell ⟨b,k,none⟩ (v k)):=by
 obtain⟨Z,z1,z2,z3,z4⟩:=h;refine⟨Z.setIfInBounds k (v k),by rw[setCell_eq_setRow w b k Z t (0,0) _ z1,setRow_heap w b _ _ t _ z1],by simpa using z2,fun j y hy=>?_,fun j j1 j2=>?_⟩
 ·by_cases e:k=j
  ·subst e;rw[aW (by omega)]at hy;cases hy;exact hv
  ·rw[aB e]at hy;exact z3 j y hy
 ·by_cases e:k=j
  ·subst e;rw[aW (by omega)]
  ·rw[aB e];exact z4 j j1 ((hf j j1 j2).resolve_right (Ne.symm e))
theorem Inv.SE{st:St eD}(h:Inv q st)(hA:At s i x st)(hx:x.wg=.work){k:Nat}(hk:i=s.n0+k)(hv:(∀a,s.zv k≠Value.agg a)/\∀a,s.zv k≠Value.tuple a)(fn:ak)(pos:String):
  Inv q ⟨st.w.setCell ⟨s.Zb,k,none⟩ (s.zv k),st.t++aA i fn pos #[⟨.cell ⟨s.Zb,k,none⟩,true,false⟩],{st.γ with wk:=upd st.γ.wk i {x with zw:=true}}⟩/\
  ∀j,j≠i->Rl j st ⟨st.w.setCell ⟨s.Zb,k,none⟩ (s.zv k),st.t++aA i fn pos #[⟨.cell ⟨s.Zb,k,none⟩,true,false⟩],{st.γ with wk:=upd st.γ.wk i {x with zw:=true}}⟩:=by
 obtain⟨c,p,t⟩:=h.eZ s hA.sc;have A:=h.base.tr.FD;have hl:=c.OD;have hi2:=hA.hi h;have hkn:k<s.n:=by omega
 have O8:=(p.Hy k hkn (by rw[<-hk];exact hA.lt) (by rw[<-hk,hA.me];exact hx)).1;rw[<-hk]at O8;have W:=aside_setCell st.w ⟨s.Zb,k,none⟩ (s.zv k);have at_:∀j,upd st.γ.wk i {x with zw:=true} j=if j=i then{x with zw:=true}else st.γ.wk j:=fun j=>rfl;have hmx:∀j,(upd st.γ.wk i {x with zw:=true} j).mx=(st.γ.wk j).mx:=fun j=>by
  rw[at_];split
  ·rename_i e;subst e;rw[hA.me]
  ·rfl
 have lH:∀j,(upd st.γ.wk i {x with zw:=true} j).wg=(st.γ.wk j).wg:=fun j=>by
  rw[at_];split
  ·rename_i e;subst e;rw[hA.me]
  ·rfl
 have oD:∀j,(upd st.γ.wk i {x with zw:=true} j).syn=(st.γ.wk j).syn:=fun j=>by
  rw[at_];split
  ·rename_i e;subst e;rw[hA.me]
  ·rfl
 have Ud:∀j,(upd st.γ.wk i {x with zw:=true} j).rw=(st.γ.wk j).rw:=fun j=>by
  rw[at_];split
  ·rename_i e;subst e;rw[hA.me]
  ·rfl
 have V6:∀j,(upd st.γ.wk i {x with zw:=true} j).zw=true->(st.γ.wk j).zw=true\/j=i:=fun j=>by
  rw[at_];split
  ·rename_i e;exact fun _=>.inr e
  ·exact .inl
 have br4:∀j,(st.γ.wk j).zw=true->(upd st.γ.wk i {x with zw:=true} j).zw=true:=fun j h=>by
  rw[at_];split
  ·rfl
  ·exact h
 have mg:∀j,(upd st.γ.wk i {x with zw:=true} j).df=(st.γ.wk j).df:=fun j=>by
  rw[at_];split
  ·rename_i e;subst e;rw[hA.me]
  ·rfl
 have hmm:({st.γ with wk:=upd st.γ.wk i {x with zw:=true}}:eD).mm=st.γ.mm:=funext fun j=>hmx j;have wz:∀{e:Event},e∈(#[⟨.cell ⟨s.Zb,k,none⟩,true,false⟩]:Array Event)->∀{y:Touch},(bJ e).touch?=some y->y=⟨ca s.Zb k,true,.plain⟩:=by
  intro e he y hy;simp at he;subst he;cases hy;rfl
 have mU:∀op∈aA i fn pos #[⟨.cell ⟨s.Zb,k,none⟩,true,false⟩],op.g=i:=fun op ho=>by obtain⟨e,_,rfl⟩:=gQ ho;rfl
 have cellS:∀off,(st.w.setCell ⟨s.Zb,k,none⟩ (s.zv k)).cell? ⟨s.Gb,off,none⟩=st.w.cell? ⟨s.Gb,off,none⟩:=fun off=>bX _ ⟨s.Zb,k,none⟩ ⟨s.Gb,off,none⟩ _ (by have:=c.ne.2.1;simp<;>omega);refine h.gen hA.sc hA.mem (γ':={st.γ with wk:=upd st.γ.wk i {x with zw:=true}}) rfl rfl (fun _=>.rfl) (fun e he y hy=>?_) (fun e he a=>?_) (fun _ e he y hy=>by rw[wz he hy];simp) (fun T=>T) (fun j hj l=>⟨id,id⟩) h.base.pool W.size (fun b=>?_) (by rw[W.os];exact .refl _) W.output (fun j hj=>upd_ne _ _ hj) (fun _=>⟨rfl,rfl⟩) (fun e=>absurd e hA.ne) (fun _=>?_) ?_ ?_ ?_ ?_ (fun _=>⟨cP (qT lH s),fun _=>rfl⟩) (fun j hj e=>⟨rfl,fun off _ _=>cellS off⟩) (.inl nle)
 ·rw[wz he hy];refine⟨.inr (.inl O8),fun b hb=>?_⟩;have hb:ij (ca s.Zb k)=some b:=hb;have:s.Zb=b:=by unfold ca ij at hb;simpa using hb
  rw[W.size];omega
 ·simp at he;subst he;simp
 ·by_cases e:b=s.Zb
  ·exact .inr (.inr (.inr (.inr (.inl e))))
  ·exact .inl (W.block b e)
 ·refine⟨(mg i).trans (fU fun e he=>?_).symm,by show(upd st.γ.wk i _ i).wg≠_;rw[lH,hA.me,hx];simp⟩;simp at he;subst he;simp
 ·exact{
   n0:=c.n0
   gb:=c.gb.of (W.block _ c.ne.2.1) rfl ⟨rfl,rfl,rfl,rfl⟩ rfl
   qL:=c.qL.of_block (W.block _ c.ne.2.2.2.1)
   zb:=c.zb.lay hkn hv fun j _ hj=>(V6 (s.n0+j) hj).imp id fun e=>by omega
   rb:=c.rb.block (W.block _ c.ne.2.2.2.2.2.symm) fun j _ hj=>(Ud (s.n0+j)).symm.trans hj
   ne:=c.ne
   mu:=by have:=c.mu;rw[<-hmm]at this;exact this
   D1:=c.D1
   work:=fun j hj=>c.work j ((hmx j).symm.trans hj)
   dn:=fun j hj=>c.dn j ((hmx j).symm.trans hj)
   syn:=fun j h0 hj=>c.syn j h0 ((oD j).symm.trans hj)
   new:=fun j hj=>by
    have hne:j≠i:=by have:=hA.lt;have hj:st.γ.num<=j:=hj;omega
    show upd st.γ.wk i _ j=_;rw[upd_ne _ _ hne];exact c.new j hj
   on:=fun j h1 h2=>by show(upd st.γ.wk i _ j).wg≠_;rw[lH];exact c.on j h1 h2
   fin:=fun j h1 h2 h3=>by
    have h2:(upd st.γ.wk i {x with zw:=true} j).wg≠ .idle:=h2;have h3:(upd st.γ.wk i {x with zw:=true} j).wg≠ .work:=h3;rw[lH]at h2 h3;obtain⟨a,b,d⟩:=c.fin j h1 h2 h3;exact⟨br4 j a,(Ud j).trans b,by have:=d;rw[<-hmx j]at this;exact this⟩
   all:=c.all
   sD:=by
    have w:=c.sD;rw[<-iq (γ':={st.γ with wk:=upd st.γ.wk i {x with zw:=true}}) lH s,<-iq (p:=(·== .d2)) (γ':={st.γ with wk:=upd st.γ.wk i {x with zw:=true}}) lH s,<-iq (p:=(·== .d3)) (γ':={st.γ with wk:=upd st.γ.wk i {x with zw:=true}}) lH s,<-iq (p:=(·== .d4)) (γ':={st.γ with wk:=upd st.γ.wk i {x with zw:=true}}) lH s]at w;exact w}
 ·refine⟨p.spec,fun k k1 k2 k3=>p.Hy k k1 k2 ((lH _).symm.trans k3),p.MH,p.KW,p.KU,fun j hj=>p.UO j ((hmx j).symm.trans hj),fun j h0 hj=>p.SP j h0 ((oD j).symm.trans hj),fun hn=>p.DX fun j hj=>hn j ((hmx j).trans hj)⟩
 ·refine t.app mU rfl rfl (fun hn j hj=>hn j ((hmx j).trans hj)) (fun j _ _ hw=>by rw[<-lH];exact hw) (fun op ho y hy=>?_) fun hn hw=>absurd (by rw[hA.me];exact hx) hw;obtain⟨e,he,rfl⟩:=gQ ho;rw[wz he hy];have:=c.ne.2.1
  refine⟨fun off _ _ e=>?_,fun e=>?_⟩
  ·unfold ca at e;simp at e<;>omega
  ·unfold ca at e;simp at e<;>omega
 ·unfold phi;rw[hmm];exact⟨aH _,fun _=>⟨rfl,rfl,rfl,rfl⟩,id⟩
variable{Ch:Nat->ah->St eD->Prop}
theorem TT.SE{P:au}(hP:q.P=P){g:ah}{st:St eD}(hA:At s i x st)(hx:x.wg=.work){k:Nat}(hk:i=s.n0+k)(hv:(∀a,s.zv k≠Value.agg a)/\∀a,s.zv k≠Value.tuple a)
  (h:∀dV,Rl i st dV->Inv q dV->At s i x dV->gL q s dV->∃g',stepG P (i==0) g dV.w=.go g' (dV.w.setCell ⟨s.Zb,k,none⟩ (s.zv k)) #[⟨.cell ⟨s.Zb,k,none⟩,true,false⟩]/\g'.status=.running/\
   ∀dY,At s i {x with zw:=true} dY->Inv q dY->(∀l,dV.γ.rd i l->dY.γ.rd i l)->(∀b,b≠s.Zb->dY.w.heap[b]?=dV.w.heap[b]?)->TT (cfg q) i Ch g' dY):TT (cfg q) i Ch g st:=by
 subst hP;refine TT.act fun dV hr hi=>?_;have dX:=hA.rely (by rw[hx];simp) hr hi;obtain⟨g',h1,h2,h3⟩:=h dV hr hi dX (hi.eZ s dX.sc).c;have k':=hi.SE dX hx hk hv g.frame.fn g.frame.place;exact⟨dX.nH (by rw[hx];simp),g',_,_,{dV.γ with wk:=upd dV.γ.wk i {x with zw:=true}},h1,h2,rfl,k',.inr (mE (by rfl) (by rfl) (by rfl) (by rfl) fun k hk=>by exact upd_ne _ _ hk),h3 _ (dX.next hi rfl rfl rfl (gF _ _ _) (fun _ h=>h) fun b _ _ a3 _=>(aside_setCell dV.w ⟨s.Zb,k,none⟩ (s.zv k)).block b a3) k'.1 (fun _ h=>h) fun b hb=>(aside_setCell dV.w ⟨s.Zb,k,none⟩ (s.zv k)).block b hb⟩
theorem Inv.Nz{st:St eD}(h:Inv q st)(hA:At s i x st)(hx:x.wg=.work){k:Nat}(hk:i=s.n0+k)(hv:(∀a,s.rv k≠Value.agg a)/\∀a,s.rv k≠Value.tuple a)(fn:ak)(pos:String):
  Inv q ⟨st.w.setCell ⟨s.Rb,k,none⟩ (s.rv k),st.t++aA i fn pos #[⟨.cell ⟨s.Rb,k,none⟩,true,false⟩],{st.γ with wk:=upd st.γ.wk i {x with rw:=true}}⟩/\
  ∀j,j≠i->Rl j st ⟨st.w.setCell ⟨s.Rb,k,none⟩ (s.rv k),st.t++aA i fn pos #[⟨.cell ⟨s.Rb,k,none⟩,true,false⟩],{st.γ with wk:=upd st.γ.wk i {x with rw:=true}}⟩:=by
 obtain⟨c,p,t⟩:=h.eZ s hA.sc;have A:=h.base.tr.FD;have hl:=c.OD;have hi2:=hA.hi h;have hkn:k<s.n:=by omega
 have O8:=(p.Hy k hkn (by rw[<-hk];exact hA.lt) (by rw[<-hk,hA.me];exact hx)).2;rw[<-hk]at O8;have W:=aside_setCell st.w ⟨s.Rb,k,none⟩ (s.rv k);have at_:∀j,upd st.γ.wk i {x with rw:=true} j=if j=i then{x with rw:=true}else st.γ.wk j:=fun j=>rfl;have hmx:∀j,(upd st.γ.wk i {x with rw:=true} j).mx=(st.γ.wk j).mx:=fun j=>by
  rw[at_];split
  ·rename_i e;subst e;rw[hA.me]
  ·rfl
 have lH:∀j,(upd st.γ.wk i {x with rw:=true} j).wg=(st.γ.wk j).wg:=fun j=>by
  rw[at_];split
  ·rename_i e;subst e;rw[hA.me]
  ·rfl
 have oD:∀j,(upd st.γ.wk i {x with rw:=true} j).syn=(st.γ.wk j).syn:=fun j=>by
  rw[at_];split
  ·rename_i e;subst e;rw[hA.me]
  ·rfl
 have hzq:∀j,(upd st.γ.wk i {x with rw:=true} j).zw=(st.γ.wk j).zw:=fun j=>by
  rw[at_];split
  ·rename_i e;subst e;rw[hA.me]
  ·rfl
 have hrq:∀j,(upd st.γ.wk i {x with rw:=true} j).rw=true->(st.γ.wk j).rw=true\/j=i:=fun j=>by
  rw[at_];split
  ·rename_i e;exact fun _=>.inr e
  ·exact .inl
 have bs7:∀j,(st.γ.wk j).rw=true->(upd st.γ.wk i {x with rw:=true} j).rw=true:=fun j h=>by
  rw[at_];split
  ·rfl
  ·exact h
 have mg:∀j,(upd st.γ.wk i {x with rw:=true} j).df=(st.γ.wk j).df:=fun j=>by
  rw[at_];split
  ·rename_i e;subst e;rw[hA.me]
  ·rfl
 have hmm:({st.γ with wk:=upd st.γ.wk i {x with rw:=true}}:eD).mm=st.γ.mm:=funext fun j=>hmx j;have wz:∀{e:Event},e∈(#[⟨.cell ⟨s.Rb,k,none⟩,true,false⟩]:Array Event)->∀{y:Touch},(bJ e).touch?=some y->y=⟨ca s.Rb k,true,.plain⟩:=by
  intro e he y hy;simp at he;subst he;cases hy;rfl
 have mU:∀op∈aA i fn pos #[⟨.cell ⟨s.Rb,k,none⟩,true,false⟩],op.g=i:=fun op ho=>by obtain⟨e,_,rfl⟩:=gQ ho;rfl
 have cellS:∀off,(st.w.setCell ⟨s.Rb,k,none⟩ (s.rv k)).cell? ⟨s.Gb,off,none⟩=st.w.cell? ⟨s.Gb,off,none⟩:=fun off=>bX _ ⟨s.Rb,k,none⟩ ⟨s.Gb,off,none⟩ _ (by have:=c.ne.2.2.1;simp<;>omega);refine h.gen hA.sc hA.mem (γ':={st.γ with wk:=upd st.γ.wk i {x with rw:=true}}) rfl rfl (fun _=>.rfl) (fun e he y hy=>?_) (fun e he a=>?_) (fun _ e he y hy=>by rw[wz he hy];simp) (fun T=>T) (fun j hj l=>⟨id,id⟩) h.base.pool W.size (fun b=>?_) (by rw[W.os];exact .refl _) W.output (fun j hj=>upd_ne _ _ hj) (fun _=>⟨rfl,rfl⟩) (fun e=>absurd e hA.ne) (fun _=>?_) ?_ ?_ ?_ ?_ (fun _=>⟨cP (qT lH s),fun _=>rfl⟩) (fun j hj e=>⟨rfl,fun off _ _=>cellS off⟩) (.inl nle)
 ·rw[wz he hy];refine⟨.inr (.inl O8),fun b hb=>?_⟩;have hb:ij (ca s.Rb k)=some b:=hb;have:s.Rb=b:=by unfold ca ij at hb;simpa using hb
  rw[W.size];omega
 ·simp at he;subst he;simp
 ·by_cases e:b=s.Rb
  ·exact .inr (.inr (.inr (.inr (.inr e))))
  ·exact .inl (W.block b e)
 ·refine⟨(mg i).trans (fU fun e he=>?_).symm,by show(upd st.γ.wk i _ i).wg≠_;rw[lH,hA.me,hx];simp⟩;simp at he;subst he;simp
 ·exact{
   n0:=c.n0
   gb:=c.gb.of (W.block _ c.ne.2.2.1) rfl ⟨rfl,rfl,rfl,rfl⟩ rfl
   qL:=c.qL.of_block (W.block _ c.ne.2.2.2.2.1)
   rb:=c.rb.lay hkn hv fun j _ hj=>(hrq (s.n0+j) hj).imp id fun e=>by omega
   zb:=c.zb.block (W.block _ c.ne.2.2.2.2.2) fun j _ hj=>(hzq (s.n0+j)).symm.trans hj
   ne:=c.ne
   mu:=by have:=c.mu;rw[<-hmm]at this;exact this
   D1:=c.D1
   work:=fun j hj=>c.work j ((hmx j).symm.trans hj)
   dn:=fun j hj=>c.dn j ((hmx j).symm.trans hj)
   syn:=fun j h0 hj=>c.syn j h0 ((oD j).symm.trans hj)
   new:=fun j hj=>by
    have hne:j≠i:=by have:=hA.lt;have hj:st.γ.num<=j:=hj;omega
    show upd st.γ.wk i _ j=_;rw[upd_ne _ _ hne];exact c.new j hj
   on:=fun j h1 h2=>by show(upd st.γ.wk i _ j).wg≠_;rw[lH];exact c.on j h1 h2
   fin:=fun j h1 h2 h3=>by
    have h2:(upd st.γ.wk i {x with rw:=true} j).wg≠ .idle:=h2;have h3:(upd st.γ.wk i {x with rw:=true} j).wg≠ .work:=h3;rw[lH]at h2 h3;obtain⟨a,b,d⟩:=c.fin j h1 h2 h3;exact⟨(hzq j).trans a,bs7 j b,by have:=d;rw[<-hmx j]at this;exact this⟩
   all:=c.all
   sD:=by
    have w:=c.sD;rw[<-iq (γ':={st.γ with wk:=upd st.γ.wk i {x with rw:=true}}) lH s,<-iq (p:=(·== .d2)) (γ':={st.γ with wk:=upd st.γ.wk i {x with rw:=true}}) lH s,<-iq (p:=(·== .d3)) (γ':={st.γ with wk:=upd st.γ.wk i {x with rw:=true}}) lH s,<-iq (p:=(·== .d4)) (γ':={st.γ with wk:=upd st.γ.wk i {x with rw:=true}}) lH s]at w;exact w}
 ·refine⟨p.spec,fun k k1 k2 k3=>p.Hy k k1 k2 ((lH _).symm.trans k3),p.MH,p.KW,p.KU,fun j hj=>p.UO j ((hmx j).symm.trans hj),fun j h0 hj=>p.SP j h0 ((oD j).symm.trans hj),fun hn=>p.DX fun j hj=>hn j ((hmx j).trans hj)⟩
 ·refine t.app mU rfl rfl (fun hn j hj=>hn j ((hmx j).trans hj)) (fun j _ _ hw=>by rw[<-lH];exact hw) (fun op ho y hy=>?_) fun hn hw=>absurd (by rw[hA.me];exact hx) hw;obtain⟨e,he,rfl⟩:=gQ ho;rw[wz he hy];have:=c.ne.2.2.1
  refine⟨fun off _ _ e=>?_,fun e=>?_⟩
  ·unfold ca at e;simp at e<;>omega
  ·unfold ca at e;simp at e<;>omega
 ·unfold phi;rw[hmm];exact⟨aH _,fun _=>⟨rfl,rfl,rfl,rfl⟩,id⟩
theorem TT.Nz{P:au}(hP:q.P=P){g:ah}{st:St eD}(hA:At s i x st)(hx:x.wg=.work){k:Nat}(hk:i=s.n0+k)(hv:(∀a,s.rv k≠Value.agg a)/\∀a,s.rv k≠Value.tuple a)
  (h:∀dV,Rl i st dV->Inv q dV->At s i x dV->gL q s dV->∃g',stepG P (i==0) g dV.w=.go g' (dV.w.setCell ⟨s.Rb,k,none⟩ (s.rv k)) #[⟨.cell ⟨s.Rb,k,none⟩,true,false⟩]/\g'.status=.running/\
   ∀dY,At s i {x with rw:=true} dY->Inv q dY->(∀l,dV.γ.rd i l->dY.γ.rd i l)->(∀b,b≠s.Rb->dY.w.heap[b]?=dV.w.heap[b]?)->TT (cfg q) i Ch g' dY):TT (cfg q) i Ch g st:=by
 subst hP;refine TT.act fun dV hr hi=>?_;have dX:=hA.rely (by rw[hx];simp) hr hi;obtain⟨g',h1,h2,h3⟩:=h dV hr hi dX (hi.eZ s dX.sc).c;have k':=hi.Nz dX hx hk hv g.frame.fn g.frame.place;exact⟨dX.nH (by rw[hx];simp),g',_,_,{dV.γ with wk:=upd dV.γ.wk i {x with rw:=true}},h1,h2,rfl,k',.inr (mE (by rfl) (by rfl) (by rfl) (by rfl) fun k hk=>by exact upd_ne _ _ hk),h3 _ (dX.next hi rfl rfl rfl (gF _ _ _) (fun _ h=>h) fun b _ _ _ a3=>(aside_setCell dV.w ⟨s.Rb,k,none⟩ (s.rv k)).block b a3) k'.1 (fun _ h=>h) fun b hb=>(aside_setCell dV.w ⟨s.Rb,k,none⟩ (s.rv k)).block b hb⟩
end
end
section
open Go.ConcR (KK wgBlock WgAt stA smA rd wr mk DC0)
open Go.ConcM (OsLater)
structure ni(s:eI)(mw:MW)(dm num:Nat)(K:List (Nat×Obj))(st:St eD):Prop where
 sc:st.γ.sc=some s
 mw:st.γ.mw=mw
 dm:st.γ.dm=dm
 num:st.γ.num=num
 fz:∀b o,(b,o)∈K->st.w.heap[b]?=some o/\((∀off,st.γ.ex 0 (ca b off))\/∀off,st.γ.rd 0 (ca b off))
 nd:∀b o,(b,o)∈K->¬st.γ.dead b
section
variable{q:iK}{s:eI}{mw:MW}{dm num:Nat}{K:List (Nat×Obj)}
theorem ni.rely{st dV:St eD}(h:ni s mw dm num K st)(hr:Rl 0 st dV):ni s mw dm num K dV:=by
 obtain⟨m1,m2,m3,m4⟩:=hr.main rfl;refine⟨(hr.sc (.inl rfl)).trans h.sc,m1.trans h.mw,m2.trans h.dm,m3.trans h.num,fun b o hb=>?_,fun b o hb hx=>h.nd b o hb ((m4 b).1 hx)⟩;obtain⟨h1,h2⟩:=h.fz b o hb;exact⟨(hr.blk (.inl rfl) b h2).trans h1,h2.imp (fun x off=>hr.ex (.inl rfl) _ (x off)) fun x off=>hr.rd (.inl rfl) _ (x off)⟩
theorem ni.apart{st:St eD}(h:ni s mw dm num K st)(hi:Inv q st){b:Nat}{o:Obj}(hb:(b,o)∈K):b≠s.Gb/\b≠s.Wg/\b≠s.Zb/\b≠s.Rb:=by
 have p:=(hi.eZ s h.sc).p.spec 0;have hr:=(h.fz b o hb).2;have key:∀b',(b'=s.Gb\/b'=s.Wg\/b'=s.Zb\/b'=s.Rb)->b≠b':=fun b' hb' e=>by
  obtain⟨⟨o1,h1⟩,o2,h2⟩:=p b' hb';rcases hr with hr|hr
  ·exact h1 (e ▸ hr o1)
  ·exact h2 (e ▸ hr o2)
 exact⟨key _ (.inl rfl),key _ (.inr (.inl rfl)),key _ (.inr (.inr (.inl rfl))),key _ (.inr (.inr (.inr rfl)))⟩
theorem ni.next{st dY:St eD}(h:ni s mw dm num K st)(hi:Inv q st){mw':MW}{dm':Nat}(hsc:dY.γ.sc=st.γ.sc)(zM:dY.γ.mw=mw')(hdm:dY.γ.dm=dm')(iC:dY.γ.num=st.γ.num)(hex:∀l,st.γ.ex 0 l->dY.γ.ex 0 l)(hrd:∀l,st.γ.rd 0 l->dY.γ.rd 0 l)(hdd:∀b,dY.γ.dead b->st.γ.dead b)(hb:∀b,b≠s.Gb->b≠s.Wg->b≠s.Zb->b≠s.Rb->b<st.w.heap.size->dY.w.heap[b]?=st.w.heap[b]?):ni s mw' dm' num K dY:=by
 refine⟨hsc.trans h.sc,zM,hdm,iC.trans h.num,fun b o Yk=>?_,fun b o Yk hx=>h.nd b o Yk (hdd b hx)⟩;obtain⟨a1,a2,a3,a4⟩:=h.apart hi Yk;obtain⟨h1,h2⟩:=h.fz b o Yk;exact⟨(hb b a1 a2 a3 a4 (lt_of_block h1)).trans h1,h2.imp (fun x off=>hex _ (x off)) fun x off=>hrd _ (x off)⟩
def EvM(s:eI)(e:Event):Prop:=(∃m,e.loc=.mark m/\(∀a,m≠ .release a)/\(∀a,m≠ .read a)/\∀a,m≠ .write a)\/(∃off y,e=⟨ca s.Wg off,y,true⟩/\off<2)\/∃off,off<2/\(e.loc=.mark (.read ⟨s.Wg,off,none⟩)\/e.loc=.mark (.write ⟨s.Wg,off,none⟩))
theorem Inv.L9{st:St eD}(h:Inv q st)(hs:st.γ.sc=some s){l8:MW}{gs₁ gJ:Nat}{es:Array Event}{w':ae}(hev:∀e∈es,EvM s e)(hsz:w'.heap.size=st.w.heap.size)(hb:∀b,b≠s.Wg->w'.heap[b]?=st.w.heap[b]?)(hos:OsLater st.w.os w'.os)(hout:w'.output=st.w.output)(hW:WgAt q.tW s.Wg w' gs₁ gJ)
  (zM:l8≠ .solo)(hall:l8=.wt\/l8=.rg\/l8=.lG->st.γ.num=s.n0+s.n)(hL:xh l8 (gj WG.cd st.γ s) (gj (·== .d2) st.γ s) (gj (·== .d3) st.γ s) (gj (·== .d4) st.γ s) gs₁ gJ)(fn:ak)(pos:String):
  Inv q ⟨w',st.t++aA 0 fn pos es,{st.γ with mw:=l8,dm:=deafBehind st.γ.dm es,gs:=gs₁,gm:=gJ}⟩/\∀j,j≠0->Rl j st ⟨w',st.t++aA 0 fn pos es,{st.γ with mw:=l8,dm:=deafBehind st.γ.dm es,gs:=gs₁,gm:=gJ}⟩:=by
 have X:=h.eZ s hs;have c:=X.c;have n0:=c.n0;refine h.act hs (.inl rfl) (γ':={st.γ with mw:=l8,dm:=deafBehind st.γ.dm es,gs:=gs₁,gm:=gJ}) ⟨rfl,rfl,rfl,rfl,rfl,rfl⟩ (fun e he=>?_) (fun e he=>?_) hsz (fun b _ hb'=>hb b hb') (fun off _ _=>cell_of (hb _ c.ne.1)) hos hout (fun _ _=>rfl) (fun e=>absurd rfl e) (fun _=>⟨rfl,rfl,zM⟩) (fun e=>absurd rfl e) ?_ ⟨X.p.spec,X.p.Hy,X.p.MH,X.p.KW,X.p.KU,X.p.UO,X.p.SP,X.p.DX⟩ rfl id (fun hw h0=>by omega) (fun h0 _=>by omega) ⟨aH _,fun _=>⟨rfl,rfl,rfl,rfl⟩⟩ (fun e=>absurd rfl e) (.inl nle)
 ·rcases hev e he with⟨m,h1,h2⟩|⟨off,y,rfl,ho⟩|⟨off,ho,hm⟩
  ·exact .inr (.inl ⟨m,h1,h2⟩)
  ·exact .inl ⟨_,_,_,rfl,.inr ⟨rfl,ho⟩⟩
  ·exact .inr (.inr ⟨rfl,off,ho,hm⟩)
 ·intro e';rcases hev e he with⟨m,h1,_⟩|⟨off,y,h1,ho⟩|⟨off,ho,hm|hm⟩
  ·rw[e']at h1;unfold ca at h1;cases h1
  ·rw[e']at h1;have:s.Gb=s.Wg:=by unfold ca at h1;simp at h1<;>exact h1.1.1
   exact c.ne.1 this
  ·rw[e']at hm;unfold ca at hm;cases hm
  ·rw[e']at hm;unfold ca at hm;cases hm
 ·exact{
   n0:=c.n0
   gb:=c.gb.of (hb _ c.ne.1) rfl ⟨rfl,rfl,rfl,rfl⟩ rfl
   qL:=hW
   zb:=c.zb.block (hb _ c.ne.2.2.2.1.symm) fun _ _ h=>h
   rb:=c.rb.block (hb _ c.ne.2.2.2.2.1.symm) fun _ _ h=>h
   ne:=c.ne
   mu:=c.mu
   D1:=c.D1
   work:=c.work
   dn:=c.dn
   syn:=c.syn
   new:=c.new
   on:=c.on
   fin:=c.fin
   all:=hall
   sD:=hL}
variable{Ch:Nat->ah->St eD->Prop}
theorem TT.L9{P:au}(hP:q.P=P){g:ah}{st:St eD}(hA:ni s mw dm num K st)
  (h:∀dV,ni s mw dm num K dV->Inv q dV->gL q s dV->pI dV.γ s<=pI st.γ s->(pI dV.γ s=pI st.γ s->dV.γ.gs=st.γ.gs)->∃g' w' es l8 gs₁ gJ,stepG P (0==0) g dV.w=.go g' w' es/\g'.status=.running/\(∀e∈es,EvM s e)/\(w'.heap.size=dV.w.heap.size/\(∀b,b≠s.Wg->w'.heap[b]?=dV.w.heap[b]?)/\OsLater dV.w.os w'.os/\w'.output=dV.w.output)/\WgAt q.tW s.Wg w' (gs₁:Nat) (gJ:Nat)/\
   l8≠ .solo/\(l8=.wt\/l8=.rg\/l8=.lG->num=s.n0+s.n)/\xh l8 (gj WG.cd dV.γ s) (gj (·== .d2) dV.γ s) (gj (·== .d3) dV.γ s) (gj (·== .d4) dV.γ s) gs₁ gJ/\
   ∀dY,ni s l8 (deafBehind dm es) num K dY->Inv q dY->dY.γ.gs=gs₁->pI dY.γ s=pI dV.γ s->TT (cfg q) 0 Ch g' dY):TT (cfg q) 0 Ch g st:=by
 subst hP;refine TT.act fun dV hr' hi=>?_;have dX:=hA.rely hr';obtain⟨p1,p2⟩:=hr'.pI rfl s hA.sc;obtain⟨g',w',es,l8,gs₁,gJ,h1,h2,h3,h4,h5,h6,h7,h8,h9⟩:=h dV dX hi (hi.eZ s dX.sc).c p1 p2;have k:=hi.L9 dX.sc h3 h4.1 h4.2.1 h4.2.2.1 h4.2.2.2 h5 h6 (by rw[dX.num];exact h7) h8 g.frame.fn g.frame.place;refine⟨fun hl=>hl.1 rfl,g',w',es,{dV.γ with mw:=l8,dm:=deafBehind dV.γ.dm es,gs:=gs₁,gm:=gJ},h1,h2,rfl,k,.inr fun k hk hw=>?_,h9 _ (dX.next hi rfl rfl (by show deafBehind dV.γ.dm es=_;rw[dX.dm]) rfl (fun _ h=>h) (fun _ h=>h) (fun _ h=>h) fun b _ hb _ _ _=>h4.2.1 b hb) k.1 rfl rfl⟩;obtain⟨w1,w2⟩:=hw;exact⟨w1,w2.imp (fun⟨a,_⟩=>absurd a hk) id⟩
end
end
end Cc
end Go.Proofs.Ytpfpokjaeffbjaa
