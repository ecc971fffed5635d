/- Part of the proof: Mn2, Mn3, Mn4, Mn5, Mn6, Shadow, VisR, VisM, Go, ShK, AgH, AgB, Plain, Field. -/
import Derived.Test.YtpfpokjaeffbjaaHh0
import Derived.Test.YtpfpokjaeffbjaaHh4
import Derived.Test.YtpfpokjaeffbjaaHh3
import Derived.Test.YtpfpokjaeffbjaaHh1
import Derived.Test.YtpfpokjaeffbjaaProg
import Derived.WalkKit
import Derived.WalkSpells
import Derived.WalkLawsBesides
import Derived.Test.YtpfpokjaeffbjaaRows
import Derived.Lib.Hide
import Derived.Deep.QuietTactic
import Derived.BigQuiet
set_option linter.unusedVariables false
set_option linter.unusedSimpArgs false
set_option maxRecDepth 100000
set_option maxHeartbeats 16000000
open Go.Trace renaming g?→cX
open Nat renaming lt_or_ge→bA,le_refl→aH,le_trans→aY,lt_of_lt_of_le→bU
open Go.MemOp renaming ofEvents→aA
open Array renaming getElem?_eq_getElem→aI,getElem?_extract→dK,mem_of_getElem?→bH
open Go.Frame renaming enter→bQ
open Option renaming map_some→cJ
open Int renaming mul_emod→dA,emod_emod_of_dvd→cM
open Go.BinOp renaming and→aZ
open Go.Proofs.Try renaming prog→dS
namespace Go.Proofs.Ytpfpokjaeffbjaa
open Go renaming World→ae,Value→af,Goroutine→ah,Frame→ai,TypeId→aj,FuncId→ak,Program→au,undef→av,execOp→ax
open Go.Lib renaming hid→ay
namespace Cc
open Go.Conc Go.ConcN
open Go.ConcR (KK wgBlock WgAt stA smA rd wr mk DC0)
section
open Go.ConcM (OsLater)
def xh(γ:eH)(s:eJ)(k:Nat)(F:Nat->Prop):Nat->Loc->Prop:=fun g l=>(γ.ex g l/\¬(g=0/\(l=ca s.Zb k\/l=ca s.Rb k\/∃b,F b/\im l=some b)))\/(g=γ.num/\(l=ca s.Zb k\/l=ca s.Rb k))
def xg(γ:eH)(s:eJ)(F Fr:Nat->Prop):Nat->Loc->Prop:=fun g l=>γ.rd g l\/((g=0\/g=γ.num)/\∃b off,(F b\/Fr b)/\l=ca b off)\/(g=γ.num/\∃off,off<3/\l=ca s.Gb off)
def xf(γ:eH):Nat->Loc->Prop:=fun g l=>γ.sh g l\/(g=γ.num/\γ.sh 0 l)
theorem iC{b b' o o':Nat}(h:ca b o=ca b' o'):b=b'/\o=o':=by unfold ca at h;simpa using h
section
variable{q:iU}{s:eJ}{k:Nat}{F Fr:Nat->Prop}{keep:List (Nat×Obj)}
theorem Inv.fork{st:St eH}(h:Inv q st)(hs:st.γ.sc=some s)(zR:st.γ.mw=.ad)(hdm:st.γ.dm=0)(hk:st.γ.num=s.n0+k)(hkn:k<s.n)(hF:∀b,F b->∀off,st.γ.ex 0 (ca b off))(ZG:∀b,Fr b->∀off,st.γ.rd 0 (ca b off)){x y:MemOp}(hx:x.g=0/\x.act=.go st.γ.num)(hy:y.g=st.γ.num/\y.act=.start):
  Inv q ⟨st.w,st.t++#[x,y],{st.γ with num:=st.γ.num+1,mw:=.sp,wk:=upd st.γ.wk st.γ.num {mx:=.fresh,zw:=false,rw:=false,syn:=false,wg:=.work,df:=0,keep:=keep},ex:=xh st.γ s k F,rd:=xg st.γ s F Fr,sh:=xf st.γ}⟩/\∀j,j≠0->j<st.γ.num->Rl j st ⟨st.w,st.t++#[x,y],{st.γ with num:=st.γ.num+1,mw:=.sp,wk:=upd st.γ.wk st.γ.num {mx:=.fresh,zw:=false,rw:=false,syn:=false,wg:=.work,df:=0,keep:=keep},ex:=xh st.γ s k F,rd:=xg st.γ s F Fr,sh:=xf st.γ}⟩:=by
 obtain⟨c,p,T⟩:=h.eX s hs;have A:=h.base.tr.FI;have n0:=c.n0;have pos:=h.base.pos;have hl:=c.NY;have pool:=h.base.pool;have aX9:=p.L6 k hkn (by omega);have PI:∀b,F b\/Fr b->b≠s.Gb/\b≠s.Wg/\b≠s.Zb/\b≠s.Rb:=fun b hb=>by
  have key:∀b',(b'=s.Gb\/b'=s.Wg\/b'=s.Zb\/b'=s.Rb)->b≠b':=fun b' hb' e=>by
   obtain⟨⟨o1,h1⟩,o2,h2⟩:=p.spec 0 b' hb';rcases hb with hb|hb
   ·exact h1 (e ▸ hF b hb o1)
   ·exact h2 (e ▸ ZG b hb o2)
  exact⟨key _ (.inl rfl),key _ (.inr (.inl rfl)),key _ (.inr (.inr (.inl rfl))),key _ (.inr (.inr (.inr rfl)))⟩
 have exn:∀l,¬st.γ.ex st.γ.num l:=fun l hl=>by have:=pool _ l (.inl hl);omega
 have rdn:∀l,¬st.γ.rd st.γ.num l:=fun l hl=>by have:=pool _ l (.inr (.inl hl));omega
 have shn:∀l,¬st.γ.sh st.γ.num l:=fun l hl=>by have:=pool _ l (.inr (.inr hl));omega
 have R5:=p.KI 0 (.inl rfl);have Lp:∀l,(l=ca s.Zb k\/l=ca s.Rb k)->st.γ.ex 0 l:=fun l hl=>by rcases hl with rfl|rfl;exact aX9.1;exact aX9.2
 have A':Mt st.w.heap.size (xh st.γ s k F) (xg st.γ s F Fr) (xf st.γ):=by
  refine⟨fun g g' l h1 h2=>?_,fun g g' l h1 h2=>?_,fun g g' l h1 h2=>?_,fun g g' l h1 h2=>?_,fun g l h1 b hb=>?_,fun g l h1 b hb=>?_,fun g l h1 b hb=>?_,fun g l h1=>?_⟩
  ·rcases h1 with⟨h1,n1⟩|⟨rfl,h1⟩<;>rcases h2 with⟨h2,n2⟩|⟨rfl,h2⟩
   ·exact A.ee _ _ _ h1 h2
   ·have:=A.ee _ _ _ h1 (Lp l h2)
    exact absurd ⟨this,h2.imp id .inl⟩ n1
   ·have:=A.ee _ _ _ h2 (Lp l h1)
    exact absurd ⟨this,h1.imp id .inl⟩ n2
   ·rfl
  ·rcases h1 with⟨h1,n1⟩|⟨rfl,h1⟩
   ·rcases h2 with h2|⟨_,b,off,hb,rfl⟩|⟨_,off,ho,rfl⟩
    ·exact A.er _ _ _ h1 h2
    ·rcases hb with hb|hb
     ·exact n1 ⟨A.ee _ _ _ h1 (hF b hb off),.inr (.inr ⟨b,hb,rfl⟩)⟩
     ·exact A.er _ _ _ h1 (ZG b hb off)
    ·exact A.er _ _ _ h1 (R5 off ho)
   ·have e0:=Lp l h1;rcases h2 with h2|⟨_,b,off,hb,rfl⟩|⟨_,off,ho,rfl⟩
    ·exact A.er _ _ _ e0 h2
    ·have:=PI b hb
     rcases h1 with h1|h1
     ·exact this.2.2.1 (iC h1).1
     ·exact this.2.2.2 (iC h1).1
    ·exact A.er _ _ _ e0 (R5 off ho)
  ·have e:st.γ.ex g l\/st.γ.ex 0 l:=by
    rcases h1 with⟨h1,_⟩|⟨_,h1⟩
    ·exact .inl h1
    ·exact .inr (Lp l h1)
   have f:st.γ.sh g' l\/st.γ.sh 0 l:=by
    rcases h2 with h2|⟨_,h2⟩
    ·exact .inl h2
    ·exact .inr h2
   rcases e with e|e<;>rcases f with f|f<;>exact A.es _ _ _ e f
  ·have f:st.γ.sh g' l\/st.γ.sh 0 l:=by
    rcases h2 with h2|⟨_,h2⟩
    ·exact .inl h2
    ·exact .inr h2
   rcases h1 with h1|⟨_,b,off,hb,rfl⟩|⟨_,off,ho,rfl⟩
   ·rcases f with f|f<;>exact A.rs _ _ _ h1 f
   ·rcases hb with hb|hb
    ·rcases f with f|f<;>exact A.es _ _ _ (hF b hb off) f
    ·rcases f with f|f<;>exact A.rs _ _ _ (ZG b hb off) f
   ·rcases f with f|f<;>exact A.rs _ _ _ (R5 off ho) f
  ·rcases h1 with⟨h1,_⟩|⟨_,h1⟩
   ·exact A.low _ _ h1 b hb
   ·exact A.low _ _ (Lp l h1) b hb
  ·rcases h1 with h1|⟨_,b',off,hb',rfl⟩|⟨_,off,ho,rfl⟩
   ·exact A.xO _ _ h1 b hb
   ·rcases hb' with hb'|hb'
    ·exact A.low _ _ (hF b' hb' off) b hb
    ·exact A.xO _ _ (ZG b' hb' off) b hb
   ·exact A.xO _ _ (R5 off ho) b hb
  ·rcases h1 with h1|⟨_,h1⟩
   ·exact A.slow _ _ h1 b hb
   ·exact A.slow _ _ h1 b hb
  ·rcases h1 with h1|h1|h1
   ·rcases h1 with⟨h1,_⟩|⟨_,h1⟩
    ·exact A.mem _ _ (.inl h1)
    ·exact A.mem _ _ (.inl (Lp l h1))
   ·rcases h1 with h1|⟨_,b',off,hb',rfl⟩|⟨_,off,ho,rfl⟩
    ·exact A.mem _ _ (.inr (.inl h1))
    ·rfl
    ·rfl
   ·rcases h1 with h1|⟨_,h1⟩
    ·exact A.mem _ _ (.inr (.inr h1))
    ·exact A.mem _ _ (.inr (.inr h1))
 have hd0:Deaf st.t 0=0:=by rw[h.base.XX,hdm]
 have htr:FJ (st.t++#[x,y]) (st.γ.num+1) st.w.heap.size (xh st.γ s k F) (xg st.γ s F Fr) (xf st.γ):=by
  refine h.base.tr.fork pos hx hy hd0 A' (fun g l hl=>?_) (fun g l hl=>?_) fun g l hl=>?_
  ·split
   ·rename_i e;rcases hl with⟨hl,_⟩|⟨_,hl⟩
    ·rw[e]at hl;exact absurd hl (exn l)
    ·exact Lp l hl
   ·rename_i e;rcases hl with⟨hl,_⟩|⟨hl,_⟩
    ·exact hl
    ·exact absurd hl e
  ·split
   ·rename_i e;rcases hl with hl|⟨_,b,off,hb,rfl⟩|⟨_,off,ho,rfl⟩
    ·rw[e]at hl;exact absurd hl (rdn l)
    ·rcases hb with hb|hb
     ·exact .inr (hF b hb off)
     ·exact .inl (ZG b hb off)
    ·exact .inl (R5 off ho)
   ·rename_i e;rcases hl with hl|⟨hg,b,off,hb,rfl⟩|⟨hg,off,ho,rfl⟩
    ·exact .inl hl
    ·rcases hg with rfl|hg
     ·rcases hb with hb|hb
      ·exact .inr (hF b hb off)
      ·exact .inl (ZG b hb off)
     ·exact absurd hg e
    ·exact absurd hg e
  ·split
   ·rename_i e;rcases hl with hl|⟨_,hl⟩
    ·rw[e]at hl;exact absurd hl (shn l)
    ·exact hl
   ·rename_i e;rcases hl with hl|⟨hl,_⟩
    ·exact hl
    ·exact absurd hl e
 have nt:∀op∈#[x,y],op.act.touch?=none:=by
  intro op ho;simp at ho;rcases ho with rfl|rfl
  ·rw[hx.2];rfl
  ·rw[hy.2];rfl
 have told:∀{i:Nat} {a:Touch},touchAt (st.t++#[x,y]) i=some a->i<st.t.size/\touchAt st.t i=some a:=by
  intro i a ha;rcases gQ ha with h1|⟨_,op,hop,_,vV⟩
  ·exact h1
  ·rw[nt op hop]at vV;cases vV
 have Ar:∀{i g:Nat},i<st.t.size->((st.t++#[x,y]).g? i=some g↔st.t.g? i=some g):=fun hi=>by simp only[cX,getElem?_append_old hi]
 have deaf:∀j,Deaf (st.t++#[x,y]) j=Deaf st.t j:=fun j=>by
  have e:#[x,y]=([x,y]:List MemOp).toArray:=rfl;rw[e,Deaf_append];simp[deafStep,hx.2,hy.2]
 have KX:∀j,j≠st.γ.num->upd st.γ.wk st.γ.num {mx:=.fresh,zw:=false,rw:=false,syn:=false,wg:=.work,df:=0,keep:=keep} j=st.γ.wk j:=fun j hj=>upd_ne _ _ hj;have Vl:upd st.γ.wk st.γ.num {mx:=.fresh,zw:=false,rw:=false,syn:=false,wg:=.work,df:=0,keep:=keep} st.γ.num={mx:=.fresh,zw:=false,rw:=false,syn:=false,wg:=.work,df:=0,keep:=keep}:=gB _ _ _;have new:=c.new st.γ.num nle;have hmx:∀j,(upd st.γ.wk st.γ.num {mx:=.fresh,zw:=false,rw:=false,syn:=false,wg:=.work,df:=0,keep:=keep} j).mx=(st.γ.wk j).mx:=fun j=>by
  by_cases e:j=st.γ.num
  ·rw[e,Vl,new];rfl
  ·rw[KX j e]
 have oC:∀j,(upd st.γ.wk st.γ.num {mx:=.fresh,zw:=false,rw:=false,syn:=false,wg:=.work,df:=0,keep:=keep} j).syn=(st.γ.wk j).syn:=fun j=>by
  by_cases e:j=st.γ.num
  ·rw[e,Vl,new];rfl
  ·rw[KX j e]
 have hmm:({st.γ with num:=st.γ.num+1,mw:=.sp,wk:=upd st.γ.wk st.γ.num {mx:=.fresh,zw:=false,rw:=false,syn:=false,wg:=.work,df:=0,keep:=keep},ex:=xh st.γ s k F,rd:=xg st.γ s F Fr,sh:=xf st.γ}:eH).mm=st.γ.mm:=funext fun j=>hmx j;have hold:st.γ.old=s.n0:=by unfold eH.old;rw[hs]
 have hold':({st.γ with num:=st.γ.num+1,mw:=.sp,wk:=upd st.γ.wk st.γ.num {mx:=.fresh,zw:=false,rw:=false,syn:=false,wg:=.work,df:=0,keep:=keep},ex:=xh st.γ s k F,rd:=xg st.γ s F Fr,sh:=xf st.γ}:eH).old=s.n0:=by unfold eH.old;rw[hs]
 have cnt:∀(p:WG->Bool),p .idle=false->gi p {st.γ with num:=st.γ.num+1,mw:=.sp,wk:=upd st.γ.wk st.γ.num {mx:=.fresh,zw:=false,rw:=false,syn:=false,wg:=.work,df:=0,keep:=keep},ex:=xh st.γ s k F,rd:=xg st.γ s F Fr,sh:=xf st.γ} s=gi p st.γ s+if p .work=true then 1 else 0:=fun p hp=>by
  have:=Ko (p:=p) (γ:=st.γ) (γ':={st.γ with num:=st.γ.num+1,mw:=.sp,wk:=upd st.γ.wk st.γ.num {mx:=.fresh,zw:=false,rw:=false,syn:=false,wg:=.work,df:=0,keep:=keep},ex:=xh st.γ s k F,rd:=xg st.γ s F Fr,sh:=xf st.γ}) (s:=s) (i:=st.γ.num) (by omega) (by omega) (fun j hj=>congrArg Wk.wg (KX j hj))
  rw[new,show({st.γ with num:=st.γ.num+1,mw:=.sp,wk:=upd st.γ.wk st.γ.num {mx:=.fresh,zw:=false,rw:=false,syn:=false,wg:=.work,df:=0,keep:=keep},ex:=xh st.γ s k F,rd:=xg st.γ s F Fr,sh:=xf st.γ}:eH).wk st.γ.num=_ from Vl]at this;simp only[Wk.new,hp]at this;simpa using this
 refine⟨⟨⟨by show 0<st.γ.num+1;omega,htr,h.base.JU,(deaf 0).trans h.base.XX,fun j hj jT=>?_,fun j hj=>?_,h.base.os,h.base.out,fun j hj jT=>?_,h.base.dead,fun i a ha hm=>?_,fun i g hg hne hlt hc=>?_,fun g l hl=>?_,fun j hj=>?_,fun j hj=>?_,fun i a ha hk'=>?_,h.base.dsc⟩,?_,fun s' hs'=>?_⟩,fun j hj jT=>?_⟩
 ·show Deaf (st.t++#[x,y]) j=(upd st.γ.wk st.γ.num _ j).df;rw[deaf j];have jT:j<st.γ.num+1:=jT;by_cases e:j=st.γ.num
  ·rw[e,Vl];exact Deaf_absent fun i op hi e'=>by have:=h.base.tr.gs i op hi;omega
  ·rw[KX j e];exact h.base.OC j hj (by omega)
 ·have hj:(upd st.γ.wk st.γ.num {mx:=.fresh,zw:=false,rw:=false,syn:=false,wg:=.work,df:=0,keep:=keep} j).wg=.gone:=hj;show j≠0/\j<st.γ.num+1/\(upd st.γ.wk st.γ.num _ j).df=0;by_cases e:j=st.γ.num
  ·rw[e,Vl]at hj;cases hj
  ·rw[KX j e]at hj ⊢;obtain⟨a,b,d⟩:=h.base.gone j hj;exact⟨a,by omega,d⟩
 ·replace jT:j<({st.γ with num:=st.γ.num+1,mw:=.sp,wk:=upd st.γ.wk st.γ.num {mx:=.fresh,zw:=false,rw:=false,syn:=false,wg:=.work,df:=0,keep:=keep},ex:=xh st.γ s k F,rd:=xg st.γ s F Fr,sh:=xf st.γ}:eH).old:=jT;rw[hold']at jT;show(upd st.γ.wk st.γ.num _ j).wg=.lv\/(upd st.γ.wk st.γ.num _ j).wg=.gone;rw[KX j (by omega)];exact h.base.old j hj (by rw[hold];exact jT)
 ·obtain⟨hlt,ha'⟩:=told ha;show(∃b,im a.loc=some b/\st.γ.dead b)\/Knows (st.t++#[x,y]) 0 i\/∃g,(st.t++#[x,y]).g? i=some g/\({st.γ with num:=st.γ.num+1,mw:=.sp,wk:=upd st.γ.wk st.γ.num {mx:=.fresh,zw:=false,rw:=false,syn:=false,wg:=.work,df:=0,keep:=keep},ex:=xh st.γ s k F,rd:=xg st.γ s F Fr,sh:=xf st.γ}:eH).old<=g;rw[hold'];rcases h.base.know i a ha' hm with h1|h1|⟨g,h1,h2⟩
  ·exact .inl h1
  ·exact .inr (.inl (h1.app _))
  ·exact .inr (.inr ⟨g,(Ar hlt).2 h1,by rw[hold]at h2;exact h2⟩)
 ·replace hlt:g<({st.γ with num:=st.γ.num+1,mw:=.sp,wk:=upd st.γ.wk st.γ.num {mx:=.fresh,zw:=false,rw:=false,syn:=false,wg:=.work,df:=0,keep:=keep},ex:=xh st.γ s k F,rd:=xg st.γ s F Fr,sh:=xf st.γ}:eH).old:=hlt;rw[hold']at hlt;have hc:(st.t++#[x,y]).counts i:=hc;rcases bA i st.t.size with hi|hi
  ·obtain⟨j,h1,h2⟩:=h.base.ho i g ((Ar hi).1 hg) hne (by rw[hold];exact hlt) (by rw[counts_old hi]at hc;exact hc);have hj:j<st.t.size:=by
    unfold cX at h1;obtain⟨op,ho,_⟩:=Option.map_eq_some_iff.1 h1;exact lt_size_of_getElem? ho
   exact⟨j,(Ar hj).2 h1,hb_app _ h2⟩
  ·exact absurd hc (kJ nt hi).1
 ·show g<st.γ.num+1;rcases hl with(⟨hl,_⟩|⟨hl,_⟩)|(hl|⟨hg,_⟩|⟨hl,_⟩)|(hl|⟨hl,_⟩)
  ·have:=pool g l (.inl hl);omega
  ·omega
  ·have:=pool g l (.inr (.inl hl));omega
  ·rcases hg with rfl|hg<;>omega
  ·omega
  ·have:=pool g l (.inr (.inr hl));omega
  ·omega
 ·replace hj:j<({st.γ with num:=st.γ.num+1,mw:=.sp,wk:=upd st.γ.wk st.γ.num {mx:=.fresh,zw:=false,rw:=false,syn:=false,wg:=.work,df:=0,keep:=keep},ex:=xh st.γ s k F,rd:=xg st.γ s F Fr,sh:=xf st.γ}:eH).old:=hj;rw[hold']at hj;show(upd st.γ.wk st.γ.num _ j).mx=.fresh\/(upd st.γ.wk st.γ.num _ j).mx=.out;rw[hmx];exact h.base.Sp j (by rw[hold];exact hj)
 ·have hj:st.γ.num+1<=j:=hj;exact(KX j (by omega)).trans (h.base.nw j (by omega))
 ·obtain⟨hlt,ha'⟩:=told ha;exact(Ar hlt).2 (h.base.said i a ha' hk')
 ·show st.γ.sc=none↔MW.sp=.solo;rw[hs];simp
 ·have hs':st.γ.sc=some s':=hs';rw[hs]at hs';cases hs';refine⟨?_,?_,?_⟩
  ·exact{
    n0:=⟨n0.1,by show s.n0<=st.γ.num+1;omega,by show st.γ.num+1<=_;omega,n0.2.2.2⟩
    gb:=c.gb
    qO:=c.qO
    zb:=c.zb.block rfl fun k' _ hf=>by
     have hf:(upd st.γ.wk st.γ.num {mx:=.fresh,zw:=false,rw:=false,syn:=false,wg:=.work,df:=0,keep:=keep} (s.n0+k')).zw=true:=hf;by_cases e:s.n0+k'=st.γ.num
     ·rw[e,Vl]at hf;cases hf
     ·rw[KX _ e]at hf;exact hf
    rb:=c.rb.block rfl fun k' _ hf=>by
     have hf:(upd st.γ.wk st.γ.num {mx:=.fresh,zw:=false,rw:=false,syn:=false,wg:=.work,df:=0,keep:=keep} (s.n0+k')).rw=true:=hf;by_cases e:s.n0+k'=st.γ.num
     ·rw[e,Vl]at hf;cases hf
     ·rw[KX _ e]at hf;exact hf
    ne:=c.ne
    mu:=by have:=c.mu;rw[<-hmm]at this;exact this
    D1:=c.D1
    work:=fun j hj=>c.work j ((hmx j).symm.trans hj)
    dn:=fun j hj=>c.dn j ((hmx j).symm.trans hj)
    syn:=fun j h0 hj=>c.syn j h0 ((oC j).symm.trans hj)
    new:=fun j hj=>by
     have hj:st.γ.num+1<=j:=hj;exact(KX j (by omega)).trans (c.new j (by omega))
    on:=fun j h1 h2=>by
     have h2:j<st.γ.num+1:=h2;show(upd st.γ.wk st.γ.num _ j).wg≠_;by_cases e:j=st.γ.num
     ·rw[e,Vl];simp
     ·rw[KX j e];exact c.on j h1 (by omega)
    fin:=fun j h1 h2 h3=>by
     have h2:(upd st.γ.wk st.γ.num {mx:=.fresh,zw:=false,rw:=false,syn:=false,wg:=.work,df:=0,keep:=keep} j).wg≠ .idle:=h2;have h3:(upd st.γ.wk st.γ.num {mx:=.fresh,zw:=false,rw:=false,syn:=false,wg:=.work,df:=0,keep:=keep} j).wg≠ .work:=h3;show(upd st.γ.wk st.γ.num {mx:=.fresh,zw:=false,rw:=false,syn:=false,wg:=.work,df:=0,keep:=keep} j).zw=true/\(upd st.γ.wk st.γ.num {mx:=.fresh,zw:=false,rw:=false,syn:=false,wg:=.work,df:=0,keep:=keep} j).rw=true/\((upd st.γ.wk st.γ.num {mx:=.fresh,zw:=false,rw:=false,syn:=false,wg:=.work,df:=0,keep:=keep} j).mx=.fresh\/(upd st.γ.wk st.γ.num {mx:=.fresh,zw:=false,rw:=false,syn:=false,wg:=.work,df:=0,keep:=keep} j).mx=.out);by_cases e:j=st.γ.num
     ·rw[e,Vl]at h3;exact absurd rfl h3
     ·rw[KX j e]at h2 h3 ⊢;exact c.fin j h1 h2 h3
    all:=fun hm=>by
     have hm:MW.sp=.wt\/MW.sp=.rg\/MW.sp=.lR:=hm;simp at hm
    sK:=by
     have w:=c.sK;rw[zR]at w;show xt .sp (gi WG.cd _ s) (gi (·== .d2) _ s) (gi (·== .d3) _ s) (gi (·== .d4) _ s) st.γ.gs st.γ.gm;rw[cnt WG.cd rfl,cnt (·== .d2) rfl,cnt (·== .d3) rfl,cnt (·== .d4) rfl];simp only[xt]at w ⊢;simp[WG.cd];exact w}
  ·refine⟨fun g b hb=>?_,fun k' k1 k2 k3=>?_,fun k' k1 k2=>?_,fun g hg off ho=>?_,fun g hg=>?_,fun j hj off o1 o2=>?_,fun j h0 hj off o1 o2=>.inl (p.R4 j h0 ((oC j).symm.trans hj) off o1 o2),fun hn g off o1 o2=>?_⟩
   ·obtain⟨⟨o1,h1⟩,o2,h2⟩:=p.spec g b hb;by_cases e:g=st.γ.num
    ·subst e;refine⟨⟨k+1,fun hx=>?_⟩,3,fun hx=>?_⟩
     ·rcases hx with⟨hx,_⟩|⟨_,hx|hx⟩
      ·exact exn _ hx
      ·have:=(iC hx).2;omega
      ·have:=(iC hx).2;omega
     ·rcases hx with hx|⟨_,b',off,hb',e⟩|⟨_,off,ho,e⟩
      ·exact rdn _ hx
      ·have:=PI b' hb'
       rw[(iC e).1]at hb;rcases hb with hb|hb|hb|hb
       ·exact this.1 hb
       ·exact this.2.1 hb
       ·exact this.2.2.1 hb
       ·exact this.2.2.2 hb
      ·have:=(iC e).2;omega
    ·refine⟨⟨o1,fun hx=>?_⟩,o2,fun hx=>?_⟩
     ·rcases hx with⟨hx,_⟩|⟨hx,_⟩
      ·exact h1 hx
      ·exact e hx
     ·rcases hx with hx|⟨_,b',off,hb',e'⟩|⟨hx,_⟩
      ·exact h2 hx
      ·have:=PI b' hb'
       rw[(iC e').1]at hb;rcases hb with hb|hb|hb|hb
       ·exact this.1 hb
       ·exact this.2.1 hb
       ·exact this.2.2.1 hb
       ·exact this.2.2.2 hb
      ·exact e hx
   ·have k2:s.n0+k'<st.γ.num+1:=k2;have k3:(upd st.γ.wk st.γ.num {mx:=.fresh,zw:=false,rw:=false,syn:=false,wg:=.work,df:=0,keep:=keep} (s.n0+k')).wg=.work:=k3;by_cases e:s.n0+k'=st.γ.num
    ·have:k'=k:=by omega
     subst this;exact⟨.inr ⟨e,.inl rfl⟩,.inr ⟨e,.inr rfl⟩⟩
    ·rw[KX _ e]at k3;obtain⟨a,b⟩:=p.Hs k' k1 (by omega) k3;exact⟨.inl ⟨a,fun h0=>by have:=h0.1;omega⟩,.inl ⟨b,fun h0=>by have:=h0.1;omega⟩⟩
   ·have k2:st.γ.num+1<=s.n0+k':=k2;obtain⟨a,b⟩:=p.L6 k' k1 (by omega);refine⟨.inl ⟨a,fun h0=>?_⟩,.inl ⟨b,fun h0=>?_⟩⟩
    ·rcases h0.2 with e|e|⟨b',hb',e⟩
     ·have:=(iC e).2;omega
     ·exact c.ne.2.2.2.2.2 (iC e).1
     ·have e:s.Zb=b':=by unfold ca im at e;simpa using e
      exact(PI b' (.inl hb')).2.2.1 e.symm
    ·rcases h0.2 with e|e|⟨b',hb',e⟩
     ·exact c.ne.2.2.2.2.2 (iC e).1.symm
     ·have:=(iC e).2;omega
     ·have e:s.Rb=b':=by unfold ca im at e;simpa using e
      exact(PI b' (.inl hb')).2.2.2 e.symm
   ·by_cases e:g=st.γ.num
    ·exact .inr (.inr ⟨e,off,ho,rfl⟩)
    ·refine .inl (p.KI g (hg.imp id fun⟨a,b⟩=>⟨a,?_⟩) off ho);have b:g<st.γ.num+1:=b;omega
   ·by_cases e:g=st.γ.num
    ·obtain⟨s1,s2⟩:=p.KH 0 (.inl rfl);exact⟨fun off a b=>.inr ⟨e,s1 off a b⟩,fun off a=>.inr ⟨e,s2 off a⟩⟩
    ·obtain⟨s1,s2⟩:=p.KH g (hg.imp id fun⟨a,b⟩=>⟨a,by
      have b:g<st.γ.num+1:=b;omega⟩)
     exact⟨fun off a b=>.inl (s1 off a b),fun off a=>.inl (s2 off a)⟩
   ·have hj:(upd st.γ.wk st.γ.num {mx:=.fresh,zw:=false,rw:=false,syn:=false,wg:=.work,df:=0,keep:=keep} j).mx=.own .work:=hj;rw[hmx]at hj;refine .inl ⟨p.Uo j hj off o1 o2,fun h0=>?_⟩;have:=h.base.Sp 0 (by rw[hold];omega)
    rw[h0.1]at hj;rw[hj]at this;rcases this with h|h<;>cases h
   ·obtain⟨a,b,d⟩:=p.D8 (fun j hj=>hn j ((hmx j).trans hj)) g off o1 o2;obtain⟨a0,b0,d0⟩:=p.D8 (fun j hj=>hn j ((hmx j).trans hj)) 0 off o1 o2;refine⟨fun hx=>?_,fun hx=>?_,fun hD hx=>?_⟩
    ·rcases hx with⟨hx,_⟩|⟨_,hx|hx⟩
     ·exact a hx
     ·exact c.ne.2.1 (iC hx).1
     ·exact c.ne.2.2.1 (iC hx).1
    ·rcases hx with hx|⟨_,hx⟩
     ·exact b hx
     ·exact b0 hx
    ·rcases hx with hx|⟨_,b',off',hb',e⟩|⟨_,off',ho,e⟩
     ·exact d hD hx
     ·exact(PI b' hb').1 (iC e).1.symm
     ·have:=(iC e).2;omega
  ·refine⟨fun h0 h1 g hg off o1 o2=>?_,fun h1=>?_,fun j hj jT hw=>?_⟩
   ·have P0:=fun g hg=>T.sh0 h0 (fun j hj=>h1 j ((hmx j).trans hj)) g hg off o1 o2;by_cases e:g=st.γ.num
    ·subst e;intro i a ha e';obtain⟨hlt,ha'⟩:=told ha;exact fork_knows hx hy hd0 (Deaf_absent fun i op hi e'=>by have:=h.base.tr.gs i op hi;omega) (P0 0 (.inl rfl) i a ha' e')
    ·refine(P0 g (hg.imp id fun⟨a,b⟩=>⟨a,?_⟩)).app fun op hop b hb=>by rw[nt op hop]at hb;cases hb
     have b:g<st.γ.num+1:=b;omega
   ·obtain⟨r,r1,r2,r3⟩:=T.VZ h1;have hp:=lt_of_act? r1.1;refine⟨r,r1.app fun op hop sync e=>?_,(heard_old hp).2 r2,fun off o1 o2 i a ha e hw=>?_⟩
    ·have:=nt op hop
     rw[e]at this;cases this
    ·obtain⟨hlt,ha'⟩:=told ha;exact(r3 off o1 o2 i a ha' e hw).app _
   ·have hw:(upd st.γ.wk st.γ.num {mx:=.fresh,zw:=false,rw:=false,syn:=false,wg:=.work,df:=0,keep:=keep} j).wg≠ .work:=hw;have jT:j<st.γ.num+1:=jT;by_cases e:j=st.γ.num
    ·rw[e,Vl]at hw;exact absurd rfl hw
    ·rw[KX j e]at hw;obtain⟨r,r1,r2⟩:=T.rel j hj (by omega) hw;refine⟨r,r1.app fun i hi _=>(kJ nt hi).1,fun i a hri hg ha=>?_⟩;obtain⟨hlt,ha'⟩:=told ha;exact r2 i a hri ((Ar hlt).1 hg) ha'
 ·refine⟨aH _,fun _ l hl=>.inl ⟨hl,fun h0=>hj h0.1⟩,fun _ l hl=>.inl hl,fun _ b hb=>rfl,fun _=>KX j (by omega),fun h0=>absurd h0 hj,fun _=>rfl,fun _ _ _ s' hs'=>?_,fun h0=>absurd h0 hj,fun _ _ _ _ _ _ _ _ _=>rfl,fun _ _=>rfl,fun _ _ _=>aH _,by show st.γ.num<=st.γ.num+1;omega⟩;refine⟨?_,fun _=>⟨rfl,rfl,rfl,rfl⟩,id⟩;show Q4 (eH.mm {st.γ with num:=st.γ.num+1,mw:=.sp,wk:=upd st.γ.wk st.γ.num {mx:=.fresh,zw:=false,rw:=false,syn:=false,wg:=.work,df:=0,keep:=keep},ex:=xh st.γ s k F,rd:=xg st.γ s F Fr,sh:=xf st.γ}) s'.n0 s'.n (st.γ.tn+st.γ.th)<=_;rw[hmm];exact aH _
end
end
section
def Wk.start(keep:List (Nat×Obj)):Wk:={mx:=.fresh,zw:=false,rw:=false,syn:=false,wg:=.work,df:=0,keep:=keep}
section
variable{q:iU}{s:eJ}{num:Nat}{K:List (Nat×Obj)}
theorem TT.fork{P:au}(hP:q.P=P){g:ah}{st:St eH}{k:Nat}(hA:nu s .ad 0 num K st)(hk:num=s.n0+k)(hkn:k<s.n)
  (h:∀dV,nu s .ad 0 num K dV->Inv q dV->gL q s dV->∃g' child,stepG P (0==0) g dV.w=.spawn g' child dV.w #[]/\g'.status=.running/\child.status=.running/\
   ∃(keep:List (Nat×Obj)) (F Fr:Nat->Prop),(∀b,F b->∀off,dV.γ.ex 0 (ca b off))/\(∀b,Fr b->∀off,dV.γ.rd 0 (ca b off))/\(∀b o,(b,o)∈keep->(F b\/Fr b)/\dV.w.heap[b]?=some o)/\
   (∀dZ,At s num (Wk.start keep) dZ->Inv q dZ->TW (cfg q) num child dZ)/\∀dZ,nu s .sp 0 (num+1) K dZ->Inv q dZ->TT (cfg q) 0 (TW (cfg q)) g' dZ):TT (cfg q) 0 (TW (cfg q)) g st:=by
 subst hP;refine TT.step fun dV hr hi=>⟨fun hl=>absurd rfl hl.1,?_⟩;have hr:Rl 0 st dV:=hr;have hi:Inv q dV:=hi;have dY:=hA.rely hr;obtain⟨g',child,h1,h2,h3,keep,F,Fr,hF,ZG,Fb,h4,h5⟩:=h dV dY hi (hi.eX s dY.sc).c;unfold je;rw[show stepG (cfg q).P (0==0) g dV.w=_ from h1];have js:=dY.num;subst js;obtain⟨k1,k2⟩:=hi.fork (keep:=keep) (F:=F) (Fr:=Fr) (k:=k) dY.sc dY.mw dY.dm hk hkn hF ZG (x:={g:=0,fn:=g.frame.fn,pos:=g.frame.place,act:=.go dV.γ.num}) (y:={g:=dV.γ.num,fn:=child.frame.fn,pos:=g.frame.place,act:=.start}) ⟨rfl,rfl⟩ ⟨rfl,rfl⟩;have e:(dV.t++((aA 0 g.frame.fn g.frame.place #[]).push {g:=0,fn:=g.frame.fn,pos:=g.frame.place,act:=.go dV.γ.num}).push {g:=dV.γ.num,fn:=child.frame.fn,pos:=g.frame.place,act:=.start})=dV.t++#[{g:=0,fn:=g.frame.fn,pos:=g.frame.place,act:=.go dV.γ.num},{g:=dV.γ.num,fn:=child.frame.fn,pos:=g.frame.place,act:=.start}]:=by
  rw[ofEvents_none];rfl
 refine⟨({dV.γ with num:=dV.γ.num+1,mw:=.sp,wk:=upd dV.γ.wk dV.γ.num (Wk.start keep),ex:=xh dV.γ s k F,rd:=xg dV.γ s F Fr,sh:=xf dV.γ}:eH),?_⟩
 ·have hnew:=(hi.eX s dY.sc).c.new dV.γ.num nle;have n0:=(hi.eX s dY.sc).c.n0;show Inv q ⟨dV.w,dV.t++((aA 0 g.frame.fn g.frame.place #[]).push {g:=0,fn:=g.frame.fn,pos:=g.frame.place,act:=.go dV.γ.num}).push {g:=dV.γ.num,fn:=child.frame.fn,pos:=g.frame.place,act:=.start},_⟩/\_;simp only[cfg];rw[e];refine⟨k1,trivial,fun j hj hlt=>k2 j hj hlt,fun j hj hw=>?_,h2,?_,trivial,h3,?_⟩
  ·obtain⟨w1,w2⟩:=hw;refine⟨w1,?_⟩;rcases w2 with⟨a,_⟩|⟨a,b,d,f⟩
   ·exact absurd a hj
   ·have hne:j≠dV.γ.num:=fun e=>by rw[e,hnew]at b;cases b
    right;refine⟨a,?_,d,?_⟩
    ·show(upd dV.γ.wk dV.γ.num (Wk.start keep) j).mx=.iM;rw[upd_ne _ _ hne];exact b
    ·show(upd dV.γ.wk dV.γ.num (Wk.start keep) j).wg=.work;rw[upd_ne _ _ hne];exact f
  ·refine h5 _ ⟨dY.sc,rfl,dY.dm,rfl,fun b o hb=>?_,dY.nd⟩ k1;obtain⟨f1,f2⟩:=dY.fz b o hb;obtain⟨a1,a2,a3,a4⟩:=dY.apart hi hb;refine⟨f1,?_⟩;by_cases hFb:F b
   ·exact .inr fun off=>.inr (.inl ⟨.inl rfl,b,off,.inl hFb,rfl⟩)
   ·rcases f2 with f2|f2
    ·refine .inl fun off=>.inl ⟨f2 off,fun h0=>?_⟩;rcases h0.2 with e|e|⟨b',hb',e⟩
     ·exact a3 (iC e).1
     ·exact a4 (iC e).1
     ·have e:b=b':=by unfold ca im at e;simpa using e
      exact hFb (e ▸ hb')
    ·exact .inr fun off=>.inl (f2 off)
  ·show TW (cfg q) dV.γ.num child _;refine h4 _ ⟨by have:=n0.1;omega,dY.sc,by omega,by show dV.γ.num<dV.γ.num+1;omega,?_,fun b o hb=>?_⟩ k1
   ·exact gB _ _ _
   ·obtain⟨f1,f2⟩:=Fb b o hb;exact⟨f2,fun off=>.inr (.inl ⟨.inr rfl,b,off,f1,rfl⟩)⟩
end
end
section
open Go.ConcM (OsLater)
def at6(γ:eH)(s:eJ):Nat->Loc->Prop:=fun g l=>γ.ex g l/\¬(im l=some s.Gb\/im l=some s.Wg\/((im l=some s.Zb\/im l=some s.Rb)/\∀k,k<s.n->l≠ca s.Zb k/\l≠ca s.Rb k))
def at5(γ:eH)(s:eJ):Nat->Loc->Prop:=fun g l=>γ.rd g l\/(g=0/\∃off,off<3/\l=ca s.Gb off)
def at4(s:eJ):Nat->Loc->Prop:=fun g l=>g=0/\((∃off,3<=off/\off<6/\l=ca s.Gb off)\/∃off,off<2/\l=ca s.Wg off)
def J9(γ:eH)(s:eJ):eH:={γ with sc:=some s,mw:=.sp,D:=0,L:=0,W:=0,S:=0,N:=0,tn:=0,th:=0,gs:=0,gm:=0,ex:=at6 γ s,rd:=at5 γ s,sh:=at4 s}
structure FL(q:iU)(s:eJ)(st:St eH):Prop where
 n0:s.n0=st.γ.num
 n9:s.n<=9
 gb:∃C:Array af,st.w.heap[s.Gb]?=some (.cells C q.tG)/\C.size=16/\C[0]?=some s.g0/\C[1]?=some s.g1/\C[2]?=some s.g2/\C[3]?=some (.int .u32 0)/\C[4]?=some (.int .i32 0)/\C[5]?=some (.int .u32 0)/\∀k,6<=k->k<16->∃x,C[k]?=some (.int .u64 x)
 wg:WgAt q.tW s.Wg st.w (0:Nat) (0:Nat)
 zb:tN s.Zb s.n q.tZ (fun _=>false) s.zv st.w
 rb:tN s.Rb s.n q.tR (fun _=>false) s.rv st.w
 ne:s.Gb≠s.Wg/\s.Gb≠s.Zb/\s.Gb≠s.Rb/\s.Wg≠s.Zb/\s.Wg≠s.Rb/\s.Zb≠s.Rb
 ex:∀b,(b=s.Gb\/b=s.Wg\/b=s.Zb\/b=s.Rb)->∀off,st.γ.ex 0 (ca b off)
 nd:¬st.γ.dead s.Gb/\¬st.γ.dead s.Zb/\¬st.γ.dead s.Rb
theorem AK(b off:Nat):im (ca b off)=some b:=rfl
theorem UG{p:MX->Bool}{m:Nat->MX}{a n:Nat}(h:∀k,a<=k->k<a+n->p (m k)=false):cnt p m a n=0:=by
 unfold cnt;rw[List.countP_eq_zero];intro k hk;have:=List.mem_range.1 hk
 rw[h (a+k) (by omega) (by omega)];simp
section
variable{q:iU}{s:eJ}
theorem Inv.enter{st:St eH}(h:Inv q st)(hs:st.γ.sc=none)(hd:st.γ.dm=0)(E:FL q s st):
  Inv q ⟨st.w,st.t,J9 st.γ s⟩/\∀j,j≠0->Rl j st ⟨st.w,st.t,J9 st.γ s⟩:=by
 have A:=h.base.tr.FI;have pos:=h.base.pos;have hold:st.γ.old=st.γ.num:=by unfold eH.old;rw[hs]
 have hold':(J9 st.γ s).old=st.γ.num:=by unfold eH.old J9;exact E.n0
 have new:∀j,st.γ.num<=j->st.γ.wk j=.new:=h.base.nw;have YR:∀j,0<j->j<st.γ.num->(st.γ.wk j).wg=.lv\/(st.γ.wk j).wg=.gone:=fun j a b=>h.base.old j a (by rw[hold];exact b);have ex0:=E.ex;have exG:=fun off=>ex0 s.Gb (.inl rfl) off;have exW:=fun off=>ex0 s.Wg (.inr (.inl rfl)) off;have Hs:=fun off=>ex0 s.Zb (.inr (.inr (.inl rfl))) off;have exR:=fun off=>ex0 s.Rb (.inr (.inr (.inr rfl))) off;have A':Mt st.w.heap.size (at6 st.γ s) (at5 st.γ s) (at4 s):=by
  refine⟨fun g g' l h1 h2=>A.ee _ _ _ h1.1 h2.1,fun g g' l h1 h2=>?_,fun g g' l h1 h2=>?_,fun g g' l h1 h2=>?_,fun g l h1=>A.low _ _ h1.1,fun g l h1 b hb=>?_,fun g l h1 b hb=>?_,fun g l h1=>?_⟩
  ·rcases h2 with h2|⟨_,off,_,rfl⟩
   ·exact A.er _ _ _ h1.1 h2
   ·exact h1.2 (.inl rfl)
  ·obtain⟨_,⟨off,_,_,rfl⟩|⟨off,_,rfl⟩⟩:=h2
   ·exact h1.2 (.inl rfl)
   ·exact h1.2 (.inr (.inl rfl))
  ·obtain⟨_,⟨off,o1,o2,rfl⟩|⟨off,_,rfl⟩⟩:=h2
   ·rcases h1 with h1|⟨_,off',o',e⟩
    ·exact A.er _ _ _ (exG off) h1
    ·have:=(iC e).2;omega
   ·rcases h1 with h1|⟨_,off',o',e⟩
    ·exact A.er _ _ _ (exW off) h1
    ·exact E.ne.1 (iC e).1.symm
  ·rcases h1 with h1|⟨_,off,_,rfl⟩
   ·exact A.xO _ _ h1 b hb
   ·exact A.low _ _ (exG off) b hb
  ·obtain⟨_,⟨off,_,_,rfl⟩|⟨off,_,rfl⟩⟩:=h1
   ·exact A.low _ _ (exG off) b hb
   ·exact A.low _ _ (exW off) b hb
  ·rcases h1 with h1|h1|h1
   ·exact A.mem _ _ (.inl h1.1)
   ·rcases h1 with h1|⟨_,off,_,rfl⟩
    ·exact A.mem _ _ (.inr (.inl h1))
    ·rfl
   ·obtain⟨_,⟨off,_,_,rfl⟩|⟨off,_,rfl⟩⟩:=h1<;>rfl
 have htr:FJ st.t st.γ.num st.w.heap.size (at6 st.γ s) (at5 st.γ s) (at4 s):=by
  refine h.base.tr.sub A' (fun g l hl=>hl.1) (fun g l hl=>?_) fun g l hl=>.inr ?_
  ·rcases hl with hl|⟨rfl,off,_,rfl⟩
   ·exact .inl hl
   ·exact .inr (exG off)
  ·obtain⟨rfl,⟨off,_,_,rfl⟩|⟨off,_,rfl⟩⟩:=hl
   ·exact⟨exG off,fun i a ha _ hk=>h.base.said i a ha hk⟩
   ·exact⟨exW off,fun i a ha _ hk=>h.base.said i a ha hk⟩
 have ku:∀j,((J9 st.γ s).wk j).mx≠ .own .work:=fun j hj=>by
  have hj:(st.γ.wk j).mx=.own .work:=hj;by_cases h1:st.γ.num<=j
  ·rw[new j h1]at hj;cases hj
  ·rcases h.base.Sp j (by rw[hold];omega)with e|e<;>rw[e]at hj<;>cases hj
 have ak7:∀g,Mem s (J9 st.γ s) g->g=0:=fun g hg=>by
  rcases hg with rfl|⟨a,b⟩
  ·rfl
  ·have b:g<st.γ.num:=b;have:=E.n0
   omega
 have X7:∀p:WG->Bool,p .idle=false->gi p (J9 st.γ s) s=0:=fun p hp=>rB fun j h1 h2=>by
  show p (st.γ.wk j).wg=false;rw[new j (by have:=E.n0;omega)];exact hp
 have wk0:∀j,s.n0<=j->st.γ.wk j=.new:=fun j hj=>new j (by rw[<-E.n0];exact hj);have hmu:jS (J9 st.γ s).mm s.n0 s.n 0 0 0 0 0 0:=by
  have z:∀p:MX->Bool,p .fresh=false->cnt p (J9 st.γ s).mm s.n0 s.n=0:=fun p hp=>UG fun k k1 _=>by
   show p (st.γ.wk k).mx=false;rw[wk0 k k1];exact hp
  refine⟨(z _ rfl).symm,?_,?_,by omega,.inr ⟨rfl,rfl,z _ rfl,z _ rfl⟩,fun _ _ _ h=>by omega⟩
  ·rw[z MX.jg rfl,z MX.mb rfl,z MX.lD rfl]
  ·rw[z MX.jg rfl,z MX.vB rfl,z MX.jA rfl]
 refine⟨⟨⟨pos,htr,h.base.JU,h.base.XX,h.base.OC,h.base.gone,h.base.os,h.base.out,fun j a b=>h.base.old j a (by rw[hold];rw[hold']at b;exact b),h.base.dead,fun i a ha hm=>?_,fun i g hg hne hlt hc=>?_,fun g l hl=>?_,fun j hj=>h.base.Sp j (by rw[hold];replace hj:j<(J9 st.γ s).old:=hj;rw[hold']at hj;exact hj),new,h.base.said,fun s' hs'=>by
  have hs':some s=some s':=hs';cases hs';exact E.nd⟩,?_,fun s' hs'=>?_⟩,fun j hj=>?_⟩
 ·show(∃b,im a.loc=some b/\st.γ.dead b)\/Knows st.t 0 i\/∃g,st.t.g? i=some g/\(J9 st.γ s).old<=g;rw[hold',<-hold];exact h.base.know i a ha hm
 ·replace hlt:g<(J9 st.γ s).old:=hlt;rw[hold',<-hold]at hlt;exact h.base.ho i g hg hne hlt hc
 ·rcases hl with hl|hl|hl
  ·exact h.base.pool g l (.inl hl.1)
  ·rcases hl with hl|⟨rfl,_⟩
   ·exact h.base.pool g l (.inr (.inl hl))
   ·exact pos
  ·rw[hl.1];exact pos
 ·show some s=none↔MW.sp=.solo;simp
 ·have hs':some s=some s':=hs';cases hs';refine⟨?_,?_,?_⟩
  ·exact{
    n0:=⟨by rw[E.n0];exact pos,by rw[E.n0];exact aH _,by rw[E.n0];show st.γ.num<=_;omega,E.n9⟩
    gb:=by
     obtain⟨C,c1,c2,c3,c4,c5,c6,c7,c8,c9⟩:=E.gb;exact⟨C,c1,c2,c3,c4,c5,c6,c7,c8,c9,fun e=>by cases e⟩
    qO:=E.wg
    zb:=E.zb.block rfl fun k _ hf=>by
     have hf:(st.γ.wk (s.n0+k)).zw=true:=hf;rw[wk0 _ (by omega)]at hf;cases hf
    rb:=E.rb.block rfl fun k _ hf=>by
     have hf:(st.γ.wk (s.n0+k)).rw=true:=hf;rw[wk0 _ (by omega)]at hf;cases hf
    ne:=E.ne
    mu:=hmu
    D1:=Nat.zero_le _
    work:=fun j hj=>absurd hj (ku j)
    dn:=fun j hj=>by
     have hj:(st.γ.wk j).mx=.own .dn:=hj;by_cases h1:st.γ.num<=j
     ·rw[new j h1]at hj;cases hj
     ·rcases h.base.Sp j (by rw[hold];omega)with e|e<;>rw[e]at hj<;>cases hj
    syn:=fun j h0 hj=>by
     have hj:(st.γ.wk j).syn=true:=hj;rw[wk0 j h0]at hj;cases hj
    new:=new
    on:=fun j h1 h2=>by
     have h2:j<st.γ.num:=h2;have:=E.n0
     omega
    fin:=fun j h1 h2 _=>by
     have h2:(st.γ.wk j).wg≠ .idle:=h2;rw[wk0 j h1]at h2;exact absurd rfl h2
    all:=fun hm=>by
     have hm:MW.sp=.wt\/MW.sp=.rg\/MW.sp=.lR:=hm;simp at hm
    sK:=by
     show xt .sp (gi WG.cd (J9 st.γ s) s) (gi (·== .d2) (J9 st.γ s) s) (gi (·== .d3) (J9 st.γ s) s) (gi (·== .d4) (J9 st.γ s) s) 0 0;rw[X7 WG.cd rfl,X7 (·== .d2) rfl,X7 (·== .d3) rfl,X7 (·== .d4) rfl];simp only[xt];exact⟨trivial,trivial,trivial,trivial,trivial⟩}
  ·refine⟨fun g b hb=>?_,fun k k1 k2=>?_,fun k k1 _=>?_,fun g hg off ho=>?_,fun g hg=>?_,fun j hj=>absurd hj (ku j),fun j h0 hj=>?_,fun _ g off o1 o2=>?_⟩
   ·refine⟨⟨s.n,fun hx=>hx.2 ?_⟩,3,fun hx=>?_⟩
    ·rw[AK];rcases hb with rfl|rfl|rfl|rfl
     ·exact .inl rfl
     ·exact .inr (.inl rfl)
     ·exact .inr (.inr ⟨.inl rfl,fun k hk=>⟨fun e=>by have:=(iC e).2;omega,fun e=>by have:=(iC e).2;omega⟩⟩)
     ·exact .inr (.inr ⟨.inr rfl,fun k hk=>⟨fun e=>by have:=(iC e).2;omega,fun e=>by have:=(iC e).2;omega⟩⟩)
    ·rcases hx with hx|⟨_,off,ho,e⟩
     ·exact A.er _ _ _ (ex0 b hb 3) hx
     ·have:=(iC e).2;omega
   ·have k2:s.n0+k<st.γ.num:=k2;have:=E.n0
    omega
   ·refine⟨⟨Hs k,fun hx=>?_⟩,exR k,fun hx=>?_⟩
    ·rw[AK]at hx;rcases hx with hx|hx|⟨_,hx⟩
     ·exact E.ne.2.1 (Option.some.inj hx).symm
     ·exact E.ne.2.2.2.1 (Option.some.inj hx).symm
     ·exact(hx k k1).1 rfl
    ·rw[AK]at hx;rcases hx with hx|hx|⟨_,hx⟩
     ·exact E.ne.2.2.1 (Option.some.inj hx).symm
     ·exact E.ne.2.2.2.2.1 (Option.some.inj hx).symm
     ·exact(hx k k1).2 rfl
   ·rw[ak7 g hg];exact .inr ⟨rfl,off,ho,rfl⟩
   ·rw[ak7 g hg];exact⟨fun off a b=>⟨rfl,.inl ⟨off,a,b,rfl⟩⟩,fun off a=>⟨rfl,.inr ⟨off,a,rfl⟩⟩⟩
   ·have hj:(st.γ.wk j).syn=true:=hj;rw[wk0 j h0]at hj;cases hj
   ·refine⟨fun hx=>hx.2 (.inl rfl),fun hx=>?_,fun _ hx=>?_⟩
    ·obtain⟨_,⟨off',a,b,e⟩|⟨off',a,e⟩⟩:=hx
     ·have:=(iC e).2;omega
     ·exact E.ne.1 (iC e).1
    ·rcases hx with hx|⟨_,off',ho,e⟩
     ·exact A.er _ _ _ (exG off) hx
     ·have:=(iC e).2;omega
  ·refine⟨fun _ _ g hg off _ _=>?_,fun h1=>(by cases h1),fun j h1 h2=>?_⟩
   ·rw[ak7 g hg];exact h.base.tr.ex 0 _ (exG off)
   ·have h2:j<st.γ.num:=h2;have:=E.n0
    omega
 ·have nl:Live j st->st.γ.num<=j:=fun hl=>by
   refine Nat.le_of_not_lt fun hlt=>?_;rcases hl with hl|hl
   ·exact hj hl
   ·exact(YR j (by omega) hlt).elim hl.1 hl.2
  have idle:(st.γ.wk j).wg≠ .lv->(st.γ.wk j).wg≠ .gone/\(st.γ.wk j).wg≠ .idle->False:=fun a b=>by
   by_cases hlt:j<st.γ.num
   ·exact(YR j (by omega) hlt).elim a b.1
   ·exact b.2 (by rw[new j (by omega)];rfl)
  refine⟨aH _,fun hl l hx=>?_,fun hl l hx=>?_,fun _ b _=>rfl,fun _=>rfl,fun e=>absurd e hj,fun hx=>?_,fun _ a b _ _=>(idle a b).elim,fun e=>absurd e hj,fun _ a b _ _ _ _ _ _=>(idle a b).elim,fun _ hx=>absurd hx (ku j),fun _ hx hg=>?_,aH _⟩
  ·have:=h.base.pool j l (.inl hx);have:=nl hl;omega
  ·have:=h.base.pool j l (.inr (.inl hx));have:=nl hl;omega
  ·rcases hx with hx|hx
   ·exact absurd hx hj
   ·exact(idle hx.1 hx.2).elim
  ·exact(idle (by rw[hg];simp) (by rw[hg];simp)).elim
end
end
section
open Go.ConcM (OsLater)
def am5(γ:eH)(s:eJ)(size:Nat):Nat->Loc->Prop:=fun g l=>g=0/\l.isMemory=true/\∃b,im l=some b/\b<size/\¬γ.dead b/\b≠s.Wg
def jnG(γ:eH)(s:eJ)(size:Nat):eH:={γ with sc:=none,mw:=.solo,ex:=am5 γ s size,rd:=fun _ _=>False,sh:=fun _ _=>False,dead:=fun b=>γ.dead b\/b=s.Wg}
theorem vI{p:WG->Bool}{γ:eH}{s:eJ}(h:gi p γ s=0){j:Nat}(h1:s.n0<=j)(h2:j<s.n0+s.n):p (γ.wk j).wg=false:=by
 cases hp:p (γ.wk j).wg with
 |false=>rfl
 |true=>have:=uW (p:=p) h1 h2 hp;omega
section
variable{q:iU}{s:eJ}
theorem Sk{st:St eH}(c:gL q s st)(zR:st.γ.mw=.lR):st.γ.num=s.n0+s.n/\∀j,s.n0<=j->j<st.γ.num->(st.γ.wk j).wg=.lv\/(st.γ.wk j).wg=.gone:=by
 have js:=c.all (.inr (.inr zR));refine⟨js,fun j h1 h2=>?_⟩;have w:=c.sK;rw[zR]at w;obtain⟨w1,_,_,w2,w3,w4⟩:=w;have a1:=vI w1 h1 (by omega);have a2:=vI w2 h1 (by omega);have a3:=vI w3 h1 (by omega);have a4:=vI w4 h1 (by omega);have a5:=c.on j h1 h2;cases hw:(st.γ.wk j).wg<;>rw[hw]at a1 a2 a3 a4 a5<;>first|exact .inl rfl|exact .inr rfl|(simp[WG.cd]at a1;done)|(simp at a2;done)|(simp at a3;done)|(simp at a4;done)|(simp at a5;done)
theorem Inv.join{st:St eH}(h:Inv q st)(hs:st.γ.sc=some s)(zR:st.γ.mw=.lR)(hd:st.γ.dm=0)(fn:ak)(pos:String):
  Inv q ⟨st.w,st.t++aA 0 fn pos #[⟨.mark (.acquire (stA s.Wg)),false,true⟩],jnG st.γ s st.w.heap.size⟩/\∀j,j≠0->Rl j st ⟨st.w,st.t++aA 0 fn pos #[⟨.mark (.acquire (stA s.Wg)),false,true⟩],jnG st.γ s st.w.heap.size⟩:=by
 obtain⟨c,p,T⟩:=h.eX s hs;have A:=h.base.tr.FI;have n0:=c.n0;have hl:=c.NY;have pos':=h.base.pos;obtain⟨js,lv⟩:=Sk c zR;have hold:st.γ.old=s.n0:=by unfold eH.old;rw[hs]
 have hold':(jnG st.γ s st.w.heap.size).old=st.γ.num:=rfl;have all:∀j,0<j->j<st.γ.num->(st.γ.wk j).wg=.lv\/(st.γ.wk j).wg=.gone:=fun j a b=>by
  rcases bA j s.n0 with hj|hj
  ·exact h.base.old j a (by rw[hold];exact hj)
  ·exact lv j hj b
 obtain⟨nd1,nd2,nd3⟩:=h.base.dsc s hs;have mX:∀op∈aA 0 fn pos #[⟨.mark (.acquire (stA s.Wg)),false,true⟩],op.g=0/\op.act.touch?=none/\op.act=.mark (.acquire (stA s.Wg)):=by
  intro op ho;obtain⟨e,he,rfl⟩:=gM ho;simp at he;subst he;exact⟨rfl,rfl,rfl⟩
 have hq:(st.t++aA 0 fn pos #[⟨.mark (.acquire (stA s.Wg)),false,true⟩])[st.t.size]?=some {g:=0,fn,pos,act:=.mark (.acquire (stA s.Wg))}:=by
  rw[vd];simp[MemAct.ofEvent]
 generalize hu:aA 0 fn pos #[⟨.mark (.acquire (stA s.Wg)),false,true⟩]=u at mX hq ⊢;have hd0:Deaf st.t 0=0:=by rw[h.base.XX,hd]
 have LP:(st.t++u).heard st.t.size:=⟨0,by simp only[cX,hq];rfl,by rw[deaf_old nle];exact hd0⟩;have nt:∀op∈u,op.act.touch?=none:=fun op ho=>(mX op ho).2.1;have told:∀{i:Nat} {a:Touch},touchAt (st.t++u) i=some a->i<st.t.size/\touchAt st.t i=some a:=by
  intro i a ha;rcases gQ ha with h1|⟨_,op,hop,_,vV⟩
  ·exact h1
  ·rw[nt op hop]at vV;cases vV
 have Ar:∀{i g:Nat},i<st.t.size->((st.t++u).g? i=some g↔st.t.g? i=some g):=fun hi=>by simp only[cX,getElem?_append_old hi]
 have norel:∀k a,(st.t++u).act? k=some (.mark (.release a))->∀i,i<=k->st.t.g? i=some 0:=fun k a e=>by
  obtain⟨op,ho,hoa⟩:=Option.map_eq_some_iff.1 e;rcases getElem?_append_cases ho with⟨_,h1⟩|⟨_,h1⟩
  ·exact h.base.tr.norel k op h1 a hoa
  ·rw[(mX op h1).2.2]at hoa;cases hoa
 have edge:∀j,s.n0<=j->j<st.γ.num->∃r,RelBy (stA s.Wg) st.t j r/\(∀i a,r<i->st.t.g? i=some j->touchAt st.t i=some a->im a.loc=some s.Wg)/\HappensBefore (st.t++u) r st.t.size:=fun j h1 h2=>by
  obtain⟨r,r1,r2⟩:=T.rel j h1 h2 (by rcases lv j h1 h2 with e|e<;>rw[e]<;>simp);have hr:=lt_of_act? r1.act;refine⟨r,r1,r2,.single (.inr ⟨.marked hr (.inr ((act?_old hr).trans r1.act)) (by simp only[Trace.act?,hq];rfl) (fun k hk _ e=>by have:=norel k _ e r (by omega);rw[r1.g]at this;have:=Option.some.inj this;have:=n0.1;omega),(heard_old hr).2 r1.heard,LP⟩)⟩
 have upto:∀{i j:Nat},st.t.g? i=some j->s.n0<=j->j<st.γ.num->(∀r,RelBy (stA s.Wg) st.t j r->(∀i a,r<i->st.t.g? i=some j->touchAt st.t i=some a->im a.loc=some s.Wg)->i<=r)->HappensBefore (st.t++u) i st.t.size:=by
  intro i j hg h1 h2 hle;obtain⟨r,r1,r2,r3⟩:=edge j h1 h2;have hr:=lt_of_act? r1.act;rcases bA i r with hlt|hge
  ·exact .trans (.single (.inl ⟨hlt,j,(Ar (by omega)).2 hg,(Ar hr).2 r1.g⟩)) r3
  ·have:=hle r r1 r2
   obtain rfl:i=r:=by omega
   exact r3
 have bp5:∀{i g:Nat},st.t.g? i=some g->g<st.γ.num:=fun hg=>by
  obtain⟨op,ho,Tn⟩:=Option.map_eq_some_iff.1 hg;have:=h.base.tr.gs _ op ho
  omega
 have known:∀i a,touchAt st.t i=some a->a.loc.isMemory=true->(∃b,im a.loc=some b/\(st.γ.dead b\/b=s.Wg))\/Knows (st.t++u) 0 i:=fun i a ha hm=>by
  rcases h.base.know i a ha hm with⟨b,h1,h2⟩|h1|⟨g,h1,h2⟩
  ·exact .inl ⟨b,h1,.inl h2⟩
  ·exact .inr (h1.app _)
  ·rw[hold]at h2;by_cases hb:im a.loc=some s.Wg
   ·exact .inl ⟨_,hb,.inr rfl⟩
   ·refine .inr ⟨st.t.size,_,hq,rfl,.inr (upto h1 h2 (bp5 h1) fun r _ r2=>?_)⟩;refine Nat.le_of_not_lt fun hlt=>hb (r2 i a hlt h1 ha)
 have A':Mt st.w.heap.size (am5 st.γ s st.w.heap.size) (fun _ _=>False) (fun _ _=>False):=by
  refine⟨fun g g' l h1 h2=>h1.1.trans h2.1.symm,fun g g' l _ h2=>h2,fun _ _ _ _ x=>x,fun _ _ _ _ x=>x,fun g l h1 b hb=>?_,fun _ _ x=>x.elim,fun _ _ x=>x.elim,fun g l h1=>?_⟩
  ·obtain⟨_,_,b',hb',hlt,_⟩:=h1;rw[hb]at hb';cases hb';exact hlt
  ·rcases h1 with h1|h1|h1
   ·exact h1.2.1
   ·exact h1.elim
   ·exact h1.elim
 have htr:FJ (st.t++u) st.γ.num st.w.heap.size (am5 st.γ s st.w.heap.size) (fun _ _=>False) (fun _ _=>False):=by
  refine⟨fun said=>?_,A',fun g l hl=>?_,fun g l hl=>hl.elim,fun _ _ x=>x.elim,fun i a ha b hb=>(h.base.tr.low i a (told ha).2 b hb).imp id fun k g hg=>(k g hg).app _,fun i op hi=>?_,fun i op hi a=>?_⟩
  ·refine noRace_append (g:=0) (h.base.tr.nr said) (fun op ho=>(mX op ho).1) fun i a _ op hop b hb _=>?_;rw[nt op hop]at hb;cases hb
  ·obtain⟨rfl,hm,b,hb,_,hnd,hne⟩:=hl;intro i a ha e;obtain⟨_,ha'⟩:=told ha;rcases known i a ha' (by rw[e];exact hm)with⟨b',h1,h2⟩|h1
   ·rw[e,hb]at h1;obtain rfl:=Option.some.inj h1;exact(h2.elim hnd hne).elim
   ·exact h1
  ·rcases getElem?_append_cases hi with⟨_,h1⟩|⟨_,h1⟩
   ·exact h.base.tr.gs i op h1
   ·rw[(mX op h1).1];exact pos'
  ·rcases getElem?_append_cases hi with⟨_,h1⟩|⟨_,h1⟩
   ·intro e k hk;have:=h.base.tr.norel i op h1 a e k hk
    have hlt:k<st.t.size:=Nat.lt_of_le_of_lt hk (lt_size_of_getElem? h1);exact(Ar hlt).2 this
   ·rw[(mX op h1).2.2];simp
 have aY6:Deaf (st.t++u) 0=Deaf st.t 0:=by
  rw[<-hu,Deaf_own];exact fS fun e he=>by simp at he;subst he;simp
 refine⟨⟨⟨pos',htr,h.base.JU,aY6.trans h.base.XX,fun j hj jT=>?_,h.base.gone,h.base.os,h.base.out,fun j a b=>all j a (by rw[hold']at b;exact b),fun b hb=>?_,fun i a ha hm=>?_,fun i g hg hne hlt hc=>?_,fun g l hl=>?_,fun j hj=>?_,h.base.nw,fun i a ha hk=>?_,fun s' hs'=>by cases hs'⟩,?_,fun s' hs'=>by cases hs'⟩,fun j hj=>?_⟩
 ·exact(Deaf_other st.t (by omega:(0:Nat)≠j) _ fun op ho=>(mX op ho).1).trans (h.base.OC j hj jT)
 ·rcases hb with hb|rfl
  ·exact h.base.dead b hb
  ·exact hl.2.1
 ·obtain⟨_,ha'⟩:=told ha;exact(known i a ha' hm).imp id .inl
 ·replace hlt:g<st.γ.num:=hlt;have hc:(st.t++u).counts i:=hc;rcases bA i st.t.size with hi|hi
  ·have hg':=(Ar hi).1 hg;have hc':st.t.counts i:=by rw[counts_old hi]at hc;exact hc
   rcases bA g s.n0 with h0|h0
   ·obtain⟨j,h1,h2⟩:=h.base.ho i g hg' hne (by rw[hold];exact h0) hc';have hj:j<st.t.size:=by
     unfold cX at h1;obtain⟨op,ho,_⟩:=Option.map_eq_some_iff.1 h1;exact lt_size_of_getElem? ho
    exact⟨j,(Ar hj).2 h1,hb_app _ h2⟩
   ·refine⟨st.t.size,by show(st.t++u).g? _=_;simp only[cX,hq];rfl,upto hg' h0 hlt fun r r1 _=>?_⟩;exact Nat.le_of_not_lt fun hlt'=>r1.after i hlt' hg' hc'
  ·exact absurd hc (kJ nt hi).1
 ·show g<st.γ.num;rcases hl with hl|hl|hl
  ·rw[hl.1];exact pos'
  ·exact hl.elim
  ·exact hl.elim
 ·replace hj:j<st.γ.num:=hj;show(st.γ.wk j).mx=.fresh\/(st.γ.wk j).mx=.out;rcases bA j s.n0 with h0|h0
  ·exact h.base.Sp j (by rw[hold];exact h0)
  ·exact(c.fin j h0 (by rcases lv j h0 hj with e|e<;>rw[e]<;>simp) (by rcases lv j h0 hj with e|e<;>rw[e]<;>simp)).2.2
 ·obtain⟨hlt,ha'⟩:=told ha;exact(Ar hlt).2 (h.base.said i a ha' hk)
 ·show none=none↔MW.solo=.solo;simp
 ·have nl:Live j st->st.γ.num<=j:=fun hl=>by
   refine Nat.le_of_not_lt fun hlt=>?_;rcases hl with hl|hl
   ·exact hj hl
   ·exact(all j (by omega) hlt).elim hl.1 hl.2
  have idle:(st.γ.wk j).wg≠ .lv->(st.γ.wk j).wg≠ .gone/\(st.γ.wk j).wg≠ .idle->False:=fun a b=>by
   by_cases hlt:j<st.γ.num
   ·exact(all j (by omega) hlt).elim a b.1
   ·exact b.2 (by rw[h.base.nw j (by omega)];rfl)
  refine⟨aH _,fun hl l hx=>?_,fun hl l hx=>?_,fun _ b _=>rfl,fun _=>rfl,fun e=>absurd e hj,fun hx=>?_,fun _ a b _ _=>(idle a b).elim,fun e=>absurd e hj,fun _ a b _ _ _ _ _ _=>(idle a b).elim,fun _ _=>rfl,fun _ hx hg=>?_,aH _⟩
  ·have:=h.base.pool j l (.inl hx);have:=nl hl;omega
  ·have:=h.base.pool j l (.inr (.inl hx));have:=nl hl;omega
  ·rcases hx with hx|hx
   ·exact absurd hx hj
   ·exact(idle hx.1 hx.2).elim
  ·exact(idle (by rw[hg];simp) (by rw[hg];simp)).elim
end
end
section
open Go.ConcM (OsLater)
structure kH(dm num:Nat)(K:List (Nat×Obj))(st:St eH):Prop where
 sc:st.γ.sc=none
 mw:st.γ.mw=.solo
 dm:st.γ.dm=dm
 num:st.γ.num=num
 fz:∀b o,(b,o)∈K->st.w.heap[b]?=some o/\((∀off,st.γ.ex 0 (ca b off))\/∀off,st.γ.rd 0 (ca b off))
 nd:∀b o,(b,o)∈K->¬st.γ.dead b
section
variable{q:iU}{s:eJ}{dm num:Nat}{K:List (Nat×Obj)}
theorem kH.rely{st dV:St eH}(h:kH dm num K st)(hr:Rl 0 st dV):kH dm num K dV:=by
 obtain⟨m1,m2,m3,m4⟩:=hr.main rfl;refine⟨(hr.sc (.inl rfl)).trans h.sc,m1.trans h.mw,m2.trans h.dm,m3.trans h.num,fun b o hb=>?_,fun b o hb hx=>h.nd b o hb ((m4 b).1 hx)⟩;obtain⟨h1,h2⟩:=h.fz b o hb;exact⟨(hr.blk (.inl rfl) b h2).trans h1,h2.imp (fun x off=>hr.ex (.inl rfl) _ (x off)) fun x off=>hr.rd (.inl rfl) _ (x off)⟩
theorem FL.rely{st dV:St eH}(E:FL q s st)(hr:Rl 0 st dV):FL q s dV:=by
 obtain⟨_,_,m3,m4⟩:=hr.main rfl;have b1:=hr.blk (.inl rfl) s.Gb (.inl (E.ex _ (.inl rfl)));have b2:=hr.blk (.inl rfl) s.Wg (.inl (E.ex _ (.inr (.inl rfl))));have b3:=hr.blk (.inl rfl) s.Zb (.inl (E.ex _ (.inr (.inr (.inl rfl)))));have b4:=hr.blk (.inl rfl) s.Rb (.inl (E.ex _ (.inr (.inr (.inr rfl)))));refine⟨E.n0.trans m3.symm,E.n9,by rw[b1];exact E.gb,E.wg.of_block b2,E.zb.block b3 fun _ _ h=>h,E.rb.block b4 fun _ _ h=>h,E.ne,fun b hb off=>hr.ex (.inl rfl) _ (E.ex b hb off),?_⟩;obtain⟨a,b,c⟩:=E.nd;exact⟨fun x=>a ((m4 _).1 x),fun x=>b ((m4 _).1 x),fun x=>c ((m4 _).1 x)⟩
theorem TT.enter{P:au}(hP:q.P=P){Ch:Nat->ah->St eH->Prop}{g g':ah}{st:St eH}(hA:kH 0 num K st)(E:FL q s st)(hK:∀b o,(b,o)∈K->b≠s.Gb/\b≠s.Wg/\b≠s.Zb/\b≠s.Rb)(hstep:∀w,stepG P (0==0) g w=.go g' w #[])(hrun:g'.status=.running)
  (h:∀dZ,nu s .sp 0 num K dZ->Inv q dZ->TT (cfg q) 0 Ch g' dZ):TT (cfg q) 0 Ch g st:=by
 subst hP;refine TT.act fun dV hr hi=>?_;have dY:=hA.rely hr;obtain⟨k1,k2⟩:=hi.enter dY.sc dY.dm (E.rely hr);have e:dV.t++aA 0 g.frame.fn g.frame.place #[]=dV.t:=by rw[ofEvents_none,Array.append_empty]
 refine⟨fun hl=>hl.1 rfl,g',dV.w,#[],J9 dV.γ s,hstep dV.w,hrun,rfl,by rw[e];exact⟨k1,k2⟩,.inr fun k _ hw=>absurd dY.sc hw.1,h _ ⟨rfl,rfl,dY.dm,dY.num,fun b o hb=>?_,dY.nd⟩ (by rw[e];exact k1)⟩;obtain⟨f1,f2⟩:=dY.fz b o hb;obtain⟨a1,a2,a3,a4⟩:=hK b o hb;refine⟨f1,f2.imp (fun f off=>⟨f off,fun hx=>?_⟩) fun f off=>.inl (f off)⟩;rw[AK]at hx;rcases hx with hx|hx|⟨hx|hx,_⟩
 ·exact a1 (Option.some.inj hx)
 ·exact a2 (Option.some.inj hx)
 ·exact a3 (Option.some.inj hx)
 ·exact a4 (Option.some.inj hx)
def DN(q:iU)(s:eJ)(w:ae):Prop:=∃C:Array af,w.heap[s.Gb]?=some (.cells C q.tG)/\C.size=16/\C[0]?=some s.g0/\C[1]?=some s.g1/\C[2]?=some s.g2/\∀k,3<=k->k<16->∃(kk:IntKind) (x:Int),C[k]?=some (.int kk x)
theorem kV.done{γ:eH}{w:ae}(h:kV q s γ w):DN q s w:=by
 obtain⟨C,h1,h2,h3,h4,h5,h6,h7,h8,h9,_⟩:=h;refine⟨C,h1,h2,h3,h4,h5,fun k k1 k2=>?_⟩;by_cases e3:k=3
 ·subst e3;exact⟨_,_,h6⟩
 by_cases e4:k=4
 ·subst e4;exact⟨_,_,h7⟩
 by_cases e5:k=5
 ·subst e5;exact⟨_,_,h8⟩
 ·obtain⟨x,hx⟩:=h9 k (by omega) k2;exact⟨_,x,hx⟩
theorem TT.join{P:au}(hP:q.P=P){Ch:Nat->ah->St eH->Prop}{g:ah}{st:St eH}(hA:nu s .lR 0 num K st)
  (h:∀dV,nu s .lR 0 num K dV->Inv q dV->gL q s dV->∃g',stepG P (0==0) g dV.w=.go g' dV.w #[⟨.mark (.acquire (stA s.Wg)),false,true⟩]/\g'.status=.running/\
   ∀dZ,kH 0 num K dZ->Inv q dZ->DN q s dZ.w->
    (∃Z:Array af,dZ.w.heap[s.Zb]?=some (.cells Z q.tZ)/\Z.size=s.n/\∀k,k<s.n->Z[k]?=some (s.zv k))->(∃R:Array af,dZ.w.heap[s.Rb]?=some (.cells R q.tR)/\R.size=s.n/\∀k,k<s.n->R[k]?=some (s.rv k))->
    (∀l b,l.isMemory=true->im l=some b->b<dZ.w.heap.size->¬dZ.γ.dead b->dZ.γ.ex 0 l)->¬dZ.γ.dead s.Gb->¬dZ.γ.dead s.Zb->¬dZ.γ.dead s.Rb->TT (cfg q) 0 Ch g' dZ):TT (cfg q) 0 Ch g st:=by
 subst hP;refine TT.act fun dV hr hi=>?_;have dY:=hA.rely hr;have c:=(hi.eX s dY.sc).c;obtain⟨g',h1,h2,h3⟩:=h dV dY hi c;obtain⟨k1,k2⟩:=hi.join dY.sc dY.mw dY.dm g.frame.fn g.frame.place;obtain⟨js,lv⟩:=Sk c dY.mw;have fin:=fun j a b=>c.fin j a (by rcases lv j a b with e|e<;>rw[e]<;>simp) (by rcases lv j a b with e|e<;>rw[e]<;>simp);obtain⟨nd1,nd2,nd3⟩:=hi.base.dsc s dY.sc;refine⟨fun hl=>hl.1 rfl,g',dV.w,_,jnG dV.γ s dV.w.heap.size,h1,h2,rfl,⟨k1,k2⟩,.inr fun k hk hw=>?_,h3 _ ⟨rfl,rfl,dY.dm,dY.num,fun b o hb=>?_,fun b o hb hx=>hx.elim (dY.nd b o hb) (dY.apart hi hb).2.1⟩ k1 c.gb.done ?_ ?_ (fun l b m1 m2 m3 m4=>⟨rfl,m1,b,m2,m3,fun hx=>m4 (.inl hx),fun hx=>m4 (.inr hx)⟩) (fun hx=>hx.elim nd1 c.ne.1) (fun hx=>hx.elim nd2 c.ne.2.2.2.1.symm) fun hx=>hx.elim nd3 c.ne.2.2.2.2.1.symm⟩
 ·obtain⟨_,w2⟩:=hw;rcases w2 with⟨a,_⟩|⟨a,b,d,f⟩
  ·exact absurd a hk
  ·exfalso;by_cases hlt:k<dV.γ.num
   ·rcases bA k s.n0 with h0|h0
    ·rcases hi.base.old k (by omega) (by unfold eH.old;rw[dY.sc];exact h0)with e|e<;>rw[f]at e<;>cases e
    ·rcases lv k h0 hlt with e|e<;>rw[f]at e<;>cases e
   ·rw[hi.base.nw k (by omega)]at f;cases f
 ·obtain⟨f1,f2⟩:=dY.fz b o hb;obtain⟨a1,a2,a3,a4⟩:=dY.apart hi hb;exact⟨f1,.inl fun off=>⟨rfl,rfl,b,rfl,lt_of_block f1,dY.nd b o hb,a2⟩⟩
 ·obtain⟨Z,z1,z2,_,z4⟩:=c.zb;exact⟨Z,z1,z2,fun k hk=>z4 k hk (fin _ (by omega) (by omega)).1⟩
 ·obtain⟨Z,z1,z2,_,z4⟩:=c.rb;exact⟨Z,z1,z2,fun k hk=>z4 k hk (fin _ (by omega) (by omega)).2.1⟩
theorem TT.bh8{P:au}(hP:q.P=P){Ch:Nat->ah->St eH->Prop}{g g':ah}{st:St eH}(hA:nu s .rg 1 num K st)(js:num=s.n0+s.n)(hoff:g.offers=none)(hs:g'.status=.running)
  (hblk:∀w:ae,w.cell? (smA s.Wg)=some (.int .u32 0)->stepG P (0==0) g w=.go {g with status:=.blocked} w #[])
  (hgo:∀w:ae,w.cell? (smA s.Wg)=some (.int .u32 1)->w.frozen? (smA s.Wg)=false->stepG P (0==0) g w=.go g' (w.setCell (smA s.Wg) (.int .u32 0)) (semEvents (smA s.Wg)))
  (h:∀dZ,nu s .lR 1 num K dZ->Inv q dZ->TT (cfg q) 0 Ch g' dZ):TT (cfg q) 0 Ch g st:=by
 subst hP;refine TT.step fun dV hr hi=>⟨fun hl=>absurd rfl hl.1,?_⟩;have hr:Rl 0 st dV:=hr;have hi:Inv q dV:=hi;have dY:=hA.rely hr;have c:=(hi.eX s dY.sc).c;have hL:=c.sK;rw[dY.mw]at hL;by_cases h0:dV.γ.gm=0
 ·have cell:=c.qO.cellSm;rw[h0]at cell;unfold je;rw[show stepG (cfg q).P (0==0) g dV.w=_ from hblk dV.w cell];exact .inl ⟨rfl,hoff,rfl,rfl,by rw[dY.sc];simp,.inl ⟨rfl,dY.mw,h0⟩⟩
 ·obtain⟨h1,h2,h3,h4,h5,h6⟩:gi WG.cd dV.γ s=0/\dV.γ.gs=0/\dV.γ.gm=1/\gi (·== .d2) dV.γ s=0/\gi (·== .d3) dV.γ s=0/\gi (·== .d4) dV.γ s=0:=by
   rcases hL with x|x|x|x
   ·exact absurd x.2.2.1 h0
   ·exact absurd x.2.2.1 h0
   ·exact absurd x.2.2.1 h0
   ·exact x
  have hw:=c.qO;rw[h2,h3]at hw;have hstep:=hgo dV.w hw.cellSm (hw.thaw 1);have W:=aside_setCell dV.w (smA s.Wg) (.int .u32 0);have hev:∀e∈semEvents (smA s.Wg),EvM s e:=by
   intro e he;unfold semEvents at he;simp at he;rcases he with rfl|rfl|rfl|rfl
   ·exact .inl ⟨.disable,rfl,by simp⟩
   ·exact .inr (.inl ⟨1,false,rfl,by omega⟩)
   ·exact .inr (.inl ⟨1,true,rfl,by omega⟩)
   ·exact .inl ⟨.enable,rfl,by simp⟩
  obtain⟨k1,k2⟩:=hi.LF dY.sc (mo:=.lR) (gs₁:=0) (gJ:=0) hev W.size (fun b hb=>W.block b hb) (by rw[W.os];exact .refl _) W.output (hw.setSm 0) (by simp) (fun _=>dY.num.trans js) ⟨h1,rfl,rfl,h4,h5,h6⟩ g.frame.fn g.frame.place;have hdb:deafBehind dV.γ.dm (semEvents (smA s.Wg))=1:=by rw[dY.dm];rfl
  refine je.own (C:=cfg q) (γ':={dV.γ with mw:=.lR,dm:=deafBehind dV.γ.dm (semEvents (smA s.Wg)),gs:=0,gm:=0}) hstep hs k1 rfl k2 (.inr fun k hk hw=>?_) (h _ (dY.next hi rfl rfl hdb rfl (fun _ h=>h) (fun _ h=>h) (fun _ h=>h) fun b _ hb _ _ _=>W.block b hb) k1);obtain⟨w1,w2⟩:=hw;exact⟨w1,w2.imp (fun⟨a,_⟩=>absurd a hk) id⟩
theorem TT.j0{P:au}(hP:q.P=P){Ch:Nat->ah->St eH->Prop}{mw:MW}{g:ah}{st:St eH}(hA:nu s mw dm num K st)(n:Nat)
  (h:∀w:ae,(∃v,w.cell? ⟨s.Wg,0,none⟩=some v)/\(∃v,w.cell? ⟨s.Wg,1,none⟩=some v)->Goes P (0==0) (fun _ w₁=>(∃v,w₁.cell? ⟨s.Wg,0,none⟩=some v)/\∃v,w₁.cell? ⟨s.Wg,1,none⟩=some v) DC0 (fun g' _=>g'.status=.running/\TT (cfg q) 0 Ch g' st) n g w):TT (cfg q) 0 Ch g st:=by
 subst hP;exact TT.step fun dV hr hi=>by
  have hr:Rl 0 st dV:=hr;have hi:Inv q dV:=hi;have f:∀dV,Rl 0 st dV->Inv q dV->(∃v,dV.w.cell? ⟨s.Wg,0,none⟩=some v)/\∃v,dV.w.cell? ⟨s.Wg,1,none⟩=some v:=fun dV hr hi=>⟨⟨_,((hi.eX s (hA.rely hr).sc).c.qO.cellSt)⟩,⟨_,((hi.eX s (hA.rely hr).sc).c.qO.cellSm)⟩⟩;exact(TT.walk (C:=cfg q) Du (F:=fun w₁=>(∃v,w₁.cell? ⟨s.Wg,0,none⟩=some v)/\∃v,w₁.cell? ⟨s.Wg,1,none⟩=some v) f (fun dV hr hi hl=>hl.1 rfl) n g dV.w (h dV.w (f dV hr hi))).elim dV hr hi
theorem eA{s:eJ}{w₀ w₁:ae}(_:(∃v,w₀.cell? ⟨s.Wg,0,none⟩=some v)/\∃v,w₀.cell? ⟨s.Wg,1,none⟩=some v)(r:(∃v,w₁.cell? ⟨s.Wg,0,none⟩=some v)/\∃v,w₁.cell? ⟨s.Wg,1,none⟩=some v):(∃v,w₁.cell? ⟨s.Wg,0,none⟩=some v)/\∃v,w₁.cell? ⟨s.Wg,1,none⟩=some v:=r
def Ho(w:ae):Prop:=True
theorem TT.oX{P:au}(hP:q.P=P){Ch:Nat->ah->St eH->Prop}{g:ah}{st:St eH}(n:Nat)(h:∀w:ae,Ho w->Goes P (0==0) (fun _ w₁=>Ho w₁) DC0 (fun g' _=>g'.status=.running/\TT (cfg q) 0 Ch g' st) n g w):TT (cfg q) 0 Ch g st:=by
 subst hP;exact TT.step fun dV hr hi=>(TT.walk (C:=cfg q) Du (F:=fun w₁=>Ho w₁) (fun _ _ _=>trivial) (fun dV hr hi hl=>hl.1 rfl) n g dV.w (h dV.w trivial)).elim dV hr hi
theorem ib{w₀ w₁:ae}(_:Ho w₀)(r:Ho w₁):Ho w₁:=r
end
end
end Cc
namespace Cc
open Go.Conc Go.ConcN
section
noncomputable def iF(w:ae)(lH:Nat->Option Nat):ae:=
 {w with heap:=Array.ofFn (n:=w.heap.size) fun b=>match lH b.1,w.heap[b.1]? with
   |some n,some (.cells C e _)=>.cells (C.extract 0 n) e (0,n)
   |_,_=>.coro none}
def wZ(lH:Nat->Option Nat):Nat->Option Nat:=fun b=>if(lH b).isSome then some b else none
def yS(lH:Nat->Option Nat):Nat->Md:=fun b=>match lH b with|some n=>.read n|none=>.all
theorem tV(w:ae)(lH:Nat->Option Nat):(iF w lH).heap.size=w.heap.size:=by simp[iF]
theorem l5{w:ae}{lH:Nat->Option Nat}{b n:Nat}{C:Array af}{e:aj}{fz:Nat×Nat}(hv:lH b=some n)(h:w.heap[b]?=some (.cells C e fz)):(iF w lH).heap[b]?=some (.cells (C.extract 0 n) e (0,n)):=by
 have hlt:=lt_of_block h;have he:w.heap[b]=.cells C e fz:=by rw[aI hlt]at h;exact Option.some.inj h
 simp[iF,hlt,hv,he]
theorem Ii{w:ae}{lH:Nat->Option Nat}{b:Nat}(hv:lH b=none):(iF w lH).heap[b]?=none\/∃x,(iF w lH).heap[b]?=some (.coro x):=by
 rcases bA b w.heap.size with h|h
 ·exact .inr ⟨none,by simp[iF,h,hv]⟩
 ·exact .inl (by simp[iF,h])
theorem ry{lH:Nat->Option Nat}{b n:Nat}(h:lH b=some n):wZ lH b=some b:=by simp[wZ,h]
theorem oz{lH:Nat->Option Nat}{b c:Nat}(h:wZ lH b=some c):b=c/\∃n,lH b=some n:=by
 unfold wZ at h;split at h
 ·rename_i e;cases h;exact⟨rfl,Option.isSome_iff_exists.1 e⟩
 ·cases h
section
variable{q:iU}{i:Nat}{S:ak->Bool}
def EA(q:iU)(S:ak->Bool)(i:Nat)(lH:Nat->Option Nat)(st:St eH):Prop:=
 ∀b n,lH b=some n->q.P.globals.size<=b/\((∀off,st.γ.rd i (ca b off))\/(n<=3/\∃s,st.γ.sc=some s/\b=s.Gb))/\
  ∃C e fz,st.w.heap[b]?=some (.cells C e fz)/\n<=C.size/\∀(k:Nat) (v:af),k<n->C[k]?=some v->VR (fun f=>S f=true) (wZ lH) v v
theorem EA.hr{lH:Nat->Option Nat}{st:St eH}(h:EA q S i lH st)(hi:Inv q st):HR q.P.globals.size (fun f=>S f=true) (yS lH) (wZ lH) (iF st.w lH) st.w where
 inj:=fun b b' c h1 h2=>(oz h1).1.trans (oz h2).1.symm
 row:=fun b c hb=>by
  obtain⟨rfl,n,hn⟩:=oz hb;obtain⟨-,-,C,e,fz,h1,h2,h3⟩:=h b n hn;refine⟨_,_,l5 hn h1,h1,?_⟩;have hsz:(C.extract 0 n).size=n:=by simp<;>omega
  have hro:yS lH b=.read n:=by simp[yS,hn]
  have:OR (fun f=>S f=true) (yS lH b) (wZ lH) (.cells (C.extract 0 n) e (0,(yS lH b).hi (C.extract 0 n).size)) (.cells C e fz):=by
   refine .cells (by rw[hsz];exact h2) (fun k v hk=>?_) (fun x=>by rw[hro]at x;cases x) (fun m hm=>by rw[hro]at hm;cases hm;exact hsz);have hlt:=(Array.getElem?_eq_some_iff.1 hk).1;rw[dK]at hk;split at hk
   ·simp at hk<;>exact⟨v,hk,h3 k v (by omega) hk⟩
   ·cases hk
  rw[hro,Md.hi,hsz]at this;rwa [hro]
 hole:=fun b hb=>Ii (by
  cases hv:lH b with
  |none=>rfl
  |some n=>rw[ry hv]at hb;cases hb)
 low:=fun b c hb=>by obtain⟨rfl,n,hn⟩:=oz hb;exact⟨(h b n hn).1,(h b n hn).1⟩
 gs:=by rw[tV];exact hi.base.JU
 gw:=hi.base.JU
theorem EA.lH{lH:Nat->Option Nat}{st:St eH}(h:EA q S i lH st)(hi:Inv q st)(hlt:i<st.γ.num)(hw:i=0\/(st.γ.wk i).wg=.work/\∃s,st.γ.sc=some s/\s.n0<=i):BL q i (yS lH) (wZ lH) st:=by
 refine⟨hlt,hw,fun b c hb=>?_⟩;obtain⟨rfl,n,hn⟩:=oz hb;have hro:yS lH b=.read n:=by simp[yS,hn]
 rw[hro];obtain⟨-,h2,-⟩:=h b n hn;rcases h2 with h2|⟨h3,s,h4,rfl⟩
 ·exact .inl h2
 ·exact .inr (.inr ⟨h3,s,h4,rfl,(hi.eX s h4).c.head⟩)
theorem EA.ro{lH:Nat->Option Nat}{st:St eH}(h:EA q S i lH st):∀b,(iF st.w lH).heap.size<=b->yS lH b=.all:=fun b hb=>by
 unfold yS;cases hv:lH b with
 |none=>rfl
 |some n=>
  obtain⟨-,-,C,e,fz,h1,-⟩:=h b n hv;have:=lt_of_block h1
  rw[tV]at hb;omega
inductive Hu:af->Prop
 |bool (b:Bool):Hu (.bool b)
 |int (k:IntKind) (n:Int):Hu (.int k n)
 |string (s:ByteArray):Hu (.string s)
 |pointer (a:Option Addr):Hu (.pointer a)
 |slice (a:Option Addr) (l c:Nat):Hu (.slice a l c)
 |nilFunc:Hu .nilFunc
 |func {f:Fn} {x y:Array af} (h1:∀(i:Nat) (v:af),x[i]?=some v->Hu v) (h2:∀(i:Nat) (v:af),y[i]?=some v->Hu v):Hu (.func f x y)
 |agg {x:Array af} (h:∀(i:Nat) (v:af),x[i]?=some v->Hu v):Hu (.agg x)
 |tuple {x:Array af} (h:∀(i:Nat) (v:af),x[i]?=some v->Hu v):Hu (.tuple x)
def jk:Nat->af->Bool
 |_,.bool _|_,.int _ _|_,.string _|_,.pointer _|_,.slice _ _ _|_,.nilFunc=>true
 |d+1,.agg x|d+1,.tuple x=>x.all (jk d)
 |_,_=>false
theorem og:∀(d:Nat) (v:af),jk d v=true->Hu v
 |0,v,h=>by cases v<;>first|exact .bool _|exact .int _ _|exact .string _|exact .pointer _|exact .slice _ _ _|exact .nilFunc|cases h
 |d+1,v,h=>by
  cases v<;>first
   |exact .bool _
   |exact .int _ _
   |exact .string _
   |exact .pointer _
   |exact .slice _ _ _
   |exact .nilFunc
   |(rename_i x
     have h:x.all (jk d)=true:=h;first
      |exact .agg fun i v hv=>og d v (Array.all_eq_true_iff_forall_mem.1 h v (bH hv))
      |exact .tuple fun i v hv=>og d v (Array.all_eq_true_iff_forall_mem.1 h v (bH hv)))
   |cases h
theorem VR.same{ρ ρ':Nat->Option Nat}(hid:∀b c,ρ b=some c->b=c)(he:Ext ρ ρ'){v v1:af}(hs:Hu v)(h:VR (fun f=>S f=true) ρ v v)(h':VR (fun f=>S f=true) ρ' v v1):v1=v:=by
 have key:∀{v v':af},VR (fun f=>S f=true) ρ v v'->v=v'->Hu v->∀v1,VR (fun f=>S f=true) ρ' v v1->v1=v:=by
  intro v v' h;have arr:∀{x x':Array af},x.size=x'.size->(∀(i:Nat) (v v':af),x[i]?=some v->x'[i]?=some v'->v=v'->Hu v->∀v1,VR (fun f=>S f=true) ρ' v v1->v1=v)->x=x'->(∀(i:Nat) (v:af),x[i]?=some v->Hu v)->∀{y:Array af},x.size=y.size->(∀(i:Nat) (v v':af),x[i]?=some v->y[i]?=some v'->VR (fun f=>S f=true) ρ' v v')->y=x:=by
   intro x x' hx ih e hs y hy h2;subst e;refine Array.ext hy.symm fun i h1 h3=>?_;exact ih i _ _ (aI h3) (aI h3) rfl (hs i _ (aI h3)) _ (h2 i _ _ (aI h3) (aI h1))
  induction h with
  |bool b=>intro _ _ v1 h;cases h;rfl
  |int k n=>intro _ _ v1 h;cases h;rfl
  |string s=>intro _ _ v1 h;cases h;rfl
  |nilPtr=>intro _ _ v1 h;cases h;rfl
  |il l c=>intro _ _ v1 h;cases h;rfl
  |nilFunc=>intro _ _ v1 h;cases h;rfl
  |junk _ _ _=>intro _ hs;cases hs
  | @ptr b c off sp h=>
   intro _ _ v1 h1;cases h1 with
   |ptr _ _ h2=>
    have e1:=hid _ _ h;subst e1;have:=he _ _ h;rw[h2]at this;cases this;rfl
  | @slice b c off sp l k h=>
   intro _ _ v1 h1;cases h1 with
   |slice _ _ _ _ h2=>
    have e1:=hid _ _ h;subst e1;have:=he _ _ h;rw[h2]at this;cases this;rfl
  | @func f x y x' y' hf hx hy _ _ i1 i2=>
   intro e hs v1 h1;simp only[Value.func.injEq,true_and]at e;cases hs with
   |func s1 s2=>
    cases h1 with
    | @func _ _ _ x1 y1 hf' hx1 hy1 g1 g2=>
     rw[arr hx i1 e.1 s1 hx1 g1,arr hy i2 e.2 s2 hy1 g2]
  | @agg x x' hx _ i1=>
   intro e hs v1 h1;simp only[Value.agg.injEq]at e;cases hs with
   |agg s1=>
    cases h1 with
    |agg hx1 g1=>rw[arr hx i1 e s1 hx1 g1]
  | @tuple x x' hx _ i1=>
   intro e hs v1 h1;simp only[Value.tuple.injEq]at e;cases hs with
   |tuple s1=>
    cases h1 with
    |tuple hx1 g1=>rw[arr hx i1 e s1 hx1 g1]
 exact key h rfl hs v1 h'
theorem Xl{lH:Nat->Option Nat}(b c:Nat)(h:wZ lH b=some c):b=c:=(oz h).1
end
end
section
section
variable{q:iU}{i:Nat}
def aZ8(q:iU)(i:Nat)(ro:Nat->Md)(fK:St eH)(ρ:Nat->Option Nat)(st:St eH):Prop:=
 BL q i ro ρ st/\Inv q st/\(∀b c,ρ b=some c->ro b=.all->fK.w.heap.size<=c)/\Rl i fK st
theorem XM{fK st:St eH}(h₀:Inv q fK)(hr:Rl i fK st){w1:ae}{t:Trace}(hs:st.w.heap.size<=w1.heap.size)(hb:∀b,b<fK.w.heap.size->w1.heap[b]?=st.w.heap[b]?)(hsc:i≠0->∀s,fK.γ.sc=some s->s.Gb<fK.w.heap.size):
  Rl i fK ⟨w1,t,st.γ.grow i st.w.heap.size w1.heap.size⟩:=by
 have A:=h₀.base.tr.FI;refine⟨aY hr.size hs,fun hl l h=>.inl (hr.ex hl l h),hr.rd,fun hl b hx=>?_,hr.me,hr.main,hr.sc,hr.phi,hr.pK,fun a b c d s hs' off o1 o2=>?_,hr.Rv,hr.hand,hr.num⟩
 ·have hlt:b<fK.w.heap.size:=by
   rcases hx with hx|hx
   ·exact A.low i _ (hx 0) b rfl
   ·exact A.xO i _ (hx 0) b rfl
  exact(hb b hlt).trans (hr.blk hl b hx)
 ·refine Eq.trans ?_ (hr.work a b c d s hs' off o1 o2);show w1.cell? _=st.w.cell? _;unfold World.cell?;rw[hb s.Gb (hsc a s hs')]
theorem Sm(S:ak->Bool)(ro:Nat->Md)(fK:St eH)(h₀:Inv q fK):Own (cfg q) S ro i (aZ8 q i ro fK)where
 stable:=fun ρ st dV ⟨h1,h2,h3,h4⟩ hr hi=>by
  obtain⟨a,b⟩:=(AG S i ro).stable ρ st dV h1 hr hi;exact⟨⟨a,hi,h3,h4.trans hr⟩,b⟩
 lv:=fun ρ st h=>(AG S i ro).lv ρ st h.1
 step:=fun ρ st s vN s1 w1 es fn pos ⟨h1,h2,h3,h4⟩ hi m=>by
  obtain⟨a,b,c⟩:=Cs S i ro fn pos h1 h2 m;refine⟨st.γ.grow i st.w.heap.size w1.heap.size,a,rfl,b,fun k hk hw=>hw,c,a,fun b' c' hb hro=>?_,?_⟩
  ·rcases m.fresh b' c' hb with h|h
   ·exact h3 b' c' h hro
   ·exact aY h4.size h.1
  ·refine XM h₀ h4 m.size (fun b' hb'=>m.keep b' (bU hb' h4.size) fun b'' TL=>?_) fun hne s hs=>(h₀.eX s hs).c.NY.1;have hv:=h1.2.2 b'' b' TL;cases hm:ro b'' with
   |all=>have:=h3 b'' b' TL hm;omega
   |read n=>rfl
   |part f=>rw[hm]at hv;exact hv.elim
variable{s:eJ}{x:Wk}{S:ak->Bool}{Ch:Nat->ah->St eH->Prop}
theorem TT.call{P:au}(hP:q.P=P)(F:nP P S){f:ak}(hS:S f=true){lH:Nat->Option Nat}{st:St eH}(hA:At s i x st)(hx:x.wg=.work)(hI:Inv q st)(hV:EA q S i lH st){args:Array af}{v:af}
  (ha:AR (fun f=>S f=true) (wZ lH) args args)(hv:VR (fun f=>S f=true) (wZ lH) v v)(hC:∀τ d,Calls P f args (World.on (iF st.w lH) τ d) fun e w'=>e=.returned v){c:ai}{cs:List ai}
  (fin:∀st',Rl i st st'->Inv q st'->At s i x st'->TT (cfg q) i Ch (G (c.finish v) cs) st')(hs:jk 4 v=true:=by first|rfl|simp[jk]):TT (cfg q) i Ch (G (bQ P f args .normal) (c::cs)) st:=by
 subst hP;have hw:i=0\/(st.γ.wk i).wg=.work/\∃s,st.γ.sc=some s/\s.n0<=i:=.inr ⟨by rw[hA.me];exact hx,s,hA.sc,hA.lo⟩;have hVR:aZ8 q i (yS lH) st (wZ lH) st:=by
  refine⟨hV.lH hI hA.lt hw,hI,fun b c hb hro=>?_,Rl.refl i st⟩;obtain⟨rfl,n,hn⟩:=oz hb;simp[yS,hn]at hro
 refine P9 (C:=cfg q) F (Sm S (yS lH) st hI) (R:=fun v' _=>v'=v) hS ha (hV.hr hI) hVR hV.ro (fun τ d=>(hC τ d).mono fun e w' h=>⟨v,h,rfl⟩) ?_;rintro ρ' v1 v' s' st' he hvr ⟨_,_,hv1⟩ T5 ⟨_,hI',_,hr⟩;have hv1:v1=v:=hv1;subst hv1;have e:=VR.same Xl he (og _ _ hs) hv hvr;rw[e];exact fin st' hr hI' (hA.rely (by rw[hx];simp) hr hI')
def aI4:Nat->Option Nat:=fun _=>none
theorem jW{st:St eH}:EA q S i aI4 st:=fun b n h=>by cases h
end
end
section
structure Mn(X:Nat->Prop)(fK st:St eH):Prop where
 size:fK.w.heap.size<=st.w.heap.size
 ex:∀l,fK.γ.ex 0 l->st.γ.ex 0 l
 rd:∀l,fK.γ.rd 0 l->st.γ.rd 0 l
 blk:∀b,¬X b->(∀off,fK.γ.ex 0 (ca b off))\/(∀off,fK.γ.rd 0 (ca b off))->st.w.heap[b]?=fK.w.heap[b]?
 main:st.γ.mw=fK.γ.mw/\st.γ.dm=fK.γ.dm/\st.γ.num=fK.γ.num/\∀b,st.γ.dead b↔fK.γ.dead b
 sc:st.γ.sc=fK.γ.sc
section
variable{q:iU}{X:Nat->Prop}
theorem Mn.refl(st:St eH):Mn X st st:=⟨aH _,fun _ h=>h,fun _ h=>h,fun _ _ _=>rfl,⟨rfl,rfl,rfl,fun _=>.rfl⟩,rfl⟩
theorem Mn.rely{fK st dV:St eH}(h:Mn X fK st)(hr:Rl 0 st dV):Mn X fK dV:=by
 obtain⟨a,b,c,d⟩:=h.main;obtain⟨a',b',c',d'⟩:=hr.main rfl;exact⟨aY h.size hr.size,fun l x=>hr.ex (.inl rfl) l (h.ex l x),fun l x=>hr.rd (.inl rfl) l (h.rd l x),fun b hX hx=>(hr.blk (.inl rfl) b (hx.imp (fun f off=>h.ex _ (f off)) fun f off=>h.rd _ (f off))).trans (h.blk b hX hx),
  ⟨a'.trans a,b'.trans b,c'.trans c,fun x=>(d' x).trans (d x)⟩,(hr.sc (.inl rfl)).trans h.sc⟩
theorem kH.mn{dm num:Nat}{K:List (Nat×Obj)}{fK st:St eH}(h:kH dm num K fK)(k:Mn X fK st)(hK:∀b o,(b,o)∈K->¬X b):kH dm num K st:=by
 obtain⟨a,b,c,d⟩:=k.main;refine⟨k.sc.trans h.sc,a.trans h.mw,b.trans h.dm,c.trans h.num,fun x o hb=>?_,fun x o hb hx=>h.nd x o hb ((d x).1 hx)⟩;obtain⟨h1,h2⟩:=h.fz x o hb;exact⟨(k.blk x (hK x o hb) h2).trans h1,h2.imp (fun f off=>k.ex _ (f off)) fun f off=>k.rd _ (f off)⟩
def U2(q:iU)(ro:Nat->Md)(X:Nat->Prop)(fK:St eH)(ρ:Nat->Option Nat)(st:St eH):Prop:=
 BL q 0 ro ρ st/\Inv q st/\(∀b c,ρ b=some c->ro b=.all->fK.w.heap.size<=c\/X c)/\Mn X fK st/\∀b c,ρ b=some c->¬st.γ.dead c/\(c<fK.w.heap.size->b=c)/\∀n,ro b=.read n->b=c
theorem IQ(S:ak->Bool)(ro:Nat->Md)(fK:St eH)(h₀:Inv q fK):Own (cfg q) S ro 0 (U2 q ro X fK)where
 stable:=fun ρ st dV ⟨h1,h2,h3,h4,h5⟩ hr hi=>by
  obtain⟨a,b⟩:=(AG S 0 ro).stable ρ st dV h1 hr hi;exact⟨⟨a,hi,h3,h4.rely hr,fun b' c' hb=>⟨fun hx=>(h5 b' c' hb).1 (((Rl.main hr rfl).2.2.2 c').1 hx),(h5 b' c' hb).2⟩⟩,b⟩
 lv:=fun ρ st h=>(AG S 0 ro).lv ρ st h.1
 step:=fun ρ st s vN s1 w1 es fn pos ⟨h1,h2,h3,h4,h5⟩ hi m=>by
  obtain⟨a,b,c⟩:=Cs S 0 ro fn pos h1 h2 m;refine⟨st.γ.grow 0 st.w.heap.size w1.heap.size,a,rfl,b,fun k hk hw=>hw,c,a,fun b' c' hb hro=>?_,?_,fun b' c' hb=>?_⟩
  ·rcases m.fresh b' c' hb with h|h
   ·exact h3 b' c' h hro
   ·exact .inl (aY h4.size h.1)
  ·have A:=h₀.base.tr.FI;refine⟨aY h4.size m.size,fun l h=>.inl (h4.ex l h),h4.rd,fun b' hX hx=>?_,h4.main,h4.sc⟩;have hlt:b'<fK.w.heap.size:=by
    rcases hx with hx|hx
    ·exact A.low 0 _ (hx 0) b' rfl
    ·exact A.xO 0 _ (hx 0) b' rfl
   refine(m.keep b' (bU hlt h4.size) fun b'' TL=>?_).trans (h4.blk b' hX hx);have hv:=h1.2.2 b'' b' TL;cases hm:ro b'' with
   |all=>
    rcases h3 b'' b' TL hm with h|h
    ·omega
    ·exact absurd h hX
   |read n=>rfl
   |part f=>rw[hm]at hv;exact hv.elim
  ·rcases m.fresh b' c' hb with h|h
   ·exact h5 b' c' h
   ·exact⟨fun hx=>by have:=h2.base.dead c' hx;have:=h.1;omega,fun hlt=>by have:=h.1;have:=h4.size;omega,fun n hn=>by rw[h.2]at hn;cases hn⟩
def Sh(q:iU)(S:ak->Bool)(Ds:Nat->Bool)(ro:Nat->Md)(X:Nat->Prop)(fK:St eH)(Φ:Act->ae->Prop)(a':Act)(st:St eH):Prop:=
 ∃ρ a s,AR (fun f=>S f=true) ρ (nH Ds a.tmps) (nH Ds a'.tmps)/\a.defers=[]/\a'.defers=[]/\HR q.P.globals.size (fun f=>S f=true) ro ρ s st.w/\U2 q ro X fK ρ st/\(∀b,s.heap.size<=b->ro b=.all)/\∃τ d,Φ a (World.on s τ d)
variable{S:ak->Bool}{Ds:Nat->Bool}{ro:Nat->Md}{fK st:St eH}{Ch:Nat->ah->St eH->Prop}
theorem TT.piece{P:au}(hP:q.P=P)(F:nP P S)(h₀:Inv q fK){Φ N R:Act->ae->Prop}{code:Code}(hc:codeOk P S Ds code=true){b:ai}(hk:b.kind=.normal)(hR:∀fn,P.funcs[b.fn]?=some fn->fn.results.all (yT Ds)=true){a':Act}(h:Sh q S Ds ro X fK Φ a' st)
  (hΦ:∀a w τ d,Φ a w->code.wp P (fun e a w=>(e=.normal/\a.defers=[]/\N a w)\/(e=.ret/\a.defers=[]/\R a w)) a (World.on w τ d)){k:List Item}{cs:List ai}
  (GQ:∀wJ st',Sh q S Ds ro X fK N wJ st'->TT (cfg q) 0 Ch (G (b.at wJ k) cs) st')(GP:∀wJ st' todo,Sh q S Ds ro X fK R wJ st'->TT (cfg q) 0 Ch (G {b.at wJ todo with mode:=.returning} cs) st'):
  TT (cfg q) 0 Ch (G (b.at a' (.code code::k)) cs) st:=by
 subst hP;obtain⟨ρ,a,s,ha,hd,hd',hH,hV,hro,τ0,d0,hφ⟩:=h;refine P8 (C:=cfg q) F (IQ S ro fK h₀) (Q:=fun e a w=>(e=.normal/\a.defers=[]/\N a w)\/(e=.ret/\a.defers=[]/\R a w)) (fun e a w h=>h.imp (fun h=>h.1) fun h=>h.1) hc hR hk hd hd' ha hH hV hro (fun τ d=>hΦ a (World.on s τ0 d0) τ d hφ) ?_ ?_
 ·rintro ρ' a2 wJ s' st'-ha2 hd2 ⟨τ,d,hq⟩ T5 VF Ap;rcases hq with⟨_,h1,h2⟩|⟨h1,_⟩
  ·exact GQ wJ st' ⟨ρ',a2,s',ha2,h1,hd2,T5,VF,Ap,τ,d,h2⟩
  ·cases h1
 ·rintro ρ' a2 wJ s' st' todo-ha2 hd2 ⟨τ,d,hq⟩ T5 VF Ap;rcases hq with⟨h1,_⟩|⟨_,h1,h2⟩
  ·cases h1
  ·exact GP wJ st' todo ⟨ρ',a2,s',ha2,h1,hd2,T5,VF,Ap,τ,d,h2⟩
theorem TT.ret{P:au}(hP:q.P=P)(F:nP P S)(h₀:Inv q fK){fn:Func}{R:af->ae->Prop}{b:ai}(hk:b.kind=.normal)(hfn:P.funcs[b.fn]?=some fn)(TV:fn.results.all (yT Ds)=true){a':Act}(h:Sh q S Ds ro X fK (fun a w=>∃v,(Go.results fn a.tmps).run P w=.ok v w/\R v w) a' st){todo:List Item}{c:ai}{cs:List ai}
  (fin:∀v v' ρ' s' st',HR q.P.globals.size (fun f=>S f=true) ro ρ' s' st'.w->U2 q ro X fK ρ' st'->VR (fun f=>S f=true) ρ' v v'->(∃τ d,R v (World.on s' τ d))->TT (cfg q) 0 Ch (G (c.finish v') cs) st'):
  TT (cfg q) 0 Ch (G {b.at a' todo with mode:=.returning} (c::cs)) st:=by
 subst hP;obtain⟨ρ',a,s',Bz,nJ,nR,T5,VF,Ap,τ,d,v,hres,hR⟩:=h;have pv:=IQ (q:=q) (X:=X) S ro fK h₀;refine TT.step fun dV hr hi=>?_;obtain⟨hV1,hst⟩:=pv.stable ρ' st dV VF hr hi;refine⟨fun hl=>absurd hl (pv.lv _ _ hV1),?_⟩;have zo:=hst s' T5;have hA:HR q.P.globals.size (fun f=>S f=true) ro ρ' (World.on s' τ d) (World.on dV.w τ d):=⟨zo.inj,zo.row,zo.hole,zo.low,zo.gs,zo.gw⟩;have hB:HR q.P.globals.size (fun f=>S f=true) ro ρ' (World.on s' dV.w.tape dV.w.drawn) dV.w:=⟨zo.inj,zo.row,zo.hole,zo.low,zo.gs,zo.gw⟩;have e1:=pC (xs:=a.tmps) TV;have e2:=pC (xs:=a'.tmps) TV;have SA:=SR.results (P:=q.P) (ro:=ro) (a:=uK Ds a) (a':=uK Ds a') Bz fn _ _ hA rfl rfl Ap;have SB:=SR.results (P:=q.P) (ro:=ro) (a:=uK Ds a) (a':=uK Ds a') Bz fn _ _ hB rfl rfl Ap;simp only[uK,e1,e2]at SA SB;obtain⟨-,n,hn,hl⟩:=SA.2.2 v _ hres;have hn0:n=0:=by have:d=d+n:=hn;omega
 subst hn0;have Tk:(Go.results fn a.tmps).run q.P (World.on s' dV.w.tape dV.w.drawn)=.ok v (World.on s' dV.w.tape dV.w.drawn):=(hl dV.w.tape dV.w.drawn fun j hj=>by omega).1;obtain⟨vN,v',w1,h1,h2,h3⟩:=SB.1 v _ Tk;have m:=h2.sub (es':=seen q.P b.fn ((Go.results fn a'.tmps).events q.P dV.w #[])) fun e he=>mem_seen he;obtain⟨γ',i1,i2,i3,i4,i5⟩:=pv.step ρ' dV _ vN _ w1 _ b.fn "" hV1 hi m;refine je.own (C:=cfg q) (lY hk nR hfn h1) rfl i1 i2 i3 (.inr i4) ?_;exact fin v v' vN (World.on s' dV.w.tape dV.w.drawn) _ h2.hr i5 h3 ⟨τ,d,hR⟩
def wpT(P:au)(N R:Act->ae->Prop):List Code->Act->ae->Prop
 |[],a,w=>N a w
 |c::cs,a,w=>∀τ d,c.wp P (fun e a w=>(e=.normal/\a.defers=[]/\wpT P N R cs a w)\/(e=.ret/\a.defers=[]/\R a w)) a (World.on w τ d)
theorem TT.pieces{P:au}(hP:q.P=P)(F:nP P S)(h₀:Inv q fK){N R:Act->ae->Prop}{b:ai}(hk:b.kind=.normal)(hR:∀fn,P.funcs[b.fn]?=some fn->fn.results.all (yT Ds)=true){T:Code}{k:List Item}{cst:List ai}
  (GQ:∀wJ st',Sh q S Ds ro X fK N wJ st'->TT (cfg q) 0 Ch (G (b.at wJ (.code T::k)) cst) st')(GP:∀wJ st' todo,Sh q S Ds ro X fK R wJ st'->TT (cfg q) 0 Ch (G {b.at wJ todo with mode:=.returning} cst) st'):
  ∀(cs:List Code),(∀c∈cs,codeOk P S Ds c=true)->∀(a':Act) (st:St eH),Sh q S Ds ro X fK (wpT P N R cs) a' st->TT (cfg q) 0 Ch (G (b.at a' (.code (Ah cs T)::k)) cst) st
 |[],_,a',st,h=>GQ a' st h
 |c::cs,hc,a',st,h=>by
  subst hP;refine TT.oX rfl 4 fun w₀ hF=>Goes.step rfl fun w₁ hw=>?_;show(stepG q.P (0==0) (G (b.at a' (.code (.seq c (Ah cs T))::k)) cst) w₁).goes _;rw[stepG_seq];refine⟨⟨rfl,rfl⟩,Goes.stop fun w₂ _=>⟨rfl,?_⟩⟩;refine TT.piece rfl F h₀ (hc c (by simp)) hk hR h (fun a w τ d h=>h τ d) (fun wJ st' h'=>TT.pieces rfl F h₀ hk hR GQ GP cs (fun c' h=>hc c' (by simp[h])) wJ st' h') GP
end
end
section
open Go.ConcM (OsLater)
def XN(size:Nat):eH:={num:=1,sc:=none,wk:=fun _=>.new,mw:=.solo,dm:=0,D:=0,L:=0,W:=0,S:=0,N:=0,tn:=0,th:=0,gs:=0,gm:=0,ex:=fun g l=>g=0/\l.isMemory=true/\∃b,im l=some b/\b<size,rd:=fun _ _=>False,sh:=fun _ _=>False,dead:=fun _=>False}
section
variable{q:iU}
theorem Inv.start{w:ae}{t:Trace}(h:∀op∈t,op.g=0)(hd:Deaf t 0=0)(JU:q.P.globals.size<=w.heap.size)(hos:OsLater q.os0 w.os)(hout:w.output=q.Wn):Inv q ⟨w,t,XN w.heap.size⟩:=by
 have own:∀(i:Nat) (op:MemOp),t[i]?=some op->op.g=0:=fun i op hi=>h op (bH hi);have kn:∀i a,touchAt t i=some a->Knows t 0 i:=fun i a ha=>by
  obtain⟨x,hx,_⟩:=touch_of ha;have:=knows_own hx
  rwa [own i x hx]at this
 have gq:∀i a,touchAt t i=some a->t.g? i=some 0:=fun i a ha=>by
  obtain⟨x,hx,_⟩:=touch_of ha;simp only[cX,hx,cJ,own i x hx]
 have hall:t.allBy 0:=fun i x hx=>by
  have:touchAt t i=some x:=hx
  exact gq i x this
 refine⟨⟨by show 0<1;omega,⟨fun said=>not_race_of_allBy hall,⟨fun g g' l a b=>a.1.trans b.1.symm,fun _ _ _ _ x=>x,fun _ _ _ _ x=>x,fun _ _ _ _ x=>x,fun g l a b hb=>?_,fun _ _ x=>x.elim,fun _ _ x=>x.elim,fun g l a=>?_⟩,fun g l a i x hx _=>?_,fun _ _ x=>x.elim,fun _ _ x=>x.elim,fun i a ha b hb=>.inr fun g hg=>?_,fun i op hi=>?_,fun i op hi a e k hk=>?_⟩,JU,hd,fun j a b=>?_,fun j hj=>?_,hos,hout,fun j a b=>?_,fun b x=>x.elim,fun i a ha _=>.inr (.inl (kn i a ha)),fun i g hg hne _ _=>?_,fun g l a=>?_,fun j _=>.inl rfl,fun j _=>rfl,fun i a ha _=>gq i a ha,fun s hs=>by cases hs⟩,⟨fun _=>rfl,fun _=>rfl⟩,fun s hs=>by cases hs⟩
 ·obtain⟨_,_,b',hb',hlt⟩:=a;rw[hb]at hb';cases hb';exact hlt
 ·rcases a with a|a|a
  ·exact a.2.1
  ·exact a.elim
  ·exact a.elim
 ·rw[a.1];exact kn i x hx
 ·have hg:g<1:=hg;obtain rfl:g=0:=by omega
  exact kn i a ha
 ·show op.g<1;rw[own i op hi];omega
 ·have hlt:k<t.size:=Nat.lt_of_le_of_lt hk (lt_size_of_getElem? hi);have hx:t[k]?=some t[k]:=aI hlt;simp only[cX,hx,cJ,own k _ hx]
 ·have b:j<1:=b;omega
 ·cases hj
 ·have b:j<1:=b;omega
 ·obtain⟨op,ho,e⟩:=Option.map_eq_some_iff.1 hg;exact absurd (e.symm.trans (own i op ho)) hne
 ·show g<1;rcases a with a|a|a
  ·rw[a.1];omega
  ·exact a.elim
  ·exact a.elim
theorem TT.ends{P:au}(hP:q.P=P){num:Nat}{K:List (Nat×Obj)}{Ch:Nat->ah->St eH->Prop}{g:ah}{st:St eH}(hA:kH 0 num K st)
  (h:∀dV,Rl 0 st dV->kH 0 num K dV->Inv q dV->∃v w',stepG P (0==0) g dV.w=.ended (.done v) w' #[]/\q.Post v w'):TT (cfg q) 0 Ch g st:=by
 subst hP;refine TT.step fun dV hr hi=>⟨fun hl=>absurd rfl hl.1,?_⟩;have hr:Rl 0 st dV:=hr;have hi:Inv q dV:=hi;have dY:=hA.rely hr;obtain⟨v,w',h1,h2⟩:=h dV hr dY hi;have hold:dV.γ.old=dV.γ.num:=by unfold eH.old;rw[dY.sc]
 unfold je;rw[show stepG (cfg q).P (0==0) g dV.w=_ from h1];refine⟨rfl,⟨v,rfl,h2⟩,fun said=>?_,?_,fun j h0 hj=>⟨by omega,hi.base.old j h0 (by rw[hold];exact hj)⟩⟩
 ·rw[ofEvents_none,Array.append_empty];exact hi.base.tr.nr said
 ·rw[ofEvents_none,Array.append_empty];intro i g' hg hne hc;refine hi.base.ho i g' hg hne ?_ hc;rw[hold];obtain⟨op,ho,e⟩:=Option.map_eq_some_iff.1 hg;have:=hi.base.tr.gs i op ho
  omega
theorem Pq{f:ak}{args:Array af}{w:ae}{n:Nat}{g:ah}{w₁:ae}{t₁:Trace}(hpre:runNT q.P n (solo (G (bQ q.P f args .normal) []) w) #[]=(.next (solo g w₁),t₁))(hs:g.status=.running)(hall:∀op∈t₁,op.g=0)(hd:Deaf t₁ 0=0)
  (JU:q.P.globals.size<=w₁.heap.size)(hos:OsLater q.os0 w₁.os)(hout:w₁.output=q.Wn)
  (hT:∀st:St eH,st.w=w₁->Inv q st->(∀K,(∀b o,(b,o)∈K->w₁.heap[b]?=some o)->kH 0 1 K st)->(∀l b,l.isMemory=true->im l=some b->b<w₁.heap.size->st.γ.ex 0 l)->(∀b,¬st.γ.dead b)->TT (cfg q) 0 (TW (cfg q)) g st):
  ∃M last o w' t',runNT q.P (M+1) (solo (G (bQ q.P f args .normal) []) w) #[]=(.ended o w',t')/\runN q.P M (solo (G (bQ q.P f args .normal) []) w)=.next last/\Go.step q.P last=.ended o w'/\Conc.Good q.P q.Post last o w' t':=by
 have hI:Inv q ⟨w₁,t₁,XN w₁.heap.size⟩:=Inv.start hall hd JU hos hout;obtain⟨r,hr⟩:=hT ⟨w₁,t₁,XN w₁.heap.size⟩ rfl hI (fun K hK=>⟨rfl,rfl,rfl,rfl,fun b o hb=>⟨hK b o hb,.inl fun off=>⟨rfl,rfl,b,rfl,lt_of_block (hK b o hb)⟩⟩,fun b o hb x=>x⟩) (fun l b m1 m2 m3=>⟨rfl,m1,b,m2,m3⟩) (fun b x=>x);have hM:MI (cfg q) (r,[],running #[g]) (crowd #[g] w₁ none) t₁:=by
  refine .mk r [] #[g] w₁ none t₁ (XN w₁.heap.size) rfl rfl hI fun i g' hi=>?_;match i,hi with
  |0,hi=>
   simp at hi;subst hi;exact .inl ⟨hs,by unfold TA;rw[if_pos rfl];exact hr⟩
  |i+1,hi=>simp at hi
 obtain⟨N,last,o,w',t',h1,h2,h3,h4⟩:=hM.runs Du;rw[<-solo_eq_crowd]at h1 h2;refine⟨n+N,last,o,w',t',?_,?_,h3,h4⟩
 ·rw[show n+N+1=n+(N+1) by omega,runNT_add,hpre];exact h1
 ·rw[runN_add];have:runN q.P n (solo (G (bQ q.P f args .normal) []) w)=.next (solo g w₁):=by rw[<-runNT_fst,hpre]
  rw[this];exact h2
end
end
section
noncomputable def iJ(w:ae)(md:Nat->Option Md):ae:=
 {w with heap:=Array.ofFn (n:=w.heap.size) fun b=>match md b.1,w.heap[b.1]? with
   |some .all,some (.cells C e _)=>.cells C e (0,0)
   |some (.read n),some (.cells C e _)=>.cells (C.extract 0 n) e (0,n)
   |_,_=>.coro none}
def zi(md:Nat->Option Md):Nat->Option Nat:=fun b=>if(md b).isSome then some b else none
def tQ(md:Nat->Option Md):Nat->Md:=fun b=>(md b).getD .all
theorem om(w:ae)(md:Nat->Option Md):(iJ w md).heap.size=w.heap.size:=by simp[iJ]
theorem EL{w:ae}{md:Nat->Option Md}{b:Nat}{C:Array af}{e:aj}{fz:Nat×Nat}(hv:md b=some .all)(h:w.heap[b]?=some (.cells C e fz)):(iJ w md).heap[b]?=some (.cells C e (0,0)):=by
 have hlt:=lt_of_block h;have he:w.heap[b]=.cells C e fz:=by rw[aI hlt]at h;exact Option.some.inj h
 simp[iJ,hlt,hv,he]
theorem Ci{w:ae}{md:Nat->Option Md}{b n:Nat}{C:Array af}{e:aj}{fz:Nat×Nat}(hv:md b=some (.read n))(h:w.heap[b]?=some (.cells C e fz)):(iJ w md).heap[b]?=some (.cells (C.extract 0 n) e (0,n)):=by
 have hlt:=lt_of_block h;have he:w.heap[b]=.cells C e fz:=by rw[aI hlt]at h;exact Option.some.inj h
 simp[iJ,hlt,hv,he]
theorem K6{w:ae}{md:Nat->Option Md}{b:Nat}(hv:md b=none):(iJ w md).heap[b]?=none\/∃x,(iJ w md).heap[b]?=some (.coro x):=by
 rcases bA b w.heap.size with h|h
 ·exact .inr ⟨none,by simp[iJ,h,hv]⟩
 ·exact .inl (by simp[iJ,h])
theorem iP{md:Nat->Option Md}{b:Nat}{m:Md}(h:md b=some m):zi md b=some b:=by simp[zi,h]
theorem kD{md:Nat->Option Md}{b c:Nat}(h:zi md b=some c):b=c/\∃m,md b=some m:=by
 unfold zi at h;split at h
 ·rename_i e;cases h;exact⟨rfl,Option.isSome_iff_exists.1 e⟩
 ·cases h
section
variable{q:iU}{S:ak->Bool}
def a03(st:St eH)(b:Nat):Prop:=∀l,im l=some b->l.isMemory=true->st.γ.ex 0 l
def yH(q:iU)(S:ak->Bool)(md:Nat->Option Md)(st:St eH):Prop:=
 ∀b m,md b=some m->q.P.globals.size<=b/\¬st.γ.dead b/\∃C e fz,st.w.heap[b]?=some (.cells C e fz)/\match m with
  |.all=>fz=(0,0)/\a03 st b/\∀(k:Nat) (v:af),C[k]?=some v->VR (fun f=>S f=true) (zi md) v v
  |.read n=>n<=C.size/\((∀off,st.γ.rd 0 (ca b off))\/∀off,st.γ.ex 0 (ca b off))/\∀(k:Nat) (v:af),k<n->C[k]?=some v->VR (fun f=>S f=true) (zi md) v v
  |.part _=>False
theorem yH.hr{md:Nat->Option Md}{st:St eH}(h:yH q S md st)(hi:Inv q st):HR q.P.globals.size (fun f=>S f=true) (tQ md) (zi md) (iJ st.w md) st.w where
 inj:=fun b b' c h1 h2=>(kD h1).1.trans (kD h2).1.symm
 row:=fun b c hb=>by
  obtain⟨rfl,m,hm⟩:=kD hb;obtain⟨-,-,C,e,fz,h1,h2⟩:=h b m hm;have hro:tQ md b=m:=by simp[tQ,hm]
  cases m with
  |all=>
   obtain⟨rfl,_,h3⟩:=h2;refine⟨_,_,EL hm h1,h1,?_⟩;rw[hro];exact .cells nle (fun k v hk=>⟨v,hk,h3 k v hk⟩) (fun _=>⟨rfl,rfl⟩) fun n hn=>by cases hn
  |read n=>
   obtain⟨hn,_,h3⟩:=h2;refine⟨_,_,Ci hm h1,h1,?_⟩;have hsz:(C.extract 0 n).size=n:=by simp<;>omega
   have:OR (fun f=>S f=true) (tQ md b) (zi md) (.cells (C.extract 0 n) e (0,(tQ md b).hi (C.extract 0 n).size)) (.cells C e fz):=by
    refine .cells (by rw[hsz];exact hn) (fun k v hk=>?_) (fun x=>by rw[hro]at x;cases x) (fun m hm=>by rw[hro]at hm;cases hm;exact hsz);have hlt:=(Array.getElem?_eq_some_iff.1 hk).1;rw[dK]at hk;split at hk
    ·simp at hk<;>exact⟨v,hk,h3 k v (by omega) hk⟩
    ·cases hk
   rw[hro,Md.hi,hsz]at this;rwa [hro]
  |part f=>exact h2.elim
 hole:=fun b hb=>K6 (by
  cases hv:md b with
  |none=>rfl
  |some n=>rw[iP hv]at hb;cases hb)
 low:=fun b c hb=>by obtain⟨rfl,m,hm⟩:=kD hb;exact⟨(h b m hm).1,(h b m hm).1⟩
 gs:=by rw[om];exact hi.base.JU
 gw:=hi.base.JU
theorem yH.lH{md:Nat->Option Md}{st:St eH}(h:yH q S md st)(hi:Inv q st):BL q 0 (tQ md) (zi md) st:=by
 refine⟨hi.base.pos,.inl rfl,fun b c hb=>?_⟩;obtain⟨rfl,m,hm⟩:=kD hb;have hro:tQ md b=m:=by simp[tQ,hm]
 rw[hro];obtain⟨-,-,C,e,fz,h1,h2⟩:=h b m hm;cases m with
 |all=>exact h2.2.1
 |read n=>exact h2.2.1.imp id .inl
 |part f=>exact h2
theorem yH.ro{md:Nat->Option Md}{st:St eH}(h:yH q S md st):∀b,(iJ st.w md).heap.size<=b->tQ md b=.all:=fun b hb=>by
 unfold tQ;cases hv:md b with
 |none=>rfl
 |some m=>
  obtain⟨-,-,C,e,fz,h1,-⟩:=h b m hv;have:=lt_of_block h1
  rw[om]at hb;omega
theorem Sh.make{md:Nat->Option Md}{st:St eH}(h:yH q S md st)(hi:Inv q st){X:Nat->Prop}(hX:∀b,md b=some .all->X b){Ds:Nat->Bool}{Φ:Act->ae->Prop}{a a':Act}(ha:AR (fun f=>S f=true) (zi md) (nH Ds a.tmps) (nH Ds a'.tmps))(hd:a.defers=[])(hd':a'.defers=[])
  (hΦ:Φ a (World.on (iJ st.w md) st.w.tape st.w.drawn)):Sh q S Ds (tQ md) X st Φ a' st:=by
 refine⟨zi md,a,iJ st.w md,ha,hd,hd',h.hr hi,⟨h.lH hi,hi,fun b c hb hro=>?_,Mn.refl st,fun b c hb=>?_⟩,h.ro,_,_,hΦ⟩
 ·obtain⟨rfl,m,hm⟩:=kD hb;have:tQ md b=m:=by simp[tQ,hm]
  rw[this]at hro;exact .inr (hX b (by rw[hm,hro]))
 ·obtain⟨rfl,m,hm⟩:=kD hb;exact⟨(h b m hm).2.1,fun _=>rfl,fun _ _=>rfl⟩
theorem kH.more{dm num:Nat}{K:List (Nat×Obj)}{st:St eH}(h:kH dm num K st){b:Nat}{o:Obj}(hb:st.w.heap[b]?=some o)(he:(∀off,st.γ.ex 0 (ca b off))\/∀off,st.γ.rd 0 (ca b off))(hd:¬st.γ.dead b):kH dm num ((b,o)::K) st:=by
 refine⟨h.sc,h.mw,h.dm,h.num,fun b' o' hb'=>?_,fun b' o' hb'=>?_⟩
 ·rcases List.mem_cons.1 hb' with e|e
  ·cases e;exact⟨hb,he⟩
  ·exact h.fz _ _ e
 ·rcases List.mem_cons.1 hb' with e|e
  ·cases e;exact hd
  ·exact h.nd _ _ e
theorem kH.sub{dm num:Nat}{K K':List (Nat×Obj)}{st:St eH}(h:kH dm num K st)(hs:∀b o,(b,o)∈K'->(b,o)∈K):kH dm num K' st:=⟨h.sc,h.mw,h.dm,h.num,fun b o hb=>h.fz b o (hs b o hb),fun b o hb=>h.nd b o (hs b o hb)⟩
end
end
section
section
variable{S:ak->Bool}{ρ:Nat->Option Nat}{ro:Nat->Md}{G:Nat}{s w:ae}
theorem HR.mK(h:HR G (fun f=>S f=true) ro ρ s w){b:Nat}(hro:ro b=.all){C:Array af}{e:aj}{fz:Nat×Nat}(hb:s.heap[b]?=some (.cells C e fz)):∃c C',ρ b=some c/\w.heap[c]?=some (.cells C' e (0,0))/\AR (fun f=>S f=true) ρ C C':=by
 cases hρ:ρ b with
 |none=>rcases h.hole b hρ with h1|⟨x,h1⟩<;>rw[hb]at h1<;>cases h1
 |some c=>
  obtain⟨o,o',h1,h2,h3⟩:=h.row b c hρ;rw[hb]at h1;cases h1;rw[hro]at h3;cases h3 with
  |cells k3 k4 k5 k6=>
   obtain⟨e1,e2⟩:=k5 rfl;subst e2;exact⟨c,_,rfl,h2,e1,fun i v v' a b=>by obtain⟨z,hz,hr⟩:=k4 i v a;rw[hz]at b;cases b;exact hr⟩
theorem VR.D7{b off:Nat}{sp:Option Nat}{v:af}(h:VR (fun f=>S f=true) ρ (.pointer (some ⟨b,off,sp⟩)) v):∃c,ρ b=some c/\v=.pointer (some ⟨c,off,sp⟩):=by
 cases h with
 |ptr _ _ h=>exact⟨_,h,rfl⟩
theorem VR.yQ{b off l k:Nat}{sp:Option Nat}{v:af}(h:VR (fun f=>S f=true) ρ (.slice (some ⟨b,off,sp⟩) l k) v):∃c,ρ b=some c/\v=.slice (some ⟨c,off,sp⟩) l k:=by
 cases h with
 |slice _ _ _ _ h=>exact⟨_,h,rfl⟩
theorem VR.be8{m:ByteArray}{v:af}(h:VR (fun f=>S f=true) ρ (.string m) v):v=.string m:=by cases h;rfl
theorem VR.ac3{v:af}(h:VR (fun f=>S f=true) ρ Go.undef v):v=Go.undef:=by
 cases h with
 | @tuple _ x' hx _=>
  have:x'=#[]:=Array.eq_empty_of_size_eq_zero (by simpa using hx.symm)
  rw[this];rfl
theorem AR.sl{x x':Array af}(h:AR (fun f=>S f=true) ρ x x'){i:Nat}{v:af}(hv:x[i]?=some v):∃v',x'[i]?=some v'/\VR (fun f=>S f=true) ρ v v':=h.get hv
theorem Mi{D:Nat->Bool}{x x':Array af}(hs:x.size=x'.size)(h:∀i v v',D i=false->x[i]?=some v->x'[i]?=some v'->VR (fun f=>S f=true) ρ v v'):AR (fun f=>S f=true) ρ (nH D x) (nH D x'):=by
 refine⟨by simp[nH,hs],fun i v v' h1 h2=>?_⟩;unfold nH at h1 h2;rw[Array.getElem?_mapIdx]at h1 h2;cases hx:x[i]? with
 |none=>rw[hx]at h1;cases h1
 |some a=>
  cases hx':x'[i]? with
  |none=>rw[hx']at h2;cases h2
  |some a'=>
   rw[hx]at h1;rw[hx']at h2;simp only[cJ,Option.some.injEq]at h1 h2;cases hD:D i with
   |true=>rw[hD]at h1 h2;simp only[if_true]at h1 h2;rw[<-h1,<-h2];exact VR.undef
   |false=>
    rw[hD]at h1 h2;simp only[Bool.false_eq_true,if_false]at h1 h2;rw[<-h1,<-h2];exact h i a a' hD hx hx'
theorem jv{q:iU}{X:Nat->Prop}{fK st:St eH}(hV:U2 q ro X fK ρ st){b c:Nat}(hb:ρ b=some c)(hro:ro b=.all)(hge:fK.w.heap.size<=b):fK.w.heap.size<=c/\(∀l,im l=some c->l.isMemory=true->st.γ.ex 0 l)/\¬st.γ.dead c:=by
 obtain⟨h1,h2,h3,h4,h5⟩:=hV;refine⟨?_,?_,(h5 b c hb).1⟩
 ·rcases bA c fK.w.heap.size with h|h
  ·have:=(h5 b c hb).2.1 h;omega
  ·exact h
 ·have:=h1.2.2 b c hb
  rw[hro]at this;exact this
end
end
end Cc
namespace Cc
open Go.Conc
noncomputable def ky:Code:=Try.f27.body.getD .skip
noncomputable def vK:Code:=match(iw 12 ky).2 with|.seq a _=>a|_=>.skip
noncomputable def sF:Code:=match(iw 12 ky).2 with|.seq _ b=>b|_=>.skip
noncomputable def OU:Code:=match vK with|.seq _ b=>b|_=>.skip
noncomputable def Kv:Code:=match OU with|.block _ (.loop c)=>c|_=>.skip
noncomputable def xq:Code:=match sF with|.seq _ b=>b|_=>.skip
end Cc
namespace Pl
def pw(a:Int)(n:Nat)(m:Int):Int:=a^n%m
def smul(a b:Int):Int:=IntKind.u64.wrap (a*b)%1073741789
def mE(a b:Int):Int:=IntKind.u64.wrap (a+b)%1073741789
def Ph(a b:Int):Int:=IntKind.u64.wrap (IntKind.u64.wrap (a+1073741789)-b)%1073741789
def mI(a b:Int):Int:=IntKind.u64.wrap (a*b)%2147483579
theorem lC(x:Int):0<=IntKind.u64.wrap x:=by rw[IntKind.wrap_u64];omega
theorem kU{x:Int}(h:0<=x)(h':x<18446744073709551616):IntKind.u64.wrap x=x:=by rw[IntKind.wrap_u64];omega
theorem lZ(a b:Int):0<=smul a b/\smul a b<1073741789:=by unfold smul;omega
theorem Az(a b:Int):0<=mE a b/\mE a b<1073741789:=by unfold mE;omega
theorem BF(a b:Int):0<=mI a b/\mI a b<2147483579:=by unfold mI;omega
theorem nL(a:Int)(n:Nat){m:Int}(h:0<m):0<=pw a n m/\pw a n m<m:=by
 unfold pw;exact⟨Int.emod_nonneg _ (by omega),Int.emod_lt_of_pos _ h⟩
theorem mul_lt{a b A B:Int}(h0:0<=a)(h1:a<A)(h2:0<=b)(h3:b<B):0<=a*b/\a*b<A*B:=by
 refine⟨Int.mul_nonneg h0 h2,?_⟩;have h4:a*b<=a*B:=Int.mul_le_mul_of_nonneg_left (by omega) h0;have h5:a*B<A*B:=Int.mul_lt_mul_of_pos_right h1 (by omega);omega
theorem Jl{a b:Int}(h0:0<=a)(h1:a<4294967296)(h2:0<=b)(h3:b<4294967296):IntKind.u64.wrap (a*b)=a*b:=by
 have h:=mul_lt h0 h1 h2 h3;exact kU h.1 (by have:=h.2;omega)
theorem lu{a b:Int}(h0:0<=a)(h1:a<4294967296)(h2:0<=b)(h3:b<4294967296):smul a b=a*b%1073741789:=by
 unfold smul;rw[Jl h0 h1 h2 h3]
theorem vF{a b:Int}(h0:0<=a)(h1:a<4294967296)(h2:0<=b)(h3:b<4294967296):mI a b=a*b%2147483579:=by
 unfold mI;rw[Jl h0 h1 h2 h3]
theorem iA(a b m:Int):a%m*b%m=a*b%m:=by
 rw[dA,cM _ (Int.dvd_refl m),<-dA]
theorem oL(a b m:Int):a*(b%m)%m=a*b%m:=by
 rw[dA,cM _ (Int.dvd_refl m),<-dA]
theorem pow_mod(a:Int)(n:Nat)(m:Int):(a%m)^n%m=a^n%m:=by
 induction n with
 |zero=>rw[Int.pow_zero,Int.pow_zero]
 |succ n ih=>rw[Int.pow_succ,Int.pow_succ,dA,ih,cM _ (Int.dvd_refl m),<-dA]
theorem af4(a:Int)(n:Nat)(m:Int):pw (a%m) n m=pw a n m:=pow_mod a n m
theorem AA(a:Int){m:Int}(h:1<m):pw a 0 m=1:=by unfold pw;rw[Int.pow_zero];exact Int.emod_eq_of_lt (by omega) h
theorem wP(a:Int)(k n:Nat)(m:Int):pw a k m*pw a n m%m=pw a (k+n) m:=by
 unfold pw;rw[<-dA,Int.pow_add]
theorem M3(a:Int)(n:Nat)(m:Int)(h:n%2=0):pw a n m=pw a (n/2) m*pw a (n/2) m%m:=by
 rw[wP];congr 1;omega
theorem R9(a:Int)(n:Nat)(m:Int)(h:n%2=1):pw a n m=pw a (n/2) m*pw a (n/2) m%m*a%m:=by
 rw[wP];have e:n=n/2+n/2+1:=by omega
 conv=>lhs;rw[e]
 unfold pw;rw[Int.pow_succ,iA]
theorem y9(o a:Int)(n:Nat)(m:Int)(h:n%2=0):o*(a*a%m)^(n/2)%m=o*a^n%m:=by
 have e:a^n=(a*a)^(n/2):=by
  rw[Int.mul_pow,<-Int.pow_add];congr 1;omega
 rw[e,dA,pow_mod,<-dA]
theorem CI(o a:Int)(n:Nat)(m:Int)(h:n%2=1):(o*a%m)*(a*a%m)^(n/2)%m=o*a^n%m:=by
 have e:a^n=a*(a*a)^(n/2):=by
  rw[Int.mul_pow,<-Int.pow_add,Int.mul_comm,<-Int.pow_succ];congr 1;omega
 rw[iA,dA,pow_mod,<-dA,e,Int.mul_assoc]
theorem OP(k:Nat)(h:k<18446744073709551616):bits aZ IntKind.u64 (k:Int) 1=(k:Int)%2:=
 Go.and_one_u64 _ (by omega) (by omega)
theorem ET(a:Nat)(ha:a<9223372036854775808):(BitVec.ofInt 64 (a:Int)).toNat=a:=by
 rw[BitVec.ofInt_natCast,BitVec.toNat_ofNat];exact Nat.mod_eq_of_lt (by omega)
theorem JB(a b:Nat)(ha:a<9223372036854775808)(hb:b<9223372036854775808):bits .and .i64 (a:Int) (b:Int)=((a&&& b:Nat):Int):=by
 have hx:a&&& b<2^63:=Nat.and_lt_two_pow _ (by omega);show IntKind.i64.wrap ((BitVec.ofInt 64 (a:Int)&&& BitVec.ofInt 64 (b:Int)).toNat:Int)=_;rw[BitVec.toNat_and,ET a ha,ET b hb,IntKind.wrap_i64];omega
theorem Ae(k:Nat)(h:k<9223372036854775808):bits aZ IntKind.i64 (k:Int) 1=(k:Int)%2:=by
 have h1:=JB k 1 h (by omega);rw[Nat.and_one_is_mod]at h1;exact h1.trans (by omega)
def qq:Nat:=1073741789
def KJ:Nat:=1073741787
theorem aH0:qq<18446744073709551616:=by unfold qq;omega
def jQ(n:Int):Bool:=decide (0<n/\n<2147483579/\pw n qq 2147483579=1)
def iH(n:Int):Bool:=jQ n&&decide (n≠1)
def jG(l:List Int)(x:Int):Int:=l.foldr (fun c acc=>mE (smul acc x) c) 0
def vR(x:Int):Nat->Int
 |0=>1
 |j+1=>vR x j*x%1073741789
def Ge(l:List Int)(x:Int):Nat->Int
 |0=>0
 |j+1=>(Ge l x j+l.getD j 0*vR x j)%1073741789
theorem tX(x:Int)(j:Nat):0<=vR x j/\vR x j<1073741789:=by
 cases j with
 |zero=>unfold vR;omega
 |succ j=>unfold vR;omega
theorem ae6(l:List Int)(x:Int)(j:Nat):0<=Ge l x j/\Ge l x j<1073741789:=by
 cases j with
 |zero=>unfold Ge;omega
 |succ j=>unfold Ge;omega
def mr(ids:List Int)(k:Nat):Nat->Int
 |0=>1
 |j+1=>if j=k then mr ids k j else smul (mr ids k j) (IntKind.u64.wrap (ids.getD j 0))
def iZ(ids:List Int)(k:Nat):Nat->Int
 |0=>1
 |j+1=>if j=k then iZ ids k j else smul (iZ ids k j) (Ph (IntKind.u64.wrap (ids.getD j 0)) (IntKind.u64.wrap (ids.getD k 0)))
def iq(ids:List Int)(k:Nat):Int:=smul (mr ids k ids.length) (pw (iZ ids k ids.length) KJ 1073741789)
theorem Jt(ids:List Int)(k j:Nat):0<=mr ids k j/\mr ids k j<1073741789:=by
 induction j with
 |zero=>unfold mr;omega
 |succ j ih=>
  unfold mr;split
  ·exact ih
  ·exact lZ _ _
theorem CO(ids:List Int)(k j:Nat):0<=iZ ids k j/\iZ ids k j<1073741789:=by
 induction j with
 |zero=>unfold iZ;omega
 |succ j ih=>
  unfold iZ;split
  ·exact ih
  ·exact lZ _ _
theorem CN(ids:List Int)(k:Nat):mr ids k (k+1)=mr ids k k:=by rw[mr,if_pos rfl]
theorem yo(ids:List Int)(k:Nat):iZ ids k (k+1)=iZ ids k k:=by rw[iZ,if_pos rfl]
theorem CM(ids:List Int){k j:Nat}(h:j≠k):mr ids k (j+1)=smul (mr ids k j) (IntKind.u64.wrap (ids.getD j 0)):=by rw[mr,if_neg h]
theorem yn(ids:List Int){k j:Nat}(h:j≠k):iZ ids k (j+1)=smul (iZ ids k j) (Ph (IntKind.u64.wrap (ids.getD j 0)) (IntKind.u64.wrap (ids.getD k 0))):=by rw[iZ,if_neg h]
def Rq(ids:List Int)(k:Nat):Nat->Int
 |0=>1
 |j+1=>if j=k then Rq ids k j else Rq ids k j*ids.getD j 0%1073741789*pw ((ids.getD j 0+1073741789-ids.getD k 0)%1073741789) KJ 1073741789%1073741789
theorem H5(ids:List Int)(k:Nat):Rq ids k (k+1)=Rq ids k k:=by rw[Rq,if_pos rfl]
theorem H3(ids:List Int){k j:Nat}(h:j≠k):Rq ids k (j+1)=Rq ids k j*ids.getD j 0%1073741789*pw ((ids.getD j 0+1073741789-ids.getD k 0)%1073741789) KJ 1073741789%1073741789:=by rw[Rq,if_neg h]
def weight(ids:List Int)(k:Nat):Int:=Rq ids k ids.length
def vO(first:Int)(l:List Int):Nat->Int
 |0=>first
 |j+1=>mE (vO first l j) (l.getD j 0)
def pg(first:Int)(l:List Int):Nat->Int
 |0=>first
 |j+1=>mI (pg first l j) (l.getD j 0)
def mix(h b:Int):Int:=IntKind.u64.wrap (bits BinOp.xor IntKind.u64 h b*1099511628211)
def dv(n:Int):Nat->Int
 |0=>n
 |j+1=>dv n j/256
def Gn(h n:Int):Nat->Int
 |0=>h
 |j+1=>mix (Gn h n j) (dv n j%256)
def wA(h:Int)(l:List Int):Nat->Int
 |0=>h
 |k+1=>Gn (wA h l k) (l.getD k 0) 8
def gu(s:ByteArray)(k:Nat):Int:=if h:k<s.size then(s[k].toNat:Int)else 0
def oW(h:Int)(s:ByteArray):Nat->Int
 |0=>h
 |k+1=>mix (oW h s k) (gu s k)
theorem K0(h:Int)(s:ByteArray){k:Nat}(hk:k<s.size):oW h s (k+1)=mix (oW h s k) (s[k].toNat:Int):=by
 show mix (oW h s k) (gu s k)=_;rw[gu,dif_pos hk]
def Ui:Int:=14695981039346656037
def uR(tag:Int)(s:ByteArray)(l:List Int):Int:=oW (wA (mix Ui tag) l l.length) s s.size%1073741789
theorem aY5(n:Int)(j:Nat)(h0:0<=n)(h1:n<18446744073709551616):0<=dv n j/\dv n j<18446744073709551616:=by
 induction j with
 |zero=>exact⟨h0,h1⟩
 |succ j ih=>unfold dv;omega
theorem wV(h b:Int):0<=mix h b:=lC _
theorem IV(h n:Int)(j:Nat)(h0:0<=h):0<=Gn h n j:=by
 cases j with
 |zero=>exact h0
 |succ j=>exact wV _ _
theorem Gm(h:Int)(l:List Int)(j:Nat)(h0:0<=h):0<=wA h l j:=by
 induction j with
 |zero=>exact h0
 |succ j ih=>exact IV _ _ _ ih
theorem FZ(h:Int)(s:ByteArray)(j:Nat)(h0:0<=h):0<=oW h s j:=by
 cases j with
 |zero=>exact h0
 |succ j=>exact wV _ _
theorem JQ(tag:Int)(s:ByteArray)(l:List Int):0<=uR tag s l/\uR tag s l<1073741789:=by unfold uR;omega
def V9(ids shares:List Int):Nat->Int
 |0=>0
 |k+1=>(V9 ids shares k+shares.getD k 0*weight ids k)%1073741789
end Pl
namespace nU
open Go.RowKit Pl
theorem nE(a b:Int)(w:ae):
  Calls dS 69 #[.int .u64 a,.int .u64 b] w fun e w'=>e=.returned (.int .u64 (smul a b))/\w=w':=by
 go_enter Try.func69,Try.ntmps69
 go_wp2
 go_ret
 exact⟨by rw[smul,<-Int.tmod_eq_emod_of_nonneg (lC _)];rfl,rfl⟩
theorem MJ(a b:Int)(w:ae):
  Calls dS 73 #[.int .u64 a,.int .u64 b] w fun e w'=>e=.returned (.int .u64 (mE a b))/\w=w':=by
 go_enter Try.func73,Try.ntmps73
 go_wp2
 go_ret
 exact⟨by rw[mE,<-Int.tmod_eq_emod_of_nonneg (lC _)];rfl,rfl⟩
theorem ad7(a b:Int)(w:ae):
  Calls dS 111 #[.int .u64 a,.int .u64 b] w fun e w'=>e=.returned (.int .u64 (Ph a b))/\w=w':=by
 go_enter Try.func111,Try.ntmps111
 go_wp2
 go_ret
 exact⟨by rw[Ph,<-Int.tmod_eq_emod_of_nonneg (lC _)];rfl,rfl⟩
theorem qK(a b:Int)(w:ae):
  Calls dS 65 #[.int .u64 a,.int .u64 b] w fun e w'=>e=.returned (.int .u64 (mI a b))/\w=w':=by
 go_enter Try.func65,Try.ntmps65
 go_wp2
 go_ret
 exact⟨by rw[mI,<-Int.tmod_eq_emod_of_nonneg (lC _)];rfl,rfl⟩
theorem small(n:Int)(w:ae):
  Calls dS 44 #[.int .i64 n] w fun e w'=>e=.returned (.int .u64 (IntKind.u64.wrap n))/\w=w':=by
 go_enter Try.func44,Try.ntmps44
 go_wp2
 go_ret
 exact⟨rfl,rfl⟩
theorem Iq(n:Int)(w:ae):
  Calls dS 41 #[.int .u64 n] w fun e w'=>e=.returned (.tuple #[.int .u64 n,.bool (decide (n<1073741789))])/\w=w':=by
 go_enter Try.func41,Try.ntmps41
 go_wp2
 go_ret2
 exact⟨rfl,rfl⟩
def Inv(m a:Int)(n0:Nat)(x n o:af):Prop:=
 ∃(x' o':Int) (n':Nat),x=.int .u64 x'/\n=.int .u64 n'/\o=.int .u64 o'/\0<=x'/\x'<m/\0<=o'/\o'<m/\n'<18446744073709551616/\o'*x'^n'%m=a^n0%m
theorem power(a:Int)(n:Nat)(w:ae)(ha:0<=a)(ha':a<2147483579)(hn:n<18446744073709551616):
  Calls dS 68 #[.int .u64 a,.int .u64 n] w fun e w'=>e=.returned (.int .u64 (pw a n 2147483579))/\w=w':=by
 go_enter Try.func68,Try.ntmps68
 go_wp2_with fail
 go_loop [0,1,5] (fun x y o=>Inv 2147483579 a n x y o) (fun _ y _=>(intOf y).toNat)
 case atStart=>exact⟨a,1,n,rfl,rfl,rfl,ha,ha',by omega,by omega,hn,by rw[Int.one_mul]⟩
 case round=>
  obtain⟨x,o,k,rfl,rfl,rfl,hx,hx',ho,ho',hk,hinv⟩:=hrel;have hI:=ay hinv;clear hinv;have e1:mI o x=o*x%2147483579:=vF ho (by omega) hx (by omega);have e2:mI x x=x*x%2147483579:=vF hx (by omega) hx (by omega);have E1:=ay e1;have E2:=ay e2;clear e1 e2;have b1:=BF o x;have b2:=BF x x;by_cases h0:0<k
  ·by_cases h2:k%2=1
   ·have hb:(bits aZ IntKind.u64 (k:Int) 1==1)=true:=by rw[OP k hk,beq_iff_eq];omega
    have H2:=ay h2;clear h2;go_wp2_with fail
    refine(qK _ _ _).mono ?_;rintro e w' ⟨rfl,rfl⟩;go_wp2_with fail
    refine(qK _ _ _).mono ?_;rintro e w' ⟨rfl,rfl⟩;go_wp2_with fail
    go_round
    case rel=>
     refine⟨mI x x,mI o x,k/2,rfl,by go_num,rfl,b2.1,b2.2,b1.1,b1.2,by omega,?_⟩;rw[E1.out,E2.out,CI _ _ _ _ H2.out];exact hI.out
    case measure=>simp[intOf];omega
   ·have hb:(bits aZ IntKind.u64 (k:Int) 1==1)=false:=by rw[OP k hk,beq_eq_false_iff_ne];omega
    have H2:=ay (show k%2=0 by omega);clear h2;go_wp2_with fail
    refine(qK _ _ _).mono ?_;rintro e w' ⟨rfl,rfl⟩;go_wp2_with fail
    go_round
    case rel=>
     refine⟨mI x x,o,k/2,rfl,by go_num,rfl,b2.1,b2.2,ho,ho',by omega,?_⟩;rw[E2.out,y9 _ _ _ _ H2.out];exact hI.out
    case measure=>simp[intOf];omega
  ·obtain rfl:k=0:=by omega
   go_wp2_with fail
   go_ret
   have h:=hI.out;rw[Int.pow_zero,Int.mul_one,Int.emod_eq_of_lt ho ho']at h;refine⟨?_,rfl⟩;rw[pw,<-h];rfl
def bs3(m a:Int)(n0:Nat)(x n o:af):Prop:=
 ∃(x' o':Int) (n':Nat),x=.int .u64 x'/\n=.int .i64 n'/\o=.int .u64 o'/\0<=x'/\x'<m/\0<=o'/\o'<m/\n'<9223372036854775808/\o'*x'^n'%m=a^n0%m
theorem Wh:KJ<9223372036854775808:=by unfold KJ;omega
theorem inverse(a:Int)(w:ae)(ha:0<=a)(ha':a<1073741789):
  Calls dS 112 #[.int .u64 a] w fun e w'=>e=.returned (.int .u64 (pw a KJ 1073741789))/\w=w':=by
 go_enter Try.func112,Try.ntmps112
 go_wp2_with fail
 go_loop [0,4,3] (fun x y o=>bs3 1073741789 a KJ x y o) (fun _ y _=>(intOf y).toNat)
 case atStart=>exact⟨a,1,KJ,rfl,rfl,rfl,ha,ha',by omega,by omega,Wh,by rw[Int.one_mul]⟩
 case round=>
  obtain⟨x,o,k,rfl,rfl,rfl,hx,hx',ho,ho',hk,hinv⟩:=hrel;have hI:=ay hinv;clear hinv;have e1:smul o x=o*x%1073741789:=lu ho (by omega) hx (by omega);have e2:smul x x=x*x%1073741789:=lu hx (by omega) hx (by omega);have E1:=ay e1;have E2:=ay e2;clear e1 e2;have b1:=lZ o x;have b2:=lZ x x;by_cases h0:0<k
  ·by_cases h2:k%2=1
   ·have hb:(bits aZ IntKind.i64 (k:Int) 1==1)=true:=by rw[Ae k hk,beq_iff_eq];omega
    have H2:=ay h2;clear h2;go_wp2_with fail
    refine(nE _ _ _).mono ?_;rintro e w' ⟨rfl,rfl⟩;go_wp2_with fail
    refine(nE _ _ _).mono ?_;rintro e w' ⟨rfl,rfl⟩;go_wp2_with fail
    go_round
    case rel=>
     refine⟨smul x x,smul o x,k/2,rfl,by go_num,rfl,b2.1,b2.2,b1.1,b1.2,by omega,?_⟩;rw[E1.out,E2.out,CI _ _ _ _ H2.out];exact hI.out
    case measure=>simp[intOf];omega
   ·have hb:(bits aZ IntKind.i64 (k:Int) 1==1)=false:=by rw[Ae k hk,beq_eq_false_iff_ne];omega
    have H2:=ay (show k%2=0 by omega);clear h2;go_wp2_with fail
    refine(nE _ _ _).mono ?_;rintro e w' ⟨rfl,rfl⟩;go_wp2_with fail
    go_round
    case rel=>
     refine⟨smul x x,o,k/2,rfl,by go_num,rfl,b2.1,b2.2,ho,ho',by omega,?_⟩;rw[E2.out,y9 _ _ _ _ H2.out];exact hI.out
    case measure=>simp[intOf];omega
  ·obtain rfl:k=0:=by omega
   go_wp2_with fail
   go_ret
   have h:=hI.out;rw[Int.pow_zero,Int.mul_one,Int.emod_eq_of_lt ho ho']at h;refine⟨?_,rfl⟩;rw[pw,<-h];rfl
theorem base(n:Nat)(w:ae)(hn:n<18446744073709551616):
  Calls dS 42 #[.int .u64 n] w fun e w'=>e=.returned (.int .u64 (pw 4 n 2147483579))/\w=w':=by
 go_enter Try.func42,Try.ntmps42
 go_wp2_with fail
 refine(power 4 n _ (by omega) (by omega) hn).mono ?_;rintro e w' ⟨rfl,rfl⟩;go_wp2_with fail
 go_ret
 exact⟨rfl,rfl⟩
theorem Xe{n:Int}(h1:0<n)(h2:n<2147483579):jQ n=(pw n qq 2147483579==1):=by
 unfold jQ;rw[Bool.eq_iff_iff,decide_eq_true_iff,beq_iff_eq];exact⟨fun h=>h.2.2,fun h=>⟨h1,h2,h⟩⟩
theorem Ta{n:Int}(h:¬(0<n/\n<2147483579)):jQ n=false:=by
 unfold jQ;rw[decide_eq_false_iff_not];rintro ⟨a,b,c⟩;exact h ⟨a,b⟩
theorem Qu(n:Int)(w:ae)(h0:0<=n):
  Calls dS 47 #[.int .u64 n] w fun e w'=>e=.returned (.tuple #[.int .u64 n,.bool (jQ n)])/\w=w':=by
 by_cases h:0<n/\n<2147483579
 ·obtain⟨h1,h2⟩:=h;rw[Xe h1 h2];go_enter Try.func47,Try.ntmps47
  go_wp2_with fail
  refine(power n qq w h0 h2 aH0).mono ?_;rintro e w' ⟨rfl,rfl⟩;go_wp2_with fail
  go_ret2
  exact⟨rfl,rfl⟩
 ·rw[Ta h];by_cases h1:0<n;all_goals
   go_enter Try.func47,Try.ntmps47
   go_wp2_with fail
   go_ret2
   exact⟨rfl,rfl⟩
theorem RY(m:Int)(a:Int)(hm:1<m)(hm':m<4294967296)(ha:0<=a)(ha':a<4294967296)(k:Nat):∀(n:Nat) (w:ae),n<2^k->n<18446744073709551616->
  Calls dS 75 #[.int .u64 a,.int .u64 n,.int .u64 m] w fun e w'=>e=.returned (.int .u64 (pw a n m))/\w=w':=by
 induction k with
 |zero=>
  intro n w hk hn;obtain rfl:n=0:=by simpa using hk
  go_enter Try.func75,Try.ntmps75
  go_wp2_with fail
  go_ret
  exact⟨by rw[AA _ hm];rfl,rfl⟩
 |succ k ih=>
  intro n w hk hn;by_cases h0:n=0
  ·subst h0;go_enter Try.func75,Try.ntmps75
   go_wp2_with fail
   go_ret
   exact⟨by rw[AA _ hm];rfl,rfl⟩
  ·have hk2:n/2<2^k:=by rw[Nat.pow_succ]at hk;omega
   have b1:=nL a (n/2) (m:=m) (by omega);have b2:=mul_lt b1.1 b1.2 b1.1 b1.2;have b3:m*m<4294967296*4294967296:=(mul_lt (by omega:0<=m) hm' (by omega) hm').2;have b4:pw a (n/2) m*pw a (n/2) m<18446744073709551616:=by omega
   have b5:0<=pw a (n/2) m*pw a (n/2) m:=b2.1;have c1:0<=pw a (n/2) m*pw a (n/2) m%m:=Int.emod_nonneg _ (by omega);have c2:pw a (n/2) m*pw a (n/2) m%m<m:=Int.emod_lt_of_pos _ (by omega);have c3:=mul_lt c1 (Int.lt_trans c2 hm') ha ha';have c4:=c3.1;have c5:pw a (n/2) m*pw a (n/2) m%m*a<18446744073709551616:=by omega
   have hn0:0<n:=by omega
   have IH:=ay ih;clear ih b1 b2 b3 c3 h0 hk;by_cases h2:n%2=1
   ·have hE:=ay (R9 a n m h2);go_enter Try.func75,Try.ntmps75
    go_wp2_with fail
    refine(IH.out (n/2) w hk2 (by omega)).mono ?_;rintro e w' ⟨rfl,rfl⟩;go_wp2_with fail
    go_ret
    exact⟨by rw[hE.out];rfl,rfl⟩
   ·have hE:=ay (M3 a n m (by omega));have h3:n%2=0:=by omega
    go_enter Try.func75,Try.ntmps75
    go_wp2_with fail
    refine(IH.out (n/2) w hk2 (by omega)).mono ?_;rintro e w' ⟨rfl,rfl⟩;go_wp2_with fail
    go_ret
    exact⟨by rw[hE.out];rfl,rfl⟩
theorem ae9(m a:Int)(n:Nat)(w:ae)(hm:1<m)(hm':m<4294967296)(ha:0<=a)(ha':a<4294967296)(hn:n<18446744073709551616):
  Calls dS 75 #[.int .u64 a,.int .u64 n,.int .u64 m] w fun e w'=>e=.returned (.int .u64 (pw a n m))/\w=w':=
 RY m a hm hm' ha ha' 64 n w (by omega) hn
theorem Wf(n:Nat)(w:ae)(hn:n<18446744073709551616):
  Calls dS 45 #[.int .u64 n] w fun e w'=>e=.returned (.int .u64 (pw 4 n 2147483579))/\w=w':=by
 go_enter Try.func45,Try.ntmps45
 go_wp2_with fail
 refine(ae9 2147483579 4 n _ (by omega) (by omega) (by omega) (by omega) hn).mono ?_;rintro e w' ⟨rfl,rfl⟩;go_wp2_with fail
 go_ret
 exact⟨rfl,rfl⟩
def l8(n:Int):Int:=1+n%1073741788
theorem CQ(n:Int)(w:ae)(h0:0<=n):
  Calls dS 36 #[.int .u64 n] w fun e w'=>e=.returned (.int .u64 (l8 n))/\w=w':=by
 go_enter Try.func36,Try.ntmps36
 go_wp2_with fail
 go_ret
 exact⟨rfl,rfl⟩
theorem Qa(n:Nat)(w:ae)(hn:n<18446744073709551616):
  Calls dS 37 #[.int .u64 n] w fun e w'=>e=.returned (.int .u64 (pw 4 n 2147483579))/\w=w':=by
 go_enter Try.func37,Try.ntmps37
 go_wp2_with fail
 go_loop [4,0,3] (fun x y o=>Inv 2147483579 4 n x y o) (fun _ y _=>(intOf y).toNat)
 case atStart=>exact⟨4,1,n,rfl,rfl,rfl,by omega,by omega,by omega,by omega,hn,by rw[Int.one_mul]⟩
 case round=>
  obtain⟨x,o,k,rfl,rfl,rfl,hx,hx',ho,ho',hk,hinv⟩:=hrel;have hI:=ay hinv;clear hinv;have b1:=mul_lt ho ho' hx hx';have b2:=mul_lt hx hx' hx hx';obtain⟨kx,b12⟩:=b1;obtain⟨b21,b22⟩:=b2;have c1:o*x<18446744073709551616:=by omega
  have c2:x*x<18446744073709551616:=by omega
  by_cases h0:0<k
  ·by_cases h2:k%2=1
   ·have hb:(((k:Int)%2)==1)=true:=by rw[beq_iff_eq];omega
    have H2:=ay h2;clear h2 b12 b22;go_wp2_with fail
    go_round
    case rel=>
     refine⟨x*x%2147483579,o*x%2147483579,k/2,rfl,by go_num,rfl,by omega,by omega,by omega,by omega,by omega,?_⟩;rw[CI _ _ _ _ H2.out];exact hI.out
    case measure=>simp[intOf];omega
   ·have hb:(((k:Int)%2)==1)=false:=by rw[beq_eq_false_iff_ne];omega
    have H2:=ay (show k%2=0 by omega);clear h2 b12 b22;go_wp2_with fail
    go_round
    case rel=>
     refine⟨x*x%2147483579,o,k/2,rfl,by go_num,rfl,by omega,by omega,ho,ho',by omega,?_⟩;rw[y9 _ _ _ _ H2.out];exact hI.out
    case measure=>simp[intOf];omega
  ·obtain rfl:k=0:=by omega
   clear b12 b22;go_wp2_with fail
   go_ret
   have h:=hI.out;rw[Int.pow_zero,Int.mul_one,Int.emod_eq_of_lt ho ho']at h;refine⟨?_,rfl⟩;rw[pw,<-h];rfl
def pj(c n:Int):Int:=(if c<0 then-(c+1)else c)%n
theorem IL(c:Int){n:Int}(h:0<n):0<=pj c n/\pj c n<n:=by
 unfold pj;exact⟨Int.emod_nonneg _ (by omega),Int.emod_lt_of_pos _ h⟩
theorem Jv(c n:Int)(w:ae)(h0: -9223372036854775808<=c)(h1:c<=9223372036854775807)(hn:0<n):
  Calls dS 50 #[.int .i64 c,.int .i64 n] w fun e w'=>e=.returned (.int .i64 (pj c n))/\w=w':=by
 by_cases h:c<0
 ·have he:pj c n= -(c+1)%n:=by unfold pj;rw[if_pos h]
  rw[he];clear he;have hm:0<= -(c+1):=by omega
  go_enter Try.func50,Try.ntmps50
  go_wp2_with fail
  go_ret
  exact⟨by rw[<-Int.tmod_eq_emod_of_nonneg hm,Int.neg_tmod];rfl,rfl⟩
 ·have he:pj c n=c%n:=by unfold pj;rw[if_neg h]
  rw[he];clear he;go_enter Try.func50,Try.ntmps50
  go_wp2_with fail
  go_ret
  exact⟨rfl,rfl⟩
end nU
end Go.Proofs.Ytpfpokjaeffbjaa
