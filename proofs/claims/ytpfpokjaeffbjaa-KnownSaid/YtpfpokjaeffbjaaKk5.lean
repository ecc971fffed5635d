/- Part of the proof: Mn2, Mn3, Mn4, Mn5, Mn6, Shadow, VisR, VisM, Go, ShK, AgH, AgB, Plain, Field. -/
import Derived.Test.YtpfpokjaeffbjaaKk0
import Derived.Test.YtpfpokjaeffbjaaKk4
import Derived.Test.YtpfpokjaeffbjaaKk3
import Derived.Test.YtpfpokjaeffbjaaKk1
import Derived.Test.YtpfpokjaeffbjaaProg
import Derived.WalkKit
import Derived.WalkSpells
import Derived.WalkLawsBesides
import Derived.Test.YtpfpokjaeffbjaaRows
import Derived.Lib.Hide
import Derived.Deep.QuietTactic
import Derived.BigQuiet
set_option linter.unusedVariables false
set_option linter.unusedSimpArgs false
set_option maxRecDepth 100000
set_option maxHeartbeats 16000000
open Go.Trace renaming g?→cX
open Nat renaming lt_or_ge→bw,le_refl→aH,le_trans→aY,lt_of_lt_of_le→bT
open Go.MemOp renaming ofEvents→aA
open Array renaming getElem?_eq_getElem→aI,getElem?_extract→dK,mem_of_getElem?→bF
open Go.Frame renaming enter→bO
open Option renaming map_some→cI
open Int renaming mul_emod→dA,emod_emod_of_dvd→cM
open Go.BinOp renaming and→aZ
open Go.Proofs.Try renaming prog→dS
namespace Go.Proofs.Ytpfpokjaeffbjaa
open Go renaming World→ae,Value→af,Goroutine→ah,Frame→ai,TypeId→aj,FuncId→ak,Program→au,undef→av,execOp→ax
open Go.Lib renaming hid→ay
namespace Cc
open Go.Conc Go.ConcN
open Go.ConcR (KK wgBlock WgAt stA smA rd wr mk DC0)
section
open Go.ConcM (OsLater)
def wR(γ:eD)(s:eI)(k:Nat)(F:Nat->Prop):Nat->Loc->Prop:=fun g l=>(γ.ex g l/\¬(g=0/\(l=ca s.Zb k\/l=ca s.Rb k\/∃b,F b/\ij l=some b)))\/(g=γ.num/\(l=ca s.Zb k\/l=ca s.Rb k))
def wQ(γ:eD)(s:eI)(F Fr:Nat->Prop):Nat->Loc->Prop:=fun g l=>γ.rd g l\/((g=0\/g=γ.num)/\∃b off,(F b\/Fr b)/\l=ca b off)\/(g=γ.num/\∃off,off<3/\l=ca s.Gb off)
def wP(γ:eD):Nat->Loc->Prop:=fun g l=>γ.sh g l\/(g=γ.num/\γ.sh 0 l)
theorem im{b b' o o':Nat}(h:ca b o=ca b' o'):b=b'/\o=o':=by unfold ca at h;simpa using h
section
variable{q:iK}{s:eI}{k:Nat}{F Fr:Nat->Prop}{keep:List (Nat×Obj)}
theorem Inv.fork{st:St eD}(h:Inv q st)(hs:st.γ.sc=some s)(zM:st.γ.mw=.ad)(hdm:st.γ.dm=0)(hk:st.γ.num=s.n0+k)(hkn:k<s.n)(hF:∀b,F b->∀off,st.γ.ex 0 (ca b off))(hFr:∀b,Fr b->∀off,st.γ.rd 0 (ca b off)){x y:MemOp}(hx:x.g=0/\x.act=.go st.γ.num)(hy:y.g=st.γ.num/\y.act=.start):
  Inv q ⟨st.w,st.t++#[x,y],{st.γ with num:=st.γ.num+1,mw:=.sp,wk:=upd st.γ.wk st.γ.num {mx:=.fresh,zw:=false,rw:=false,syn:=false,wg:=.work,df:=0,keep:=keep},ex:=wR st.γ s k F,rd:=wQ st.γ s F Fr,sh:=wP st.γ}⟩/\∀j,j≠0->j<st.γ.num->Rl j st ⟨st.w,st.t++#[x,y],{st.γ with num:=st.γ.num+1,mw:=.sp,wk:=upd st.γ.wk st.γ.num {mx:=.fresh,zw:=false,rw:=false,syn:=false,wg:=.work,df:=0,keep:=keep},ex:=wR st.γ s k F,rd:=wQ st.γ s F Fr,sh:=wP st.γ}⟩:=by
 obtain⟨c,p,T⟩:=h.eZ s hs;have A:=h.base.tr.FD;have n0:=c.n0;have pos:=h.base.pos;have hl:=c.OD;have pool:=h.base.pool;have a79:=p.MH k hkn (by omega);have Qg:∀b,F b\/Fr b->b≠s.Gb/\b≠s.Wg/\b≠s.Zb/\b≠s.Rb:=fun b hb=>by
  have key:∀b',(b'=s.Gb\/b'=s.Wg\/b'=s.Zb\/b'=s.Rb)->b≠b':=fun b' hb' e=>by
   obtain⟨⟨o1,h1⟩,o2,h2⟩:=p.spec 0 b' hb';rcases hb with hb|hb
   ·exact h1 (e ▸ hF b hb o1)
   ·exact h2 (e ▸ hFr b hb o2)
  exact⟨key _ (.inl rfl),key _ (.inr (.inl rfl)),key _ (.inr (.inr (.inl rfl))),key _ (.inr (.inr (.inr rfl)))⟩
 have exn:∀l,¬st.γ.ex st.γ.num l:=fun l hl=>by have:=pool _ l (.inl hl);omega
 have rdn:∀l,¬st.γ.rd st.γ.num l:=fun l hl=>by have:=pool _ l (.inr (.inl hl));omega
 have shn:∀l,¬st.γ.sh st.γ.num l:=fun l hl=>by have:=pool _ l (.inr (.inr hl));omega
 have SQ:=p.KW 0 (.inl rfl);have LS:∀l,(l=ca s.Zb k\/l=ca s.Rb k)->st.γ.ex 0 l:=fun l hl=>by rcases hl with rfl|rfl;exact a79.1;exact a79.2
 have A':Ng st.w.heap.size (wR st.γ s k F) (wQ st.γ s F Fr) (wP st.γ):=by
  refine⟨fun g g' l h1 h2=>?_,fun g g' l h1 h2=>?_,fun g g' l h1 h2=>?_,fun g g' l h1 h2=>?_,fun g l h1 b hb=>?_,fun g l h1 b hb=>?_,fun g l h1 b hb=>?_,fun g l h1=>?_⟩
  ·rcases h1 with⟨h1,n1⟩|⟨rfl,h1⟩<;>rcases h2 with⟨h2,n2⟩|⟨rfl,h2⟩
   ·exact A.ee _ _ _ h1 h2
   ·have:=A.ee _ _ _ h1 (LS l h2)
    exact absurd ⟨this,h2.imp id .inl⟩ n1
   ·have:=A.ee _ _ _ h2 (LS l h1)
    exact absurd ⟨this,h1.imp id .inl⟩ n2
   ·rfl
  ·rcases h1 with⟨h1,n1⟩|⟨rfl,h1⟩
   ·rcases h2 with h2|⟨_,b,off,hb,rfl⟩|⟨_,off,ho,rfl⟩
    ·exact A.er _ _ _ h1 h2
    ·rcases hb with hb|hb
     ·exact n1 ⟨A.ee _ _ _ h1 (hF b hb off),.inr (.inr ⟨b,hb,rfl⟩)⟩
     ·exact A.er _ _ _ h1 (hFr b hb off)
    ·exact A.er _ _ _ h1 (SQ off ho)
   ·have e0:=LS l h1;rcases h2 with h2|⟨_,b,off,hb,rfl⟩|⟨_,off,ho,rfl⟩
    ·exact A.er _ _ _ e0 h2
    ·have:=Qg b hb
     rcases h1 with h1|h1
     ·exact this.2.2.1 (im h1).1
     ·exact this.2.2.2 (im h1).1
    ·exact A.er _ _ _ e0 (SQ off ho)
  ·have e:st.γ.ex g l\/st.γ.ex 0 l:=by
    rcases h1 with⟨h1,_⟩|⟨_,h1⟩
    ·exact .inl h1
    ·exact .inr (LS l h1)
   have f:st.γ.sh g' l\/st.γ.sh 0 l:=by
    rcases h2 with h2|⟨_,h2⟩
    ·exact .inl h2
    ·exact .inr h2
   rcases e with e|e<;>rcases f with f|f<;>exact A.es _ _ _ e f
  ·have f:st.γ.sh g' l\/st.γ.sh 0 l:=by
    rcases h2 with h2|⟨_,h2⟩
    ·exact .inl h2
    ·exact .inr h2
   rcases h1 with h1|⟨_,b,off,hb,rfl⟩|⟨_,off,ho,rfl⟩
   ·rcases f with f|f<;>exact A.rs _ _ _ h1 f
   ·rcases hb with hb|hb
    ·rcases f with f|f<;>exact A.es _ _ _ (hF b hb off) f
    ·rcases f with f|f<;>exact A.rs _ _ _ (hFr b hb off) f
   ·rcases f with f|f<;>exact A.rs _ _ _ (SQ off ho) f
  ·rcases h1 with⟨h1,_⟩|⟨_,h1⟩
   ·exact A.low _ _ h1 b hb
   ·exact A.low _ _ (LS l h1) b hb
  ·rcases h1 with h1|⟨_,b',off,hb',rfl⟩|⟨_,off,ho,rfl⟩
   ·exact A.xI _ _ h1 b hb
   ·rcases hb' with hb'|hb'
    ·exact A.low _ _ (hF b' hb' off) b hb
    ·exact A.xI _ _ (hFr b' hb' off) b hb
   ·exact A.xI _ _ (SQ off ho) b hb
  ·rcases h1 with h1|⟨_,h1⟩
   ·exact A.slow _ _ h1 b hb
   ·exact A.slow _ _ h1 b hb
  ·rcases h1 with h1|h1|h1
   ·rcases h1 with⟨h1,_⟩|⟨_,h1⟩
    ·exact A.mem _ _ (.inl h1)
    ·exact A.mem _ _ (.inl (LS l h1))
   ·rcases h1 with h1|⟨_,b',off,hb',rfl⟩|⟨_,off,ho,rfl⟩
    ·exact A.mem _ _ (.inr (.inl h1))
    ·rfl
    ·rfl
   ·rcases h1 with h1|⟨_,h1⟩
    ·exact A.mem _ _ (.inr (.inr h1))
    ·exact A.mem _ _ (.inr (.inr h1))
 have hd0:Deaf st.t 0=0:=by rw[h.base.YG,hdm]
 have htr:FH (st.t++#[x,y]) (st.γ.num+1) st.w.heap.size (wR st.γ s k F) (wQ st.γ s F Fr) (wP st.γ):=by
  refine h.base.tr.fork pos hx hy hd0 A' (fun g l hl=>?_) (fun g l hl=>?_) fun g l hl=>?_
  ·split
   ·rename_i e;rcases hl with⟨hl,_⟩|⟨_,hl⟩
    ·rw[e]at hl;exact absurd hl (exn l)
    ·exact LS l hl
   ·rename_i e;rcases hl with⟨hl,_⟩|⟨hl,_⟩
    ·exact hl
    ·exact absurd hl e
  ·split
   ·rename_i e;rcases hl with hl|⟨_,b,off,hb,rfl⟩|⟨_,off,ho,rfl⟩
    ·rw[e]at hl;exact absurd hl (rdn l)
    ·rcases hb with hb|hb
     ·exact .inr (hF b hb off)
     ·exact .inl (hFr b hb off)
    ·exact .inl (SQ off ho)
   ·rename_i e;rcases hl with hl|⟨hg,b,off,hb,rfl⟩|⟨hg,off,ho,rfl⟩
    ·exact .inl hl
    ·rcases hg with rfl|hg
     ·rcases hb with hb|hb
      ·exact .inr (hF b hb off)
      ·exact .inl (hFr b hb off)
     ·exact absurd hg e
    ·exact absurd hg e
  ·split
   ·rename_i e;rcases hl with hl|⟨_,hl⟩
    ·rw[e]at hl;exact absurd hl (shn l)
    ·exact hl
   ·rename_i e;rcases hl with hl|⟨hl,_⟩
    ·exact hl
    ·exact absurd hl e
 have nt:∀op∈#[x,y],op.act.touch?=none:=by
  intro op ho;simp at ho;rcases ho with rfl|rfl
  ·rw[hx.2];rfl
  ·rw[hy.2];rfl
 have told:∀{i:Nat} {a:Touch},touchAt (st.t++#[x,y]) i=some a->i<st.t.size/\touchAt st.t i=some a:=by
  intro i a ha;rcases gT ha with h1|⟨_,op,hop,_,vN⟩
  ·exact h1
  ·rw[nt op hop]at vN;cases vN
 have Af:∀{i g:Nat},i<st.t.size->((st.t++#[x,y]).g? i=some g↔st.t.g? i=some g):=fun hi=>by simp only[cX,getElem?_append_old hi]
 have deaf:∀j,Deaf (st.t++#[x,y]) j=Deaf st.t j:=fun j=>by
  have e:#[x,y]=([x,y]:List MemOp).toArray:=rfl;rw[e,Deaf_append];simp[deafStep,hx.2,hy.2]
 have Lj:∀j,j≠st.γ.num->upd st.γ.wk st.γ.num {mx:=.fresh,zw:=false,rw:=false,syn:=false,wg:=.work,df:=0,keep:=keep} j=st.γ.wk j:=fun j hj=>upd_ne _ _ hj;have VQ:upd st.γ.wk st.γ.num {mx:=.fresh,zw:=false,rw:=false,syn:=false,wg:=.work,df:=0,keep:=keep} st.γ.num={mx:=.fresh,zw:=false,rw:=false,syn:=false,wg:=.work,df:=0,keep:=keep}:=gF _ _ _;have new:=c.new st.γ.num nle;have hmx:∀j,(upd st.γ.wk st.γ.num {mx:=.fresh,zw:=false,rw:=false,syn:=false,wg:=.work,df:=0,keep:=keep} j).mx=(st.γ.wk j).mx:=fun j=>by
  by_cases e:j=st.γ.num
  ·rw[e,VQ,new];rfl
  ·rw[Lj j e]
 have oD:∀j,(upd st.γ.wk st.γ.num {mx:=.fresh,zw:=false,rw:=false,syn:=false,wg:=.work,df:=0,keep:=keep} j).syn=(st.γ.wk j).syn:=fun j=>by
  by_cases e:j=st.γ.num
  ·rw[e,VQ,new];rfl
  ·rw[Lj j e]
 have hmm:({st.γ with num:=st.γ.num+1,mw:=.sp,wk:=upd st.γ.wk st.γ.num {mx:=.fresh,zw:=false,rw:=false,syn:=false,wg:=.work,df:=0,keep:=keep},ex:=wR st.γ s k F,rd:=wQ st.γ s F Fr,sh:=wP st.γ}:eD).mm=st.γ.mm:=funext fun j=>hmx j;have hold:st.γ.old=s.n0:=by unfold eD.old;rw[hs]
 have hold':({st.γ with num:=st.γ.num+1,mw:=.sp,wk:=upd st.γ.wk st.γ.num {mx:=.fresh,zw:=false,rw:=false,syn:=false,wg:=.work,df:=0,keep:=keep},ex:=wR st.γ s k F,rd:=wQ st.γ s F Fr,sh:=wP st.γ}:eD).old=s.n0:=by unfold eD.old;rw[hs]
 have cnt:∀(p:WG->Bool),p .idle=false->gj p {st.γ with num:=st.γ.num+1,mw:=.sp,wk:=upd st.γ.wk st.γ.num {mx:=.fresh,zw:=false,rw:=false,syn:=false,wg:=.work,df:=0,keep:=keep},ex:=wR st.γ s k F,rd:=wQ st.γ s F Fr,sh:=wP st.γ} s=gj p st.γ s+if p .work=true then 1 else 0:=fun p hp=>by
  have:=Kw (p:=p) (γ:=st.γ) (γ':={st.γ with num:=st.γ.num+1,mw:=.sp,wk:=upd st.γ.wk st.γ.num {mx:=.fresh,zw:=false,rw:=false,syn:=false,wg:=.work,df:=0,keep:=keep},ex:=wR st.γ s k F,rd:=wQ st.γ s F Fr,sh:=wP st.γ}) (s:=s) (i:=st.γ.num) (by omega) (by omega) (fun j hj=>congrArg Wk.wg (Lj j hj))
  rw[new,show({st.γ with num:=st.γ.num+1,mw:=.sp,wk:=upd st.γ.wk st.γ.num {mx:=.fresh,zw:=false,rw:=false,syn:=false,wg:=.work,df:=0,keep:=keep},ex:=wR st.γ s k F,rd:=wQ st.γ s F Fr,sh:=wP st.γ}:eD).wk st.γ.num=_ from VQ]at this;simp only[Wk.new,hp]at this;simpa using this
 refine⟨⟨⟨by show 0<st.γ.num+1;omega,htr,h.base.JY,(deaf 0).trans h.base.YG,fun j hj jz=>?_,fun j hj=>?_,h.base.os,h.base.out,fun j hj jz=>?_,h.base.dead,fun i a ha hm=>?_,fun i g hg hne hlt hc=>?_,fun g l hl=>?_,fun j hj=>?_,fun j hj=>?_,fun i a ha hk'=>?_,h.base.dsc⟩,?_,fun s' hs'=>?_⟩,fun j hj jz=>?_⟩
 ·show Deaf (st.t++#[x,y]) j=(upd st.γ.wk st.γ.num _ j).df;rw[deaf j];have jz:j<st.γ.num+1:=jz;by_cases e:j=st.γ.num
  ·rw[e,VQ];exact Deaf_absent fun i op hi e'=>by have:=h.base.tr.gs i op hi;omega
  ·rw[Lj j e];exact h.base.Pm j hj (by omega)
 ·have hj:(upd st.γ.wk st.γ.num {mx:=.fresh,zw:=false,rw:=false,syn:=false,wg:=.work,df:=0,keep:=keep} j).wg=.gone:=hj;show j≠0/\j<st.γ.num+1/\(upd st.γ.wk st.γ.num _ j).df=0;by_cases e:j=st.γ.num
  ·rw[e,VQ]at hj;cases hj
  ·rw[Lj j e]at hj ⊢;obtain⟨a,b,d⟩:=h.base.gone j hj;exact⟨a,by omega,d⟩
 ·replace jz:j<({st.γ with num:=st.γ.num+1,mw:=.sp,wk:=upd st.γ.wk st.γ.num {mx:=.fresh,zw:=false,rw:=false,syn:=false,wg:=.work,df:=0,keep:=keep},ex:=wR st.γ s k F,rd:=wQ st.γ s F Fr,sh:=wP st.γ}:eD).old:=jz;rw[hold']at jz;show(upd st.γ.wk st.γ.num _ j).wg=.lv\/(upd st.γ.wk st.γ.num _ j).wg=.gone;rw[Lj j (by omega)];exact h.base.old j hj (by rw[hold];exact jz)
 ·obtain⟨hlt,ha'⟩:=told ha;show(∃b,ij a.loc=some b/\st.γ.dead b)\/Knows (st.t++#[x,y]) 0 i\/∃g,(st.t++#[x,y]).g? i=some g/\({st.γ with num:=st.γ.num+1,mw:=.sp,wk:=upd st.γ.wk st.γ.num {mx:=.fresh,zw:=false,rw:=false,syn:=false,wg:=.work,df:=0,keep:=keep},ex:=wR st.γ s k F,rd:=wQ st.γ s F Fr,sh:=wP st.γ}:eD).old<=g;rw[hold'];rcases h.base.know i a ha' hm with h1|h1|⟨g,h1,h2⟩
  ·exact .inl h1
  ·exact .inr (.inl (h1.app _))
  ·exact .inr (.inr ⟨g,(Af hlt).2 h1,by rw[hold]at h2;exact h2⟩)
 ·replace hlt:g<({st.γ with num:=st.γ.num+1,mw:=.sp,wk:=upd st.γ.wk st.γ.num {mx:=.fresh,zw:=false,rw:=false,syn:=false,wg:=.work,df:=0,keep:=keep},ex:=wR st.γ s k F,rd:=wQ st.γ s F Fr,sh:=wP st.γ}:eD).old:=hlt;rw[hold']at hlt;have hc:(st.t++#[x,y]).counts i:=hc;rcases bw i st.t.size with hi|hi
  ·obtain⟨j,h1,h2⟩:=h.base.ho i g ((Af hi).1 hg) hne (by rw[hold];exact hlt) (by rw[counts_old hi]at hc;exact hc);have hj:j<st.t.size:=by
    unfold cX at h1;obtain⟨op,ho,_⟩:=Option.map_eq_some_iff.1 h1;exact lt_size_of_getElem? ho
   exact⟨j,(Af hj).2 h1,hb_app _ h2⟩
  ·exact absurd hc (ku nt hi).1
 ·show g<st.γ.num+1;rcases hl with(⟨hl,_⟩|⟨hl,_⟩)|(hl|⟨hg,_⟩|⟨hl,_⟩)|(hl|⟨hl,_⟩)
  ·have:=pool g l (.inl hl);omega
  ·omega
  ·have:=pool g l (.inr (.inl hl));omega
  ·rcases hg with rfl|hg<;>omega
  ·omega
  ·have:=pool g l (.inr (.inr hl));omega
  ·omega
 ·replace hj:j<({st.γ with num:=st.γ.num+1,mw:=.sp,wk:=upd st.γ.wk st.γ.num {mx:=.fresh,zw:=false,rw:=false,syn:=false,wg:=.work,df:=0,keep:=keep},ex:=wR st.γ s k F,rd:=wQ st.γ s F Fr,sh:=wP st.γ}:eD).old:=hj;rw[hold']at hj;show(upd st.γ.wk st.γ.num _ j).mx=.fresh\/(upd st.γ.wk st.γ.num _ j).mx=.out;rw[hmx];exact h.base.S9 j (by rw[hold];exact hj)
 ·have hj:st.γ.num+1<=j:=hj;exact(Lj j (by omega)).trans (h.base.nw j (by omega))
 ·obtain⟨hlt,ha'⟩:=told ha;exact(Af hlt).2 (h.base.said i a ha' hk')
 ·show st.γ.sc=none↔MW.sp=.solo;rw[hs];simp
 ·have hs':st.γ.sc=some s':=hs';rw[hs]at hs';cases hs';refine⟨?_,?_,?_⟩
  ·exact{
    n0:=⟨n0.1,by show s.n0<=st.γ.num+1;omega,by show st.γ.num+1<=_;omega,n0.2.2.2⟩
    gb:=c.gb
    qL:=c.qL
    zb:=c.zb.block rfl fun k' _ hf=>by
     have hf:(upd st.γ.wk st.γ.num {mx:=.fresh,zw:=false,rw:=false,syn:=false,wg:=.work,df:=0,keep:=keep} (s.n0+k')).zw=true:=hf;by_cases e:s.n0+k'=st.γ.num
     ·rw[e,VQ]at hf;cases hf
     ·rw[Lj _ e]at hf;exact hf
    rb:=c.rb.block rfl fun k' _ hf=>by
     have hf:(upd st.γ.wk st.γ.num {mx:=.fresh,zw:=false,rw:=false,syn:=false,wg:=.work,df:=0,keep:=keep} (s.n0+k')).rw=true:=hf;by_cases e:s.n0+k'=st.γ.num
     ·rw[e,VQ]at hf;cases hf
     ·rw[Lj _ e]at hf;exact hf
    ne:=c.ne
    mu:=by have:=c.mu;rw[<-hmm]at this;exact this
    D1:=c.D1
    work:=fun j hj=>c.work j ((hmx j).symm.trans hj)
    dn:=fun j hj=>c.dn j ((hmx j).symm.trans hj)
    syn:=fun j h0 hj=>c.syn j h0 ((oD j).symm.trans hj)
    new:=fun j hj=>by
     have hj:st.γ.num+1<=j:=hj;exact(Lj j (by omega)).trans (c.new j (by omega))
    on:=fun j h1 h2=>by
     have h2:j<st.γ.num+1:=h2;show(upd st.γ.wk st.γ.num _ j).wg≠_;by_cases e:j=st.γ.num
     ·rw[e,VQ];simp
     ·rw[Lj j e];exact c.on j h1 (by omega)
    fin:=fun j h1 h2 h3=>by
     have h2:(upd st.γ.wk st.γ.num {mx:=.fresh,zw:=false,rw:=false,syn:=false,wg:=.work,df:=0,keep:=keep} j).wg≠ .idle:=h2;have h3:(upd st.γ.wk st.γ.num {mx:=.fresh,zw:=false,rw:=false,syn:=false,wg:=.work,df:=0,keep:=keep} j).wg≠ .work:=h3;show(upd st.γ.wk st.γ.num {mx:=.fresh,zw:=false,rw:=false,syn:=false,wg:=.work,df:=0,keep:=keep} j).zw=true/\(upd st.γ.wk st.γ.num {mx:=.fresh,zw:=false,rw:=false,syn:=false,wg:=.work,df:=0,keep:=keep} j).rw=true/\((upd st.γ.wk st.γ.num {mx:=.fresh,zw:=false,rw:=false,syn:=false,wg:=.work,df:=0,keep:=keep} j).mx=.fresh\/(upd st.γ.wk st.γ.num {mx:=.fresh,zw:=false,rw:=false,syn:=false,wg:=.work,df:=0,keep:=keep} j).mx=.out);by_cases e:j=st.γ.num
     ·rw[e,VQ]at h3;exact absurd rfl h3
     ·rw[Lj j e]at h2 h3 ⊢;exact c.fin j h1 h2 h3
    all:=fun hm=>by
     have hm:MW.sp=.wt\/MW.sp=.rg\/MW.sp=.lG:=hm;simp at hm
    sD:=by
     have w:=c.sD;rw[zM]at w;show xh .sp (gj WG.cd _ s) (gj (·== .d2) _ s) (gj (·== .d3) _ s) (gj (·== .d4) _ s) st.γ.gs st.γ.gm;rw[cnt WG.cd rfl,cnt (·== .d2) rfl,cnt (·== .d3) rfl,cnt (·== .d4) rfl];simp only[xh]at w ⊢;simp[WG.cd]<;>exact w}
  ·refine⟨fun g b hb=>?_,fun k' k1 k2 k3=>?_,fun k' k1 k2=>?_,fun g hg off ho=>?_,fun g hg=>?_,fun j hj off o1 o2=>?_,fun j h0 hj off o1 o2=>.inl (p.SP j h0 ((oD j).symm.trans hj) off o1 o2),fun hn g off o1 o2=>?_⟩
   ·obtain⟨⟨o1,h1⟩,o2,h2⟩:=p.spec g b hb;by_cases e:g=st.γ.num
    ·subst e;refine⟨⟨k+1,fun hx=>?_⟩,3,fun hx=>?_⟩
     ·rcases hx with⟨hx,_⟩|⟨_,hx|hx⟩
      ·exact exn _ hx
      ·have:=(im hx).2;omega
      ·have:=(im hx).2;omega
     ·rcases hx with hx|⟨_,b',off,hb',e⟩|⟨_,off,ho,e⟩
      ·exact rdn _ hx
      ·have:=Qg b' hb'
       rw[(im e).1]at hb;rcases hb with hb|hb|hb|hb
       ·exact this.1 hb
       ·exact this.2.1 hb
       ·exact this.2.2.1 hb
       ·exact this.2.2.2 hb
      ·have:=(im e).2;omega
    ·refine⟨⟨o1,fun hx=>?_⟩,o2,fun hx=>?_⟩
     ·rcases hx with⟨hx,_⟩|⟨hx,_⟩
      ·exact h1 hx
      ·exact e hx
     ·rcases hx with hx|⟨_,b',off,hb',e'⟩|⟨hx,_⟩
      ·exact h2 hx
      ·have:=Qg b' hb'
       rw[(im e').1]at hb;rcases hb with hb|hb|hb|hb
       ·exact this.1 hb
       ·exact this.2.1 hb
       ·exact this.2.2.1 hb
       ·exact this.2.2.2 hb
      ·exact e hx
   ·have k2:s.n0+k'<st.γ.num+1:=k2;have k3:(upd st.γ.wk st.γ.num {mx:=.fresh,zw:=false,rw:=false,syn:=false,wg:=.work,df:=0,keep:=keep} (s.n0+k')).wg=.work:=k3;by_cases e:s.n0+k'=st.γ.num
    ·have:k'=k:=by omega
     subst this;exact⟨.inr ⟨e,.inl rfl⟩,.inr ⟨e,.inr rfl⟩⟩
    ·rw[Lj _ e]at k3;obtain⟨a,b⟩:=p.Hy k' k1 (by omega) k3;exact⟨.inl ⟨a,fun h0=>by have:=h0.1;omega⟩,.inl ⟨b,fun h0=>by have:=h0.1;omega⟩⟩
   ·have k2:st.γ.num+1<=s.n0+k':=k2;obtain⟨a,b⟩:=p.MH k' k1 (by omega);refine⟨.inl ⟨a,fun h0=>?_⟩,.inl ⟨b,fun h0=>?_⟩⟩
    ·rcases h0.2 with e|e|⟨b',hb',e⟩
     ·have:=(im e).2;omega
     ·exact c.ne.2.2.2.2.2 (im e).1
     ·have e:s.Zb=b':=by unfold ca ij at e;simpa using e
      exact(Qg b' (.inl hb')).2.2.1 e.symm
    ·rcases h0.2 with e|e|⟨b',hb',e⟩
     ·exact c.ne.2.2.2.2.2 (im e).1.symm
     ·have:=(im e).2;omega
     ·have e:s.Rb=b':=by unfold ca ij at e;simpa using e
      exact(Qg b' (.inl hb')).2.2.2 e.symm
   ·by_cases e:g=st.γ.num
    ·exact .inr (.inr ⟨e,off,ho,rfl⟩)
    ·refine .inl (p.KW g (hg.imp id fun⟨a,b⟩=>⟨a,?_⟩) off ho);have b:g<st.γ.num+1:=b;omega
   ·by_cases e:g=st.γ.num
    ·obtain⟨s1,s2⟩:=p.KU 0 (.inl rfl);exact⟨fun off a b=>.inr ⟨e,s1 off a b⟩,fun off a=>.inr ⟨e,s2 off a⟩⟩
    ·obtain⟨s1,s2⟩:=p.KU g (hg.imp id fun⟨a,b⟩=>⟨a,by
      have b:g<st.γ.num+1:=b;omega⟩)
     exact⟨fun off a b=>.inl (s1 off a b),fun off a=>.inl (s2 off a)⟩
   ·have hj:(upd st.γ.wk st.γ.num {mx:=.fresh,zw:=false,rw:=false,syn:=false,wg:=.work,df:=0,keep:=keep} j).mx=.own .work:=hj;rw[hmx]at hj;refine .inl ⟨p.UO j hj off o1 o2,fun h0=>?_⟩;have:=h.base.S9 0 (by rw[hold];omega)
    rw[h0.1]at hj;rw[hj]at this;rcases this with h|h<;>cases h
   ·obtain⟨a,b,d⟩:=p.DX (fun j hj=>hn j ((hmx j).trans hj)) g off o1 o2;obtain⟨a0,b0,d0⟩:=p.DX (fun j hj=>hn j ((hmx j).trans hj)) 0 off o1 o2;refine⟨fun hx=>?_,fun hx=>?_,fun hD hx=>?_⟩
    ·rcases hx with⟨hx,_⟩|⟨_,hx|hx⟩
     ·exact a hx
     ·exact c.ne.2.1 (im hx).1
     ·exact c.ne.2.2.1 (im hx).1
    ·rcases hx with hx|⟨_,hx⟩
     ·exact b hx
     ·exact b0 hx
    ·rcases hx with hx|⟨_,b',off',hb',e⟩|⟨_,off',ho,e⟩
     ·exact d hD hx
     ·exact(Qg b' hb').1 (im e).1.symm
     ·have:=(im e).2;omega
  ·refine⟨fun h0 h1 g hg off o1 o2=>?_,fun h1=>?_,fun j hj jz hw=>?_⟩
   ·have P0:=fun g hg=>T.Zv h0 (fun j hj=>h1 j ((hmx j).trans hj)) g hg off o1 o2;by_cases e:g=st.γ.num
    ·subst e;intro i a ha e';obtain⟨hlt,ha'⟩:=told ha;exact fork_knows hx hy hd0 (Deaf_absent fun i op hi e'=>by have:=h.base.tr.gs i op hi;omega) (P0 0 (.inl rfl) i a ha' e')
    ·refine(P0 g (hg.imp id fun⟨a,b⟩=>⟨a,?_⟩)).app fun op hop b hb=>by rw[nt op hop]at hb;cases hb
     have b:g<st.γ.num+1:=b;omega
   ·obtain⟨r,r1,r2,r3⟩:=T.VT h1;have hp:=lt_of_act? r1.1;refine⟨r,r1.app fun op hop sync e=>?_,(heard_old hp).2 r2,fun off o1 o2 i a ha e hw=>?_⟩
    ·have:=nt op hop
     rw[e]at this;cases this
    ·obtain⟨hlt,ha'⟩:=told ha;exact(r3 off o1 o2 i a ha' e hw).app _
   ·have hw:(upd st.γ.wk st.γ.num {mx:=.fresh,zw:=false,rw:=false,syn:=false,wg:=.work,df:=0,keep:=keep} j).wg≠ .work:=hw;have jz:j<st.γ.num+1:=jz;by_cases e:j=st.γ.num
    ·rw[e,VQ]at hw;exact absurd rfl hw
    ·rw[Lj j e]at hw;obtain⟨r,r1,r2⟩:=T.rel j hj (by omega) hw;refine⟨r,r1.app fun i hi _=>(ku nt hi).1,fun i a hri hg ha=>?_⟩;obtain⟨hlt,ha'⟩:=told ha;exact r2 i a hri ((Af hlt).1 hg) ha'
 ·refine⟨aH _,fun _ l hl=>.inl ⟨hl,fun h0=>hj h0.1⟩,fun _ l hl=>.inl hl,fun _ b hb=>rfl,fun _=>Lj j (by omega),fun h0=>absurd h0 hj,fun _=>rfl,fun _ _ _ s' hs'=>?_,fun h0=>absurd h0 hj,fun _ _ _ _ _ _ _ _ _=>rfl,fun _ _=>rfl,fun _ _ _=>aH _,by show st.γ.num<=st.γ.num+1;omega⟩;refine⟨?_,fun _=>⟨rfl,rfl,rfl,rfl⟩,id⟩;show RG (eD.mm {st.γ with num:=st.γ.num+1,mw:=.sp,wk:=upd st.γ.wk st.γ.num {mx:=.fresh,zw:=false,rw:=false,syn:=false,wg:=.work,df:=0,keep:=keep},ex:=wR st.γ s k F,rd:=wQ st.γ s F Fr,sh:=wP st.γ}) s'.n0 s'.n (st.γ.tn+st.γ.th)<=_;rw[hmm];exact aH _
end
end
section
def Wk.start(keep:List (Nat×Obj)):Wk:={mx:=.fresh,zw:=false,rw:=false,syn:=false,wg:=.work,df:=0,keep:=keep}
section
variable{q:iK}{s:eI}{num:Nat}{K:List (Nat×Obj)}
theorem TT.fork{P:au}(hP:q.P=P){g:ah}{st:St eD}{k:Nat}(hA:ni s .ad 0 num K st)(hk:num=s.n0+k)(hkn:k<s.n)
  (h:∀dV,ni s .ad 0 num K dV->Inv q dV->gL q s dV->∃g' child,stepG P (0==0) g dV.w=.spawn g' child dV.w #[]/\g'.status=.running/\child.status=.running/\
   ∃(keep:List (Nat×Obj)) (F Fr:Nat->Prop),(∀b,F b->∀off,dV.γ.ex 0 (ca b off))/\(∀b,Fr b->∀off,dV.γ.rd 0 (ca b off))/\(∀b o,(b,o)∈keep->(F b\/Fr b)/\dV.w.heap[b]?=some o)/\
   (∀dY,At s num (Wk.start keep) dY->Inv q dY->TW (cfg q) num child dY)/\∀dY,ni s .sp 0 (num+1) K dY->Inv q dY->TT (cfg q) 0 (TW (cfg q)) g' dY):TT (cfg q) 0 (TW (cfg q)) g st:=by
 subst hP;refine TT.step fun dV hr hi=>⟨fun hl=>absurd rfl hl.1,?_⟩;have hr:Rl 0 st dV:=hr;have hi:Inv q dV:=hi;have dX:=hA.rely hr;obtain⟨g',child,h1,h2,h3,keep,F,Fr,hF,hFr,Ff,h4,h5⟩:=h dV dX hi (hi.eZ s dX.sc).c;unfold iR;rw[show stepG (cfg q).P (0==0) g dV.w=_ from h1];have iC:=dX.num;subst iC;obtain⟨k1,k2⟩:=hi.fork (keep:=keep) (F:=F) (Fr:=Fr) (k:=k) dX.sc dX.mw dX.dm hk hkn hF hFr (x:={g:=0,fn:=g.frame.fn,pos:=g.frame.place,act:=.go dV.γ.num}) (y:={g:=dV.γ.num,fn:=child.frame.fn,pos:=g.frame.place,act:=.start}) ⟨rfl,rfl⟩ ⟨rfl,rfl⟩;have e:(dV.t++((aA 0 g.frame.fn g.frame.place #[]).push {g:=0,fn:=g.frame.fn,pos:=g.frame.place,act:=.go dV.γ.num}).push {g:=dV.γ.num,fn:=child.frame.fn,pos:=g.frame.place,act:=.start})=dV.t++#[{g:=0,fn:=g.frame.fn,pos:=g.frame.place,act:=.go dV.γ.num},{g:=dV.γ.num,fn:=child.frame.fn,pos:=g.frame.place,act:=.start}]:=by
  rw[ofEvents_none];rfl
 refine⟨({dV.γ with num:=dV.γ.num+1,mw:=.sp,wk:=upd dV.γ.wk dV.γ.num (Wk.start keep),ex:=wR dV.γ s k F,rd:=wQ dV.γ s F Fr,sh:=wP dV.γ}:eD),?_⟩
 ·have hnew:=(hi.eZ s dX.sc).c.new dV.γ.num nle;have n0:=(hi.eZ s dX.sc).c.n0;show Inv q ⟨dV.w,dV.t++((aA 0 g.frame.fn g.frame.place #[]).push {g:=0,fn:=g.frame.fn,pos:=g.frame.place,act:=.go dV.γ.num}).push {g:=dV.γ.num,fn:=child.frame.fn,pos:=g.frame.place,act:=.start},_⟩/\_;simp only[cfg];rw[e];refine⟨k1,trivial,fun j hj hlt=>k2 j hj hlt,fun j hj hw=>?_,h2,?_,trivial,h3,?_⟩
  ·obtain⟨w1,w2⟩:=hw;refine⟨w1,?_⟩;rcases w2 with⟨a,_⟩|⟨a,b,d,f⟩
   ·exact absurd a hj
   ·have hne:j≠dV.γ.num:=fun e=>by rw[e,hnew]at b;cases b
    right;refine⟨a,?_,d,?_⟩
    ·show(upd dV.γ.wk dV.γ.num (Wk.start keep) j).mx=.iF;rw[upd_ne _ _ hne];exact b
    ·show(upd dV.γ.wk dV.γ.num (Wk.start keep) j).wg=.work;rw[upd_ne _ _ hne];exact f
  ·refine h5 _ ⟨dX.sc,rfl,dX.dm,rfl,fun b o hb=>?_,dX.nd⟩ k1;obtain⟨f1,f2⟩:=dX.fz b o hb;obtain⟨a1,a2,a3,a4⟩:=dX.apart hi hb;refine⟨f1,?_⟩;by_cases hFb:F b
   ·exact .inr fun off=>.inr (.inl ⟨.inl rfl,b,off,.inl hFb,rfl⟩)
   ·rcases f2 with f2|f2
    ·refine .inl fun off=>.inl ⟨f2 off,fun h0=>?_⟩;rcases h0.2 with e|e|⟨b',hb',e⟩
     ·exact a3 (im e).1
     ·exact a4 (im e).1
     ·have e:b=b':=by unfold ca ij at e;simpa using e
      exact hFb (e ▸ hb')
    ·exact .inr fun off=>.inl (f2 off)
  ·show TW (cfg q) dV.γ.num child _;refine h4 _ ⟨by have:=n0.1;omega,dX.sc,by omega,by show dV.γ.num<dV.γ.num+1;omega,?_,fun b o hb=>?_⟩ k1
   ·exact gF _ _ _
   ·obtain⟨f1,f2⟩:=Ff b o hb;exact⟨f2,fun off=>.inr (.inl ⟨.inr rfl,b,off,f1,rfl⟩)⟩
end
end
section
open Go.ConcM (OsLater)
def aA7(γ:eD)(s:eI):Nat->Loc->Prop:=fun g l=>γ.ex g l/\¬(ij l=some s.Gb\/ij l=some s.Wg\/((ij l=some s.Zb\/ij l=some s.Rb)/\∀k,k<s.n->l≠ca s.Zb k/\l≠ca s.Rb k))
def aA6(γ:eD)(s:eI):Nat->Loc->Prop:=fun g l=>γ.rd g l\/(g=0/\∃off,off<3/\l=ca s.Gb off)
def aA5(s:eI):Nat->Loc->Prop:=fun g l=>g=0/\((∃off,3<=off/\off<6/\l=ca s.Gb off)\/∃off,off<2/\l=ca s.Wg off)
def Kc(γ:eD)(s:eI):eD:={γ with sc:=some s,mw:=.sp,D:=0,L:=0,W:=0,S:=0,N:=0,tn:=0,th:=0,gs:=0,gm:=0,ex:=aA7 γ s,rd:=aA6 γ s,sh:=aA5 s}
structure FK(q:iK)(s:eI)(st:St eD):Prop where
 n0:s.n0=st.γ.num
 n9:s.n<=9
 gb:∃C:Array af,st.w.heap[s.Gb]?=some (.cells C q.tG)/\C.size=16/\C[0]?=some s.g0/\C[1]?=some s.g1/\C[2]?=some s.g2/\C[3]?=some (.int .u32 0)/\C[4]?=some (.int .i32 0)/\C[5]?=some (.int .u32 0)/\∀k,6<=k->k<16->∃x,C[k]?=some (.int .u64 x)
 wg:WgAt q.tW s.Wg st.w (0:Nat) (0:Nat)
 zb:tF s.Zb s.n q.tZ (fun _=>false) s.zv st.w
 rb:tF s.Rb s.n q.tR (fun _=>false) s.rv st.w
 ne:s.Gb≠s.Wg/\s.Gb≠s.Zb/\s.Gb≠s.Rb/\s.Wg≠s.Zb/\s.Wg≠s.Rb/\s.Zb≠s.Rb
 ex:∀b,(b=s.Gb\/b=s.Wg\/b=s.Zb\/b=s.Rb)->∀off,st.γ.ex 0 (ca b off)
 nd:¬st.γ.dead s.Gb/\¬st.γ.dead s.Zb/\¬st.γ.dead s.Rb
theorem Ar(b off:Nat):ij (ca b off)=some b:=rfl
theorem Vd{p:MX->Bool}{m:Nat->MX}{a n:Nat}(h:∀k,a<=k->k<a+n->p (m k)=false):cnt p m a n=0:=by
 unfold cnt;rw[List.countP_eq_zero];intro k hk;have:=List.mem_range.1 hk
 rw[h (a+k) (by omega) (by omega)];simp
section
variable{q:iK}{s:eI}
theorem Inv.enter{st:St eD}(h:Inv q st)(hs:st.γ.sc=none)(hd:st.γ.dm=0)(E:FK q s st):
  Inv q ⟨st.w,st.t,Kc st.γ s⟩/\∀j,j≠0->Rl j st ⟨st.w,st.t,Kc st.γ s⟩:=by
 have A:=h.base.tr.FD;have pos:=h.base.pos;have hold:st.γ.old=st.γ.num:=by unfold eD.old;rw[hs]
 have hold':(Kc st.γ s).old=st.γ.num:=by unfold eD.old Kc;exact E.n0
 have new:∀j,st.γ.num<=j->st.γ.wk j=.new:=h.base.nw;have ZA:∀j,0<j->j<st.γ.num->(st.γ.wk j).wg=.lv\/(st.γ.wk j).wg=.gone:=fun j a b=>h.base.old j a (by rw[hold];exact b);have ex0:=E.ex;have exG:=fun off=>ex0 s.Gb (.inl rfl) off;have exW:=fun off=>ex0 s.Wg (.inr (.inl rfl)) off;have Hy:=fun off=>ex0 s.Zb (.inr (.inr (.inl rfl))) off;have exR:=fun off=>ex0 s.Rb (.inr (.inr (.inr rfl))) off;have A':Ng st.w.heap.size (aA7 st.γ s) (aA6 st.γ s) (aA5 s):=by
  refine⟨fun g g' l h1 h2=>A.ee _ _ _ h1.1 h2.1,fun g g' l h1 h2=>?_,fun g g' l h1 h2=>?_,fun g g' l h1 h2=>?_,fun g l h1=>A.low _ _ h1.1,fun g l h1 b hb=>?_,fun g l h1 b hb=>?_,fun g l h1=>?_⟩
  ·rcases h2 with h2|⟨_,off,_,rfl⟩
   ·exact A.er _ _ _ h1.1 h2
   ·exact h1.2 (.inl rfl)
  ·obtain⟨_,⟨off,_,_,rfl⟩|⟨off,_,rfl⟩⟩:=h2
   ·exact h1.2 (.inl rfl)
   ·exact h1.2 (.inr (.inl rfl))
  ·obtain⟨_,⟨off,o1,o2,rfl⟩|⟨off,_,rfl⟩⟩:=h2
   ·rcases h1 with h1|⟨_,off',o',e⟩
    ·exact A.er _ _ _ (exG off) h1
    ·have:=(im e).2;omega
   ·rcases h1 with h1|⟨_,off',o',e⟩
    ·exact A.er _ _ _ (exW off) h1
    ·exact E.ne.1 (im e).1.symm
  ·rcases h1 with h1|⟨_,off,_,rfl⟩
   ·exact A.xI _ _ h1 b hb
   ·exact A.low _ _ (exG off) b hb
  ·obtain⟨_,⟨off,_,_,rfl⟩|⟨off,_,rfl⟩⟩:=h1
   ·exact A.low _ _ (exG off) b hb
   ·exact A.low _ _ (exW off) b hb
  ·rcases h1 with h1|h1|h1
   ·exact A.mem _ _ (.inl h1.1)
   ·rcases h1 with h1|⟨_,off,_,rfl⟩
    ·exact A.mem _ _ (.inr (.inl h1))
    ·rfl
   ·obtain⟨_,⟨off,_,_,rfl⟩|⟨off,_,rfl⟩⟩:=h1<;>rfl
 have htr:FH st.t st.γ.num st.w.heap.size (aA7 st.γ s) (aA6 st.γ s) (aA5 s):=by
  refine h.base.tr.sub A' (fun g l hl=>hl.1) (fun g l hl=>?_) fun g l hl=>.inr ?_
  ·rcases hl with hl|⟨rfl,off,_,rfl⟩
   ·exact .inl hl
   ·exact .inr (exG off)
  ·obtain⟨rfl,⟨off,_,_,rfl⟩|⟨off,_,rfl⟩⟩:=hl
   ·exact⟨exG off,fun i a ha _ hk=>h.base.said i a ha hk⟩
   ·exact⟨exW off,fun i a ha _ hk=>h.base.said i a ha hk⟩
 have jV:∀j,((Kc st.γ s).wk j).mx≠ .own .work:=fun j hj=>by
  have hj:(st.γ.wk j).mx=.own .work:=hj;by_cases h1:st.γ.num<=j
  ·rw[new j h1]at hj;cases hj
  ·rcases h.base.S9 j (by rw[hold];omega)with e|e<;>rw[e]at hj<;>cases hj
 have aq1:∀g,Mem s (Kc st.γ s) g->g=0:=fun g hg=>by
  rcases hg with rfl|⟨a,b⟩
  ·rfl
  ·have b:g<st.γ.num:=b;have:=E.n0
   omega
 have YQ:∀p:WG->Bool,p .idle=false->gj p (Kc st.γ s) s=0:=fun p hp=>ry fun j h1 h2=>by
  show p (st.γ.wk j).wg=false;rw[new j (by have:=E.n0;omega)];exact hp
 have wk0:∀j,s.n0<=j->st.γ.wk j=.new:=fun j hj=>new j (by rw[<-E.n0];exact hj);have hmu:jJ (Kc st.γ s).mm s.n0 s.n 0 0 0 0 0 0:=by
  have z:∀p:MX->Bool,p .fresh=false->cnt p (Kc st.γ s).mm s.n0 s.n=0:=fun p hp=>Vd fun k k1 _=>by
   show p (st.γ.wk k).mx=false;rw[wk0 k k1];exact hp
  refine⟨(z _ rfl).symm,?_,?_,by omega,.inr ⟨rfl,rfl,z _ rfl,z _ rfl⟩,fun _ _ _ h=>by omega⟩
  ·rw[z MX.iW rfl,z MX.lT rfl,z MX.kZ rfl]
  ·rw[z MX.iW rfl,z MX.vv rfl,z MX.jo rfl]
 refine⟨⟨⟨pos,htr,h.base.JY,h.base.YG,h.base.Pm,h.base.gone,h.base.os,h.base.out,fun j a b=>h.base.old j a (by rw[hold];rw[hold']at b;exact b),h.base.dead,fun i a ha hm=>?_,fun i g hg hne hlt hc=>?_,fun g l hl=>?_,fun j hj=>h.base.S9 j (by rw[hold];replace hj:j<(Kc st.γ s).old:=hj;rw[hold']at hj;exact hj),new,h.base.said,fun s' hs'=>by
  have hs':some s=some s':=hs';cases hs';exact E.nd⟩,?_,fun s' hs'=>?_⟩,fun j hj=>?_⟩
 ·show(∃b,ij a.loc=some b/\st.γ.dead b)\/Knows st.t 0 i\/∃g,st.t.g? i=some g/\(Kc st.γ s).old<=g;rw[hold',<-hold];exact h.base.know i a ha hm
 ·replace hlt:g<(Kc st.γ s).old:=hlt;rw[hold',<-hold]at hlt;exact h.base.ho i g hg hne hlt hc
 ·rcases hl with hl|hl|hl
  ·exact h.base.pool g l (.inl hl.1)
  ·rcases hl with hl|⟨rfl,_⟩
   ·exact h.base.pool g l (.inr (.inl hl))
   ·exact pos
  ·rw[hl.1];exact pos
 ·show some s=none↔MW.sp=.solo;simp
 ·have hs':some s=some s':=hs';cases hs';refine⟨?_,?_,?_⟩
  ·exact{
    n0:=⟨by rw[E.n0];exact pos,by rw[E.n0];exact aH _,by rw[E.n0];show st.γ.num<=_;omega,E.n9⟩
    gb:=by
     obtain⟨C,c1,c2,c3,c4,c5,c6,c7,c8,c9⟩:=E.gb;exact⟨C,c1,c2,c3,c4,c5,c6,c7,c8,c9,fun e=>by cases e⟩
    qL:=E.wg
    zb:=E.zb.block rfl fun k _ hf=>by
     have hf:(st.γ.wk (s.n0+k)).zw=true:=hf;rw[wk0 _ (by omega)]at hf;cases hf
    rb:=E.rb.block rfl fun k _ hf=>by
     have hf:(st.γ.wk (s.n0+k)).rw=true:=hf;rw[wk0 _ (by omega)]at hf;cases hf
    ne:=E.ne
    mu:=hmu
    D1:=Nat.zero_le _
    work:=fun j hj=>absurd hj (jV j)
    dn:=fun j hj=>by
     have hj:(st.γ.wk j).mx=.own .dn:=hj;by_cases h1:st.γ.num<=j
     ·rw[new j h1]at hj;cases hj
     ·rcases h.base.S9 j (by rw[hold];omega)with e|e<;>rw[e]at hj<;>cases hj
    syn:=fun j h0 hj=>by
     have hj:(st.γ.wk j).syn=true:=hj;rw[wk0 j h0]at hj;cases hj
    new:=new
    on:=fun j h1 h2=>by
     have h2:j<st.γ.num:=h2;have:=E.n0
     omega
    fin:=fun j h1 h2 _=>by
     have h2:(st.γ.wk j).wg≠ .idle:=h2;rw[wk0 j h1]at h2;exact absurd rfl h2
    all:=fun hm=>by
     have hm:MW.sp=.wt\/MW.sp=.rg\/MW.sp=.lG:=hm;simp at hm
    sD:=by
     show xh .sp (gj WG.cd (Kc st.γ s) s) (gj (·== .d2) (Kc st.γ s) s) (gj (·== .d3) (Kc st.γ s) s) (gj (·== .d4) (Kc st.γ s) s) 0 0;rw[YQ WG.cd rfl,YQ (·== .d2) rfl,YQ (·== .d3) rfl,YQ (·== .d4) rfl];simp only[xh];exact⟨trivial,trivial,trivial,trivial,trivial⟩}
  ·refine⟨fun g b hb=>?_,fun k k1 k2=>?_,fun k k1 _=>?_,fun g hg off ho=>?_,fun g hg=>?_,fun j hj=>absurd hj (jV j),fun j h0 hj=>?_,fun _ g off o1 o2=>?_⟩
   ·refine⟨⟨s.n,fun hx=>hx.2 ?_⟩,3,fun hx=>?_⟩
    ·rw[Ar];rcases hb with rfl|rfl|rfl|rfl
     ·exact .inl rfl
     ·exact .inr (.inl rfl)
     ·exact .inr (.inr ⟨.inl rfl,fun k hk=>⟨fun e=>by have:=(im e).2;omega,fun e=>by have:=(im e).2;omega⟩⟩)
     ·exact .inr (.inr ⟨.inr rfl,fun k hk=>⟨fun e=>by have:=(im e).2;omega,fun e=>by have:=(im e).2;omega⟩⟩)
    ·rcases hx with hx|⟨_,off,ho,e⟩
     ·exact A.er _ _ _ (ex0 b hb 3) hx
     ·have:=(im e).2;omega
   ·have k2:s.n0+k<st.γ.num:=k2;have:=E.n0
    omega
   ·refine⟨⟨Hy k,fun hx=>?_⟩,exR k,fun hx=>?_⟩
    ·rw[Ar]at hx;rcases hx with hx|hx|⟨_,hx⟩
     ·exact E.ne.2.1 (Option.some.inj hx).symm
     ·exact E.ne.2.2.2.1 (Option.some.inj hx).symm
     ·exact(hx k k1).1 rfl
    ·rw[Ar]at hx;rcases hx with hx|hx|⟨_,hx⟩
     ·exact E.ne.2.2.1 (Option.some.inj hx).symm
     ·exact E.ne.2.2.2.2.1 (Option.some.inj hx).symm
     ·exact(hx k k1).2 rfl
   ·rw[aq1 g hg];exact .inr ⟨rfl,off,ho,rfl⟩
   ·rw[aq1 g hg];exact⟨fun off a b=>⟨rfl,.inl ⟨off,a,b,rfl⟩⟩,fun off a=>⟨rfl,.inr ⟨off,a,rfl⟩⟩⟩
   ·have hj:(st.γ.wk j).syn=true:=hj;rw[wk0 j h0]at hj;cases hj
   ·refine⟨fun hx=>hx.2 (.inl rfl),fun hx=>?_,fun _ hx=>?_⟩
    ·obtain⟨_,⟨off',a,b,e⟩|⟨off',a,e⟩⟩:=hx
     ·have:=(im e).2;omega
     ·exact E.ne.1 (im e).1
    ·rcases hx with hx|⟨_,off',ho,e⟩
     ·exact A.er _ _ _ (exG off) hx
     ·have:=(im e).2;omega
  ·refine⟨fun _ _ g hg off _ _=>?_,fun h1=>(by cases h1),fun j h1 h2=>?_⟩
   ·rw[aq1 g hg];exact h.base.tr.ex 0 _ (exG off)
   ·have h2:j<st.γ.num:=h2;have:=E.n0
    omega
 ·have nl:Live j st->st.γ.num<=j:=fun hl=>by
   refine Nat.le_of_not_lt fun hlt=>?_;rcases hl with hl|hl
   ·exact hj hl
   ·exact(ZA j (by omega) hlt).elim hl.1 hl.2
  have idle:(st.γ.wk j).wg≠ .lv->(st.γ.wk j).wg≠ .gone/\(st.γ.wk j).wg≠ .idle->False:=fun a b=>by
   by_cases hlt:j<st.γ.num
   ·exact(ZA j (by omega) hlt).elim a b.1
   ·exact b.2 (by rw[new j (by omega)];rfl)
  refine⟨aH _,fun hl l hx=>?_,fun hl l hx=>?_,fun _ b _=>rfl,fun _=>rfl,fun e=>absurd e hj,fun hx=>?_,fun _ a b _ _=>(idle a b).elim,fun e=>absurd e hj,fun _ a b _ _ _ _ _ _=>(idle a b).elim,fun _ hx=>absurd hx (jV j),fun _ hx hg=>?_,aH _⟩
  ·have:=h.base.pool j l (.inl hx);have:=nl hl;omega
  ·have:=h.base.pool j l (.inr (.inl hx));have:=nl hl;omega
  ·rcases hx with hx|hx
   ·exact absurd hx hj
   ·exact(idle hx.1 hx.2).elim
  ·exact(idle (by rw[hg];simp) (by rw[hg];simp)).elim
end
end
section
open Go.ConcM (OsLater)
def av6(γ:eD)(s:eI)(size:Nat):Nat->Loc->Prop:=fun g l=>g=0/\l.isMemory=true/\∃b,ij l=some b/\b<size/\¬γ.dead b/\b≠s.Wg
def jnG(γ:eD)(s:eI)(size:Nat):eD:={γ with sc:=none,mw:=.solo,ex:=av6 γ s size,rd:=fun _ _=>False,sh:=fun _ _=>False,dead:=fun b=>γ.dead b\/b=s.Wg}
theorem vF{p:WG->Bool}{γ:eD}{s:eI}(h:gj p γ s=0){j:Nat}(h1:s.n0<=j)(h2:j<s.n0+s.n):p (γ.wk j).wg=false:=by
 cases hp:p (γ.wk j).wg with
 |false=>rfl
 |true=>have:=uP (p:=p) h1 h2 hp;omega
section
variable{q:iK}{s:eI}
theorem S5{st:St eD}(c:gL q s st)(zM:st.γ.mw=.lG):st.γ.num=s.n0+s.n/\∀j,s.n0<=j->j<st.γ.num->(st.γ.wk j).wg=.lv\/(st.γ.wk j).wg=.gone:=by
 have iC:=c.all (.inr (.inr zM));refine⟨iC,fun j h1 h2=>?_⟩;have w:=c.sD;rw[zM]at w;obtain⟨w1,_,_,w2,w3,w4⟩:=w;have a1:=vF w1 h1 (by omega);have a2:=vF w2 h1 (by omega);have a3:=vF w3 h1 (by omega);have a4:=vF w4 h1 (by omega);have a5:=c.on j h1 h2;cases hw:(st.γ.wk j).wg<;>rw[hw]at a1 a2 a3 a4 a5<;>first|exact .inl rfl|exact .inr rfl|(simp[WG.cd]at a1;done)|(simp at a2;done)|(simp at a3;done)|(simp at a4;done)|(simp at a5;done)
theorem Inv.join{st:St eD}(h:Inv q st)(hs:st.γ.sc=some s)(zM:st.γ.mw=.lG)(hd:st.γ.dm=0)(fn:ak)(pos:String):
  Inv q ⟨st.w,st.t++aA 0 fn pos #[⟨.mark (.acquire (stA s.Wg)),false,true⟩],jnG st.γ s st.w.heap.size⟩/\∀j,j≠0->Rl j st ⟨st.w,st.t++aA 0 fn pos #[⟨.mark (.acquire (stA s.Wg)),false,true⟩],jnG st.γ s st.w.heap.size⟩:=by
 obtain⟨c,p,T⟩:=h.eZ s hs;have A:=h.base.tr.FD;have n0:=c.n0;have hl:=c.OD;have pos':=h.base.pos;obtain⟨iC,lv⟩:=S5 c zM;have hold:st.γ.old=s.n0:=by unfold eD.old;rw[hs]
 have hold':(jnG st.γ s st.w.heap.size).old=st.γ.num:=rfl;have all:∀j,0<j->j<st.γ.num->(st.γ.wk j).wg=.lv\/(st.γ.wk j).wg=.gone:=fun j a b=>by
  rcases bw j s.n0 with hj|hj
  ·exact h.base.old j a (by rw[hold];exact hj)
  ·exact lv j hj b
 obtain⟨nd1,nd2,nd3⟩:=h.base.dsc s hs;have mU:∀op∈aA 0 fn pos #[⟨.mark (.acquire (stA s.Wg)),false,true⟩],op.g=0/\op.act.touch?=none/\op.act=.mark (.acquire (stA s.Wg)):=by
  intro op ho;obtain⟨e,he,rfl⟩:=gQ ho;simp at he;subst he;exact⟨rfl,rfl,rfl⟩
 have hq:(st.t++aA 0 fn pos #[⟨.mark (.acquire (stA s.Wg)),false,true⟩])[st.t.size]?=some {g:=0,fn,pos,act:=.mark (.acquire (stA s.Wg))}:=by
  rw[uZ];simp[MemAct.ofEvent]
 generalize hu:aA 0 fn pos #[⟨.mark (.acquire (stA s.Wg)),false,true⟩]=u at mU hq ⊢;have hd0:Deaf st.t 0=0:=by rw[h.base.YG,hd]
 have Mp:(st.t++u).heard st.t.size:=⟨0,by simp only[cX,hq];rfl,by rw[deaf_old nle];exact hd0⟩;have nt:∀op∈u,op.act.touch?=none:=fun op ho=>(mU op ho).2.1;have told:∀{i:Nat} {a:Touch},touchAt (st.t++u) i=some a->i<st.t.size/\touchAt st.t i=some a:=by
  intro i a ha;rcases gT ha with h1|⟨_,op,hop,_,vN⟩
  ·exact h1
  ·rw[nt op hop]at vN;cases vN
 have Af:∀{i g:Nat},i<st.t.size->((st.t++u).g? i=some g↔st.t.g? i=some g):=fun hi=>by simp only[cX,getElem?_append_old hi]
 have norel:∀k a,(st.t++u).act? k=some (.mark (.release a))->∀i,i<=k->st.t.g? i=some 0:=fun k a e=>by
  obtain⟨op,ho,hoa⟩:=Option.map_eq_some_iff.1 e;rcases getElem?_append_cases ho with⟨_,h1⟩|⟨_,h1⟩
  ·exact h.base.tr.norel k op h1 a hoa
  ·rw[(mU op h1).2.2]at hoa;cases hoa
 have edge:∀j,s.n0<=j->j<st.γ.num->∃r,RelBy (stA s.Wg) st.t j r/\(∀i a,r<i->st.t.g? i=some j->touchAt st.t i=some a->ij a.loc=some s.Wg)/\HappensBefore (st.t++u) r st.t.size:=fun j h1 h2=>by
  obtain⟨r,r1,r2⟩:=T.rel j h1 h2 (by rcases lv j h1 h2 with e|e<;>rw[e]<;>simp);have hr:=lt_of_act? r1.act;refine⟨r,r1,r2,.single (.inr ⟨.marked hr (.inr ((act?_old hr).trans r1.act)) (by simp only[Trace.act?,hq];rfl) (fun k hk _ e=>by have:=norel k _ e r (by omega);rw[r1.g]at this;have:=Option.some.inj this;have:=n0.1;omega),(heard_old hr).2 r1.heard,Mp⟩)⟩
 have upto:∀{i j:Nat},st.t.g? i=some j->s.n0<=j->j<st.γ.num->(∀r,RelBy (stA s.Wg) st.t j r->(∀i a,r<i->st.t.g? i=some j->touchAt st.t i=some a->ij a.loc=some s.Wg)->i<=r)->HappensBefore (st.t++u) i st.t.size:=by
  intro i j hg h1 h2 hle;obtain⟨r,r1,r2,r3⟩:=edge j h1 h2;have hr:=lt_of_act? r1.act;rcases bw i r with hlt|hge
  ·exact .trans (.single (.inl ⟨hlt,j,(Af (by omega)).2 hg,(Af hr).2 r1.g⟩)) r3
  ·have:=hle r r1 r2
   obtain rfl:i=r:=by omega
   exact r3
 have bz1:∀{i g:Nat},st.t.g? i=some g->g<st.γ.num:=fun hg=>by
  obtain⟨op,ho,Ug⟩:=Option.map_eq_some_iff.1 hg;have:=h.base.tr.gs _ op ho
  omega
 have known:∀i a,touchAt st.t i=some a->a.loc.isMemory=true->(∃b,ij a.loc=some b/\(st.γ.dead b\/b=s.Wg))\/Knows (st.t++u) 0 i:=fun i a ha hm=>by
  rcases h.base.know i a ha hm with⟨b,h1,h2⟩|h1|⟨g,h1,h2⟩
  ·exact .inl ⟨b,h1,.inl h2⟩
  ·exact .inr (h1.app _)
  ·rw[hold]at h2;by_cases hb:ij a.loc=some s.Wg
   ·exact .inl ⟨_,hb,.inr rfl⟩
   ·refine .inr ⟨st.t.size,_,hq,rfl,.inr (upto h1 h2 (bz1 h1) fun r _ r2=>?_)⟩;refine Nat.le_of_not_lt fun hlt=>hb (r2 i a hlt h1 ha)
 have A':Ng st.w.heap.size (av6 st.γ s st.w.heap.size) (fun _ _=>False) (fun _ _=>False):=by
  refine⟨fun g g' l h1 h2=>h1.1.trans h2.1.symm,fun g g' l _ h2=>h2,fun _ _ _ _ x=>x,fun _ _ _ _ x=>x,fun g l h1 b hb=>?_,fun _ _ x=>x.elim,fun _ _ x=>x.elim,fun g l h1=>?_⟩
  ·obtain⟨_,_,b',hb',hlt,_⟩:=h1;rw[hb]at hb';cases hb';exact hlt
  ·rcases h1 with h1|h1|h1
   ·exact h1.2.1
   ·exact h1.elim
   ·exact h1.elim
 have htr:FH (st.t++u) st.γ.num st.w.heap.size (av6 st.γ s st.w.heap.size) (fun _ _=>False) (fun _ _=>False):=by
  refine⟨fun said=>?_,A',fun g l hl=>?_,fun g l hl=>hl.elim,fun _ _ x=>x.elim,fun i a ha b hb=>(h.base.tr.low i a (told ha).2 b hb).imp id fun k g hg=>(k g hg).app _,fun i op hi=>?_,fun i op hi a=>?_⟩
  ·refine noRace_append (g:=0) (h.base.tr.nr said) (fun op ho=>(mU op ho).1) fun i a _ op hop b hb _=>?_;rw[nt op hop]at hb;cases hb
  ·obtain⟨rfl,hm,b,hb,_,hnd,hne⟩:=hl;intro i a ha e;obtain⟨_,ha'⟩:=told ha;rcases known i a ha' (by rw[e];exact hm)with⟨b',h1,h2⟩|h1
   ·rw[e,hb]at h1;obtain rfl:=Option.some.inj h1;exact(h2.elim hnd hne).elim
   ·exact h1
  ·rcases getElem?_append_cases hi with⟨_,h1⟩|⟨_,h1⟩
   ·exact h.base.tr.gs i op h1
   ·rw[(mU op h1).1];exact pos'
  ·rcases getElem?_append_cases hi with⟨_,h1⟩|⟨_,h1⟩
   ·intro e k hk;have:=h.base.tr.norel i op h1 a e k hk
    have hlt:k<st.t.size:=Nat.lt_of_le_of_lt hk (lt_size_of_getElem? h1);exact(Af hlt).2 this
   ·rw[(mU op h1).2.2];simp
 have a88:Deaf (st.t++u) 0=Deaf st.t 0:=by
  rw[<-hu,Deaf_own];exact fU fun e he=>by simp at he;subst he;simp
 refine⟨⟨⟨pos',htr,h.base.JY,a88.trans h.base.YG,fun j hj jz=>?_,h.base.gone,h.base.os,h.base.out,fun j a b=>all j a (by rw[hold']at b;exact b),fun b hb=>?_,fun i a ha hm=>?_,fun i g hg hne hlt hc=>?_,fun g l hl=>?_,fun j hj=>?_,h.base.nw,fun i a ha hk=>?_,fun s' hs'=>by cases hs'⟩,?_,fun s' hs'=>by cases hs'⟩,fun j hj=>?_⟩
 ·exact(Deaf_other st.t (by omega:(0:Nat)≠j) _ fun op ho=>(mU op ho).1).trans (h.base.Pm j hj jz)
 ·rcases hb with hb|rfl
  ·exact h.base.dead b hb
  ·exact hl.2.1
 ·obtain⟨_,ha'⟩:=told ha;exact(known i a ha' hm).imp id .inl
 ·replace hlt:g<st.γ.num:=hlt;have hc:(st.t++u).counts i:=hc;rcases bw i st.t.size with hi|hi
  ·have hg':=(Af hi).1 hg;have hc':st.t.counts i:=by rw[counts_old hi]at hc;exact hc
   rcases bw g s.n0 with h0|h0
   ·obtain⟨j,h1,h2⟩:=h.base.ho i g hg' hne (by rw[hold];exact h0) hc';have hj:j<st.t.size:=by
     unfold cX at h1;obtain⟨op,ho,_⟩:=Option.map_eq_some_iff.1 h1;exact lt_size_of_getElem? ho
    exact⟨j,(Af hj).2 h1,hb_app _ h2⟩
   ·refine⟨st.t.size,by show(st.t++u).g? _=_;simp only[cX,hq];rfl,upto hg' h0 hlt fun r r1 _=>?_⟩;exact Nat.le_of_not_lt fun hlt'=>r1.after i hlt' hg' hc'
  ·exact absurd hc (ku nt hi).1
 ·show g<st.γ.num;rcases hl with hl|hl|hl
  ·rw[hl.1];exact pos'
  ·exact hl.elim
  ·exact hl.elim
 ·replace hj:j<st.γ.num:=hj;show(st.γ.wk j).mx=.fresh\/(st.γ.wk j).mx=.out;rcases bw j s.n0 with h0|h0
  ·exact h.base.S9 j (by rw[hold];exact h0)
  ·exact(c.fin j h0 (by rcases lv j h0 hj with e|e<;>rw[e]<;>simp) (by rcases lv j h0 hj with e|e<;>rw[e]<;>simp)).2.2
 ·obtain⟨hlt,ha'⟩:=told ha;exact(Af hlt).2 (h.base.said i a ha' hk)
 ·show none=none↔MW.solo=.solo;simp
 ·have nl:Live j st->st.γ.num<=j:=fun hl=>by
   refine Nat.le_of_not_lt fun hlt=>?_;rcases hl with hl|hl
   ·exact hj hl
   ·exact(all j (by omega) hlt).elim hl.1 hl.2
  have idle:(st.γ.wk j).wg≠ .lv->(st.γ.wk j).wg≠ .gone/\(st.γ.wk j).wg≠ .idle->False:=fun a b=>by
   by_cases hlt:j<st.γ.num
   ·exact(all j (by omega) hlt).elim a b.1
   ·exact b.2 (by rw[h.base.nw j (by omega)];rfl)
  refine⟨aH _,fun hl l hx=>?_,fun hl l hx=>?_,fun _ b _=>rfl,fun _=>rfl,fun e=>absurd e hj,fun hx=>?_,fun _ a b _ _=>(idle a b).elim,fun e=>absurd e hj,fun _ a b _ _ _ _ _ _=>(idle a b).elim,fun _ _=>rfl,fun _ hx hg=>?_,aH _⟩
  ·have:=h.base.pool j l (.inl hx);have:=nl hl;omega
  ·have:=h.base.pool j l (.inr (.inl hx));have:=nl hl;omega
  ·rcases hx with hx|hx
   ·exact absurd hx hj
   ·exact(idle hx.1 hx.2).elim
  ·exact(idle (by rw[hg];simp) (by rw[hg];simp)).elim
end
end
section
open Go.ConcM (OsLater)
structure kv(dm num:Nat)(K:List (Nat×Obj))(st:St eD):Prop where
 sc:st.γ.sc=none
 mw:st.γ.mw=.solo
 dm:st.γ.dm=dm
 num:st.γ.num=num
 fz:∀b o,(b,o)∈K->st.w.heap[b]?=some o/\((∀off,st.γ.ex 0 (ca b off))\/∀off,st.γ.rd 0 (ca b off))
 nd:∀b o,(b,o)∈K->¬st.γ.dead b
section
variable{q:iK}{s:eI}{dm num:Nat}{K:List (Nat×Obj)}
theorem kv.rely{st dV:St eD}(h:kv dm num K st)(hr:Rl 0 st dV):kv dm num K dV:=by
 obtain⟨m1,m2,m3,m4⟩:=hr.main rfl;refine⟨(hr.sc (.inl rfl)).trans h.sc,m1.trans h.mw,m2.trans h.dm,m3.trans h.num,fun b o hb=>?_,fun b o hb hx=>h.nd b o hb ((m4 b).1 hx)⟩;obtain⟨h1,h2⟩:=h.fz b o hb;exact⟨(hr.blk (.inl rfl) b h2).trans h1,h2.imp (fun x off=>hr.ex (.inl rfl) _ (x off)) fun x off=>hr.rd (.inl rfl) _ (x off)⟩
theorem FK.rely{st dV:St eD}(E:FK q s st)(hr:Rl 0 st dV):FK q s dV:=by
 obtain⟨_,_,m3,m4⟩:=hr.main rfl;have b1:=hr.blk (.inl rfl) s.Gb (.inl (E.ex _ (.inl rfl)));have b2:=hr.blk (.inl rfl) s.Wg (.inl (E.ex _ (.inr (.inl rfl))));have b3:=hr.blk (.inl rfl) s.Zb (.inl (E.ex _ (.inr (.inr (.inl rfl)))));have b4:=hr.blk (.inl rfl) s.Rb (.inl (E.ex _ (.inr (.inr (.inr rfl)))));refine⟨E.n0.trans m3.symm,E.n9,by rw[b1];exact E.gb,E.wg.of_block b2,E.zb.block b3 fun _ _ h=>h,E.rb.block b4 fun _ _ h=>h,E.ne,fun b hb off=>hr.ex (.inl rfl) _ (E.ex b hb off),?_⟩;obtain⟨a,b,c⟩:=E.nd;exact⟨fun x=>a ((m4 _).1 x),fun x=>b ((m4 _).1 x),fun x=>c ((m4 _).1 x)⟩
theorem TT.enter{P:au}(hP:q.P=P){Ch:Nat->ah->St eD->Prop}{g g':ah}{st:St eD}(hA:kv 0 num K st)(E:FK q s st)(hK:∀b o,(b,o)∈K->b≠s.Gb/\b≠s.Wg/\b≠s.Zb/\b≠s.Rb)(hstep:∀w,stepG P (0==0) g w=.go g' w #[])(hrun:g'.status=.running)
  (h:∀dY,ni s .sp 0 num K dY->Inv q dY->TT (cfg q) 0 Ch g' dY):TT (cfg q) 0 Ch g st:=by
 subst hP;refine TT.act fun dV hr hi=>?_;have dX:=hA.rely hr;obtain⟨k1,k2⟩:=hi.enter dX.sc dX.dm (E.rely hr);have e:dV.t++aA 0 g.frame.fn g.frame.place #[]=dV.t:=by rw[ofEvents_none,Array.append_empty]
 refine⟨fun hl=>hl.1 rfl,g',dV.w,#[],Kc dV.γ s,hstep dV.w,hrun,rfl,by rw[e];exact⟨k1,k2⟩,.inr fun k _ hw=>absurd dX.sc hw.1,h _ ⟨rfl,rfl,dX.dm,dX.num,fun b o hb=>?_,dX.nd⟩ (by rw[e];exact k1)⟩;obtain⟨f1,f2⟩:=dX.fz b o hb;obtain⟨a1,a2,a3,a4⟩:=hK b o hb;refine⟨f1,f2.imp (fun f off=>⟨f off,fun hx=>?_⟩) fun f off=>.inl (f off)⟩;rw[Ar]at hx;rcases hx with hx|hx|⟨hx|hx,_⟩
 ·exact a1 (Option.some.inj hx)
 ·exact a2 (Option.some.inj hx)
 ·exact a3 (Option.some.inj hx)
 ·exact a4 (Option.some.inj hx)
def Dx(q:iK)(s:eI)(w:ae):Prop:=∃C:Array af,w.heap[s.Gb]?=some (.cells C q.tG)/\C.size=16/\C[0]?=some s.g0/\C[1]?=some s.g1/\C[2]?=some s.g2/\∀k,3<=k->k<16->∃(kk:IntKind) (x:Int),C[k]?=some (.int kk x)
theorem kK.done{γ:eD}{w:ae}(h:kK q s γ w):Dx q s w:=by
 obtain⟨C,h1,h2,h3,h4,h5,h6,h7,h8,h9,_⟩:=h;refine⟨C,h1,h2,h3,h4,h5,fun k k1 k2=>?_⟩;by_cases e3:k=3
 ·subst e3;exact⟨_,_,h6⟩
 by_cases e4:k=4
 ·subst e4;exact⟨_,_,h7⟩
 by_cases e5:k=5
 ·subst e5;exact⟨_,_,h8⟩
 ·obtain⟨x,hx⟩:=h9 k (by omega) k2;exact⟨_,x,hx⟩
theorem TT.join{P:au}(hP:q.P=P){Ch:Nat->ah->St eD->Prop}{g:ah}{st:St eD}(hA:ni s .lG 0 num K st)
  (h:∀dV,ni s .lG 0 num K dV->Inv q dV->gL q s dV->∃g',stepG P (0==0) g dV.w=.go g' dV.w #[⟨.mark (.acquire (stA s.Wg)),false,true⟩]/\g'.status=.running/\
   ∀dY,kv 0 num K dY->Inv q dY->Dx q s dY.w->
    (∃Z:Array af,dY.w.heap[s.Zb]?=some (.cells Z q.tZ)/\Z.size=s.n/\∀k,k<s.n->Z[k]?=some (s.zv k))->(∃R:Array af,dY.w.heap[s.Rb]?=some (.cells R q.tR)/\R.size=s.n/\∀k,k<s.n->R[k]?=some (s.rv k))->
    (∀l b,l.isMemory=true->ij l=some b->b<dY.w.heap.size->¬dY.γ.dead b->dY.γ.ex 0 l)->¬dY.γ.dead s.Gb->¬dY.γ.dead s.Zb->¬dY.γ.dead s.Rb->TT (cfg q) 0 Ch g' dY):TT (cfg q) 0 Ch g st:=by
 subst hP;refine TT.act fun dV hr hi=>?_;have dX:=hA.rely hr;have c:=(hi.eZ s dX.sc).c;obtain⟨g',h1,h2,h3⟩:=h dV dX hi c;obtain⟨k1,k2⟩:=hi.join dX.sc dX.mw dX.dm g.frame.fn g.frame.place;obtain⟨iC,lv⟩:=S5 c dX.mw;have fin:=fun j a b=>c.fin j a (by rcases lv j a b with e|e<;>rw[e]<;>simp) (by rcases lv j a b with e|e<;>rw[e]<;>simp);obtain⟨nd1,nd2,nd3⟩:=hi.base.dsc s dX.sc;refine⟨fun hl=>hl.1 rfl,g',dV.w,_,jnG dV.γ s dV.w.heap.size,h1,h2,rfl,⟨k1,k2⟩,.inr fun k hk hw=>?_,h3 _ ⟨rfl,rfl,dX.dm,dX.num,fun b o hb=>?_,fun b o hb hx=>hx.elim (dX.nd b o hb) (dX.apart hi hb).2.1⟩ k1 c.gb.done ?_ ?_ (fun l b m1 m2 m3 m4=>⟨rfl,m1,b,m2,m3,fun hx=>m4 (.inl hx),fun hx=>m4 (.inr hx)⟩) (fun hx=>hx.elim nd1 c.ne.1) (fun hx=>hx.elim nd2 c.ne.2.2.2.1.symm) fun hx=>hx.elim nd3 c.ne.2.2.2.2.1.symm⟩
 ·obtain⟨_,w2⟩:=hw;rcases w2 with⟨a,_⟩|⟨a,b,d,f⟩
  ·exact absurd a hk
  ·exfalso;by_cases hlt:k<dV.γ.num
   ·rcases bw k s.n0 with h0|h0
    ·rcases hi.base.old k (by omega) (by unfold eD.old;rw[dX.sc];exact h0)with e|e<;>rw[f]at e<;>cases e
    ·rcases lv k h0 hlt with e|e<;>rw[f]at e<;>cases e
   ·rw[hi.base.nw k (by omega)]at f;cases f
 ·obtain⟨f1,f2⟩:=dX.fz b o hb;obtain⟨a1,a2,a3,a4⟩:=dX.apart hi hb;exact⟨f1,.inl fun off=>⟨rfl,rfl,b,rfl,lt_of_block f1,dX.nd b o hb,a2⟩⟩
 ·obtain⟨Z,z1,z2,_,z4⟩:=c.zb;exact⟨Z,z1,z2,fun k hk=>z4 k hk (fin _ (by omega) (by omega)).1⟩
 ·obtain⟨Z,z1,z2,_,z4⟩:=c.rb;exact⟨Z,z1,z2,fun k hk=>z4 k hk (fin _ (by omega) (by omega)).2.1⟩
theorem TT.bq7{P:au}(hP:q.P=P){Ch:Nat->ah->St eD->Prop}{g g':ah}{st:St eD}(hA:ni s .rg 1 num K st)(iC:num=s.n0+s.n)(hoff:g.offers=none)(hs:g'.status=.running)
  (hblk:∀w:ae,w.cell? (smA s.Wg)=some (.int .u32 0)->stepG P (0==0) g w=.go {g with status:=.blocked} w #[])
  (hgo:∀w:ae,w.cell? (smA s.Wg)=some (.int .u32 1)->w.frozen? (smA s.Wg)=false->stepG P (0==0) g w=.go g' (w.setCell (smA s.Wg) (.int .u32 0)) (semEvents (smA s.Wg)))
  (h:∀dY,ni s .lG 1 num K dY->Inv q dY->TT (cfg q) 0 Ch g' dY):TT (cfg q) 0 Ch g st:=by
 subst hP;refine TT.step fun dV hr hi=>⟨fun hl=>absurd rfl hl.1,?_⟩;have hr:Rl 0 st dV:=hr;have hi:Inv q dV:=hi;have dX:=hA.rely hr;have c:=(hi.eZ s dX.sc).c;have hL:=c.sD;rw[dX.mw]at hL;by_cases h0:dV.γ.gm=0
 ·have cell:=c.qL.cellSm;rw[h0]at cell;unfold iR;rw[show stepG (cfg q).P (0==0) g dV.w=_ from hblk dV.w cell];exact .inl ⟨rfl,hoff,rfl,rfl,by rw[dX.sc];simp,.inl ⟨rfl,dX.mw,h0⟩⟩
 ·obtain⟨h1,h2,h3,h4,h5,h6⟩:gj WG.cd dV.γ s=0/\dV.γ.gs=0/\dV.γ.gm=1/\gj (·== .d2) dV.γ s=0/\gj (·== .d3) dV.γ s=0/\gj (·== .d4) dV.γ s=0:=by
   rcases hL with x|x|x|x
   ·exact absurd x.2.2.1 h0
   ·exact absurd x.2.2.1 h0
   ·exact absurd x.2.2.1 h0
   ·exact x
  have hw:=c.qL;rw[h2,h3]at hw;have hstep:=hgo dV.w hw.cellSm (hw.thaw 1);have W:=aside_setCell dV.w (smA s.Wg) (.int .u32 0);have hev:∀e∈semEvents (smA s.Wg),EvM s e:=by
   intro e he;unfold semEvents at he;simp at he;rcases he with rfl|rfl|rfl|rfl
   ·exact .inl ⟨.disable,rfl,by simp⟩
   ·exact .inr (.inl ⟨1,false,rfl,by omega⟩)
   ·exact .inr (.inl ⟨1,true,rfl,by omega⟩)
   ·exact .inl ⟨.enable,rfl,by simp⟩
  obtain⟨k1,k2⟩:=hi.L9 dX.sc (l8:=.lG) (gs₁:=0) (gJ:=0) hev W.size (fun b hb=>W.block b hb) (by rw[W.os];exact .refl _) W.output (hw.setSm 0) (by simp) (fun _=>dX.num.trans iC) ⟨h1,rfl,rfl,h4,h5,h6⟩ g.frame.fn g.frame.place;have hdb:deafBehind dV.γ.dm (semEvents (smA s.Wg))=1:=by rw[dX.dm];rfl
  refine iR.own (C:=cfg q) (γ':={dV.γ with mw:=.lG,dm:=deafBehind dV.γ.dm (semEvents (smA s.Wg)),gs:=0,gm:=0}) hstep hs k1 rfl k2 (.inr fun k hk hw=>?_) (h _ (dX.next hi rfl rfl hdb rfl (fun _ h=>h) (fun _ h=>h) (fun _ h=>h) fun b _ hb _ _ _=>W.block b hb) k1);obtain⟨w1,w2⟩:=hw;exact⟨w1,w2.imp (fun⟨a,_⟩=>absurd a hk) id⟩
theorem TT.jQ{P:au}(hP:q.P=P){Ch:Nat->ah->St eD->Prop}{mw:MW}{g:ah}{st:St eD}(hA:ni s mw dm num K st)(n:Nat)
  (h:∀w:ae,(∃v,w.cell? ⟨s.Wg,0,none⟩=some v)/\(∃v,w.cell? ⟨s.Wg,1,none⟩=some v)->Goes P (0==0) (fun _ w₁=>(∃v,w₁.cell? ⟨s.Wg,0,none⟩=some v)/\∃v,w₁.cell? ⟨s.Wg,1,none⟩=some v) DC0 (fun g' _=>g'.status=.running/\TT (cfg q) 0 Ch g' st) n g w):TT (cfg q) 0 Ch g st:=by
 subst hP;exact TT.step fun dV hr hi=>by
  have hr:Rl 0 st dV:=hr;have hi:Inv q dV:=hi;have f:∀dV,Rl 0 st dV->Inv q dV->(∃v,dV.w.cell? ⟨s.Wg,0,none⟩=some v)/\∃v,dV.w.cell? ⟨s.Wg,1,none⟩=some v:=fun dV hr hi=>⟨⟨_,((hi.eZ s (hA.rely hr).sc).c.qL.cellSt)⟩,⟨_,((hi.eZ s (hA.rely hr).sc).c.qL.cellSm)⟩⟩;exact(TT.walk (C:=cfg q) Dk (F:=fun w₁=>(∃v,w₁.cell? ⟨s.Wg,0,none⟩=some v)/\∃v,w₁.cell? ⟨s.Wg,1,none⟩=some v) f (fun dV hr hi hl=>hl.1 rfl) n g dV.w (h dV.w (f dV hr hi))).elim dV hr hi
theorem ez{s:eI}{w₀ w₁:ae}(_:(∃v,w₀.cell? ⟨s.Wg,0,none⟩=some v)/\∃v,w₀.cell? ⟨s.Wg,1,none⟩=some v)(r:(∃v,w₁.cell? ⟨s.Wg,0,none⟩=some v)/\∃v,w₁.cell? ⟨s.Wg,1,none⟩=some v):(∃v,w₁.cell? ⟨s.Wg,0,none⟩=some v)/\∃v,w₁.cell? ⟨s.Wg,1,none⟩=some v:=r
def Hp(w:ae):Prop:=True
theorem TT.lO{P:au}(hP:q.P=P){Ch:Nat->ah->St eD->Prop}{g:ah}{st:St eD}(n:Nat)(h:∀w:ae,Hp w->Goes P (0==0) (fun _ w₁=>Hp w₁) DC0 (fun g' _=>g'.status=.running/\TT (cfg q) 0 Ch g' st) n g w):TT (cfg q) 0 Ch g st:=by
 subst hP;exact TT.step fun dV hr hi=>(TT.walk (C:=cfg q) Dk (F:=fun w₁=>Hp w₁) (fun _ _ _=>trivial) (fun dV hr hi hl=>hl.1 rfl) n g dV.w (h dV.w trivial)).elim dV hr hi
theorem eQ{w₀ w₁:ae}(_:Hp w₀)(r:Hp w₁):Hp w₁:=r
end
end
end Cc
namespace Cc
open Go.Conc Go.ConcN
section
noncomputable def iy(w:ae)(ly:Nat->Option Nat):ae:=
 {w with heap:=Array.ofFn (n:=w.heap.size) fun b=>match ly b.1,w.heap[b.1]? with
   |some n,some (.cells C e _)=>.cells (C.extract 0 n) e (0,n)
   |_,_=>.coro none}
def wJ(ly:Nat->Option Nat):Nat->Option Nat:=fun b=>if(ly b).isSome then some b else none
def yI(ly:Nat->Option Nat):Nat->Md:=fun b=>match ly b with|some n=>.read n|none=>.all
theorem tN(w:ae)(ly:Nat->Option Nat):(iy w ly).heap.size=w.heap.size:=by simp[iy]
theorem lQ{w:ae}{ly:Nat->Option Nat}{b n:Nat}{C:Array af}{e:aj}{fz:Nat×Nat}(hv:ly b=some n)(h:w.heap[b]?=some (.cells C e fz)):(iy w ly).heap[b]?=some (.cells (C.extract 0 n) e (0,n)):=by
 have hlt:=lt_of_block h;have he:w.heap[b]=.cells C e fz:=by rw[aI hlt]at h;exact Option.some.inj h
 simp[iy,hlt,hv,he]
theorem Il{w:ae}{ly:Nat->Option Nat}{b:Nat}(hv:ly b=none):(iy w ly).heap[b]?=none\/∃x,(iy w ly).heap[b]?=some (.coro x):=by
 rcases bw b w.heap.size with h|h
 ·exact .inr ⟨none,by simp[iy,h,hv]⟩
 ·exact .inl (by simp[iy,h])
theorem rf{ly:Nat->Option Nat}{b n:Nat}(h:ly b=some n):wJ ly b=some b:=by simp[wJ,h]
theorem oC{ly:Nat->Option Nat}{b c:Nat}(h:wJ ly b=some c):b=c/\∃n,ly b=some n:=by
 unfold wJ at h;split at h
 ·rename_i e;cases h;exact⟨rfl,Option.isSome_iff_exists.1 e⟩
 ·cases h
section
variable{q:iK}{i:Nat}{S:ak->Bool}
def Ev(q:iK)(S:ak->Bool)(i:Nat)(ly:Nat->Option Nat)(st:St eD):Prop:=
 ∀b n,ly b=some n->q.P.globals.size<=b/\((∀off,st.γ.rd i (ca b off))\/(n<=3/\∃s,st.γ.sc=some s/\b=s.Gb))/\
  ∃C e fz,st.w.heap[b]?=some (.cells C e fz)/\n<=C.size/\∀(k:Nat) (v:af),k<n->C[k]?=some v->VR (fun f=>S f=true) (wJ ly) v v
theorem Ev.hr{ly:Nat->Option Nat}{st:St eD}(h:Ev q S i ly st)(hi:Inv q st):HR q.P.globals.size (fun f=>S f=true) (yI ly) (wJ ly) (iy st.w ly) st.w where
 inj:=fun b b' c h1 h2=>(oC h1).1.trans (oC h2).1.symm
 row:=fun b c hb=>by
  obtain⟨rfl,n,hn⟩:=oC hb;obtain⟨-,-,C,e,fz,h1,h2,h3⟩:=h b n hn;refine⟨_,_,lQ hn h1,h1,?_⟩;have hsz:(C.extract 0 n).size=n:=by simp<;>omega
  have hro:yI ly b=.read n:=by simp[yI,hn]
  have:OR (fun f=>S f=true) (yI ly b) (wJ ly) (.cells (C.extract 0 n) e (0,(yI ly b).hi (C.extract 0 n).size)) (.cells C e fz):=by
   refine .cells (by rw[hsz];exact h2) (fun k v hk=>?_) (fun x=>by rw[hro]at x;cases x) (fun m hm=>by rw[hro]at hm;cases hm;exact hsz);have hlt:=(Array.getElem?_eq_some_iff.1 hk).1;rw[dK]at hk;split at hk
   ·simp at hk<;>exact⟨v,hk,h3 k v (by omega) hk⟩
   ·cases hk
  rw[hro,Md.hi,hsz]at this;rwa [hro]
 hole:=fun b hb=>Il (by
  cases hv:ly b with
  |none=>rfl
  |some n=>rw[rf hv]at hb;cases hb)
 low:=fun b c hb=>by obtain⟨rfl,n,hn⟩:=oC hb;exact⟨(h b n hn).1,(h b n hn).1⟩
 gs:=by rw[tN];exact hi.base.JY
 gw:=hi.base.JY
theorem Ev.ly{ly:Nat->Option Nat}{st:St eD}(h:Ev q S i ly st)(hi:Inv q st)(hlt:i<st.γ.num)(hw:i=0\/(st.γ.wk i).wg=.work/\∃s,st.γ.sc=some s/\s.n0<=i):Bw q i (yI ly) (wJ ly) st:=by
 refine⟨hlt,hw,fun b c hb=>?_⟩;obtain⟨rfl,n,hn⟩:=oC hb;have hro:yI ly b=.read n:=by simp[yI,hn]
 rw[hro];obtain⟨-,h2,-⟩:=h b n hn;rcases h2 with h2|⟨h3,s,h4,rfl⟩
 ·exact .inl h2
 ·exact .inr (.inr ⟨h3,s,h4,rfl,(hi.eZ s h4).c.head⟩)
theorem Ev.ro{ly:Nat->Option Nat}{st:St eD}(h:Ev q S i ly st):∀b,(iy st.w ly).heap.size<=b->yI ly b=.all:=fun b hb=>by
 unfold yI;cases hv:ly b with
 |none=>rfl
 |some n=>
  obtain⟨-,-,C,e,fz,h1,-⟩:=h b n hv;have:=lt_of_block h1
  rw[tN]at hb;omega
inductive Hz:af->Prop
 |bool (b:Bool):Hz (.bool b)
 |int (k:IntKind) (n:Int):Hz (.int k n)
 |string (s:ByteArray):Hz (.string s)
 |pointer (a:Option Addr):Hz (.pointer a)
 |slice (a:Option Addr) (l c:Nat):Hz (.slice a l c)
 |nilFunc:Hz .nilFunc
 |func {f:Fn} {x y:Array af} (h1:∀(i:Nat) (v:af),x[i]?=some v->Hz v) (h2:∀(i:Nat) (v:af),y[i]?=some v->Hz v):Hz (.func f x y)
 |agg {x:Array af} (h:∀(i:Nat) (v:af),x[i]?=some v->Hz v):Hz (.agg x)
 |tuple {x:Array af} (h:∀(i:Nat) (v:af),x[i]?=some v->Hz v):Hz (.tuple x)
def iV:Nat->af->Bool
 |_,.bool _|_,.int _ _|_,.string _|_,.pointer _|_,.slice _ _ _|_,.nilFunc=>true
 |d+1,.agg x|d+1,.tuple x=>x.all (iV d)
 |_,_=>false
theorem n7:∀(d:Nat) (v:af),iV d v=true->Hz v
 |0,v,h=>by cases v<;>first|exact .bool _|exact .int _ _|exact .string _|exact .pointer _|exact .slice _ _ _|exact .nilFunc|cases h
 |d+1,v,h=>by
  cases v<;>first
   |exact .bool _
   |exact .int _ _
   |exact .string _
   |exact .pointer _
   |exact .slice _ _ _
   |exact .nilFunc
   |(rename_i x
     have h:x.all (iV d)=true:=h;first
      |exact .agg fun i v hv=>n7 d v (Array.all_eq_true_iff_forall_mem.1 h v (bF hv))
      |exact .tuple fun i v hv=>n7 d v (Array.all_eq_true_iff_forall_mem.1 h v (bF hv)))
   |cases h
theorem VR.same{ρ ρ':Nat->Option Nat}(hid:∀b c,ρ b=some c->b=c)(he:Ext ρ ρ'){v v1:af}(hs:Hz v)(h:VR (fun f=>S f=true) ρ v v)(h':VR (fun f=>S f=true) ρ' v v1):v1=v:=by
 have key:∀{v v':af},VR (fun f=>S f=true) ρ v v'->v=v'->Hz v->∀v1,VR (fun f=>S f=true) ρ' v v1->v1=v:=by
  intro v v' h;have arr:∀{x x':Array af},x.size=x'.size->(∀(i:Nat) (v v':af),x[i]?=some v->x'[i]?=some v'->v=v'->Hz v->∀v1,VR (fun f=>S f=true) ρ' v v1->v1=v)->x=x'->(∀(i:Nat) (v:af),x[i]?=some v->Hz v)->∀{y:Array af},x.size=y.size->(∀(i:Nat) (v v':af),x[i]?=some v->y[i]?=some v'->VR (fun f=>S f=true) ρ' v v')->y=x:=by
   intro x x' hx ih e hs y hy h2;subst e;refine Array.ext hy.symm fun i h1 h3=>?_;exact ih i _ _ (aI h3) (aI h3) rfl (hs i _ (aI h3)) _ (h2 i _ _ (aI h3) (aI h1))
  induction h with
  |bool b=>intro _ _ v1 h;cases h;rfl
  |int k n=>intro _ _ v1 h;cases h;rfl
  |string s=>intro _ _ v1 h;cases h;rfl
  |nilPtr=>intro _ _ v1 h;cases h;rfl
  |ig l c=>intro _ _ v1 h;cases h;rfl
  |nilFunc=>intro _ _ v1 h;cases h;rfl
  |junk _ _ _=>intro _ hs;cases hs
  | @ptr b c off sp h=>
   intro _ _ v1 h1;cases h1 with
   |ptr _ _ h2=>
    have e1:=hid _ _ h;subst e1;have:=he _ _ h;rw[h2]at this;cases this;rfl
  | @slice b c off sp l k h=>
   intro _ _ v1 h1;cases h1 with
   |slice _ _ _ _ h2=>
    have e1:=hid _ _ h;subst e1;have:=he _ _ h;rw[h2]at this;cases this;rfl
  | @func f x y x' y' hf hx hy _ _ i1 i2=>
   intro e hs v1 h1;simp only[Value.func.injEq,true_and]at e;cases hs with
   |func s1 s2=>
    cases h1 with
    | @func _ _ _ x1 y1 hf' hx1 hy1 g1 g2=>
     rw[arr hx i1 e.1 s1 hx1 g1,arr hy i2 e.2 s2 hy1 g2]
  | @agg x x' hx _ i1=>
   intro e hs v1 h1;simp only[Value.agg.injEq]at e;cases hs with
   |agg s1=>
    cases h1 with
    |agg hx1 g1=>rw[arr hx i1 e s1 hx1 g1]
  | @tuple x x' hx _ i1=>
   intro e hs v1 h1;simp only[Value.tuple.injEq]at e;cases hs with
   |tuple s1=>
    cases h1 with
    |tuple hx1 g1=>rw[arr hx i1 e s1 hx1 g1]
 exact key h rfl hs v1 h'
theorem X5{ly:Nat->Option Nat}(b c:Nat)(h:wJ ly b=some c):b=c:=(oC h).1
end
end
section
section
variable{q:iK}{i:Nat}
def ba4(q:iK)(i:Nat)(ro:Nat->Md)(fO:St eD)(ρ:Nat->Option Nat)(st:St eD):Prop:=
 Bw q i ro ρ st/\Inv q st/\(∀b c,ρ b=some c->ro b=.all->fO.w.heap.size<=c)/\Rl i fO st
theorem Yt{fO st:St eD}(h₀:Inv q fO)(hr:Rl i fO st){w1:ae}{t:Trace}(hs:st.w.heap.size<=w1.heap.size)(hb:∀b,b<fO.w.heap.size->w1.heap[b]?=st.w.heap[b]?)(hsc:i≠0->∀s,fO.γ.sc=some s->s.Gb<fO.w.heap.size):
  Rl i fO ⟨w1,t,st.γ.grow i st.w.heap.size w1.heap.size⟩:=by
 have A:=h₀.base.tr.FD;refine⟨aY hr.size hs,fun hl l h=>.inl (hr.ex hl l h),hr.rd,fun hl b hx=>?_,hr.me,hr.main,hr.sc,hr.phi,hr.pI,fun a b c d s hs' off o1 o2=>?_,hr.Sb,hr.hand,hr.num⟩
 ·have hlt:b<fO.w.heap.size:=by
   rcases hx with hx|hx
   ·exact A.low i _ (hx 0) b rfl
   ·exact A.xI i _ (hx 0) b rfl
  exact(hb b hlt).trans (hr.blk hl b hx)
 ·refine Eq.trans ?_ (hr.work a b c d s hs' off o1 o2);show w1.cell? _=st.w.cell? _;unfold World.cell?;rw[hb s.Gb (hsc a s hs')]
theorem S6(S:ak->Bool)(ro:Nat->Md)(fO:St eD)(h₀:Inv q fO):Own (cfg q) S ro i (ba4 q i ro fO)where
 stable:=fun ρ st dV ⟨h1,h2,h3,h4⟩ hr hi=>by
  obtain⟨a,b⟩:=(Ao S i ro).stable ρ st dV h1 hr hi;exact⟨⟨a,hi,h3,h4.trans hr⟩,b⟩
 lv:=fun ρ st h=>(Ao S i ro).lv ρ st h.1
 step:=fun ρ st s vK s1 w1 es fn pos ⟨h1,h2,h3,h4⟩ hi m=>by
  obtain⟨a,b,c⟩:=BZ S i ro fn pos h1 h2 m;refine⟨st.γ.grow i st.w.heap.size w1.heap.size,a,rfl,b,fun k hk hw=>hw,c,a,fun b' c' hb hro=>?_,?_⟩
  ·rcases m.fresh b' c' hb with h|h
   ·exact h3 b' c' h hro
   ·exact aY h4.size h.1
  ·refine Yt h₀ h4 m.size (fun b' hb'=>m.keep b' (bT hb' h4.size) fun b'' Ur=>?_) fun hne s hs=>(h₀.eZ s hs).c.OD.1;have hv:=h1.2.2 b'' b' Ur;cases hm:ro b'' with
   |all=>have:=h3 b'' b' Ur hm;omega
   |read n=>rfl
   |part f=>rw[hm]at hv;exact hv.elim
variable{s:eI}{x:Wk}{S:ak->Bool}{Ch:Nat->ah->St eD->Prop}
theorem TT.call{P:au}(hP:q.P=P)(F:nL P S){f:ak}(hS:S f=true){ly:Nat->Option Nat}{st:St eD}(hA:At s i x st)(hx:x.wg=.work)(hI:Inv q st)(hV:Ev q S i ly st){args:Array af}{v:af}
  (ha:AR (fun f=>S f=true) (wJ ly) args args)(hv:VR (fun f=>S f=true) (wJ ly) v v)(hC:∀τ d,Calls P f args (World.on (iy st.w ly) τ d) fun e w'=>e=.returned v){c:ai}{cs:List ai}
  (fin:∀st',Rl i st st'->Inv q st'->At s i x st'->TT (cfg q) i Ch (G (c.finish v) cs) st')(hs:iV 4 v=true:=by first|rfl|simp[iV]):TT (cfg q) i Ch (G (bO P f args .normal) (c::cs)) st:=by
 subst hP;have hw:i=0\/(st.γ.wk i).wg=.work/\∃s,st.γ.sc=some s/\s.n0<=i:=.inr ⟨by rw[hA.me];exact hx,s,hA.sc,hA.lo⟩;have hVR:ba4 q i (yI ly) st (wJ ly) st:=by
  refine⟨hV.ly hI hA.lt hw,hI,fun b c hb hro=>?_,Rl.refl i st⟩;obtain⟨rfl,n,hn⟩:=oC hb;simp[yI,hn]at hro
 refine E5 (C:=cfg q) F (S6 S (yI ly) st hI) (R:=fun v' _=>v'=v) hS ha (hV.hr hI) hVR hV.ro (fun τ d=>(hC τ d).mono fun e w' h=>⟨v,h,rfl⟩) ?_;rintro ρ' v1 v' s' st' he hvr ⟨_,_,hv1⟩ RP ⟨_,hI',_,hr⟩;have hv1:v1=v:=hv1;subst hv1;have e:=VR.same X5 he (n7 _ _ hs) hv hvr;rw[e];exact fin st' hr hI' (hA.rely (by rw[hx];simp) hr hI')
def aP3:Nat->Option Nat:=fun _=>none
theorem jL{st:St eD}:Ev q S i aP3 st:=fun b n h=>by cases h
end
end
section
structure Mn(X:Nat->Prop)(fO st:St eD):Prop where
 size:fO.w.heap.size<=st.w.heap.size
 ex:∀l,fO.γ.ex 0 l->st.γ.ex 0 l
 rd:∀l,fO.γ.rd 0 l->st.γ.rd 0 l
 blk:∀b,¬X b->(∀off,fO.γ.ex 0 (ca b off))\/(∀off,fO.γ.rd 0 (ca b off))->st.w.heap[b]?=fO.w.heap[b]?
 main:st.γ.mw=fO.γ.mw/\st.γ.dm=fO.γ.dm/\st.γ.num=fO.γ.num/\∀b,st.γ.dead b↔fO.γ.dead b
 sc:st.γ.sc=fO.γ.sc
section
variable{q:iK}{X:Nat->Prop}
theorem Mn.refl(st:St eD):Mn X st st:=⟨aH _,fun _ h=>h,fun _ h=>h,fun _ _ _=>rfl,⟨rfl,rfl,rfl,fun _=>.rfl⟩,rfl⟩
theorem Mn.rely{fO st dV:St eD}(h:Mn X fO st)(hr:Rl 0 st dV):Mn X fO dV:=by
 obtain⟨a,b,c,d⟩:=h.main;obtain⟨a',b',c',d'⟩:=hr.main rfl;exact⟨aY h.size hr.size,fun l x=>hr.ex (.inl rfl) l (h.ex l x),fun l x=>hr.rd (.inl rfl) l (h.rd l x),fun b hX hx=>(hr.blk (.inl rfl) b (hx.imp (fun f off=>h.ex _ (f off)) fun f off=>h.rd _ (f off))).trans (h.blk b hX hx),
  ⟨a'.trans a,b'.trans b,c'.trans c,fun x=>(d' x).trans (d x)⟩,(hr.sc (.inl rfl)).trans h.sc⟩
theorem kv.mn{dm num:Nat}{K:List (Nat×Obj)}{fO st:St eD}(h:kv dm num K fO)(k:Mn X fO st)(hK:∀b o,(b,o)∈K->¬X b):kv dm num K st:=by
 obtain⟨a,b,c,d⟩:=k.main;refine⟨k.sc.trans h.sc,a.trans h.mw,b.trans h.dm,c.trans h.num,fun x o hb=>?_,fun x o hb hx=>h.nd x o hb ((d x).1 hx)⟩;obtain⟨h1,h2⟩:=h.fz x o hb;exact⟨(k.blk x (hK x o hb) h2).trans h1,h2.imp (fun f off=>k.ex _ (f off)) fun f off=>k.rd _ (f off)⟩
def Vy(q:iK)(ro:Nat->Md)(X:Nat->Prop)(fO:St eD)(ρ:Nat->Option Nat)(st:St eD):Prop:=
 Bw q 0 ro ρ st/\Inv q st/\(∀b c,ρ b=some c->ro b=.all->fO.w.heap.size<=c\/X c)/\Mn X fO st/\∀b c,ρ b=some c->¬st.γ.dead c/\(c<fO.w.heap.size->b=c)/\∀n,ro b=.read n->b=c
theorem BX(S:ak->Bool)(ro:Nat->Md)(fO:St eD)(h₀:Inv q fO):Own (cfg q) S ro 0 (Vy q ro X fO)where
 stable:=fun ρ st dV ⟨h1,h2,h3,h4,h5⟩ hr hi=>by
  obtain⟨a,b⟩:=(Ao S 0 ro).stable ρ st dV h1 hr hi;exact⟨⟨a,hi,h3,h4.rely hr,fun b' c' hb=>⟨fun hx=>(h5 b' c' hb).1 (((Rl.main hr rfl).2.2.2 c').1 hx),(h5 b' c' hb).2⟩⟩,b⟩
 lv:=fun ρ st h=>(Ao S 0 ro).lv ρ st h.1
 step:=fun ρ st s vK s1 w1 es fn pos ⟨h1,h2,h3,h4,h5⟩ hi m=>by
  obtain⟨a,b,c⟩:=BZ S 0 ro fn pos h1 h2 m;refine⟨st.γ.grow 0 st.w.heap.size w1.heap.size,a,rfl,b,fun k hk hw=>hw,c,a,fun b' c' hb hro=>?_,?_,fun b' c' hb=>?_⟩
  ·rcases m.fresh b' c' hb with h|h
   ·exact h3 b' c' h hro
   ·exact .inl (aY h4.size h.1)
  ·have A:=h₀.base.tr.FD;refine⟨aY h4.size m.size,fun l h=>.inl (h4.ex l h),h4.rd,fun b' hX hx=>?_,h4.main,h4.sc⟩;have hlt:b'<fO.w.heap.size:=by
    rcases hx with hx|hx
    ·exact A.low 0 _ (hx 0) b' rfl
    ·exact A.xI 0 _ (hx 0) b' rfl
   refine(m.keep b' (bT hlt h4.size) fun b'' Ur=>?_).trans (h4.blk b' hX hx);have hv:=h1.2.2 b'' b' Ur;cases hm:ro b'' with
   |all=>
    rcases h3 b'' b' Ur hm with h|h
    ·omega
    ·exact absurd h hX
   |read n=>rfl
   |part f=>rw[hm]at hv;exact hv.elim
  ·rcases m.fresh b' c' hb with h|h
   ·exact h5 b' c' h
   ·exact⟨fun hx=>by have:=h2.base.dead c' hx;have:=h.1;omega,fun hlt=>by have:=h.1;have:=h4.size;omega,fun n hn=>by rw[h.2]at hn;cases hn⟩
def Sh(q:iK)(S:ak->Bool)(Ds:Nat->Bool)(ro:Nat->Md)(X:Nat->Prop)(fO:St eD)(Φ:Act->ae->Prop)(a':Act)(st:St eD):Prop:=
 ∃ρ a s,AR (fun f=>S f=true) ρ (nI Ds a.tmps) (nI Ds a'.tmps)/\a.defers=[]/\a'.defers=[]/\HR q.P.globals.size (fun f=>S f=true) ro ρ s st.w/\Vy q ro X fO ρ st/\(∀b,s.heap.size<=b->ro b=.all)/\∃τ d,Φ a (World.on s τ d)
variable{S:ak->Bool}{Ds:Nat->Bool}{ro:Nat->Md}{fO st:St eD}{Ch:Nat->ah->St eD->Prop}
theorem TT.piece{P:au}(hP:q.P=P)(F:nL P S)(h₀:Inv q fO){Φ N R:Act->ae->Prop}{code:Code}(hc:codeOk P S Ds code=true){b:ai}(hk:b.kind=.normal)(hR:∀fn,P.funcs[b.fn]?=some fn->fn.results.all (yL Ds)=true){a':Act}(h:Sh q S Ds ro X fO Φ a' st)
  (hΦ:∀a w τ d,Φ a w->code.wp P (fun e a w=>(e=.normal/\a.defers=[]/\N a w)\/(e=.ret/\a.defers=[]/\R a w)) a (World.on w τ d)){k:List Item}{cs:List ai}
  (GP:∀wm st',Sh q S Ds ro X fO N wm st'->TT (cfg q) 0 Ch (G (b.at wm k) cs) st')(GN:∀wm st' todo,Sh q S Ds ro X fO R wm st'->TT (cfg q) 0 Ch (G {b.at wm todo with mode:=.returning} cs) st'):
  TT (cfg q) 0 Ch (G (b.at a' (.code code::k)) cs) st:=by
 subst hP;obtain⟨ρ,a,s,ha,hd,hd',hH,hV,hro,τ0,d0,hφ⟩:=h;refine QB (C:=cfg q) F (BX S ro fO h₀) (Q:=fun e a w=>(e=.normal/\a.defers=[]/\N a w)\/(e=.ret/\a.defers=[]/\R a w)) (fun e a w h=>h.imp (fun h=>h.1) fun h=>h.1) hc hR hk hd hd' ha hH hV hro (fun τ d=>hΦ a (World.on s τ0 d0) τ d hφ) ?_ ?_
 ·rintro ρ' a2 wm s' st'-ha2 hd2 ⟨τ,d,hq⟩ RP QP Ac;rcases hq with⟨_,h1,h2⟩|⟨h1,_⟩
  ·exact GP wm st' ⟨ρ',a2,s',ha2,h1,hd2,RP,QP,Ac,τ,d,h2⟩
  ·cases h1
 ·rintro ρ' a2 wm s' st' todo-ha2 hd2 ⟨τ,d,hq⟩ RP QP Ac;rcases hq with⟨h1,_⟩|⟨_,h1,h2⟩
  ·cases h1
  ·exact GN wm st' todo ⟨ρ',a2,s',ha2,h1,hd2,RP,QP,Ac,τ,d,h2⟩
theorem TT.ret{P:au}(hP:q.P=P)(F:nL P S)(h₀:Inv q fO){fn:Func}{R:af->ae->Prop}{b:ai}(hk:b.kind=.normal)(hfn:P.funcs[b.fn]?=some fn)(Uw:fn.results.all (yL Ds)=true){a':Act}(h:Sh q S Ds ro X fO (fun a w=>∃v,(Go.results fn a.tmps).run P w=.ok v w/\R v w) a' st){todo:List Item}{c:ai}{cs:List ai}
  (fin:∀v v' ρ' s' st',HR q.P.globals.size (fun f=>S f=true) ro ρ' s' st'.w->Vy q ro X fO ρ' st'->VR (fun f=>S f=true) ρ' v v'->(∃τ d,R v (World.on s' τ d))->TT (cfg q) 0 Ch (G (c.finish v') cs) st'):
  TT (cfg q) 0 Ch (G {b.at a' todo with mode:=.returning} (c::cs)) st:=by
 subst hP;obtain⟨ρ',a,s',Bl,nD,nP,RP,QP,Ac,τ,d,v,hres,hR⟩:=h;have pv:=BX (q:=q) (X:=X) S ro fO h₀;refine TT.step fun dV hr hi=>?_;obtain⟨hV1,hst⟩:=pv.stable ρ' st dV QP hr hi;refine⟨fun hl=>absurd hl (pv.lv _ _ hV1),?_⟩;have zi:=hst s' RP;have hA:HR q.P.globals.size (fun f=>S f=true) ro ρ' (World.on s' τ d) (World.on dV.w τ d):=⟨zi.inj,zi.row,zi.hole,zi.low,zi.gs,zi.gw⟩;have hB:HR q.P.globals.size (fun f=>S f=true) ro ρ' (World.on s' dV.w.tape dV.w.drawn) dV.w:=⟨zi.inj,zi.row,zi.hole,zi.low,zi.gs,zi.gw⟩;have e1:=po (xs:=a.tmps) Uw;have e2:=po (xs:=a'.tmps) Uw;have SA:=SR.results (P:=q.P) (ro:=ro) (a:=uy Ds a) (a':=uy Ds a') Bl fn _ _ hA rfl rfl Ac;have SB:=SR.results (P:=q.P) (ro:=ro) (a:=uy Ds a) (a':=uy Ds a') Bl fn _ _ hB rfl rfl Ac;simp only[uy,e1,e2]at SA SB;obtain⟨-,n,hn,hl⟩:=SA.2.2 v _ hres;have hn0:n=0:=by have:d=d+n:=hn;omega
 subst hn0;have Ue:(Go.results fn a.tmps).run q.P (World.on s' dV.w.tape dV.w.drawn)=.ok v (World.on s' dV.w.tape dV.w.drawn):=(hl dV.w.tape dV.w.drawn fun j hj=>by omega).1;obtain⟨vK,v',w1,h1,h2,h3⟩:=SB.1 v _ Ue;have m:=h2.sub (es':=seen q.P b.fn ((Go.results fn a'.tmps).events q.P dV.w #[])) fun e he=>mem_seen he;obtain⟨γ',i1,i2,i3,i4,i5⟩:=pv.step ρ' dV _ vK _ w1 _ b.fn "" hV1 hi m;refine iR.own (C:=cfg q) (lN hk nP hfn h1) rfl i1 i2 i3 (.inr i4) ?_;exact fin v v' vK (World.on s' dV.w.tape dV.w.drawn) _ h2.hr i5 h3 ⟨τ,d,hR⟩
def wpT(P:au)(N R:Act->ae->Prop):List Code->Act->ae->Prop
 |[],a,w=>N a w
 |c::cs,a,w=>∀τ d,c.wp P (fun e a w=>(e=.normal/\a.defers=[]/\wpT P N R cs a w)\/(e=.ret/\a.defers=[]/\R a w)) a (World.on w τ d)
theorem TT.pieces{P:au}(hP:q.P=P)(F:nL P S)(h₀:Inv q fO){N R:Act->ae->Prop}{b:ai}(hk:b.kind=.normal)(hR:∀fn,P.funcs[b.fn]?=some fn->fn.results.all (yL Ds)=true){T:Code}{k:List Item}{cst:List ai}
  (GP:∀wm st',Sh q S Ds ro X fO N wm st'->TT (cfg q) 0 Ch (G (b.at wm (.code T::k)) cst) st')(GN:∀wm st' todo,Sh q S Ds ro X fO R wm st'->TT (cfg q) 0 Ch (G {b.at wm todo with mode:=.returning} cst) st'):
  ∀(cs:List Code),(∀c∈cs,codeOk P S Ds c=true)->∀(a':Act) (st:St eD),Sh q S Ds ro X fO (wpT P N R cs) a' st->TT (cfg q) 0 Ch (G (b.at a' (.code (xH cs T)::k)) cst) st
 |[],_,a',st,h=>GP a' st h
 |c::cs,hc,a',st,h=>by
  subst hP;refine TT.lO rfl 4 fun w₀ hF=>Goes.step rfl fun w₁ hw=>?_;show(stepG q.P (0==0) (G (b.at a' (.code (.seq c (xH cs T))::k)) cst) w₁).goes _;rw[stepG_seq];refine⟨⟨rfl,rfl⟩,Goes.stop fun w₂ _=>⟨rfl,?_⟩⟩;refine TT.piece rfl F h₀ (hc c (by simp)) hk hR h (fun a w τ d h=>h τ d) (fun wm st' h'=>TT.pieces rfl F h₀ hk hR GP GN cs (fun c' h=>hc c' (by simp[h])) wm st' h') GN
end
end
section
open Go.ConcM (OsLater)
def Yu(size:Nat):eD:={num:=1,sc:=none,wk:=fun _=>.new,mw:=.solo,dm:=0,D:=0,L:=0,W:=0,S:=0,N:=0,tn:=0,th:=0,gs:=0,gm:=0,ex:=fun g l=>g=0/\l.isMemory=true/\∃b,ij l=some b/\b<size,rd:=fun _ _=>False,sh:=fun _ _=>False,dead:=fun _=>False}
section
variable{q:iK}
theorem Inv.start{w:ae}{t:Trace}(h:∀op∈t,op.g=0)(hd:Deaf t 0=0)(JY:q.P.globals.size<=w.heap.size)(hos:OsLater q.os0 w.os)(hout:w.output=q.WZ):Inv q ⟨w,t,Yu w.heap.size⟩:=by
 have own:∀(i:Nat) (op:MemOp),t[i]?=some op->op.g=0:=fun i op hi=>h op (bF hi);have kn:∀i a,touchAt t i=some a->Knows t 0 i:=fun i a ha=>by
  obtain⟨x,hx,_⟩:=touch_of ha;have:=knows_own hx
  rwa [own i x hx]at this
 have gq:∀i a,touchAt t i=some a->t.g? i=some 0:=fun i a ha=>by
  obtain⟨x,hx,_⟩:=touch_of ha;simp only[cX,hx,cI,own i x hx]
 have hall:t.allBy 0:=fun i x hx=>by
  have:touchAt t i=some x:=hx
  exact gq i x this
 refine⟨⟨by show 0<1;omega,⟨fun said=>not_race_of_allBy hall,⟨fun g g' l a b=>a.1.trans b.1.symm,fun _ _ _ _ x=>x,fun _ _ _ _ x=>x,fun _ _ _ _ x=>x,fun g l a b hb=>?_,fun _ _ x=>x.elim,fun _ _ x=>x.elim,fun g l a=>?_⟩,fun g l a i x hx _=>?_,fun _ _ x=>x.elim,fun _ _ x=>x.elim,fun i a ha b hb=>.inr fun g hg=>?_,fun i op hi=>?_,fun i op hi a e k hk=>?_⟩,JY,hd,fun j a b=>?_,fun j hj=>?_,hos,hout,fun j a b=>?_,fun b x=>x.elim,fun i a ha _=>.inr (.inl (kn i a ha)),fun i g hg hne _ _=>?_,fun g l a=>?_,fun j _=>.inl rfl,fun j _=>rfl,fun i a ha _=>gq i a ha,fun s hs=>by cases hs⟩,⟨fun _=>rfl,fun _=>rfl⟩,fun s hs=>by cases hs⟩
 ·obtain⟨_,_,b',hb',hlt⟩:=a;rw[hb]at hb';cases hb';exact hlt
 ·rcases a with a|a|a
  ·exact a.2.1
  ·exact a.elim
  ·exact a.elim
 ·rw[a.1];exact kn i x hx
 ·have hg:g<1:=hg;obtain rfl:g=0:=by omega
  exact kn i a ha
 ·show op.g<1;rw[own i op hi];omega
 ·have hlt:k<t.size:=Nat.lt_of_le_of_lt hk (lt_size_of_getElem? hi);have hx:t[k]?=some t[k]:=aI hlt;simp only[cX,hx,cI,own k _ hx]
 ·have b:j<1:=b;omega
 ·cases hj
 ·have b:j<1:=b;omega
 ·obtain⟨op,ho,e⟩:=Option.map_eq_some_iff.1 hg;exact absurd (e.symm.trans (own i op ho)) hne
 ·show g<1;rcases a with a|a|a
  ·rw[a.1];omega
  ·exact a.elim
  ·exact a.elim
theorem TT.ends{P:au}(hP:q.P=P){num:Nat}{K:List (Nat×Obj)}{Ch:Nat->ah->St eD->Prop}{g:ah}{st:St eD}(hA:kv 0 num K st)
  (h:∀dV,Rl 0 st dV->kv 0 num K dV->Inv q dV->∃v w',stepG P (0==0) g dV.w=.ended (.done v) w' #[]/\q.Post v w'):TT (cfg q) 0 Ch g st:=by
 subst hP;refine TT.step fun dV hr hi=>⟨fun hl=>absurd rfl hl.1,?_⟩;have hr:Rl 0 st dV:=hr;have hi:Inv q dV:=hi;have dX:=hA.rely hr;obtain⟨v,w',h1,h2⟩:=h dV hr dX hi;have hold:dV.γ.old=dV.γ.num:=by unfold eD.old;rw[dX.sc]
 unfold iR;rw[show stepG (cfg q).P (0==0) g dV.w=_ from h1];refine⟨rfl,⟨v,rfl,h2⟩,fun said=>?_,?_,fun j h0 hj=>⟨by omega,hi.base.old j h0 (by rw[hold];exact hj)⟩⟩
 ·rw[ofEvents_none,Array.append_empty];exact hi.base.tr.nr said
 ·rw[ofEvents_none,Array.append_empty];intro i g' hg hne hc;refine hi.base.ho i g' hg hne ?_ hc;rw[hold];obtain⟨op,ho,e⟩:=Option.map_eq_some_iff.1 hg;have:=hi.base.tr.gs i op ho
  omega
theorem PW{f:ak}{args:Array af}{w:ae}{n:Nat}{g:ah}{w₁:ae}{t₁:Trace}(hpre:runNT q.P n (solo (G (bO q.P f args .normal) []) w) #[]=(.next (solo g w₁),t₁))(hs:g.status=.running)(hall:∀op∈t₁,op.g=0)(hd:Deaf t₁ 0=0)
  (JY:q.P.globals.size<=w₁.heap.size)(hos:OsLater q.os0 w₁.os)(hout:w₁.output=q.WZ)
  (hT:∀st:St eD,st.w=w₁->Inv q st->(∀K,(∀b o,(b,o)∈K->w₁.heap[b]?=some o)->kv 0 1 K st)->(∀l b,l.isMemory=true->ij l=some b->b<w₁.heap.size->st.γ.ex 0 l)->(∀b,¬st.γ.dead b)->TT (cfg q) 0 (TW (cfg q)) g st):
  ∃M last o w' t',runNT q.P (M+1) (solo (G (bO q.P f args .normal) []) w) #[]=(.ended o w',t')/\runN q.P M (solo (G (bO q.P f args .normal) []) w)=.next last/\Go.step q.P last=.ended o w'/\Conc.Good q.P q.Post last o w' t':=by
 have hI:Inv q ⟨w₁,t₁,Yu w₁.heap.size⟩:=Inv.start hall hd JY hos hout;obtain⟨r,hr⟩:=hT ⟨w₁,t₁,Yu w₁.heap.size⟩ rfl hI (fun K hK=>⟨rfl,rfl,rfl,rfl,fun b o hb=>⟨hK b o hb,.inl fun off=>⟨rfl,rfl,b,rfl,lt_of_block (hK b o hb)⟩⟩,fun b o hb x=>x⟩) (fun l b m1 m2 m3=>⟨rfl,m1,b,m2,m3⟩) (fun b x=>x);have hM:MI (cfg q) (r,[],running #[g]) (crowd #[g] w₁ none) t₁:=by
  refine .mk r [] #[g] w₁ none t₁ (Yu w₁.heap.size) rfl rfl hI fun i g' hi=>?_;match i,hi with
  |0,hi=>
   simp at hi;subst hi;exact .inl ⟨hs,by unfold TA;rw[if_pos rfl];exact hr⟩
  |i+1,hi=>simp at hi
 obtain⟨N,last,o,w',t',h1,h2,h3,h4⟩:=hM.runs Dk;rw[<-solo_eq_crowd]at h1 h2;refine⟨n+N,last,o,w',t',?_,?_,h3,h4⟩
 ·rw[show n+N+1=n+(N+1) by omega,runNT_add,hpre];exact h1
 ·rw[runN_add];have:runN q.P n (solo (G (bO q.P f args .normal) []) w)=.next (solo g w₁):=by rw[<-runNT_fst,hpre]
  rw[this];exact h2
end
end
section
noncomputable def iD(w:ae)(md:Nat->Option Md):ae:=
 {w with heap:=Array.ofFn (n:=w.heap.size) fun b=>match md b.1,w.heap[b.1]? with
   |some .all,some (.cells C e _)=>.cells C e (0,0)
   |some (.read n),some (.cells C e _)=>.cells (C.extract 0 n) e (0,n)
   |_,_=>.coro none}
def ze(md:Nat->Option Md):Nat->Option Nat:=fun b=>if(md b).isSome then some b else none
def uY(md:Nat->Option Md):Nat->Md:=fun b=>(md b).getD .all
theorem od(w:ae)(md:Nat->Option Md):(iD w md).heap.size=w.heap.size:=by simp[iD]
theorem EF{w:ae}{md:Nat->Option Md}{b:Nat}{C:Array af}{e:aj}{fz:Nat×Nat}(hv:md b=some .all)(h:w.heap[b]?=some (.cells C e fz)):(iD w md).heap[b]?=some (.cells C e (0,0)):=by
 have hlt:=lt_of_block h;have he:w.heap[b]=.cells C e fz:=by rw[aI hlt]at h;exact Option.some.inj h
 simp[iD,hlt,hv,he]
theorem BN{w:ae}{md:Nat->Option Md}{b n:Nat}{C:Array af}{e:aj}{fz:Nat×Nat}(hv:md b=some (.read n))(h:w.heap[b]?=some (.cells C e fz)):(iD w md).heap[b]?=some (.cells (C.extract 0 n) e (0,n)):=by
 have hlt:=lt_of_block h;have he:w.heap[b]=.cells C e fz:=by rw[aI hlt]at h;exact Option.some.inj h
 simp[iD,hlt,hv,he]
theorem Lu{w:ae}{md:Nat->Option Md}{b:Nat}(hv:md b=none):(iD w md).heap[b]?=none\/∃x,(iD w md).heap[b]?=some (.coro x):=by
 rcases bw b w.heap.size with h|h
 ·exact .inr ⟨none,by simp[iD,h,hv]⟩
 ·exact .inl (by simp[iD,h])
theorem jF{md:Nat->Option Md}{b:Nat}{m:Md}(h:md b=some m):ze md b=some b:=by simp[ze,h]
theorem jX{md:Nat->Option Md}{b c:Nat}(h:ze md b=some c):b=c/\∃m,md b=some m:=by
 unfold ze at h;split at h
 ·rename_i e;cases h;exact⟨rfl,Option.isSome_iff_exists.1 e⟩
 ·cases h
section
variable{q:iK}{S:ak->Bool}
def ba9(st:St eD)(b:Nat):Prop:=∀l,ij l=some b->l.isMemory=true->st.γ.ex 0 l
def yB(q:iK)(S:ak->Bool)(md:Nat->Option Md)(st:St eD):Prop:=
 ∀b m,md b=some m->q.P.globals.size<=b/\¬st.γ.dead b/\∃C e fz,st.w.heap[b]?=some (.cells C e fz)/\match m with
  |.all=>fz=(0,0)/\ba9 st b/\∀(k:Nat) (v:af),C[k]?=some v->VR (fun f=>S f=true) (ze md) v v
  |.read n=>n<=C.size/\((∀off,st.γ.rd 0 (ca b off))\/∀off,st.γ.ex 0 (ca b off))/\∀(k:Nat) (v:af),k<n->C[k]?=some v->VR (fun f=>S f=true) (ze md) v v
  |.part _=>False
theorem yB.hr{md:Nat->Option Md}{st:St eD}(h:yB q S md st)(hi:Inv q st):HR q.P.globals.size (fun f=>S f=true) (uY md) (ze md) (iD st.w md) st.w where
 inj:=fun b b' c h1 h2=>(jX h1).1.trans (jX h2).1.symm
 row:=fun b c hb=>by
  obtain⟨rfl,m,hm⟩:=jX hb;obtain⟨-,-,C,e,fz,h1,h2⟩:=h b m hm;have hro:uY md b=m:=by simp[uY,hm]
  cases m with
  |all=>
   obtain⟨rfl,_,h3⟩:=h2;refine⟨_,_,EF hm h1,h1,?_⟩;rw[hro];exact .cells nle (fun k v hk=>⟨v,hk,h3 k v hk⟩) (fun _=>⟨rfl,rfl⟩) fun n hn=>by cases hn
  |read n=>
   obtain⟨hn,_,h3⟩:=h2;refine⟨_,_,BN hm h1,h1,?_⟩;have hsz:(C.extract 0 n).size=n:=by simp<;>omega
   have:OR (fun f=>S f=true) (uY md b) (ze md) (.cells (C.extract 0 n) e (0,(uY md b).hi (C.extract 0 n).size)) (.cells C e fz):=by
    refine .cells (by rw[hsz];exact hn) (fun k v hk=>?_) (fun x=>by rw[hro]at x;cases x) (fun m hm=>by rw[hro]at hm;cases hm;exact hsz);have hlt:=(Array.getElem?_eq_some_iff.1 hk).1;rw[dK]at hk;split at hk
    ·simp at hk<;>exact⟨v,hk,h3 k v (by omega) hk⟩
    ·cases hk
   rw[hro,Md.hi,hsz]at this;rwa [hro]
  |part f=>exact h2.elim
 hole:=fun b hb=>Lu (by
  cases hv:md b with
  |none=>rfl
  |some n=>rw[jF hv]at hb;cases hb)
 low:=fun b c hb=>by obtain⟨rfl,m,hm⟩:=jX hb;exact⟨(h b m hm).1,(h b m hm).1⟩
 gs:=by rw[od];exact hi.base.JY
 gw:=hi.base.JY
theorem yB.ly{md:Nat->Option Md}{st:St eD}(h:yB q S md st)(hi:Inv q st):Bw q 0 (uY md) (ze md) st:=by
 refine⟨hi.base.pos,.inl rfl,fun b c hb=>?_⟩;obtain⟨rfl,m,hm⟩:=jX hb;have hro:uY md b=m:=by simp[uY,hm]
 rw[hro];obtain⟨-,-,C,e,fz,h1,h2⟩:=h b m hm;cases m with
 |all=>exact h2.2.1
 |read n=>exact h2.2.1.imp id .inl
 |part f=>exact h2
theorem yB.ro{md:Nat->Option Md}{st:St eD}(h:yB q S md st):∀b,(iD st.w md).heap.size<=b->uY md b=.all:=fun b hb=>by
 unfold uY;cases hv:md b with
 |none=>rfl
 |some m=>
  obtain⟨-,-,C,e,fz,h1,-⟩:=h b m hv;have:=lt_of_block h1
  rw[od]at hb;omega
theorem Sh.make{md:Nat->Option Md}{st:St eD}(h:yB q S md st)(hi:Inv q st){X:Nat->Prop}(hX:∀b,md b=some .all->X b){Ds:Nat->Bool}{Φ:Act->ae->Prop}{a a':Act}(ha:AR (fun f=>S f=true) (ze md) (nI Ds a.tmps) (nI Ds a'.tmps))(hd:a.defers=[])(hd':a'.defers=[])
  (hΦ:Φ a (World.on (iD st.w md) st.w.tape st.w.drawn)):Sh q S Ds (uY md) X st Φ a' st:=by
 refine⟨ze md,a,iD st.w md,ha,hd,hd',h.hr hi,⟨h.ly hi,hi,fun b c hb hro=>?_,Mn.refl st,fun b c hb=>?_⟩,h.ro,_,_,hΦ⟩
 ·obtain⟨rfl,m,hm⟩:=jX hb;have:uY md b=m:=by simp[uY,hm]
  rw[this]at hro;exact .inr (hX b (by rw[hm,hro]))
 ·obtain⟨rfl,m,hm⟩:=jX hb;exact⟨(h b m hm).2.1,fun _=>rfl,fun _ _=>rfl⟩
theorem kv.more{dm num:Nat}{K:List (Nat×Obj)}{st:St eD}(h:kv dm num K st){b:Nat}{o:Obj}(hb:st.w.heap[b]?=some o)(he:(∀off,st.γ.ex 0 (ca b off))\/∀off,st.γ.rd 0 (ca b off))(hd:¬st.γ.dead b):kv dm num ((b,o)::K) st:=by
 refine⟨h.sc,h.mw,h.dm,h.num,fun b' o' hb'=>?_,fun b' o' hb'=>?_⟩
 ·rcases List.mem_cons.1 hb' with e|e
  ·cases e;exact⟨hb,he⟩
  ·exact h.fz _ _ e
 ·rcases List.mem_cons.1 hb' with e|e
  ·cases e;exact hd
  ·exact h.nd _ _ e
theorem kv.sub{dm num:Nat}{K K':List (Nat×Obj)}{st:St eD}(h:kv dm num K st)(hs:∀b o,(b,o)∈K'->(b,o)∈K):kv dm num K' st:=⟨h.sc,h.mw,h.dm,h.num,fun b o hb=>h.fz b o (hs b o hb),fun b o hb=>h.nd b o (hs b o hb)⟩
end
end
section
section
variable{S:ak->Bool}{ρ:Nat->Option Nat}{ro:Nat->Md}{G:Nat}{s w:ae}
theorem HR.mC(h:HR G (fun f=>S f=true) ro ρ s w){b:Nat}(hro:ro b=.all){C:Array af}{e:aj}{fz:Nat×Nat}(hb:s.heap[b]?=some (.cells C e fz)):∃c C',ρ b=some c/\w.heap[c]?=some (.cells C' e (0,0))/\AR (fun f=>S f=true) ρ C C':=by
 cases hρ:ρ b with
 |none=>rcases h.hole b hρ with h1|⟨x,h1⟩<;>rw[hb]at h1<;>cases h1
 |some c=>
  obtain⟨o,o',h1,h2,h3⟩:=h.row b c hρ;rw[hb]at h1;cases h1;rw[hro]at h3;cases h3 with
  |cells k3 k4 k5 k6=>
   obtain⟨e1,e2⟩:=k5 rfl;subst e2;exact⟨c,_,rfl,h2,e1,fun i v v' a b=>by obtain⟨z,hz,hr⟩:=k4 i v a;rw[hz]at b;cases b;exact hr⟩
theorem VR.DU{b off:Nat}{sp:Option Nat}{v:af}(h:VR (fun f=>S f=true) ρ (.pointer (some ⟨b,off,sp⟩)) v):∃c,ρ b=some c/\v=.pointer (some ⟨c,off,sp⟩):=by
 cases h with
 |ptr _ _ h=>exact⟨_,h,rfl⟩
theorem VR.yH{b off l k:Nat}{sp:Option Nat}{v:af}(h:VR (fun f=>S f=true) ρ (.slice (some ⟨b,off,sp⟩) l k) v):∃c,ρ b=some c/\v=.slice (some ⟨c,off,sp⟩) l k:=by
 cases h with
 |slice _ _ _ _ h=>exact⟨_,h,rfl⟩
theorem VR.bn3{m:ByteArray}{v:af}(h:VR (fun f=>S f=true) ρ (.string m) v):v=.string m:=by cases h;rfl
theorem VR.ah9{v:af}(h:VR (fun f=>S f=true) ρ Go.undef v):v=Go.undef:=by
 cases h with
 | @tuple _ x' hx _=>
  have:x'=#[]:=Array.eq_empty_of_size_eq_zero (by simpa using hx.symm)
  rw[this];rfl
theorem AR.sl{x x':Array af}(h:AR (fun f=>S f=true) ρ x x'){i:Nat}{v:af}(hv:x[i]?=some v):∃v',x'[i]?=some v'/\VR (fun f=>S f=true) ρ v v':=h.get hv
theorem Vr{D:Nat->Bool}{x x':Array af}(hs:x.size=x'.size)(h:∀i v v',D i=false->x[i]?=some v->x'[i]?=some v'->VR (fun f=>S f=true) ρ v v'):AR (fun f=>S f=true) ρ (nI D x) (nI D x'):=by
 refine⟨by simp[nI,hs],fun i v v' h1 h2=>?_⟩;unfold nI at h1 h2;rw[Array.getElem?_mapIdx]at h1 h2;cases hx:x[i]? with
 |none=>rw[hx]at h1;cases h1
 |some a=>
  cases hx':x'[i]? with
  |none=>rw[hx']at h2;cases h2
  |some a'=>
   rw[hx]at h1;rw[hx']at h2;simp only[cI,Option.some.injEq]at h1 h2;cases hD:D i with
   |true=>rw[hD]at h1 h2;simp only[if_true]at h1 h2;rw[<-h1,<-h2];exact VR.undef
   |false=>
    rw[hD]at h1 h2;simp only[Bool.false_eq_true,if_false]at h1 h2;rw[<-h1,<-h2];exact h i a a' hD hx hx'
theorem ji{q:iK}{X:Nat->Prop}{fO st:St eD}(hV:Vy q ro X fO ρ st){b c:Nat}(hb:ρ b=some c)(hro:ro b=.all)(hge:fO.w.heap.size<=b):fO.w.heap.size<=c/\(∀l,ij l=some c->l.isMemory=true->st.γ.ex 0 l)/\¬st.γ.dead c:=by
 obtain⟨h1,h2,h3,h4,h5⟩:=hV;refine⟨?_,?_,(h5 b c hb).1⟩
 ·rcases bw c fO.w.heap.size with h|h
  ·have:=(h5 b c hb).2.1 h;omega
  ·exact h
 ·have:=h1.2.2 b c hb
  rw[hro]at this;exact this
end
end
end Cc
namespace Cc
open Go.Conc
noncomputable def iY:Code:=Try.f27.body.getD .skip
noncomputable def vI:Code:=match(eK 12 iY).2 with|.seq a _=>a|_=>.skip
noncomputable def rZ:Code:=match(eK 12 iY).2 with|.seq _ b=>b|_=>.skip
noncomputable def Py:Code:=match vI with|.seq _ b=>b|_=>.skip
noncomputable def KD:Code:=match Py with|.block _ (.loop c)=>c|_=>.skip
noncomputable def xg:Code:=match rZ with|.seq _ b=>b|_=>.skip
end Cc
namespace Pl
def pw(a:Int)(n:Nat)(m:Int):Int:=a^n%m
def smul(a b:Int):Int:=IntKind.u64.wrap (a*b)%1073741789
def kW(a b:Int):Int:=IntKind.u64.wrap (a+b)%1073741789
def Ww(a b:Int):Int:=IntKind.u64.wrap (IntKind.u64.wrap (a+1073741789)-b)%1073741789
def mY(a b:Int):Int:=IntKind.u64.wrap (a*b)%2147483579
theorem nZ(x:Int):0<=IntKind.u64.wrap x:=by rw[IntKind.wrap_u64];omega
theorem ny{x:Int}(h:0<=x)(h':x<18446744073709551616):IntKind.u64.wrap x=x:=by rw[IntKind.wrap_u64];omega
theorem uX(a b:Int):0<=smul a b/\smul a b<1073741789:=by unfold smul;omega
theorem Nu(a b:Int):0<=kW a b/\kW a b<1073741789:=by unfold kW;omega
theorem Bq(a b:Int):0<=mY a b/\mY a b<2147483579:=by unfold mY;omega
theorem EL(a:Int)(n:Nat){m:Int}(h:0<m):0<=pw a n m/\pw a n m<m:=by
 unfold pw;exact⟨Int.emod_nonneg _ (by omega),Int.emod_lt_of_pos _ h⟩
theorem mul_lt{a b A B:Int}(h0:0<=a)(h1:a<A)(h2:0<=b)(h3:b<B):0<=a*b/\a*b<A*B:=by
 refine⟨Int.mul_nonneg h0 h2,?_⟩;have h4:a*b<=a*B:=Int.mul_le_mul_of_nonneg_left (by omega) h0;have h5:a*B<A*B:=Int.mul_lt_mul_of_pos_right h1 (by omega);omega
theorem Jn{a b:Int}(h0:0<=a)(h1:a<4294967296)(h2:0<=b)(h3:b<4294967296):IntKind.u64.wrap (a*b)=a*b:=by
 have h:=mul_lt h0 h1 h2 h3;exact ny h.1 (by have:=h.2;omega)
theorem xD{a b:Int}(h0:0<=a)(h1:a<4294967296)(h2:0<=b)(h3:b<4294967296):smul a b=a*b%1073741789:=by
 unfold smul;rw[Jn h0 h1 h2 h3]
theorem yo{a b:Int}(h0:0<=a)(h1:a<4294967296)(h2:0<=b)(h3:b<4294967296):mY a b=a*b%2147483579:=by
 unfold mY;rw[Jn h0 h1 h2 h3]
theorem mG(a b m:Int):a%m*b%m=a*b%m:=by
 rw[dA,cM _ (Int.dvd_refl m),<-dA]
theorem Db(a b m:Int):a*(b%m)%m=a*b%m:=by
 rw[dA,cM _ (Int.dvd_refl m),<-dA]
theorem pow_mod(a:Int)(n:Nat)(m:Int):(a%m)^n%m=a^n%m:=by
 induction n with
 |zero=>rw[Int.pow_zero,Int.pow_zero]
 |succ n ih=>rw[Int.pow_succ,Int.pow_succ,dA,ih,cM _ (Int.dvd_refl m),<-dA]
theorem Gd(a:Int){m:Int}(h:1<m):pw a 0 m=1:=by unfold pw;rw[Int.pow_zero];exact Int.emod_eq_of_lt (by omega) h
theorem wE(a:Int)(k n:Nat)(m:Int):pw a k m*pw a n m%m=pw a (k+n) m:=by
 unfold pw;rw[<-dA,Int.pow_add]
theorem NC(a:Int)(n:Nat)(m:Int)(h:n%2=0):pw a n m=pw a (n/2) m*pw a (n/2) m%m:=by
 rw[wE];congr 1;omega
theorem SX(a:Int)(n:Nat)(m:Int)(h:n%2=1):pw a n m=pw a (n/2) m*pw a (n/2) m%m*a%m:=by
 rw[wE];have e:n=n/2+n/2+1:=by omega
 conv=>lhs;rw[e]
 unfold pw;rw[Int.pow_succ,mG]
theorem EZ(o a:Int)(n:Nat)(m:Int)(h:n%2=0):o*(a*a%m)^(n/2)%m=o*a^n%m:=by
 have e:a^n=(a*a)^(n/2):=by
  rw[Int.mul_pow,<-Int.pow_add];congr 1;omega
 rw[e,dA,pow_mod,<-dA]
theorem Js(o a:Int)(n:Nat)(m:Int)(h:n%2=1):(o*a%m)*(a*a%m)^(n/2)%m=o*a^n%m:=by
 have e:a^n=a*(a*a)^(n/2):=by
  rw[Int.mul_pow,<-Int.pow_add,Int.mul_comm,<-Int.pow_succ];congr 1;omega
 rw[mG,dA,pow_mod,<-dA,e,Int.mul_assoc]
theorem Pw(k:Nat)(h:k<18446744073709551616):bits aZ IntKind.u64 (k:Int) 1=(k:Int)%2:=
 Go.and_one_u64 _ (by omega) (by omega)
theorem EP(a:Nat)(ha:a<9223372036854775808):(BitVec.ofInt 64 (a:Int)).toNat=a:=by
 rw[BitVec.ofInt_natCast,BitVec.toNat_ofNat];exact Nat.mod_eq_of_lt (by omega)
theorem JF(a b:Nat)(ha:a<9223372036854775808)(hb:b<9223372036854775808):bits .and .i64 (a:Int) (b:Int)=((a&&& b:Nat):Int):=by
 have hx:a&&& b<2^63:=Nat.and_lt_two_pow _ (by omega);show IntKind.i64.wrap ((BitVec.ofInt 64 (a:Int)&&& BitVec.ofInt 64 (b:Int)).toNat:Int)=_;rw[BitVec.toNat_and,EP a ha,EP b hb,IntKind.wrap_i64];omega
theorem zX(k:Nat)(h:k<9223372036854775808):bits aZ IntKind.i64 (k:Int) 1=(k:Int)%2:=by
 have h1:=JF k 1 h (by omega);rw[Nat.and_one_is_mod]at h1;exact h1.trans (by omega)
def qq:Nat:=1073741789
def qm2:Nat:=1073741787
theorem aN8:qq<18446744073709551616:=by unfold qq;omega
def jO(n:Int):Bool:=decide (0<n/\n<2147483579/\pw n qq 2147483579=1)
def jx(n:Int):Bool:=jO n&&decide (n≠1)
def rL(l:List Int)(x:Int):Int:=l.foldr (fun c acc=>kW (smul acc x) c) 0
def wD(x:Int):Nat->Int
 |0=>1
 |j+1=>wD x j*x%1073741789
def Ix(l:List Int)(x:Int):Nat->Int
 |0=>0
 |j+1=>(Ix l x j+l.getD j 0*wD x j)%1073741789
theorem BV(x:Int)(j:Nat):0<=wD x j/\wD x j<1073741789:=by
 cases j with
 |zero=>unfold wD;omega
 |succ j=>unfold wD;omega
theorem ak3(l:List Int)(x:Int)(j:Nat):0<=Ix l x j/\Ix l x j<1073741789:=by
 cases j with
 |zero=>unfold Ix;omega
 |succ j=>unfold Ix;omega
def ra(ids:List Int)(k:Nat):Nat->Int
 |0=>1
 |j+1=>if j=k then ra ids k j else smul (ra ids k j) (IntKind.u64.wrap (ids.getD j 0))
def jf(ids:List Int)(k:Nat):Nat->Int
 |0=>1
 |j+1=>if j=k then jf ids k j else smul (jf ids k j) (Ww (IntKind.u64.wrap (ids.getD j 0)) (IntKind.u64.wrap (ids.getD k 0)))
def iz(ids:List Int)(k:Nat):Int:=smul (ra ids k ids.length) (pw (jf ids k ids.length) qm2 1073741789)
theorem Mg(ids:List Int)(k j:Nat):0<=jf ids k j/\jf ids k j<1073741789:=by
 induction j with
 |zero=>unfold jf;omega
 |succ j ih=>
  unfold jf;split
  ·exact ih
  ·exact uX _ _
theorem Mf(ids:List Int)(k:Nat):ra ids k (k+1)=ra ids k k:=by rw[ra,if_pos rfl]
theorem Gw(ids:List Int)(k:Nat):jf ids k (k+1)=jf ids k k:=by rw[jf,if_pos rfl]
theorem Me(ids:List Int){k j:Nat}(h:j≠k):ra ids k (j+1)=smul (ra ids k j) (IntKind.u64.wrap (ids.getD j 0)):=by rw[ra,if_neg h]
theorem Gv(ids:List Int){k j:Nat}(h:j≠k):jf ids k (j+1)=smul (jf ids k j) (Ww (IntKind.u64.wrap (ids.getD j 0)) (IntKind.u64.wrap (ids.getD k 0))):=by rw[jf,if_neg h]
def xA(first:Int)(l:List Int):Nat->Int
 |0=>first
 |j+1=>kW (xA first l j) (l.getD j 0)
def oX(first:Int)(l:List Int):Nat->Int
 |0=>first
 |j+1=>mY (oX first l j) (l.getD j 0)
def mix(h b:Int):Int:=IntKind.u64.wrap (bits BinOp.xor IntKind.u64 h b*1099511628211)
def dv(n:Int):Nat->Int
 |0=>n
 |j+1=>dv n j/256
def Gl(h n:Int):Nat->Int
 |0=>h
 |j+1=>mix (Gl h n j) (dv n j%256)
def vY(h:Int)(l:List Int):Nat->Int
 |0=>h
 |k+1=>Gl (vY h l k) (l.getD k 0) 8
def gY(s:ByteArray)(k:Nat):Int:=if h:k<s.size then(s[k].toNat:Int)else 0
def oU(h:Int)(s:ByteArray):Nat->Int
 |0=>h
 |k+1=>mix (oU h s k) (gY s k)
theorem Lp(h:Int)(s:ByteArray){k:Nat}(hk:k<s.size):oU h s (k+1)=mix (oU h s k) (s[k].toNat:Int):=by
 show mix (oU h s k) (gY s k)=_;rw[gY,dif_pos hk]
def UJ:Int:=14695981039346656037
def uH(tag:Int)(s:ByteArray)(l:List Int):Int:=oU (vY (mix UJ tag) l l.length) s s.size%1073741789
theorem a87(n:Int)(j:Nat)(h0:0<=n)(h1:n<18446744073709551616):0<=dv n j/\dv n j<18446744073709551616:=by
 induction j with
 |zero=>exact⟨h0,h1⟩
 |succ j ih=>unfold dv;omega
theorem wG(h b:Int):0<=mix h b:=nZ _
theorem IV(h n:Int)(j:Nat)(h0:0<=h):0<=Gl h n j:=by
 cases j with
 |zero=>exact h0
 |succ j=>exact wG _ _
theorem Gk(h:Int)(l:List Int)(j:Nat)(h0:0<=h):0<=vY h l j:=by
 induction j with
 |zero=>exact h0
 |succ j ih=>exact IV _ _ _ ih
theorem FV(h:Int)(s:ByteArray)(j:Nat)(h0:0<=h):0<=oU h s j:=by
 cases j with
 |zero=>exact h0
 |succ j=>exact wG _ _
theorem JV(tag:Int)(s:ByteArray)(l:List Int):0<=uH tag s l/\uH tag s l<1073741789:=by unfold uH;omega
def Dh(ids shares:List Int)(k:Nat):Int:=
 if ids.getD k 0<1\/9<ids.getD k 0 then 5 else if 0<k/\ids.getD k 0<=ids.getD (k-1) 0 then 6 else if 1073741789<=shares.getD k 0 then 2 else 0
def jZ(ids shares:List Int):Nat->Int
 |0=>0
 |k+1=>if jZ ids shares k=0 then Dh ids shares k else jZ ids shares k
def oK(ids shares:List Int):Int:=if ids.length=shares.length/\0<ids.length/\ids.length<=9 then jZ ids shares ids.length else 12
def lR(ids shares:List Int)(k:Nat):List Int:=(List.range k).map fun i=>smul (shares.getD i 0) (iz ids i)
def pB(ids shares:List Int):Int:=if oK ids shares=0 then xA 0 (lR ids shares ids.length) ids.length else 0
theorem Eu(ids shares:List Int){j k:Nat}(h:j<=k)(hj:jZ ids shares j≠0):jZ ids shares k=jZ ids shares j:=by
 induction k with
 |zero=>
  obtain rfl:j=0:=by omega
  rfl
 |succ k ih=>
  rcases bw k j with hlt|hge
  ·obtain rfl:j=k+1:=by omega
   rfl
  ·rw[jZ,ih hge,if_neg hj]
theorem U9(ids shares:List Int){k:Nat}{x:Int}(h1:ids.length=shares.length)(h2:0<ids.length)(h3:ids.length<=9)(hk:k<ids.length)
  (h0:jZ ids shares k=0)(hx:Dh ids shares k=x)(hn:x≠0):oK ids shares=x:=by
 unfold oK;rw[if_pos ⟨h1,h2,h3⟩,Eu ids shares (j:=k+1) (by omega) (by rw[jZ,if_pos h0,hx];exact hn),jZ,if_pos h0,hx]
theorem zo(ids shares:List Int)(h:¬(ids.length=shares.length/\0<ids.length/\ids.length<=9)):oK ids shares=12:=by
 unfold oK;rw[if_neg h]
theorem U8(ids shares:List Int)(h1:ids.length=shares.length)(h2:0<ids.length)(h3:ids.length<=9)(h0:jZ ids shares ids.length=0):oK ids shares=0:=by
 unfold oK;rw[if_pos ⟨h1,h2,h3⟩,h0]
theorem DV(ids shares:List Int)(k:Nat):(lR ids shares k).length=k:=by simp[lR]
theorem IM(ids shares:List Int)(k:Nat):lR ids shares (k+1)=lR ids shares k++[smul (shares.getD k 0) (iz ids k)]:=by
 simp[lR,List.range_succ]
end Pl
namespace uU
open Go.RowKit Pl
theorem lM(a b:Int)(w:ae):
  Calls dS 69 #[.int .u64 a,.int .u64 b] w fun e w'=>e=.returned (.int .u64 (smul a b))/\w=w':=by
 go_enter Try.func69,Try.ntmps69
 go_wp2
 go_ret
 exact⟨by rw[smul,<-Int.tmod_eq_emod_of_nonneg (nZ _)];rfl,rfl⟩
theorem Nr(a b:Int)(w:ae):
  Calls dS 73 #[.int .u64 a,.int .u64 b] w fun e w'=>e=.returned (.int .u64 (kW a b))/\w=w':=by
 go_enter Try.func73,Try.ntmps73
 go_wp2
 go_ret
 exact⟨by rw[kW,<-Int.tmod_eq_emod_of_nonneg (nZ _)];rfl,rfl⟩
theorem aj3(a b:Int)(w:ae):
  Calls dS 111 #[.int .u64 a,.int .u64 b] w fun e w'=>e=.returned (.int .u64 (Ww a b))/\w=w':=by
 go_enter Try.func111,Try.ntmps111
 go_wp2
 go_ret
 exact⟨by rw[Ww,<-Int.tmod_eq_emod_of_nonneg (nZ _)];rfl,rfl⟩
theorem qJ(a b:Int)(w:ae):
  Calls dS 65 #[.int .u64 a,.int .u64 b] w fun e w'=>e=.returned (.int .u64 (mY a b))/\w=w':=by
 go_enter Try.func65,Try.ntmps65
 go_wp2
 go_ret
 exact⟨by rw[mY,<-Int.tmod_eq_emod_of_nonneg (nZ _)];rfl,rfl⟩
theorem small(n:Int)(w:ae):
  Calls dS 44 #[.int .i64 n] w fun e w'=>e=.returned (.int .u64 (IntKind.u64.wrap n))/\w=w':=by
 go_enter Try.func44,Try.ntmps44
 go_wp2
 go_ret
 exact⟨rfl,rfl⟩
theorem oh(n:Int)(w:ae):
  Calls dS 41 #[.int .u64 n] w fun e w'=>e=.returned (.tuple #[.int .u64 n,.bool (decide (n<1073741789))])/\w=w':=by
 go_enter Try.func41,Try.ntmps41
 go_wp2
 go_ret2
 exact⟨rfl,rfl⟩
theorem EG(n:Int)(w:ae)(h:n<1073741789):
  Calls dS 41 #[.int .u64 n] w fun e w'=>e=.returned (.tuple #[.int .u64 n,.bool true])/\w=w':=
 (oh n w).mono fun _ _ hh=>⟨by rw[hh.1,decide_eq_true h],hh.2⟩
theorem Ip(n:Int)(w:ae)(h:¬n<1073741789):
  Calls dS 41 #[.int .u64 n] w fun e w'=>e=.returned (.tuple #[.int .u64 n,.bool false])/\w=w':=
 (oh n w).mono fun _ _ hh=>⟨by rw[hh.1,decide_eq_false h],hh.2⟩
def Inv(m a:Int)(n0:Nat)(x n o:af):Prop:=
 ∃(x' o':Int) (n':Nat),x=.int .u64 x'/\n=.int .u64 n'/\o=.int .u64 o'/\0<=x'/\x'<m/\0<=o'/\o'<m/\n'<18446744073709551616/\o'*x'^n'%m=a^n0%m
theorem power(a:Int)(n:Nat)(w:ae)(ha:0<=a)(ha':a<2147483579)(hn:n<18446744073709551616):
  Calls dS 68 #[.int .u64 a,.int .u64 n] w fun e w'=>e=.returned (.int .u64 (pw a n 2147483579))/\w=w':=by
 go_enter Try.func68,Try.ntmps68
 go_wp2_with fail
 go_loop [0,1,5] (fun x y o=>Inv 2147483579 a n x y o) (fun _ y _=>(intOf y).toNat)
 case atStart=>exact⟨a,1,n,rfl,rfl,rfl,ha,ha',by omega,by omega,hn,by rw[Int.one_mul]⟩
 case round=>
  obtain⟨x,o,k,rfl,rfl,rfl,hx,hx',ho,ho',hk,hinv⟩:=hrel;have hI:=ay hinv;clear hinv;have e1:mY o x=o*x%2147483579:=yo ho (by omega) hx (by omega);have e2:mY x x=x*x%2147483579:=yo hx (by omega) hx (by omega);have E1:=ay e1;have E2:=ay e2;clear e1 e2;have b1:=Bq o x;have b2:=Bq x x;by_cases h0:0<k
  ·by_cases h2:k%2=1
   ·have hb:(bits aZ IntKind.u64 (k:Int) 1==1)=true:=by rw[Pw k hk,beq_iff_eq];omega
    have H2:=ay h2;clear h2;go_wp2_with fail
    refine(qJ _ _ _).mono ?_;rintro e w' ⟨rfl,rfl⟩;go_wp2_with fail
    refine(qJ _ _ _).mono ?_;rintro e w' ⟨rfl,rfl⟩;go_wp2_with fail
    go_round
    case rel=>
     refine⟨mY x x,mY o x,k/2,rfl,by go_num,rfl,b2.1,b2.2,b1.1,b1.2,by omega,?_⟩;rw[E1.out,E2.out,Js _ _ _ _ H2.out];exact hI.out
    case measure=>simp[intOf]<;>omega
   ·have hb:(bits aZ IntKind.u64 (k:Int) 1==1)=false:=by rw[Pw k hk,beq_eq_false_iff_ne];omega
    have H2:=ay (show k%2=0 by omega);clear h2;go_wp2_with fail
    refine(qJ _ _ _).mono ?_;rintro e w' ⟨rfl,rfl⟩;go_wp2_with fail
    go_round
    case rel=>
     refine⟨mY x x,o,k/2,rfl,by go_num,rfl,b2.1,b2.2,ho,ho',by omega,?_⟩;rw[E2.out,EZ _ _ _ _ H2.out];exact hI.out
    case measure=>simp[intOf]<;>omega
  ·obtain rfl:k=0:=by omega
   go_wp2_with fail
   go_ret
   have h:=hI.out;rw[Int.pow_zero,Int.mul_one,Int.emod_eq_of_lt ho ho']at h;refine⟨?_,rfl⟩;rw[pw,<-h];rfl
def bC9(m a:Int)(n0:Nat)(x n o:af):Prop:=
 ∃(x' o':Int) (n':Nat),x=.int .u64 x'/\n=.int .i64 n'/\o=.int .u64 o'/\0<=x'/\x'<m/\0<=o'/\o'<m/\n'<9223372036854775808/\o'*x'^n'%m=a^n0%m
theorem WQ:qm2<9223372036854775808:=by unfold qm2;omega
theorem inverse(a:Int)(w:ae)(ha:0<=a)(ha':a<1073741789):
  Calls dS 112 #[.int .u64 a] w fun e w'=>e=.returned (.int .u64 (pw a qm2 1073741789))/\w=w':=by
 go_enter Try.func112,Try.ntmps112
 go_wp2_with fail
 go_loop [0,4,3] (fun x y o=>bC9 1073741789 a qm2 x y o) (fun _ y _=>(intOf y).toNat)
 case atStart=>exact⟨a,1,qm2,rfl,rfl,rfl,ha,ha',by omega,by omega,WQ,by rw[Int.one_mul]⟩
 case round=>
  obtain⟨x,o,k,rfl,rfl,rfl,hx,hx',ho,ho',hk,hinv⟩:=hrel;have hI:=ay hinv;clear hinv;have e1:smul o x=o*x%1073741789:=xD ho (by omega) hx (by omega);have e2:smul x x=x*x%1073741789:=xD hx (by omega) hx (by omega);have E1:=ay e1;have E2:=ay e2;clear e1 e2;have b1:=uX o x;have b2:=uX x x;by_cases h0:0<k
  ·by_cases h2:k%2=1
   ·have hb:(bits aZ IntKind.i64 (k:Int) 1==1)=true:=by rw[zX k hk,beq_iff_eq];omega
    have H2:=ay h2;clear h2;go_wp2_with fail
    refine(lM _ _ _).mono ?_;rintro e w' ⟨rfl,rfl⟩;go_wp2_with fail
    refine(lM _ _ _).mono ?_;rintro e w' ⟨rfl,rfl⟩;go_wp2_with fail
    go_round
    case rel=>
     refine⟨smul x x,smul o x,k/2,rfl,by go_num,rfl,b2.1,b2.2,b1.1,b1.2,by omega,?_⟩;rw[E1.out,E2.out,Js _ _ _ _ H2.out];exact hI.out
    case measure=>simp[intOf]<;>omega
   ·have hb:(bits aZ IntKind.i64 (k:Int) 1==1)=false:=by rw[zX k hk,beq_eq_false_iff_ne];omega
    have H2:=ay (show k%2=0 by omega);clear h2;go_wp2_with fail
    refine(lM _ _ _).mono ?_;rintro e w' ⟨rfl,rfl⟩;go_wp2_with fail
    go_round
    case rel=>
     refine⟨smul x x,o,k/2,rfl,by go_num,rfl,b2.1,b2.2,ho,ho',by omega,?_⟩;rw[E2.out,EZ _ _ _ _ H2.out];exact hI.out
    case measure=>simp[intOf]<;>omega
  ·obtain rfl:k=0:=by omega
   go_wp2_with fail
   go_ret
   have h:=hI.out;rw[Int.pow_zero,Int.mul_one,Int.emod_eq_of_lt ho ho']at h;refine⟨?_,rfl⟩;rw[pw,<-h];rfl
theorem base(n:Nat)(w:ae)(hn:n<18446744073709551616):
  Calls dS 42 #[.int .u64 n] w fun e w'=>e=.returned (.int .u64 (pw 4 n 2147483579))/\w=w':=by
 go_enter Try.func42,Try.ntmps42
 go_wp2_with fail
 refine(power 4 n _ (by omega) (by omega) hn).mono ?_;rintro e w' ⟨rfl,rfl⟩;go_wp2_with fail
 go_ret
 exact⟨rfl,rfl⟩
theorem XY{n:Int}(h1:0<n)(h2:n<2147483579):jO n=(pw n qq 2147483579==1):=by
 unfold jO;rw[Bool.eq_iff_iff,decide_eq_true_iff,beq_iff_eq];exact⟨fun h=>h.2.2,fun h=>⟨h1,h2,h⟩⟩
theorem T5{n:Int}(h:¬(0<n/\n<2147483579)):jO n=false:=by
 unfold jO;rw[decide_eq_false_iff_not];rintro ⟨a,b,c⟩;exact h ⟨a,b⟩
theorem QY(n:Int)(w:ae)(h0:0<=n):
  Calls dS 47 #[.int .u64 n] w fun e w'=>e=.returned (.tuple #[.int .u64 n,.bool (jO n)])/\w=w':=by
 by_cases h:0<n/\n<2147483579
 ·obtain⟨h1,h2⟩:=h;rw[XY h1 h2];go_enter Try.func47,Try.ntmps47
  go_wp2_with fail
  refine(power n qq w h0 h2 aN8).mono ?_;rintro e w' ⟨rfl,rfl⟩;go_wp2_with fail
  go_ret2
  exact⟨rfl,rfl⟩
 ·rw[T5 h];by_cases h1:0<n;all_goals
   go_enter Try.func47,Try.ntmps47
   go_wp2_with fail
   go_ret2
   exact⟨rfl,rfl⟩
theorem SK(m:Int)(a:Int)(hm:1<m)(hm':m<4294967296)(ha:0<=a)(ha':a<4294967296)(k:Nat):∀(n:Nat) (w:ae),n<2^k->n<18446744073709551616->
  Calls dS 75 #[.int .u64 a,.int .u64 n,.int .u64 m] w fun e w'=>e=.returned (.int .u64 (pw a n m))/\w=w':=by
 induction k with
 |zero=>
  intro n w hk hn;obtain rfl:n=0:=by simpa using hk
  go_enter Try.func75,Try.ntmps75
  go_wp2_with fail
  go_ret
  exact⟨by rw[Gd _ hm];rfl,rfl⟩
 |succ k ih=>
  intro n w hk hn;by_cases h0:n=0
  ·subst h0;go_enter Try.func75,Try.ntmps75
   go_wp2_with fail
   go_ret
   exact⟨by rw[Gd _ hm];rfl,rfl⟩
  ·have hk2:n/2<2^k:=by rw[Nat.pow_succ]at hk;omega
   have b1:=EL a (n/2) (m:=m) (by omega);have b2:=mul_lt b1.1 b1.2 b1.1 b1.2;have b3:m*m<4294967296*4294967296:=(mul_lt (by omega:0<=m) hm' (by omega) hm').2;have b4:pw a (n/2) m*pw a (n/2) m<18446744073709551616:=by omega
   have b5:0<=pw a (n/2) m*pw a (n/2) m:=b2.1;have c1:0<=pw a (n/2) m*pw a (n/2) m%m:=Int.emod_nonneg _ (by omega);have c2:pw a (n/2) m*pw a (n/2) m%m<m:=Int.emod_lt_of_pos _ (by omega);have c3:=mul_lt c1 (Int.lt_trans c2 hm') ha ha';have c4:=c3.1;have c5:pw a (n/2) m*pw a (n/2) m%m*a<18446744073709551616:=by omega
   have hn0:0<n:=by omega
   have IH:=ay ih;clear ih b1 b2 b3 c3 h0 hk;by_cases h2:n%2=1
   ·have hE:=ay (SX a n m h2);go_enter Try.func75,Try.ntmps75
    go_wp2_with fail
    refine(IH.out (n/2) w hk2 (by omega)).mono ?_;rintro e w' ⟨rfl,rfl⟩;go_wp2_with fail
    go_ret
    exact⟨by rw[hE.out];rfl,rfl⟩
   ·have hE:=ay (NC a n m (by omega));have h3:n%2=0:=by omega
    go_enter Try.func75,Try.ntmps75
    go_wp2_with fail
    refine(IH.out (n/2) w hk2 (by omega)).mono ?_;rintro e w' ⟨rfl,rfl⟩;go_wp2_with fail
    go_ret
    exact⟨by rw[hE.out];rfl,rfl⟩
theorem ak6(m a:Int)(n:Nat)(w:ae)(hm:1<m)(hm':m<4294967296)(ha:0<=a)(ha':a<4294967296)(hn:n<18446744073709551616):
  Calls dS 75 #[.int .u64 a,.int .u64 n,.int .u64 m] w fun e w'=>e=.returned (.int .u64 (pw a n m))/\w=w':=
 SK m a hm hm' ha ha' 64 n w (by omega) hn
theorem WO(n:Nat)(w:ae)(hn:n<18446744073709551616):
  Calls dS 45 #[.int .u64 n] w fun e w'=>e=.returned (.int .u64 (pw 4 n 2147483579))/\w=w':=by
 go_enter Try.func45,Try.ntmps45
 go_wp2_with fail
 refine(ak6 2147483579 4 n _ (by omega) (by omega) (by omega) (by omega) hn).mono ?_;rintro e w' ⟨rfl,rfl⟩;go_wp2_with fail
 go_ret
 exact⟨rfl,rfl⟩
end uU
end Go.Proofs.Ytpfpokjaeffbjaa
