/- Part of the proof: Mn4, Mn5, Mn6, Shadow, VisR, VisM, Go, ShK. -/
import Derived.Test.YtpfpokjaeffbjabBb8
import Derived.Test.YtpfpokjaeffbjabBb5
import Derived.Test.YtpfpokjaeffbjabBb7
set_option linter.unusedVariables false
set_option linter.unusedSimpArgs false
set_option maxRecDepth 100000
set_option maxHeartbeats 16000000
namespace Go.Proofs.Ytpfpokjaeffbjab
namespace Cc
open Go.Conc Go.ConcN
open Go.ConcR (KK wgBlock WgAt stA smA rd wr mk DC0)
open Go.ConcM (OsLater)
section
def aM7(γ:aJ)(s:aO):Nat->Loc->Prop:=fun g l=>γ.ex g l/\¬(fE l=some s.Gb\/fE l=some s.Wg\/((fE l=some s.Zb\/fE l=some s.Rb)/\∀k,k<s.n->l≠ca s.Zb k/\l≠ca s.Rb k))
def aM6(γ:aJ)(s:aO):Nat->Loc->Prop:=fun g l=>γ.rd g l\/(g=0/\∃off,off<3/\l=ca s.Gb off)
def aM5(s:aO):Nat->Loc->Prop:=fun g l=>g=0/\((∃off,3<=off/\off<6/\l=ca s.Gb off)\/∃off,off<2/\l=ca s.Wg off)
def NS(γ:aJ)(s:aO):aJ:={γ with sc:=some s,mw:=.sp,D:=0,L:=0,W:=0,S:=0,N:=0,tn:=0,th:=0,gs:=0,gm:=0,ex:=aM7 γ s,rd:=aM6 γ s,sh:=aM5 s}
structure Enter(q:ig)(s:aO)(st:St aJ):Prop where
 n0:s.n0=st.γ.num
 n9:s.n<=9
 gb:∃C:Array Value,st.w.heap[s.Gb]?=some (.cells C q.tG)/\C.size=16/\C[0]?=some s.g0/\C[1]?=some s.g1/\C[2]?=some s.g2/\C[3]?=some (.int .u32 0)/\C[4]?=some (.int .i32 0)/\C[5]?=some (.int .u32 0)/\∀k,6<=k->k<16->∃x,C[k]?=some (.int .u64 x)
 wg:WgAt q.tW s.Wg st.w (0:Nat) (0:Nat)
 zb:uy s.Zb s.n q.tZ (fun _=>false) s.zv st.w
 rb:uy s.Rb s.n q.tR (fun _=>false) s.rv st.w
 ne:s.Gb≠s.Wg/\s.Gb≠s.Zb/\s.Gb≠s.Rb/\s.Wg≠s.Zb/\s.Wg≠s.Rb/\s.Zb≠s.Rb
 ex:∀b,(b=s.Gb\/b=s.Wg\/b=s.Zb\/b=s.Rb)->∀off,st.γ.ex 0 (ca b off)
 nd:¬st.γ.dead s.Gb/\¬st.γ.dead s.Zb/\¬st.γ.dead s.Rb
theorem Dy(b off:Nat):fE (ca b off)=some b:=rfl
theorem YZ{p:MX->Bool}{m:Nat->MX}{a n:Nat}(h:∀k,a<=k->k<a+n->p (m k)=false):cnt p m a n=0:=by
 unfold cnt;rw[List.countP_eq_zero];intro k hk;have:=List.mem_range.1 hk;rw[h (a+k) (by omega) (by omega)];simp
section
variable{q:ig}{s:aO}
theorem Inv.enter{st:St aJ}(h:Inv q st)(hs:st.γ.sc=none)(hd:st.γ.dm=0)(E:Enter q s st):
  Inv q ⟨st.w,st.t,NS st.γ s⟩/\∀j,j≠0->Rl j st ⟨st.w,st.t,NS st.γ s⟩:=by
 have A:=h.base.tr.Ic;have pos:=h.base.pos;have hold:st.γ.old=st.γ.num:=by unfold aJ.old;rw[hs]
 have hold':(NS st.γ s).old=st.γ.num:=by unfold aJ.old NS;exact E.n0
 have new:∀j,st.γ.num<=j->st.γ.wk j=.new:=h.base.nw;have ao7:∀j,0<j->j<st.γ.num->(st.γ.wk j).wg=.lv\/(st.γ.wk j).wg=.gone:=fun j a b=>h.base.old j a (by rw[hold];exact b)
 have ex0:=E.ex;have exG:=fun off=>ex0 s.Gb (.inl rfl) off
 have exW:=fun off=>ex0 s.Wg (.inr (.inl rfl)) off
 have J3:=fun off=>ex0 s.Zb (.inr (.inr (.inl rfl))) off
 have exR:=fun off=>ex0 s.Rb (.inr (.inr (.inr rfl))) off
 have A':QC st.w.heap.size (aM7 st.γ s) (aM6 st.γ s) (aM5 s):=by
  refine⟨fun g g' l h1 h2=>A.ee _ _ _ h1.1 h2.1,fun g g' l h1 h2=>?_,fun g g' l h1 h2=>?_,fun g g' l h1 h2=>?_,fun g l h1=>A.low _ _ h1.1,fun g l h1 b hb=>?_,fun g l h1 b hb=>?_,fun g l h1=>?_⟩
  ·rcases h2 with h2|⟨_,off,_,rfl⟩
   ·exact A.er _ _ _ h1.1 h2
   ·exact h1.2 (.inl rfl)
  ·obtain⟨_,⟨off,_,_,rfl⟩|⟨off,_,rfl⟩⟩:=h2
   ·exact h1.2 (.inl rfl)
   ·exact h1.2 (.inr (.inl rfl))
  ·obtain⟨_,⟨off,o1,o2,rfl⟩|⟨off,_,rfl⟩⟩:=h2
   ·rcases h1 with h1|⟨_,off',o',e⟩
    ·exact A.er _ _ _ (exG off) h1
    ·have:=(fU e).2;omega
   ·rcases h1 with h1|⟨_,off',o',e⟩
    ·exact A.er _ _ _ (exW off) h1
    ·exact E.ne.1 (fU e).1.symm
  ·rcases h1 with h1|⟨_,off,_,rfl⟩
   ·exact A.zf _ _ h1 b hb
   ·exact A.low _ _ (exG off) b hb
  ·obtain⟨_,⟨off,_,_,rfl⟩|⟨off,_,rfl⟩⟩:=h1
   ·exact A.low _ _ (exG off) b hb
   ·exact A.low _ _ (exW off) b hb
  ·rcases h1 with h1|h1|h1
   ·exact A.mem _ _ (.inl h1.1)
   ·rcases h1 with h1|⟨_,off,_,rfl⟩
    ·exact A.mem _ _ (.inr (.inl h1))
    ·rfl
   ·obtain⟨_,⟨off,_,_,rfl⟩|⟨off,_,rfl⟩⟩:=h1<;>rfl
 have htr:Ie st.t st.γ.num st.w.heap.size (aM7 st.γ s) (aM6 st.γ s) (aM5 s):=by
  refine h.base.tr.sub A' (fun g l hl=>hl.1) (fun g l hl=>?_) fun g l hl=>.inr ?_
  ·rcases hl with hl|⟨rfl,off,_,rfl⟩
   ·exact .inl hl
   ·exact .inr (exG off)
  ·obtain⟨rfl,⟨off,_,_,rfl⟩|⟨off,_,rfl⟩⟩:=hl
   ·exact⟨exG off,fun i a ha _ hk=>h.base.said i a ha hk⟩
   ·exact⟨exW off,fun i a ha _ hk=>h.base.said i a ha hk⟩
 have jL:∀j,((NS st.γ s).wk j).mx≠ .own .work:=fun j hj=>by
  have hj:(st.γ.wk j).mx=.own .work:=hj;by_cases h1:st.γ.num<=j
  ·rw[new j h1]at hj;cases hj
  ·rcases h.base.Xr j (by rw[hold];omega)with e|e<;>rw[e]at hj<;>cases hj
 have aF9:∀g,Mem s (NS st.γ s) g->g=0:=fun g hg=>by
  rcases hg with rfl|⟨a,b⟩
  ·rfl
  ·have b:g<st.γ.num:=b;have:=E.n0;omega
 have ak7:∀p:WG->Bool,p .idle=false->dF p (NS st.γ s) s=0:=fun p hp=>rU fun j h1 h2=>by
  show p (st.γ.wk j).wg=false;rw[new j (by have:=E.n0;omega)];exact hp
 have wk0:∀j,s.n0<=j->st.γ.wk j=.new:=fun j hj=>new j (by rw[<-E.n0];exact hj)
 have hmu:jC (NS st.γ s).mm s.n0 s.n 0 0 0 0 0 0:=by
  have z:∀p:MX->Bool,p .fresh=false->cnt p (NS st.γ s).mm s.n0 s.n=0:=fun p hp=>YZ fun k k1 _=>by
   show p (st.γ.wk k).mx=false;rw[wk0 k k1];exact hp
  refine⟨(z _ rfl).symm,?_,?_,by omega,.inr ⟨rfl,rfl,z _ rfl,z _ rfl⟩,fun _ _ _ h=>by omega⟩
  ·rw[z MX.iO rfl,z MX.lX rfl,z MX.lq rfl]
  ·rw[z MX.iO rfl,z MX.wQ rfl,z MX.jg rfl]
 refine⟨⟨⟨pos,htr,h.base.Nu,h.base.dfm,h.base.TL,h.base.gone,h.base.os,h.base.out,fun j a b=>h.base.old j a (by rw[hold];rw[hold']at b;exact b),h.base.dead,fun i a ha hm=>?_,fun i g hg hne hlt hc=>?_,fun g l hl=>?_,fun j hj=>h.base.Xr j (by rw[hold];replace hj:j<(NS st.γ s).old:=hj;rw[hold']at hj;exact hj),new,h.base.said,fun s' hs'=>by
  have hs':some s=some s':=hs';cases hs';exact E.nd⟩,?_,fun s' hs'=>?_⟩,fun j hj=>?_⟩
 ·show(∃b,fE a.loc=some b/\st.γ.dead b)\/Knows st.t 0 i\/∃g,st.t.g? i=some g/\(NS st.γ s).old<=g;rw[hold',<-hold];exact h.base.know i a ha hm
 ·replace hlt:g<(NS st.γ s).old:=hlt;rw[hold',<-hold]at hlt;exact h.base.ho i g hg hne hlt hc
 ·rcases hl with hl|hl|hl
  ·exact h.base.pool g l (.inl hl.1)
  ·rcases hl with hl|⟨rfl,_⟩
   ·exact h.base.pool g l (.inr (.inl hl))
   ·exact pos
  ·rw[hl.1];exact pos
 ·show some s=none↔MW.sp=.solo;simp
 ·have hs':some s=some s':=hs';cases hs';refine⟨?_,?_,?_⟩
  ·exact{
    n0:=⟨by rw[E.n0];exact pos,by rw[E.n0];exact Nat.le_refl _,by rw[E.n0];show st.γ.num<=_;omega,E.n9⟩
    gb:=by
     obtain⟨C,c1,c2,c3,c4,c5,c6,c7,c8,c9⟩:=E.gb;exact⟨C,c1,c2,c3,c4,c5,c6,c7,c8,c9,fun e=>by cases e⟩
    qV:=E.wg
    zb:=E.zb.block rfl fun k _ hf=>by
     have hf:(st.γ.wk (s.n0+k)).zw=true:=hf;rw[wk0 _ (by omega)]at hf;cases hf
    rb:=E.rb.block rfl fun k _ hf=>by
     have hf:(st.γ.wk (s.n0+k)).rw=true:=hf;rw[wk0 _ (by omega)]at hf;cases hf
    ne:=E.ne
    mu:=hmu
    D1:=Nat.zero_le _
    work:=fun j hj=>absurd hj (jL j)
    dn:=fun j hj=>by
     have hj:(st.γ.wk j).mx=.own .dn:=hj;by_cases h1:st.γ.num<=j
     ·rw[new j h1]at hj;cases hj
     ·rcases h.base.Xr j (by rw[hold];omega)with e|e<;>rw[e]at hj<;>cases hj
    syn:=fun j h0 hj=>by
     have hj:(st.γ.wk j).syn=true:=hj;rw[wk0 j h0]at hj;cases hj
    new:=new
    on:=fun j h1 h2=>by
     have h2:j<st.γ.num:=h2;have:=E.n0;omega
    fin:=fun j h1 h2 _=>by
     have h2:(st.γ.wk j).wg≠ .idle:=h2;rw[wk0 j h1]at h2;exact absurd rfl h2
    all:=fun hm=>by
     have hm:MW.sp=.wt\/MW.sp=.rg\/MW.sp=.lI:=hm;simp at hm
    uh:=by
     show yO .sp (dF WG.cd (NS st.γ s) s) (dF (·== .d2) (NS st.γ s) s) (dF (·== .d3) (NS st.γ s) s) (dF (·== .d4) (NS st.γ s) s) 0 0;rw[ak7 WG.cd rfl,ak7 (·== .d2) rfl,ak7 (·== .d3) rfl,ak7 (·== .d4) rfl];simp only[yO];exact⟨trivial,trivial,trivial,trivial,trivial⟩}
  ·refine⟨fun g b hb=>?_,fun k k1 k2=>?_,fun k k1 _=>?_,fun g hg off ho=>?_,fun g hg=>?_,fun j hj=>absurd hj (jL j),fun j h0 hj=>?_,fun _ g off o1 o2=>?_⟩
   ·refine⟨⟨s.n,fun hx=>hx.2 ?_⟩,3,fun hx=>?_⟩
    ·rw[Dy];rcases hb with rfl|rfl|rfl|rfl
     ·exact .inl rfl
     ·exact .inr (.inl rfl)
     ·exact .inr (.inr ⟨.inl rfl,fun k hk=>⟨fun e=>by have:=(fU e).2;omega,fun e=>by have:=(fU e).2;omega⟩⟩)
     ·exact .inr (.inr ⟨.inr rfl,fun k hk=>⟨fun e=>by have:=(fU e).2;omega,fun e=>by have:=(fU e).2;omega⟩⟩)
    ·rcases hx with hx|⟨_,off,ho,e⟩
     ·exact A.er _ _ _ (ex0 b hb 3) hx
     ·have:=(fU e).2;omega
   ·have k2:s.n0+k<st.γ.num:=k2;have:=E.n0;omega
   ·refine⟨⟨J3 k,fun hx=>?_⟩,exR k,fun hx=>?_⟩
    ·rw[Dy]at hx;rcases hx with hx|hx|⟨_,hx⟩
     ·exact E.ne.2.1 (Option.some.inj hx).symm
     ·exact E.ne.2.2.2.1 (Option.some.inj hx).symm
     ·exact(hx k k1).1 rfl
    ·rw[Dy]at hx;rcases hx with hx|hx|⟨_,hx⟩
     ·exact E.ne.2.2.1 (Option.some.inj hx).symm
     ·exact E.ne.2.2.2.2.1 (Option.some.inj hx).symm
     ·exact(hx k k1).2 rfl
   ·rw[aF9 g hg];exact .inr ⟨rfl,off,ho,rfl⟩
   ·rw[aF9 g hg];exact⟨fun off a b=>⟨rfl,.inl ⟨off,a,b,rfl⟩⟩,fun off a=>⟨rfl,.inr ⟨off,a,rfl⟩⟩⟩
   ·have hj:(st.γ.wk j).syn=true:=hj;rw[wk0 j h0]at hj;cases hj
   ·refine⟨fun hx=>hx.2 (.inl rfl),fun hx=>?_,fun _ hx=>?_⟩
    ·obtain⟨_,⟨off',a,b,e⟩|⟨off',a,e⟩⟩:=hx
     ·have:=(fU e).2;omega
     ·exact E.ne.1 (fU e).1
    ·rcases hx with hx|⟨_,off',ho,e⟩
     ·exact A.er _ _ _ (exG off) hx
     ·have:=(fU e).2;omega
  ·refine⟨fun _ _ g hg off _ _=>?_,fun h1=>(by cases h1),fun j h1 h2=>?_⟩
   ·rw[aF9 g hg];exact h.base.tr.ex 0 _ (exG off)
   ·have h2:j<st.γ.num:=h2;have:=E.n0;omega
 ·have nl:Live j st->st.γ.num<=j:=fun hl=>by
   refine Nat.le_of_not_lt fun hlt=>?_
   rcases hl with hl|hl
   ·exact hj hl
   ·exact(ao7 j (by omega) hlt).elim hl.1 hl.2
  have idle:(st.γ.wk j).wg≠ .lv->(st.γ.wk j).wg≠ .gone/\(st.γ.wk j).wg≠ .idle->False:=fun a b=>by
   by_cases hlt:j<st.γ.num
   ·exact(ao7 j (by omega) hlt).elim a b.1
   ·exact b.2 (by rw[new j (by omega)];rfl)
  refine⟨Nat.le_refl _,fun hl l hx=>?_,fun hl l hx=>?_,fun _ b _=>rfl,fun _=>rfl,fun e=>absurd e hj,fun hx=>?_,fun _ a b _ _=>(idle a b).elim,fun e=>absurd e hj,fun _ a b _ _ _ _ _ _=>(idle a b).elim,fun _ hx=>absurd hx (jL j),fun _ hx hg=>?_,Nat.le_refl _⟩
  ·have:=h.base.pool j l (.inl hx);have:=nl hl;omega
  ·have:=h.base.pool j l (.inr (.inl hx));have:=nl hl;omega
  ·rcases hx with hx|hx
   ·exact absurd hx hj
   ·exact(idle hx.1 hx.2).elim
  ·exact(idle (by rw[hg];simp) (by rw[hg];simp)).elim
end
end
section
def aH5(γ:aJ)(s:aO)(size:Nat):Nat->Loc->Prop:=fun g l=>g=0/\l.isMemory=true/\∃b,fE l=some b/\b<size/\¬γ.dead b/\b≠s.Wg
def jnG(γ:aJ)(s:aO)(size:Nat):aJ:={γ with sc:=none,mw:=.solo,ex:=aH5 γ s size,rd:=fun _ _=>False,sh:=fun _ _=>False,dead:=fun b=>γ.dead b\/b=s.Wg}
theorem wZ{p:WG->Bool}{γ:aJ}{s:aO}(h:dF p γ s=0){j:Nat}(h1:s.n0<=j)(h2:j<s.n0+s.n):p (γ.wk j).wg=false:=by
 cases hp:p (γ.wk j).wg with
 |false=>rfl
 |true=>have:=wE (p:=p) h1 h2 hp;omega
section
variable{q:ig}{s:aO}
theorem Xn{st:St aJ}(c:dX q s st)(hmw:st.γ.mw=.lI):st.γ.num=s.n0+s.n/\∀j,s.n0<=j->j<st.γ.num->(st.γ.wk j).wg=.lv\/(st.γ.wk j).wg=.gone:=by
 have hnum:=c.all (.inr (.inr hmw));refine⟨hnum,fun j h1 h2=>?_⟩;have w:=c.uh;rw[hmw]at w;obtain⟨w1,_,_,w2,w3,w4⟩:=w;have a1:=wZ w1 h1 (by omega);have a2:=wZ w2 h1 (by omega);have a3:=wZ w3 h1 (by omega);have a4:=wZ w4 h1 (by omega);have a5:=c.on j h1 h2;cases hw:(st.γ.wk j).wg<;>rw[hw]at a1 a2 a3 a4 a5<;>first|exact .inl rfl|exact .inr rfl|(simp[WG.cd]at a1;done)|(simp at a2;done)|(simp at a3;done)|(simp at a4;done)|(simp at a5;done)
theorem Inv.join{st:St aJ}(h:Inv q st)(hs:st.γ.sc=some s)(hmw:st.γ.mw=.lI)(hd:st.γ.dm=0)(fn:FuncId)(pos:String):
  Inv q ⟨st.w,st.t++MemOp.ofEvents 0 fn pos #[⟨.mark (.acquire (stA s.Wg)),false,true⟩],jnG st.γ s st.w.heap.size⟩/\∀j,j≠0->Rl j st ⟨st.w,st.t++MemOp.ofEvents 0 fn pos #[⟨.mark (.acquire (stA s.Wg)),false,true⟩],jnG st.γ s st.w.heap.size⟩:=by
 obtain⟨c,p,T⟩:=h.aZ s hs;have A:=h.base.tr.Ic;have n0:=c.n0;have hl:=c.SS;have pos':=h.base.pos;obtain⟨hnum,lv⟩:=Xn c hmw;have hold:st.γ.old=s.n0:=by unfold aJ.old;rw[hs]
 have hold':(jnG st.γ s st.w.heap.size).old=st.γ.num:=rfl;have all:∀j,0<j->j<st.γ.num->(st.γ.wk j).wg=.lv\/(st.γ.wk j).wg=.gone:=fun j a b=>by
  rcases Nat.lt_or_ge j s.n0 with hj|hj
  ·exact h.base.old j a (by rw[hold];exact hj)
  ·exact lv j hj b
 obtain⟨nd1,nd2,nd3⟩:=h.base.dsc s hs;have hops:∀op∈MemOp.ofEvents 0 fn pos #[⟨.mark (.acquire (stA s.Wg)),false,true⟩],op.g=0/\op.act.touch?=none/\op.act=.mark (.acquire (stA s.Wg)):=by
  intro op ho;obtain⟨e,he,rfl⟩:=dZ ho;simp at he;subst he;exact⟨rfl,rfl,rfl⟩
 have hq:(st.t++MemOp.ofEvents 0 fn pos #[⟨.mark (.acquire (stA s.Wg)),false,true⟩])[st.t.size]?=some {g:=0,fn,pos,act:=.mark (.acquire (stA s.Wg))}:=by
  rw[wK];simp[MemAct.ofEvent]
 generalize hu:MemOp.ofEvents 0 fn pos #[⟨.mark (.acquire (stA s.Wg)),false,true⟩]=u at hops hq ⊢;have hd0:Deaf st.t 0=0:=by rw[h.base.dfm,hd]
 have hheard:(st.t++u).heard st.t.size:=⟨0,by simp only[Trace.g?,hq];rfl,by rw[deaf_old (Nat.le_refl _)];exact hd0⟩;have nt:∀op∈u,op.act.touch?=none:=fun op ho=>(hops op ho).2.1
 have told:∀{i:Nat} {a:Touch},touchAt (st.t++u) i=some a->i<st.t.size/\touchAt st.t i=some a:=by
  intro i a ha;rcases eu ha with h1|⟨_,op,hop,_,hxa⟩
  ·exact h1
  ·rw[nt op hop]at hxa;cases hxa
 have gold:∀{i g:Nat},i<st.t.size->((st.t++u).g? i=some g↔st.t.g? i=some g):=fun hi=>by simp only[Trace.g?,getElem?_append_old hi]
 have norel:∀k a,(st.t++u).act? k=some (.mark (.release a))->∀i,i<=k->st.t.g? i=some 0:=fun k a e=>by
  obtain⟨op,ho,hoa⟩:=Option.map_eq_some_iff.1 e;rcases getElem?_append_cases ho with⟨_,h1⟩|⟨_,h1⟩
  ·exact h.base.tr.norel k op h1 a hoa
  ·rw[(hops op h1).2.2]at hoa;cases hoa
 have edge:∀j,s.n0<=j->j<st.γ.num->∃r,RelBy (stA s.Wg) st.t j r/\(∀i a,r<i->st.t.g? i=some j->touchAt st.t i=some a->fE a.loc=some s.Wg)/\HappensBefore (st.t++u) r st.t.size:=fun j h1 h2=>by
  obtain⟨r,r1,r2⟩:=T.rel j h1 h2 (by rcases lv j h1 h2 with e|e<;>rw[e]<;>simp);have hr:=lt_of_act? r1.act;refine⟨r,r1,r2,.single (.inr ⟨.marked hr (.inr ((act?_old hr).trans r1.act)) (by simp only[Trace.act?,hq];rfl) (fun k hk _ e=>by have:=norel k _ e r (by omega);rw[r1.g]at this;have:=Option.some.inj this;have:=n0.1;omega),(heard_old hr).2 r1.heard,hheard⟩)⟩
 have upto:∀{i j:Nat},st.t.g? i=some j->s.n0<=j->j<st.γ.num->(∀r,RelBy (stA s.Wg) st.t j r->(∀i a,r<i->st.t.g? i=some j->touchAt st.t i=some a->fE a.loc=some s.Wg)->i<=r)->HappensBefore (st.t++u) i st.t.size:=by
  intro i j hg h1 h2 hle;obtain⟨r,r1,r2,r3⟩:=edge j h1 h2;have hr:=lt_of_act? r1.act;rcases Nat.lt_or_ge i r with hlt|hge
  ·exact .trans (.single (.inl ⟨hlt,j,(gold (by omega)).2 hg,(gold hr).2 r1.g⟩)) r3
  ·have:=hle r r1 r2;obtain rfl:i=r:=by omega
   exact r3
 have bD1:∀{i g:Nat},st.t.g? i=some g->g<st.γ.num:=fun hg=>by
  obtain⟨op,ho,hog⟩:=Option.map_eq_some_iff.1 hg;have:=h.base.tr.gs _ op ho;omega
 have known:∀i a,touchAt st.t i=some a->a.loc.isMemory=true->(∃b,fE a.loc=some b/\(st.γ.dead b\/b=s.Wg))\/Knows (st.t++u) 0 i:=fun i a ha hm=>by
  rcases h.base.know i a ha hm with⟨b,h1,h2⟩|h1|⟨g,h1,h2⟩
  ·exact .inl ⟨b,h1,.inl h2⟩
  ·exact .inr (h1.app _)
  ·rw[hold]at h2;by_cases hb:fE a.loc=some s.Wg
   ·exact .inl ⟨_,hb,.inr rfl⟩
   ·refine .inr ⟨st.t.size,_,hq,rfl,.inr (upto h1 h2 (bD1 h1) fun r _ r2=>?_)⟩;refine Nat.le_of_not_lt fun hlt=>hb (r2 i a hlt h1 ha)
 have A':QC st.w.heap.size (aH5 st.γ s st.w.heap.size) (fun _ _=>False) (fun _ _=>False):=by
  refine⟨fun g g' l h1 h2=>h1.1.trans h2.1.symm,fun g g' l _ h2=>h2,fun _ _ _ _ x=>x,fun _ _ _ _ x=>x,fun g l h1 b hb=>?_,fun _ _ x=>x.elim,fun _ _ x=>x.elim,fun g l h1=>?_⟩
  ·obtain⟨_,_,b',hb',hlt,_⟩:=h1;rw[hb]at hb';cases hb';exact hlt
  ·rcases h1 with h1|h1|h1
   ·exact h1.2.1
   ·exact h1.elim
   ·exact h1.elim
 have htr:Ie (st.t++u) st.γ.num st.w.heap.size (aH5 st.γ s st.w.heap.size) (fun _ _=>False) (fun _ _=>False):=by
  refine⟨fun said=>?_,A',fun g l hl=>?_,fun g l hl=>hl.elim,fun _ _ x=>x.elim,fun i a ha b hb=>(h.base.tr.low i a (told ha).2 b hb).imp id fun k g hg=>(k g hg).app _,fun i op hi=>?_,fun i op hi a=>?_⟩
  ·refine noRace_append (g:=0) (h.base.tr.nr said) (fun op ho=>(hops op ho).1) fun i a _ op hop b hb _=>?_
   rw[nt op hop]at hb;cases hb
  ·obtain⟨rfl,hm,b,hb,_,hnd,hne⟩:=hl;intro i a ha e;obtain⟨_,ha'⟩:=told ha;rcases known i a ha' (by rw[e];exact hm)with⟨b',h1,h2⟩|h1
   ·rw[e,hb]at h1;obtain rfl:=Option.some.inj h1;exact(h2.elim hnd hne).elim
   ·exact h1
  ·rcases getElem?_append_cases hi with⟨_,h1⟩|⟨_,h1⟩
   ·exact h.base.tr.gs i op h1
   ·rw[(hops op h1).1];exact pos'
  ·rcases getElem?_append_cases hi with⟨_,h1⟩|⟨_,h1⟩
   ·intro e k hk;have:=h.base.tr.norel i op h1 a e k hk;have hlt:k<st.t.size:=Nat.lt_of_le_of_lt hk (lt_size_of_getElem? h1);exact(gold hlt).2 this
   ·rw[(hops op h1).2.2];simp
 have bl1:Deaf (st.t++u) 0=Deaf st.t 0:=by
  rw[<-hu,Deaf_own];exact cu fun e he=>by simp at he;subst he;simp
 refine⟨⟨⟨pos',htr,h.base.Nu,bl1.trans h.base.dfm,fun j hj hj2=>?_,h.base.gone,h.base.os,h.base.out,fun j a b=>all j a (by rw[hold']at b;exact b),fun b hb=>?_,fun i a ha hm=>?_,fun i g hg hne hlt hc=>?_,fun g l hl=>?_,fun j hj=>?_,h.base.nw,fun i a ha hk=>?_,fun s' hs'=>by cases hs'⟩,?_,fun s' hs'=>by cases hs'⟩,fun j hj=>?_⟩
 ·exact(Deaf_other st.t (by omega:(0:Nat)≠j) _ fun op ho=>(hops op ho).1).trans (h.base.TL j hj hj2)
 ·rcases hb with hb|rfl
  ·exact h.base.dead b hb
  ·exact hl.2.1
 ·obtain⟨_,ha'⟩:=told ha;exact(known i a ha' hm).imp id .inl
 ·replace hlt:g<st.γ.num:=hlt;have hc:(st.t++u).counts i:=hc;rcases Nat.lt_or_ge i st.t.size with hi|hi
  ·have hg':=(gold hi).1 hg;have hc':st.t.counts i:=by rw[counts_old hi]at hc;exact hc
   rcases Nat.lt_or_ge g s.n0 with h0|h0
   ·obtain⟨j,h1,h2⟩:=h.base.ho i g hg' hne (by rw[hold];exact h0) hc';have hj:j<st.t.size:=by
     unfold Trace.g? at h1;obtain⟨op,ho,_⟩:=Option.map_eq_some_iff.1 h1;exact lt_size_of_getElem? ho
    exact⟨j,(gold hj).2 h1,hb_app _ h2⟩
   ·refine⟨st.t.size,by show(st.t++u).g? _=_;simp only[Trace.g?,hq];rfl,upto hg' h0 hlt fun r r1 _=>?_⟩;exact Nat.le_of_not_lt fun hlt'=>r1.after i hlt' hg' hc'
  ·exact absurd hc (kD nt hi).1
 ·show g<st.γ.num;rcases hl with hl|hl|hl
  ·rw[hl.1];exact pos'
  ·exact hl.elim
  ·exact hl.elim
 ·replace hj:j<st.γ.num:=hj;show(st.γ.wk j).mx=.fresh\/(st.γ.wk j).mx=.out;rcases Nat.lt_or_ge j s.n0 with h0|h0
  ·exact h.base.Xr j (by rw[hold];exact h0)
  ·exact(c.fin j h0 (by rcases lv j h0 hj with e|e<;>rw[e]<;>simp) (by rcases lv j h0 hj with e|e<;>rw[e]<;>simp)).2.2
 ·obtain⟨hlt,ha'⟩:=told ha;exact(gold hlt).2 (h.base.said i a ha' hk)
 ·show none=none↔MW.solo=.solo;simp
 ·have nl:Live j st->st.γ.num<=j:=fun hl=>by
   refine Nat.le_of_not_lt fun hlt=>?_
   rcases hl with hl|hl
   ·exact hj hl
   ·exact(all j (by omega) hlt).elim hl.1 hl.2
  have idle:(st.γ.wk j).wg≠ .lv->(st.γ.wk j).wg≠ .gone/\(st.γ.wk j).wg≠ .idle->False:=fun a b=>by
   by_cases hlt:j<st.γ.num
   ·exact(all j (by omega) hlt).elim a b.1
   ·exact b.2 (by rw[h.base.nw j (by omega)];rfl)
  refine⟨Nat.le_refl _,fun hl l hx=>?_,fun hl l hx=>?_,fun _ b _=>rfl,fun _=>rfl,fun e=>absurd e hj,fun hx=>?_,fun _ a b _ _=>(idle a b).elim,fun e=>absurd e hj,fun _ a b _ _ _ _ _ _=>(idle a b).elim,fun _ _=>rfl,fun _ hx hg=>?_,Nat.le_refl _⟩
  ·have:=h.base.pool j l (.inl hx);have:=nl hl;omega
  ·have:=h.base.pool j l (.inr (.inl hx));have:=nl hl;omega
  ·rcases hx with hx|hx
   ·exact absurd hx hj
   ·exact(idle hx.1 hx.2).elim
  ·exact(idle (by rw[hg];simp) (by rw[hg];simp)).elim
end
end
section
structure jX(dm num:Nat)(K:List (Nat×Obj))(st:St aJ):Prop where
 sc:st.γ.sc=none
 mw:st.γ.mw=.solo
 dm:st.γ.dm=dm
 num:st.γ.num=num
 fz:∀b o,(b,o)∈K->st.w.heap[b]?=some o/\((∀off,st.γ.ex 0 (ca b off))\/∀off,st.γ.rd 0 (ca b off))
 nd:∀b o,(b,o)∈K->¬st.γ.dead b
section
variable{q:ig}{s:aO}{dm num:Nat}{K:List (Nat×Obj)}
theorem jX.rely{st ah:St aJ}(h:jX dm num K st)(hr:Rl 0 st ah):jX dm num K ah:=by
 obtain⟨m1,m2,m3,m4⟩:=hr.main rfl;refine⟨(hr.sc (.inl rfl)).trans h.sc,m1.trans h.mw,m2.trans h.dm,m3.trans h.num,fun b o hb=>?_,fun b o hb hx=>h.nd b o hb ((m4 b).1 hx)⟩;obtain⟨h1,h2⟩:=h.fz b o hb;exact⟨(hr.blk (.inl rfl) b h2).trans h1,h2.imp (fun x off=>hr.ex (.inl rfl) _ (x off)) fun x off=>hr.rd (.inl rfl) _ (x off)⟩
theorem Enter.rely{st ah:St aJ}(E:Enter q s st)(hr:Rl 0 st ah):Enter q s ah:=by
 obtain⟨_,_,m3,m4⟩:=hr.main rfl;have b1:=hr.blk (.inl rfl) s.Gb (.inl (E.ex _ (.inl rfl)));have b2:=hr.blk (.inl rfl) s.Wg (.inl (E.ex _ (.inr (.inl rfl))));have b3:=hr.blk (.inl rfl) s.Zb (.inl (E.ex _ (.inr (.inr (.inl rfl)))));have b4:=hr.blk (.inl rfl) s.Rb (.inl (E.ex _ (.inr (.inr (.inr rfl)))));refine⟨E.n0.trans m3.symm,E.n9,by rw[b1];exact E.gb,E.wg.of_block b2,E.zb.block b3 fun _ _ h=>h,E.rb.block b4 fun _ _ h=>h,E.ne,fun b hb off=>hr.ex (.inl rfl) _ (E.ex b hb off),?_⟩;obtain⟨a,b,c⟩:=E.nd;exact⟨fun x=>a ((m4 _).1 x),fun x=>b ((m4 _).1 x),fun x=>c ((m4 _).1 x)⟩
theorem TT.enter{P:Program}(hP:q.P=P){Ch:Nat->Goroutine->St aJ->Prop}{g g':Goroutine}{st:St aJ}(hA:jX 0 num K st)(E:Enter q s st)(hK:∀b o,(b,o)∈K->b≠s.Gb/\b≠s.Wg/\b≠s.Zb/\b≠s.Rb)(hstep:∀w,stepG P (0==0) g w=.go g' w #[])(hrun:g'.status=.running)
  (h:∀ay,nP s .sp 0 num K ay->Inv q ay->TT (cfg q) 0 Ch g' ay):TT (cfg q) 0 Ch g st:=by
 subst hP;refine TT.act fun ah hr hi=>?_
 have au:=hA.rely hr;obtain⟨k1,k2⟩:=hi.enter au.sc au.dm (E.rely hr);have e:ah.t++MemOp.ofEvents 0 g.frame.fn g.frame.place #[]=ah.t:=by rw[ofEvents_none,Array.append_empty]
 refine⟨fun hl=>hl.1 rfl,g',ah.w,#[],NS ah.γ s,hstep ah.w,hrun,rfl,by rw[e];exact⟨k1,k2⟩,.inr fun k _ hw=>absurd au.sc hw.1,h _ ⟨rfl,rfl,au.dm,au.num,fun b o hb=>?_,au.nd⟩ (by rw[e];exact k1)⟩;obtain⟨f1,f2⟩:=au.fz b o hb;obtain⟨a1,a2,a3,a4⟩:=hK b o hb;refine⟨f1,f2.imp (fun f off=>⟨f off,fun hx=>?_⟩) fun f off=>.inl (f off)⟩;rw[Dy]at hx;rcases hx with hx|hx|⟨hx|hx,_⟩
 ·exact a1 (Option.some.inj hx)
 ·exact a2 (Option.some.inj hx)
 ·exact a3 (Option.some.inj hx)
 ·exact a4 (Option.some.inj hx)
def FU(q:ig)(s:aO)(w:World):Prop:=∃C:Array Value,w.heap[s.Gb]?=some (.cells C q.tG)/\C.size=16/\C[0]?=some s.g0/\C[1]?=some s.g1/\C[2]?=some s.g2/\∀k,3<=k->k<16->∃(kk:IntKind) (x:Int),C[k]?=some (.int kk x)
theorem kR.done{γ:aJ}{w:World}(h:kR q s γ w):FU q s w:=by
 obtain⟨C,h1,h2,h3,h4,h5,h6,h7,h8,h9,_⟩:=h;refine⟨C,h1,h2,h3,h4,h5,fun k k1 k2=>?_⟩;by_cases e3:k=3
 ·subst e3;exact⟨_,_,h6⟩
 by_cases e4:k=4
 ·subst e4;exact⟨_,_,h7⟩
 by_cases e5:k=5
 ·subst e5;exact⟨_,_,h8⟩
 ·obtain⟨x,hx⟩:=h9 k (by omega) k2;exact⟨_,x,hx⟩
theorem TT.join{P:Program}(hP:q.P=P){Ch:Nat->Goroutine->St aJ->Prop}{g:Goroutine}{st:St aJ}(hA:nP s .lI 0 num K st)
  (h:∀ah,nP s .lI 0 num K ah->Inv q ah->dX q s ah->∃g',stepG P (0==0) g ah.w=.go g' ah.w #[⟨.mark (.acquire (stA s.Wg)),false,true⟩]/\g'.status=.running/\
   ∀ay,jX 0 num K ay->Inv q ay->FU q s ay.w->
    (∃Z:Array Value,ay.w.heap[s.Zb]?=some (.cells Z q.tZ)/\Z.size=s.n/\∀k,k<s.n->Z[k]?=some (s.zv k))->(∃R:Array Value,ay.w.heap[s.Rb]?=some (.cells R q.tR)/\R.size=s.n/\∀k,k<s.n->R[k]?=some (s.rv k))->
    (∀l b,l.isMemory=true->fE l=some b->b<ay.w.heap.size->¬ay.γ.dead b->ay.γ.ex 0 l)->¬ay.γ.dead s.Gb->¬ay.γ.dead s.Zb->¬ay.γ.dead s.Rb->TT (cfg q) 0 Ch g' ay):TT (cfg q) 0 Ch g st:=by
 subst hP;refine TT.act fun ah hr hi=>?_
 have au:=hA.rely hr;have c:=(hi.aZ s au.sc).c;obtain⟨g',h1,h2,h3⟩:=h ah au hi c;obtain⟨k1,k2⟩:=hi.join au.sc au.mw au.dm g.frame.fn g.frame.place;obtain⟨hnum,lv⟩:=Xn c au.mw;have fin:=fun j a b=>c.fin j a (by rcases lv j a b with e|e<;>rw[e]<;>simp) (by rcases lv j a b with e|e<;>rw[e]<;>simp)
 obtain⟨nd1,nd2,nd3⟩:=hi.base.dsc s au.sc;refine⟨fun hl=>hl.1 rfl,g',ah.w,_,jnG ah.γ s ah.w.heap.size,h1,h2,rfl,⟨k1,k2⟩,.inr fun k hk hw=>?_,h3 _ ⟨rfl,rfl,au.dm,au.num,fun b o hb=>?_,fun b o hb hx=>hx.elim (au.nd b o hb) (au.apart hi hb).2.1⟩ k1 c.gb.done ?_ ?_ (fun l b m1 m2 m3 m4=>⟨rfl,m1,b,m2,m3,fun hx=>m4 (.inl hx),fun hx=>m4 (.inr hx)⟩) (fun hx=>hx.elim nd1 c.ne.1) (fun hx=>hx.elim nd2 c.ne.2.2.2.1.symm) fun hx=>hx.elim nd3 c.ne.2.2.2.2.1.symm⟩
 ·obtain⟨_,w2⟩:=hw;rcases w2 with⟨a,_⟩|⟨a,b,d,f⟩
  ·exact absurd a hk
  ·exfalso;by_cases hlt:k<ah.γ.num
   ·rcases Nat.lt_or_ge k s.n0 with h0|h0
    ·rcases hi.base.old k (by omega) (by unfold aJ.old;rw[au.sc];exact h0)with e|e<;>rw[f]at e<;>cases e
    ·rcases lv k h0 hlt with e|e<;>rw[f]at e<;>cases e
   ·rw[hi.base.nw k (by omega)]at f;cases f
 ·obtain⟨f1,f2⟩:=au.fz b o hb;obtain⟨a1,a2,a3,a4⟩:=au.apart hi hb;exact⟨f1,.inl fun off=>⟨rfl,rfl,b,rfl,lt_of_block f1,au.nd b o hb,a2⟩⟩
 ·obtain⟨Z,z1,z2,_,z4⟩:=c.zb;exact⟨Z,z1,z2,fun k hk=>z4 k hk (fin _ (by omega) (by omega)).1⟩
 ·obtain⟨Z,z1,z2,_,z4⟩:=c.rb;exact⟨Z,z1,z2,fun k hk=>z4 k hk (fin _ (by omega) (by omega)).2.1⟩
theorem TT.by1{P:Program}(hP:q.P=P){Ch:Nat->Goroutine->St aJ->Prop}{g g':Goroutine}{st:St aJ}(hA:nP s .rg 1 num K st)(hnum:num=s.n0+s.n)(hoff:g.offers=none)(hs:g'.status=.running)
  (hblk:∀w:World,w.cell? (smA s.Wg)=some (.int .u32 0)->stepG P (0==0) g w=.go {g with status:=.blocked} w #[])
  (hgo:∀w:World,w.cell? (smA s.Wg)=some (.int .u32 1)->w.frozen? (smA s.Wg)=false->stepG P (0==0) g w=.go g' (w.setCell (smA s.Wg) (.int .u32 0)) (semEvents (smA s.Wg)))
  (h:∀ay,nP s .lI 1 num K ay->Inv q ay->TT (cfg q) 0 Ch g' ay):TT (cfg q) 0 Ch g st:=by
 subst hP;refine TT.step fun ah hr hi=>⟨fun hl=>absurd rfl hl.1,?_⟩
 have hr:Rl 0 st ah:=hr;have hi:Inv q ah:=hi;have au:=hA.rely hr;have c:=(hi.aZ s au.sc).c;have hL:=c.uh;rw[au.mw]at hL;by_cases h0:ah.γ.gm=0
 ·have cell:=c.qV.cellSm;rw[h0]at cell;unfold iI;rw[show stepG (cfg q).P (0==0) g ah.w=_ from hblk ah.w cell];exact .inl ⟨rfl,hoff,rfl,rfl,by rw[au.sc];simp,.inl ⟨rfl,au.mw,h0⟩⟩
 ·obtain⟨h1,h2,h3,h4,h5,h6⟩:dF WG.cd ah.γ s=0/\ah.γ.gs=0/\ah.γ.gm=1/\dF (·== .d2) ah.γ s=0/\dF (·== .d3) ah.γ s=0/\dF (·== .d4) ah.γ s=0:=by
   rcases hL with x|x|x|x
   ·exact absurd x.2.2.1 h0
   ·exact absurd x.2.2.1 h0
   ·exact absurd x.2.2.1 h0
   ·exact x
  have hw:=c.qV;rw[h2,h3]at hw;have hstep:=hgo ah.w hw.cellSm (hw.thaw 1);have W:=aside_setCell ah.w (smA s.Wg) (.int .u32 0);have hev:∀e∈semEvents (smA s.Wg),EvM s e:=by
   intro e he;unfold semEvents at he;simp at he;rcases he with rfl|rfl|rfl|rfl
   ·exact .inl ⟨.disable,rfl,by simp⟩
   ·exact .inr (.inl ⟨1,false,rfl,by omega⟩)
   ·exact .inr (.inl ⟨1,true,rfl,by omega⟩)
   ·exact .inl ⟨.enable,rfl,by simp⟩
  obtain⟨k1,k2⟩:=hi.PV au.sc (l7:=.lI) (gs₁:=0) (dV:=0) hev W.size (fun b hb=>W.block b hb) (by rw[W.os];exact .refl _) W.output (hw.setSm 0) (by simp) (fun _=>au.num.trans hnum) ⟨h1,rfl,rfl,h4,h5,h6⟩ g.frame.fn g.frame.place;have hdb:deafBehind ah.γ.dm (semEvents (smA s.Wg))=1:=by rw[au.dm];rfl
  refine iI.own (C:=cfg q) (γ':={ah.γ with mw:=.lI,dm:=deafBehind ah.γ.dm (semEvents (smA s.Wg)),gs:=0,gm:=0}) hstep hs k1 rfl k2 (.inr fun k hk hw=>?_) (h _ (au.next hi rfl rfl hdb rfl (fun _ h=>h) (fun _ h=>h) (fun _ h=>h) fun b _ hb _ _ _=>W.block b hb) k1);obtain⟨w1,w2⟩:=hw;exact⟨w1,w2.imp (fun⟨a,_⟩=>absurd a hk) id⟩
theorem TT.jH{P:Program}(hP:q.P=P){Ch:Nat->Goroutine->St aJ->Prop}{mw:MW}{g:Goroutine}{st:St aJ}(hA:nP s mw dm num K st)(n:Nat)
  (h:∀w:World,(∃v,w.cell? ⟨s.Wg,0,none⟩=some v)/\(∃v,w.cell? ⟨s.Wg,1,none⟩=some v)->Goes P (0==0) (fun _ w₁=>(∃v,w₁.cell? ⟨s.Wg,0,none⟩=some v)/\∃v,w₁.cell? ⟨s.Wg,1,none⟩=some v) DC0 (fun g' _=>g'.status=.running/\TT (cfg q) 0 Ch g' st) n g w):TT (cfg q) 0 Ch g st:=by
 subst hP;exact TT.step fun ah hr hi=>by
  have hr:Rl 0 st ah:=hr;have hi:Inv q ah:=hi;have f:∀ah,Rl 0 st ah->Inv q ah->(∃v,ah.w.cell? ⟨s.Wg,0,none⟩=some v)/\∃v,ah.w.cell? ⟨s.Wg,1,none⟩=some v:=fun ah hr hi=>⟨⟨_,((hi.aZ s (hA.rely hr).sc).c.qV.cellSt)⟩,⟨_,((hi.aZ s (hA.rely hr).sc).c.qV.cellSm)⟩⟩
  exact(TT.walk (C:=cfg q) FC (F:=fun w₁=>(∃v,w₁.cell? ⟨s.Wg,0,none⟩=some v)/\∃v,w₁.cell? ⟨s.Wg,1,none⟩=some v) f (fun ah hr hi hl=>hl.1 rfl) n g ah.w (h ah.w (f ah hr hi))).elim ah hr hi
theorem aH{s:aO}{w₀ w₁:World}(_:(∃v,w₀.cell? ⟨s.Wg,0,none⟩=some v)/\∃v,w₀.cell? ⟨s.Wg,1,none⟩=some v)(r:(∃v,w₁.cell? ⟨s.Wg,0,none⟩=some v)/\∃v,w₁.cell? ⟨s.Wg,1,none⟩=some v):(∃v,w₁.cell? ⟨s.Wg,0,none⟩=some v)/\∃v,w₁.cell? ⟨s.Wg,1,none⟩=some v:=r
def AnyW(w:World):Prop:=True
theorem TT.qw{P:Program}(hP:q.P=P){Ch:Nat->Goroutine->St aJ->Prop}{g:Goroutine}{st:St aJ}(n:Nat)(h:∀w:World,AnyW w->Goes P (0==0) (fun _ w₁=>AnyW w₁) DC0 (fun g' _=>g'.status=.running/\TT (cfg q) 0 Ch g' st) n g w):TT (cfg q) 0 Ch g st:=by
 subst hP;exact TT.step fun ah hr hi=>(TT.walk (C:=cfg q) FC (F:=fun w₁=>AnyW w₁) (fun _ _ _=>trivial) (fun ah hr hi hl=>hl.1 rfl) n g ah.w (h ah.w trivial)).elim ah hr hi
theorem eY{w₀ w₁:World}(_:AnyW w₀)(r:AnyW w₁):AnyW w₁:=r
end
end
end Cc
namespace Cc
open Go.Conc Go.ConcN
section
noncomputable def gu(w:World)(vis:Nat->Option Nat):World:=
 {w with heap:=Array.ofFn (n:=w.heap.size) fun b=>match vis b.1,w.heap[b.1]? with
   |some n,some (.cells C e _)=>.cells (C.extract 0 n) e (0,n)
   |_,_=>.coro none}
def yC(vis:Nat->Option Nat):Nat->Option Nat:=fun b=>if(vis b).isSome then some b else none
def AA(vis:Nat->Option Nat):Nat->Md:=fun b=>match vis b with|some n=>.read n|none=>.all
theorem uJ(w:World)(vis:Nat->Option Nat):(gu w vis).heap.size=w.heap.size:=by simp[gu]
theorem lU{w:World}{vis:Nat->Option Nat}{b n:Nat}{C:Array Value}{e:TypeId}{fz:Nat×Nat}(hv:vis b=some n)(h:w.heap[b]?=some (.cells C e fz)):(gu w vis).heap[b]?=some (.cells (C.extract 0 n) e (0,n)):=by
 have hlt:=lt_of_block h;have he:w.heap[b]=.cells C e fz:=by rw[Array.getElem?_eq_getElem hlt]at h;exact Option.some.inj h
 simp[gu,hlt,hv,he]
theorem KD{w:World}{vis:Nat->Option Nat}{b:Nat}(hv:vis b=none):(gu w vis).heap[b]?=none\/∃x,(gu w vis).heap[b]?=some (.coro x):=by
 rcases Nat.lt_or_ge b w.heap.size with h|h
 ·exact .inr ⟨none,by simp[gu,h,hv]⟩
 ·exact .inl (by simp[gu,h])
theorem rM{vis:Nat->Option Nat}{b n:Nat}(h:vis b=some n):yC vis b=some b:=by simp[yC,h]
theorem pI{vis:Nat->Option Nat}{b c:Nat}(h:yC vis b=some c):b=c/\∃n,vis b=some n:=by
 unfold yC at h;split at h
 ·rename_i e;cases h;exact⟨rfl,Option.isSome_iff_exists.1 e⟩
 ·cases h
section
variable{q:ig}{i:Nat}{S:FuncId->Bool}
def Gj(q:ig)(S:FuncId->Bool)(i:Nat)(vis:Nat->Option Nat)(st:St aJ):Prop:=
 ∀b n,vis b=some n->q.P.globals.size<=b/\((∀off,st.γ.rd i (ca b off))\/(n<=3/\∃s,st.γ.sc=some s/\b=s.Gb))/\
  ∃C e fz,st.w.heap[b]?=some (.cells C e fz)/\n<=C.size/\∀(k:Nat) (v:Value),k<n->C[k]?=some v->VR (fun f=>S f=true) (yC vis) v v
theorem Gj.hr{vis:Nat->Option Nat}{st:St aJ}(h:Gj q S i vis st)(hi:Inv q st):HR q.P.globals.size (fun f=>S f=true) (AA vis) (yC vis) (gu st.w vis) st.w where
 inj:=fun b b' c h1 h2=>(pI h1).1.trans (pI h2).1.symm
 row:=fun b c hb=>by
  obtain⟨rfl,n,hn⟩:=pI hb;obtain⟨-,-,C,e,fz,h1,h2,h3⟩:=h b n hn;refine⟨_,_,lU hn h1,h1,?_⟩;have hsz:(C.extract 0 n).size=n:=by simp;omega
  have hro:AA vis b=.read n:=by simp[AA,hn]
  have:OR (fun f=>S f=true) (AA vis b) (yC vis) (.cells (C.extract 0 n) e (0,(AA vis b).hi (C.extract 0 n).size)) (.cells C e fz):=by
   refine .cells (by rw[hsz];exact h2) (fun k v hk=>?_) (fun x=>by rw[hro]at x;cases x) (fun m hm=>by rw[hro]at hm;cases hm;exact hsz);have hlt:=(Array.getElem?_eq_some_iff.1 hk).1;rw[Array.getElem?_extract]at hk;split at hk
   ·simp at hk;exact⟨v,hk,h3 k v (by omega) hk⟩
   ·cases hk
  rw[hro,Md.hi,hsz]at this
  rwa [hro]
 hole:=fun b hb=>KD (by
  cases hv:vis b with
  |none=>rfl
  |some n=>rw[rM hv]at hb;cases hb)
 low:=fun b c hb=>by obtain⟨rfl,n,hn⟩:=pI hb;exact⟨(h b n hn).1,(h b n hn).1⟩
 gs:=by rw[uJ];exact hi.base.Nu
 gw:=hi.base.Nu
theorem Gj.vis{vis:Nat->Option Nat}{st:St aJ}(h:Gj q S i vis st)(hi:Inv q st)(hlt:i<st.γ.num)(hw:i=0\/(st.γ.wk i).wg=.work/\∃s,st.γ.sc=some s/\s.n0<=i):DW q i (AA vis) (yC vis) st:=by
 refine⟨hlt,hw,fun b c hb=>?_⟩;obtain⟨rfl,n,hn⟩:=pI hb;have hro:AA vis b=.read n:=by simp[AA,hn]
 rw[hro];obtain⟨-,h2,-⟩:=h b n hn;rcases h2 with h2|⟨h3,s,h4,rfl⟩
 ·exact .inl h2
 ·exact .inr (.inr ⟨h3,s,h4,rfl,(hi.aZ s h4).c.head⟩)
theorem Gj.ro{vis:Nat->Option Nat}{st:St aJ}(h:Gj q S i vis st):∀b,(gu st.w vis).heap.size<=b->AA vis b=.all:=fun b hb=>by
 unfold AA;cases hv:vis b with
 |none=>rfl
 |some n=>
  obtain⟨-,-,C,e,fz,h1,-⟩:=h b n hv;have:=lt_of_block h1;rw[uJ]at hb;omega
inductive J4:Value->Prop
 |bool (b:Bool):J4 (.bool b)
 |int (k:IntKind) (n:Int):J4 (.int k n)
 |string (s:ByteArray):J4 (.string s)
 |pointer (a:Option Addr):J4 (.pointer a)
 |slice (a:Option Addr) (l c:Nat):J4 (.slice a l c)
 |nilFunc:J4 .nilFunc
 |func {f:Fn} {x y:Array Value} (h1:∀(i:Nat) (v:Value),x[i]?=some v->J4 v) (h2:∀(i:Nat) (v:Value),y[i]?=some v->J4 v):J4 (.func f x y)
 |agg {x:Array Value} (h:∀(i:Nat) (v:Value),x[i]?=some v->J4 v):J4 (.agg x)
 |tuple {x:Array Value} (h:∀(i:Nat) (v:Value),x[i]?=some v->J4 v):J4 (.tuple x)
def iQ:Nat->Value->Bool
 |_,.bool _|_,.int _ _|_,.string _|_,.pointer _|_,.slice _ _ _|_,.nilFunc=>true
 |d+1,.agg x|d+1,.tuple x=>x.all (iQ d)
 |_,_=>false
theorem oU:∀(d:Nat) (v:Value),iQ d v=true->J4 v
 |0,v,h=>by cases v<;>first|exact .bool _|exact .int _ _|exact .string _|exact .pointer _|exact .slice _ _ _|exact .nilFunc|cases h
 |d+1,v,h=>by
  cases v<;>first
   |exact .bool _
   |exact .int _ _
   |exact .string _
   |exact .pointer _
   |exact .slice _ _ _
   |exact .nilFunc
   |(rename_i x
     have h:x.all (iQ d)=true:=h
     first
      |exact .agg fun i v hv=>oU d v (Array.all_eq_true_iff_forall_mem.1 h v (Array.mem_of_getElem? hv))
      |exact .tuple fun i v hv=>oU d v (Array.all_eq_true_iff_forall_mem.1 h v (Array.mem_of_getElem? hv)))
   |cases h
theorem VR.same{ρ ρ':Nat->Option Nat}(hid:∀b c,ρ b=some c->b=c)(he:Ext ρ ρ'){v v1:Value}(hs:J4 v)(h:VR (fun f=>S f=true) ρ v v)(h':VR (fun f=>S f=true) ρ' v v1):v1=v:=by
 have key:∀{v v':Value},VR (fun f=>S f=true) ρ v v'->v=v'->J4 v->∀v1,VR (fun f=>S f=true) ρ' v v1->v1=v:=by
  intro v v' h;have arr:∀{x x':Array Value},x.size=x'.size->(∀(i:Nat) (v v':Value),x[i]?=some v->x'[i]?=some v'->v=v'->J4 v->∀v1,VR (fun f=>S f=true) ρ' v v1->v1=v)->x=x'->(∀(i:Nat) (v:Value),x[i]?=some v->J4 v)->∀{y:Array Value},x.size=y.size->(∀(i:Nat) (v v':Value),x[i]?=some v->y[i]?=some v'->VR (fun f=>S f=true) ρ' v v')->y=x:=by
   intro x x' hx ih e hs y hy h2;subst e;refine Array.ext hy.symm fun i h1 h3=>?_
   exact ih i _ _ (Array.getElem?_eq_getElem h3) (Array.getElem?_eq_getElem h3) rfl (hs i _ (Array.getElem?_eq_getElem h3)) _ (h2 i _ _ (Array.getElem?_eq_getElem h3) (Array.getElem?_eq_getElem h1))
  induction h with
  |bool b=>intro _ _ v1 h;cases h;rfl
  |int k n=>intro _ _ v1 h;cases h;rfl
  |string s=>intro _ _ v1 h;cases h;rfl
  |nilPtr=>intro _ _ v1 h;cases h;rfl
  |gQ l c=>intro _ _ v1 h;cases h;rfl
  |nilFunc=>intro _ _ v1 h;cases h;rfl
  |junk _ _ _=>intro _ hs;cases hs
  | @ptr b c off sp h=>
   intro _ _ v1 h1;cases h1 with
   |ptr _ _ h2=>
    have e1:=hid _ _ h;subst e1;have:=he _ _ h;rw[h2]at this;cases this;rfl
  | @slice b c off sp l k h=>
   intro _ _ v1 h1;cases h1 with
   |slice _ _ _ _ h2=>
    have e1:=hid _ _ h;subst e1;have:=he _ _ h;rw[h2]at this;cases this;rfl
  | @func f x y x' y' hf hx hy _ _ i1 i2=>
   intro e hs v1 h1;simp only[Value.func.injEq,true_and]at e;cases hs with
   |func s1 s2=>
    cases h1 with
    | @func _ _ _ x1 y1 hf' hx1 hy1 g1 g2=>
     rw[arr hx i1 e.1 s1 hx1 g1,arr hy i2 e.2 s2 hy1 g2]
  | @agg x x' hx _ i1=>
   intro e hs v1 h1;simp only[Value.agg.injEq]at e;cases hs with
   |agg s1=>
    cases h1 with
    |agg hx1 g1=>rw[arr hx i1 e s1 hx1 g1]
  | @tuple x x' hx _ i1=>
   intro e hs v1 h1;simp only[Value.tuple.injEq]at e;cases hs with
   |tuple s1=>
    cases h1 with
    |tuple hx1 g1=>rw[arr hx i1 e s1 hx1 g1]
 exact key h rfl hs v1 h'
theorem ah4{vis:Nat->Option Nat}(b c:Nat)(h:yC vis b=some c):b=c:=(pI h).1
end
end
section
section
variable{q:ig}{i:Nat}
def bm3(q:ig)(i:Nat)(ro:Nat->Md)(bU:St aJ)(ρ:Nat->Option Nat)(st:St aJ):Prop:=
 DW q i ro ρ st/\Inv q st/\(∀b c,ρ b=some c->ro b=.all->bU.w.heap.size<=c)/\Rl i bU st
theorem ai8{bU st:St aJ}(h₀:Inv q bU)(hr:Rl i bU st){w1:World}{t:Trace}(hs:st.w.heap.size<=w1.heap.size)(hb:∀b,b<bU.w.heap.size->w1.heap[b]?=st.w.heap[b]?)(hsc:i≠0->∀s,bU.γ.sc=some s->s.Gb<bU.w.heap.size):
  Rl i bU ⟨w1,t,st.γ.grow i st.w.heap.size w1.heap.size⟩:=by
 have A:=h₀.base.tr.Ic;refine⟨Nat.le_trans hr.size hs,fun hl l h=>.inl (hr.ex hl l h),hr.rd,fun hl b hx=>?_,hr.me,hr.main,hr.sc,hr.phi,hr.qL,fun a b c d s hs' off o1 o2=>?_,hr.Wy,hr.hand,hr.num⟩
 ·have hlt:b<bU.w.heap.size:=by
   rcases hx with hx|hx
   ·exact A.low i _ (hx 0) b rfl
   ·exact A.zf i _ (hx 0) b rfl
  exact(hb b hlt).trans (hr.blk hl b hx)
 ·refine Eq.trans ?_ (hr.work a b c d s hs' off o1 o2);show w1.cell? _=st.w.cell? _;unfold World.cell?;rw[hb s.Gb (hsc a s hs')]
theorem Xp(S:FuncId->Bool)(ro:Nat->Md)(bU:St aJ)(h₀:Inv q bU):Own (cfg q) S ro i (bm3 q i ro bU)where
 stable:=fun ρ st ah ⟨h1,h2,h3,h4⟩ hr hi=>by
  obtain⟨a,b⟩:=(Dx S i ro).stable ρ st ah h1 hr hi;exact⟨⟨a,hi,h3,h4.trans hr⟩,b⟩
 lv:=fun ρ st h=>(Dx S i ro).lv ρ st h.1
 step:=fun ρ st s xu s1 w1 es fn pos ⟨h1,h2,h3,h4⟩ hi m=>by
  obtain⟨a,b,c⟩:=Ep S i ro fn pos h1 h2 m;refine⟨st.γ.grow i st.w.heap.size w1.heap.size,a,rfl,b,fun k hk hw=>hw,c,a,fun b' c' hb hro=>?_,?_⟩
  ·rcases m.fresh b' c' hb with h|h
   ·exact h3 b' c' h hro
   ·exact Nat.le_trans h4.size h.1
  ·refine ai8 h₀ h4 m.size (fun b' hb'=>m.keep b' (Nat.lt_of_lt_of_le hb' h4.size) fun b'' Yi=>?_) fun hne s hs=>(h₀.aZ s hs).c.SS.1
   have hv:=h1.2.2 b'' b' Yi;cases hm:ro b'' with
   |all=>have:=h3 b'' b' Yi hm;omega
   |read n=>rfl
   |part f=>rw[hm]at hv;exact hv.elim
variable{s:aO}{x:Wk}{S:FuncId->Bool}{Ch:Nat->Goroutine->St aJ->Prop}
theorem TT.call{P:Program}(hP:q.P=P)(F:qh P S){f:FuncId}(hS:S f=true){vis:Nat->Option Nat}{st:St aJ}(hA:At s i x st)(hx:x.wg=.work)(hI:Inv q st)(hV:Gj q S i vis st){args:Array Value}{v:Value}
  (ha:AR (fun f=>S f=true) (yC vis) args args)(hv:VR (fun f=>S f=true) (yC vis) v v)(hC:∀τ d,Calls P f args (World.on (gu st.w vis) τ d) fun e w'=>e=.returned v){c:Frame}{cs:List Frame}
  (fin:∀st',Rl i st st'->Inv q st'->At s i x st'->TT (cfg q) i Ch (G (c.finish v) cs) st')(hs:iQ 4 v=true:=by first|rfl|simp[iQ]):TT (cfg q) i Ch (G (Frame.enter P f args .normal) (c::cs)) st:=by
 subst hP;have hw:i=0\/(st.γ.wk i).wg=.work/\∃s,st.γ.sc=some s/\s.n0<=i:=.inr ⟨by rw[hA.me];exact hx,s,hA.sc,hA.lo⟩;have hVR:bm3 q i (AA vis) st (yC vis) st:=by
  refine⟨hV.vis hI hA.lt hw,hI,fun b c hb hro=>?_,Rl.refl i st⟩;obtain⟨rfl,n,hn⟩:=pI hb;simp[AA,hn]at hro
 refine U6 (C:=cfg q) F (Xp S (AA vis) st hI) (R:=fun v' _=>v'=v) hS ha (hV.hr hI) hVR hV.ro (fun τ d=>(hC τ d).mono fun e w' h=>⟨v,h,rfl⟩) ?_;rintro ρ' v1 v' s' st' he hvr ⟨_,_,hv1⟩ hH' ⟨_,hI',_,hr⟩;have hv1:v1=v:=hv1;subst hv1;have e:=VR.same ah4 he (oU _ _ hs) hv hvr;rw[e];exact fin st' hr hI' (hA.rely (by rw[hx];simp) hr hI')
def aZ7:Nat->Option Nat:=fun _=>none
theorem jE{st:St aJ}:Gj q S i aZ7 st:=fun b n h=>by cases h
end
end
section
structure Mn(X:Nat->Prop)(bU st:St aJ):Prop where
 size:bU.w.heap.size<=st.w.heap.size
 ex:∀l,bU.γ.ex 0 l->st.γ.ex 0 l
 rd:∀l,bU.γ.rd 0 l->st.γ.rd 0 l
 blk:∀b,¬X b->(∀off,bU.γ.ex 0 (ca b off))\/(∀off,bU.γ.rd 0 (ca b off))->st.w.heap[b]?=bU.w.heap[b]?
 main:st.γ.mw=bU.γ.mw/\st.γ.dm=bU.γ.dm/\st.γ.num=bU.γ.num/\∀b,st.γ.dead b↔bU.γ.dead b
 sc:st.γ.sc=bU.γ.sc
section
variable{q:ig}{X:Nat->Prop}
theorem Mn.refl(st:St aJ):Mn X st st:=⟨Nat.le_refl _,fun _ h=>h,fun _ h=>h,fun _ _ _=>rfl,⟨rfl,rfl,rfl,fun _=>.rfl⟩,rfl⟩
theorem Mn.rely{bU st ah:St aJ}(h:Mn X bU st)(hr:Rl 0 st ah):Mn X bU ah:=by
 obtain⟨a,b,c,d⟩:=h.main;obtain⟨a',b',c',d'⟩:=hr.main rfl;exact⟨Nat.le_trans h.size hr.size,fun l x=>hr.ex (.inl rfl) l (h.ex l x),fun l x=>hr.rd (.inl rfl) l (h.rd l x),fun b hX hx=>(hr.blk (.inl rfl) b (hx.imp (fun f off=>h.ex _ (f off)) fun f off=>h.rd _ (f off))).trans (h.blk b hX hx),
  ⟨a'.trans a,b'.trans b,c'.trans c,fun x=>(d' x).trans (d x)⟩,(hr.sc (.inl rfl)).trans h.sc⟩
theorem jX.mn{dm num:Nat}{K:List (Nat×Obj)}{bU st:St aJ}(h:jX dm num K bU)(k:Mn X bU st)(hK:∀b o,(b,o)∈K->¬X b):jX dm num K st:=by
 obtain⟨a,b,c,d⟩:=k.main;refine⟨k.sc.trans h.sc,a.trans h.mw,b.trans h.dm,c.trans h.num,fun x o hb=>?_,fun x o hb hx=>h.nd x o hb ((d x).1 hx)⟩;obtain⟨h1,h2⟩:=h.fz x o hb;exact⟨(k.blk x (hK x o hb) h2).trans h1,h2.imp (fun f off=>k.ex _ (f off)) fun f off=>k.rd _ (f off)⟩
def Zm(q:ig)(ro:Nat->Md)(X:Nat->Prop)(bU:St aJ)(ρ:Nat->Option Nat)(st:St aJ):Prop:=
 DW q 0 ro ρ st/\Inv q st/\(∀b c,ρ b=some c->ro b=.all->bU.w.heap.size<=c\/X c)/\Mn X bU st/\∀b c,ρ b=some c->¬st.γ.dead c/\(c<bU.w.heap.size->b=c)/\∀n,ro b=.read n->b=c
theorem Lj(S:FuncId->Bool)(ro:Nat->Md)(bU:St aJ)(h₀:Inv q bU):Own (cfg q) S ro 0 (Zm q ro X bU)where
 stable:=fun ρ st ah ⟨h1,h2,h3,h4,h5⟩ hr hi=>by
  obtain⟨a,b⟩:=(Dx S 0 ro).stable ρ st ah h1 hr hi;exact⟨⟨a,hi,h3,h4.rely hr,fun b' c' hb=>⟨fun hx=>(h5 b' c' hb).1 (((Rl.main hr rfl).2.2.2 c').1 hx),(h5 b' c' hb).2⟩⟩,b⟩
 lv:=fun ρ st h=>(Dx S 0 ro).lv ρ st h.1
 step:=fun ρ st s xu s1 w1 es fn pos ⟨h1,h2,h3,h4,h5⟩ hi m=>by
  obtain⟨a,b,c⟩:=Ep S 0 ro fn pos h1 h2 m;refine⟨st.γ.grow 0 st.w.heap.size w1.heap.size,a,rfl,b,fun k hk hw=>hw,c,a,fun b' c' hb hro=>?_,?_,fun b' c' hb=>?_⟩
  ·rcases m.fresh b' c' hb with h|h
   ·exact h3 b' c' h hro
   ·exact .inl (Nat.le_trans h4.size h.1)
  ·have A:=h₀.base.tr.Ic;refine⟨Nat.le_trans h4.size m.size,fun l h=>.inl (h4.ex l h),h4.rd,fun b' hX hx=>?_,h4.main,h4.sc⟩;have hlt:b'<bU.w.heap.size:=by
    rcases hx with hx|hx
    ·exact A.low 0 _ (hx 0) b' rfl
    ·exact A.zf 0 _ (hx 0) b' rfl
   refine(m.keep b' (Nat.lt_of_lt_of_le hlt h4.size) fun b'' Yi=>?_).trans (h4.blk b' hX hx);have hv:=h1.2.2 b'' b' Yi;cases hm:ro b'' with
   |all=>
    rcases h3 b'' b' Yi hm with h|h
    ·omega
    ·exact absurd h hX
   |read n=>rfl
   |part f=>rw[hm]at hv;exact hv.elim
  ·rcases m.fresh b' c' hb with h|h
   ·exact h5 b' c' h
   ·exact⟨fun hx=>by have:=h2.base.dead c' hx;have:=h.1;omega,fun hlt=>by have:=h.1;have:=h4.size;omega,fun n hn=>by rw[h.2]at hn;cases hn⟩
def Sh(q:ig)(S:FuncId->Bool)(Ds:Nat->Bool)(ro:Nat->Md)(X:Nat->Prop)(bU:St aJ)(Φ:Act->World->Prop)(a':Act)(st:St aJ):Prop:=
 ∃ρ a s,AR (fun f=>S f=true) ρ (nV Ds a.tmps) (nV Ds a'.tmps)/\a.defers=[]/\a'.defers=[]/\HR q.P.globals.size (fun f=>S f=true) ro ρ s st.w/\Zm q ro X bU ρ st/\(∀b,s.heap.size<=b->ro b=.all)/\∃τ d,Φ a (World.on s τ d)
variable{S:FuncId->Bool}{Ds:Nat->Bool}{ro:Nat->Md}{bU st:St aJ}{Ch:Nat->Goroutine->St aJ->Prop}
theorem TT.piece{P:Program}(hP:q.P=P)(F:qh P S)(h₀:Inv q bU){Φ N R:Act->World->Prop}{code:Code}(hc:codeOk P S Ds code=true){b:Frame}(hk:b.kind=.normal)(hR:∀fn,P.funcs[b.fn]?=some fn->fn.results.all (resD Ds)=true){a':Act}(h:Sh q S Ds ro X bU Φ a' st)
  (hΦ:∀a w τ d,Φ a w->code.wp P (fun e a w=>(e=.normal/\a.defers=[]/\N a w)\/(e=.ret/\a.defers=[]/\R a w)) a (World.on w τ d)){k:List Item}{cs:List Frame}
  (Jp:∀a2' st',Sh q S Ds ro X bU N a2' st'->TT (cfg q) 0 Ch (G (b.at a2' k) cs) st')(Jo:∀a2' st' todo,Sh q S Ds ro X bU R a2' st'->TT (cfg q) 0 Ch (G {b.at a2' todo with mode:=.returning} cs) st'):
  TT (cfg q) 0 Ch (G (b.at a' (.code code::k)) cs) st:=by
 subst hP;obtain⟨ρ,a,s,ha,hd,hd',hH,hV,hro,τ0,d0,hφ⟩:=h;refine U5 (C:=cfg q) F (Lj S ro bU h₀) (Q:=fun e a w=>(e=.normal/\a.defers=[]/\N a w)\/(e=.ret/\a.defers=[]/\R a w)) (fun e a w h=>h.imp (fun h=>h.1) fun h=>h.1) hc hR hk hd hd' ha hH hV hro (fun τ d=>hΦ a (World.on s τ0 d0) τ d hφ) ?_ ?_
 ·rintro ρ' a2 a2' s' st'-ha2 hd2 ⟨τ,d,hq⟩ hH' hV' Df;rcases hq with⟨_,h1,h2⟩|⟨h1,_⟩
  ·exact Jp a2' st' ⟨ρ',a2,s',ha2,h1,hd2,hH',hV',Df,τ,d,h2⟩
  ·cases h1
 ·rintro ρ' a2 a2' s' st' todo-ha2 hd2 ⟨τ,d,hq⟩ hH' hV' Df;rcases hq with⟨h1,_⟩|⟨_,h1,h2⟩
  ·cases h1
  ·exact Jo a2' st' todo ⟨ρ',a2,s',ha2,h1,hd2,hH',hV',Df,τ,d,h2⟩
theorem TT.ret{P:Program}(hP:q.P=P)(F:qh P S)(h₀:Inv q bU){fn:Func}{R:Value->World->Prop}{b:Frame}(hk:b.kind=.normal)(hfn:P.funcs[b.fn]?=some fn)(hRs:fn.results.all (resD Ds)=true){a':Act}(h:Sh q S Ds ro X bU (fun a w=>∃v,(Go.results fn a.tmps).run P w=.ok v w/\R v w) a' st){todo:List Item}{c:Frame}{cs:List Frame}
  (fin:∀v v' ρ' s' st',HR q.P.globals.size (fun f=>S f=true) ro ρ' s' st'.w->Zm q ro X bU ρ' st'->VR (fun f=>S f=true) ρ' v v'->(∃τ d,R v (World.on s' τ d))->TT (cfg q) 0 Ch (G (c.finish v') cs) st'):
  TT (cfg q) 0 Ch (G {b.at a' todo with mode:=.returning} (c::cs)) st:=by
 subst hP;obtain⟨ρ',a,s',hta,hda,oC,hH',hV',Df,τ,d,v,hres,hR⟩:=h;have pv:=Lj (q:=q) (X:=X) S ro bU h₀;refine TT.step fun ah hr hi=>?_
 obtain⟨hV1,hst⟩:=pv.stable ρ' st ah hV' hr hi;refine⟨fun hl=>absurd hl (pv.lv _ _ hV1),?_⟩;have hH1:=hst s' hH';have hA:HR q.P.globals.size (fun f=>S f=true) ro ρ' (World.on s' τ d) (World.on ah.w τ d):=⟨hH1.inj,hH1.row,hH1.hole,hH1.low,hH1.gs,hH1.gw⟩;have hB:HR q.P.globals.size (fun f=>S f=true) ro ρ' (World.on s' ah.w.tape ah.w.drawn) ah.w:=⟨hH1.inj,hH1.row,hH1.hole,hH1.low,hH1.gs,hH1.gw⟩;have e1:=qF (xs:=a.tmps) hRs;have e2:=qF (xs:=a'.tmps) hRs;have SA:=SR.results (P:=q.P) (ro:=ro) (a:=xG Ds a) (a':=xG Ds a') hta fn _ _ hA rfl rfl Df;have SB:=SR.results (P:=q.P) (ro:=ro) (a:=xG Ds a) (a':=xG Ds a') hta fn _ _ hB rfl rfl Df;simp only[xG,e1,e2]at SA SB;obtain⟨-,n,hn,hl⟩:=SA.2.2 v _ hres;have hn0:n=0:=by have:d=d+n:=hn;omega
 subst hn0;have hres2:(Go.results fn a.tmps).run q.P (World.on s' ah.w.tape ah.w.drawn)=.ok v (World.on s' ah.w.tape ah.w.drawn):=(hl ah.w.tape ah.w.drawn fun j hj=>by omega).1;obtain⟨xu,v',w1,h1,h2,h3⟩:=SB.1 v _ hres2;have m:=h2.sub (es':=seen q.P b.fn ((Go.results fn a'.tmps).events q.P ah.w #[])) fun e he=>mem_seen he
 obtain⟨γ',i1,i2,i3,i4,i5⟩:=pv.step ρ' ah _ xu _ w1 _ b.fn "" hV1 hi m;refine iI.own (C:=cfg q) (lQ hk oC hfn h1) rfl i1 i2 i3 (.inr i4) ?_;exact fin v v' xu (World.on s' ah.w.tape ah.w.drawn) _ h2.hr i5 h3 ⟨τ,d,hR⟩
def y8:List Code->Code->Code
 |[],R=>R
 |c::cs,R=>.seq c (y8 cs R)
def dP:Nat->Code->List Code×Code
 |n+1,.seq a b=>(a::(dP n b).1,(dP n b).2)
 |_,c=>([],c)
theorem oW:∀(n:Nat) (c:Code),y8 (dP n c).1 (dP n c).2=c
 |0,c=>by cases c<;>rfl
 |n+1,c=>by
  cases c with
  |seq a b=>show Code.seq a (y8 (dP n b).1 (dP n b).2)=_;rw[oW n b]
  |_=>rfl
def wpT(P:Program)(N R:Act->World->Prop):List Code->Act->World->Prop
 |[],a,w=>N a w
 |c::cs,a,w=>∀τ d,c.wp P (fun e a w=>(e=.normal/\a.defers=[]/\wpT P N R cs a w)\/(e=.ret/\a.defers=[]/\R a w)) a (World.on w τ d)
theorem TT.pieces{P:Program}(hP:q.P=P)(F:qh P S)(h₀:Inv q bU){N R:Act->World->Prop}{b:Frame}(hk:b.kind=.normal)(hR:∀fn,P.funcs[b.fn]?=some fn->fn.results.all (resD Ds)=true){T:Code}{k:List Item}{cst:List Frame}
  (Jp:∀a2' st',Sh q S Ds ro X bU N a2' st'->TT (cfg q) 0 Ch (G (b.at a2' (.code T::k)) cst) st')(Jo:∀a2' st' todo,Sh q S Ds ro X bU R a2' st'->TT (cfg q) 0 Ch (G {b.at a2' todo with mode:=.returning} cst) st'):
  ∀(cs:List Code),(∀c∈cs,codeOk P S Ds c=true)->∀(a':Act) (st:St aJ),Sh q S Ds ro X bU (wpT P N R cs) a' st->TT (cfg q) 0 Ch (G (b.at a' (.code (y8 cs T)::k)) cst) st
 |[],_,a',st,h=>Jp a' st h
 |c::cs,hc,a',st,h=>by
  subst hP;refine TT.qw rfl 4 fun w₀ hF=>Goes.step rfl fun w₁ hw=>?_
  show(stepG q.P (0==0) (G (b.at a' (.code (.seq c (y8 cs T))::k)) cst) w₁).goes _;rw[stepG_seq];refine⟨⟨rfl,rfl⟩,Goes.stop fun w₂ _=>⟨rfl,?_⟩⟩;refine TT.piece rfl F h₀ (hc c (by simp)) hk hR h (fun a w τ d h=>h τ d) (fun a2' st' h'=>TT.pieces rfl F h₀ hk hR Jp Jo cs (fun c' h=>hc c' (by simp[h])) a2' st' h') Jo
end
end
section
open Go.ConcM (OsLater)
def ai9(size:Nat):aJ:={num:=1,sc:=none,wk:=fun _=>.new,mw:=.solo,dm:=0,D:=0,L:=0,W:=0,S:=0,N:=0,tn:=0,th:=0,gs:=0,gm:=0,ex:=fun g l=>g=0/\l.isMemory=true/\∃b,fE l=some b/\b<size,rd:=fun _ _=>False,sh:=fun _ _=>False,dead:=fun _=>False}
section
variable{q:ig}
theorem Inv.start{w:World}{t:Trace}(h:∀op∈t,op.g=0)(hd:Deaf t 0=0)(Nu:q.P.globals.size<=w.heap.size)(hos:OsLater q.os0 w.os)(hout:w.output=q.ac8):Inv q ⟨w,t,ai9 w.heap.size⟩:=by
 have own:∀(i:Nat) (op:MemOp),t[i]?=some op->op.g=0:=fun i op hi=>h op (Array.mem_of_getElem? hi)
 have kn:∀i a,touchAt t i=some a->Knows t 0 i:=fun i a ha=>by
  obtain⟨x,hx,_⟩:=touch_of ha;have:=knows_own hx
  rwa [own i x hx]at this
 have gq:∀i a,touchAt t i=some a->t.g? i=some 0:=fun i a ha=>by
  obtain⟨x,hx,_⟩:=touch_of ha;simp only[Trace.g?,hx,Option.map_some,own i x hx]
 have hall:t.allBy 0:=fun i x hx=>by
  have:touchAt t i=some x:=hx;exact gq i x this
 refine⟨⟨by show 0<1;omega,⟨fun said=>not_race_of_allBy hall,⟨fun g g' l a b=>a.1.trans b.1.symm,fun _ _ _ _ x=>x,fun _ _ _ _ x=>x,fun _ _ _ _ x=>x,fun g l a b hb=>?_,fun _ _ x=>x.elim,fun _ _ x=>x.elim,fun g l a=>?_⟩,fun g l a i x hx _=>?_,fun _ _ x=>x.elim,fun _ _ x=>x.elim,fun i a ha b hb=>.inr fun g hg=>?_,fun i op hi=>?_,fun i op hi a e k hk=>?_⟩,Nu,hd,fun j a b=>?_,fun j hj=>?_,hos,hout,fun j a b=>?_,fun b x=>x.elim,fun i a ha _=>.inr (.inl (kn i a ha)),fun i g hg hne _ _=>?_,fun g l a=>?_,fun j _=>.inl rfl,fun j _=>rfl,fun i a ha _=>gq i a ha,fun s hs=>by cases hs⟩,⟨fun _=>rfl,fun _=>rfl⟩,fun s hs=>by cases hs⟩
 ·obtain⟨_,_,b',hb',hlt⟩:=a;rw[hb]at hb';cases hb';exact hlt
 ·rcases a with a|a|a
  ·exact a.2.1
  ·exact a.elim
  ·exact a.elim
 ·rw[a.1];exact kn i x hx
 ·have hg:g<1:=hg;obtain rfl:g=0:=by omega
  exact kn i a ha
 ·show op.g<1;rw[own i op hi];omega
 ·have hlt:k<t.size:=Nat.lt_of_le_of_lt hk (lt_size_of_getElem? hi);have hx:t[k]?=some t[k]:=Array.getElem?_eq_getElem hlt;simp only[Trace.g?,hx,Option.map_some,own k _ hx]
 ·have b:j<1:=b;omega
 ·cases hj
 ·have b:j<1:=b;omega
 ·obtain⟨op,ho,e⟩:=Option.map_eq_some_iff.1 hg;exact absurd (e.symm.trans (own i op ho)) hne
 ·show g<1;rcases a with a|a|a
  ·rw[a.1];omega
  ·exact a.elim
  ·exact a.elim
theorem TT.ends{P:Program}(hP:q.P=P){num:Nat}{K:List (Nat×Obj)}{Ch:Nat->Goroutine->St aJ->Prop}{g:Goroutine}{st:St aJ}(hA:jX 0 num K st)
  (h:∀ah,Rl 0 st ah->jX 0 num K ah->Inv q ah->∃v w',stepG P (0==0) g ah.w=.ended (.done v) w' #[]/\q.Post v w'):TT (cfg q) 0 Ch g st:=by
 subst hP;refine TT.step fun ah hr hi=>⟨fun hl=>absurd rfl hl.1,?_⟩
 have hr:Rl 0 st ah:=hr;have hi:Inv q ah:=hi;have au:=hA.rely hr;obtain⟨v,w',h1,h2⟩:=h ah hr au hi;have hold:ah.γ.old=ah.γ.num:=by unfold aJ.old;rw[au.sc]
 unfold iI;rw[show stepG (cfg q).P (0==0) g ah.w=_ from h1];refine⟨rfl,⟨v,rfl,h2⟩,fun said=>?_,?_,fun j h0 hj=>⟨by omega,hi.base.old j h0 (by rw[hold];exact hj)⟩⟩
 ·rw[ofEvents_none,Array.append_empty];exact hi.base.tr.nr said
 ·rw[ofEvents_none,Array.append_empty];intro i g' hg hne hc;refine hi.base.ho i g' hg hne ?_ hc;rw[hold];obtain⟨op,ho,e⟩:=Option.map_eq_some_iff.1 hg;have:=hi.base.tr.gs i op ho;omega
theorem Ut{f:FuncId}{args:Array Value}{w:World}{n:Nat}{g:Goroutine}{w₁:World}{t₁:Trace}(hpre:runNT q.P n (solo (G (Frame.enter q.P f args .normal) []) w) #[]=(.next (solo g w₁),t₁))(hs:g.status=.running)(hall:∀op∈t₁,op.g=0)(hd:Deaf t₁ 0=0)
  (Nu:q.P.globals.size<=w₁.heap.size)(hos:OsLater q.os0 w₁.os)(hout:w₁.output=q.ac8)
  (hT:∀st:St aJ,st.w=w₁->Inv q st->(∀K,(∀b o,(b,o)∈K->w₁.heap[b]?=some o)->jX 0 1 K st)->(∀l b,l.isMemory=true->fE l=some b->b<w₁.heap.size->st.γ.ex 0 l)->(∀b,¬st.γ.dead b)->TT (cfg q) 0 (TW (cfg q)) g st):
  ∃M last o w' t',runNT q.P (M+1) (solo (G (Frame.enter q.P f args .normal) []) w) #[]=(.ended o w',t')/\runN q.P M (solo (G (Frame.enter q.P f args .normal) []) w)=.next last/\Go.step q.P last=.ended o w'/\Conc.Good q.P q.Post last o w' t':=by
 have hI:Inv q ⟨w₁,t₁,ai9 w₁.heap.size⟩:=Inv.start hall hd Nu hos hout;obtain⟨r,hr⟩:=hT ⟨w₁,t₁,ai9 w₁.heap.size⟩ rfl hI (fun K hK=>⟨rfl,rfl,rfl,rfl,fun b o hb=>⟨hK b o hb,.inl fun off=>⟨rfl,rfl,b,rfl,lt_of_block (hK b o hb)⟩⟩,fun b o hb x=>x⟩) (fun l b m1 m2 m3=>⟨rfl,m1,b,m2,m3⟩) (fun b x=>x);have hM:MI (cfg q) (r,[],running #[g]) (crowd #[g] w₁ none) t₁:=by
  refine .mk r [] #[g] w₁ none t₁ (ai9 w₁.heap.size) rfl rfl hI fun i g' hi=>?_
  match i,hi with
  |0,hi=>
   simp at hi;subst hi;exact .inl ⟨hs,by unfold TA;rw[if_pos rfl];exact hr⟩
  |i+1,hi=>simp at hi
 obtain⟨N,last,o,w',t',h1,h2,h3,h4⟩:=hM.runs FC;rw[<-solo_eq_crowd]at h1 h2;refine⟨n+N,last,o,w',t',?_,?_,h3,h4⟩
 ·rw[show n+N+1=n+(N+1) by omega,runNT_add,hpre];exact h1
 ·rw[runN_add];have:runN q.P n (solo (G (Frame.enter q.P f args .normal) []) w)=.next (solo g w₁):=by rw[<-runNT_fst,hpre]
  rw[this];exact h2
end
end
section
noncomputable def gJ(w:World)(md:Nat->Option Md):World:=
 {w with heap:=Array.ofFn (n:=w.heap.size) fun b=>match md b.1,w.heap[b.1]? with
   |some .all,some (.cells C e _)=>.cells C e (0,0)
   |some (.read n),some (.cells C e _)=>.cells (C.extract 0 n) e (0,n)
   |_,_=>.coro none}
def A8(md:Nat->Option Md):Nat->Option Nat:=fun b=>if(md b).isSome then some b else none
def uD(md:Nat->Option Md):Nat->Md:=fun b=>(md b).getD .all
theorem oV(w:World)(md:Nat->Option Md):(gJ w md).heap.size=w.heap.size:=by simp[gJ]
theorem Gw{w:World}{md:Nat->Option Md}{b:Nat}{C:Array Value}{e:TypeId}{fz:Nat×Nat}(hv:md b=some .all)(h:w.heap[b]?=some (.cells C e fz)):(gJ w md).heap[b]?=some (.cells C e (0,0)):=by
 have hlt:=lt_of_block h;have he:w.heap[b]=.cells C e fz:=by rw[Array.getElem?_eq_getElem hlt]at h;exact Option.some.inj h
 simp[gJ,hlt,hv,he]
theorem Eh{w:World}{md:Nat->Option Md}{b n:Nat}{C:Array Value}{e:TypeId}{fz:Nat×Nat}(hv:md b=some (.read n))(h:w.heap[b]?=some (.cells C e fz)):(gJ w md).heap[b]?=some (.cells (C.extract 0 n) e (0,n)):=by
 have hlt:=lt_of_block h;have he:w.heap[b]=.cells C e fz:=by rw[Array.getElem?_eq_getElem hlt]at h;exact Option.some.inj h
 simp[gJ,hlt,hv,he]
theorem O5{w:World}{md:Nat->Option Md}{b:Nat}(hv:md b=none):(gJ w md).heap[b]?=none\/∃x,(gJ w md).heap[b]?=some (.coro x):=by
 rcases Nat.lt_or_ge b w.heap.size with h|h
 ·exact .inr ⟨none,by simp[gJ,h,hv]⟩
 ·exact .inl (by simp[gJ,h])
theorem gX{md:Nat->Option Md}{b:Nat}{m:Md}(h:md b=some m):A8 md b=some b:=by simp[A8,h]
theorem jV{md:Nat->Option Md}{b c:Nat}(h:A8 md b=some c):b=c/\∃m,md b=some m:=by
 unfold A8 at h;split at h
 ·rename_i e;cases h;exact⟨rfl,Option.isSome_iff_exists.1 e⟩
 ·cases h
section
variable{q:ig}{S:FuncId->Bool}
def bm7(st:St aJ)(b:Nat):Prop:=∀l,fE l=some b->l.isMemory=true->st.γ.ex 0 l
def Ae(q:ig)(S:FuncId->Bool)(md:Nat->Option Md)(st:St aJ):Prop:=
 ∀b m,md b=some m->q.P.globals.size<=b/\¬st.γ.dead b/\∃C e fz,st.w.heap[b]?=some (.cells C e fz)/\match m with
  |.all=>fz=(0,0)/\bm7 st b/\∀(k:Nat) (v:Value),C[k]?=some v->VR (fun f=>S f=true) (A8 md) v v
  |.read n=>n<=C.size/\((∀off,st.γ.rd 0 (ca b off))\/∀off,st.γ.ex 0 (ca b off))/\∀(k:Nat) (v:Value),k<n->C[k]?=some v->VR (fun f=>S f=true) (A8 md) v v
  |.part _=>False
theorem Ae.hr{md:Nat->Option Md}{st:St aJ}(h:Ae q S md st)(hi:Inv q st):HR q.P.globals.size (fun f=>S f=true) (uD md) (A8 md) (gJ st.w md) st.w where
 inj:=fun b b' c h1 h2=>(jV h1).1.trans (jV h2).1.symm
 row:=fun b c hb=>by
  obtain⟨rfl,m,hm⟩:=jV hb;obtain⟨-,-,C,e,fz,h1,h2⟩:=h b m hm;have hro:uD md b=m:=by simp[uD,hm]
  cases m with
  |all=>
   obtain⟨rfl,_,h3⟩:=h2;refine⟨_,_,Gw hm h1,h1,?_⟩;rw[hro];exact .cells (Nat.le_refl _) (fun k v hk=>⟨v,hk,h3 k v hk⟩) (fun _=>⟨rfl,rfl⟩) fun n hn=>by cases hn
  |read n=>
   obtain⟨hn,_,h3⟩:=h2;refine⟨_,_,Eh hm h1,h1,?_⟩;have hsz:(C.extract 0 n).size=n:=by simp;omega
   have:OR (fun f=>S f=true) (uD md b) (A8 md) (.cells (C.extract 0 n) e (0,(uD md b).hi (C.extract 0 n).size)) (.cells C e fz):=by
    refine .cells (by rw[hsz];exact hn) (fun k v hk=>?_) (fun x=>by rw[hro]at x;cases x) (fun m hm=>by rw[hro]at hm;cases hm;exact hsz);have hlt:=(Array.getElem?_eq_some_iff.1 hk).1;rw[Array.getElem?_extract]at hk;split at hk
    ·simp at hk;exact⟨v,hk,h3 k v (by omega) hk⟩
    ·cases hk
   rw[hro,Md.hi,hsz]at this
   rwa [hro]
  |part f=>exact h2.elim
 hole:=fun b hb=>O5 (by
  cases hv:md b with
  |none=>rfl
  |some n=>rw[gX hv]at hb;cases hb)
 low:=fun b c hb=>by obtain⟨rfl,m,hm⟩:=jV hb;exact⟨(h b m hm).1,(h b m hm).1⟩
 gs:=by rw[oV];exact hi.base.Nu
 gw:=hi.base.Nu
theorem Ae.vis{md:Nat->Option Md}{st:St aJ}(h:Ae q S md st)(hi:Inv q st):DW q 0 (uD md) (A8 md) st:=by
 refine⟨hi.base.pos,.inl rfl,fun b c hb=>?_⟩;obtain⟨rfl,m,hm⟩:=jV hb;have hro:uD md b=m:=by simp[uD,hm]
 rw[hro];obtain⟨-,-,C,e,fz,h1,h2⟩:=h b m hm;cases m with
 |all=>exact h2.2.1
 |read n=>exact h2.2.1.imp id .inl
 |part f=>exact h2
theorem Ae.ro{md:Nat->Option Md}{st:St aJ}(h:Ae q S md st):∀b,(gJ st.w md).heap.size<=b->uD md b=.all:=fun b hb=>by
 unfold uD;cases hv:md b with
 |none=>rfl
 |some m=>
  obtain⟨-,-,C,e,fz,h1,-⟩:=h b m hv;have:=lt_of_block h1;rw[oV]at hb;omega
theorem Sh.make{md:Nat->Option Md}{st:St aJ}(h:Ae q S md st)(hi:Inv q st){X:Nat->Prop}(hX:∀b,md b=some .all->X b){Ds:Nat->Bool}{Φ:Act->World->Prop}{a a':Act}(ha:AR (fun f=>S f=true) (A8 md) (nV Ds a.tmps) (nV Ds a'.tmps))(hd:a.defers=[])(hd':a'.defers=[])
  (hΦ:Φ a (World.on (gJ st.w md) st.w.tape st.w.drawn)):Sh q S Ds (uD md) X st Φ a' st:=by
 refine⟨A8 md,a,gJ st.w md,ha,hd,hd',h.hr hi,⟨h.vis hi,hi,fun b c hb hro=>?_,Mn.refl st,fun b c hb=>?_⟩,h.ro,_,_,hΦ⟩
 ·obtain⟨rfl,m,hm⟩:=jV hb;have:uD md b=m:=by simp[uD,hm]
  rw[this]at hro;exact .inr (hX b (by rw[hm,hro]))
 ·obtain⟨rfl,m,hm⟩:=jV hb;exact⟨(h b m hm).2.1,fun _=>rfl,fun _ _=>rfl⟩
theorem jX.more{dm num:Nat}{K:List (Nat×Obj)}{st:St aJ}(h:jX dm num K st){b:Nat}{o:Obj}(hb:st.w.heap[b]?=some o)(he:(∀off,st.γ.ex 0 (ca b off))\/∀off,st.γ.rd 0 (ca b off))(hd:¬st.γ.dead b):jX dm num ((b,o)::K) st:=by
 refine⟨h.sc,h.mw,h.dm,h.num,fun b' o' hb'=>?_,fun b' o' hb'=>?_⟩
 ·rcases List.mem_cons.1 hb' with e|e
  ·cases e;exact⟨hb,he⟩
  ·exact h.fz _ _ e
 ·rcases List.mem_cons.1 hb' with e|e
  ·cases e;exact hd
  ·exact h.nd _ _ e
theorem jX.sub{dm num:Nat}{K K':List (Nat×Obj)}{st:St aJ}(h:jX dm num K st)(hs:∀b o,(b,o)∈K'->(b,o)∈K):jX dm num K' st:=⟨h.sc,h.mw,h.dm,h.num,fun b o hb=>h.fz b o (hs b o hb),fun b o hb=>h.nd b o (hs b o hb)⟩
end
end
end Cc
end Go.Proofs.Ytpfpokjaeffbjab
