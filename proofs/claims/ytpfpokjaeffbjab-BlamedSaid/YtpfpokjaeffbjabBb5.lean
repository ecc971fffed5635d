/- Part of the proof: Lift, Stp, Act. -/
import Derived.Test.YtpfpokjaeffbjabBb1
import Derived.Test.YtpfpokjaeffbjabBb4
set_option linter.unusedVariables false
set_option linter.unusedSimpArgs false
set_option maxRecDepth 100000
set_option maxHeartbeats 16000000
namespace Go.Proofs.Ytpfpokjaeffbjab
namespace Cc
open Go.Conc
section
variable{Γ:Type}(C:VT Γ)(S:FuncId->Bool)(ro:Nat->Md)(i:Nat)(DW:(Nat->Option Nat)->St Γ->Prop)
structure Own:Prop where
 stable:∀ρ st ah,DW ρ st->C.Rel i st ah->C.Inv ah->DW ρ ah/\∀s,HR C.P.globals.size (fun f=>S f=true) ro ρ s st.w->HR C.P.globals.size (fun f=>S f=true) ro ρ s ah.w
 lv:∀ρ st,DW ρ st->¬C.Lv i st
 step:∀ρ st s xu s1 w1 es fn pos,DW ρ st->C.Inv st->Mv C.P.globals.size (fun f=>S f=true) ro ρ s st.w xu s1 w1 es->
  ∃γ',C.Inv ⟨w1,st.t++MemOp.ofEvents i fn pos es,γ'⟩/\C.num ⟨w1,st.t++MemOp.ofEvents i fn pos es,γ'⟩=C.num st/\(∀j,j≠i->C.Rel j st ⟨w1,st.t++MemOp.ofEvents i fn pos es,γ'⟩)/\
   (∀k,k≠i->C.Waits k st->C.Waits k ⟨w1,st.t++MemOp.ofEvents i fn pos es,γ'⟩)/\DW xu ⟨w1,st.t++MemOp.ofEvents i fn pos es,γ'⟩
end
section
variable{Γ:Type}{C:VT Γ}{S:FuncId->Bool}{ro:Nat->Md}{i:Nat}{DW:(Nat->Option Nat)->St Γ->Prop}{Ch:Nat->Goroutine->St Γ->Prop}{Ds:Nat->Bool}{Ks K:List Item}{Stop:Frame->World->Prop}
theorem iI.own{g g':Goroutine}{st:St Γ}{w':World}{es:Array Event}{Kk:Goroutine->St Γ->Prop}(h:stepG C.P (i==0) g st.w=.go g' w' es)(hs:g'.status=.running){γ':Γ}
  (h1:C.Inv ⟨w',st.t++MemOp.ofEvents i g.frame.fn g.frame.place es,γ'⟩)(h2:C.num ⟨w',st.t++MemOp.ofEvents i g.frame.fn g.frame.place es,γ'⟩=C.num st)
  (h3:∀j,j≠i->C.Rel j st ⟨w',st.t++MemOp.ofEvents i g.frame.fn g.frame.place es,γ'⟩)(h4:mayWake C.P g=true\/∀k,k≠i->C.Waits k st->C.Waits k ⟨w',st.t++MemOp.ofEvents i g.frame.fn g.frame.place es,γ'⟩)
  (h5:Kk g' ⟨w',st.t++MemOp.ofEvents i g.frame.fn g.frame.place es,γ'⟩):iI C i Ch Kk g st:=by
 unfold iI;rw[h];exact .inr ⟨γ',h1,h2,h3,h4,.inl ⟨hs,h5⟩⟩
theorem GX(F:qh C.P S)(hKs:am8 Ks K)(pv:Own C S ro i DW){f:Frame}{base:List Frame}{s:World}(h:LT C.P S ro Ds Ks K Stop f base s):∀(ρ:Nat->Option Nat) (f':Frame) (base' tail:List Frame) (st:St Γ),
  KR C.P S Ds Ks K ρ (f::base) (f'::base')->HR C.P.globals.size (fun f=>S f=true) ro ρ s st.w->DW ρ st->(∀b,s.heap.size<=b->ro b=.all)->
  (∀ρ' fr fr' s' st',Ext ρ ρ'->FR C.P S ρ' Ds Ks K fr fr'->(∃τ d,Stop fr (World.on s' τ d))->HR C.P.globals.size (fun f=>S f=true) ro ρ' s' st'.w->DW ρ' st'->(∀b,s'.heap.size<=b->ro b=.all)->TT C i Ch (G fr' tail) st')->
  TT C i Ch (G f' (base'++tail)) st:=by
 induction h with
 | @stop f s τ d hst=>
  intro ρ f' base' tail st hK hH hV hro fin;cases hK with
  |one hF=>exact fin ρ f f' s st (Ext.refl ρ) hF ⟨τ,d,hst⟩ hH hV hro
 | @step f base s nx hstep Jh hk ih=>
  intro ρ f' base' tail st hK hH hV hro fin;refine TT.step fun ah hr hi=>?_
  obtain⟨hV1,hst⟩:=pv.stable ρ st ah hV hr hi;refine⟨fun hl=>absurd hl (pv.lv _ _ hV1),?_⟩;have hH1:HR C.P.globals.size (fun f=>S f=true) ro ρ (World.on s ah.w.tape ah.w.drawn) ah.w:=by
   have:=hst s hH;exact⟨this.inj,this.row,this.hole,this.low,this.gs,this.gw⟩
  obtain⟨es0,e0⟩:=hstep ah.w.tape ah.w.drawn;have hm0:=Jh ah.w.tape ah.w.drawn;have ih0:=ih ah.w.tape ah.w.drawn;generalize nx ah.w.tape ah.w.drawn=q at e0 hm0 ih0;rcases Ec F hKs hK hH1 rfl rfl hro with⟨g,b2,s1,es1,e1,l1,g',b2',w1,xu,es,er,k1,m1⟩|⟨rfl,hm⟩|hb
  ·rw[e0]at e1;simp only[GStep.go.injEq,G,Goroutine.mk.injEq,and_true]at e1;obtain⟨⟨h1,h2⟩,h3,-⟩:=e1;have h2:=List.append_cancel_right h2;subst h1 h2 h3;have m1':Mv C.P.globals.size (fun f=>S f=true) ro ρ (World.on s ah.w.tape ah.w.drawn) ah.w xu q.2.2 w1 es:=m1;obtain⟨γ',i1,i2,i3,i4,i5⟩:=pv.step ρ ah _ xu _ w1 es f'.fn f'.place hV1 hi m1';refine iI.own (er _ tail) rfl i1 i2 i3 (.inr i4) ?_;exact ih0 xu g' b2' tail _ k1 m1.hr i5 (fun b hb=>hro b (Nat.le_trans m1.ssize hb)) fun ρ' fr fr' s' st' he=>fin ρ' fr fr' s' st' (m1.ext.trans he)
  ·exfalso;have hd:=hK.bare f (by simp);have hk:f.kind=.normal:=by
    cases hK with
    |one h=>cases h with
     |run X a b c d e' f g r=>exact b
     |ret a b c d e' g r=>exact b
   have e2:step C.P (lone f [aA] (World.on s ah.w.tape ah.w.drawn))=.next (lone q.1 (q.2.1++[aA]) q.2.2):=step_lone_go (by
    show(stepG C.P true (G f ([]++[aA])) _).bare=_;rw[e0];rfl)
   cases hb:q.2.1 with
   |nil=>
    rw[hb]at e2;exact yM (P:=C.P) (w:=World.on s ah.w.tape ah.w.drawn) hm hd hk 0 q.1 q.2.2 (by simp only[runN,e2];rfl)
   |cons c l=>
    have e3:stepG C.P true (G f [aA]) (World.on s ah.w.tape ah.w.drawn)=.go (G q.1 (q.2.1++[aA])) q.2.2 es0:=e0
    revert e3
    rw[hb];cases hf:C.P.funcs[f.fn]? with
    |none=>simp[G,stepG,unwind,hm,hd,hf,doReturn,hk]
    |some fn=>
     cases hres:(Go.results fn f.tmps).run C.P (World.on s ah.w.tape ah.w.drawn)with
     |ok v w1=>simp[G,stepG,unwind,hm,hd,hf,doReturn,hk,hres,GStep.after]
     |halt hh w1=>cases hh<;>simp[G,stepG,unwind,hm,hd,hf,hres,GStep.after]
  ·exfalso;rcases hb with⟨o,w1,es,e⟩|⟨fr,w1,es,ch,e,hm,hd⟩
   ·rw[e0]at e;cases e
   ·rw[e0]at e;simp only[GStep.go.injEq,G,Goroutine.mk.injEq,and_true]at e;obtain⟨⟨h1,h2⟩,h3,-⟩:=e;obtain⟨ρ2,f2,Za,w2,h4,-⟩:=hm0;have:∃f'' ρ2 Ds Ks K,FR C.P S ρ2 Ds Ks K q.1 f'':=by
     generalize q.1=q1,q.2.1=q2 at h4;cases h4 with
     |one h=>exact⟨_,_,_,_,_,h⟩
     |cons h _ _=>exact⟨_,_,_,_,_,h⟩
    obtain⟨f'',ρ2,Ds2,Ks2,K2,hF⟩:=this;rw[h1]at hF;cases hF with
    |run X a b c d e f g r=>cases hm
    |ret a b c d e g r=>cases hm
def FX(P:Program)(R:Value->World->Prop)(fr:Frame)(w:World):Prop:=∃τ d v,fr.leaving P (World.on w τ d) (.returned v)/\R v (World.on w τ d)
theorem U6(F:qh C.P S)(pv:Own C S ro i DW){R:Value->World->Prop}{f:FuncId}{args args':Array Value}(hS:S f=true){ρ:Nat->Option Nat}{s:World}{st:St Γ}(ha:AR (fun f=>S f=true) ρ args args')(hH:HR C.P.globals.size (fun f=>S f=true) ro ρ s st.w)
  (hV:DW ρ st)(hro:∀b,s.heap.size<=b->ro b=.all)(hC:∀τ d,Calls C.P f args (World.on s τ d) fun e w'=>∃v,e=.returned v/\R v w'){c:Frame}{cs:List Frame}
  (fin:∀ρ' v v' s' st',Ext ρ ρ'->VR (fun f=>S f=true) ρ' v v'->(∃τ d,R v (World.on s' τ d))->HR C.P.globals.size (fun f=>S f=true) ro ρ' s' st'.w->DW ρ' st'->TT C i Ch (G (c.finish v') cs) st'):
  TT C i Ch (G (Frame.enter C.P f args' .normal) (c::cs)) st:=by
 obtain⟨fn,code,hf1,hf2,hf3,hf4⟩:=F f hS;have hK:KR C.P S CY [] [] ρ [Frame.enter C.P f args .normal] [Frame.enter C.P f args' .normal]:=by
  rw[enter_at args hf1 hf2,enter_at args' hf1 hf2];refine .one (.run (b:=Go.Conc.base f) (b':=Go.Conc.base f) [.code code] rfl rfl rfl rfl rfl (by simp only[List.all_cons,Bool.and_eq_true];exact⟨hf4,rfl⟩) ?_ yg);show AR (fun f=>S f=true) ρ (nV CY (args++Array.replicate (fn.ntmps-args.size) undef)) (nV CY (args'++Array.replicate (fn.ntmps-args'.size) undef));rw[vM,vM,<-ha.size];exact ha.append (AR.replicate _ VR.undef)
 have Jh:V6 C.P S ro CY [] [] (Frame.enter C.P f args .normal) [] s:=⟨ρ,_,[],st.w,hK,hH,hro⟩;have hinv:∀f s τ d,FX C.P R f s->FX C.P R f (World.on s τ d):=fun f s τ d ⟨Ih,d',v,h1,h2⟩=>⟨Ih,d',v,h1,h2⟩
 have hT:LT C.P S ro CY [] [] (FX C.P R) (Frame.enter C.P f args .normal) [] s:=by
  refine LT.Xu hinv Jh fun τ d=>?_
  obtain⟨e,w',fr,⟨v,rfl,hR⟩,⟨n,hn⟩,-,hl⟩:=hC τ d [aA];exact sH F (.inl ⟨rfl,rfl⟩) (fun f s ⟨τ,d,v,h,_⟩ c hc=>by have:=h.1;rw[hc]at this;cases this) n (Jh.on τ d) fr w' hn ⟨w'.tape,w'.drawn,v,hl,hR⟩
 refine GX F (.inl ⟨rfl,rfl⟩) pv hT ρ _ [] (c::cs) st hK hH hV hro ?_;rintro ρ' fr fr' s' st' ai6 hF ⟨τ0,d0,τ,d,v,hl,hR⟩ hH' hV' Df;have hl':fr.leaving C.P (World.on s' τ d) (.returned v):=hl;have hR':R v (World.on s' τ d):=hR;cases hF with
 |run X a b c d e f g r=>cases hl'.1
 | @ret b b' a a' todo todo' hfn hk hk' hda oC hta _=>
  rw[vM,vM]at hta;obtain⟨-,-,-,fn,Di,hres⟩:=hl';have Di:C.P.funcs[b.fn]?=some fn:=Di;have hfn2:C.P.funcs[b'.fn]?=some fn:=by rw[hfn];exact Di
  have hres:(Go.results fn a.tmps).run C.P (World.on s' τ d)=.ok v (World.on s' τ d):=hres;refine TT.step fun ah hr hi=>?_
  obtain⟨hV1,hst⟩:=pv.stable ρ' st' ah hV' hr hi;refine⟨fun hl=>absurd hl (pv.lv _ _ hV1),?_⟩;have hH1:=hst s' hH';have hA:HR C.P.globals.size (fun f=>S f=true) ro ρ' (World.on s' τ d) (World.on ah.w τ d):=⟨hH1.inj,hH1.row,hH1.hole,hH1.low,hH1.gs,hH1.gw⟩;have hB:HR C.P.globals.size (fun f=>S f=true) ro ρ' (World.on s' ah.w.tape ah.w.drawn) ah.w:=⟨hH1.inj,hH1.row,hH1.hole,hH1.low,hH1.gs,hH1.gw⟩;obtain⟨-,n,hn,hl⟩:=(SR.results (P:=C.P) (ro:=ro) hta fn _ _ hA rfl rfl Df).2.2 v _ hres;have hn0:n=0:=by have:d=d+n:=hn;omega
  subst hn0;have hres2:(Go.results fn a.tmps).run C.P (World.on s' ah.w.tape ah.w.drawn)=.ok v (World.on s' ah.w.tape ah.w.drawn):=(hl ah.w.tape ah.w.drawn fun j hj=>by omega).1;obtain⟨xu,v',w1,h1,h2,h3⟩:=(SR.results (P:=C.P) (ro:=ro) hta fn _ _ hB rfl rfl Df).1 v _ hres2;have m:=h2.sub (es':=seen C.P b'.fn ((Go.results fn a'.tmps).events C.P ah.w #[])) fun e he=>mem_seen he
  obtain⟨γ',i1,i2,i3,i4,i5⟩:=pv.step ρ' ah _ xu _ w1 _ b'.fn "" hV1 hi m;refine iI.own (lQ hk' oC hfn2 h1) rfl i1 i2 i3 (.inr i4) ?_;exact fin xu v v' (World.on s' ah.w.tape ah.w.drawn) _ (ai6.trans h2.ext) h3 ⟨τ,d,hR'⟩ h2.hr i5
def Ag(b:Frame)(Q:Exit->Act->World->Prop)(fr:Frame)(w:World):Prop:=
 ∃τ d a,(fr=b.at a [bW]/\Q .normal a (World.on w τ d))\/∃todo,fr={b.at a todo with mode:=.returning}/\Q .ret a (World.on w τ d)
theorem at_eq{b b':Frame}(h1:b'.fn=b.fn)(h2:b'.kind=b.kind)(a:Act)(k:List Item):b'.at a k=b.at a k:=by unfold Frame.at;rw[h1,h2]
theorem U5(F:qh C.P S)(pv:Own C S ro i DW){Q:Exit->Act->World->Prop}(hQ:∀e a w,Q e a w->e=.normal\/e=.ret){code:Code}(hc:codeOk C.P S Ds code=true){b:Frame}(hR:∀fn,C.P.funcs[b.fn]?=some fn->fn.results.all (resD Ds)=true){a a':Act}(hk:b.kind=.normal)(hd:a.defers=[])(hd':a'.defers=[])
  {ρ:Nat->Option Nat}{s:World}{st:St Γ}(ha:AR (fun f=>S f=true) ρ (nV Ds a.tmps) (nV Ds a'.tmps))(hH:HR C.P.globals.size (fun f=>S f=true) ro ρ s st.w)(hV:DW ρ st)(hro:∀b,s.heap.size<=b->ro b=.all)
  (hC:∀τ d,code.wp C.P Q a (World.on s τ d)){k:List Item}{cs:List Frame}
  (Jp:∀ρ' a2 a2' s' st',Ext ρ ρ'->AR (fun f=>S f=true) ρ' (nV Ds a2.tmps) (nV Ds a2'.tmps)->a2'.defers=[]->(∃τ d,Q .normal a2 (World.on s' τ d))->HR C.P.globals.size (fun f=>S f=true) ro ρ' s' st'.w->DW ρ' st'->(∀b,s'.heap.size<=b->ro b=.all)->TT C i Ch (G (b.at a2' k) cs) st')
  (Jo:∀ρ' a2 a2' s' st' todo,Ext ρ ρ'->AR (fun f=>S f=true) ρ' (nV Ds a2.tmps) (nV Ds a2'.tmps)->a2'.defers=[]->(∃τ d,Q .ret a2 (World.on s' τ d))->HR C.P.globals.size (fun f=>S f=true) ro ρ' s' st'.w->DW ρ' st'->(∀b,s'.heap.size<=b->ro b=.all)->TT C i Ch (G {b.at a2' todo with mode:=.returning} cs) st'):
  TT C i Ch (G (b.at a' (.code code::k)) cs) st:=by
 have hK:KR C.P S Ds [bW] k ρ [b.at a ([.code code]++[bW])] [b.at a' ([.code code]++k)]:=
  .one (.run [.code code] rfl hk hk hd hd' (by simp only[List.all_cons,Bool.and_eq_true];exact⟨hc,rfl⟩) ha hR)
 have Jh:V6 C.P S ro Ds [bW] k (b.at a ([.code code]++[bW])) [] s:=⟨ρ,_,[],st.w,hK,hH,hro⟩;have hinv:∀f s τ d,Ag b Q f s->Ag b Q f (World.on s τ d):=fun f s τ d ⟨Ih,d',x,h⟩=>⟨Ih,d',x,h⟩
 have hT:LT C.P S ro Ds [bW] k (Ag b Q) (b.at a ([.code code]++[bW])) [] s:=by
  refine LT.Xu hinv Jh fun τ d=>?_
  obtain⟨e,a2,w',hq,hr⟩:=hC τ d b [bW] [aA];have np:∀f s,Ag b Q f s->∀c,f.mode≠ .panicking c:=by
   rintro f s ⟨τ,d,x,⟨rfl,-⟩|⟨todo,rfl,-⟩⟩ c hm<;>cases hm
  rcases hQ e a2 w' hq with rfl|rfl
  ·obtain⟨n,hn⟩:=hr;exact sH F (.inr rfl) np n (Jh.on τ d) _ w' hn ⟨w'.tape,w'.drawn,a2,.inl ⟨rfl,hq⟩⟩
  ·obtain⟨todo,n,hn⟩:=hr;exact sH F (.inr rfl) np n (Jh.on τ d) _ w' hn ⟨w'.tape,w'.drawn,a2,.inr ⟨todo,rfl,hq⟩⟩
 refine GX F (.inr rfl) pv hT ρ _ [] cs st hK hH hV hro ?_;rintro ρ' fr fr' s' st' ai6 hF ⟨τ0,d0,τ,d,a2,hst⟩ hH' hV' Df;cases hF with
 | @run b1 b1' a1 a1' X hfn hk1 ah7 hd1 aJ8 hX ht _=>
  rcases hst with⟨he,hq⟩|⟨todo,he,-⟩
  ·simp only[Frame.at,Frame.mk.injEq]at he;obtain⟨h1,h2,h3,h4,-⟩:=he;have hX0:X=[]:=by
    cases X with
    |nil=>rfl
    |cons x X=>have:=congrArg List.length h3;simp at this
   subst hX0;have:a1=a2:=by cases a1;cases a2;simp at h2 h4;subst h2 h4;rfl
   subst this;have e:b1'.at a1' ([]++k)=b.at a1' k:=at_eq (hfn.trans h1) (ah7.trans hk.symm) a1' k;rw[e];exact Jp ρ' a1 a1' s' st' ai6 ht aJ8 ⟨τ,d,hq⟩ hH' hV' Df
  ·have:=congrArg Frame.mode he;simp[Frame.at]at this
 | @ret b1 b1' a1 a1' todo todo' hfn hk1 ah7 hd1 aJ8 ht _=>
  rcases hst with⟨he,hq⟩|⟨bJ3,he,hq⟩
  ·have:=congrArg Frame.mode he;simp[Frame.at]at this
  ·simp only[Frame.at,Frame.mk.injEq]at he;obtain⟨h1,h2,h3,h4,-⟩:=he;have:a1=a2:=by cases a1;cases a2;simp at h2 h4;subst h2 h4;rfl
   subst this;have e:({b1'.at a1' todo' with mode:=.returning}:Frame)={b.at a1' todo' with mode:=.returning}:=by
    rw[at_eq (hfn.trans h1) (ah7.trans hk.symm) a1' todo']
   rw[e];exact Jo ρ' a1 a1' s' st' todo' ai6 ht aJ8 ⟨τ,d,hq⟩ hH' hV' Df
end
end Cc
namespace Cc
open Go.Conc Go.ConcN
open Go.ConcM (OsLater)
section
open Go.ConcR (KK wgBlock WgAt stA smA rd wr mk)
theorem qJ(e:Event)(x:Touch)(h:(MemAct.ofEvent e).touch?=some x):(x=⟨e.loc,e.write,if e.sync then .atomic else .plain⟩/\∀m,e.loc≠ .mark m)\/(∃a,e.loc=.mark (.read a)/\x=⟨.cell a,false,.said⟩)\/(∃a,e.loc=.mark (.write a)/\x=⟨.cell a,true,.said⟩):=by
 obtain⟨l,w,s⟩:=e;cases l with
 |mark m=>cases m<;>first|(cases h;done)|(cases h;exact .inr (.inl ⟨_,rfl,rfl⟩))|(cases h;exact .inr (.inr ⟨_,rfl,rfl⟩))
 |obj c=>cases w<;>cases s<;>first|(cases h;done)|(cases h;exact .inl ⟨rfl,by simp⟩)
 |_=>cases h;exact .inl ⟨rfl,by simp⟩
theorem dZ{i:Nat}{fn:FuncId}{pos:String}{es:Array Event}{op:MemOp}(h:op∈MemOp.ofEvents i fn pos es):∃e∈es,op={g:=i,fn,pos,act:=.ofEvent e}:=by
 rw[ofEvents_eq]at h;obtain⟨e,he,rfl⟩:=Array.mem_map.1 h;exact⟨e,he,rfl⟩
theorem ou(e:Event)(m:Mark):MemAct.ofEvent e=.mark m↔e.loc=.mark m:=by
 obtain⟨l,w,s⟩:=e;cases l with
 |mark m'=>simp[MemAct.ofEvent]
 |obj c=>cases w<;>cases s<;>simp[MemAct.ofEvent]
 |_=>simp[MemAct.ofEvent]
theorem cu{d:Nat}{es:Array Event}(h:∀e∈es,e.loc≠ .mark .disable/\e.loc≠ .mark .enable):deafBehind d es=d:=by
 unfold deafBehind;refine Array.foldl_induction (motive:=fun _ (x:Nat)=>x=d) rfl fun i x hx=>?_
 subst hx;obtain⟨h1,h2⟩:=h es[i] (Array.getElem_mem _);split
 ·rename_i e;exact absurd e h1
 ·rename_i e;exact absurd e h2
 ·rfl
section
variable{q:ig}
theorem Base.step{st:St aJ}(h:Base q st){i:Nat}(hi:i<st.γ.num)(hio:i=0\/st.γ.old<=i){fn:FuncId}{pos:String}{es:Array Event}{w':World}{γ':aJ}(hsz:st.w.heap.size<=w'.heap.size)
  (htr:Ie (st.t++MemOp.ofEvents i fn pos es) γ'.num w'.heap.size γ'.ex γ'.rd γ'.sh)(hnum:γ'.num=st.γ.num)(hold:γ'.old=st.γ.old)(BR:∀b,γ'.dead b↔st.γ.dead b)(hsc:γ'.sc=st.γ.sc)
  (hos:OsLater st.w.os w'.os)(hout:w'.output=st.w.output)(hdm:γ'.dm=if i=0 then deafBehind st.γ.dm es else st.γ.dm)
  (hwk:∀j,j≠i->γ'.wk j=st.γ.wk j)(hdf:i≠0->(γ'.wk i).df=deafBehind (st.γ.wk i).df es)(hgo:i≠0->(γ'.wk i).wg≠ .gone)(hgo0:i=0->γ'.wk 0=st.γ.wk 0)
  (X9:∀g l,γ'.ex g l\/γ'.rd g l\/γ'.sh g l->g<γ'.num)(hsaid:i≠0->∀e∈es,∀x,(MemAct.ofEvent e).touch?=some x->x.kind≠ .said):Base q ⟨w',st.t++MemOp.ofEvents i fn pos es,γ'⟩:=by
 have hg:∀op∈MemOp.ofEvents i fn pos es,op.g=i:=fun op ho=>by obtain⟨e,_,rfl⟩:=dZ ho;rfl
 refine⟨by show 0<γ'.num;rw[hnum];exact h.pos,htr,Nat.le_trans h.Nu hsz,?_,fun j hj hj2=>?_,fun j hj=>?_,h.os.trans hos,hout.trans h.out,fun j hj hj2=>?_,fun b hb=>Nat.lt_of_lt_of_le (h.dead b ((BR b).1 hb)) hsz,fun k a ha hm=>?_,fun k g hk hne hlt hc=>?_,X9,fun j hj=>?_,fun j hj=>?_,fun k a ha hk=>?_,fun s hs=>?_⟩
 ·show Deaf (st.t++MemOp.ofEvents i fn pos es) 0=γ'.dm;rw[hdm];by_cases h0:i=0
  ·subst h0;rw[if_pos rfl,Deaf_own,h.dfm]
  ·rw[if_neg h0,Deaf_other st.t h0 _ hg,h.dfm]
 ·show Deaf (st.t++MemOp.ofEvents i fn pos es) j=(γ'.wk j).df;have hj2:j<γ'.num:=hj2;by_cases h0:j=i
  ·subst h0;rw[Deaf_own,h.TL j hj (by omega),hdf (by omega)]
  ·rw[Deaf_other st.t (Ne.symm h0) _ hg,h.TL j hj (by omega),hwk j h0]
 ·show j≠0/\j<γ'.num/\(γ'.wk j).df=0;have hj:(γ'.wk j).wg=.gone:=hj;rw[hnum];by_cases h0:j=i
  ·subst h0;by_cases hz:j=0
   ·subst hz;rw[hgo0 rfl]at hj ⊢;exact h.gone 0 hj
   ·exact absurd hj (hgo hz)
  ·rw[hwk j h0]at hj ⊢;exact h.gone j hj
 ·show(γ'.wk j).wg=.lv\/(γ'.wk j).wg=.gone;have hj2:j<γ'.old:=hj2;rw[hold]at hj2;have:j≠i:=by rcases hio with h0|h0<;>omega
  rw[hwk j this];exact h.old j hj hj2
 ·show(∃b,fE a.loc=some b/\γ'.dead b)\/Knows (st.t++MemOp.ofEvents i fn pos es) 0 k\/∃g,(st.t++MemOp.ofEvents i fn pos es).g? k=some g/\γ'.old<=g;rw[hold];rcases eu ha with⟨hlt,ha'⟩|⟨_,op,hop,hx,hxa⟩
  ·rcases h.know k a ha' hm with⟨b,h1,h2⟩|h1|⟨g,h1,h2⟩
   ·exact .inl ⟨b,h1,(BR b).2 h2⟩
   ·exact .inr (.inl (h1.app _))
   ·exact .inr (.inr ⟨g,by simp only[Trace.g?,getElem?_append_old hlt]at h1 ⊢;exact h1,h2⟩)
  ·have k1:=knows_own hx;rw[hg op hop]at k1;rcases hio with h0|h0
   ·subst h0;exact .inr (.inl k1)
   ·exact .inr (.inr ⟨i,by simp only[Trace.g?,hx,Option.map_some,hg op hop],h0⟩)
 ·have hlt:g<γ'.old:=hlt;rw[hold]at hlt;rcases Nat.lt_or_ge k st.t.size with hk2|hk2
  ·have hk':st.t.g? k=some g:=by simpa only[Trace.g?,getElem?_append_old hk2]using hk
   obtain⟨j,h1,h2⟩:=h.ho k g hk' hne hlt (by rw[counts_old hk2]at hc;exact hc);have hj:j<st.t.size:=by
    unfold Trace.g? at h1;obtain⟨op,ho,_⟩:=Option.map_eq_some_iff.1 h1;exact lt_size_of_getElem? ho
   exact⟨j,by simp only[Trace.g?,getElem?_append_old hj]at h1 ⊢;exact h1,hb_app _ h2⟩
  ·exfalso;obtain⟨op,ho,hog⟩:=Option.map_eq_some_iff.1 hk;rcases getElem?_append_cases ho with⟨hlt2,_⟩|⟨_,hou⟩
   ·omega
   ·have:=hg op hou;rcases hio with h0|h0<;>omega
 ·show(γ'.wk j).mx=.fresh\/(γ'.wk j).mx=.out;replace hj:j<γ'.old:=hj;rw[hold]at hj;by_cases e:j=i
  ·subst e;have h0:j=0:=by rcases hio with h0|h0;exact h0;omega
   subst h0;rw[hgo0 rfl];exact h.Xr 0 hj
  ·rw[hwk j e];exact h.Xr j hj
 ·show γ'.wk j=.new;replace hj:γ'.num<=j:=hj;rw[hwk j (by omega)];exact h.nw j (by omega)
 ·show(st.t++MemOp.ofEvents i fn pos es).g? k=some 0;rcases eu ha with⟨hlt,ha'⟩|⟨_,op,hop,hx,hxa⟩
  ·have:=h.said k a ha' hk;simp only[Trace.g?,getElem?_append_old hlt]at this ⊢;exact this
  ·by_cases h0:i=0
   ·subst h0;simp only[Trace.g?,hx,Option.map_some,hg op hop]
   ·obtain⟨e,he,rfl⟩:=dZ hop;exact absurd hk (hsaid h0 e he a hxa)
 ·have hs:γ'.sc=some s:=hs;rw[hsc]at hs;obtain⟨a,b,c⟩:=h.dsc s hs;exact⟨fun x=>a ((BR _).1 x),fun x=>b ((BR _).1 x),fun x=>c ((BR _).1 x)⟩
theorem Rl.other{st st':St aJ}{i j:Nat}(hij:j≠i){size:Nat}(A:QC st.w.heap.size st.γ.ex st.γ.rd st.γ.sh)(hsz:st.w.heap.size<=st'.w.heap.size)(hex:∀l,st.γ.ex j l->st'.γ.ex j l)(hrd:∀l,st.γ.rd j l->st'.γ.rd j l)
  (hb:∀b,st'.w.heap[b]?=st.w.heap[b]?\/st.w.heap.size<=b\/(∃off,st.γ.ex i (ca b off))\/((∃off,¬st.γ.ex j (ca b off))/\∃off,¬st.γ.rd j (ca b off)))
  (hwk:∀k,k≠i->st'.γ.wk k=st.γ.wk k)(hmain:i≠0->st'.γ.mw=st.γ.mw/\st'.γ.dm=st.γ.dm/\st'.γ.num=st.γ.num/\(∀b,st'.γ.dead b↔st.γ.dead b))(hsc:st'.γ.sc=st.γ.sc)
  (Nh:∀s,st.γ.sc=some s->Cc.phi st'.γ s<=Cc.phi st.γ s/\(Cc.phi st'.γ s=Cc.phi st.γ s->st'.γ.L=st.γ.L/\st'.γ.W=st.γ.W/\st'.γ.S=st.γ.S/\st'.γ.N=st.γ.N)/\(st.γ.D=1->st'.γ.D=1))
  (P8:∀s,st.γ.sc=some s->i≠0->Cc.qL st'.γ s<=Cc.qL st.γ s/\(Cc.qL st'.γ s=Cc.qL st.γ s->st'.γ.gs=st.γ.gs))
  (nI:(st.γ.wk j).mx=.own .work->st'.γ.D=st.γ.D/\∀s,st.γ.sc=some s->∀off,6<=off->off<16->st'.w.cell? ⟨s.Gb,off,none⟩=st.w.cell? ⟨s.Gb,off,none⟩)(Nl:j≠0->(st.γ.wk j).mx=.woken true->(st.γ.wk j).wg=.work->st.γ.N<=st'.γ.N)(hnum:st.γ.num<=st'.γ.num):Rl j st st':=by
 refine⟨hsz,fun _=>hex,fun _=>hrd,fun _ b hfull=>?_,fun _=>hwk j hij,fun hj=>hmain (by omega),fun _=>hsc,fun _ _ _ s hs=>Nh s hs,fun hj s hs=>P8 s hs (by omega),fun _ _ _ hw=>(nI hw).2,fun _ hw=>(nI hw).1,Nl,hnum⟩;rcases hb b with h1|h1|⟨off,h1⟩|⟨⟨o1,h1⟩,o2,h2⟩
 ·exact h1
 ·rcases hfull with hf|hf
  ·have:=A.low j _ (hf 0) b rfl;omega
  ·have:=A.zf j _ (hf 0) b rfl;omega
 ·rcases hfull with hf|hf
  ·exact absurd (A.ee _ _ _ (hf off) h1) hij
  ·exact absurd (hf off) (A.er _ _ _ h1)
 ·rcases hfull with hf|hf
  ·exact absurd (hf o1) h1
  ·exact absurd (hf o2) h2
theorem BD.app{s:aO}{st:St aJ}(h:BD s st){w':World}{γ':aJ}{i:Nat}{u:Trace}(hu:∀op∈u,op.g=i)(hD:γ'.D=st.γ.D)(hnum:γ'.num=st.γ.num)
  (nI:(∀j,(γ'.wk j).mx≠ .own .work)->∀j,(st.γ.wk j).mx≠ .own .work)(hwg:∀j,s.n0<=j->j<st.γ.num->(γ'.wk j).wg≠ .work->(st.γ.wk j).wg≠ .work)
  (hS:∀op∈u,∀x,op.act.touch?=some x->(∀off,6<=off->off<16->x.loc≠ca s.Gb off)/\(x.loc=ca s.Gb 3->x.write=false))
  (hr:s.n0<=i->(st.γ.wk i).wg≠ .work->∀k,st.t.size<=k->(st.t++u).g? k=some i->¬(st.t++u).counts k/\∀a,touchAt (st.t++u) k=some a->fE a.loc=some s.Wg):BD s ⟨w',st.t++u,γ'⟩:=by
 refine⟨fun h0 h1 g hg off o1 o2=>?_,fun h1=>?_,fun j hj hj2 hw=>?_⟩
 ·have h0:γ'.D=0:=h0;have hm:Mem s st.γ g:=by unfold Mem at hg ⊢;rw[hnum]at hg;exact hg
  exact(h.sh0 (by omega) (nI h1) g hm off o1 o2).app fun op hop b hb e=>absurd e ((hS op hop b hb).1 off o1 o2)
 ·have h1:γ'.D=1:=h1;obtain⟨p,p1,p2,p3⟩:=h.sh1 (by omega);have hp:=lt_of_act? p1.1;refine⟨p,p1.app fun op hop sync e=>?_,(heard_old hp).2 p2,fun off o1 o2 k a ha e hw=>?_⟩
  ·have:op.act.touch?=some ⟨ca s.Gb 3,true,if sync then .atomic else .plain⟩:=by rw[e];rfl
   have:=(hS op hop _ this).2 rfl;cases this
  ·rcases eu ha with⟨hlt,ha'⟩|⟨_,op,hop,hx,hxa⟩
   ·exact(p3 off o1 o2 k a ha' e hw).app _
   ·exact absurd e ((hS op hop a hxa).1 off o1 o2)
 ·have hj2:j<γ'.num:=hj2;obtain⟨r,r1,r2⟩:=h.rel j hj (by omega) (hwg j hj (by omega) hw);refine⟨r,r1.app fun k hk hg=>?_,fun k a hrk hg ha=>?_⟩
  ·by_cases e:j=i
   ·subst e;exact(hr hj (hwg j hj (by omega) hw) k hk hg).1
   ·exfalso;obtain⟨op,ho,hog⟩:=Option.map_eq_some_iff.1 hg;rcases getElem?_append_cases ho with⟨hlt2,_⟩|⟨_,hou⟩
    ·omega
    ·exact e (hog.symm.trans (hu op hou))
  ·rcases Nat.lt_or_ge k st.t.size with hlt|hge
   ·exact r2 k a hrk (by simpa only[Trace.g?,getElem?_append_old hlt]using hg) (by rw[touchAt_old hlt]at ha;exact ha)
   ·by_cases e:j=i
    ·subst e;exact(hr hj (hwg j hj (by omega) hw) k hge hg).2 a ha
    ·exfalso;obtain⟨op,ho,hog⟩:=Option.map_eq_some_iff.1 hg;rcases getElem?_append_cases ho with⟨hlt2,_⟩|⟨_,hou⟩
     ·omega
     ·exact e (hog.symm.trans (hu op hou))
theorem lt_of_block{w:World}{b:Nat}{o:Obj}(h:w.heap[b]?=some o):b<w.heap.size:=(Array.getElem?_eq_some_iff.1 h).1
theorem dX.SS{s:aO}{st:St aJ}(h:dX q s st):s.Gb<st.w.heap.size/\s.Wg<st.w.heap.size/\s.Zb<st.w.heap.size/\s.Rb<st.w.heap.size:=by
 obtain⟨C,h1,_⟩:=h.gb;obtain⟨Z,h2,_⟩:=h.zb;obtain⟨R,h3,_⟩:=h.rb;exact⟨lt_of_block h1,lt_of_block h.qV,lt_of_block h2,lt_of_block h3⟩
def aJ.grow(γ:aJ)(i size size':Nat):aJ:={γ with ex:=Fa γ.ex i size size'}
theorem tX.grow{s:aO}{γ:aJ}(h:tX s γ){i size size':Nat}(hl:s.Gb<size/\s.Wg<size/\s.Zb<size/\s.Rb<size):tX s (γ.grow i size size'):=by
 obtain⟨l1,l2,l3,l4⟩:=hl;have nf:∀{g b off},(b=s.Gb\/b=s.Wg\/b=s.Zb\/b=s.Rb)->Fa γ.ex i size size' g (ca b off)->γ.ex g (ca b off):=by
  intro g b off hb h;rcases h with h|⟨_,c,hc,h1,h2⟩
  ·exact h
  ·have:c=b:=by unfold ca fE at hc;simpa using hc.symm
   subst this;rcases hb with rfl|rfl|rfl|rfl<;>omega
 refine⟨fun g b hb=>?_,fun k k1 k2 k3=>⟨.inl (h.J3 k k1 k2 k3).1,.inl (h.J3 k k1 k2 k3).2⟩,fun k k1 k2=>⟨.inl (h.Qj k k1 k2).1,.inl (h.Qj k k1 k2).2⟩,h.OE,h.OC,fun j hj off o1 o2=>.inl (h.exS j hj off o1 o2),h.Xc,fun h0 g off o1 o2=>?_⟩
 ·obtain⟨⟨o1,h1⟩,o2,h2⟩:=h.spec g b hb;exact⟨⟨o1,fun x=>h1 (nf hb x)⟩,o2,h2⟩
 ·obtain⟨h1,h2,h3⟩:=h.noS h0 g off o1 o2;exact⟨fun x=>h1 (nf (.inl rfl) x),h2,h3⟩
theorem Inv.own{st:St aJ}(h:Inv q st){i:Nat}(hi:i<st.γ.num)(hio:i=0\/st.γ.old<=i)(hwg:i≠0->(st.γ.wk i).wg=.work){fn:FuncId}{pos:String}{es:Array Event}{w':World}(hsz:st.w.heap.size<=w'.heap.size)
  (hmay:∀e∈es,∀x,(MemAct.ofEvent e).touch?=some x->May st.w.heap.size st.γ.ex st.γ.rd st.γ.sh i x/\∀b,fE x.loc=some b->b<w'.heap.size)(hmk:∀e∈es,e.loc≠ .mark .disable/\e.loc≠ .mark .enable/\∀a,e.loc≠ .mark (.release a))(hsaid:i≠0->∀e∈es,∀x,(MemAct.ofEvent e).touch?=some x->x.kind≠ .said)
  (hos:OsLater st.w.os w'.os)(hout:w'.output=st.w.output)(hblk:∀b,b<st.w.heap.size->w'.heap[b]?=st.w.heap[b]?\/∀off,st.γ.ex i (ca b off))
  (hS:∀s,st.γ.sc=some s->∀e∈es,∀x,(MemAct.ofEvent e).touch?=some x->(∀off,6<=off->off<16->x.loc≠ca s.Gb off)/\(x.loc=ca s.Gb 3->x.write=false)):
  Inv q ⟨w',st.t++MemOp.ofEvents i fn pos es,st.γ.grow i st.w.heap.size w'.heap.size⟩/\∀j,j≠i->Rl j st ⟨w',st.t++MemOp.ofEvents i fn pos es,st.γ.grow i st.w.heap.size w'.heap.size⟩:=by
 have A:=h.base.tr.Ic;have htr:Ie (st.t++MemOp.ofEvents i fn pos es) st.γ.num w'.heap.size (Fa st.γ.ex i st.w.heap.size w'.heap.size) st.γ.rd st.γ.sh:=by
  refine h.base.tr.step hsz hi (fun op ho=>?_) (fun op ho x hx=>?_) (fun op ho x hx b hb=>?_) (fun op ho a e=>?_)
  all_goals(obtain⟨e',he,rfl⟩:=dZ ho)
  ·rfl
  ·exact(hmay e' he x hx).1
  ·exact(hmay e' he x hx).2 b hb
  ·exact(hmk e' he).2.2 a ((ou e' _).1 e)
 have hq:=fun d=>cu (d:=d) fun e he=>⟨(hmk e he).1,(hmk e he).2.1⟩
 have hsame:∀s,st.γ.sc=some s->∀b,(b=s.Gb\/b=s.Wg\/b=s.Zb\/b=s.Rb)->w'.heap[b]?=st.w.heap[b]?:=fun s hs b hb=>by
  have hl:=(h.aZ s hs).c.SS;have hlt:b<st.w.heap.size:=by rcases hb with rfl|rfl|rfl|rfl<;>omega
  rcases hblk b hlt with h1|h1
  ·exact h1
  ·obtain⟨⟨o,h2⟩,_⟩:=(h.aZ s hs).p.spec i b hb;exact absurd (h1 o) h2
 refine⟨⟨h.base.step hi hio hsz htr rfl rfl (fun _=>.rfl) rfl hos hout ?_ (fun _ _=>rfl) (fun _=>(hq _).symm) (fun h0=>?_) (fun _=>rfl) (fun g l hl=>?_) hsaid,h.solo,fun s hs=>?_⟩,fun j hj=>?_⟩
 ·show st.γ.dm=_;rw[hq];split<;>rfl
 ·show(st.γ.wk i).wg≠ .gone;rw[hwg h0];simp
 ·rcases hl with(hl|⟨rfl,_⟩)|hl
  ·exact h.base.pool g l (.inl hl)
  ·exact hi
  ·exact h.base.pool g l (.inr hl)
 ·obtain⟨c,p,t⟩:=h.aZ s hs;have e1:=hsame s hs s.Gb (.inl rfl);have e2:=hsame s hs s.Wg (.inr (.inl rfl));have e3:=hsame s hs s.Zb (.inr (.inr (.inl rfl)));have e4:=hsame s hs s.Rb (.inr (.inr (.inr rfl)));refine⟨⟨c.n0,?_,e2.trans c.qV,?_,?_,c.ne,c.mu,c.D1,c.work,c.dn,c.syn,c.new,c.on,c.fin,c.all,c.uh⟩,p.grow c.SS,t.app (i:=i) (fun op ho=>?_) rfl rfl id (fun _ _ _ h=>h) (fun op ho x hx=>?_) fun hn hw=>?_⟩
  ·obtain⟨C,h1,h2⟩:=c.gb;exact⟨C,e1.trans h1,h2⟩
  ·obtain⟨C,h1,h2⟩:=c.zb;exact⟨C,e3.trans h1,h2⟩
  ·obtain⟨C,h1,h2⟩:=c.rb;exact⟨C,e4.trans h1,h2⟩
  ·obtain⟨e',he,rfl⟩:=dZ ho;rfl
  ·obtain⟨e',he,rfl⟩:=dZ ho;exact hS s hs e' he x hx
  ·exact absurd (hwg (by have:=c.n0.1;omega)) hw
 ·refine Rl.other hj (size:=0) A hsz (fun l hl=>.inl hl) (fun l hl=>hl) (fun b=>?_) (fun _ _=>rfl) (fun _=>⟨rfl,rfl,rfl,fun _=>.rfl⟩) rfl (fun s hs=>⟨Nat.le_refl _,fun _=>⟨rfl,rfl,rfl,rfl⟩,id⟩) (fun s hs _=>⟨Nat.le_refl _,fun _=>rfl⟩) (fun hw=>⟨rfl,fun s hs off o1 o2=>?_⟩) (fun _ _ _=>Nat.le_refl _) (Nat.le_refl _)
  ·rcases Nat.lt_or_ge b st.w.heap.size with hlt|hge
   ·rcases hblk b hlt with h1|h1
    ·exact .inl h1
    ·exact .inr (.inr (.inl ⟨0,h1 0⟩))
   ·exact .inr (.inl hge)
  ·show w'.cell? _=_;unfold World.cell?;rw[hsame s hs s.Gb (.inl rfl)]
variable(q) in
def DW(i:Nat)(ro:Nat->Md)(ρ:Nat->Option Nat)(st:St aJ):Prop:=
 i<st.γ.num/\(i=0\/(st.γ.wk i).wg=.work/\∃s,st.γ.sc=some s/\s.n0<=i)/\∀b c,ρ b=some c->match ro b with
  |.all=>∀l,fE l=some c->l.isMemory=true->st.γ.ex i l
  |.read n=>(∀off,st.γ.rd i (ca c off))\/(∀off,st.γ.ex i (ca c off))\/(n<=3/\∃s,st.γ.sc=some s/\c=s.Gb/\∃C:Array Value,st.w.heap[c]?=some (.cells C q.tG)/\3<=C.size/\C[0]?=some s.g0/\C[1]?=some s.g1/\C[2]?=some s.g2)
  |.part _=>False
theorem Tz{γ:aJ}{i c:Nat}(h:∀l,fE l=some c->l.isMemory=true->γ.ex i l)(off:Nat):γ.ex i (ca c off):=h _ rfl rfl
theorem dX.head{s:aO}{st:St aJ}(h:dX q s st):∃C:Array Value,st.w.heap[s.Gb]?=some (.cells C q.tG)/\3<=C.size/\C[0]?=some s.g0/\C[1]?=some s.g1/\C[2]?=some s.g2:=by
 obtain⟨C,h1,h2,h3,h4,h5,_⟩:=h.gb;exact⟨C,h1,by omega,h3,h4,h5⟩
theorem Ep(S:FuncId->Bool)(i:Nat)(ro:Nat->Md){ρ:Nat->Option Nat}{st:St aJ}{s:World}{xu:Nat->Option Nat}{s1 w1:World}{es:Array Event}(fn:FuncId)(pos:String)(hV:DW q i ro ρ st)(hi:Inv q st)(m:Mv q.P.globals.size (fun f=>S f=true) ro ρ s st.w xu s1 w1 es):
  Inv q ⟨w1,st.t++MemOp.ofEvents i fn pos es,st.γ.grow i st.w.heap.size w1.heap.size⟩/\(∀j,j≠i->Rl j st ⟨w1,st.t++MemOp.ofEvents i fn pos es,st.γ.grow i st.w.heap.size w1.heap.size⟩)/\
   DW q i ro xu ⟨w1,st.t++MemOp.ofEvents i fn pos es,st.γ.grow i st.w.heap.size w1.heap.size⟩:=by
 obtain⟨h1,h2,h3⟩:=id hV;have hold:i=0\/st.γ.old<=i:=h2.imp id fun⟨_,s,hs,hn⟩=>by unfold aJ.old;rw[hs];exact hn
 have hmem:∀s₀,st.γ.sc=some s₀->Mem s₀ st.γ i:=fun s₀ hs₀=>h2.imp id fun⟨_,s,hs,hn⟩=>by rw[hs₀]at hs;cases hs;exact⟨hn,h1⟩
 have xY:∀e∈es,∀x,(MemAct.ofEvent e).touch?=some x->(∃c,fE x.loc=some c/\x.loc.isMemory=true/\c<w1.heap.size/\((st.γ.ex i x.loc/\∀off,st.γ.ex i (ca c off))\/(x.write=false/\st.γ.rd i x.loc/\((∀off,st.γ.rd i (ca c off))\/∃s₀ off,st.γ.sc=some s₀/\off<3/\x.loc=ca s₀.Gb off))\/st.w.heap.size<=c)):=by
  intro e he x hx;have lt1:∀b c,xu b=some c->c<w1.heap.size:=fun b c hb=>by obtain⟨_,o',_,r2,_⟩:=m.hr.row b c hb;exact lt_of_block r2
  rcases m.evs e he with⟨a,b,xw,rfl,hb,hl,hg,hsp⟩|rfl|⟨c,b,rfl,hb,hall⟩
  ·have hx:x=⟨.cell a,xw,.plain⟩:=by cases hx;rfl
   subst hx;have hca:(Loc.cell a)=ca a.block a.off:=by unfold ca;cases a;simp at hsp;subst hsp;rfl
   refine⟨a.block,rfl,rfl,lt1 b _ hb,?_⟩;rcases m.fresh b _ hb with hb'|⟨hge,_⟩
   ·have hv:=h3 b _ hb';cases hm:ro b with
    |all=>rw[hm]at hv;exact .inl ⟨hv _ rfl rfl,fun off=>Tz hv off⟩
    |read n=>
     rw[hm]at hv hl hg;have hxw:xw=false:=by cases xw with
      |false=>rfl
      |true=>exact(hl rfl).elim
     subst hxw;rcases hv with hv|hv|⟨hn,s₀,hs,hc,_⟩
     ·refine .inr (.inl ⟨rfl,?_,.inl hv⟩);show st.γ.rd i (.cell a);rw[hca];exact hv _
     ·exact .inl ⟨by show st.γ.ex i (.cell a);rw[hca];exact hv _,hv⟩
     ·have ho:a.off<3:=by have:a.off<n:=hg;omega
      refine .inr (.inl ⟨rfl,?_,.inr ⟨s₀,a.off,hs,ho,by rw[<-hc];exact hca⟩⟩);show st.γ.rd i (.cell a);rw[hca,hc];exact(hi.aZ s₀ hs).p.OE i (hmem s₀ hs) _ ho
    |part f=>rw[hm]at hv;exact hv.elim
   ·exact .inr (.inr hge)
  ·cases hx
  ·have hx:x=⟨.obj c,false,.plain⟩:=by cases hx;rfl
   subst hx;refine⟨c,rfl,rfl,lt1 b _ hb,?_⟩;rcases m.fresh b _ hb with hb'|⟨hge,_⟩
   ·have hv:=h3 b _ hb';rw[hall]at hv;exact .inl ⟨hv _ rfl rfl,fun off=>Tz hv off⟩
   ·exact .inr (.inr hge)
 have mk3:∀e∈es,e.loc≠ .mark .disable/\e.loc≠ .mark .enable/\∀a,e.loc≠ .mark (.release a):=by
  intro e he;rcases m.evs e he with⟨a,b,xw,rfl,_⟩|rfl|⟨c,b,rfl,_⟩<;>simp
 have hA:∀e∈es,∀x,(MemAct.ofEvent e).touch?=some x->May st.w.heap.size st.γ.ex st.γ.rd st.γ.sh i x/\∀b,fE x.loc=some b->b<w1.heap.size:=by
  intro e he x hx;obtain⟨c,hc,hmm,hlt,h⟩:=xY e he x hx;refine⟨?_,fun b hb=>by rw[hc]at hb;cases hb;exact hlt⟩;rcases h with h|⟨h4,h5,_⟩|h
  ·exact .inr (.inl h.1)
  ·exact .inr (.inr (.inl ⟨h5,h4⟩))
  ·exact .inr (.inr (.inr (.inr ⟨c,hc,h⟩)))
 have hB:∀c,c<st.w.heap.size->w1.heap[c]?=st.w.heap[c]?\/∀off,st.γ.ex i (ca c off):=by
  intro c hc;by_cases hex:∃b,ρ b=some c/\ro b=.all
  ·obtain⟨b,hb,hall⟩:=hex;have hv:=h3 b c hb;rw[hall]at hv;exact .inr fun off=>Tz hv off
  ·refine .inl (m.keep c hc fun b hb=>?_);have hv:=h3 b c hb;cases hm:ro b with
   |all=>exact absurd ⟨b,hb,hm⟩ hex
   |read n=>rfl
   |part f=>rw[hm]at hv;exact hv.elim
 have hS:∀s₀,st.γ.sc=some s₀->∀e∈es,∀x,(MemAct.ofEvent e).touch?=some x->(∀off,6<=off->off<16->x.loc≠ca s₀.Gb off)/\(x.loc=ca s₀.Gb 3->x.write=false):=by
  intro s₀ hs e he x hx;obtain⟨c,hc,hmm,hlt,h⟩:=xY e he x hx;have hl:=(hi.aZ s₀ hs).c.SS;have sp:=(hi.aZ s₀ hs).p.spec i s₀.Gb (.inl rfl);have hcb:∀off,x.loc=ca s₀.Gb off->c=s₀.Gb:=fun off e=>by rw[e]at hc;unfold ca fE at hc;simpa using hc.symm
  rcases h with h|⟨h4,_,h5⟩|h
  ·obtain⟨⟨o,ho⟩,_⟩:=sp;exact⟨fun off _ _ e=>ho (by rw[<-hcb off e];exact h.2 o),fun e=>absurd (by rw[<-hcb 3 e];exact h.2 o) ho⟩
  ·refine⟨fun off o1 o2 e=>?_,fun _=>h4⟩;rcases h5 with h5|⟨s₁,off',hs₁,ho',e'⟩
   ·obtain⟨_,o,ho⟩:=sp;exact ho (by rw[<-hcb off e];exact h5 o)
   ·rw[hs]at hs₁;cases hs₁;rw[e]at e';unfold ca at e';simp at e';omega
  ·exact⟨fun off _ _ e=>by have:=hcb off e;omega,fun e=>by have:=hcb 3 e;omega⟩
 have hsd:i≠0->∀e∈es,∀x,(MemAct.ofEvent e).touch?=some x->x.kind≠ .said:=by
  intro _ e he x hx;rcases m.evs e he with⟨a,b,xw,rfl,_⟩|rfl|⟨c,b,rfl,_⟩
  ·cases hx;simp
  ·cases hx
  ·cases hx;simp
 obtain⟨hInv,hRl⟩:=hi.own h1 hold (fun h0=>(h2.resolve_left h0).1) (fn:=fn) (pos:=pos) (es:=es) (w':=w1) m.size hA mk3 hsd (by rw[m.os];exact .refl _) m.output hB hS;refine⟨hInv,hRl,?_⟩;refine⟨h1,h2,fun b c hb=>?_⟩;rcases m.fresh b c hb with hb'|⟨hge,hall⟩
 ·have hv:=h3 b c hb';cases hm:ro b with
  |all=>rw[hm]at hv;exact fun l hl hl2=>.inl (hv l hl hl2)
  |read n=>
   rw[hm]at hv;rcases hv with hv|hv|⟨hn,s₀,hs,hc,_⟩
   ·exact .inl hv
   ·exact .inr (.inl fun off=>.inl (hv off))
   ·subst hc;exact .inr (.inr ⟨hn,s₀,hs,rfl,(hInv.aZ s₀ hs).c.head⟩)
  |part f=>rw[hm]at hv;exact hv
 ·rw[hall];intro l hl hl2;obtain⟨_,o',_,r2,_⟩:=m.hr.row b c hb;exact .inr ⟨rfl,c,hl,hge,lt_of_block r2⟩
theorem Dx(S:FuncId->Bool)(i:Nat)(ro:Nat->Md):Own (cfg q) S ro i (DW q i ro)where
 stable:=fun ρ st ah ⟨h1,h2,h3⟩ hr hi=>by
  have hr:Rl i st ah:=hr;have hi:Inv q ah:=hi;have hsc:ah.γ.sc=st.γ.sc:=hr.sc (h2.imp id fun h=>by rw[h.1];simp);have hl:Live i st:=h2.imp id fun h=>by rw[h.1];simp
  have keep:∀b c,ρ b=some c->(ro b=.all\/∃n,ro b=.read n/\∀off,st.γ.rd i (ca c off))->ah.w.heap[c]?=st.w.heap[c]?:=fun b c hb hc=>by
   have:=h3 b c hb;rcases hc with hc|⟨n,hc,hf⟩
   ·rw[hc]at this;exact hr.blk hl c (.inl fun off=>Tz this off)
   ·exact hr.blk hl c (.inr hf)
  refine⟨⟨?_,?_,fun b c hb=>?_⟩,fun s hH=>⟨hH.inj,fun b c hb=>?_,hH.hole,hH.low,hH.gs,hi.base.Nu⟩⟩
  ·rcases h2 with rfl|⟨hw,s,hs,hn⟩
   ·exact hi.base.pos
   ·have hc:=(hi.aZ s (hsc.trans hs)).c;have hne:i≠0:=by have:=hc.n0.1;omega
    refine Nat.lt_of_not_le fun hge=>?_
    have:=hc.new i hge;rw[hr.me hne]at this;rw[this]at hw;cases hw
  ·by_cases h0:i=0
   ·exact .inl h0
   ·rcases h2 with h2|⟨hw,s,hs,hn⟩
    ·exact absurd h2 h0
    ·exact .inr ⟨by rw[hr.me h0];exact hw,s,hsc.trans hs,hn⟩
  ·have hv:=h3 b c hb;cases hm:ro b with
   |all=>rw[hm]at hv;exact fun l hl' hl2=>hr.ex hl l (hv l hl' hl2)
   |read n=>
    rw[hm]at hv;rcases hv with hv|hv|⟨hn,s,hs,rfl,_⟩
    ·exact .inl fun off=>hr.rd hl _ (hv off)
    ·exact .inr (.inl fun off=>hr.ex hl _ (hv off))
    ·exact .inr (.inr ⟨hn,s,hsc.trans hs,rfl,(hi.aZ s (hsc.trans hs)).c.head⟩)
   |part f=>rw[hm]at hv;exact hv
  ·obtain⟨o,o',r1,r2,r3⟩:=hH.row b c hb;have hv:=h3 b c hb;cases hm:ro b with
   |all=>exact⟨o,o',r1,(keep b c hb (.inl hm)).trans r2,by rw[hm]at r3;exact r3⟩
   |read n=>
    rw[hm]at hv;rcases hv with hv|hv|⟨hn,s₀,hs,rfl,C,c1,c2,c3,c4,c5⟩
    ·exact⟨o,o',r1,(keep b c hb (.inr ⟨n,hm,hv⟩)).trans r2,by rw[hm]at r3;exact r3⟩
    ·exact⟨o,o',r1,(hr.blk hl c (.inl hv)).trans r2,by rw[hm]at r3;exact r3⟩
    ·obtain⟨C',d1,d2,d3,d4,d5⟩:=(hi.aZ s₀ (hsc.trans hs)).c.head;refine⟨o,_,r1,d1,?_⟩;rw[r2]at c1;cases c1;rw[hm]at r3;cases r3 with
     |cells k3 k4 k5 k6=>
      have hsz:=k6 n rfl;refine .cells (by omega) (fun j v hv=>?_) (fun e=>by cases e) k6;obtain⟨v',hv',hr'⟩:=k4 j v hv;have hlt:=(Array.getElem?_eq_some_iff.1 hv).1;refine⟨v',?_,hr'⟩
      match j,hlt with
      |0,_=>rw[c3]at hv';rw[d3];exact hv'
      |1,_=>rw[c4]at hv';rw[d4];exact hv'
      |2,_=>rw[c5]at hv';rw[d5];exact hv'
      |j+3,hlt=>omega
   |part f=>rw[hm]at hv;exact hv.elim
 lv:=fun ρ st ⟨h1,h2,h3⟩ hl=>by
  rcases h2 with h2|⟨hw,_⟩
  ·exact hl.1 h2
  ·rcases hl.2 with e|e<;>rw[hw]at e<;>cases e
 step:=fun ρ st s xu s1 w1 es fn pos hV hi m=>by
  obtain⟨a,b,c⟩:=Ep S i ro fn pos hV hi m;exact⟨st.γ.grow i st.w.heap.size w1.heap.size,a,rfl,b,fun k hk hw=>hw,c⟩
end
end
section
open Go.ConcR (KK wgBlock WgAt stA smA rd wr mk DC0)
theorem stp{P:Program}{m:Bool}{R:World->World->Prop}{D:World->World->Array Event->Prop}{F:Goroutine->Prop}{n:Nat}{g:Goroutine}{w:World}(hs:g.status=.running)(h:F g):Goes P m R D (fun g' _=>g'.status=.running/\F g') n g w:=Goes.stop fun _ _=>⟨hs,h⟩
section
variable{Γ:Type}{C:VT Γ}{i:Nat}{Ch:Nat->Goroutine->St Γ->Prop}
theorem TT.walk(ok:C.Ok){F:World->Prop}{st:St Γ}(hF:∀ah,C.Rel i st ah->C.Inv ah->F ah.w)(hlv:∀ah,C.Rel i st ah->C.Inv ah->¬C.Lv i ah):∀(n:Nat) (g:Goroutine) (w:World),
  Goes C.P (i==0) (fun _ w₁=>F w₁) DC0 (fun g' _=>g'.status=.running/\TT C i Ch g' st) n g w->TT C i Ch g st
 |0,g,w,h=>TT.step fun ah hr hi=>(h ah.w (hF ah hr hi)).2.elim ah hr hi
 |n+1,g,w,h=>by
  rcases h with h|⟨hs,h⟩
  ·exact TT.step fun ah hr hi=>(h ah.w (hF ah hr hi)).2.elim ah hr hi
  ·refine TT.step fun ah hr hi=>⟨fun hl=>absurd hl (hlv ah hr hi),?_⟩
   have h1:=h ah.w (hF ah hr hi);cases hg:stepG C.P (i==0) g ah.w with
   |go g' w' es=>
    rw[hg]at h1;simp only[goes_go]at h1;obtain⟨⟨rfl,rfl⟩,h2⟩:=h1;have hrun:g'.status=.running:=by
     cases n with
     |zero=>exact(h2 ah.w (hF ah hr hi)).1
     |succ n=>exact h2.elim (fun h2=>(h2 ah.w (hF ah hr hi)).1) fun h2=>h2.1
    have ih:=TT.walk ok hF hlv n g' ah.w h2;have e:(⟨ah.w,ah.t++MemOp.ofEvents i g.frame.fn g.frame.place #[],ah.γ⟩:St Γ)=ah:=by rw[ofEvents_none,Array.append_empty]
    unfold iI;rw[hg];refine .inr ⟨ah.γ,by rw[e];exact hi,by rw[e],fun j hj=>by rw[e];exact ok.refl j ah,.inr fun k _ hw=>by rw[e];exact hw,?_⟩;rw[e];exact .inl ⟨hrun,ih.rely (ok.trans i) hr⟩
   |_=>rw[hg]at h1;exact h1.elim
end
section
variable{q:ig}{i:Nat}{Ch:Nat->Goroutine->St aJ->Prop}
theorem TT.act{g:Goroutine}{st:St aJ}(h:∀ah,Rl i st ah->Inv q ah->¬Lvs i ah/\∃g' w' es γ',stepG q.P (i==0) g ah.w=.go g' w' es/\g'.status=.running/\γ'.num=ah.γ.num/\
   (Inv q ⟨w',ah.t++MemOp.ofEvents i g.frame.fn g.frame.place es,γ'⟩/\∀j,j≠i->Rl j ah ⟨w',ah.t++MemOp.ofEvents i g.frame.fn g.frame.place es,γ'⟩)/\
   (mayWake q.P g=true\/∀k,k≠i->Wt k ah->Wt k ⟨w',ah.t++MemOp.ofEvents i g.frame.fn g.frame.place es,γ'⟩)/\TT (cfg q) i Ch g' ⟨w',ah.t++MemOp.ofEvents i g.frame.fn g.frame.place es,γ'⟩):TT (cfg q) i Ch g st:=
 TT.step fun ah hr hi=>by
  obtain⟨hl,g',w',es,γ',h1,h2,h3,⟨h4,h5⟩,h6,h7⟩:=h ah hr hi;exact⟨fun x=>absurd x hl,iI.own (C:=cfg q) h1 h2 h4 h3 h5 h6 h7⟩
def EvS(s:aO)(i:Nat)(e:Event):Prop:=
 (∃b off x,e=⟨ca b off,x,true⟩/\((b=s.Gb/\3<=off/\off<6)\/(b=s.Wg/\off<2)))\/(∃m,e.loc=.mark m/\(∀a,m≠ .release a)/\(∀a,m≠ .read a)/\∀a,m≠ .write a)\/(i=0/\∃off,off<2/\(e.loc=.mark (.read ⟨s.Wg,off,none⟩)\/e.loc=.mark (.write ⟨s.Wg,off,none⟩)))
theorem EvS.touch{s:aO}{e:Event}(h:EvS s i e){x:Touch}(hx:(MemAct.ofEvent e).touch?=some x):(∃b off,x.loc=ca b off/\x.kind=.atomic/\((b=s.Gb/\3<=off/\off<6)\/(b=s.Wg/\off<2))/\e=⟨ca b off,x.write,true⟩)\/
  (i=0/\∃off,off<2/\x.loc=ca s.Wg off/\x.kind=.said):=by
 rcases h with⟨b,off,xw,rfl,hb⟩|⟨m,hm,h1,h2,h3⟩|⟨h0,off,ho,hm⟩
 ·rcases qJ _ _ hx with⟨rfl,_⟩|⟨a,ha,_⟩|⟨a,ha,_⟩
  ·exact .inl ⟨b,off,rfl,rfl,hb,rfl⟩
  ·cases ha
  ·cases ha
 ·rcases qJ _ _ hx with⟨_,hn⟩|⟨a,ha,_⟩|⟨a,ha,_⟩
  ·exact absurd hm (hn m)
  ·rw[hm]at ha;cases ha;exact absurd rfl (h2 a)
  ·rw[hm]at ha;cases ha;exact absurd rfl (h3 a)
 ·rcases qJ _ _ hx with⟨_,hn⟩|⟨a,ha,rfl⟩|⟨a,ha,rfl⟩
  ·rcases hm with hm|hm<;>exact absurd hm (hn _)
  ·rcases hm with hm|hm<;>rw[hm]at ha<;>cases ha
   exact .inr ⟨h0,off,ho,rfl,rfl⟩
  ·rcases hm with hm|hm<;>rw[hm]at ha<;>cases ha
   exact .inr ⟨h0,off,ho,rfl,rfl⟩
structure bm5(γ' γ:aJ):Prop where
 ex:γ'.ex=γ.ex
 rd:γ'.rd=γ.rd
 sh:γ'.sh=γ.sh
 dead:γ'.dead=γ.dead
 sc:γ'.sc=γ.sc
 num:γ'.num=γ.num
theorem Inv.act{st:St aJ}(h:Inv q st){s:aO}(hs:st.γ.sc=some s)(hi:Mem s st.γ i){fn:FuncId}{pos:String}{es:Array Event}{w':World}{γ':aJ}(hF:bm5 γ' st.γ)(hev:∀e∈es,EvS s i e)(hg3:∀e∈es,e≠⟨ca s.Gb 3,true,true⟩)
  (hsz:w'.heap.size=st.w.heap.size)(hblk:∀b,b≠s.Gb->b≠s.Wg->w'.heap[b]?=st.w.heap[b]?)(hsh:∀off,6<=off->off<16->w'.cell? ⟨s.Gb,off,none⟩=st.w.cell? ⟨s.Gb,off,none⟩)(hos:OsLater st.w.os w'.os)(hout:w'.output=st.w.output)
  (hwk:∀j,j≠i->γ'.wk j=st.γ.wk j)(hmw:i≠0->γ'.mw=st.γ.mw/\γ'.dm=st.γ.dm)(h0:i=0->γ'.dm=deafBehind st.γ.dm es/\γ'.wk 0=st.γ.wk 0/\γ'.mw≠ .solo)(hdf:i≠0->(γ'.wk i).df=deafBehind (st.γ.wk i).df es/\(γ'.wk i).wg≠ .gone)
  (hC:dX q s ⟨w',st.t++MemOp.ofEvents i fn pos es,γ'⟩)(hP:tX s γ')(hD:γ'.D=st.γ.D)(nI:(∀j,(γ'.wk j).mx≠ .own .work)->∀j,(st.γ.wk j).mx≠ .own .work)(hwg:(γ'.wk i).wg≠ .work->s.n0<=i->(st.γ.wk i).wg≠ .work)
  (hr:s.n0<=i->(st.γ.wk i).wg≠ .work->∀k,st.t.size<=k->(st.t++MemOp.ofEvents i fn pos es).g? k=some i->¬(st.t++MemOp.ofEvents i fn pos es).counts k/\∀a,touchAt (st.t++MemOp.ofEvents i fn pos es) k=some a->fE a.loc=some s.Wg)
  (Nh:phi γ' s<=phi st.γ s/\(phi γ' s=phi st.γ s->γ'.L=st.γ.L/\γ'.W=st.γ.W/\γ'.S=st.γ.S/\γ'.N=st.γ.N))(P8:i≠0->qL γ' s<=qL st.γ s/\(qL γ' s=qL st.γ s->γ'.gs=st.γ.gs))(Nl:st.γ.N<=γ'.N\/∀j,j≠i->s.n0<=j->j<s.n0+s.n->(st.γ.wk j).mx≠ .woken true):
  Inv q ⟨w',st.t++MemOp.ofEvents i fn pos es,γ'⟩/\∀j,j≠i->Rl j st ⟨w',st.t++MemOp.ofEvents i fn pos es,γ'⟩:=by
 have x:=h.aZ s hs;have A:=h.base.tr.Ic;have hilt:i<st.γ.num:=by rcases hi with rfl|hi;exact h.base.pos;exact hi.2
 have EU:st.γ.old=s.n0:=by unfold aJ.old;rw[hs]
 have hold:γ'.old=st.γ.old:=by unfold aJ.old;rw[hF.sc,hF.num]
 have hl:=x.c.SS;have hops:∀op∈MemOp.ofEvents i fn pos es,op.g=i:=fun op ho=>by obtain⟨e,_,rfl⟩:=dZ ho;rfl
 have xY:∀op∈MemOp.ofEvents i fn pos es,∀y,op.act.touch?=some y->May st.w.heap.size st.γ.ex st.γ.rd st.γ.sh i y/\(∀b,fE y.loc=some b->b<w'.heap.size)/\(∀off,6<=off->off<16->y.loc≠ca s.Gb off)/\(y.loc=ca s.Gb 3->y.write=false):=by
  intro op ho y hy;obtain⟨e,he,rfl⟩:=dZ ho;obtain⟨s1,s2⟩:=x.p.OC i hi;rcases (hev e he).touch hy with⟨b,off,e1,e2,e3,e4⟩|⟨rfl,off,ho,e1,e2⟩
  ·refine⟨.inr (.inr (.inr (.inl ⟨?_,.inl e2⟩))),fun b' hb'=>?_,fun o o1 o2 e5=>?_,fun e5=>?_⟩
   ·rw[e1];rcases e3 with⟨rfl,a,b⟩|⟨rfl,a⟩
    ·exact s1 off a b
    ·exact s2 off a
   ·rw[e1]at hb';have:b=b':=by unfold ca fE at hb';simpa using hb'
    subst this;rw[hsz];rcases e3 with⟨rfl,_⟩|⟨rfl,_⟩<;>omega
   ·rw[e1]at e5;unfold ca at e5;simp at e5;rcases e3 with⟨_,a,b⟩|⟨e3,_⟩
    ·omega
    ·exact x.c.ne.1 (e5.1.symm.trans e3)
   ·rw[e1]at e5;have e6:b=s.Gb/\off=3:=by unfold ca at e5;simpa using e5
    cases hw:y.write with
    |false=>rfl
    |true=>exact absurd (by rw[e4,hw,e6.1,e6.2]) (hg3 e he)
  ·refine⟨.inr (.inr (.inr (.inl ⟨by rw[e1];exact s2 off ho,.inr ⟨e2,rfl⟩⟩))),fun b' hb'=>?_,fun o o1 o2 e5=>?_,fun e5=>?_⟩
   ·rw[e1]at hb';have:s.Wg=b':=by unfold ca fE at hb';simpa using hb'
    omega
   ·rw[e1]at e5;unfold ca at e5;simp at e5;exact x.c.ne.1 e5.1.symm
   ·rw[e1]at e5;unfold ca at e5;simp at e5;exact absurd e5.1.symm x.c.ne.1
 have hnr:∀op∈MemOp.ofEvents i fn pos es,∀a,op.act≠ .mark (.release a):=by
  intro op ho a e;obtain⟨e',he,rfl⟩:=dZ ho;have e2:=(ou e' _).1 e;rcases hev e' he with⟨b,off,xw,rfl,_⟩|⟨m,hm,h1,_⟩|⟨_,off,_,hm|hm⟩
  ·cases e2
  ·rw[hm]at e2;cases e2;exact h1 a rfl
  ·rw[hm]at e2;cases e2
  ·rw[hm]at e2;cases e2
 have htr:Ie (st.t++MemOp.ofEvents i fn pos es) st.γ.num w'.heap.size st.γ.ex st.γ.rd st.γ.sh:=by
  have t1:=h.base.tr.step (Nat.le_of_eq hsz.symm) hilt hops (fun op ho y hy=>(xY op ho y hy).1) (fun op ho y hy=>(xY op ho y hy).2.1) hnr;refine t1.sub (by rw[hsz];exact A) (fun g l hl=>.inl hl) (fun g l hl=>.inl hl) fun g l hl=>.inl hl
 refine⟨⟨h.base.step hilt (by rcases hi with hi|hi;exact .inl hi;exact .inr (by rw[EU];exact hi.1)) (Nat.le_of_eq hsz.symm) (by rw[hF.ex,hF.rd,hF.sh,hF.num];exact htr) hF.num hold (fun b=>by rw[hF.dead]) hF.sc hos hout ?_ hwk (fun hne=>(hdf hne).1) (fun hne=>(hdf hne).2) (fun he=>(h0 he).2.1) (fun g l hl=>?_) (fun h0 e he y hy=>?_),?_,fun s' hs'=>?_⟩,fun j hj=>?_⟩
 ·split
  ·rename_i e;exact(h0 e).1
  ·rename_i e;exact(hmw e).2
 ·rw[hF.ex,hF.rd,hF.sh]at hl;rw[hF.num];exact h.base.pool g l hl
 ·rcases (hev e he).touch hy with⟨b,off,e1,e2,_⟩|⟨e0,_⟩
  ·rw[e2];simp
  ·exact absurd e0 h0
 ·show γ'.sc=none↔γ'.mw=.solo;rw[hF.sc,hs];by_cases e:i=0
  ·exact⟨fun hn=>(by cases hn),fun hn=>absurd hn (h0 e).2.2⟩
  ·rw[(hmw e).1,<-hs];exact h.solo
 ·have hs':γ'.sc=some s':=hs';rw[hF.sc,hs]at hs';cases hs';refine⟨hC,hP,x.t.app hops hD hF.num nI (fun j hj hj2 hw=>?_) (fun op ho y hy=>(xY op ho y hy).2.2) hr⟩;by_cases e:j=i
  ·subst e;exact hwg hw hj
  ·rw[hwk j e]at hw;exact hw
 ·refine Rl.other hj (size:=0) A (Nat.le_of_eq hsz.symm) (fun l hl=>by show γ'.ex j l;rw[hF.ex];exact hl) (fun l hl=>by show γ'.rd j l;rw[hF.rd];exact hl) (fun b=>?_) hwk (fun hne=>⟨(hmw hne).1,(hmw hne).2,hF.num,fun b=>by show γ'.dead b↔_;rw[hF.dead]⟩) hF.sc (fun s' hs'=>?_) (fun s' hs' hne=>?_) (fun hw=>⟨hD,fun s' hs' off o1 o2=>?_⟩) (fun hz hw hg=>Nl.resolve_right fun hh=>hh j hj ?_ ?_ hw) (Nat.le_of_eq hF.num.symm)
  ·by_cases e1:b=s.Gb
   ·exact .inr (.inr (.inr (by rw[e1];exact x.p.spec j s.Gb (.inl rfl))))
   ·by_cases e2:b=s.Wg
    ·exact .inr (.inr (.inr (by rw[e2];exact x.p.spec j s.Wg (.inr (.inl rfl)))))
    ·exact .inl (hblk b e1 e2)
  ·rw[hs]at hs';cases hs';exact⟨Nh.1,Nh.2,fun hd=>hD.trans hd⟩
  ·rw[hs]at hs';cases hs';exact P8 hne
  ·rw[hs]at hs';cases hs';exact hsh off o1 o2
  ·refine Nat.le_of_not_lt fun hlt=>?_
   rcases h.base.old j (by omega) (by rw[EU];exact hlt)with e|e<;>rw[hg]at e<;>cases e
  ·refine Nat.lt_of_not_le fun hge=>?_
   have:=x.c.new j (by have:=x.c.n0;omega);rw[this]at hg;cases hg
end
end
end Cc
end Go.Proofs.Ytpfpokjaeffbjab
