/- Part of the proof: Seq, Log, TrI, MuI, Ghost, Draws, Ren, RenOps. -/
import Derived.Test.YtpfpokjaeffbjaaKk0
import Derived.WalkKit
import Derived.Conc.Crowd
import Derived.Conc.QuitsD
import Derived.Conc.Deaf
import Derived.Conc.CrowdTrace
import Derived.Calls
import Derived.Conc.MuSpec
import Derived.Conc.Events
set_option linter.unusedVariables false
set_option linter.unusedSimpArgs false
set_option maxRecDepth 100000
set_option maxHeartbeats 16000000
open Go.MemOp renaming ofEvents→aA
open List renaming getD_eq_getElem?_getD→aC,mem_cons→aM,not_mem_nil→bA,range→bq
open Array renaming getElem?_eq_getElem→aI,getElem?_setIfInBounds→cj,size_setIfInBounds→cL,getElem?_push→cY,getD_eq_getD_getElem?→bB,replicate→bN,getElem?_modify→dP
open Option renaming map_some→cI
open Option.some renaming injEq→dD
open Nat renaming lt_of_lt_of_le→bT,le_refl→aH,le_trans→aY
open Go.Trace renaming g?→cX
open Bool renaming toNat_true→cu,toNat_false→cg,false_eq_true→aQ
open Go.Sem renaming run→cA,run_bind→aO
open Go.World renaming cell?→bM,setCell→cJ
open Go renaming underlying→dF
namespace Go.Proofs.Ytpfpokjaeffbjaa
open Go renaming World→ae,Value→af,Goroutine→ah,Frame→ai,TypeId→aj,FuncId→ak,Program→au,undef→av,execOp→ax
open Go.Lib renaming hid→ay
namespace Cc
def xH:List Code->Code->Code
 |[],R=>R
 |c::cs,R=>.seq c (xH cs R)
def eK:Nat->Code->List Code×Code
 |n+1,.seq a b=>(a::(eK n b).1,(eK n b).2)
 |_,c=>([],c)
theorem kj:∀(n:Nat) (c:Code),xH (eK n c).1 (eK n c).2=c
 |0,c=>by cases c<;>rfl
 |n+1,c=>by
  cases c with
  |seq a b=>show Code.seq a (xH (eK n b).1 (eK n b).2)=_;rw[kj n b]
  |_=>rfl
def Hs(P:au)(N R:Act->ae->Prop):List Code->Act->ae->Prop
 |[],a,w=>N a w
 |c::cs,a,w=>c.wp P (fun e a w=>match e with|.normal=>a.defers=[]/\Hs P N R cs a w|.ret=>a.defers=[]/\R a w|_=>False) a w
theorem gA{P:au}{N R:Act->ae->Prop}{c:Code}{cs:List Code}{a:Act}{w:ae}(h:c.wp P (fun e a w=>match e with|.normal=>a.defers=[]/\Hs P N R cs a w|.ret=>a.defers=[]/\R a w|_=>False) a w):Hs P N R (c::cs) a w:=h
section
open Go.Conc
structure St(Γ:Type)where
 w:ae
 t:Trace
 γ:Γ
def St.at{Γ:Type}(st:St Γ)(d:Nat):St Γ:={st with w:=st.w.at d}
structure RF(Γ:Type)where
 P:au
 Inv:St Γ->Prop
 Rel:Nat->St Γ->St Γ->Prop
 lY:Nat->St Γ->Prop
 Gone:Nat->St Γ->Prop
 Lv:Nat->St Γ->Prop
 num:St Γ->Nat
 Post:af->ae->Prop
inductive Rk(Γ:Type):Type
 |leaf:Rk Γ
 |mk (f:ah->St Γ->Rk Γ):Rk Γ
instance{Γ:Type}:Inhabited (Rk Γ):=⟨.leaf⟩
def uS{Γ:Type}(r' r:Rk Γ):Prop:=∃f g st,r=.mk f/\r'=f g st
theorem uS.acc{Γ:Type}(r:Rk Γ):Acc uS r:=by
 induction r with
 |leaf=>exact⟨_,fun y ⟨_,_,_,h,_⟩=>by cases h⟩
 |mk f ih=>exact⟨_,fun y ⟨f',g,st,h,e⟩=>by cases h;subst e;exact ih g st⟩
theorem uS.wf{Γ:Type}:WellFounded (uS (Γ:=Γ)):=⟨uS.acc⟩
def wu{Γ:Type}(l' l:List (Rk Γ)):Prop:=∃k r r',l[k]?=some r/\uS r' r/\l'=l.set k r'
theorem wu.acc{Γ:Type}(l:List (Rk Γ)):Acc wu l:=by
 induction l with
 |nil=>exact⟨_,fun y ⟨k,r,r',h,_⟩=>by simp at h⟩
 |cons r l ih=>
  have key:∀r,Acc uS r->∀l,Acc wu l->Acc (wu (Γ:=Γ)) (r::l):=by
   intro r hr;induction hr with
   |intro r _ ihr=>
    intro l hl;induction hl with
    |intro l hl' ihl=>
     refine⟨_,fun y ⟨k,a,a',h,hlt,e⟩=>?_⟩;subst e;match k,h with
     |0,h=>
      simp at h;subst h;exact ihr a' hlt l ⟨l,hl'⟩
     |k+1,h=>exact ihl _ ⟨k,a,a',by simpa using h,hlt,rfl⟩
  exact key r (uS.acc r) l ih
theorem wu.wf{Γ:Type}:WellFounded (wu (Γ:=Γ)):=⟨wu.acc⟩
def MLt{Γ:Type}:Rk Γ×List (Rk Γ)×Nat->Rk Γ×List (Rk Γ)×Nat->Prop:=Prod.Lex uS (Prod.Lex wu Nat.lt)
theorem MLt.wf{Γ:Type}:WellFounded (MLt (Γ:=Γ)):=(Prod.lex ⟨uS,uS.wf⟩ (Prod.lex ⟨wu,wu.wf⟩ ⟨Nat.lt,Nat.lt_wfRel.wf⟩)).wf
section
variable{Γ:Type}(C:RF Γ)(i:Nat)(Ch:Nat->ah->St Γ->Prop)(K:ah->St Γ->Prop)
def Ends(i:Nat)(g:ah)(st:St Γ)(o:Outcome)(w':ae)(es:Array Event):Prop:=
 i=0/\(∃v,o=.done v/\C.Post v w')/\(∀said,¬Race said (st.t++aA 0 g.frame.fn g.frame.place es))/\Trace.HandedOver (st.t++aA 0 g.frame.fn g.frame.place es)/\
  ∀j,0<j->j<C.num st->C.Lv j st
def iR(g:ah)(st:St Γ):Prop:=
 match stepG C.P (i==0) g st.w with
 |.go g' w' es=>
  (g'={g with status:=.blocked}/\g.offers=none/\w'=st.w/\es=#[]/\C.lY i st)\/
  ∃γ',C.Inv ⟨w',st.t++aA i g.frame.fn g.frame.place es,γ'⟩/\C.num ⟨w',st.t++aA i g.frame.fn g.frame.place es,γ'⟩=C.num st/\
   (∀j,j≠i->C.Rel j st ⟨w',st.t++aA i g.frame.fn g.frame.place es,γ'⟩)/\
   (mayWake C.P g=true\/∀k,k≠i->C.lY k st->C.lY k ⟨w',st.t++aA i g.frame.fn g.frame.place es,γ'⟩)/\
   ((g'.status=.running/\K g' ⟨w',st.t++aA i g.frame.fn g.frame.place es,γ'⟩)\/(g'.status=.finished/\i≠0/\C.Gone i ⟨w',st.t++aA i g.frame.fn g.frame.place es,γ'⟩))
 |.spawn g' child w' es=>
  ∃γ',C.Inv ⟨w',(aA i g.frame.fn g.frame.place es).push {g:=i,fn:=g.frame.fn,pos:=g.frame.place,act:=.go (C.num st)} |>.push {g:=C.num st,fn:=child.frame.fn,pos:=g.frame.place,act:=.start} |> (st.t++·),γ'⟩/\
   (let st':St Γ:=⟨w',(aA i g.frame.fn g.frame.place es).push {g:=i,fn:=g.frame.fn,pos:=g.frame.place,act:=.go (C.num st)} |>.push {g:=C.num st,fn:=child.frame.fn,pos:=g.frame.place,act:=.start} |> (st.t++·),γ'⟩
    C.num st'=C.num st+1/\(∀j,j≠i->j<C.num st->C.Rel j st st')/\(∀k,k≠i->C.lY k st->C.lY k st')/\
    g'.status=.running/\K g' st'/\i=0/\child.status=.running/\Ch (C.num st) child st')
 |.ended o w' es=>Ends C i g st o w' es
 |_=>False
theorem iR.mono{C:RF Γ}{i:Nat}{Ch:Nat->ah->St Γ->Prop}{K K':ah->St Γ->Prop}{g:ah}{st:St Γ}(h:iR C i Ch K g st)(k:∀g' st',K g' st'->K' g' st'):iR C i Ch K' g st:=by
 revert h
 unfold iR;cases stepG C.P (i==0) g st.w with
 |go g' w' es=>
  simp only;rintro (h|⟨γ',h1,h2,h3,h4,h5⟩)
  ·exact .inl h
  ·exact .inr ⟨γ',h1,h2,h3,h4,h5.imp (fun⟨a,b⟩=>⟨a,k _ _ b⟩) id⟩
 |spawn g' child w' es=>
  simp only;rintro ⟨γ',h1,h2,h3,h4,h5,h6,h7⟩;exact⟨γ',h1,h2,h3,h4,h5,k _ _ h6,h7⟩
 |ended o w' es=>exact id
 |_=>exact id
def T:Rk Γ->ah->St Γ->Prop
 |.leaf,_,_=>False
 |.mk f,g,st=>∀dV,C.Rel i st dV->C.Inv dV->
   (C.Lv i dV->∃q,QuitsD C.P q (Deaf dV.t i) g)/\iR C i Ch (fun g' st'=>T (f g' st') g' st') g dV
def TT(g:ah)(st:St Γ):Prop:=∃r,T C i Ch r g st
end
section
variable{Γ:Type}{C:RF Γ}{i:Nat}{Ch:Nat->ah->St Γ->Prop}
theorem TT.step{g:ah}{st:St Γ}(h:∀dV,C.Rel i st dV->C.Inv dV->(C.Lv i dV->∃q,QuitsD C.P q (Deaf dV.t i) g)/\iR C i Ch (TT C i Ch) g dV):TT C i Ch g st:=by
 classical
 refine⟨.mk fun g' st'=>if h:TT C i Ch g' st' then h.choose else .leaf,fun dV hr hi=>⟨(h dV hr hi).1,(h dV hr hi).2.mono fun g' st' hk=>?_⟩⟩;simp only[dif_pos hk];exact hk.choose_spec
theorem T.rely(trans:∀a b c,C.Rel i a b->C.Rel i b c->C.Rel i a c){r:Rk Γ}{g:ah}{st st':St Γ}(h:T C i Ch r g st)(hr:C.Rel i st st'):T C i Ch r g st':=by
 cases r with
 |leaf=>exact h
 |mk f=>exact fun dV h₁ hi=>h dV (trans _ _ _ hr h₁) hi
theorem TT.rely(trans:∀a b c,C.Rel i a b->C.Rel i b c->C.Rel i a c){g:ah}{st st':St Γ}(h:TT C i Ch g st)(hr:C.Rel i st st'):TT C i Ch g st':=
 let⟨r,hr'⟩:=h;⟨r,hr'.rely trans hr⟩
theorem TT.elim{g:ah}{st:St Γ}(h:TT C i Ch g st)(dV:St Γ)(hr:C.Rel i st dV)(hi:C.Inv dV):(C.Lv i dV->∃q,QuitsD C.P q (Deaf dV.t i) g)/\iR C i Ch (TT C i Ch) g dV:=by
 obtain⟨r,hr'⟩:=h;cases r with
 |leaf=>exact hr'.elim
 |mk f=>exact⟨(hr' dV hr hi).1,(hr' dV hr hi).2.mono fun g' st' hk=>⟨_,hk⟩⟩
end
structure RF.Ok{Γ:Type}(C:RF Γ):Prop where
 refl:∀i st,C.Rel i st st
 trans:∀i a b c,C.Rel i a b->C.Rel i b c->C.Rel i a c
 gone:∀i a b,C.Rel i a b->C.Gone i a->C.Gone i b
 J0:∀i st,C.Inv st->i<C.num st->C.Gone i st->Deaf st.t i=0
 OC:∀i st,C.lY i st->C.Lv i st->False
 Pj:∀st d,C.Inv st->C.Inv (st.at d)
 Pg:∀i st d,C.Rel i st (st.at d)
 Ph:∀st d,C.num (st.at d)=C.num st
 Fw:∀i st d,C.lY i st->C.lY i (st.at d)
 pos:∀st,C.Inv st->0<C.num st
 yQ:∀st,C.Inv st->(∀i,i<C.num st->C.lY i st\/(i≠0/\C.Gone i st))->False
section
variable{Γ:Type}(C:RF Γ)
def aD7:Nat->ah->St Γ->Prop:=fun _ _ _=>False
def TW(j:Nat)(g:ah)(st:St Γ):Prop:=TT C j aD7 g st
def TA(i:Nat)(r:Rk Γ)(g:ah)(st:St Γ):Prop:=if i=0 then T C 0 (TW C) r g st else T C i aD7 r g st
def GI(i:Nat)(r:Rk Γ)(g:ah)(st:St Γ):Prop:=
 (g.status=.running/\TA C i r g st)\/(∃h:ah,h.status=.running/\h.offers=none/\g={h with status:=.blocked}/\C.lY i st/\TA C i r h st)\/(g.status=.finished/\i≠0/\C.Gone i st)
def ic(r0:Rk Γ)(rs:List (Rk Γ))(i:Nat):Rk Γ:=if i=0 then r0 else rs.getD (i-1) .leaf
def running(gs:Array ah):Nat:=gs.toList.countP fun g=>g.status== .running
inductive MI:Rk Γ×List (Rk Γ)×Nat->Machine->Trace->Prop
 |mk (r0:Rk Γ) (rs:List (Rk Γ)) (gs:Array ah) (w:ae) (sl:Option (Nat×Nat)) (t:Trace) (γ:Γ) (hn:gs.size=C.num ⟨w,t,γ⟩) (hl:rs.length+1=gs.size) (hi:C.Inv ⟨w,t,γ⟩)
   (hg:∀i g,gs[i]?=some g->GI C i (ic r0 rs i) g ⟨w,t,γ⟩):MI (r0,rs,running gs) (crowd gs w sl) t
end
section
variable{Γ:Type}{C:RF Γ}
theorem TA.rely(ok:C.Ok){i:Nat}{r:Rk Γ}{g:ah}{st st':St Γ}(h:TA C i r g st)(hr:C.Rel i st st'):TA C i r g st':=by
 unfold TA at h ⊢;split
 ·rename_i h0;subst h0;rw[if_pos rfl]at h;exact h.rely (ok.trans 0) hr
 ·rename_i h0;rw[if_neg h0]at h;exact h.rely (ok.trans i) hr
theorem TA.node{i:Nat}{r:Rk Γ}{g:ah}{st:St Γ}(ok:C.Ok)(h:TA C i r g st)(hi:C.Inv st):(C.Lv i st->∃q,QuitsD C.P q (Deaf st.t i) g)/\
  iR C i (fun j g st=>i=0/\TW C j g st) (fun g' st'=>∃r',uS r' r/\TA C i r' g' st') g st:=by
 unfold TA at h;split at h
 ·rename_i h0;subst h0;cases r with
  |leaf=>exact h.elim
  |mk f=>
   refine⟨(h st (ok.refl _ _) hi).1,?_⟩;have h2:=(h st (ok.refl _ _) hi).2;have h3:iR C 0 (TW C) (fun g' st'=>∃r',uS r' (.mk f)/\TA C 0 r' g' st') g st:=h2.mono fun g' st' hk=>⟨f g' st',⟨f,g',st',rfl,rfl⟩,by unfold TA;rw[if_pos rfl];exact hk⟩;revert h3
   unfold iR;cases stepG C.P (0==0) g st.w with
   |spawn g' child w' es=>
    simp only;rintro ⟨γ',a,b,c,d,e,k,l,m,n⟩;exact⟨γ',a,b,c,d,e,k,l,m,trivial,n⟩
   |_=>exact id
 ·rename_i h0;cases r with
  |leaf=>exact h.elim
  |mk f=>
   refine⟨(h st (ok.refl _ _) hi).1,?_⟩;have h2:=(h st (ok.refl _ _) hi).2;have h3:iR C i aD7 (fun g' st'=>∃r',uS r' (.mk f)/\TA C i r' g' st') g st:=h2.mono fun g' st' hk=>⟨f g' st',⟨f,g',st',rfl,rfl⟩,by unfold TA;rw[if_neg h0];exact hk⟩;revert h3
   unfold iR;cases stepG C.P (i==0) g st.w with
   |spawn g' child w' es=>
    simp only;rintro ⟨γ',a,b,c,d,e,k,l,m,n⟩;exact n.elim
   |_=>exact id
theorem GI.rely(ok:C.Ok){i:Nat}{r:Rk Γ}{g:ah}{st st':St Γ}(h:GI C i r g st)(hr:C.Rel i st st')(hw:C.lY i st->C.lY i st'):GI C i r g st':=by
 rcases h with⟨h1,h2⟩|⟨h,h1,h2,h3,h4,h5⟩|⟨h1,h2,h3⟩
 ·exact .inl ⟨h1,h2.rely ok hr⟩
 ·exact .inr (.inl ⟨h,h1,h2,h3,hw h4,h5.rely ok hr⟩)
 ·exact .inr (.inr ⟨h1,h2,ok.gone _ _ _ hr h3⟩)
theorem GI.woken(ok:C.Ok){i:Nat}{r:Rk Γ}{g a b:ah}{w':ae}{st st':St Γ}(h:GI C i r g st)(hr:C.Rel i st st')(hb:b.status=.running\/b.status=.finished)
  (hw:mayWake C.P a=true\/(C.lY i st->C.lY i st')):GI C i r (Go.Conc.woken C.P a b w' g) st':=by
 rcases hw with hw|hw
 ·have e:Go.Conc.woken C.P a b w' g=g.again w':=by
   unfold Go.Conc.woken;rw[if_pos];rw[hw];rcases hb with hb|hb<;>simp[hb]
  rw[e];rcases h with⟨h1,h2⟩|⟨h,h1,h2,h3,h4,h5⟩|⟨h1,h2,h3⟩
  ·rw[again_running _ (.inl h1)];exact .inl ⟨h1,h2.rely ok hr⟩
  ·subst h3;have:({h with status:=.blocked}:ah).again w'=h:=by
    unfold Goroutine.again;simp only[h2];cases h;simp at h1 h2 ⊢;exact⟨h1.symm,h2.symm⟩
   rw[this];exact .inl ⟨h1,TA.rely ok h5 hr⟩
  ·rw[again_running _ (.inr h1)];exact .inr (.inr ⟨h1,h2,ok.gone _ _ _ hr h3⟩)
 ·have hg:GI C i r g st':=GI.rely ok h hr hw;clear h;unfold Go.Conc.woken;split
  ·rcases hg with⟨h1,h2⟩|⟨h,h1,h2,h3,h4,h5⟩|⟨h1,h2,h3⟩
   ·rw[again_running _ (.inl h1)];exact .inl ⟨h1,h2⟩
   ·subst h3;have:({h with status:=.blocked}:ah).again w'=h:=by
     unfold Goroutine.again;simp only[h2];cases h;simp at h1 h2 ⊢;exact⟨h1.symm,h2.symm⟩
    rw[this];exact .inl ⟨h1,h5⟩
   ·rw[again_running _ (.inr h1)];exact .inr (.inr ⟨h1,h2,h3⟩)
  ·exact hg
theorem GI.awake{i:Nat}{r:Rk Γ}{g:ah}{st:St Γ}(h:GI C i r g st):Go.Conc.awake g:=by
 intro t ht;rcases h with⟨h1,_⟩|⟨h,h1,h2,h3,_⟩|⟨h1,_⟩
 ·rw[h1]at ht;cases ht
 ·subst h3;cases ht
 ·rw[h1]at ht;cases ht
theorem IB(r0 r:Rk Γ)(rs:List (Rk Γ))(i:Nat)(hi:i≠0):ic r rs i=ic r0 rs i:=by simp[ic,hi]
theorem LH{r0 r:Rk Γ}{rs:List (Rk Γ)}{i j:Nat}(hi:i≠0)(hij:j≠i):ic r0 (rs.set (i-1) r) j=ic r0 rs j:=by
 unfold ic;split
 ·rfl
 ·rename_i hj;simp only[aC];rw[List.getElem?_set_ne (by omega)]
theorem IC{r0 r:Rk Γ}{rs:List (Rk Γ)}{i:Nat}(hi:i≠0)(hl:i-1<rs.length):ic r0 (rs.set (i-1) r) i=r:=by
 unfold ic;rw[if_neg hi];simp[aC,hl]
theorem Ir{gs:Array ah}{i:Nat}{g g':ah}(h:gs[i]?=some g)(h1:g.status=.running)(h2:g'.status≠ .running):running (gs.setIfInBounds i g')<running gs:=by
 obtain⟨hlt,rfl⟩:=Array.getElem?_eq_some_iff.1 h;unfold running;rw[Array.toList_setIfInBounds];have key:∀(l:List ah) (i:Nat) (h:i<l.length),l[i].status=.running->(l.set i g').countP (fun g=>g.status== .running)<l.countP (fun g=>g.status== .running):=by
  intro l;induction l with
  |nil=>intro i h;simp at h
  |cons a l ih=>
   intro i h hs;cases i with
   |zero=>
    simp at hs;have:(g'.status==GoStatus.running)=false:=by simpa using h2
    simp[hs,this]
   |succ i=>
    simp only[List.set_cons_succ,List.countP_cons];have:=ih i (by simpa using h) (by simpa using hs)
    omega
 exact key gs.toList i (by simpa using hlt) (by simpa using h1)
theorem MI.step(ok:C.Ok){μ:Rk Γ×List (Rk Γ)×Nat}{m:Machine}{t:Trace}(h:MI C μ m t):
  (∃o w ops,stepT C.P m=(.ended o w,ops)/\Conc.Good C.P C.Post m o w (t++ops))\/∃m' ops nk,stepT C.P m=(.next m',ops)/\MLt nk μ/\MI C nk m' (t++ops):=by
 obtain⟨r0,rs,gs,w,sl,t,γ,hn,hl,hi,hg⟩:=h;have aw:∀g∈gs,awake g:=fun g Hu=>by
  obtain⟨i,hi'⟩:=Array.mem_iff_getElem?.1 Hu;exact(hg i g hi').awake
 have aN4:∃(i:Nat) (g:ah),gs[i]?=some g/\g.status=.running:=by
  apply Classical.byContradiction;intro hno;refine ok.yQ _ hi fun i hlt=>?_;rw[<-hn]at hlt;rcases hg i gs[i] (aI hlt)with⟨h1,_⟩|⟨h,h1,h2,h3,h4,_⟩|⟨h1,h2,h3⟩
  ·exact absurd ⟨i,gs[i],aI hlt,h1⟩ hno
  ·exact .inl h4
  ·exact .inr ⟨h2,h3⟩
 obtain⟨i,g,d,sl',hgi,hs,hstep⟩:=crowd_pick (P:=C.P) (w:=w) (sl:=sl) aw aN4;have OX:C.Inv ⟨w.at d,t,γ⟩:=ok.Pj ⟨w,t,γ⟩ d hi;have hn₁:gs.size=C.num ⟨w.at d,t,γ⟩:=hn.trans (ok.Ph ⟨w,t,γ⟩ d).symm;have JS:∀j h,gs[j]?=some h->GI C j (ic r0 rs j) h ⟨w.at d,t,γ⟩:=fun j h hj=>(hg j h hj).rely ok (ok.Pg j ⟨w,t,γ⟩ d) (ok.Fw j ⟨w,t,γ⟩ d);have hlt:i<gs.size:=(Array.getElem?_eq_some_iff.1 hgi).1;have hT:TA C i (ic r0 rs i) g ⟨w.at d,t,γ⟩:=by
  rcases JS i g hgi with⟨_,h2⟩|⟨h,h1,h2,h3,_⟩|⟨h1,_⟩
  ·exact h2
  ·subst h3;cases hs
  ·rw[hs]at h1;cases h1
 obtain⟨hlv,hk⟩:=hT.node ok OX;unfold iR at hk;have IX:∀r',uS r' (ic r0 rs i)->∃LI rs',rs'.length=rs.length/\ic LI rs' i=r'/\(∀j,j≠i->ic LI rs' j=ic r0 rs j)/\∀k k',MLt (LI,rs',k) (r0,rs,k'):=by
  intro r' hr';by_cases h0:i=0
  ·subst h0;exact⟨r',rs,rfl,by simp[ic],fun j hj=>IB _ _ _ _ hj,fun k k'=>.left _ _ (by simpa [ic]using hr')⟩
  ·have hil:i-1<rs.length:=by omega
   refine⟨r0,rs.set (i-1) r',by simp,IC h0 hil,fun j hj=>LH h0 hj,fun k k'=>.right _ (.left _ _ ⟨i-1,rs[i-1],r',by simp[hil],?_,rfl⟩)⟩;simpa [ic,h0,aC,hil]using hr'
 cases X6:stepG C.P (i==0) g (w.at d)with
 |go g' w' es=>
  rw[X6]at hk;simp only at hk;rcases hk with⟨rfl,hoff,rfl,rfl,hwt⟩|⟨γ',hi',iC,hrel,hwk,hend⟩
  ·
   refine .inr ⟨_,_,(r0,rs,running (gs.setIfInBounds i {g with status:=.blocked})),hstep.trans (runT_crowd_go hgi X6),.right _ (.right _ (Ir hgi hs (by simp))),?_⟩;have e:gs.map (woken C.P g {g with status:=.blocked} (w.at d))=gs:=by
    have:woken C.P g {g with status:=.blocked} (w.at d)=id:=by funext o;simp[woken]
    rw[this,Array.map_id]
   rw[e,ofEvents_none,Array.append_empty];refine .mk r0 rs _ _ _ _ γ (by simpa using hn₁) (by simpa using hl) OX fun j h hj=>?_;rw[cj]at hj;split at hj
   ·rename_i hij;subst hij;simp at hj;subst hj;exact .inr (.inl ⟨g,hs,hoff,rfl,hwt,hT⟩)
   ·exact JS j h hj
  ·have hb:g'.status=.running\/g'.status=.finished:=hend.imp (·.1) (·.1);have others:∀(LI:Rk Γ) (rs':List (Rk Γ)),(∀j,j≠i->ic LI rs' j=ic r0 rs j)->∀j h,j≠i->(gs.map (woken C.P g g' w'))[j]?=some h->GI C j (ic LI rs' j) h ⟨w',t++aA i g.frame.fn g.frame.place es,γ'⟩:=by
    intro LI rs' X8 j h hj hjh;rw[Array.getElem?_map]at hjh;cases ho:gs[j]? with
    |none=>rw[ho]at hjh;cases hjh
    |some o=>
     rw[ho]at hjh;simp only[cI,dD]at hjh;subst hjh;rw[X8 j hj];exact(JS j o ho).woken ok (hrel j hj) hb (hwk.imp id fun x=>x j hj)
   rcases hend with⟨hrun,r',hlt',hT'⟩|⟨hfin,hne,aY2⟩
   ·obtain⟨LI,rs',e1,e2,e3,e4⟩:=IX r' hlt';refine .inr ⟨_,_,(LI,rs',running ((gs.map (woken C.P g g' w')).setIfInBounds i g')),hstep.trans (runT_crowd_go hgi X6),e4 _ _,?_⟩;refine .mk LI rs' _ _ _ _ γ' (by simp only[cL,Array.size_map];rw[iC];exact hn₁) (by simpa [e1]using hl) hi' fun j h hj=>?_;rw[cj]at hj;split at hj
    ·rename_i hij;subst hij;simp only[Array.size_map,hlt,if_true,dD]at hj;subst hj;rw[e2];exact .inl ⟨hrun,hT'⟩
    ·rename_i hij;exact others LI rs' e3 j h (Ne.symm hij) hj
   ·have hr0:uS (ic r0 rs i) (ic r0 rs i)\/True:=.inr trivial;have hex:∃r',uS r' (ic r0 rs i):=by
     unfold TA at hT;rw[if_neg hne]at hT;cases hr:ic r0 rs i with
     |leaf=>rw[hr]at hT;exact hT.elim
     |mk f=>exact⟨f g ⟨w,t,γ⟩,f,g,⟨w,t,γ⟩,rfl,rfl⟩
    obtain⟨r',hlt'⟩:=hex;obtain⟨LI,rs',e1,e2,e3,e4⟩:=IX r' hlt';refine .inr ⟨_,_,(LI,rs',running ((gs.map (woken C.P g g' w')).setIfInBounds i g')),hstep.trans (runT_crowd_go hgi X6),e4 _ _,?_⟩;refine .mk LI rs' _ _ _ _ γ' (by simp only[cL,Array.size_map];rw[iC];exact hn₁) (by simpa [e1]using hl) hi' fun j h hj=>?_;rw[cj]at hj;split at hj
    ·rename_i hij;subst hij;simp[hlt]at hj;subst hj;exact .inr (.inr ⟨hfin,hne,aY2⟩)
    ·rename_i hij;exact others LI rs' e3 j h (Ne.symm hij) hj
 |spawn g' child w' es=>
  rw[X6]at hk;simp only at hk;obtain⟨γ',hi',iC,hrel,hwt,hrun,⟨r',hlt',hT'⟩,hi0,hcr,-,rc,hTc⟩:=hk;subst hi0;rw[<-hn₁]at hi' iC hrel hwt hT' hTc;refine .inr ⟨_,_,(r',rs++[rc],running ((gs.setIfInBounds 0 g').push child)),hstep.trans (runT_crowd_spawn hgi X6),.left _ _ (by simpa [ic]using hlt'),?_⟩;refine .mk r' (rs++[rc]) _ _ _ _ γ' ?_ ?_ hi' fun j h hj=>?_
  ·simp only[Array.size_push,cL];rw[iC]
  ·simp only[Array.size_push,cL,List.length_append,List.length_singleton];omega
  ·rw[cY]at hj;simp only[cL]at hj;split at hj
   ·rename_i hjs;cases hj;subst hjs;refine .inl ⟨hcr,?_⟩;have hne:gs.size≠0:=by omega
    unfold TA;rw[if_neg hne];have:ic r' (rs++[rc]) gs.size=rc:=by
     unfold ic;rw[if_neg hne,aC,List.getElem?_append_right (by omega)];have:gs.size-1-rs.length=0:=by omega
     simp[this]
    rw[this];exact hTc
   ·rename_i hjs;rw[cj]at hj;split at hj
    ·rename_i h0;subst h0;simp at hj;subst hj;exact .inl ⟨hrun,by simpa [ic]using hT'⟩
    ·rename_i h0;have Yc:j<gs.size:=(Array.getElem?_eq_some_iff.1 hj).1;have:ic r' (rs++[rc]) j=ic r0 rs j:=by
      unfold ic;rw[if_neg (Ne.symm h0),if_neg (Ne.symm h0),aC,aC,List.getElem?_append_left (by omega)]
     rw[this];exact(JS j h hj).rely ok (hrel j (Ne.symm h0) Yc) (hwt j (Ne.symm h0))
 |ended o w' es=>
  rw[X6]at hk;simp only at hk;obtain⟨hi0,⟨v,rfl,hp⟩,aW0,hho,hall⟩:=hk;subst hi0;have hq:∀j h,gs[j]?=some h->j≠0->∃q,QuitsD C.P q (Deaf t j) h:=by
   intro j h hj hne;have Yc:j<gs.size:=(Array.getElem?_eq_some_iff.1 hj).1;have hlj:C.Lv j ⟨w.at d,t,γ⟩:=hall j (by omega) (by rw[<-hn₁];exact Yc);rcases JS j h hj with⟨h1,h2⟩|⟨h',h1,h2,h3,h4,h5⟩|⟨h1,h2,h3⟩
   ·exact(h2.node ok OX).1 hlj
   ·exact(ok.OC _ _ h4 hlj).elim
   ·exact⟨0,h1,ok.J0 _ _ OX (by rw[<-hn₁];exact Yc) h3⟩
  have hrun:runT C.P (crowd gs (w.at d) sl') 0=(.ended (.done v) w',aA 0 g.frame.fn g.frame.place es):=by
   obtain⟨hlt,rfl⟩:=Array.getElem?_eq_some_iff.1 hgi;have hsw:=swapAt_of_lt hlt {(default:ah)with status:=.finished};have bs5:stepG C.P (0==0) gs[0] (w.at d)=.ended (.done v) w' es:=X6;unfold runT crowd;simp only[hsw,bs5,GStep.es]
  refine .inl ⟨_,_,_,hstep.trans hrun,v,rfl,hp,aW0,hho,⟨fun h hh=>?_,rfl⟩,fun j h hj hne=>?_⟩
  ·obtain⟨k,hk⟩:=List.mem_iff_getElem?.1 hh;rw[List.getElem?_drop]at hk;obtain⟨q,hq'⟩:=hq (1+k) h (by simpa [crowd]using hk) (by omega);exact⟨q,hq'.leaves⟩
  ·obtain⟨q,hq'⟩:=hq j h hj hne;refine⟨q,?_⟩;have e:(t++aA 0 g.frame.fn g.frame.place es).deaf j (t++aA 0 g.frame.fn g.frame.place es).size=Deaf t j:=by
    show Deaf (t++aA 0 g.frame.fn g.frame.place es) j=Deaf t j;refine Deaf_other t hne.symm _ (fun op ho=>?_);rw[ofEvents_eq]at ho;obtain⟨e,_,rfl⟩:=Array.mem_map.1 ho;rfl
   rw[e];exact hq'.hears _
 |_=>rw[X6]at hk;exact hk.elim
theorem MI.runs(ok:C.Ok){μ:Rk Γ×List (Rk Γ)×Nat}{m:Machine}{t:Trace}(h:MI C μ m t):
  ∃N last o w' t',runNT C.P (N+1) m t=(.ended o w',t')/\runN C.P N m=.next last/\Go.step C.P last=.ended o w'/\Conc.Good C.P C.Post last o w' t':=
 run_of_inv MLt.wf (MI C) (fun m o w t=>Conc.Good C.P C.Post m o w t) (fun _ _ _ h=>h.step ok) μ m t h
end
end
section
open Go.Conc Go.ConcN
def ij:Loc->Option Nat
 |.cell a=>some a.block
 |.obj r=>some r
 |_=>none
structure Ng(size:Nat)(ex rd sh:Nat->Loc->Prop):Prop where
 ee:∀g g' l,ex g l->ex g' l->g=g'
 er:∀g g' l,ex g l->¬rd g' l
 es:∀g g' l,ex g l->¬sh g' l
 rs:∀g g' l,rd g l->¬sh g' l
 low:∀g l,ex g l->∀b,ij l=some b->b<size
 xI:∀g l,rd g l->∀b,ij l=some b->b<size
 slow:∀g l,sh g l->∀b,ij l=some b->b<size
 mem:∀g l,ex g l\/rd g l\/sh g l->l.isMemory=true
structure FH(t:Trace)(num size:Nat)(ex rd sh:Nat->Loc->Prop):Prop where
 nr:∀said,¬Race said t
 FD:Ng size ex rd sh
 ex:∀g l,ex g l->Perm t g l
 rd:∀g l,rd g l->PermW t g l
 sh:∀g l,sh g l->∀i a,touchAt t i=some a->a.loc=l->(a.kind=.plain->Knows t g i)/\(a.kind=.said->t.g? i=some 0)
 low:∀i a,touchAt t i=some a->∀b,ij a.loc=some b->b<size\/∀g,g<num->Knows t g i
 gs:∀(i:Nat) (op:MemOp),t[i]?=some op->op.g<num
 norel:∀(i:Nat) (op:MemOp),t[i]?=some op->∀a,op.act=.mark (.release a)->∀k,k<=i->t.g? k=some 0
def May(size:Nat)(ex rd sh:Nat->Loc->Prop)(g:Nat)(x:Touch):Prop:=
 x.loc.isMemory=false\/ex g x.loc\/(rd g x.loc/\x.write=false)\/(sh g x.loc/\(x.kind=.atomic\/(x.kind=.said/\g=0)))\/∃b,ij x.loc=some b/\size<=b
def C9(ex:Nat->Loc->Prop)(g size size':Nat):Nat->Loc->Prop:=fun g' l=>ex g' l\/(g'=g/\∃b,ij l=some b/\size<=b/\b<size')
theorem Ng.grow{size size':Nat}{ex rd sh:Nat->Loc->Prop}(h:Ng size ex rd sh)(hs:size<=size')(g:Nat):Ng size' (C9 ex g size size') rd sh:=by
 refine⟨fun g1 g2 l h1 h2=>?_,fun g1 g2 l h1 h2=>?_,fun g1 g2 l h1 h2=>?_,h.rs,fun g1 l h1 b hb=>?_,fun g1 l h1 b hb=>bT (h.xI g1 l h1 b hb) hs,fun g1 l h1 b hb=>bT (h.slow g1 l h1 b hb) hs,fun g1 l h1=>?_⟩
 ·rcases h1 with h1|⟨rfl,b,hb,h3,h4⟩<;>rcases h2 with h2|⟨rfl,b',hb',h3',h4'⟩
  ·exact h.ee _ _ _ h1 h2
  ·have:=h.low _ _ h1 _ hb';omega
  ·have:=h.low _ _ h2 _ hb;omega
  ·rfl
 ·rcases h1 with h1|⟨rfl,b,hb,h3,h4⟩
  ·exact h.er _ _ _ h1 h2
  ·have:=h.xI _ _ h2 _ hb;omega
 ·rcases h1 with h1|⟨rfl,b,hb,h3,h4⟩
  ·exact h.es _ _ _ h1 h2
  ·have:=h.slow _ _ h2 _ hb;omega
 ·rcases h1 with h1|⟨rfl,b',hb',h3,h4⟩
  ·exact bT (h.low g1 l h1 b hb) hs
  ·rw[hb]at hb';cases hb';exact h4
 ·rcases h1 with(h1|⟨_,b,hb,_⟩)|h1
  ·exact h.mem g1 l (.inl h1)
  ·cases l<;>first|rfl|cases hb
  ·exact h.mem g1 l (.inr h1)
section
variable{t u:Trace}{num size size':Nat}{ex rd sh:Nat->Loc->Prop}
theorem gT{i:Nat}{a:Touch}(h:touchAt (t++u) i=some a):(i<t.size/\touchAt t i=some a)\/(t.size<=i/\∃op∈u,(t++u)[i]?=some op/\op.act.touch?=some a):=by
 obtain⟨x,hx,vN⟩:=touch_of h;rcases getElem?_append_cases hx with⟨hi,hx'⟩|⟨hi,hxu⟩
 ·exact .inl ⟨hi,by rw[touchAt_of hx'];exact vN⟩
 ·exact .inr ⟨hi,x,hxu,hx,vN⟩
theorem FH.step(h:FH t num size ex rd sh)(hs:size<=size'){g:Nat}(hg:g<num)(hu:∀op∈u,op.g=g)(hok:∀op∈u,∀x,op.act.touch?=some x->May size ex rd sh g x)
  (hl:∀op∈u,∀x,op.act.touch?=some x->∀b,ij x.loc=some b->b<size')(hn:∀op∈u,∀a,op.act≠ .mark (.release a)):FH (t++u) num size' (C9 ex g size size') rd sh:=by
 have A:=h.FD;have isM:∀{l:Loc} {b:Nat},ij l=some b->l.isMemory=true:=fun{l b} hb=>by cases l<;>first|rfl|cases hb
 refine⟨fun said=>?_,A.grow hs g,fun g' l hl'=>?_,fun g' l hl'=>?_,fun g' l hl' i a ha e=>?_,fun i a ha b hb=>?_,fun i op hi=>?_,fun i op hi a=>?_⟩
 ·refine noRace_append (h.nr said) hu fun i a ha op hop b hb hc=>?_;obtain⟨hloc,hmem,hw,hk⟩:=hc;rcases hok op hop b hb with h1|h1|⟨h1,h2⟩|⟨h1,h2⟩|⟨c,h1,h2⟩
  ·rw[<-hloc,hmem]at h1;cases h1
  ·exact h.ex g _ h1 i a ha hloc
  ·exact h.rd g _ h1 i a ha hloc (hw.resolve_right (by simp[h2]))
  ·obtain⟨s1,s2⟩:=h.sh g _ h1 i a ha hloc;rcases h2 with h2|⟨h2,rfl⟩
   ·rcases hk with hk|hk|⟨_,_,hk⟩
    ·exact s1 hk
    ·rw[h2]at hk;cases hk
    ·rw[h2]at hk;cases hk
   ·rcases hk with hk|hk|⟨_,hk,_⟩
    ·exact s1 hk
    ·rw[h2]at hk;cases hk
    ·obtain⟨x,hx,vN⟩:=touch_of ha;have:=s2 hk
     simp only[cX,hx,cI,dD]at this;have k:=knows_own hx;rwa [this]at k
  ·rcases h.low i a ha c (hloc ▸ h1)with h3|h3
   ·omega
   ·exact h3 g hg
 ·rcases hl' with hl'|⟨rfl,c,hc,h3,h4⟩
  ·refine(h.ex g' l hl').app fun op hop b hb e=>?_;rw[hu op hop];rcases hok op hop b hb with h1|h1|⟨h1,h2⟩|⟨h1,h2⟩|⟨c,h1,h2⟩
   ·have:=A.mem g' l (.inl hl');rw[<-e,h1]at this;cases this
   ·exact A.ee _ _ _ (e ▸ h1) hl'
   ·exact absurd (e ▸ h1) (A.er _ _ _ hl')
   ·exact absurd (e ▸ h1) (A.es _ _ _ hl')
   ·have:=A.low _ _ hl' c (e ▸ h1);omega
  ·intro i a ha e;rcases gT ha with⟨_,ha'⟩|⟨_,op,hop,hx,vN⟩
   ·rcases h.low i a ha' c (e ▸ hc)with h5|h5
    ·omega
    ·exact(h5 _ hg).app u
   ·have:=knows_own hx
    rwa [hu op hop]at this
 ·refine(h.rd g' l hl').app fun op hop b hb e hw=>?_;rw[hu op hop];rcases hok op hop b hb with h1|h1|⟨h1,h2⟩|⟨h1,h2⟩|⟨c,h1,h2⟩
  ·have:=A.mem g' l (.inr (.inl hl'));rw[<-e,h1]at this;cases this
  ·exact absurd hl' (A.er _ _ _ (e ▸ h1))
  ·rw[h2]at hw;cases hw
  ·exact absurd (e ▸ h1) (A.rs _ _ _ hl')
  ·have:=A.xI _ _ hl' c (e ▸ h1);omega
 ·rcases gT ha with⟨hlt,ha'⟩|⟨_,op,hop,hx,vN⟩
  ·obtain⟨s1,s2⟩:=h.sh g' l hl' i a ha' e;exact⟨fun hk=>(s1 hk).app u,fun hk=>by
    have:=s2 hk
    obtain⟨x,hx,_⟩:=touch_of ha';simp only[cX,getElem?_append_old hlt]at this ⊢;exact this⟩
  ·rcases hok op hop a vN with h1|h1|⟨h1,h2⟩|⟨h1,h2⟩|⟨c,h1,h2⟩
   ·have:=A.mem g' l (.inr (.inr hl'));rw[<-e,h1]at this;cases this
   ·exact absurd hl' (e ▸ A.es _ _ _ h1)
   ·exact absurd hl' (e ▸ A.rs _ _ _ h1)
   ·rcases h2 with h2|⟨h2,rfl⟩
    ·exact⟨fun hk=>(by rw[h2]at hk;cases hk),fun hk=>(by rw[h2]at hk;cases hk)⟩
    ·refine⟨fun hk=>(by rw[h2]at hk;cases hk),fun _=>?_⟩;simp only[cX,hx,cI,hu op hop]
   ·have:=A.slow _ _ hl' c (e ▸ h1);omega
 ·rcases gT ha with⟨_,ha'⟩|⟨_,op,hop,hx,vN⟩
  ·exact(h.low i a ha' b hb).imp (fun h=>bT h hs) fun h g hg=>(h g hg).app u
  ·exact .inl (hl op hop a vN b hb)
 ·rcases getElem?_append_cases hi with⟨_,hi'⟩|⟨_,Yd⟩
  ·exact h.gs i op hi'
  ·rw[hu op Yd];exact hg
 ·rcases getElem?_append_cases hi with⟨_,hi'⟩|⟨_,Yd⟩
  ·intro e k hk;have:=h.norel i op hi' a e k hk
   have hlt:k<t.size:=Nat.lt_of_le_of_lt hk (lt_size_of_getElem? hi');simp only[cX,getElem?_append_old hlt]at this ⊢;exact this
  ·exact fun e=>absurd e (hn op Yd a)
theorem FH.sub(h:FH t num size ex rd sh){ex' rd' sh':Nat->Loc->Prop}(A:Ng size ex' rd' sh')(he:∀g l,ex' g l->ex g l)(hr:∀g l,rd' g l->rd g l\/ex g l)(hs:∀g l,sh' g l->sh g l\/ex g l/\∀i a,touchAt t i=some a->a.loc=l->a.kind=.said->t.g? i=some 0):FH t num size ex' rd' sh':=by
 refine⟨h.nr,A,fun g l hl=>h.ex g l (he g l hl),fun g l hl=>?_,fun g l hl i a ha e=>?_,h.low,h.gs,h.norel⟩
 ·rcases hr g l hl with h1|h1
  ·exact h.rd g l h1
  ·exact PermW.of (h.ex g l h1)
 ·rcases hs g l hl with h1|⟨h1,h2⟩
  ·exact h.sh g l h1 i a ha e
  ·exact⟨fun _=>h.ex g l h1 i a ha e,fun hk=>h2 i a ha e hk⟩
theorem FH.fork(h:FH t num size ex rd sh)(hpos:0<num){x y:MemOp}(hx:x.g=0/\x.act=.go num)(hy:y.g=num/\y.act=.start)(h0:Deaf t 0=0){ex' rd' sh':Nat->Loc->Prop}(A:Ng size ex' rd' sh')
  (he:∀g l,ex' g l->if g=num then ex 0 l else ex g l)(hr:∀g l,rd' g l->if g=num then rd 0 l\/ex 0 l else rd g l\/ex g l)(hs:∀g l,sh' g l->if g=num then sh 0 l else sh g l):
  FH (t++#[x,y]) (num+1) size ex' rd' sh':=by
 have hk:Deaf t num=0:=Deaf_absent fun i op hi e=>by have:=h.gs i op hi;omega
 have hnt:∀op∈#[x,y],∀b,op.act.touch?=some b->False:=by
  intro op hop b hb;simp only[List.mem_toArray,aM,bA,or_false]at hop;rcases hop with rfl|rfl
  ·rw[hx.2]at hb;cases hb
  ·rw[hy.2]at hb;cases hb
 have old:∀{i:Nat} {a:Touch},touchAt (t++#[x,y]) i=some a->i<t.size/\touchAt t i=some a:=by
  intro i a ha;rcases gT ha with h1|⟨_,op,hop,_,vN⟩
  ·exact h1
  ·exact(hnt op hop a vN).elim
 have kn:∀{i:Nat},Knows t 0 i->Knows (t++#[x,y]) num i:=fun hi=>fork_knows hx hy h0 hk hi;refine⟨fun said=>?_,A,fun g l hl i a ha e=>?_,fun g l hl i a ha e hw=>?_,fun g l hl i a ha e=>?_,fun i a ha b hb=>(h.low i a (old ha).2 b hb).imp id fun k g hg=>(Nat.lt_succ_iff_lt_or_eq.1 hg).elim (fun hg=>(k g hg).app _) fun e=>e ▸ kn (k 0 hpos),fun i op hi=>?_,fun i op hi a=>?_⟩
 ·have e:t++#[x,y]=(t++#[x])++#[y]:=by apply Array.ext';simp
  rw[e];refine noRace_append (g:=num) (noRace_append (g:=0) (h.nr said) (fun op hop=>by simp at hop;rw[hop];exact hx.1) (fun i a _ op hop b hb _=>(hnt op (by simp at hop ⊢;exact .inl hop) b hb).elim))
   (fun op hop=>by simp at hop;rw[hop];exact hy.1) (fun i a _ op hop b hb _=>(hnt op (by simp at hop ⊢;exact .inr hop) b hb).elim)
 ·have:=he g l hl
  split at this
  ·rename_i e';subst e';exact kn (h.ex 0 l this i a (old ha).2 e)
  ·exact(h.ex g l this i a (old ha).2 e).app _
 ·have:=hr g l hl
  split at this
  ·rename_i e';subst e';rcases this with h1|h1
   ·exact kn (h.rd 0 l h1 i a (old ha).2 e hw)
   ·exact kn (h.ex 0 l h1 i a (old ha).2 e)
  ·rcases this with h1|h1
   ·exact(h.rd g l h1 i a (old ha).2 e hw).app _
   ·exact(h.ex g l h1 i a (old ha).2 e).app _
 ·have:=hs g l hl
  have gq:∀{k:Nat},t.g? i=some k->(t++#[x,y]).g? i=some k:=fun h'=>by simp only[cX,getElem?_append_old (old ha).1]at h' ⊢;exact h'
  split at this
  ·rename_i e';subst e';obtain⟨s1,s2⟩:=h.sh 0 l this i a (old ha).2 e;exact⟨fun hk=>kn (s1 hk),fun hk=>gq (s2 hk)⟩
  ·obtain⟨s1,s2⟩:=h.sh g l this i a (old ha).2 e;exact⟨fun hk=>(s1 hk).app _,fun hk=>gq (s2 hk)⟩
 ·rcases getElem?_append_cases hi with⟨_,hi'⟩|⟨_,Yd⟩
  ·have:=h.gs i op hi';omega
  ·simp only[List.mem_toArray,aM,bA,or_false]at Yd;rcases Yd with rfl|rfl
   ·rw[hx.1];omega
   ·rw[hy.1];omega
 ·rcases getElem?_append_cases hi with⟨_,hi'⟩|⟨_,Yd⟩
  ·intro e k hk;have:=h.norel i op hi' a e k hk
   have hlt:k<t.size:=Nat.lt_of_le_of_lt hk (lt_size_of_getElem? hi');simp only[cX,getElem?_append_old hlt]at this ⊢;exact this
  ·simp only[List.mem_toArray,aM,bA,or_false]at Yd;rcases Yd with rfl|rfl
   ·rw[hx.2];simp
   ·rw[hy.2];simp
end
end
section
inductive Hg|Ah|work|dn
 deriving DecidableEq
inductive MX
 |fresh|cont (aw:Bool)|iF|woken (h:Bool)|own (s:Hg)|ul (old:Int)|rel|unl|out
 deriving DecidableEq
def MX.iP:MX->Bool|.own _=>true|_=>false
def MX.iW:MX->Bool|.rel=>true|_=>false
def MX.jg:MX->Bool|.unl=>true|_=>false
def MX.vv:MX->Bool|.iF=>true|_=>false
def MX.lT:MX->Bool|.woken false=>true|_=>false
def MX.jo:MX->Bool|.woken true=>true|_=>false
def MX.kZ:MX->Bool|.cont true=>true|_=>false
def cnt(p:MX->Bool)(m:Nat->MX)(a n:Nat):Nat:=(bq n).countP fun k=>p (m (a+k))
def upd{α:Type}(m:Nat->α)(j:Nat)(x:α):Nat->α:=fun i=>if i=j then x else m i
theorem gF{α:Type}(m:Nat->α)(j:Nat)(x:α):upd m j x j=x:=by simp[upd]
theorem upd_ne{α:Type}(m:Nat->α){i j:Nat}(x:α)(h:i≠j):upd m j x i=m i:=by simp[upd,h]
theorem Kv(p:MX->Bool)(m:Nat->MX){a j:Nat}(n:Nat)(x:MX)(h:j<a\/a+n<=j):cnt p (upd m j x) a n=cnt p m a n:=by
 unfold cnt;refine List.countP_congr fun k hk=>?_;rw[upd_ne];have:=List.mem_range.1 hk
 omega
theorem nQ(p:MX->Bool)(m:Nat->MX){a j:Nat}(n:Nat)(x:MX)(h:a<=j)(h2:j<a+n):cnt p (upd m j x) a n+(p (m j)).toNat=cnt p m a n+(p x).toNat:=by
 induction n with
 |zero=>omega
 |succ n ih=>
  have s:∀m,cnt p m a (n+1)=cnt p m a n+(p (m (a+n))).toNat:=fun m=>by
   unfold cnt;rw[List.range_succ,List.countP_append];cases hp:p (m (a+n))<;>simp[hp]
  rw[s,s];by_cases e:j=a+n
  ·subst e;rw[Kv p m n x (.inr nle),gF];omega
  ·have:=ih (by omega)
   rw[upd_ne m x (by omega:a+n≠j)];omega
theorem yt{p:MX->Bool}{m:Nat->MX}{a j n:Nat}(h:a<=j)(h2:j<a+n)(hp:p (m j)=true):1<=cnt p m a n:=by
 unfold cnt;refine List.countP_pos_iff.2 ⟨j-a,List.mem_range.2 (by omega),?_⟩;rw[show a+(j-a)=j by omega];exact hp
def enc(L W S N:Nat):Int:=((L+2*W+4*S+8*N:Nat):Int)
structure jJ(m:Nat->MX)(a n:Nat)(L W S N tn th:Nat):Prop where
 own:L=cnt MX.iP m a n
 wok:W=cnt MX.iW m a n+tn+cnt MX.lT m a n+cnt MX.kZ m a n
 que:N+cnt MX.iW m a n+tn=cnt MX.vv m a n+cnt MX.jo m a n
 bd:L<=1/\W<=1/\S<=1
 st:(S=1/\W=0/\L+cnt MX.jg m a n+th+cnt MX.jo m a n=1/\1<=N)\/(S=0/\th=0/\cnt MX.jg m a n=0/\cnt MX.jo m a n=0)
 wit:L=0->W=0->S=0->1<=N->∃j,a<=j/\j<a+n/\m j=.ul (8*N:Nat)
def kF:MX->Nat
 |.fresh=>9
 |.cont false=>8
 |.cont true=>7
 |.iF=>6
 |.woken _=>8
 |.own _=>6
 |.ul _=>5
 |.rel=>4
 |.unl=>4
 |.out=>0
def RG(m:Nat->MX)(a n tok:Nat):Nat:=((bq n).map fun k=>kF (m (a+k))).sum+3*tok
theorem Wv(m:Nat->MX){a j:Nat}(n:Nat)(x:MX):(j<a\/a+n<=j->((bq n).map fun k=>kF (upd m j x (a+k))).sum=((bq n).map fun k=>kF (m (a+k))).sum)/\
  (a<=j->j<a+n->((bq n).map fun k=>kF (upd m j x (a+k))).sum+kF (m j)=((bq n).map fun k=>kF (m (a+k))).sum+kF x):=by
 induction n with
 |zero=>exact⟨fun _=>rfl,fun _ _=>by omega⟩
 |succ n ih=>
  simp only[List.range_succ,List.map_append,List.map_cons,List.map_nil,List.sum_append,List.sum_cons,List.sum_nil];refine⟨fun h=>?_,fun h h2=>?_⟩
  ·rw[ih.1 (by omega),upd_ne m x (by omega:a+n≠j)]
  ·by_cases e:j=a+n
   ·subst e;rw[ih.1 (.inr nle),gF];omega
   ·have:=ih.2 h (by omega)
    rw[upd_ne m x (by omega:a+n≠j)];omega
theorem Gg(m:Nat->MX){a j:Nat}(n:Nat)(x:MX)(tok aM9:Nat)(h:a<=j)(h2:j<a+n):RG (upd m j x) a n aM9+kF (m j)+3*tok=RG m a n tok+kF x+3*aM9:=by
 unfold RG;have:=(Wv m n x).2 h h2
 omega
section
variable{m:Nat->MX}{a n j:Nat}{L W S N tn th:Nat}
theorem counts(m:Nat->MX)(x:MX)(h:a<=j)(h2:j<a+n):
  (cnt MX.iP (upd m j x) a n+(MX.iP (m j)).toNat=cnt MX.iP m a n+(MX.iP x).toNat)/\(cnt MX.iW (upd m j x) a n+(MX.iW (m j)).toNat=cnt MX.iW m a n+(MX.iW x).toNat)/\
  (cnt MX.jg (upd m j x) a n+(MX.jg (m j)).toNat=cnt MX.jg m a n+(MX.jg x).toNat)/\(cnt MX.vv (upd m j x) a n+(MX.vv (m j)).toNat=cnt MX.vv m a n+(MX.vv x).toNat)/\
  (cnt MX.lT (upd m j x) a n+(MX.lT (m j)).toNat=cnt MX.lT m a n+(MX.lT x).toNat)/\(cnt MX.jo (upd m j x) a n+(MX.jo (m j)).toNat=cnt MX.jo m a n+(MX.jo x).toNat)/\
  (cnt MX.kZ (upd m j x) a n+(MX.kZ (m j)).toNat=cnt MX.kZ m a n+(MX.kZ x).toNat):=
 ⟨nQ _ m n x h h2,nQ _ m n x h h2,nQ _ m n x h h2,nQ _ m n x h h2,nQ _ m n x h h2,nQ _ m n x h h2,nQ _ m n x h h2⟩
theorem jJ.move(h:jJ m a n L W S N tn th)(hj:a<=j)(jz:j<a+n){x y:MX}(hm:m j=y){L' W' S' N' tn' th':Nat}
  (k:∀cO cR cU cQ cN cH cT dO dR dU dQ dN dH dT:Nat,dO+y.iP.toNat=cO+x.iP.toNat->dR+y.iW.toNat=cR+x.iW.toNat->dU+y.jg.toNat=cU+x.jg.toNat->dQ+y.vv.toNat=cQ+x.vv.toNat->dN+y.lT.toNat=cN+x.lT.toNat->dH+y.jo.toNat=cH+x.jo.toNat->dT+y.kZ.toNat=cT+x.kZ.toNat->
   L=cO->W=cR+tn+cN+cT->N+cR+tn=cQ+cH->L<=1/\W<=1/\S<=1->((S=1/\W=0/\L+cU+th+cH=1/\1<=N)\/(S=0/\th=0/\cU=0/\cH=0))->
   L'=dO/\W'=dR+tn'+dN+dT/\N'+dR+tn'=dQ+dH/\(L'<=1/\W'<=1/\S'<=1)/\((S'=1/\W'=0/\L'+dU+th'+dH=1/\1<=N')\/(S'=0/\th'=0/\dU=0/\dH=0)))
  (hw:L'=0->W'=0->S'=0->1<=N'->x=.ul (8*N':Nat)\/(L=0/\W=0/\S=0/\N'=N/\y≠ .ul (8*N:Nat))):jJ (upd m j x) a n L' W' S' N' tn' th':=by
 obtain⟨c1,c2,c3,c4,c5,c6,c7⟩:=counts m x hj jz;rw[hm]at c1 c2 c3 c4 c5 c6 c7;obtain⟨h1,h2,h3,h4,h5,h6⟩:=h;obtain⟨k1,k2,k3,k4,k5⟩:=k _ _ _ _ _ _ _ _ _ _ _ _ _ _ c1 c2 c3 c4 c5 c6 c7 h1 h2 h3 h4 h5;refine⟨k1,k2,k3,k4,k5,fun a1 a2 a3 a4=>?_⟩;rcases hw a1 a2 a3 a4 with e|⟨b1,b2,b3,b4,b5⟩
 ·exact⟨j,hj,jz,by rw[gF];exact e⟩
 ·obtain⟨i,i1,i2,i3⟩:=h6 b1 b2 b3 (by omega);have hne:i≠j:=fun e=>b5 (by rw[<-hm,<-e];exact i3);exact⟨i,i1,i2,by rw[upd_ne m x hne,i3,b4]⟩
variable(h:jJ m a n L W S N tn th)(hj:a<=j)(jz:j<a+n)
include h hj jz
omit h in
theorem Kr(p:MX->Bool)(hp:p (m j)=true):1<=cnt p m a n:=yt hj jz hp
theorem jJ.G8(hm:m j=.cont true):W=1/\S=0/\tn=0/\th=0:=by
 have p:=Kr (m:=m) hj jz MX.kZ (by rw[hm];rfl);obtain⟨h1,h2,h3,h4,h5,-⟩:=h;omega
theorem jJ.a93(hm:m j=.woken false):W=1/\S=0:=by
 have p:=Kr (m:=m) hj jz MX.lT (by rw[hm];rfl);obtain⟨h1,h2,h3,h4,h5,-⟩:=h;omega
theorem jJ.Vp(hm:m j=.woken true):L=0/\W=0/\S=1/\1<=N:=by
 have p:=Kr (m:=m) hj jz MX.jo (by rw[hm];rfl);obtain⟨h1,h2,h3,h4,h5,-⟩:=h;omega
theorem jJ.a95{o:Hg}(hm:m j=.own o):L=1:=by
 have p:=Kr (m:=m) hj jz MX.iP (by rw[hm];rfl);obtain⟨h1,h2,h3,h4,h5,-⟩:=h;omega
theorem jJ.a94(hm:m j=.unl):L=0/\S=1/\th=0/\tn=0:=by
 have p:=Kr (m:=m) hj jz MX.jg (by rw[hm];rfl);obtain⟨h1,h2,h3,h4,h5,-⟩:=h;omega
theorem jJ.fast(hm:m j=.fresh)(h0:L=0/\W=0/\S=0/\N=0):jJ (upd m j (.own .Ah)) a n 1 0 0 0 tn th:=by
 refine h.move hj jz hm ?_ (fun a1 a2 a3 a4=>by omega);intros;simp only[MX.iP,MX.iW,MX.jg,MX.vv,MX.lT,MX.jo,MX.kZ,cu,cg,true_and,and_true,true_or,or_true]at*;omega
theorem jJ.slow(hm:m j=.fresh):jJ (upd m j (.cont false)) a n L W S N tn th:=by
 refine h.move hj jz hm ?_ (fun a1 a2 a3 a4=>.inr ⟨a1,a2,a3,rfl,by simp⟩);intros;simp only[MX.iP,MX.iW,MX.jg,MX.vv,MX.lT,MX.jo,MX.kZ,cu,cg,true_and,and_true,true_or,or_true]at*;omega
theorem jJ.spin(hm:m j=.cont false)(h0:L=1/\W=0/\S=0):jJ (upd m j (.cont true)) a n L 1 S N tn th:=by
 refine h.move hj jz hm ?_ (fun a1 a2 a3 a4=>by omega);intros;simp only[MX.iP,MX.iW,MX.jg,MX.vv,MX.lT,MX.jo,MX.kZ,cu,cg,true_and,and_true,true_or,or_true]at*;omega
theorem jJ.take(aw:Bool)(hm:m j=.cont aw)(h0:L=0/\S=0):jJ (upd m j (.own .Ah)) a n 1 (W-aw.toNat) S N tn th:=by
 have p:=fun e:aw=true=>Kr (m:=m) hj jz MX.kZ (by rw[hm,e];rfl);refine h.move hj jz hm ?_ (fun a1 a2 a3 a4=>by omega);cases aw<;>(intros;simp only[MX.iP,MX.iW,MX.jg,MX.vv,MX.lT,MX.jo,MX.kZ,cu,cg,true_and,and_true,true_or,or_true]at*;omega)
theorem jJ.queue(aw:Bool)(hm:m j=.cont aw)(h0:L=1\/S=1):jJ (upd m j .iF) a n L (W-aw.toNat) S (N+1) tn th:=by
 refine h.move hj jz hm ?_ (fun a1 a2 a3 a4=>by omega);cases aw<;>(intros;simp only[MX.iP,MX.iW,MX.jg,MX.vv,MX.lT,MX.jo,MX.kZ,cu,cg,true_and,and_true,true_or,or_true]at*;omega)
theorem jJ.Sm(hm:m j=.cont true)(h0:L=1):jJ (upd m j .iF) a n L (W-1) 1 (N+1) tn th:=by
 have p:=Kr (m:=m) hj jz MX.kZ (by rw[hm];rfl);refine h.move hj jz hm ?_ (fun a1 a2 a3 a4=>by omega);intros;simp only[MX.iP,MX.iW,MX.jg,MX.vv,MX.lT,MX.jo,MX.kZ,cu,cg,true_and,and_true,true_or,or_true]at*;omega
theorem jJ.aM0(hm:m j=.iF)(h0:1<=tn):jJ (upd m j (.woken false)) a n L W S N (tn-1) th:=by
 refine h.move hj jz hm ?_ (fun a1 a2 a3 a4=>.inr ⟨a1,a2,a3,rfl,by simp⟩);intros;simp only[MX.iP,MX.iW,MX.jg,MX.vv,MX.lT,MX.jo,MX.kZ,cu,cg,true_and,and_true,true_or,or_true]at*;omega
theorem jJ.aM1(hm:m j=.iF)(h0:1<=th):jJ (upd m j (.woken true)) a n L W S N tn (th-1):=by
 refine h.move hj jz hm ?_ (fun a1 a2 a3 a4=>.inr ⟨a1,a2,a3,rfl,by simp⟩);intros;simp only[MX.iP,MX.iW,MX.jg,MX.vv,MX.lT,MX.jo,MX.kZ,cu,cg,true_and,and_true,true_or,or_true]at*;omega
theorem jJ.again(hm:m j=.woken false):jJ (upd m j (.cont true)) a n L W S N tn th:=by
 refine h.move hj jz hm ?_ (fun a1 a2 a3 a4=>.inr ⟨a1,a2,a3,rfl,by simp⟩);intros;simp only[MX.iP,MX.iW,MX.jg,MX.vv,MX.lT,MX.jo,MX.kZ,cu,cg,true_and,and_true,true_or,or_true]at*;omega
theorem jJ.handed(hm:m j=.woken true)(S':Nat)(hS:S'=0\/(S'=1/\2<=N)):jJ (upd m j (.own .Ah)) a n 1 0 S' (N-1) tn th:=by
 have p:=Kr (m:=m) hj jz MX.jo (by rw[hm];rfl);refine h.move hj jz hm ?_ (fun a1 a2 a3 a4=>by omega);intros;simp only[MX.iP,MX.iW,MX.jg,MX.vv,MX.lT,MX.jo,MX.kZ,cu,cg,true_and,and_true,true_or,or_true]at*;omega
theorem jJ.owns{o o':Hg}(hm:m j=.own o):jJ (upd m j (.own o')) a n L W S N tn th:=by
 refine h.move hj jz hm ?_ (fun a1 a2 a3 a4=>.inr ⟨a1,a2,a3,rfl,by simp⟩);intros;simp only[MX.iP,MX.iW,MX.jg,MX.vv,MX.lT,MX.jo,MX.kZ,cu,cg,true_and,and_true,true_or,or_true]at*;omega
theorem jJ.aS8{o:Hg}(hm:m j=.own o)(h0:W=0/\S=0/\N=0):jJ (upd m j .out) a n 0 W S N tn th:=by
 refine h.move hj jz hm ?_ (fun a1 a2 a3 a4=>by omega);intros;simp only[MX.iP,MX.iW,MX.jg,MX.vv,MX.lT,MX.jo,MX.kZ,cu,cg,true_and,and_true,true_or,or_true]at*;omega
theorem jJ.ar4{o:Hg}(hm:m j=.own o)(h0:S=0):jJ (upd m j (.ul (2*W+8*N:Nat))) a n 0 W S N tn th:=by
 refine h.move hj jz hm ?_ (fun _ a2 _ _=>.inl (by rw[a2];simp));intros;simp only[MX.iP,MX.iW,MX.jg,MX.vv,MX.lT,MX.jo,MX.kZ,cu,cg,true_and,and_true,true_or,or_true]at*;omega
theorem jJ.ar5{o:Hg}(hm:m j=.own o)(h0:S=1):jJ (upd m j .unl) a n 0 W S N tn th:=by
 refine h.move hj jz hm ?_ (fun a1 a2 a3 a4=>by omega);intros;simp only[MX.iP,MX.iW,MX.jg,MX.vv,MX.lT,MX.jo,MX.kZ,cu,cg,true_and,and_true,true_or,or_true]at*;omega
theorem jJ.leave{old:Int}(hm:m j=.ul old)(h0:∀N':Nat,1<=N'->old≠(8*N':Nat)):jJ (upd m j .out) a n L W S N tn th:=by
 refine h.move hj jz hm ?_ (fun a1 a2 a3 a4=>.inr ⟨a1,a2,a3,rfl,fun e=>h0 N a4 (by simpa using e)⟩);intros;simp only[MX.iP,MX.iW,MX.jg,MX.vv,MX.lT,MX.jo,MX.kZ,cu,cg,true_and,and_true,true_or,or_true]at*;omega
theorem jJ.bz0{old:Int}(hm:m j=.ul old)(h0:L=0/\W=0/\S=0/\1<=N):jJ (upd m j .rel) a n L 1 S (N-1) tn th:=by
 refine h.move hj jz hm ?_ (fun a1 a2 a3 a4=>by omega);intros;simp only[MX.iP,MX.iW,MX.jg,MX.vv,MX.lT,MX.jo,MX.kZ,cu,cg,true_and,and_true,true_or,or_true]at*;omega
theorem jJ.look{old:Int}(hm:m j=.ul old):jJ (upd m j (.ul (enc L W S N))) a n L W S N tn th:=by
 refine h.move hj jz hm ?_ (fun a1 a2 a3 a4=>.inl (by subst a1 a2 a3;simp[enc]));intros;simp only[MX.iP,MX.iW,MX.jg,MX.vv,MX.lT,MX.jo,MX.kZ,cu,cg,true_and,and_true,true_or,or_true]at*;omega
theorem jJ.ak7(hm:m j=.rel):jJ (upd m j .out) a n L W S N (tn+1) th:=by
 refine h.move hj jz hm ?_ (fun a1 a2 a3 a4=>.inr ⟨a1,a2,a3,rfl,by simp⟩);intros;simp only[MX.iP,MX.iW,MX.jg,MX.vv,MX.lT,MX.jo,MX.kZ,cu,cg,true_and,and_true,true_or,or_true]at*;omega
theorem jJ.ak8(hm:m j=.unl):jJ (upd m j .out) a n L W S N tn (th+1):=by
 have q:=h.a94 hj jz hm;refine h.move hj jz hm ?_ (fun a1 a2 a3 a4=>.inr ⟨a1,a2,a3,rfl,by simp⟩);intros;simp only[MX.iP,MX.iW,MX.jg,MX.vv,MX.lT,MX.jo,MX.kZ,cu,cg,true_and,and_true,true_or,or_true]at*;omega
end
theorem jJ.yQ{m:Nat->MX}{a n L W S N:Nat}(h:jJ m a n L W S N 0 0)(hall:∀j,a<=j->j<a+n->m j=.iF\/m j=.fresh\/m j=.out){j:Nat}(hj:a<=j)(jz:j<a+n)(hq:m j=.iF):False:=by
 have z:∀p:MX->Bool,p .iF=false->p .fresh=false->p .out=false->cnt p m a n=0:=fun p p1 p2 p3=>by
  unfold cnt;rw[List.countP_eq_zero];intro k hk;have:=List.mem_range.1 hk
  rcases hall (a+k) (by omega) (by omega)with e|e|e<;>rw[e]<;>simp[p1,p2,p3]
 have p:=yt (m:=m) (p:=MX.vv) hj jz (by rw[hq];rfl);obtain⟨h1,h2,h3,h4,h5,h6⟩:=h;rw[z MX.iP rfl rfl rfl]at h1;rw[z MX.iW rfl rfl rfl,z MX.lT rfl rfl rfl,z MX.kZ rfl rfl rfl]at h2;rw[z MX.iW rfl rfl rfl,z MX.jo rfl rfl rfl]at h3;rw[z MX.jg rfl rfl rfl,z MX.jo rfl rfl rfl]at h5;obtain⟨i,i1,i2,i3⟩:=h6 (by omega) (by omega) (by omega) (by omega);rcases hall i i1 i2 with e|e|e<;>rw[e]at i3<;>cases i3
end
section
open Go.Conc Go.ConcN
open Go.ConcR (KK wgBlock WgAt stA smA rd wr mk)
open Go.ConcM (OsLater)
inductive WG|idle|work|rel|deaf|d2|d3|d4|lv|gone
 deriving DecidableEq
structure Wk where
 mx:MX
 zw:Bool
 rw:Bool
 syn:Bool
 wg:WG
 df:Nat
 keep:List (Nat×Obj)
def Wk.new:Wk:=⟨.fresh,false,false,false,.idle,0,[]⟩
inductive MW|solo|sp|ad|wt|rg|lG
 deriving DecidableEq
structure eI where
 n0:Nat
 n:Nat
 Gb:Nat
 Wg:Nat
 Zb:Nat
 Rb:Nat
 g0:af
 g1:af
 g2:af
 nn:Nat
 vals:Nat->Int
 zv:Nat->af
 rv:Nat->af
structure eD where
 num:Nat
 sc:Option eI
 wk:Nat->Wk
 mw:MW
 dm:Nat
 D:Nat
 L:Nat
 W:Nat
 S:Nat
 N:Nat
 tn:Nat
 th:Nat
 gs:Nat
 gm:Nat
 ex:Nat->Loc->Prop
 rd:Nat->Loc->Prop
 sh:Nat->Loc->Prop
 dead:Nat->Prop
structure iK where
 P:au
 tG:aj
 tZ:aj
 tR:aj
 tW:aj
 os0:Os
 WZ:Array (Nat×ByteArray)
 Post:af->ae->Prop
def eD.mm(γ:eD):Nat->MX:=fun j=>(γ.wk j).mx
def ca(b off:Nat):Loc:=.cell ⟨b,off,none⟩
def gj(p:WG->Bool)(γ:eD)(s:eI):Nat:=(bq s.n).countP fun k=>p (γ.wk (s.n0+k)).wg
def WG.cd:WG->Bool|.work|.rel|.deaf=>true|_=>false
def WG.cr:WG->Nat
 |.idle=>9|.work=>8|.rel=>7|.deaf=>6|.d2=>5|.d3=>4|.d4=>3|.lv=>1|.gone=>0
def pI(γ:eD)(s:eI):Nat:=((bq s.n).map fun k=>(γ.wk (s.n0+k)).wg.cr).sum
def phi(γ:eD)(s:eI):Nat:=RG γ.mm s.n0 s.n (γ.tn+γ.th)
def xh(mw:MW)(c d2 d3 d4 st sm:Nat):Prop:=
 match mw with
 |.solo=>False
 |.sp|.wt=>st=c*4294967296/\sm=0/\d2=0/\d3=0/\d4=0
 |.ad=>st=(c+1)*4294967296/\sm=0/\d2=0/\d3=0/\d4=0
 |.rg=>(1<=c/\st=c*4294967296+1/\sm=0/\d2=0/\d3=0/\d4=0)\/(c=0/\st=1/\sm=0/\d2+d3=1/\d4=0)\/(c=0/\st=0/\sm=0/\d2=0/\d3=0/\d4=1)\/(c=0/\st=0/\sm=1/\d2=0/\d3=0/\d4=0)
 |.lG=>c=0/\st=0/\sm=0/\d2=0/\d3=0/\d4=0
def Mem(s:eI)(γ:eD)(g:Nat):Prop:=g=0\/(s.n0<=g/\g<γ.num)
section
variable(q:iK)
def kK(s:eI)(γ:eD)(w:ae):Prop:=∃C:Array af,w.heap[s.Gb]?=some (.cells C q.tG)/\C.size=16/\C[0]?=some s.g0/\C[1]?=some s.g1/\C[2]?=some s.g2/\C[3]?=some (.int .u32 γ.D)/\
 C[4]?=some (.int .i32 (enc γ.L γ.W γ.S γ.N))/\C[5]?=some (.int .u32 ((γ.tn+γ.th:Nat):Int))/\(∀k,6<=k->k<16->∃x,C[k]?=some (.int .u64 x))/\(γ.D=1->∀id,1<=id->id<=s.nn->C[6+id]?=some (.int .u64 (s.vals id)))
def tF(b n:Nat)(t:aj)(f:Nat->Bool)(v:Nat->af)(w:ae):Prop:=∃Z:Array af,w.heap[b]?=some (.cells Z t)/\Z.size=n/\(∀(k:Nat) (x:af),Z[k]?=some x->(∀a,x≠Value.agg a)/\∀a,x≠Value.tuple a)/\∀k,k<n->f k=true->Z[k]?=some (v k)
structure gL(s:eI)(st:St eD):Prop where
 n0:0<s.n0/\s.n0<=st.γ.num/\st.γ.num<=s.n0+s.n/\s.n<=9
 gb:kK q s st.γ st.w
 qL:WgAt q.tW s.Wg st.w st.γ.gs st.γ.gm
 zb:tF s.Zb s.n q.tZ (fun k=>(st.γ.wk (s.n0+k)).zw) s.zv st.w
 rb:tF s.Rb s.n q.tR (fun k=>(st.γ.wk (s.n0+k)).rw) s.rv st.w
 ne:s.Gb≠s.Wg/\s.Gb≠s.Zb/\s.Gb≠s.Rb/\s.Wg≠s.Zb/\s.Wg≠s.Rb/\s.Zb≠s.Rb
 mu:jJ st.γ.mm s.n0 s.n st.γ.L st.γ.W st.γ.S st.γ.N st.γ.tn st.γ.th
 D1:st.γ.D<=1
 work:∀j,(st.γ.wk j).mx=.own .work->st.γ.D=0
 dn:∀j,(st.γ.wk j).mx=.own .dn->st.γ.D=1
 syn:∀j,s.n0<=j->(st.γ.wk j).syn=true->st.γ.D=1
 new:∀j,st.γ.num<=j->st.γ.wk j=.new
 on:∀j,s.n0<=j->j<st.γ.num->(st.γ.wk j).wg≠ .idle
 fin:∀j,s.n0<=j->(st.γ.wk j).wg≠ .idle->(st.γ.wk j).wg≠ .work->(st.γ.wk j).zw=true/\(st.γ.wk j).rw=true/\((st.γ.wk j).mx=.fresh\/(st.γ.wk j).mx=.out)
 all:st.γ.mw=.wt\/st.γ.mw=.rg\/st.γ.mw=.lG->st.γ.num=s.n0+s.n
 sD:xh st.γ.mw (gj WG.cd st.γ s) (gj (·== .d2) st.γ s) (gj (·== .d3) st.γ s) (gj (·== .d4) st.γ s) st.γ.gs st.γ.gm
end
structure sf(s:eI)(γ:eD):Prop where
 spec:∀g b,(b=s.Gb\/b=s.Wg\/b=s.Zb\/b=s.Rb)->(∃off,¬γ.ex g (ca b off))/\∃off,¬γ.rd g (ca b off)
 Hy:∀k,k<s.n->s.n0+k<γ.num->(γ.wk (s.n0+k)).wg=.work->γ.ex (s.n0+k) (ca s.Zb k)/\γ.ex (s.n0+k) (ca s.Rb k)
 MH:∀k,k<s.n->γ.num<=s.n0+k->γ.ex 0 (ca s.Zb k)/\γ.ex 0 (ca s.Rb k)
 KW:∀g,Mem s γ g->∀off,off<3->γ.rd g (ca s.Gb off)
 KU:∀g,Mem s γ g->(∀off,3<=off->off<6->γ.sh g (ca s.Gb off))/\∀off,off<2->γ.sh g (ca s.Wg off)
 UO:∀j,(γ.wk j).mx=.own .work->∀off,6<=off->off<16->γ.ex j (ca s.Gb off)
 SP:∀j,s.n0<=j->(γ.wk j).syn=true->∀off,6<=off->off<16->γ.rd j (ca s.Gb off)
 DX:(∀j,(γ.wk j).mx≠ .own .work)->∀g off,6<=off->off<16->¬γ.ex g (ca s.Gb off)/\¬γ.sh g (ca s.Gb off)/\(γ.D=0->¬γ.rd g (ca s.Gb off))
structure zy(s:eI)(st:St eD):Prop where
 Zv:st.γ.D=0->(∀j,(st.γ.wk j).mx≠ .own .work)->∀g,Mem s st.γ g->∀off,6<=off->off<16->Perm st.t g (ca s.Gb off)
 VT:st.γ.D=1->∃p,LastWrite st.t ⟨s.Gb,3,none⟩ p/\st.t.heard p/\∀off,6<=off->off<16->∀i a,touchAt st.t i=some a->a.loc=ca s.Gb off->a.write=true->Before st.t i p
 rel:∀j,s.n0<=j->j<st.γ.num->(st.γ.wk j).wg≠ .work->∃r,RelBy (stA s.Wg) st.t j r/\∀i a,r<i->st.t.g? i=some j->touchAt st.t i=some a->ij a.loc=some s.Wg
section
variable(q:iK)
structure aD4(s:eI)(st:St eD):Prop where
 c:gL q s st
 p:sf s st.γ
 t:zy s st
def eD.old(γ:eD):Nat:=match γ.sc with|some s=>s.n0|none=>γ.num
structure Base(st:St eD):Prop where
 pos:0<st.γ.num
 tr:FH st.t st.γ.num st.w.heap.size st.γ.ex st.γ.rd st.γ.sh
 JY:q.P.globals.size<=st.w.heap.size
 YG:Deaf st.t 0=st.γ.dm
 Pm:∀j,0<j->j<st.γ.num->Deaf st.t j=(st.γ.wk j).df
 gone:∀j,(st.γ.wk j).wg=.gone->j≠0/\j<st.γ.num/\(st.γ.wk j).df=0
 os:OsLater q.os0 st.w.os
 out:st.w.output=q.WZ
 old:∀j,0<j->j<st.γ.old->(st.γ.wk j).wg=.lv\/(st.γ.wk j).wg=.gone
 dead:∀b,st.γ.dead b->b<st.w.heap.size
 know:∀i a,touchAt st.t i=some a->a.loc.isMemory=true->(∃b,ij a.loc=some b/\st.γ.dead b)\/Knows st.t 0 i\/∃g,st.t.g? i=some g/\st.γ.old<=g
 ho:∀i g,st.t.g? i=some g->g≠0->g<st.γ.old->st.t.counts i->∃j,st.t.g? j=some 0/\HappensBefore st.t i j
 pool:∀g l,st.γ.ex g l\/st.γ.rd g l\/st.γ.sh g l->g<st.γ.num
 S9:∀j,j<st.γ.old->(st.γ.wk j).mx=.fresh\/(st.γ.wk j).mx=.out
 nw:∀j,st.γ.num<=j->st.γ.wk j=.new
 said:∀i a,touchAt st.t i=some a->a.kind=.said->st.t.g? i=some 0
 dsc:∀s,st.γ.sc=some s->¬st.γ.dead s.Gb/\¬st.γ.dead s.Zb/\¬st.γ.dead s.Rb
structure Inv(st:St eD):Prop where
 base:Base q st
 solo:st.γ.sc=none↔st.γ.mw=.solo
 eZ:∀s,st.γ.sc=some s->aD4 q s st
def Live(i:Nat)(st:St eD):Prop:=i=0\/((st.γ.wk i).wg≠ .lv/\(st.γ.wk i).wg≠ .gone)
structure Rl(i:Nat)(st dV:St eD):Prop where
 size:st.w.heap.size<=dV.w.heap.size
 ex:Live i st->∀l,st.γ.ex i l->dV.γ.ex i l
 rd:Live i st->∀l,st.γ.rd i l->dV.γ.rd i l
 blk:Live i st->∀b,(∀off,st.γ.ex i (ca b off))\/(∀off,st.γ.rd i (ca b off))->dV.w.heap[b]?=st.w.heap[b]?
 me:i≠0->dV.γ.wk i=st.γ.wk i
 main:i=0->dV.γ.mw=st.γ.mw/\dV.γ.dm=st.γ.dm/\dV.γ.num=st.γ.num/\(∀b,dV.γ.dead b↔st.γ.dead b)
 sc:i=0\/((st.γ.wk i).wg≠ .lv/\(st.γ.wk i).wg≠ .gone/\(st.γ.wk i).wg≠ .idle)->dV.γ.sc=st.γ.sc
 phi:i≠0->(st.γ.wk i).wg≠ .lv->(st.γ.wk i).wg≠ .gone/\(st.γ.wk i).wg≠ .idle->∀s,st.γ.sc=some s->phi dV.γ s<=phi st.γ s/\(phi dV.γ s=phi st.γ s->dV.γ.L=st.γ.L/\dV.γ.W=st.γ.W/\dV.γ.S=st.γ.S/\dV.γ.N=st.γ.N)/\(st.γ.D=1->dV.γ.D=1)
 pI:i=0->∀s,st.γ.sc=some s->pI dV.γ s<=pI st.γ s/\(pI dV.γ s=pI st.γ s->dV.γ.gs=st.γ.gs)
 work:i≠0->(st.γ.wk i).wg≠ .lv->(st.γ.wk i).wg≠ .gone/\(st.γ.wk i).wg≠ .idle->(st.γ.wk i).mx=.own .work->∀s,st.γ.sc=some s->∀off,6<=off->off<16->dV.w.cell? ⟨s.Gb,off,none⟩=st.w.cell? ⟨s.Gb,off,none⟩
 Sb:i≠0->(st.γ.wk i).mx=.own .work->dV.γ.D=st.γ.D
 hand:i≠0->(st.γ.wk i).mx=.woken true->(st.γ.wk i).wg=.work->st.γ.N<=dV.γ.N
 num:st.γ.num<=dV.γ.num
def Wt(i:Nat)(st:St eD):Prop:=st.γ.sc≠none/\((i=0/\st.γ.mw=.rg/\st.γ.gm=0)\/(i≠0/\(st.γ.wk i).mx=.iF/\st.γ.tn+st.γ.th=0/\(st.γ.wk i).wg=.work))
def Lvs(i:Nat)(st:St eD):Prop:=i≠0/\((st.γ.wk i).wg=.lv\/(st.γ.wk i).wg=.gone)
def cfg:RF eD where
 P:=q.P
 Inv:=Inv q
 Rel:=Rl
 lY:=Wt
 Gone:=fun i st=>i≠0/\(st.γ.wk i).wg=.gone
 Lv:=Lvs
 num:=fun st=>st.γ.num
 Post:=q.Post
end
section
variable{q:iK}
theorem Rl.refl(i:Nat)(st:St eD):Rl i st st:=
 ⟨aH _,fun _ _ h=>h,fun _ _ h=>h,fun _ _ _=>rfl,fun _=>rfl,fun _=>⟨rfl,rfl,rfl,fun _=>.rfl⟩,fun _=>rfl,fun _ _ _ _ _=>⟨aH _,fun _=>⟨rfl,rfl,rfl,rfl⟩,fun h=>h⟩,fun _ _ _=>⟨aH _,fun _=>rfl⟩,fun _ _ _ _ _ _ _ _ _=>rfl,fun _ _=>rfl,fun _ _ _=>aH _,aH _⟩
theorem Rl.trans{i:Nat}{a b c:St eD}(h:Rl i a b)(k:Rl i b c):Rl i a c:=by
 have lv:Live i a->Live i b:=fun hl=>by
  by_cases h0:i=0
  ·exact .inl h0
  ·rcases hl with hl|hl
   ·exact absurd hl h0
   ·right;rw[h.me h0];exact hl
 refine⟨aY h.size k.size,fun hl l x=>k.ex (lv hl) l (h.ex hl l x),fun hl l x=>k.rd (lv hl) l (h.rd hl l x),fun hl x hx=>?_,fun hi=>(k.me hi).trans (h.me hi),fun hi=>?_,fun hi=>?_,fun hi h1 h2 s hs=>?_,fun hi s hs=>?_,fun hi l1 l2 hw s hs off h1 h2=>?_,fun hi hw=>?_,fun hi hw hg=>?_,aY h.num k.num⟩
 ·refine(k.blk (lv hl) x ?_).trans (h.blk hl x hx);exact hx.imp (fun y off=>h.ex hl _ (y off)) fun y off=>h.rd hl _ (y off)
 ·obtain⟨h1,h2,h3,h4⟩:=h.main hi;obtain⟨k1,k2,k3,k4⟩:=k.main hi;exact⟨k1.trans h1,k2.trans h2,k3.trans h3,fun b=>(k4 b).trans (h4 b)⟩
 ·refine(k.sc ?_).trans (h.sc hi);rcases hi with hi|hi
  ·exact .inl hi
  ·by_cases h0:i=0
   ·exact .inl h0
   ·rw[h.me h0];exact .inr hi
 ·have e:=h.me hi;have es:=h.sc (.inr ⟨h1,h2⟩);obtain⟨p1,p2,p3⟩:=h.phi hi h1 h2 s hs;obtain⟨q1,q2,q3⟩:=k.phi hi (by rw[e];exact h1) (by rw[e];exact h2) s (es.trans hs);refine⟨aY q1 p1,fun ee=>?_,fun hD=>q3 (p3 hD)⟩;obtain⟨a1,a2,a3,a4⟩:=p2 (by omega);obtain⟨b1,b2,b3,b4⟩:=q2 (by omega);exact⟨b1.trans a1,b2.trans a2,b3.trans a3,b4.trans a4⟩
 ·have es:=h.sc (.inl hi);obtain⟨p1,p2⟩:=h.pI hi s hs;obtain⟨q1,q2⟩:=k.pI hi s (es.trans hs);exact⟨aY q1 p1,fun ee=>(q2 (by omega)).trans (p2 (by omega))⟩
 ·have e:=h.me hi;have es:=h.sc (.inr ⟨l1,l2⟩);exact(k.work hi (by rw[e];exact l1) (by rw[e];exact l2) (by rw[e];exact hw) s (es.trans hs) off h1 h2).trans (h.work hi l1 l2 hw s hs off h1 h2)
 ·exact(k.Sb hi (by rw[h.me hi];exact hw)).trans (h.Sb hi hw)
 ·exact aY (h.hand hi hw hg) (k.hand hi (by rw[h.me hi];exact hw) (by rw[h.me hi];exact hg))
theorem Inv.at{st:St eD}(h:Inv q st)(d:Nat):Inv q (st.at d):=by
 obtain⟨b,hs,sc⟩:=h;refine⟨⟨b.pos,b.tr,b.JY,b.YG,b.Pm,b.gone,b.os,b.out,b.old,b.dead,b.know,b.ho,b.pool,b.S9,b.nw,b.said,b.dsc⟩,hs,fun s e=>?_⟩;obtain⟨x,y,z⟩:=sc s e;exact⟨⟨x.n0,x.gb,x.qL,x.zb,x.rb,x.ne,x.mu,x.D1,x.work,x.dn,x.syn,x.new,x.on,x.fin,x.all,x.sD⟩,y,⟨z.Zv,z.VT,z.rel⟩⟩
theorem Rl.at(i:Nat)(st:St eD)(d:Nat):Rl i st (st.at d):=
 ⟨aH _,fun _ _ h=>h,fun _ _ h=>h,fun _ _ _=>rfl,fun _=>rfl,fun _=>⟨rfl,rfl,rfl,fun _=>.rfl⟩,fun _=>rfl,fun _ _ _ _ _=>⟨aH _,fun _=>⟨rfl,rfl,rfl,rfl⟩,fun h=>h⟩,fun _ _ _=>⟨aH _,fun _=>rfl⟩,fun _ _ _ _ _ _ _ _ _=>rfl,fun _ _=>rfl,fun _ _ _=>aH _,aH _⟩
theorem uP{p:WG->Bool}{γ:eD}{s:eI}{j:Nat}(h:s.n0<=j)(h2:j<s.n0+s.n)(hp:p (γ.wk j).wg=true):1<=gj p γ s:=by
 unfold gj;refine List.countP_pos_iff.2 ⟨j-s.n0,List.mem_range.2 (by omega),?_⟩;rw[show s.n0+(j-s.n0)=j by omega];exact hp
theorem ry{p:WG->Bool}{γ:eD}{s:eI}(h:∀j,s.n0<=j->j<s.n0+s.n->p (γ.wk j).wg=false):gj p γ s=0:=by
 unfold gj;rw[List.countP_eq_zero];intro k hk;have:=List.mem_range.1 hk
 rw[h (s.n0+k) (by omega) (by omega)];simp
theorem yQ{st:St eD}(h:Inv q st)(hall:∀i,i<st.γ.num->Wt i st\/(i≠0/\(st.γ.wk i).wg=.gone)):False:=by
 obtain⟨s,hs⟩:∃s,st.γ.sc=some s:=by
  rcases hall 0 h.base.pos with h0|h0
  ·cases e:st.γ.sc with
   |none=>exact absurd e h0.1
   |some s=>exact⟨s,rfl⟩
  ·exact absurd rfl h0.1
 have x:=(h.eZ s hs).c;have hrg:st.γ.mw=.rg/\st.γ.gm=0:=by
  rcases hall 0 h.base.pos with⟨_,⟨_,h1,h2⟩|⟨h1,_⟩⟩|h0
  ·exact⟨h1,h2⟩
  ·exact absurd rfl h1
  ·exact absurd rfl h0.1
 have iC:=x.all (.inr (.inl hrg.1));have each:∀j,s.n0<=j->j<s.n0+s.n->((st.γ.wk j).mx=.iF/\st.γ.tn+st.γ.th=0/\(st.γ.wk j).wg=.work)\/(st.γ.wk j).wg=.gone:=fun j h1 h2=>by
  rcases hall j (by omega)with⟨_,⟨h3,_⟩|⟨_,h3⟩⟩|h3
  ·have:=x.n0.1;omega
  ·exact .inl h3
  ·exact .inr h3.2
 by_cases hq:∃j,s.n0<=j/\j<s.n0+s.n/\(st.γ.wk j).mx=.iF/\st.γ.tn+st.γ.th=0/\(st.γ.wk j).wg=.work
 ·obtain⟨j,h1,h2,h3,h4,h5⟩:=hq;have m:=x.mu;have e1:st.γ.tn=0:=by omega
  have e2:st.γ.th=0:=by omega
  rw[e1,e2]at m;refine m.yQ (fun i i1 i2=>?_) h1 h2 h3;rcases each i i1 i2 with h|h
  ·exact .inl h.1
  ·have:=(x.fin i i1 (by rw[h];simp) (by rw[h];simp)).2.2
   exact .inr this
 ·have hg:∀j,s.n0<=j->j<s.n0+s.n->(st.γ.wk j).wg=.gone:=fun j h1 h2=>(each j h1 h2).resolve_left fun h=>hq ⟨j,h1,h2,h⟩;have w:=x.sD;rw[hrg.1]at w;rw[ry (p:=WG.cd) fun j a b=>by rw[hg j a b];rfl,ry (p:=(·== .d2)) fun j a b=>by rw[hg j a b];rfl,ry (p:=(·== .d3)) fun j a b=>by rw[hg j a b];rfl,ry (p:=(·== .d4)) fun j a b=>by rw[hg j a b];rfl]at w;simp only[xh]at w;have:=hrg.2
  omega
theorem Dk:(cfg q).Ok where
 refl:=Rl.refl
 trans:=fun i a b c h k=>h.trans k
 gone:=fun i a b h k=>⟨k.1,by rw[h.me k.1];exact k.2⟩
 J0:=fun i st hi hlt h=>by
  rw[hi.base.Pm i (by have:=h.1;omega) hlt];exact(hi.base.gone i h.2).2.2
 OC:=fun i st h k=>by
  rcases h.2 with⟨h1,_⟩|⟨_,_,_,h1⟩
  ·exact k.1 h1
  ·rcases k.2 with k|k<;>rw[h1]at k<;>cases k
 Pj:=fun st d h=>h.at d
 Pg:=Rl.at
 Ph:=fun _ _=>rfl
 Fw:=fun _ _ _ h=>h
 pos:=fun st h=>h.base.pos
 yQ:=fun st h k=>Cc.yQ h fun i hi=>(k i hi).imp id fun y=>⟨y.1,y.2.2⟩
end
end
section
def World.on(s:ae)(τ:Tape)(d:Nat):ae:={s with tape:=τ,drawn:=d}
section
variable{P:au}
theorem BA{s w':ae}{x:Addr}{u:aj}{a:Addr}{v:af}{b:Bool}{l:List Addr}(h:s.viewStore P x u a v b=.ok (w',l)):∃heap',w'={s with heap:=heap'}:=by
 unfold World.viewStore at h;simp only[Bind.bind,Except.bind,Pure.pure,Except.pure]at h
 (repeat' split at h)<;>first|(cases h;done)|(cases h;exact⟨_,rfl⟩)
theorem Ep{s w':ae}{a:Addr}{v:af}{b:Bool}{l:List Addr}(h:s.farStore P a v b=.ok (w',l)):∃heap',w'={s with heap:=heap'}:=by
 unfold World.farStore at h;split at h
 ·split at h
  ·rename_i r hv;cases h;exact BA hv
  ·cases h
 ·cases h
theorem FQ(s:ae)(τ:Tape)(d:Nat)(x:Addr)(u:aj)(a:Addr)(v:af)(b:Bool):(World.on s τ d).viewStore P x u a v b=(s.viewStore P x u a v b).map fun r=>(World.on r.1 τ d,r.2):=by
 unfold World.viewStore;have e:∀at_ u k atomic,(World.on s τ d).seen P at_ u k atomic=s.seen P at_ u k atomic:=fun _ _ _ _=>rfl;rw[e];simp only[Bind.bind,Except.bind,Pure.pure,Except.pure,Except.map];by_cases h1:(!tight P P.depth u)=true
 ·simp only[h1,if_true];rfl
 simp only[h1];cases s.seen P x u a b with
 |error e=>rfl
 |ok r=>
  dsimp only;cases v.bytes? with
  |none=>rfl
  |some bytes=>
   dsimp only;generalize(List.foldlM _ r.fst r.2.2.2.2.snd:Except String (Array af))=q;by_cases hz:(some bytes.length≠Option.map (fun x=>x.length) r.2.2.2.2.fst.bytes?)
   ·rw[if_pos hz,if_pos hz];rfl
   ·rw[if_neg hz,if_neg hz];cases q<;>rfl
theorem J7(s:ae)(τ:Tape)(d:Nat)(a:Addr)(v:af)(b:Bool):(World.on s τ d).farStore P a v b=(s.farStore P a v b).map fun r=>(World.on r.1 τ d,r.2):=by
 unfold World.farStore;have e:(World.on s τ d).heap=s.heap:=rfl;rw[e];cases s.heap[a.block]? with
 |none=>rfl
 |some o=>
  cases o with
  |view x u=>
   dsimp only;rw[FQ];cases s.viewStore P x u a v b<;>rfl
  |_=>rfl
theorem MF(s:ae)(τ:Tape)(d:Nat)(a:Addr)(b:Bool):(World.on s τ d).farLoad P a b=s.farLoad P a b:=rfl
variable(P) in
def VF{α:Type}(x:Sem α)(s:ae)(a:α)(s1:ae):Prop:=s1.tape=s.tape/\∃c,s1.drawn=s.drawn+c/\
  ∀τ d,(∀j,j<c->τ (d+j)=s.tape (s.drawn+j))->x.run P (World.on s τ d)=.ok a (World.on s1 τ (d+c))/\∀es,x.events P (World.on s τ d) es=x.events P s es
def mo{α:Type}:Sem α->Prop
 |.pure _|.halt _=>True
 |.load _ _ k=>∀v,mo (k v)
 |.store _ _ _ k|.freeze _ _ k|.setObj _ _ k|.mark _ k=>mo k
 |.new _ k=>∀n,mo (k n)
 |.shape _ k=>∀n,mo (k n)
 |.frozen _ k=>∀n,mo (k n)
 |.getObj _ k=>∀n,mo (k n)
 |.choose _ k=>∀n,mo (k n)
 |.program k=>∀n,mo (k n)
 |.sys _ _=>False
theorem jb{α:Type}(x:Sem α)(hs:mo x):∀(s:ae) (a:α) (s1:ae),x.run P s=.ok a s1->VF P x s a s1:=by
 induction x with
 |pure a=>intro s b s1 h;cases h;exact⟨rfl,0,rfl,fun τ d _=>⟨rfl,fun _=>rfl⟩⟩
 |load m ad k ih=>
  intro s b s1 h;have e1:∀τ d,(World.on s τ d).cell? ad=s.cell? ad:=fun _ _=>rfl;simp only[cA]at h;cases hc:s.cell? ad with
  |some v=>
   rw[hc]at h;obtain⟨h1,c,h2,h3⟩:=ih v (hs v) s b s1 h;refine⟨h1,c,h2,fun τ d m8=>?_⟩;obtain⟨k1,k2⟩:=h3 τ d m8;simp only[cA,Sem.events,Sem.runT,e1,hc];exact⟨k1,fun es=>k2 _⟩
  |none=>
   rw[hc]at h;simp only at h;cases hf:s.farLoad P ad (m== .atomic)with
   |error e=>rw[hf]at h;cases h
   |ok r=>
    obtain⟨v,l⟩:=r;rw[hf]at h;obtain⟨h1,c,h2,h3⟩:=ih v (hs v) s b s1 h;refine⟨h1,c,h2,fun τ d m8=>?_⟩;obtain⟨k1,k2⟩:=h3 τ d m8;simp only[cA,Sem.events,Sem.runT,e1,hc,MF,hf];exact⟨k1,fun es=>k2 _⟩
 |store m ad v k ih=>
  intro s b s1 h;have e1:∀τ d,(World.on s τ d).cell? ad=s.cell? ad:=fun _ _=>rfl;have e2:∀τ d,(World.on s τ d).frozen? ad=s.frozen? ad:=fun _ _=>rfl;cases hc:s.cell? ad with
  |some u=>
   cases hz:s.frozen? ad with
   |true=>cases v<;>simp only[cA,hc,hz]at h<;>cases h
   |false=>
    have key:(∀x,v≠ .agg x)->(∀x,v≠ .tuple x)->k.run P (s.setCell ad v)=.ok b s1->VF P (Sem.store m ad v k) s b s1:=fun n1 n2 h=>by
     obtain⟨h1,c,h2,h3⟩:=ih hs (s.setCell ad v) b s1 h;refine⟨h1,c,h2,fun τ d m8=>?_⟩;obtain⟨k1,k2⟩:=h3 τ d m8;have e3:(World.on s τ d).setCell ad v=World.on (s.setCell ad v) τ d:=rfl;cases v<;>first
      |exact absurd rfl (n1 _)
      |exact absurd rfl (n2 _)
      |(simp only[cA,Sem.events,Sem.runT,e1,e2,hc,hz,e3,aQ,if_false]
        exact⟨k1,fun es=>k2 _⟩)
    cases v<;>simp only[cA,hc,hz,aQ,if_false]at h<;>first|exact key (by simp) (by simp) h|cases h
  |none=>
   cases hf:s.farStore P ad v (m== .atomic)with
   |error e=>cases v<;>simp only[cA,hc,hf]at h<;>cases h
   |ok r=>
    obtain⟨w',l⟩:=r;obtain⟨hp,rfl⟩:=Ep hf;have key:(∀x,v≠ .agg x)->(∀x,v≠ .tuple x)->k.run P {s with heap:=hp}=.ok b s1->VF P (Sem.store m ad v k) s b s1:=fun n1 n2 h=>by
     obtain⟨h1,c,h2,h3⟩:=ih hs _ b s1 h;refine⟨h1,c,h2,fun τ d m8=>?_⟩;obtain⟨k1,k2⟩:=h3 τ d m8;cases v<;>first
      |exact absurd rfl (n1 _)
      |exact absurd rfl (n2 _)
      |(simp only[cA,Sem.events,Sem.runT,e1,hc,J7,hf,Except.map]
        exact⟨k1,fun es=>k2 _⟩)
    cases v<;>simp only[cA,hc,hf]at h<;>first|exact key (by simp) (by simp) h|cases h
 |new o k ih=>
  intro s b s1 h;obtain⟨h1,c,h2,h3⟩:=ih s.heap.size (hs _) {s with heap:=s.heap.push o} b s1 h;exact⟨h1,c,h2,fun τ d m8=>h3 τ d m8⟩
 |shape r k ih=>
  intro s b s1 h;obtain⟨h1,c,h2,h3⟩:=ih (s.shape? r) (hs _) s b s1 h;exact⟨h1,c,h2,fun τ d m8=>h3 τ d m8⟩
 |freeze ad n k ih=>
  intro s b s1 h;obtain⟨h1,c,h2,h3⟩:=ih hs (s.freeze ad n) b s1 h;have e:∀τ d,(World.on s τ d).freeze ad n=World.on (s.freeze ad n) τ d:=fun τ d=>by unfold World.freeze;split<;>rfl
  have e2:(s.freeze ad n).tape=s.tape:=by unfold World.freeze;split<;>rfl
  have e3:(s.freeze ad n).drawn=s.drawn:=by unfold World.freeze;split<;>rfl
  rw[e2]at h1;rw[e3]at h2;refine⟨h1,c,h2,fun τ d m8=>?_⟩;obtain⟨k1,k2⟩:=h3 τ d (by rw[e2,e3];exact m8);simp only[cA,Sem.events,Sem.runT,e];exact⟨k1,fun es=>k2 _⟩
 |frozen ad k ih=>
  intro s b s1 h;obtain⟨h1,c,h2,h3⟩:=ih (s.frozen? ad) (hs _) s b s1 h;exact⟨h1,c,h2,fun τ d m8=>h3 τ d m8⟩
 |getObj r k ih=>
  intro s b s1 h;have e1:∀τ d,(World.on s τ d).heap=s.heap:=fun _ _=>rfl;simp only[cA]at h;cases ho:s.heap[r]? with
  |none=>rw[ho]at h;cases h
  |some o=>
   rw[ho]at h;have key:(∀x y z,o≠ .cells x y z)->(k o).run P s=.ok b s1->VF P (Sem.getObj r k) s b s1:=fun n1 h=>by
    obtain⟨h1,c,h2,h3⟩:=ih o (hs o) s b s1 h;refine⟨h1,c,h2,fun τ d m8=>?_⟩;obtain⟨k1,k2⟩:=h3 τ d m8;cases o<;>first
     |exact absurd rfl (n1 _ _ _)
     |(simp only[cA,Sem.events,Sem.runT,e1,ho]
       exact⟨k1,fun es=>k2 _⟩)
   cases o<;>first|(simp only at h;cases h;done)|exact key (by simp) h
 |setObj r o k ih=>
  intro s b s1 h;have e1:∀τ d,(World.on s τ d).heap=s.heap:=fun _ _=>rfl;simp only[cA]at h;cases ho:s.heap[r]? with
  |none=>rw[ho]at h;cases h
  |some o'=>
   rw[ho]at h;have key:(∀x y z,o'≠ .cells x y z)->k.run P {s with heap:=s.heap.setIfInBounds r o}=.ok b s1->VF P (Sem.setObj r o k) s b s1:=fun n1 h=>by
    obtain⟨h1,c,h2,h3⟩:=ih hs _ b s1 h;refine⟨h1,c,h2,fun τ d m8=>?_⟩;obtain⟨k1,k2⟩:=h3 τ d m8;cases o'<;>first
     |exact absurd rfl (n1 _ _ _)
     |(simp only[cA,Sem.events,Sem.runT,e1,ho]
       exact⟨k1,fun es=>k2 _⟩)
   cases o'<;>first|(simp only at h;cases h;done)|exact key (by simp) h
 |choose q k ih=>
  intro s b s1 h;simp only[cA]at h;by_cases hq:q.forced=true
  ·rw[if_pos hq]at h;obtain⟨h1,c,h2,h3⟩:=ih 0 (hs 0) s b s1 h;refine⟨h1,c,h2,fun τ d m8=>?_⟩;simp only[cA,Sem.events,Sem.runT,if_pos hq];exact h3 τ d m8
  ·rw[if_neg hq]at h;obtain⟨h1,c,h2,h3⟩:=ih _ (hs _) {s with drawn:=s.drawn+1} b s1 h;refine⟨h1,c+1,by rw[h2];simp only;omega,fun τ d m8=>?_⟩;have h0:τ d=s.tape s.drawn:=m8 0 (by omega);obtain⟨k1,k2⟩:=h3 τ (d+1) (fun j hj=>by
    have:=m8 (j+1) (by omega)
    rw[show d+1+j=d+(j+1) by omega,this];show s.tape (s.drawn+(j+1))=s.tape (s.drawn+1+j);rw[show s.drawn+(j+1)=s.drawn+1+j by omega])
   simp only[cA,Sem.events,Sem.runT,if_neg hq];have e2:(World.on s τ d).tape (World.on s τ d).drawn=s.tape s.drawn:=h0;rw[e2,show d+(c+1)=d+1+c by omega];exact⟨k1,k2⟩
 |sys c k ih=>
  exact hs.elim
 |program k ih=>
  intro s b s1 h;obtain⟨h1,c,h2,h3⟩:=ih P (hs P) s b s1 h;exact⟨h1,c,h2,fun τ d m8=>h3 τ d m8⟩
 |mark m k ih=>
  intro s b s1 h;obtain⟨h1,c,h2,h3⟩:=ih hs s b s1 h;refine⟨h1,c,h2,fun τ d m8=>?_⟩;obtain⟨k1,k2⟩:=h3 τ d m8;exact⟨k1,fun es=>k2 _⟩
 |halt hh=>intro s b s1 h;cases h
theorem VF.bind{α β:Type}{x:Sem α}{f:α->Sem β}{s s1 s2:ae}{a:α}{b:β}(hx:x.run P s=.ok a s1)(hf:(f a).run P s1=.ok b s2)(h:VF P x s a s1)(k:VF P (f a) s1 b s2):VF P (x>>=f) s b s2:=by
 obtain⟨h1,c,h2,h3⟩:=h;obtain⟨k1,e,k2,k3⟩:=k;refine⟨k1.trans h1,c+e,by rw[k2,h2];omega,fun τ d m8=>?_⟩;obtain⟨m1,m2⟩:=h3 τ d fun j hj=>m8 j (by omega);obtain⟨n1,n2⟩:=k3 τ (d+c) fun j hj=>by
  have:=m8 (c+j) (by omega)
  rw[show d+c+j=d+(c+j) by omega,this,h1,h2];rw[show s.drawn+(c+j)=s.drawn+c+j by omega]
 refine⟨by rw[aO,m1];show(f a).run P _=_;rw[n1,show d+c+e=d+(c+e) by omega],fun es=>?_⟩;rw[Sem.events_bind,Sem.events_bind,m1,hx];simp only[Result.evThen_ok];rw[m2,n2]
theorem mo.bind{α β:Type}{x:Sem α}{f:α->Sem β}(h:mo x)(k:∀a,mo (f a)):mo (x>>=f):=by
 show mo (x.bind f);induction x with
 |pure a=>exact k a
 |load m a q ih=>exact fun v=>ih v (h v)
 |store m a v q ih=>exact ih h
 |new o q ih=>exact fun v=>ih v (h v)
 |shape r q ih=>exact fun v=>ih v (h v)
 |freeze a n q ih=>exact ih h
 |frozen a q ih=>exact fun v=>ih v (h v)
 |getObj r q ih=>exact fun v=>ih v (h v)
 |setObj r o q ih=>exact ih h
 |choose q' q ih=>exact fun v=>ih v (h v)
 |sys c q ih=>exact h.elim
 |program q ih=>exact fun v=>ih v (h v)
 |mark m q ih=>exact ih h
 |halt hh=>trivial
end
end
section
inductive VR(S:ak->Prop)(ρ:Nat->Option Nat):af->af->Prop
 |bool (b:Bool):VR S ρ (.bool b) (.bool b)
 |int (k:IntKind) (n:Int):VR S ρ (.int k n) (.int k n)
 |string (s:ByteArray):VR S ρ (.string s) (.string s)
 |nilPtr:VR S ρ (.pointer none) (.pointer none)
 |ig (l c:Nat):VR S ρ (.slice none l c) (.slice none l c)
 |nilFunc:VR S ρ .nilFunc .nilFunc
 |ptr {b c:Nat} (off:Nat) (sp:Option Nat) (h:ρ b=some c):VR S ρ (.pointer (some ⟨b,off,sp⟩)) (.pointer (some ⟨c,off,sp⟩))
 |slice {b c:Nat} (off:Nat) (sp:Option Nat) (l k:Nat) (h:ρ b=some c):VR S ρ (.slice (some ⟨b,off,sp⟩) l k) (.slice (some ⟨c,off,sp⟩) l k)
 |func {f:ak} {x y x' y':Array af} (hf:S f) (hx:x.size=x'.size) (hy:y.size=y'.size)
   (h1:∀(i:Nat) (v v':af),x[i]?=some v->x'[i]?=some v'->VR S ρ v v') (h2:∀(i:Nat) (v v':af),y[i]?=some v->y'[i]?=some v'->VR S ρ v v'):VR S ρ (.func (.func f) x y) (.func (.func f) x' y')
 |agg {x x':Array af} (hx:x.size=x'.size) (h1:∀(i:Nat) (v v':af),x[i]?=some v->x'[i]?=some v'->VR S ρ v v'):VR S ρ (.agg x) (.agg x')
 |tuple {x x':Array af} (hx:x.size=x'.size) (h1:∀(i:Nat) (v v':af),x[i]?=some v->x'[i]?=some v'->VR S ρ v v'):VR S ρ (.tuple x) (.tuple x')
 |junk {v':af} (ha:∀x,v'≠ .agg x) (ht:∀x,v'≠ .tuple x) (hb:∀x,v'≠ .bool x):VR S ρ .nilIface v'
def Ext(ρ ρ':Nat->Option Nat):Prop:=∀b c,ρ b=some c->ρ' b=some c
theorem Ext.refl(ρ:Nat->Option Nat):Ext ρ ρ:=fun _ _ h=>h
theorem Ext.trans{ρ ρ' aL4:Nat->Option Nat}(h:Ext ρ ρ')(h':Ext ρ' aL4):Ext ρ aL4:=fun b c x=>h' b c (h b c x)
theorem VR.mono{S:ak->Prop}{ρ ρ':Nat->Option Nat}(e:Ext ρ ρ'){v v':af}(h:VR S ρ v v'):VR S ρ' v v':=by
 induction h with
 |bool b=>exact .bool b
 |int k n=>exact .int k n
 |string s=>exact .string s
 |nilPtr=>exact .nilPtr
 |ig l c=>exact .ig l c
 |nilFunc=>exact .nilFunc
 |ptr off sp h=>exact .ptr off sp (e _ _ h)
 |slice off sp l k h=>exact .slice off sp l k (e _ _ h)
 |func hf hx hy _ _ i1 i2=>exact .func hf hx hy i1 i2
 |agg hx _ i1=>exact .agg hx i1
 |tuple hx _ i1=>exact .tuple hx i1
 |junk ha ht hb=>exact .junk ha ht hb
structure AR(S:ak->Prop)(ρ:Nat->Option Nat)(x x':Array af):Prop where
 size:x.size=x'.size
 at_:∀(i:Nat) (v v':af),x[i]?=some v->x'[i]?=some v'->VR S ρ v v'
section
variable{S:ak->Prop}{ρ ρ':Nat->Option Nat}
theorem AR.mono(e:Ext ρ ρ'){x x':Array af}(h:AR S ρ x x'):AR S ρ' x x':=⟨h.size,fun i v v' a b=>(h.at_ i v v' a b).mono e⟩
theorem VR.agg'{x x':Array af}(h:AR S ρ x x'):VR S ρ (.agg x) (.agg x'):=.agg h.size h.at_
theorem VR.tuple'{x x':Array af}(h:AR S ρ x x'):VR S ρ (.tuple x) (.tuple x'):=.tuple h.size h.at_
theorem VR.a57{f:ak}{x y x' y':Array af}(hf:S f)(h1:AR S ρ x x')(h2:AR S ρ y y'):VR S ρ (.func (.func f) x y) (.func (.func f) x' y'):=.func hf h1.size h2.size h1.at_ h2.at_
theorem VR.undef:VR S ρ av av:=.tuple rfl (by simp)
theorem AR.get{x x':Array af}(h:AR S ρ x x'){i:Nat}{v:af}(hv:x[i]?=some v):∃v',x'[i]?=some v'/\VR S ρ v v':=by
 have hi:i<x'.size:=h.size ▸ (Array.getElem?_eq_some_iff.1 hv).1;exact⟨x'[i],aI hi,h.at_ i v _ hv (aI hi)⟩
theorem AR.none{x x':Array af}(h:AR S ρ x x'){i:Nat}(hv:x[i]?=Option.none):x'[i]?=Option.none:=by
 rw[Array.getElem?_eq_none_iff]at hv ⊢;rw[<-h.size];exact hv
theorem AR.getD{x x':Array af}(h:AR S ρ x x')(i:Nat):VR S ρ (x.getD i av) (x'.getD i av):=by
 cases hx:x[i]? with
 |none=>
  have h':=h.none hx;simp only[bB,hx,h',Option.getD_none];exact VR.undef
 |some v=>
  obtain⟨v',h',hr⟩:=h.get hx;simp only[bB,hx,h',Option.getD_some];exact hr
theorem AR.empty:AR S ρ #[] #[]:=⟨rfl,by simp⟩
theorem AR.push{x x':Array af}(h:AR S ρ x x'){v v':af}(hv:VR S ρ v v'):AR S ρ (x.push v) (x'.push v'):=by
 refine⟨by simp[h.size],fun i a b ha hb=>?_⟩;rw[cY]at ha hb;rw[<-h.size]at hb;split at ha
 ·rename_i e;rw[if_pos e]at hb;cases ha;cases hb;exact hv
 ·rename_i e;rw[if_neg e]at hb;exact h.at_ i a b ha hb
theorem AR.append{x x' y y':Array af}(h:AR S ρ x x')(k:AR S ρ y y'):AR S ρ (x++y) (x'++y'):=by
 refine⟨by simp[h.size,k.size],fun i a b ha hb=>?_⟩;rw[Array.getElem?_append]at ha hb;rw[<-h.size]at hb;split at ha
 ·rename_i e;rw[if_pos e]at hb;exact h.at_ i a b ha hb
 ·rename_i e;rw[if_neg e]at hb;exact k.at_ _ a b ha hb
theorem AR.set{x x':Array af}(h:AR S ρ x x')(i:Nat){v v':af}(hv:VR S ρ v v'):AR S ρ (x.setIfInBounds i v) (x'.setIfInBounds i v'):=by
 refine⟨by simp[h.size],fun j a b ha hb=>?_⟩;rw[cj]at ha hb;rw[<-h.size]at hb;split at ha
 ·rename_i e;rw[if_pos e]at hb;split at ha
  ·rename_i e2;rw[if_pos e2]at hb;cases ha;cases hb;exact hv
  ·cases ha
 ·rename_i e;rw[if_neg e]at hb;exact h.at_ j a b ha hb
theorem AR.map{α:Type}{f g:α->af}(h:∀a,VR S ρ (f a) (g a))(l:Array α):AR S ρ (l.map f) (l.map g):=by
 refine⟨by simp,fun i a b ha hb=>?_⟩;rw[Array.getElem?_map]at ha hb;cases hl:l[i]? with
 |none=>rw[hl]at ha;cases ha
 |some z=>rw[hl]at ha hb;cases ha;cases hb;exact h z
theorem AR.extract{x x':Array af}(h:AR S ρ x x')(i j:Nat):AR S ρ (x.extract i j) (x'.extract i j):=by
 refine⟨by simp[h.size],fun k a b ha hb=>?_⟩;rw[Array.getElem?_extract]at ha hb;rw[<-h.size]at hb;split at ha
 ·rename_i e;rw[if_pos e]at hb;exact h.at_ _ a b ha hb
 ·cases ha
theorem AR.replicate(n:Nat){v v':af}(h:VR S ρ v v'):AR S ρ (bN n v) (bN n v'):=by
 refine⟨by simp,fun i a b ha hb=>?_⟩;rw[Array.getElem?_replicate]at ha hb;split at ha
 ·rename_i e;rw[if_pos e]at hb;cases ha;cases hb;exact h
 ·cases ha
theorem AR.one{v v':af}(h:VR S ρ v v'):AR S ρ #[v] #[v']:=by simpa using AR.empty.push h
theorem VR.cells{v v':af}(h:VR S ρ v v'):AR S ρ v.cells v'.cells:=by
 cases h with
 |agg hx h1=>exact⟨hx,h1⟩
 |bool b=>exact AR.one (.bool b)
 |int k n=>exact AR.one (.int k n)
 |string s=>exact AR.one (.string s)
 |nilPtr=>exact AR.one .nilPtr
 |ig l c=>exact AR.one (.ig l c)
 |nilFunc=>exact AR.one .nilFunc
 |ptr off sp h=>exact AR.one (.ptr off sp h)
 |slice off sp l k h=>exact AR.one (.slice off sp l k h)
 |func hf hx hy h1 h2=>exact AR.one (.func hf hx hy h1 h2)
 |tuple hx h1=>exact AR.one (.tuple hx h1)
 |junk ha ht hb=>
  have e:v'.cells=#[v']:=by cases v'<;>first|rfl|exact absurd rfl (ha _)
  rw[e];exact AR.one (.junk ha ht hb)
end
def nj(ρ:Nat->Option Nat)(a a':Addr):Prop:=ρ a.block=some a'.block/\a'.off=a.off/\a'.spot=a.spot
inductive Md where
 |all|read (n:Nat)|part (f:Nat)
 deriving DecidableEq
def Md.hi:Md->Nat->Nat
 |.all,_=>0
 |.read _,n=>n
 |.part f,_=>f
def Md.isRead:Md->Bool
 |.read _=>true
 |_=>false
def Md.gets:Md->Nat->Prop
 |.read n,i=>i<n
 |_,_=>True
def Md.lets:Md->Nat->Prop
 |.all,_=>True
 |.read _,_=>False
 |.part f,i=>f<=i
theorem Md.XL{m:Md}{n i:Nat}(h:¬(0<=i/\i<m.hi n))(hi:i<n):m.lets i:=by
 cases m with
 |all=>trivial
 |read k=>simp[Md.hi]at h;exact absurd hi (by omega)
 |part f=>simp[Md.hi]at h;exact h
inductive OR(S:ak->Prop)(ro:Md)(ρ:Nat->Option Nat):Obj->Obj->Prop
 |cells {cs cs':Array af} {e:aj} {O4:Nat×Nat} (h3:cs.size<=cs'.size) (h4:∀(i:Nat) (v:af),cs[i]?=some v->∃v',cs'[i]?=some v'/\VR S ρ v v')
   (h5:ro.isRead=false->cs.size=cs'.size/\O4=(0,0)) (h6:∀n,ro=.read n->cs.size=n):OR S ro ρ (.cells cs e (0,ro.hi cs.size)) (.cells cs' e O4)
 |number {a a':Addr} {lost:Bool} (h:nj ρ a a') (hro:ro=.all):OR S ro ρ (.number a lost) (.number a' lost)
structure HR(G:Nat)(S:ak->Prop)(ro:Nat->Md)(ρ:Nat->Option Nat)(s w:ae):Prop where
 inj:∀b b' c,ρ b=some c->ρ b'=some c->b=b'
 row:∀b c,ρ b=some c->∃o o',s.heap[b]?=some o/\w.heap[c]?=some o'/\OR S (ro b) ρ o o'
 hole:∀b,ρ b=none->s.heap[b]?=none\/∃x,s.heap[b]?=some (.coro x)
 low:∀b c,ρ b=some c->G<=b/\G<=c
 gs:G<=s.heap.size
 gw:G<=w.heap.size
def Ze(ro:Nat->Md)(ρ:Nat->Option Nat)(e:Event):Prop:=
 (∃a b x,e=⟨.cell a,x,false⟩/\ρ b=some a.block/\(x=true->(ro b).lets a.off)/\(ro b).gets a.off/\a.spot=none)\/e=⟨.mark .noRoom,false,true⟩\/∃c b,e=⟨.obj c,false,false⟩/\ρ b=some c/\ro b=.all
structure Mv(G:Nat)(S:ak->Prop)(ro:Nat->Md)(ρ:Nat->Option Nat)(s w:ae)(ρ':Nat->Option Nat)(s' w':ae)(es:Array Event):Prop where
 ext:Ext ρ ρ'
 hr:HR G S ro ρ' s' w'
 tape:s'.tape=w'.tape
 drawn:s'.drawn=w'.drawn
 Zn:w'.tape=w.tape
 os:w'.os=w.os
 output:w'.output=w.output
 size:w.heap.size<=w'.heap.size
 keep:∀c,c<w.heap.size->(∀b,ρ b=some c->(ro b).isRead=true)->w'.heap[c]?=w.heap[c]?
 part:∀b c f,ρ b=some c->ro b=.part f->∀cs e fz,w.heap[c]?=some (.cells cs e fz)->∃cs',w'.heap[c]?=some (.cells cs' e fz)/\cs'.size=cs.size/\∀i,i<f->cs'[i]?=cs[i]?
 fresh:∀b c,ρ' b=some c->ρ b=some c\/(w.heap.size<=c/\ro b=.all)
 evs:∀e∈es,Ze ro ρ' e
 ssize:s.heap.size<=s'.heap.size
 sos:s'.os=s.os
 Ns:s'.output=s.output
 same:s.heap.size=w.heap.size->(∀b c,ρ b=some c->c=b)->s'.heap.size=w'.heap.size/\∀b c,ρ' b=some c->c=b
theorem Ze.mono{ro:Nat->Md}{ρ ρ':Nat->Option Nat}(h:Ext ρ ρ'){e:Event}(k:Ze ro ρ e):Ze ro ρ' e:=
 k.imp (fun⟨a,b,x,h1,h2,h3⟩=>⟨a,b,x,h1,h _ _ h2,h3⟩) (.imp id fun⟨c,b,h1,h2,h3⟩=>⟨c,b,h1,h _ _ h2,h3⟩)
theorem Mv.refl{G:Nat}{S:ak->Prop}{ro:Nat->Md}{ρ:Nat->Option Nat}{s w:ae}(h:HR G S ro ρ s w)(ht:s.tape=w.tape)(hd:s.drawn=w.drawn):Mv G S ro ρ s w ρ s w #[]:=
 ⟨.refl _,h,ht,hd,rfl,rfl,rfl,aH _,fun _ _ _=>rfl,fun _ _ _ _ _ cs _ _ hc=>⟨cs,hc,rfl,fun _ _=>rfl⟩,fun _ _ h=>.inl h,by simp,aH _,rfl,rfl,fun a b=>⟨a,b⟩⟩
theorem Mv.trans{G:Nat}{S:ak->Prop}{ro:Nat->Md}{ρ fQ gS:Nat->Option Nat}{s w s₁ w₁ s₂ w₂:ae}{es es₁:Array Event}
  (h:Mv G S ro ρ s w fQ s₁ w₁ es)(k:Mv G S ro fQ s₁ w₁ gS s₂ w₂ es₁):Mv G S ro ρ s w gS s₂ w₂ (es++es₁):=by
 refine⟨h.ext.trans k.ext,k.hr,k.tape,k.drawn,k.Zn.trans h.Zn,k.os.trans h.os,k.output.trans h.output,aY h.size k.size,fun c hc hb=>?_,fun b c f hb hf cs e fz hc=>?_,fun b c hbc=>?_,fun e he=>?_,
  aY h.ssize k.ssize,k.sos.trans h.sos,k.Ns.trans h.Ns,fun a b=>k.same (h.same a b).1 (h.same a b).2⟩
 ·refine(k.keep c (bT hc h.size) fun b hbc=>?_).trans (h.keep c hc hb);rcases h.fresh b c hbc with h1|⟨h1,_⟩
  ·exact hb b h1
  ·omega
 ·obtain⟨cs₁,h1,h2,h3⟩:=h.part b c f hb hf cs e fz hc;obtain⟨cs₂,k1,k2,k3⟩:=k.part b c f (h.ext _ _ hb) hf cs₁ e fz h1;exact⟨cs₂,k1,k2.trans h2,fun i hi=>(k3 i hi).trans (h3 i hi)⟩
 ·rcases k.fresh b c hbc with h1|⟨h1,h2⟩
  ·exact h.fresh b c h1
  ·exact .inr ⟨aY h.size h1,h2⟩
 ·rcases Array.mem_append.1 he with h1|h1
  ·exact(h.evs e h1).mono k.ext
  ·exact k.evs e h1
def Dv:Halt->Prop
 |.panic _|.stuck _=>True
 |.unsupported (.initOrder _)=>False
 |.unsupported _=>True
 |_=>False
def SR{α β:Type}(P:au)(S:ak->Prop)(ro:Nat->Md)(ρ:Nat->Option Nat)(x:Sem α)(y:Sem β)(V:(Nat->Option Nat)->α->β->Prop):Prop:=
 ∀s w,HR P.globals.size S ro ρ s w->s.tape=w.tape->s.drawn=w.drawn->(∀b,s.heap.size<=b->ro b=.all)->(∀a s',x.run P s=.ok a s'->
  ∃ρ' b w',y.run P w=.ok b w'/\Mv P.globals.size S ro ρ s w ρ' s' w' (y.events P w #[])/\V ρ' a b)/\(∀h s',x.run P s=.halt h s'->Dv h)/\∀a s',x.run P s=.ok a s'->VF P x s a s'
section
variable{α β γ δ:Type}{P:au}{S:ak->Prop}{ro:Nat->Md}{ρ:Nat->Option Nat}
theorem SR.bind{x:Sem α}{y:Sem β}{f:α->Sem γ}{g:β->Sem δ}{V:(Nat->Option Nat)->α->β->Prop}{W:(Nat->Option Nat)->γ->δ->Prop}
  (h:SR P S ro ρ x y V)(k:∀ρ' a b,Ext ρ ρ'->V ρ' a b->SR P S ro ρ' (f a) (g b) W):SR P S ro ρ (x>>=f) (y>>=g) W:=by
 intro s w hr ht hd hro;refine⟨?_,?_,?_⟩
 ·intro c s' hx;rw[aO]at hx;cases hxs:x.run P s with
  |halt _ _=>rw[hxs]at hx;cases hx
  |ok a s₁=>
   rw[hxs]at hx;obtain⟨fQ,b,w₁,hy,hm,hv⟩:=(h s w hr ht hd hro).1 a s₁ hxs;obtain⟨gS,d,w₂,hg,aW8,hw⟩:=(k fQ a b hm.ext hv s₁ w₁ hm.hr hm.tape hm.drawn (fun b hb=>hro b (aY hm.ssize hb))).1 c s' hx;refine⟨gS,d,w₂,?_,?_,hw⟩
   ·rw[aO,hy];exact hg
   ·rw[Sem.events_bind,hy,Result.evThen_ok,Sem.events_acc];exact hm.trans aW8
 ·intro c s' hx;rw[aO]at hx;cases hxs:x.run P s with
  |halt c' _=>
   rw[hxs]at hx;cases hx;exact(h s w hr ht hd hro).2.1 _ _ hxs
  |ok a s₁=>
   rw[hxs]at hx;obtain⟨fQ,b,w₁,hy,hm,hv⟩:=(h s w hr ht hd hro).1 a s₁ hxs;exact(k fQ a b hm.ext hv s₁ w₁ hm.hr hm.tape hm.drawn (fun b hb=>hro b (aY hm.ssize hb))).2.1 c s' hx
 ·intro c s' hx;rw[aO]at hx;cases hxs:x.run P s with
  |halt _ _=>rw[hxs]at hx;cases hx
  |ok a s₁=>
   rw[hxs]at hx;obtain⟨fQ,b,w₁,hy,hm,hv⟩:=(h s w hr ht hd hro).1 a s₁ hxs;exact VF.bind hxs hx ((h s w hr ht hd hro).2.2 a s₁ hxs) ((k fQ a b hm.ext hv s₁ w₁ hm.hr hm.tape hm.drawn (fun b hb=>hro b (aY hm.ssize hb))).2.2 c s' hx)
theorem SR.pure{a:α}{b:β}{V:(Nat->Option Nat)->α->β->Prop}(h:V ρ a b):SR P S ro ρ (Pure.pure a) (Pure.pure b) V:=by
 intro s w hr ht hd hro;refine⟨fun c s' hx=>?_,fun _ _ hx=>(by cases hx),fun a s' hx=>jb _ (by exact trivial) s a s' hx⟩;cases hx;exact⟨ρ,b,w,rfl,Mv.refl hr ht hd,h⟩
def fu(P:au)(x:Sem α):Prop:=∀s,∃h s',x.run P s=.halt h s'/\Dv h
theorem SR.never{x:Sem α}{y:Sem β}{V:(Nat->Option Nat)->α->β->Prop}(h:fu P x):SR P S ro ρ x y V:=by
 intro s _ _ _ _ _;obtain⟨c,s',e,t⟩:=h s;exact⟨fun a s' hx=>(by rw[e]at hx;cases hx),fun c' s' hx=>(by rw[e]at hx;cases hx;exact t),fun a s' hx=>(by rw[e]at hx;cases hx)⟩
theorem fu.halt{h:Halt}(t:Dv h):fu P (Sem.halt h:Sem α):=fun s=>⟨h,s,rfl,t⟩
theorem fu.stuck{m:String}:fu P (stuck m:Sem α):=fu.halt trivial
theorem fu.bind{x:Sem α}{f:α->Sem γ}(h:fu P x):fu P (x>>=f):=fun s=>by
 obtain⟨c,s',e,t⟩:=h s;exact⟨c,s',by rw[aO,e];rfl,t⟩
theorem fu.after{x:Sem α}{f:α->Sem γ}(hx:∀s h s',x.run P s=.halt h s'->Dv h)(h:∀a,fu P (f a)):fu P (x>>=f):=fun s=>by
 cases e:x.run P s with
 |halt c s'=>exact⟨c,s',by rw[aO,e];rfl,hx s c s' e⟩
 |ok a s'=>
  obtain⟨c,s₂,e₂,t⟩:=h a s';exact⟨c,s₂,by rw[aO,e];exact e₂,t⟩
theorem SR.stuck{m:String}{y:Sem β}{V:(Nat->Option Nat)->α->β->Prop}:SR P S ro ρ (stuck m:Sem α) y V:=SR.never fu.stuck
theorem SR.halt{m:String}{y:Sem β}{V:(Nat->Option Nat)->α->β->Prop}:SR P S ro ρ (Sem.halt (.stuck m):Sem α) y V:=SR.never (fu.halt trivial)
theorem SR.unsupported{u:Unsupported}{y:Sem β}{V:(Nat->Option Nat)->α->β->Prop}(hu:Dv (.unsupported u)):SR P S ro ρ (unsupported u:Sem α) y V:=SR.never (fu.halt hu)
theorem SR.mono{x:Sem α}{y:Sem β}{V W:(Nat->Option Nat)->α->β->Prop}(h:SR P S ro ρ x y V)(k:∀ρ' a b,Ext ρ ρ'->V ρ' a b->W ρ' a b):SR P S ro ρ x y W:=by
 intro s w hr ht hd hro;refine⟨fun c s' hx=>?_,(h s w hr ht hd hro).2⟩;obtain⟨fQ,b,w₁,hy,hm,hv⟩:=(h s w hr ht hd hro).1 c s' hx;exact⟨fQ,b,w₁,hy,hm,k _ _ _ hm.ext hv⟩
theorem SR.program:SR P S ro ρ program program fun _ a b=>a=b/\a=P:=by
 intro s w hr ht hd hro;refine⟨fun c s' hx=>?_,fun _ _ hx=>(by cases hx),fun a s' hx=>jb _ (by exact fun _=>trivial) s a s' hx⟩;cases hx;exact⟨ρ,P,w,rfl,Mv.refl hr ht hd,rfl,rfl⟩
end
end
section
section
variable{P:au}{S:ak->Prop}{ro:Nat->Md}{ρ:Nat->Option Nat}
def oL(ρ:Nat->Option Nat)(b c:Nat):Nat->Option Nat:=fun x=>if x=b then some c else ρ x
theorem nj.mono{ρ ρ':Nat->Option Nat}(e:Ext ρ ρ'){a a':Addr}(h:nj ρ a a'):nj ρ' a a':=⟨e _ _ h.1,h.2⟩
theorem nj.add{a a':Addr}(h:nj ρ a a')(n:Nat):nj ρ (a.add n) (a'.add n):=by
 obtain⟨h1,h2,h3⟩:=h;unfold Addr.add;split
 ·exact⟨h1,h2,h3⟩
 ·exact⟨h1,by simp[h2],rfl⟩
theorem nj.ptr{a a':Addr}(h:nj ρ a a'):VR S ρ (.pointer (some a)) (.pointer (some a')):=by
 obtain⟨b,o,sp⟩:=a;obtain⟨b',o',sp'⟩:=a';obtain⟨h1,h2,h3⟩:=h;simp at h2 h3;subst h2 h3;exact .ptr o' sp' h1
theorem nj.slice{a a':Addr}(h:nj ρ a a')(l k:Nat):VR S ρ (.slice (some a) l k) (.slice (some a') l k):=by
 obtain⟨b,o,sp⟩:=a;obtain⟨b',o',sp'⟩:=a';obtain⟨h1,h2,h3⟩:=h;simp at h2 h3;subst h2 h3;exact .slice o' sp' l k h1
theorem OR.mono{ρ':Nat->Option Nat}(e:Ext ρ ρ'){r:Md}{o o':Obj}(h:OR S r ρ o o'):OR S r ρ' o o':=by
 cases h with
 |cells h3 h4 h5 h6=>exact .cells h3 (fun i v hv=>let⟨v',a,b⟩:=h4 i v hv;⟨v',a,b.mono e⟩) h5 h6
 |number h hro=>exact .number (h.mono e) hro
theorem OR.Vg{r:Md}{cs:Array af}{e:aj}{fz:Nat×Nat}{o':Obj}(h:OR S r ρ (.cells cs e fz) o'):∃cs' O4,o'=.cells cs' e O4/\fz=(0,r.hi cs.size)/\cs.size<=cs'.size/\
  (∀(i:Nat) (v:af),cs[i]?=some v->∃v',cs'[i]?=some v'/\VR S ρ v v')/\(r.isRead=false->cs.size=cs'.size/\O4=(0,0))/\(∀n,r=.read n->cs.size=n):=by
 cases h with
 |cells h3 h4 h5 h6=>exact⟨_,_,rfl,rfl,h3,h4,h5,h6⟩
theorem HR.cell{s w:ae}(h:HR P.globals.size S ro ρ s w){a:Addr}{v:af}(hv:s.cell? a=some v):∃c v',ρ a.block=some c/\w.cell? {a with block:=c}=some v'/\VR S ρ v v'/\a.spot=none/\(ro a.block).gets a.off:=by
 unfold bM at hv;cases hb:ρ a.block with
 |none=>
  rcases h.hole _ hb with h1|⟨x,h1⟩<;>rw[h1]at hv<;>cases hv
 |some c=>
  obtain⟨o,o',h1,h2,h3⟩:=h.row _ _ hb;rw[h1]at hv;cases h3 with
  |number _ _=>cases hv
  |cells h3 h4 h5 h6=>
   simp only at hv;split at hv
   ·cases hv
   ·rename_i hsp;obtain⟨v',hv',hr⟩:=h4 _ _ hv;have bs2:a.spot=none:=by cases hh:a.spot with
     |none=>rfl
     |some x=>rw[hh]at hsp;simp at hsp
    refine⟨c,v',rfl,?_,hr,bs2,?_⟩
    ·unfold bM;simp only[h2];rw[if_neg hsp];exact hv'
    ·have hlt:=(Array.getElem?_eq_some_iff.1 hv).1;cases hm:ro a.block with
     |read n=>show a.off<n;rw[<-h6 n hm];exact hlt
     |all=>trivial
     |part f=>trivial
theorem HR.Qh{s w:ae}(h:HR P.globals.size S ro ρ s w){a:Addr}(p:au)(b:Bool):∃e,s.farLoad p a b=.error e/\Dv e:=by
 unfold World.farLoad World.noCell;cases hb:ρ a.block with
 |none=>
  rcases h.hole _ hb with h1|⟨x,h1⟩<;>rw[h1]<;>exact⟨_,rfl,trivial⟩
 |some c=>
  obtain⟨o,o',h1,h2,h3⟩:=h.row _ _ hb;rw[h1];cases h3<;>exact⟨_,rfl,trivial⟩
theorem HR.B6{s w:ae}(h:HR P.globals.size S ro ρ s w){a:Addr}(p:au)(v:af)(b:Bool):∃e,s.farStore p a v b=.error e/\Dv e:=by
 unfold World.farStore World.noCell;cases hb:ρ a.block with
 |none=>
  rcases h.hole _ hb with h1|⟨x,h1⟩<;>rw[h1]<;>exact⟨_,rfl,trivial⟩
 |some c=>
  obtain⟨o,o',h1,h2,h3⟩:=h.row _ _ hb;rw[h1];cases h3<;>exact⟨_,rfl,trivial⟩
theorem SR.load{a a':Addr}(ha:nj ρ a a'\/ρ a.block=none):SR P S ro ρ (load a) (load a') fun ρ' v v'=>VR S ρ' v v':=by
 intro s w hr ht hd hro;refine and_assoc.1 ⟨?_,fun a s' hx=>jb _ (by exact fun _=>trivial) s a s' hx⟩;unfold Go.load;simp only[cA];cases hc:s.cell? a with
 |none=>
  obtain⟨e,he,tm⟩:=hr.Qh (a:=a) P (Mode.plain== .atomic);refine⟨fun v s' hx=>?_,fun v s' hx=>?_⟩
  ·simp only[he]at hx;cases hx
  ·simp only[he]at hx;cases hx;exact tm
 |some u=>
  refine⟨fun v s' hx=>?_,fun v s' hx=>by cases hx⟩;cases hx;obtain⟨c,v',h1,h2,h3,av9,hgt⟩:=hr.cell hc;have he:a'={a with block:=c}:=by
   rcases ha with⟨k1,k2,k3⟩|k
   ·rw[h1]at k1;cases k1;cases a;cases a';simp at k2 k3 ⊢;exact⟨k2,k3⟩
   ·rw[h1]at k;cases k
  have h2':w.cell? a'=some v':=by rw[he];exact h2
  refine⟨ρ,v',w,?_,?_,h3⟩
  ·simp only[h2']
  ·have:(Sem.load Mode.plain a' Sem.pure:Sem af)=Go.load a':=rfl
   rw[this,events_load];simp only[h2'];have:=Mv.refl hr ht hd
   refine{this with evs:=fun e he'=>?_};simp at he';subst he';exact .inl ⟨a',a.block,false,rfl,by rw[he];exact h1,by simp,by rw[he];exact hgt,by rw[he];exact av9⟩
theorem getElem?_modify_ne{α:Type}(xs:Array α)(i j:Nat)(f:α->α)(h:i≠j):(xs.modify i f)[j]?=xs[j]?:=by
 rw[dP];simp[h]
theorem HR.setCell{s w:ae}(h:HR P.globals.size S ro ρ s w){a:Addr}{c:Nat}(hb:ρ a.block=some c)(hro:(ro a.block).isRead=false)(hsp:a.spot=none){cs:Array af}{e:aj}{fz:Nat×Nat}(hs:s.heap[a.block]?=some (.cells cs e fz))
  {v v':af}(hv:VR S ρ v v'):HR P.globals.size S ro ρ (s.setCell a v) (w.setCell {a with block:=c} v'):=by
 refine⟨h.inj,fun b d hbd=>?_,fun b hbn=>?_,h.low,by simpa [cJ]using h.gs,by simpa [cJ]using h.gw⟩
 ·obtain⟨o,o',h1,h2,h3⟩:=h.row b d hbd;by_cases hba:a.block=b
  ·subst hba;rw[hb]at hbd;cases hbd;rw[hs]at h1;cases h1;obtain⟨cs',O4,rfl,rfl,h3,h4,h5,h7⟩:=h3.Vg;obtain⟨h6,rfl⟩:=h5 hro;have A:AR S ρ cs cs':=⟨h6,fun i x y hx hy=>by obtain⟨z,hz,hr⟩:=h4 i x hx;rw[hz]at hy;cases hy;exact hr⟩;have key:OR S (ro a.block) ρ (.cells (cs.setIfInBounds a.off v) e (0,(ro a.block).hi (cs.setIfInBounds a.off v).size)) (.cells (cs'.setIfInBounds a.off v') e (0,0)):=
    .cells (by simp[h6]) (fun i u hu=>(A.set a.off hv).get hu) (fun _=>⟨by simp[h6],rfl⟩) fun n hn=>by simpa using h7 n hn
   refine⟨_,_,?_,?_,key⟩
   ·simp[cJ,dP,hs,hsp]
   ·simp[cJ,dP,h2,hsp]
  ·have hcd:c≠d:=fun e=>hba (h.inj _ _ _ hb (e ▸ hbd));refine⟨o,o',?_,?_,h3⟩
   ·rw[cJ];exact(getElem?_modify_ne _ _ _ _ hba).trans h1
   ·rw[cJ];exact(getElem?_modify_ne _ _ _ _ hcd).trans h2
 ·have hba:a.block≠b:=fun e=>by rw[e,hbn]at hb;cases hb
  rw[cJ];simp only[getElem?_modify_ne _ _ _ _ hba];exact h.hole b hbn
theorem SR.store{a a':Addr}(ha:nj ρ a a'\/ρ a.block=none){v v':af}(hv:VR S ρ v v'):SR P S ro ρ (store a v) (store a' v') fun _ _ _=>True:=by
 intro s w hr ht hd hro;refine and_assoc.1 ⟨?_,fun a s' hx=>jb _ (by exact trivial) s a s' hx⟩;refine⟨fun u s' hx=>?_,fun u s' hx=>?_⟩;case refine_2=>
  unfold Go.store at hx;cases hc:s.cell? a with
  |none=>
   obtain⟨e,he,tm⟩:=hr.B6 (a:=a) P v (Mode.plain== .atomic);cases v<;>simp only[cA,hc,he]at hx<;>cases hx<;>first|exact tm|trivial
  |some z=>
   cases hf:s.frozen? a with
   |true=>cases v<;>simp only[cA,hc,hf]at hx<;>cases hx<;>trivial
   |false=>cases v<;>simp only[cA,hc,hf]at hx<;>cases hx<;>trivial
 have key:s.cell? a≠none/\s.frozen? a=false/\s'=s.setCell a v/\(∀x,v≠ .agg x)/\(∀x,v≠ .tuple x):=by
  unfold Go.store at hx;cases hc:s.cell? a with
  |none=>
   exfalso;obtain⟨e,he,-⟩:=hr.B6 (a:=a) P v (Mode.plain== .atomic);cases v<;>simp only[cA,hc,he]at hx<;>cases hx
  |some z=>
   cases hf:s.frozen? a with
   |true=>exfalso;cases v<;>simp only[cA,hc,hf]at hx<;>cases hx
   |false=>cases v<;>simp only[cA,hc,hf]at hx<;>cases hx<;>exact⟨by simp,rfl,rfl,by simp,by simp⟩
 obtain⟨hc,hf,rfl,n1,n2⟩:=key;obtain⟨z,hz⟩:=Option.ne_none_iff_exists'.1 hc;obtain⟨c,v₀,h1,h2,h3,av9,hgt⟩:=hr.cell hz;have he:a'={a with block:=c}:=by
  rcases ha with⟨k1,k2,k3⟩|k
  ·rw[h1]at k1;cases k1;cases a;cases a';simp at k2 k3 ⊢;exact⟨k2,k3⟩
  ·rw[h1]at k;cases k
 obtain⟨o,o',r1,r2,r0⟩:=hr.row _ _ h1;obtain⟨cs,cs',e,O4,rfl,rfl,r3,r4,r5⟩:∃cs cs' e O4,o=.cells cs e (0,(ro a.block).hi cs.size)/\o'=.cells cs' e O4/\cs.size<=cs'.size/\(∀(i:Nat) (v:af),cs[i]?=some v->∃v',cs'[i]?=some v'/\VR S ρ v v')/\((ro a.block).isRead=false->cs.size=cs'.size/\O4=(0,0)):=by
  cases r0 with
  |cells h3 h4 h5 _=>exact⟨_,_,_,_,rfl,rfl,h3,h4,h5⟩
  |number _ _=>
   unfold bM at hz;rw[r1]at hz;cases hz
 have hsp:a.spot=none:=by
  unfold bM at hz;rw[r1]at hz;simp only at hz;cases hs:a.spot with
  |none=>rfl
  |some _=>simp[hs]at hz
 have hoff:a.off<cs.size:=by
  unfold bM at hz;rw[r1]at hz;simp only[hsp]at hz;exact(Array.getElem?_eq_some_iff.1 (by simpa using hz)).1
 have JN:(ro a.block).lets a.off:=by
  refine Md.XL (n:=cs.size) (fun h=>?_) hoff;unfold World.frozen? at hf;rw[r1]at hf;simp at hf;omega
 have hrb:(ro a.block).isRead=false:=by cases hm:ro a.block with
  |read n=>rw[hm]at JN;exact JN.elim
  |all=>rfl
  |part f=>rfl
 obtain⟨r6,rfl⟩:=r5 hrb;have hf':w.frozen? a'=false:=by rw[he];simp[World.frozen?,r2]
 have h2':w.cell? a'=some v₀:=by rw[he];exact h2
 have m1:(∀x,v'≠ .agg x)/\(∀x,v'≠ .tuple x):=by
  cases hv<;>first|exact absurd rfl (n1 _)|exact absurd rfl (n2 _)|exact⟨‹∀x,v'≠Value.agg x›,‹∀x,v'≠Value.tuple x›⟩|exact⟨by simp,by simp⟩
 have hone:v'.oneCell'=true:=by
  obtain⟨m1,m2⟩:=m1;cases v'<;>first|rfl|exact absurd rfl (m1 _)|exact absurd rfl (m2 _)
 have hrun:(Go.store a' v').run P w=.ok () (w.setCell a' v'):=by
  obtain⟨m1,m2⟩:=m1;unfold Go.store;cases v'<;>first|exact absurd rfl (m1 _)|exact absurd rfl (m2 _)|(simp only[cA,h2',hf'];rfl)
 refine⟨ρ,(),w.setCell a' v',hrun,?_,trivial⟩;rw[events_store _ _ _ a' v' .plain hone];simp only[h2',hf'];refine⟨.refl _,by rw[he];exact hr.setCell h1 hrb hsp r1 hv,ht,hd,rfl,rfl,rfl,by simp[cJ],fun d hd' hb=>?_,fun b d f hb aY7 ds de dz hds=>?_,fun _ _ h=>.inl h,fun e he'=>?_,by simp[cJ],rfl,rfl,fun k1 k2=>⟨by simpa [cJ]using k1,k2⟩⟩
 ·have hcd:a'.block≠d:=fun e=>by
   have:=hb a.block (by rw[<-e,he];exact h1)
   rw[hrb]at this;cases this
  rw[cJ];exact getElem?_modify_ne _ _ _ _ hcd
 ·by_cases hcd:a'.block=d
  ·have hba:b=a.block:=hr.inj _ _ _ hb (by rw[<-hcd,he];exact h1);subst hba;rw[aY7]at JN;refine⟨ds.setIfInBounds a'.off v',?_,by simp,fun i hi=>?_⟩
   ·have bs3:a'.spot=none:=by rw[he];exact hsp
    subst hcd;simp[cJ,dP,hds,bs3]
   ·have:a'.off≠i:=by rw[he];simp only[Md.lets]at JN;show a.off≠i;omega
    rw[Array.getElem?_setIfInBounds_ne this]
  ·refine⟨ds,?_,rfl,fun _ _=>rfl⟩;rw[cJ];exact(getElem?_modify_ne _ _ _ _ hcd).trans hds
 ·simp at he';subst he';exact .inl ⟨a',a.block,true,rfl,by rw[he];exact h1,fun _=>(by rw[he];exact JN),by rw[he];exact hgt,by rw[he];exact av9⟩
theorem HR.push{s w:ae}(hr:HR P.globals.size S ro ρ s w)(hro:∀b,s.heap.size<=b->ro b=.all){o o':Obj}(ho:∀ρ',Ext ρ ρ'->OR S .all ρ' o o'):
  Ext ρ (oL ρ s.heap.size w.heap.size)/\HR P.globals.size S ro (oL ρ s.heap.size w.heap.size) {s with heap:=s.heap.push o} {w with heap:=w.heap.push o'}:=by
 have hlt:∀b c,ρ b=some c->b<s.heap.size/\c<w.heap.size:=fun b c hb=>by
  obtain⟨x,_,h1,h2,_⟩:=hr.row _ _ hb;exact⟨(Array.getElem?_eq_some_iff.1 h1).1,(Array.getElem?_eq_some_iff.1 h2).1⟩
 have hext:Ext ρ (oL ρ s.heap.size w.heap.size):=fun b c hb=>by
  unfold oL;rw[if_neg (by have:=(hlt b c hb).1;omega)];exact hb
 refine⟨hext,⟨fun b b' c hb hb'=>?_,fun b c hb=>?_,fun b hb=>?_,fun b c hb=>?_,?_,?_⟩⟩
 ·unfold oL at hb hb';split at hb<;>split at hb'
  ·omega
  ·cases hb;have:=(hlt _ _ hb').2;omega
  ·cases hb';have:=(hlt _ _ hb).2;omega
  ·exact hr.inj _ _ _ hb hb'
 ·unfold oL at hb;split at hb
  ·rename_i hbs;cases hb;subst hbs;refine⟨o,o',by simp,by simp,?_⟩;rw[hro _ nle];exact ho _ hext
  ·obtain⟨x,x',h1,h2,h3⟩:=hr.row _ _ hb;have hl:=hlt b c hb;refine⟨x,x',?_,?_,?_⟩
   ·simp only[cY];rw[if_neg (by omega)];exact h1
   ·simp only[cY];rw[if_neg (by omega)];exact h2
   ·exact h3.mono hext
 ·unfold oL at hb;split at hb
  ·cases hb
  ·rename_i hne;simp only[cY];rw[if_neg hne];exact hr.hole b hb
 ·unfold oL at hb;split at hb
  ·rename_i hbs;cases hb;subst hbs;exact⟨hr.gs,hr.gw⟩
  ·exact hr.low _ _ hb
 ·simp;exact Nat.le_succ_of_le hr.gs
 ·simp;exact Nat.le_succ_of_le hr.gw
theorem Mv.push{s w:ae}(hr:HR P.globals.size S ro ρ s w)(ht:s.tape=w.tape)(hd:s.drawn=w.drawn)(hro:∀b,s.heap.size<=b->ro b=.all){o o':Obj}(ho:∀ρ',Ext ρ ρ'->OR S .all ρ' o o'):
  Mv P.globals.size S ro ρ s w (oL ρ s.heap.size w.heap.size) {s with heap:=s.heap.push o} {w with heap:=w.heap.push o'} #[]:=by
 obtain⟨h1,h2⟩:=hr.push hro ho;refine⟨h1,h2,ht,hd,rfl,rfl,rfl,by simp,fun c hc _=>?_,fun b c f hb _ cs e fz hc=>?_,fun b c hb=>?_,by simp,by simp,rfl,rfl,fun k1 k2=>⟨by simpa using k1,fun b c hb=>?_⟩⟩
 ·simp only[cY];rw[if_neg (by omega)]
 ·refine⟨cs,?_,rfl,fun _ _=>rfl⟩;have hlt:=(Array.getElem?_eq_some_iff.1 hc).1;simp only[cY];rw[if_neg (by omega)];exact hc
 ·unfold oL at hb;split at hb
  ·rename_i hbs;cases hb;subst hbs;exact .inr ⟨aH _,hro _ nle⟩
  ·exact .inl hb
 ·unfold oL at hb;split at hb
  ·rename_i hbs;cases hb;subst hbs;exact k1.symm
  ·exact k2 b c hb
theorem SR.newRow{e:aj}{cs cs':Array af}(h:AR S ρ cs cs'):SR P S ro ρ (newRow e cs) (newRow e cs') fun ρ' a a'=>nj ρ' a a':=by
 intro s w hr ht hd hro;refine and_assoc.1 ⟨?_,fun a s' hx=>jb _ (by exact mo.bind (by exact fun _=>trivial) (by exact fun _=>trivial)) s a s' hx⟩;refine⟨fun a s' hx=>?_,fun _ _ hx=>by simp only[Go.newRow,newObj,aO]at hx;cases hx⟩;have hx':a=⟨s.heap.size,0,none⟩/\s'={s with heap:=s.heap.push (.cells cs e)}:=by
  simp only[Go.newRow,newObj,aO]at hx;cases hx;exact⟨rfl,rfl⟩
 obtain⟨rfl,rfl⟩:=hx';exact⟨oL ρ s.heap.size w.heap.size,⟨w.heap.size,0,none⟩,{w with heap:=w.heap.push (.cells cs' e)},rfl,
  Mv.push hr ht hd hro fun _ he=>.cells (ro:=.all) (by rw[h.size];exact aH _) (fun i v hv=>(h.mono he).get hv) (fun _=>⟨h.size,rfl⟩) (fun _ e=>by cases e),⟨by simp[oL],rfl,rfl⟩⟩
theorem SR.Qq{a a':Addr}{lost:Bool}(h:nj ρ a a'):SR P S ro ρ (asNumber a lost) (asNumber a' lost) fun ρ' v v'=>VR S ρ' v v':=by
 intro s w hr ht hd hro;refine and_assoc.1 ⟨?_,fun a s' hx=>jb _ (by exact mo.bind (by exact fun _=>trivial) (by exact fun _=>trivial)) s a s' hx⟩;refine⟨fun v s' hx=>?_,fun _ _ hx=>by simp only[asNumber,newObj,aO]at hx;cases hx⟩;have hx':v=.pointer (some ⟨s.heap.size,0,none⟩)/\s'={s with heap:=s.heap.push (.number a lost)}:=by
  simp only[asNumber,newObj,aO]at hx;cases hx;exact⟨rfl,rfl⟩
 obtain⟨rfl,rfl⟩:=hx';exact⟨oL ρ s.heap.size w.heap.size,.pointer (some ⟨w.heap.size,0,none⟩),{w with heap:=w.heap.push (.number a' lost)},rfl,
  Mv.push hr ht hd hro fun _ he=>.number (h.mono he) rfl,.ptr 0 none (by simp[oL])⟩
theorem SR.choose{q:Question}:SR P S ro ρ (choose q) (choose q) fun _ a b=>a=b:=by
 intro s w hr ht hd hro;refine and_assoc.1 ⟨?_,fun a s' hx=>jb _ (by exact fun _=>trivial) s a s' hx⟩;refine⟨fun a s' hx=>?_,fun _ _ hx=>by simp only[Go.choose,cA]at hx;split at hx<;>cases hx⟩;simp only[Go.choose,cA]at hx;split at hx
 ·rename_i hq;cases hx;refine⟨ρ,0,w,by simp[Go.choose,cA,hq],?_,rfl⟩;rw[events_choose];exact Mv.refl hr ht hd
 ·rename_i hq;cases hx;refine⟨ρ,q.cut (w.tape w.drawn q),{w with drawn:=w.drawn+1},by simp[Go.choose,cA,hq],?_,by rw[ht,hd]⟩;rw[events_choose];exact⟨.refl _,⟨hr.inj,hr.row,hr.hole,hr.low,hr.gs,hr.gw⟩,ht,by simp[hd],rfl,rfl,rfl,aH _,fun _ _ _=>rfl,fun _ _ _ _ _ cs _ _ hc=>⟨cs,hc,rfl,fun _ _=>rfl⟩,fun _ _ h=>.inl h,by simp,aH _,rfl,rfl,fun a b=>⟨a,b⟩⟩
theorem SR.mark{m:Mark}(hm:m=.noRoom):SR P S ro ρ (mark m) (mark m) fun _ _ _=>True:=by
 subst hm;intro s w hr ht hd hro;refine and_assoc.1 ⟨?_,fun a s' hx=>jb _ (by exact trivial) s a s' hx⟩;refine⟨fun a s' hx=>?_,fun _ _ hx=>by cases hx⟩;cases hx;refine⟨ρ,(),w,rfl,?_,trivial⟩;rw[events_mark];exact{Mv.refl hr ht hd with evs:=fun e he=>by simp at he;subst he;exact .inr (.inl rfl)}
theorem SR.shape{r r':Nat}(h:ρ r=some r'):SR P S ro ρ (shape r) (shape r') fun ρ' a b=>(∃e n n',a=some (e,n)/\b=some (e,n')/\n<=n')\/(a=none/\b=none):=by
 intro s w hr ht hd hro;refine and_assoc.1 ⟨?_,fun a s' hx=>jb _ (by exact fun _=>trivial) s a s' hx⟩;refine⟨fun a s' hx=>?_,fun _ _ hx=>by cases hx⟩;cases hx;refine⟨ρ,w.shape? r',w,rfl,Mv.refl hr ht hd,?_⟩;obtain⟨o,o',h1,h2,h3⟩:=hr.row _ _ h;unfold World.shape?;rw[h1,h2];cases h3 with
 |cells h3 h4 h5 _=>exact .inl ⟨_,_,_,rfl,rfl,h3⟩
 |number h _=>exact .inr ⟨rfl,rfl⟩
theorem SR.getObj{r r':Nat}(h:ρ r=some r'):SR P S ro ρ (getObj r) (getObj r') fun ρ' a b=>∃x x' l,a=.number x l/\b=.number x' l/\nj ρ' x x':=by
 intro s w hr ht hd hro;refine and_assoc.1 ⟨?_,fun a s' hx=>jb _ (by exact fun _=>trivial) s a s' hx⟩;obtain⟨o,o',h1,h2,h3⟩:=hr.row _ _ h;cases h3 with
 |cells h3 h4 h5 _=>exact⟨fun a s' hx=>(by simp only[Go.getObj,cA,h1]at hx;cases hx),fun _ _ hx=>by simp only[Go.getObj,cA,h1]at hx;cases hx;trivial⟩
 |number h hall=>
  refine⟨fun a s' hx=>?_,fun _ _ hx=>by simp only[Go.getObj,cA,h1]at hx;cases hx⟩;simp only[Go.getObj,cA,h1]at hx;cases hx;refine⟨ρ,_,w,by simp only[Go.getObj,cA,h2],?_,_,_,_,rfl,rfl,h⟩;have hev:(Go.getObj r').events P w #[]=#[⟨.obj r',false,false⟩]:=by simp only[Go.getObj,Sem.events,Sem.runT,h2,Obj.isChan];rfl
  rw[hev];exact{Mv.refl hr ht hd with evs:=fun e he=>by simp at he;subst he;exact .inr (.inr ⟨r',r,rfl,by assumption,hall⟩)}
theorem SR.viewAt{r r':Nat}(h:ρ r=some r'):SR P S ro ρ (viewAt r) (viewAt r') fun _ a b=>a=none/\b=none:=by
 unfold Go.viewAt;refine SR.bind (SR.shape h) fun ρ' a b he hab=>?_;rcases hab with⟨e,n,n',rfl,rfl,_⟩|⟨rfl,rfl⟩
 ·exact SR.pure ⟨rfl,rfl⟩
 ·refine SR.bind (SR.getObj (he _ _ h)) fun gS o o' _ ho=>?_;obtain⟨x,x',l,rfl,rfl,_⟩:=ho;exact SR.pure ⟨rfl,rfl⟩
theorem SR.numberAt{r r':Nat}(h:ρ r=some r'):SR P S ro ρ (numberAt r) (numberAt r') fun ρ' a b=>(a=none/\b=none)\/∃x x' l,a=some (x,l)/\b=some (x',l)/\nj ρ' x x':=by
 unfold Go.numberAt;refine SR.bind (SR.shape h) fun ρ' a b he hab=>?_;rcases hab with⟨e,n,n',rfl,rfl,_⟩|⟨rfl,rfl⟩
 ·exact SR.pure (.inl ⟨rfl,rfl⟩)
 ·refine SR.bind (SR.getObj (he _ _ h)) fun gS o o' _ ho=>?_;obtain⟨x,x',l,rfl,rfl,hx⟩:=ho;exact SR.pure (.inr ⟨x,x',l,rfl,rfl,hx⟩)
theorem SR.behindNumber{n n':Addr}(h:nj ρ n n'):SR P S ro ρ (behindNumber n) (behindNumber n') fun ρ' a b=>nj ρ' a.1 b.1/\a.2=b.2:=by
 unfold Go.behindNumber;refine SR.bind (SR.numberAt h.1) fun ρ' a b he hab=>?_;rcases hab with⟨rfl,rfl⟩|⟨x,x',l,rfl,rfl,hx⟩
 ·exact SR.pure ⟨h.mono he,rfl⟩
 ·exact SR.pure ⟨hx,rfl⟩
theorem SR.noView{a a':Addr}(h:nj ρ a a'):SR P S ro ρ (noView a) (noView a') fun _ _ _=>True:=by
 unfold Go.noView;refine SR.bind (SR.viewAt h.1) fun ρ' a b he hab=>?_;obtain⟨rfl,rfl⟩:=hab;exact SR.pure trivial
theorem SR.byteOf{a a':Addr}(h:nj ρ a a'):SR P S ro ρ (byteOf a) (byteOf a') fun _ x y=>x=y:=by
 unfold Go.byteOf;rw[h.2.2];cases a.spot with
 |some s=>exact SR.pure rfl
 |none=>
  refine SR.bind SR.program fun ρ' p p' he hp=>?_;obtain⟨rfl,rfl⟩:=hp;refine SR.bind (SR.noView (h.mono he)) fun gS _ _ gi _=>?_;refine SR.bind (SR.shape ((h.mono he).mono gi).1) fun iI x y gU hxy=>?_;rcases hxy with⟨e,n,n',rfl,rfl,_⟩|⟨rfl,rfl⟩
  ·simp only[h.2.1];split
   ·exact SR.pure rfl
   ·split
    ·exact SR.pure rfl
    ·exact SR.stuck
  ·exact SR.stuck
theorem SR.typeInfo(t:aj):SR P S ro ρ (typeInfo t) (typeInfo t) fun _ a b=>a=b/\P.info? t=some a:=by
 intro s w hr ht hd hro;refine and_assoc.1 ⟨?_,fun a s' hx=>jb _ (by exact mo.bind (by exact fun _=>trivial) fun _=>(by split<;>exact trivial)) s a s' hx⟩;cases hi:P.info? t with
 |none=>exact⟨fun a s' hx=>(by simp only[Go.typeInfo,aO,run_program,Result.andThen,hi]at hx;cases hx),fun _ _ hx=>by simp only[Go.typeInfo,aO,run_program,Result.andThen,hi]at hx;cases hx;trivial⟩
 |some i=>
  refine⟨fun a s' hx=>?_,fun _ _ hx=>by simp only[Go.typeInfo,aO,run_program,Result.andThen,hi]at hx;cases hx⟩;simp only[Go.typeInfo,aO,run_program,Result.andThen,hi]at hx;cases hx;refine⟨ρ,_,w,?_,?_,rfl,rfl⟩
  ·simp only[Go.typeInfo,aO,run_program,Result.andThen,hi];rfl
  ·rw[events_typeInfo];exact Mv.refl hr ht hd
theorem SR.underlying(t:aj):SR P S ro ρ (underlying t) (underlying t) fun _ a b=>a=b/\P.underlying t=some a:=by
 intro s w hr ht hd hro;refine and_assoc.1 ⟨?_,fun a s' hx=>jb _ (by exact mo.bind (by exact fun _=>trivial) fun _=>(by split<;>exact trivial)) s a s' hx⟩;cases hi:P.underlying t with
 |none=>exact⟨fun a s' hx=>(by simp only[dF,aO,run_program,Result.andThen,hi]at hx;cases hx),fun _ _ hx=>by simp only[dF,aO,run_program,Result.andThen,hi]at hx;cases hx;trivial⟩
 |some i=>
  refine⟨fun a s' hx=>?_,fun _ _ hx=>by simp only[dF,aO,run_program,Result.andThen,hi]at hx;cases hx⟩;simp only[dF,aO,run_program,Result.andThen,hi]at hx;cases hx;refine⟨ρ,_,w,?_,?_,rfl,rfl⟩
  ·simp only[dF,aO,run_program,Result.andThen,hi];rfl
  ·rw[events_underlying];exact Mv.refl hr ht hd
theorem SR.sizeOf(t:aj):SR P S ro ρ (sizeOf t) (sizeOf t) fun _ a b=>a=b:=by
 unfold Go.sizeOf;exact SR.bind (SR.typeInfo t) fun _ a b _ h=>by obtain⟨rfl,_⟩:=h;exact SR.pure rfl
theorem SR.isAgg(t:aj):SR P S ro ρ (isAgg t) (isAgg t) fun _ a b=>a=b:=by
 unfold Go.isAgg;refine SR.bind (SR.underlying t) fun _ a b _ h=>?_;obtain⟨rfl,_⟩:=h;split<;>exact SR.pure rfl
def zu(P:au)(S:ak->Prop)(t:aj):Prop:=∀i v,P.info? t=some i->i.zero=some v->∀ρ,VR S ρ v v
theorem SR.zeroValue{t:aj}(hz:zu P S t):SR P S ro ρ (zeroValue t) (zeroValue t) fun ρ' a b=>VR S ρ' a b:=by
 unfold Go.zeroValue;refine SR.bind (SR.typeInfo t) fun ρ' a b _ h=>?_;obtain⟨rfl,hi⟩:=h;split
 ·rename_i v hv;exact SR.pure (hz _ _ hi hv ρ')
 ·exact SR.unsupported trivial
end
end
end Cc
end Go.Proofs.Ytpfpokjaeffbjaa
