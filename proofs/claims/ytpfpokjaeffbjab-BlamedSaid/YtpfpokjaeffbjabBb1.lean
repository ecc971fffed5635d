/- Part of the proof: Log, TrI, MuI, Ghost. -/
import Derived.Conc.Crowd
import Derived.Conc.QuitsD
import Derived.Conc.Deaf
import Derived.Conc.CrowdTrace
import Derived.Calls
import Derived.Conc.MuSpec
set_option linter.unusedVariables false
set_option linter.unusedSimpArgs false
set_option maxRecDepth 100000
set_option maxHeartbeats 16000000
namespace Go.Proofs.Ytpfpokjaeffbjab
namespace Cc
open Go.Conc
structure St(Γ:Type)where
 w:World
 t:Trace
 γ:Γ
def St.at{Γ:Type}(st:St Γ)(d:Nat):St Γ:={st with w:=st.w.at d}
structure VT(Γ:Type)where
 P:Program
 Inv:St Γ->Prop
 Rel:Nat->St Γ->St Γ->Prop
 Waits:Nat->St Γ->Prop
 Gone:Nat->St Γ->Prop
 Lv:Nat->St Γ->Prop
 num:St Γ->Nat
 Post:Value->World->Prop
inductive Rk(Γ:Type):Type
 |leaf:Rk Γ
 |mk (f:Goroutine->St Γ->Rk Γ):Rk Γ
def wH{Γ:Type}(r' r:Rk Γ):Prop:=∃f g st,r=.mk f/\r'=f g st
theorem wH.acc{Γ:Type}(r:Rk Γ):Acc wH r:=by
 induction r with
 |leaf=>exact⟨_,fun y ⟨_,_,_,h,_⟩=>by cases h⟩
 |mk f ih=>exact⟨_,fun y ⟨f',g,st,h,e⟩=>by cases h;subst e;exact ih g st⟩
theorem wH.wf{Γ:Type}:WellFounded (wH (Γ:=Γ)):=⟨wH.acc⟩
def xX{Γ:Type}(l' l:List (Rk Γ)):Prop:=∃k r r',l[k]?=some r/\wH r' r/\l'=l.set k r'
theorem xX.acc{Γ:Type}(l:List (Rk Γ)):Acc xX l:=by
 induction l with
 |nil=>exact⟨_,fun y ⟨k,r,r',h,_⟩=>by simp at h⟩
 |cons r l ih=>
  have key:∀r,Acc wH r->∀l,Acc xX l->Acc (xX (Γ:=Γ)) (r::l):=by
   intro r hr
   induction hr with
   |intro r _ ihr=>
    intro l hl
    induction hl with
    |intro l hl' ihl=>
     refine⟨_,fun y ⟨k,a,a',h,hlt,e⟩=>?_⟩;subst e
     match k,h with
     |0,h=>
      simp at h;subst h;exact ihr a' hlt l ⟨l,hl'⟩
     |k+1,h=>exact ihl _ ⟨k,a,a',by simpa using h,hlt,rfl⟩
  exact key r (wH.acc r) l ih
theorem xX.wf{Γ:Type}:WellFounded (xX (Γ:=Γ)):=⟨xX.acc⟩
def MLt{Γ:Type}:Rk Γ×List (Rk Γ)×Nat->Rk Γ×List (Rk Γ)×Nat->Prop:=Prod.Lex wH (Prod.Lex xX Nat.lt)
theorem MLt.wf{Γ:Type}:WellFounded (MLt (Γ:=Γ)):=(Prod.lex ⟨wH,wH.wf⟩ (Prod.lex ⟨xX,xX.wf⟩ ⟨Nat.lt,Nat.lt_wfRel.wf⟩)).wf
section
variable{Γ:Type}(C:VT Γ)(i:Nat)(Ch:Nat->Goroutine->St Γ->Prop)(K:Goroutine->St Γ->Prop)
def Ends(i:Nat)(g:Goroutine)(st:St Γ)(o:Outcome)(w':World)(es:Array Event):Prop:=
 i=0/\(∃v,o=.done v/\C.Post v w')/\(∀said,¬Race said (st.t++MemOp.ofEvents 0 g.frame.fn g.frame.place es))/\Trace.HandedOver (st.t++MemOp.ofEvents 0 g.frame.fn g.frame.place es)/\
  ∀j,0<j->j<C.num st->C.Lv j st
def iI(g:Goroutine)(st:St Γ):Prop:=
 match stepG C.P (i==0) g st.w with
 |.go g' w' es=>
  (g'={g with status:=.blocked}/\g.offers=none/\w'=st.w/\es=#[]/\C.Waits i st)\/
  ∃γ',C.Inv ⟨w',st.t++MemOp.ofEvents i g.frame.fn g.frame.place es,γ'⟩/\C.num ⟨w',st.t++MemOp.ofEvents i g.frame.fn g.frame.place es,γ'⟩=C.num st/\
   (∀j,j≠i->C.Rel j st ⟨w',st.t++MemOp.ofEvents i g.frame.fn g.frame.place es,γ'⟩)/\
   (mayWake C.P g=true\/∀k,k≠i->C.Waits k st->C.Waits k ⟨w',st.t++MemOp.ofEvents i g.frame.fn g.frame.place es,γ'⟩)/\
   ((g'.status=.running/\K g' ⟨w',st.t++MemOp.ofEvents i g.frame.fn g.frame.place es,γ'⟩)\/(g'.status=.finished/\i≠0/\C.Gone i ⟨w',st.t++MemOp.ofEvents i g.frame.fn g.frame.place es,γ'⟩))
 |.spawn g' child w' es=>
  ∃γ',C.Inv ⟨w',(MemOp.ofEvents i g.frame.fn g.frame.place es).push {g:=i,fn:=g.frame.fn,pos:=g.frame.place,act:=.go (C.num st)} |>.push {g:=C.num st,fn:=child.frame.fn,pos:=g.frame.place,act:=.start} |> (st.t++·),γ'⟩/\
   (let st':St Γ:=⟨w',(MemOp.ofEvents i g.frame.fn g.frame.place es).push {g:=i,fn:=g.frame.fn,pos:=g.frame.place,act:=.go (C.num st)} |>.push {g:=C.num st,fn:=child.frame.fn,pos:=g.frame.place,act:=.start} |> (st.t++·),γ'⟩
    C.num st'=C.num st+1/\(∀j,j≠i->j<C.num st->C.Rel j st st')/\(∀k,k≠i->C.Waits k st->C.Waits k st')/\
    g'.status=.running/\K g' st'/\i=0/\child.status=.running/\Ch (C.num st) child st')
 |.ended o w' es=>Ends C i g st o w' es
 |_=>False
theorem iI.mono{C:VT Γ}{i:Nat}{Ch:Nat->Goroutine->St Γ->Prop}{K K':Goroutine->St Γ->Prop}{g:Goroutine}{st:St Γ}(h:iI C i Ch K g st)(k:∀g' st',K g' st'->K' g' st'):iI C i Ch K' g st:=by
 revert h
 unfold iI;cases stepG C.P (i==0) g st.w with
 |go g' w' es=>
  simp only;rintro (h|⟨γ',h1,h2,h3,h4,h5⟩)
  ·exact .inl h
  ·exact .inr ⟨γ',h1,h2,h3,h4,h5.imp (fun⟨a,b⟩=>⟨a,k _ _ b⟩) id⟩
 |spawn g' child w' es=>
  simp only;rintro ⟨γ',h1,h2,h3,h4,h5,h6,h7⟩;exact⟨γ',h1,h2,h3,h4,h5,k _ _ h6,h7⟩
 |ended o w' es=>exact id
 |_=>exact id
def T:Rk Γ->Goroutine->St Γ->Prop
 |.leaf,_,_=>False
 |.mk f,g,st=>∀ah,C.Rel i st ah->C.Inv ah->
   (C.Lv i ah->∃q,QuitsD C.P q (Deaf ah.t i) g)/\iI C i Ch (fun g' st'=>T (f g' st') g' st') g ah
def TT(g:Goroutine)(st:St Γ):Prop:=∃r,T C i Ch r g st
end
section
variable{Γ:Type}{C:VT Γ}{i:Nat}{Ch:Nat->Goroutine->St Γ->Prop}
theorem TT.step{g:Goroutine}{st:St Γ}(h:∀ah,C.Rel i st ah->C.Inv ah->(C.Lv i ah->∃q,QuitsD C.P q (Deaf ah.t i) g)/\iI C i Ch (TT C i Ch) g ah):TT C i Ch g st:=by
 classical
 refine⟨.mk fun g' st'=>if h:TT C i Ch g' st' then h.choose else .leaf,fun ah hr hi=>⟨(h ah hr hi).1,(h ah hr hi).2.mono fun g' st' hk=>?_⟩⟩;simp only[dif_pos hk];exact hk.choose_spec
theorem T.rely(trans:∀a b c,C.Rel i a b->C.Rel i b c->C.Rel i a c){r:Rk Γ}{g:Goroutine}{st st':St Γ}(h:T C i Ch r g st)(hr:C.Rel i st st'):T C i Ch r g st':=by
 cases r with
 |leaf=>exact h
 |mk f=>exact fun ah h₁ hi=>h ah (trans _ _ _ hr h₁) hi
theorem TT.rely(trans:∀a b c,C.Rel i a b->C.Rel i b c->C.Rel i a c){g:Goroutine}{st st':St Γ}(h:TT C i Ch g st)(hr:C.Rel i st st'):TT C i Ch g st':=
 let⟨r,hr'⟩:=h;⟨r,hr'.rely trans hr⟩
theorem TT.elim{g:Goroutine}{st:St Γ}(h:TT C i Ch g st)(ah:St Γ)(hr:C.Rel i st ah)(hi:C.Inv ah):(C.Lv i ah->∃q,QuitsD C.P q (Deaf ah.t i) g)/\iI C i Ch (TT C i Ch) g ah:=by
 obtain⟨r,hr'⟩:=h;cases r with
 |leaf=>exact hr'.elim
 |mk f=>exact⟨(hr' ah hr hi).1,(hr' ah hr hi).2.mono fun g' st' hk=>⟨_,hk⟩⟩
end
structure VT.Ok{Γ:Type}(C:VT Γ):Prop where
 refl:∀i st,C.Rel i st st
 trans:∀i a b c,C.Rel i a b->C.Rel i b c->C.Rel i a c
 gone:∀i a b,C.Rel i a b->C.Gone i a->C.Gone i b
 Ny:∀i st,C.Inv st->i<C.num st->C.Gone i st->Deaf st.t i=0
 SQ:∀i st,C.Waits i st->C.Lv i st->False
 TK:∀st d,C.Inv st->C.Inv (st.at d)
 TI:∀i st d,C.Rel i st (st.at d)
 TJ:∀st d,C.num (st.at d)=C.num st
 Hq:∀i st d,C.Waits i st->C.Waits i (st.at d)
 pos:∀st,C.Inv st->0<C.num st
 AU:∀st,C.Inv st->(∀i,i<C.num st->C.Waits i st\/(i≠0/\C.Gone i st))->False
section
variable{Γ:Type}(C:VT Γ)
def aQ3:Nat->Goroutine->St Γ->Prop:=fun _ _ _=>False
def TW(j:Nat)(g:Goroutine)(st:St Γ):Prop:=TT C j aQ3 g st
def TA(i:Nat)(r:Rk Γ)(g:Goroutine)(st:St Γ):Prop:=if i=0 then T C 0 (TW C) r g st else T C i aQ3 r g st
def GI(i:Nat)(r:Rk Γ)(g:Goroutine)(st:St Γ):Prop:=
 (g.status=.running/\TA C i r g st)\/(∃h:Goroutine,h.status=.running/\h.offers=none/\g={h with status:=.blocked}/\C.Waits i st/\TA C i r h st)\/(g.status=.finished/\i≠0/\C.Gone i st)
def fD(r0:Rk Γ)(rs:List (Rk Γ))(i:Nat):Rk Γ:=if i=0 then r0 else rs.getD (i-1) .leaf
def running(gs:Array Goroutine):Nat:=gs.toList.countP fun g=>g.status== .running
inductive MI:Rk Γ×List (Rk Γ)×Nat->Machine->Trace->Prop
 |mk (r0:Rk Γ) (rs:List (Rk Γ)) (gs:Array Goroutine) (w:World) (sl:Option (Nat×Nat)) (t:Trace) (γ:Γ) (hn:gs.size=C.num ⟨w,t,γ⟩) (hl:rs.length+1=gs.size) (hi:C.Inv ⟨w,t,γ⟩)
   (hg:∀i g,gs[i]?=some g->GI C i (fD r0 rs i) g ⟨w,t,γ⟩):MI (r0,rs,running gs) (crowd gs w sl) t
end
section
variable{Γ:Type}{C:VT Γ}
theorem TA.rely(ok:C.Ok){i:Nat}{r:Rk Γ}{g:Goroutine}{st st':St Γ}(h:TA C i r g st)(hr:C.Rel i st st'):TA C i r g st':=by
 unfold TA at h ⊢;split
 ·rename_i h0;subst h0;rw[if_pos rfl]at h;exact h.rely (ok.trans 0) hr
 ·rename_i h0;rw[if_neg h0]at h;exact h.rely (ok.trans i) hr
theorem TA.node{i:Nat}{r:Rk Γ}{g:Goroutine}{st:St Γ}(ok:C.Ok)(h:TA C i r g st)(hi:C.Inv st):(C.Lv i st->∃q,QuitsD C.P q (Deaf st.t i) g)/\
  iI C i (fun j g st=>i=0/\TW C j g st) (fun g' st'=>∃r',wH r' r/\TA C i r' g' st') g st:=by
 unfold TA at h;split at h
 ·rename_i h0;subst h0;cases r with
  |leaf=>exact h.elim
  |mk f=>
   refine⟨(h st (ok.refl _ _) hi).1,?_⟩;have h2:=(h st (ok.refl _ _) hi).2;have h3:iI C 0 (TW C) (fun g' st'=>∃r',wH r' (.mk f)/\TA C 0 r' g' st') g st:=h2.mono fun g' st' hk=>⟨f g' st',⟨f,g',st',rfl,rfl⟩,by unfold TA;rw[if_pos rfl];exact hk⟩
   revert h3
   unfold iI;cases stepG C.P (0==0) g st.w with
   |spawn g' child w' es=>
    simp only;rintro ⟨γ',a,b,c,d,e,k,l,m,n⟩;exact⟨γ',a,b,c,d,e,k,l,m,trivial,n⟩
   |_=>exact id
 ·rename_i h0;cases r with
  |leaf=>exact h.elim
  |mk f=>
   refine⟨(h st (ok.refl _ _) hi).1,?_⟩;have h2:=(h st (ok.refl _ _) hi).2;have h3:iI C i aQ3 (fun g' st'=>∃r',wH r' (.mk f)/\TA C i r' g' st') g st:=h2.mono fun g' st' hk=>⟨f g' st',⟨f,g',st',rfl,rfl⟩,by unfold TA;rw[if_neg h0];exact hk⟩
   revert h3
   unfold iI;cases stepG C.P (i==0) g st.w with
   |spawn g' child w' es=>
    simp only;rintro ⟨γ',a,b,c,d,e,k,l,m,n⟩;exact n.elim
   |_=>exact id
theorem GI.rely(ok:C.Ok){i:Nat}{r:Rk Γ}{g:Goroutine}{st st':St Γ}(h:GI C i r g st)(hr:C.Rel i st st')(hw:C.Waits i st->C.Waits i st'):GI C i r g st':=by
 rcases h with⟨h1,h2⟩|⟨h,h1,h2,h3,h4,h5⟩|⟨h1,h2,h3⟩
 ·exact .inl ⟨h1,h2.rely ok hr⟩
 ·exact .inr (.inl ⟨h,h1,h2,h3,hw h4,h5.rely ok hr⟩)
 ·exact .inr (.inr ⟨h1,h2,ok.gone _ _ _ hr h3⟩)
theorem GI.woken(ok:C.Ok){i:Nat}{r:Rk Γ}{g a b:Goroutine}{w':World}{st st':St Γ}(h:GI C i r g st)(hr:C.Rel i st st')(hb:b.status=.running\/b.status=.finished)
  (hw:mayWake C.P a=true\/(C.Waits i st->C.Waits i st')):GI C i r (Go.Conc.woken C.P a b w' g) st':=by
 rcases hw with hw|hw
 ·have e:Go.Conc.woken C.P a b w' g=g.again w':=by
   unfold Go.Conc.woken;rw[if_pos];rw[hw];rcases hb with hb|hb<;>simp[hb]
  rw[e];rcases h with⟨h1,h2⟩|⟨h,h1,h2,h3,h4,h5⟩|⟨h1,h2,h3⟩
  ·rw[again_running _ (.inl h1)];exact .inl ⟨h1,h2.rely ok hr⟩
  ·subst h3;have:({h with status:=.blocked}:Goroutine).again w'=h:=by
    unfold Goroutine.again;simp only[h2];cases h;simp at h1 h2 ⊢;exact⟨h1.symm,h2.symm⟩
   rw[this];exact .inl ⟨h1,TA.rely ok h5 hr⟩
  ·rw[again_running _ (.inr h1)];exact .inr (.inr ⟨h1,h2,ok.gone _ _ _ hr h3⟩)
 ·have hg:GI C i r g st':=GI.rely ok h hr hw;clear h;unfold Go.Conc.woken;split
  ·rcases hg with⟨h1,h2⟩|⟨h,h1,h2,h3,h4,h5⟩|⟨h1,h2,h3⟩
   ·rw[again_running _ (.inl h1)];exact .inl ⟨h1,h2⟩
   ·subst h3;have:({h with status:=.blocked}:Goroutine).again w'=h:=by
     unfold Goroutine.again;simp only[h2];cases h;simp at h1 h2 ⊢;exact⟨h1.symm,h2.symm⟩
    rw[this];exact .inl ⟨h1,h5⟩
   ·rw[again_running _ (.inr h1)];exact .inr (.inr ⟨h1,h2,h3⟩)
  ·exact hg
theorem GI.awake{i:Nat}{r:Rk Γ}{g:Goroutine}{st:St Γ}(h:GI C i r g st):Go.Conc.awake g:=by
 intro t ht;rcases h with⟨h1,_⟩|⟨h,h1,h2,h3,_⟩|⟨h1,_⟩
 ·rw[h1]at ht;cases ht
 ·subst h3;cases ht
 ·rw[h1]at ht;cases ht
theorem KW(r0 r:Rk Γ)(rs:List (Rk Γ))(i:Nat)(hi:i≠0):fD r rs i=fD r0 rs i:=by simp[fD,hi]
theorem Ph{r0 r:Rk Γ}{rs:List (Rk Γ)}{i j:Nat}(hi:i≠0)(hij:j≠i):fD r0 (rs.set (i-1) r) j=fD r0 rs j:=by
 unfold fD;split
 ·rfl
 ·rename_i hj;simp only[List.getD_eq_getElem?_getD];rw[List.getElem?_set_ne (by omega)]
theorem KX{r0 r:Rk Γ}{rs:List (Rk Γ)}{i:Nat}(hi:i≠0)(hl:i-1<rs.length):fD r0 (rs.set (i-1) r) i=r:=by
 unfold fD;rw[if_neg hi];simp[List.getD_eq_getElem?_getD,hl]
theorem KN{gs:Array Goroutine}{i:Nat}{g g':Goroutine}(h:gs[i]?=some g)(h1:g.status=.running)(h2:g'.status≠ .running):running (gs.setIfInBounds i g')<running gs:=by
 obtain⟨hlt,rfl⟩:=Array.getElem?_eq_some_iff.1 h;unfold running;rw[Array.toList_setIfInBounds];have key:∀(l:List Goroutine) (i:Nat) (h:i<l.length),l[i].status=.running->(l.set i g').countP (fun g=>g.status== .running)<l.countP (fun g=>g.status== .running):=by
  intro l
  induction l with
  |nil=>intro i h;simp at h
  |cons a l ih=>
   intro i h hs;cases i with
   |zero=>
    simp at hs;have:(g'.status==GoStatus.running)=false:=by simpa using h2
    simp[hs,this]
   |succ i=>
    simp only[List.set_cons_succ,List.countP_cons];have:=ih i (by simpa using h) (by simpa using hs);omega
 exact key gs.toList i (by simpa using hlt) (by simpa using h1)
theorem MI.step(ok:C.Ok){μ:Rk Γ×List (Rk Γ)×Nat}{m:Machine}{t:Trace}(h:MI C μ m t):
  (∃o w ops,stepT C.P m=(.ended o w,ops)/\Good C.P C.Post m o w (t++ops))\/∃m' ops μ',stepT C.P m=(.next m',ops)/\MLt μ' μ/\MI C μ' m' (t++ops):=by
 obtain⟨r0,rs,gs,w,sl,t,γ,hn,hl,hi,hg⟩:=h;have aw:∀g∈gs,awake g:=fun g hgm=>by
  obtain⟨i,hi'⟩:=Array.mem_iff_getElem?.1 hgm;exact(hg i g hi').awake
 have some1:∃(i:Nat) (g:Goroutine),gs[i]?=some g/\g.status=.running:=by
  apply Classical.byContradiction;intro hno;refine ok.AU _ hi fun i hlt=>?_
  rw[<-hn]at hlt;rcases hg i gs[i] (Array.getElem?_eq_getElem hlt)with⟨h1,_⟩|⟨h,h1,h2,h3,h4,_⟩|⟨h1,h2,h3⟩
  ·exact absurd ⟨i,gs[i],Array.getElem?_eq_getElem hlt,h1⟩ hno
  ·exact .inl h4
  ·exact .inr ⟨h2,h3⟩
 obtain⟨i,g,d,sl',hgi,hs,hstep⟩:=crowd_pick (P:=C.P) (w:=w) (sl:=sl) aw some1;have hi₁:C.Inv ⟨w.at d,t,γ⟩:=ok.TK ⟨w,t,γ⟩ d hi;have hn₁:gs.size=C.num ⟨w.at d,t,γ⟩:=hn.trans (ok.TJ ⟨w,t,γ⟩ d).symm;have hg₁:∀j h,gs[j]?=some h->GI C j (fD r0 rs j) h ⟨w.at d,t,γ⟩:=fun j h hj=>(hg j h hj).rely ok (ok.TI j ⟨w,t,γ⟩ d) (ok.Hq j ⟨w,t,γ⟩ d)
 have hlt:i<gs.size:=(Array.getElem?_eq_some_iff.1 hgi).1;have hT:TA C i (fD r0 rs i) g ⟨w.at d,t,γ⟩:=by
  rcases hg₁ i g hgi with⟨_,h2⟩|⟨h,h1,h2,h3,_⟩|⟨h1,_⟩
  ·exact h2
  ·subst h3;cases hs
  ·rw[hs]at h1;cases h1
 obtain⟨hlv,hk⟩:=hT.node ok hi₁;unfold iI at hk;have Ls:∀r',wH r' (fD r0 rs i)->∃r0' rs',rs'.length=rs.length/\fD r0' rs' i=r'/\(∀j,j≠i->fD r0' rs' j=fD r0 rs j)/\∀k k',MLt (r0',rs',k) (r0,rs,k'):=by
  intro r' hr';by_cases h0:i=0
  ·subst h0;exact⟨r',rs,rfl,by simp[fD],fun j hj=>KW _ _ _ _ hj,fun k k'=>.left _ _ (by simpa [fD]using hr')⟩
  ·have hil:i-1<rs.length:=by omega
   refine⟨r0,rs.set (i-1) r',by simp,KX h0 hil,fun j hj=>Ph h0 hj,fun k k'=>.right _ (.left _ _ ⟨i-1,rs[i-1],r',by simp[hil],?_,rfl⟩)⟩
   simpa [fD,h0,List.getD_eq_getElem?_getD,hil]using hr'
 cases hsg:stepG C.P (i==0) g (w.at d)with
 |go g' w' es=>
  rw[hsg]at hk;simp only at hk;rcases hk with⟨rfl,hoff,rfl,rfl,hwt⟩|⟨γ',hi',hnum,hrel,hwk,hend⟩
  ·
   refine .inr ⟨_,_,(r0,rs,running (gs.setIfInBounds i {g with status:=.blocked})),hstep.trans (runT_crowd_go hgi hsg),.right _ (.right _ (KN hgi hs (by simp))),?_⟩;have e:gs.map (woken C.P g {g with status:=.blocked} (w.at d))=gs:=by
    have:woken C.P g {g with status:=.blocked} (w.at d)=id:=by funext o;simp[woken]
    rw[this,Array.map_id]
   rw[e,ofEvents_none,Array.append_empty];refine .mk r0 rs _ _ _ _ γ (by simpa using hn₁) (by simpa using hl) hi₁ fun j h hj=>?_
   rw[Array.getElem?_setIfInBounds]at hj;split at hj
   ·rename_i hij;subst hij;simp at hj;subst hj;exact .inr (.inl ⟨g,hs,hoff,rfl,hwt,hT⟩)
   ·exact hg₁ j h hj
  ·have hb:g'.status=.running\/g'.status=.finished:=hend.imp (·.1) (·.1);have others:∀(r0':Rk Γ) (rs':List (Rk Γ)),(∀j,j≠i->fD r0' rs' j=fD r0 rs j)->∀j h,j≠i->(gs.map (woken C.P g g' w'))[j]?=some h->GI C j (fD r0' rs' j) h ⟨w',t++MemOp.ofEvents i g.frame.fn g.frame.place es,γ'⟩:=by
    intro r0' rs' hrk j h hj hjh;rw[Array.getElem?_map]at hjh;cases ho:gs[j]? with
    |none=>rw[ho]at hjh;cases hjh
    |some o=>
     rw[ho]at hjh;simp only[Option.map_some,Option.some.injEq]at hjh;subst hjh;rw[hrk j hj];exact(hg₁ j o ho).woken ok (hrel j hj) hb (hwk.imp id fun x=>x j hj)
   rcases hend with⟨hrun,r',hlt',hT'⟩|⟨hfin,hne,be8⟩
   ·obtain⟨r0',rs',e1,e2,e3,e4⟩:=Ls r' hlt';refine .inr ⟨_,_,(r0',rs',running ((gs.map (woken C.P g g' w')).setIfInBounds i g')),hstep.trans (runT_crowd_go hgi hsg),e4 _ _,?_⟩;refine .mk r0' rs' _ _ _ _ γ' (by simp only[Array.size_setIfInBounds,Array.size_map];rw[hnum];exact hn₁) (by simpa [e1]using hl) hi' fun j h hj=>?_
    rw[Array.getElem?_setIfInBounds]at hj;split at hj
    ·rename_i hij;subst hij;simp only[Array.size_map,hlt,if_true,Option.some.injEq]at hj;subst hj;rw[e2];exact .inl ⟨hrun,hT'⟩
    ·rename_i hij;exact others r0' rs' e3 j h (Ne.symm hij) hj
   ·have hr0:wH (fD r0 rs i) (fD r0 rs i)\/True:=.inr trivial;have hex:∃r',wH r' (fD r0 rs i):=by
     unfold TA at hT;rw[if_neg hne]at hT;cases hr:fD r0 rs i with
     |leaf=>rw[hr]at hT;exact hT.elim
     |mk f=>exact⟨f g ⟨w,t,γ⟩,f,g,⟨w,t,γ⟩,rfl,rfl⟩
    obtain⟨r',hlt'⟩:=hex;obtain⟨r0',rs',e1,e2,e3,e4⟩:=Ls r' hlt';refine .inr ⟨_,_,(r0',rs',running ((gs.map (woken C.P g g' w')).setIfInBounds i g')),hstep.trans (runT_crowd_go hgi hsg),e4 _ _,?_⟩;refine .mk r0' rs' _ _ _ _ γ' (by simp only[Array.size_setIfInBounds,Array.size_map];rw[hnum];exact hn₁) (by simpa [e1]using hl) hi' fun j h hj=>?_
    rw[Array.getElem?_setIfInBounds]at hj;split at hj
    ·rename_i hij;subst hij;simp[hlt]at hj;subst hj;exact .inr (.inr ⟨hfin,hne,be8⟩)
    ·rename_i hij;exact others r0' rs' e3 j h (Ne.symm hij) hj
 |spawn g' child w' es=>
  rw[hsg]at hk;simp only at hk;obtain⟨γ',hi',hnum,hrel,hwt,hrun,⟨r',hlt',hT'⟩,hi0,hcr,-,rc,hTc⟩:=hk;subst hi0;rw[<-hn₁]at hi' hnum hrel hwt hT' hTc;refine .inr ⟨_,_,(r',rs++[rc],running ((gs.setIfInBounds 0 g').push child)),hstep.trans (runT_crowd_spawn hgi hsg),.left _ _ (by simpa [fD]using hlt'),?_⟩;refine .mk r' (rs++[rc]) _ _ _ _ γ' ?_ ?_ hi' fun j h hj=>?_
  ·simp only[Array.size_push,Array.size_setIfInBounds];rw[hnum]
  ·simp only[Array.size_push,Array.size_setIfInBounds,List.length_append,List.length_singleton];omega
  ·rw[Array.getElem?_push]at hj;simp only[Array.size_setIfInBounds]at hj;split at hj
   ·rename_i hjs;cases hj;subst hjs;refine .inl ⟨hcr,?_⟩;have hne:gs.size≠0:=by omega
    unfold TA;rw[if_neg hne];have:fD r' (rs++[rc]) gs.size=rc:=by
     unfold fD;rw[if_neg hne,List.getD_eq_getElem?_getD,List.getElem?_append_right (by omega)];have:gs.size-1-rs.length=0:=by omega
     simp[this]
    rw[this];exact hTc
   ·rename_i hjs;rw[Array.getElem?_setIfInBounds]at hj;split at hj
    ·rename_i h0;subst h0;simp at hj;subst hj;exact .inl ⟨hrun,by simpa [fD]using hT'⟩
    ·rename_i h0;have hjlt:j<gs.size:=(Array.getElem?_eq_some_iff.1 hj).1;have:fD r' (rs++[rc]) j=fD r0 rs j:=by
      unfold fD;rw[if_neg (Ne.symm h0),if_neg (Ne.symm h0),List.getD_eq_getElem?_getD,List.getD_eq_getElem?_getD,List.getElem?_append_left (by omega)]
     rw[this];exact(hg₁ j h hj).rely ok (hrel j (Ne.symm h0) hjlt) (hwt j (Ne.symm h0))
 |ended o w' es=>
  rw[hsg]at hk;simp only at hk;obtain⟨hi0,⟨v,rfl,hp⟩,hrace,hho,hall⟩:=hk;subst hi0;have hq:∀j h,gs[j]?=some h->j≠0->∃q,QuitsD C.P q (Deaf t j) h:=by
   intro j h hj hne;have hjlt:j<gs.size:=(Array.getElem?_eq_some_iff.1 hj).1;have hlj:C.Lv j ⟨w.at d,t,γ⟩:=hall j (by omega) (by rw[<-hn₁];exact hjlt);rcases hg₁ j h hj with⟨h1,h2⟩|⟨h',h1,h2,h3,h4,h5⟩|⟨h1,h2,h3⟩
   ·exact(h2.node ok hi₁).1 hlj
   ·exact(ok.SQ _ _ h4 hlj).elim
   ·exact⟨0,h1,ok.Ny _ _ hi₁ (by rw[<-hn₁];exact hjlt) h3⟩
  have hrun:runT C.P (crowd gs (w.at d) sl') 0=(.ended (.done v) w',MemOp.ofEvents 0 g.frame.fn g.frame.place es):=by
   obtain⟨hlt,rfl⟩:=Array.getElem?_eq_some_iff.1 hgi;have hsw:=swapAt_of_lt hlt {(default:Goroutine)with status:=.finished};have bz4:stepG C.P (0==0) gs[0] (w.at d)=.ended (.done v) w' es:=hsg;unfold runT crowd;simp only[hsw,bz4,GStep.es]
  refine .inl ⟨_,_,_,hstep.trans hrun,v,rfl,hp,hrace,hho,⟨fun h hh=>?_,rfl⟩,fun j h hj hne=>?_⟩
  ·obtain⟨k,hk⟩:=List.mem_iff_getElem?.1 hh;rw[List.getElem?_drop]at hk;obtain⟨q,hq'⟩:=hq (1+k) h (by simpa [crowd]using hk) (by omega);exact⟨q,hq'.leaves⟩
  ·obtain⟨q,hq'⟩:=hq j h hj hne;refine⟨q,?_⟩;have e:(t++MemOp.ofEvents 0 g.frame.fn g.frame.place es).deaf j (t++MemOp.ofEvents 0 g.frame.fn g.frame.place es).size=Deaf t j:=by
    show Deaf (t++MemOp.ofEvents 0 g.frame.fn g.frame.place es) j=Deaf t j;refine Deaf_other t hne.symm _ (fun op ho=>?_);rw[ofEvents_eq]at ho;obtain⟨e,_,rfl⟩:=Array.mem_map.1 ho;rfl
   rw[e];exact hq'.hears _
 |_=>rw[hsg]at hk;exact hk.elim
theorem MI.runs(ok:C.Ok){μ:Rk Γ×List (Rk Γ)×Nat}{m:Machine}{t:Trace}(h:MI C μ m t):
  ∃N last o w' t',runNT C.P (N+1) m t=(.ended o w',t')/\runN C.P N m=.next last/\Go.step C.P last=.ended o w'/\Good C.P C.Post last o w' t':=
 run_of_inv MLt.wf (MI C) (fun m o w t=>Good C.P C.Post m o w t) (fun _ _ _ h=>h.step ok) μ m t h
end
end Cc
namespace Cc
open Go.Conc Go.ConcN
def fE:Loc->Option Nat
 |.cell a=>some a.block
 |.obj r=>some r
 |_=>none
structure QC(size:Nat)(ex rd sh:Nat->Loc->Prop):Prop where
 ee:∀g g' l,ex g l->ex g' l->g=g'
 er:∀g g' l,ex g l->¬rd g' l
 es:∀g g' l,ex g l->¬sh g' l
 rs:∀g g' l,rd g l->¬sh g' l
 low:∀g l,ex g l->∀b,fE l=some b->b<size
 zf:∀g l,rd g l->∀b,fE l=some b->b<size
 slow:∀g l,sh g l->∀b,fE l=some b->b<size
 mem:∀g l,ex g l\/rd g l\/sh g l->l.isMemory=true
structure Ie(t:Trace)(num size:Nat)(ex rd sh:Nat->Loc->Prop):Prop where
 nr:∀said,¬Race said t
 Ic:QC size ex rd sh
 ex:∀g l,ex g l->Perm t g l
 rd:∀g l,rd g l->PermW t g l
 sh:∀g l,sh g l->∀i a,touchAt t i=some a->a.loc=l->(a.kind=.plain->Knows t g i)/\(a.kind=.said->t.g? i=some 0)
 low:∀i a,touchAt t i=some a->∀b,fE a.loc=some b->b<size\/∀g,g<num->Knows t g i
 gs:∀(i:Nat) (op:MemOp),t[i]?=some op->op.g<num
 norel:∀(i:Nat) (op:MemOp),t[i]?=some op->∀a,op.act=.mark (.release a)->∀k,k<=i->t.g? k=some 0
def May(size:Nat)(ex rd sh:Nat->Loc->Prop)(g:Nat)(x:Touch):Prop:=
 x.loc.isMemory=false\/ex g x.loc\/(rd g x.loc/\x.write=false)\/(sh g x.loc/\(x.kind=.atomic\/(x.kind=.said/\g=0)))\/∃b,fE x.loc=some b/\size<=b
def Fa(ex:Nat->Loc->Prop)(g size size':Nat):Nat->Loc->Prop:=fun g' l=>ex g' l\/(g'=g/\∃b,fE l=some b/\size<=b/\b<size')
theorem QC.grow{size size':Nat}{ex rd sh:Nat->Loc->Prop}(h:QC size ex rd sh)(hs:size<=size')(g:Nat):QC size' (Fa ex g size size') rd sh:=by
 refine⟨fun g1 g2 l h1 h2=>?_,fun g1 g2 l h1 h2=>?_,fun g1 g2 l h1 h2=>?_,h.rs,fun g1 l h1 b hb=>?_,fun g1 l h1 b hb=>Nat.lt_of_lt_of_le (h.zf g1 l h1 b hb) hs,fun g1 l h1 b hb=>Nat.lt_of_lt_of_le (h.slow g1 l h1 b hb) hs,fun g1 l h1=>?_⟩
 ·rcases h1 with h1|⟨rfl,b,hb,h3,h4⟩<;>rcases h2 with h2|⟨rfl,b',hb',h3',h4'⟩
  ·exact h.ee _ _ _ h1 h2
  ·have:=h.low _ _ h1 _ hb';omega
  ·have:=h.low _ _ h2 _ hb;omega
  ·rfl
 ·rcases h1 with h1|⟨rfl,b,hb,h3,h4⟩
  ·exact h.er _ _ _ h1 h2
  ·have:=h.zf _ _ h2 _ hb;omega
 ·rcases h1 with h1|⟨rfl,b,hb,h3,h4⟩
  ·exact h.es _ _ _ h1 h2
  ·have:=h.slow _ _ h2 _ hb;omega
 ·rcases h1 with h1|⟨rfl,b',hb',h3,h4⟩
  ·exact Nat.lt_of_lt_of_le (h.low g1 l h1 b hb) hs
  ·rw[hb]at hb';cases hb';exact h4
 ·rcases h1 with(h1|⟨_,b,hb,_⟩)|h1
  ·exact h.mem g1 l (.inl h1)
  ·cases l<;>first|rfl|cases hb
  ·exact h.mem g1 l (.inr h1)
section
variable{t u:Trace}{num size size':Nat}{ex rd sh:Nat->Loc->Prop}
theorem eu{i:Nat}{a:Touch}(h:touchAt (t++u) i=some a):(i<t.size/\touchAt t i=some a)\/(t.size<=i/\∃op∈u,(t++u)[i]?=some op/\op.act.touch?=some a):=by
 obtain⟨x,hx,hxa⟩:=touch_of h;rcases getElem?_append_cases hx with⟨hi,hx'⟩|⟨hi,hxu⟩
 ·exact .inl ⟨hi,by rw[touchAt_of hx'];exact hxa⟩
 ·exact .inr ⟨hi,x,hxu,hx,hxa⟩
theorem Ie.step(h:Ie t num size ex rd sh)(hs:size<=size'){g:Nat}(hg:g<num)(hu:∀op∈u,op.g=g)(hok:∀op∈u,∀x,op.act.touch?=some x->May size ex rd sh g x)
  (hl:∀op∈u,∀x,op.act.touch?=some x->∀b,fE x.loc=some b->b<size')(hn:∀op∈u,∀a,op.act≠ .mark (.release a)):Ie (t++u) num size' (Fa ex g size size') rd sh:=by
 have A:=h.Ic;have isM:∀{l:Loc} {b:Nat},fE l=some b->l.isMemory=true:=fun{l b} hb=>by cases l<;>first|rfl|cases hb
 refine⟨fun said=>?_,A.grow hs g,fun g' l hl'=>?_,fun g' l hl'=>?_,fun g' l hl' i a ha e=>?_,fun i a ha b hb=>?_,fun i op hi=>?_,fun i op hi a=>?_⟩
 ·refine noRace_append (h.nr said) hu fun i a ha op hop b hb hc=>?_
  obtain⟨hloc,hmem,hw,hk⟩:=hc;rcases hok op hop b hb with h1|h1|⟨h1,h2⟩|⟨h1,h2⟩|⟨c,h1,h2⟩
  ·rw[<-hloc,hmem]at h1;cases h1
  ·exact h.ex g _ h1 i a ha hloc
  ·exact h.rd g _ h1 i a ha hloc (hw.resolve_right (by simp[h2]))
  ·obtain⟨s1,s2⟩:=h.sh g _ h1 i a ha hloc;rcases h2 with h2|⟨h2,rfl⟩
   ·rcases hk with hk|hk|⟨_,_,hk⟩
    ·exact s1 hk
    ·rw[h2]at hk;cases hk
    ·rw[h2]at hk;cases hk
   ·rcases hk with hk|hk|⟨_,hk,_⟩
    ·exact s1 hk
    ·rw[h2]at hk;cases hk
    ·obtain⟨x,hx,hxa⟩:=touch_of ha;have:=s2 hk;simp only[Trace.g?,hx,Option.map_some,Option.some.injEq]at this;have k:=knows_own hx
     rwa [this]at k
  ·rcases h.low i a ha c (hloc ▸ h1)with h3|h3
   ·omega
   ·exact h3 g hg
 ·rcases hl' with hl'|⟨rfl,c,hc,h3,h4⟩
  ·refine(h.ex g' l hl').app fun op hop b hb e=>?_
   rw[hu op hop];rcases hok op hop b hb with h1|h1|⟨h1,h2⟩|⟨h1,h2⟩|⟨c,h1,h2⟩
   ·have:=A.mem g' l (.inl hl');rw[<-e,h1]at this;cases this
   ·exact A.ee _ _ _ (e ▸ h1) hl'
   ·exact absurd (e ▸ h1) (A.er _ _ _ hl')
   ·exact absurd (e ▸ h1) (A.es _ _ _ hl')
   ·have:=A.low _ _ hl' c (e ▸ h1);omega
  ·intro i a ha e;rcases eu ha with⟨_,ha'⟩|⟨_,op,hop,hx,hxa⟩
   ·rcases h.low i a ha' c (e ▸ hc)with h5|h5
    ·omega
    ·exact(h5 _ hg).app u
   ·have:=knows_own hx
    rwa [hu op hop]at this
 ·refine(h.rd g' l hl').app fun op hop b hb e hw=>?_
  rw[hu op hop];rcases hok op hop b hb with h1|h1|⟨h1,h2⟩|⟨h1,h2⟩|⟨c,h1,h2⟩
  ·have:=A.mem g' l (.inr (.inl hl'));rw[<-e,h1]at this;cases this
  ·exact absurd hl' (A.er _ _ _ (e ▸ h1))
  ·rw[h2]at hw;cases hw
  ·exact absurd (e ▸ h1) (A.rs _ _ _ hl')
  ·have:=A.zf _ _ hl' c (e ▸ h1);omega
 ·rcases eu ha with⟨hlt,ha'⟩|⟨_,op,hop,hx,hxa⟩
  ·obtain⟨s1,s2⟩:=h.sh g' l hl' i a ha' e;exact⟨fun hk=>(s1 hk).app u,fun hk=>by
    have:=s2 hk;obtain⟨x,hx,_⟩:=touch_of ha';simp only[Trace.g?,getElem?_append_old hlt]at this ⊢;exact this⟩
  ·rcases hok op hop a hxa with h1|h1|⟨h1,h2⟩|⟨h1,h2⟩|⟨c,h1,h2⟩
   ·have:=A.mem g' l (.inr (.inr hl'));rw[<-e,h1]at this;cases this
   ·exact absurd hl' (e ▸ A.es _ _ _ h1)
   ·exact absurd hl' (e ▸ A.rs _ _ _ h1)
   ·rcases h2 with h2|⟨h2,rfl⟩
    ·exact⟨fun hk=>(by rw[h2]at hk;cases hk),fun hk=>(by rw[h2]at hk;cases hk)⟩
    ·refine⟨fun hk=>(by rw[h2]at hk;cases hk),fun _=>?_⟩;simp only[Trace.g?,hx,Option.map_some,hu op hop]
   ·have:=A.slow _ _ hl' c (e ▸ h1);omega
 ·rcases eu ha with⟨_,ha'⟩|⟨_,op,hop,hx,hxa⟩
  ·exact(h.low i a ha' b hb).imp (fun h=>Nat.lt_of_lt_of_le h hs) fun h g hg=>(h g hg).app u
  ·exact .inl (hl op hop a hxa b hb)
 ·rcases getElem?_append_cases hi with⟨_,hi'⟩|⟨_,hiu⟩
  ·exact h.gs i op hi'
  ·rw[hu op hiu];exact hg
 ·rcases getElem?_append_cases hi with⟨_,hi'⟩|⟨_,hiu⟩
  ·intro e k hk;have:=h.norel i op hi' a e k hk;have hlt:k<t.size:=Nat.lt_of_le_of_lt hk (lt_size_of_getElem? hi');simp only[Trace.g?,getElem?_append_old hlt]at this ⊢;exact this
  ·exact fun e=>absurd e (hn op hiu a)
theorem Ie.sub(h:Ie t num size ex rd sh){ex' rd' sh':Nat->Loc->Prop}(A:QC size ex' rd' sh')(he:∀g l,ex' g l->ex g l)(hr:∀g l,rd' g l->rd g l\/ex g l)(hs:∀g l,sh' g l->sh g l\/ex g l/\∀i a,touchAt t i=some a->a.loc=l->a.kind=.said->t.g? i=some 0):Ie t num size ex' rd' sh':=by
 refine⟨h.nr,A,fun g l hl=>h.ex g l (he g l hl),fun g l hl=>?_,fun g l hl i a ha e=>?_,h.low,h.gs,h.norel⟩
 ·rcases hr g l hl with h1|h1
  ·exact h.rd g l h1
  ·exact PermW.of (h.ex g l h1)
 ·rcases hs g l hl with h1|⟨h1,h2⟩
  ·exact h.sh g l h1 i a ha e
  ·exact⟨fun _=>h.ex g l h1 i a ha e,fun hk=>h2 i a ha e hk⟩
theorem Ie.fork(h:Ie t num size ex rd sh)(hpos:0<num){x y:MemOp}(hx:x.g=0/\x.act=.go num)(hy:y.g=num/\y.act=.start)(h0:Deaf t 0=0){ex' rd' sh':Nat->Loc->Prop}(A:QC size ex' rd' sh')
  (he:∀g l,ex' g l->if g=num then ex 0 l else ex g l)(hr:∀g l,rd' g l->if g=num then rd 0 l\/ex 0 l else rd g l\/ex g l)(hs:∀g l,sh' g l->if g=num then sh 0 l else sh g l):
  Ie (t++#[x,y]) (num+1) size ex' rd' sh':=by
 have hk:Deaf t num=0:=Deaf_absent fun i op hi e=>by have:=h.gs i op hi;omega
 have hnt:∀op∈#[x,y],∀b,op.act.touch?=some b->False:=by
  intro op hop b hb;simp only[List.mem_toArray,List.mem_cons,List.not_mem_nil,or_false]at hop;rcases hop with rfl|rfl
  ·rw[hx.2]at hb;cases hb
  ·rw[hy.2]at hb;cases hb
 have old:∀{i:Nat} {a:Touch},touchAt (t++#[x,y]) i=some a->i<t.size/\touchAt t i=some a:=by
  intro i a ha;rcases eu ha with h1|⟨_,op,hop,_,hxa⟩
  ·exact h1
  ·exact(hnt op hop a hxa).elim
 have kn:∀{i:Nat},Knows t 0 i->Knows (t++#[x,y]) num i:=fun hi=>fork_knows hx hy h0 hk hi
 refine⟨fun said=>?_,A,fun g l hl i a ha e=>?_,fun g l hl i a ha e hw=>?_,fun g l hl i a ha e=>?_,fun i a ha b hb=>(h.low i a (old ha).2 b hb).imp id fun k g hg=>(Nat.lt_succ_iff_lt_or_eq.1 hg).elim (fun hg=>(k g hg).app _) fun e=>e ▸ kn (k 0 hpos),fun i op hi=>?_,fun i op hi a=>?_⟩
 ·have e:t++#[x,y]=(t++#[x])++#[y]:=by apply Array.ext';simp
  rw[e];refine noRace_append (g:=num) (noRace_append (g:=0) (h.nr said) (fun op hop=>by simp at hop;rw[hop];exact hx.1) (fun i a _ op hop b hb _=>(hnt op (by simp at hop ⊢;exact .inl hop) b hb).elim))
   (fun op hop=>by simp at hop;rw[hop];exact hy.1) (fun i a _ op hop b hb _=>(hnt op (by simp at hop ⊢;exact .inr hop) b hb).elim)
 ·have:=he g l hl;split at this
  ·rename_i e';subst e';exact kn (h.ex 0 l this i a (old ha).2 e)
  ·exact(h.ex g l this i a (old ha).2 e).app _
 ·have:=hr g l hl;split at this
  ·rename_i e';subst e';rcases this with h1|h1
   ·exact kn (h.rd 0 l h1 i a (old ha).2 e hw)
   ·exact kn (h.ex 0 l h1 i a (old ha).2 e)
  ·rcases this with h1|h1
   ·exact(h.rd g l h1 i a (old ha).2 e hw).app _
   ·exact(h.ex g l h1 i a (old ha).2 e).app _
 ·have:=hs g l hl;have gq:∀{k:Nat},t.g? i=some k->(t++#[x,y]).g? i=some k:=fun h'=>by simp only[Trace.g?,getElem?_append_old (old ha).1]at h' ⊢;exact h'
  split at this
  ·rename_i e';subst e';obtain⟨s1,s2⟩:=h.sh 0 l this i a (old ha).2 e;exact⟨fun hk=>kn (s1 hk),fun hk=>gq (s2 hk)⟩
  ·obtain⟨s1,s2⟩:=h.sh g l this i a (old ha).2 e;exact⟨fun hk=>(s1 hk).app _,fun hk=>gq (s2 hk)⟩
 ·rcases getElem?_append_cases hi with⟨_,hi'⟩|⟨_,hiu⟩
  ·have:=h.gs i op hi';omega
  ·simp only[List.mem_toArray,List.mem_cons,List.not_mem_nil,or_false]at hiu;rcases hiu with rfl|rfl
   ·rw[hx.1];omega
   ·rw[hy.1];omega
 ·rcases getElem?_append_cases hi with⟨_,hi'⟩|⟨_,hiu⟩
  ·intro e k hk;have:=h.norel i op hi' a e k hk;have hlt:k<t.size:=Nat.lt_of_le_of_lt hk (lt_size_of_getElem? hi');simp only[Trace.g?,getElem?_append_old hlt]at this ⊢;exact this
  ·simp only[List.mem_toArray,List.mem_cons,List.not_mem_nil,or_false]at hiu;rcases hiu with rfl|rfl
   ·rw[hx.2];simp
   ·rw[hy.2];simp
end
end Cc
namespace Cc
section
inductive JL|chk|work|dn
 deriving DecidableEq
inductive MX
 |fresh|cont (aw:Bool)|queued|woken (h:Bool)|own (s:JL)|ul (old:Int)|rel|unl|out
 deriving DecidableEq
def MX.iE:MX->Bool|.own _=>true|_=>false
def MX.iO:MX->Bool|.rel=>true|_=>false
def MX.iW:MX->Bool|.unl=>true|_=>false
def MX.wQ:MX->Bool|.queued=>true|_=>false
def MX.lX:MX->Bool|.woken false=>true|_=>false
def MX.jg:MX->Bool|.woken true=>true|_=>false
def MX.lq:MX->Bool|.cont true=>true|_=>false
def cnt(p:MX->Bool)(m:Nat->MX)(a n:Nat):Nat:=(List.range n).countP fun k=>p (m (a+k))
def upd{α:Type}(m:Nat->α)(j:Nat)(x:α):Nat->α:=fun i=>if i=j then x else m i
theorem dJ{α:Type}(m:Nat->α)(j:Nat)(x:α):upd m j x j=x:=by simp[upd]
theorem upd_ne{α:Type}(m:Nat->α){i j:Nat}(x:α)(h:i≠j):upd m j x i=m i:=by simp[upd,h]
theorem Ob(p:MX->Bool)(m:Nat->MX){a j:Nat}(n:Nat)(x:MX)(h:j<a\/a+n<=j):cnt p (upd m j x) a n=cnt p m a n:=by
 unfold cnt;refine List.countP_congr fun k hk=>?_
 rw[upd_ne];have:=List.mem_range.1 hk;omega
theorem oD(p:MX->Bool)(m:Nat->MX){a j:Nat}(n:Nat)(x:MX)(h:a<=j)(h2:j<a+n):cnt p (upd m j x) a n+(p (m j)).toNat=cnt p m a n+(p x).toNat:=by
 induction n with
 |zero=>omega
 |succ n ih=>
  have s:∀m,cnt p m a (n+1)=cnt p m a n+(p (m (a+n))).toNat:=fun m=>by
   unfold cnt;rw[List.range_succ,List.countP_append];cases hp:p (m (a+n))<;>simp[hp]
  rw[s,s];by_cases e:j=a+n
  ·subst e;rw[Ob p m n x (.inr (Nat.le_refl _)),dJ];omega
  ·have:=ih (by omega);rw[upd_ne m x (by omega:a+n≠j)];omega
theorem zX{p:MX->Bool}{m:Nat->MX}{a j n:Nat}(h:a<=j)(h2:j<a+n)(hp:p (m j)=true):1<=cnt p m a n:=by
 unfold cnt;refine List.countP_pos_iff.2 ⟨j-a,List.mem_range.2 (by omega),?_⟩;rw[show a+(j-a)=j by omega];exact hp
def enc(L W S N:Nat):Int:=((L+2*W+4*S+8*N:Nat):Int)
structure jC(m:Nat->MX)(a n:Nat)(L W S N tn th:Nat):Prop where
 own:L=cnt MX.iE m a n
 wok:W=cnt MX.iO m a n+tn+cnt MX.lX m a n+cnt MX.lq m a n
 que:N+cnt MX.iO m a n+tn=cnt MX.wQ m a n+cnt MX.jg m a n
 bd:L<=1/\W<=1/\S<=1
 st:(S=1/\W=0/\L+cnt MX.iW m a n+th+cnt MX.jg m a n=1/\1<=N)\/(S=0/\th=0/\cnt MX.iW m a n=0/\cnt MX.jg m a n=0)
 wit:L=0->W=0->S=0->1<=N->∃j,a<=j/\j<a+n/\m j=.ul (8*N:Nat)
def kM:MX->Nat
 |.fresh=>9
 |.cont false=>8
 |.cont true=>7
 |.queued=>6
 |.woken _=>8
 |.own _=>6
 |.ul _=>5
 |.rel=>4
 |.unl=>4
 |.out=>0
def VU(m:Nat->MX)(a n tok:Nat):Nat:=((List.range n).map fun k=>kM (m (a+k))).sum+3*tok
theorem aa9(m:Nat->MX){a j:Nat}(n:Nat)(x:MX):(j<a\/a+n<=j->((List.range n).map fun k=>kM (upd m j x (a+k))).sum=((List.range n).map fun k=>kM (m (a+k))).sum)/\
  (a<=j->j<a+n->((List.range n).map fun k=>kM (upd m j x (a+k))).sum+kM (m j)=((List.range n).map fun k=>kM (m (a+k))).sum+kM x):=by
 induction n with
 |zero=>exact⟨fun _=>rfl,fun _ _=>by omega⟩
 |succ n ih=>
  simp only[List.range_succ,List.map_append,List.map_cons,List.map_nil,List.sum_append,List.sum_cons,List.sum_nil];refine⟨fun h=>?_,fun h h2=>?_⟩
  ·rw[ih.1 (by omega),upd_ne m x (by omega:a+n≠j)]
  ·by_cases e:j=a+n
   ·subst e;rw[ih.1 (.inr (Nat.le_refl _)),dJ];omega
   ·have:=ih.2 h (by omega);rw[upd_ne m x (by omega:a+n≠j)];omega
theorem IQ(m:Nat->MX){a j:Nat}(n:Nat)(x:MX)(tok aX7:Nat)(h:a<=j)(h2:j<a+n):VU (upd m j x) a n aX7+kM (m j)+3*tok=VU m a n tok+kM x+3*aX7:=by
 unfold VU;have:=(aa9 m n x).2 h h2;omega
section
variable{m:Nat->MX}{a n j:Nat}{L W S N tn th:Nat}
theorem counts(m:Nat->MX)(x:MX)(h:a<=j)(h2:j<a+n):
  (cnt MX.iE (upd m j x) a n+(MX.iE (m j)).toNat=cnt MX.iE m a n+(MX.iE x).toNat)/\(cnt MX.iO (upd m j x) a n+(MX.iO (m j)).toNat=cnt MX.iO m a n+(MX.iO x).toNat)/\
  (cnt MX.iW (upd m j x) a n+(MX.iW (m j)).toNat=cnt MX.iW m a n+(MX.iW x).toNat)/\(cnt MX.wQ (upd m j x) a n+(MX.wQ (m j)).toNat=cnt MX.wQ m a n+(MX.wQ x).toNat)/\
  (cnt MX.lX (upd m j x) a n+(MX.lX (m j)).toNat=cnt MX.lX m a n+(MX.lX x).toNat)/\(cnt MX.jg (upd m j x) a n+(MX.jg (m j)).toNat=cnt MX.jg m a n+(MX.jg x).toNat)/\
  (cnt MX.lq (upd m j x) a n+(MX.lq (m j)).toNat=cnt MX.lq m a n+(MX.lq x).toNat):=
 ⟨oD _ m n x h h2,oD _ m n x h h2,oD _ m n x h h2,oD _ m n x h h2,oD _ m n x h h2,oD _ m n x h h2,oD _ m n x h h2⟩
theorem jC.move(h:jC m a n L W S N tn th)(hj:a<=j)(hj2:j<a+n){x y:MX}(hm:m j=y){L' W' S' N' tn' th':Nat}
  (k:∀cO cR cU cQ cN cH cT dO dR dU dQ dN dH dT:Nat,dO+y.iE.toNat=cO+x.iE.toNat->dR+y.iO.toNat=cR+x.iO.toNat->dU+y.iW.toNat=cU+x.iW.toNat->dQ+y.wQ.toNat=cQ+x.wQ.toNat->dN+y.lX.toNat=cN+x.lX.toNat->dH+y.jg.toNat=cH+x.jg.toNat->dT+y.lq.toNat=cT+x.lq.toNat->
   L=cO->W=cR+tn+cN+cT->N+cR+tn=cQ+cH->L<=1/\W<=1/\S<=1->((S=1/\W=0/\L+cU+th+cH=1/\1<=N)\/(S=0/\th=0/\cU=0/\cH=0))->
   L'=dO/\W'=dR+tn'+dN+dT/\N'+dR+tn'=dQ+dH/\(L'<=1/\W'<=1/\S'<=1)/\((S'=1/\W'=0/\L'+dU+th'+dH=1/\1<=N')\/(S'=0/\th'=0/\dU=0/\dH=0)))
  (hw:L'=0->W'=0->S'=0->1<=N'->x=.ul (8*N':Nat)\/(L=0/\W=0/\S=0/\N'=N/\y≠ .ul (8*N:Nat))):jC (upd m j x) a n L' W' S' N' tn' th':=by
 obtain⟨c1,c2,c3,c4,c5,c6,c7⟩:=counts m x hj hj2;rw[hm]at c1 c2 c3 c4 c5 c6 c7;obtain⟨h1,h2,h3,h4,h5,h6⟩:=h;obtain⟨k1,k2,k3,k4,k5⟩:=k _ _ _ _ _ _ _ _ _ _ _ _ _ _ c1 c2 c3 c4 c5 c6 c7 h1 h2 h3 h4 h5;refine⟨k1,k2,k3,k4,k5,fun a1 a2 a3 a4=>?_⟩;rcases hw a1 a2 a3 a4 with e|⟨b1,b2,b3,b4,b5⟩
 ·exact⟨j,hj,hj2,by rw[dJ];exact e⟩
 ·obtain⟨i,i1,i2,i3⟩:=h6 b1 b2 b3 (by omega);have hne:i≠j:=fun e=>b5 (by rw[<-hm,<-e];exact i3)
  exact⟨i,i1,i2,by rw[upd_ne m x hne,i3,b4]⟩
variable(h:jC m a n L W S N tn th)(hj:a<=j)(hj2:j<a+n)
include h hj hj2
omit h in
theorem N8(p:MX->Bool)(hp:p (m j)=true):1<=cnt p m a n:=zX hj hj2 hp
theorem jC.JC(hm:m j=.cont true):W=1/\S=0/\tn=0/\th=0:=by
 have p:=N8 (m:=m) hj hj2 MX.lq (by rw[hm];rfl);obtain⟨h1,h2,h3,h4,h5,-⟩:=h;omega
theorem jC.bl7(hm:m j=.woken false):W=1/\S=0:=by
 have p:=N8 (m:=m) hj hj2 MX.lX (by rw[hm];rfl);obtain⟨h1,h2,h3,h4,h5,-⟩:=h;omega
theorem jC.Zf(hm:m j=.woken true):L=0/\W=0/\S=1/\1<=N:=by
 have p:=N8 (m:=m) hj hj2 MX.jg (by rw[hm];rfl);obtain⟨h1,h2,h3,h4,h5,-⟩:=h;omega
theorem jC.bl9{o:JL}(hm:m j=.own o):L=1:=by
 have p:=N8 (m:=m) hj hj2 MX.iE (by rw[hm];rfl);obtain⟨h1,h2,h3,h4,h5,-⟩:=h;omega
theorem jC.bl8(hm:m j=.unl):L=0/\S=1/\th=0/\tn=0:=by
 have p:=N8 (m:=m) hj hj2 MX.iW (by rw[hm];rfl);obtain⟨h1,h2,h3,h4,h5,-⟩:=h;omega
theorem jC.fast(hm:m j=.fresh)(h0:L=0/\W=0/\S=0/\N=0):jC (upd m j (.own .chk)) a n 1 0 0 0 tn th:=by
 refine h.move hj hj2 hm ?_ (fun a1 a2 a3 a4=>by omega);intros;simp only[MX.iE,MX.iO,MX.iW,MX.wQ,MX.lX,MX.jg,MX.lq,Bool.toNat_true,Bool.toNat_false,true_and,and_true,true_or,or_true]at*;omega
theorem jC.slow(hm:m j=.fresh):jC (upd m j (.cont false)) a n L W S N tn th:=by
 refine h.move hj hj2 hm ?_ (fun a1 a2 a3 a4=>.inr ⟨a1,a2,a3,rfl,by simp⟩);intros;simp only[MX.iE,MX.iO,MX.iW,MX.wQ,MX.lX,MX.jg,MX.lq,Bool.toNat_true,Bool.toNat_false,true_and,and_true,true_or,or_true]at*;omega
theorem jC.spin(hm:m j=.cont false)(h0:L=1/\W=0/\S=0):jC (upd m j (.cont true)) a n L 1 S N tn th:=by
 refine h.move hj hj2 hm ?_ (fun a1 a2 a3 a4=>by omega);intros;simp only[MX.iE,MX.iO,MX.iW,MX.wQ,MX.lX,MX.jg,MX.lq,Bool.toNat_true,Bool.toNat_false,true_and,and_true,true_or,or_true]at*;omega
theorem jC.take(aw:Bool)(hm:m j=.cont aw)(h0:L=0/\S=0):jC (upd m j (.own .chk)) a n 1 (W-aw.toNat) S N tn th:=by
 have p:=fun e:aw=true=>N8 (m:=m) hj hj2 MX.lq (by rw[hm,e];rfl)
 refine h.move hj hj2 hm ?_ (fun a1 a2 a3 a4=>by omega);cases aw<;>(intros;simp only[MX.iE,MX.iO,MX.iW,MX.wQ,MX.lX,MX.jg,MX.lq,Bool.toNat_true,Bool.toNat_false,true_and,and_true,true_or,or_true]at*;omega)
theorem jC.queue(aw:Bool)(hm:m j=.cont aw)(h0:L=1\/S=1):jC (upd m j .queued) a n L (W-aw.toNat) S (N+1) tn th:=by
 refine h.move hj hj2 hm ?_ (fun a1 a2 a3 a4=>by omega);cases aw<;>(intros;simp only[MX.iE,MX.iO,MX.iW,MX.wQ,MX.lX,MX.jg,MX.lq,Bool.toNat_true,Bool.toNat_false,true_and,and_true,true_or,or_true]at*;omega)
theorem jC.starve(hm:m j=.cont true)(h0:L=1):jC (upd m j .queued) a n L (W-1) 1 (N+1) tn th:=by
 have p:=N8 (m:=m) hj hj2 MX.lq (by rw[hm];rfl);refine h.move hj hj2 hm ?_ (fun a1 a2 a3 a4=>by omega);intros;simp only[MX.iE,MX.iO,MX.iW,MX.wQ,MX.lX,MX.jg,MX.lq,Bool.toNat_true,Bool.toNat_false,true_and,and_true,true_or,or_true]at*;omega
theorem jC.aX1(hm:m j=.queued)(h0:1<=tn):jC (upd m j (.woken false)) a n L W S N (tn-1) th:=by
 refine h.move hj hj2 hm ?_ (fun a1 a2 a3 a4=>.inr ⟨a1,a2,a3,rfl,by simp⟩);intros;simp only[MX.iE,MX.iO,MX.iW,MX.wQ,MX.lX,MX.jg,MX.lq,Bool.toNat_true,Bool.toNat_false,true_and,and_true,true_or,or_true]at*;omega
theorem jC.aX2(hm:m j=.queued)(h0:1<=th):jC (upd m j (.woken true)) a n L W S N tn (th-1):=by
 refine h.move hj hj2 hm ?_ (fun a1 a2 a3 a4=>.inr ⟨a1,a2,a3,rfl,by simp⟩);intros;simp only[MX.iE,MX.iO,MX.iW,MX.wQ,MX.lX,MX.jg,MX.lq,Bool.toNat_true,Bool.toNat_false,true_and,and_true,true_or,or_true]at*;omega
theorem jC.again(hm:m j=.woken false):jC (upd m j (.cont true)) a n L W S N tn th:=by
 refine h.move hj hj2 hm ?_ (fun a1 a2 a3 a4=>.inr ⟨a1,a2,a3,rfl,by simp⟩);intros;simp only[MX.iE,MX.iO,MX.iW,MX.wQ,MX.lX,MX.jg,MX.lq,Bool.toNat_true,Bool.toNat_false,true_and,and_true,true_or,or_true]at*;omega
theorem jC.handed(hm:m j=.woken true)(S':Nat)(hS:S'=0\/(S'=1/\2<=N)):jC (upd m j (.own .chk)) a n 1 0 S' (N-1) tn th:=by
 have p:=N8 (m:=m) hj hj2 MX.jg (by rw[hm];rfl);refine h.move hj hj2 hm ?_ (fun a1 a2 a3 a4=>by omega);intros;simp only[MX.iE,MX.iO,MX.iW,MX.wQ,MX.lX,MX.jg,MX.lq,Bool.toNat_true,Bool.toNat_false,true_and,and_true,true_or,or_true]at*;omega
theorem jC.owns{o o':JL}(hm:m j=.own o):jC (upd m j (.own o')) a n L W S N tn th:=by
 refine h.move hj hj2 hm ?_ (fun a1 a2 a3 a4=>.inr ⟨a1,a2,a3,rfl,by simp⟩);intros;simp only[MX.iE,MX.iO,MX.iW,MX.wQ,MX.lX,MX.jg,MX.lq,Bool.toNat_true,Bool.toNat_false,true_and,and_true,true_or,or_true]at*;omega
theorem jC.ba6{o:JL}(hm:m j=.own o)(h0:W=0/\S=0/\N=0):jC (upd m j .out) a n 0 W S N tn th:=by
 refine h.move hj hj2 hm ?_ (fun a1 a2 a3 a4=>by omega);intros;simp only[MX.iE,MX.iO,MX.iW,MX.wQ,MX.lX,MX.jg,MX.lq,Bool.toNat_true,Bool.toNat_false,true_and,and_true,true_or,or_true]at*;omega
theorem jC.aG8{o:JL}(hm:m j=.own o)(h0:S=0):jC (upd m j (.ul (2*W+8*N:Nat))) a n 0 W S N tn th:=by
 refine h.move hj hj2 hm ?_ (fun _ a2 _ _=>.inl (by rw[a2];simp));intros;simp only[MX.iE,MX.iO,MX.iW,MX.wQ,MX.lX,MX.jg,MX.lq,Bool.toNat_true,Bool.toNat_false,true_and,and_true,true_or,or_true]at*;omega
theorem jC.aG9{o:JL}(hm:m j=.own o)(h0:S=1):jC (upd m j .unl) a n 0 W S N tn th:=by
 refine h.move hj hj2 hm ?_ (fun a1 a2 a3 a4=>by omega);intros;simp only[MX.iE,MX.iO,MX.iW,MX.wQ,MX.lX,MX.jg,MX.lq,Bool.toNat_true,Bool.toNat_false,true_and,and_true,true_or,or_true]at*;omega
theorem jC.leave{old:Int}(hm:m j=.ul old)(h0:∀N':Nat,1<=N'->old≠(8*N':Nat)):jC (upd m j .out) a n L W S N tn th:=by
 refine h.move hj hj2 hm ?_ (fun a1 a2 a3 a4=>.inr ⟨a1,a2,a3,rfl,fun e=>h0 N a4 (by simpa using e)⟩);intros;simp only[MX.iE,MX.iO,MX.iW,MX.wQ,MX.lX,MX.jg,MX.lq,Bool.toNat_true,Bool.toNat_false,true_and,and_true,true_or,or_true]at*;omega
theorem jC.grab{old:Int}(hm:m j=.ul old)(h0:L=0/\W=0/\S=0/\1<=N):jC (upd m j .rel) a n L 1 S (N-1) tn th:=by
 refine h.move hj hj2 hm ?_ (fun a1 a2 a3 a4=>by omega);intros;simp only[MX.iE,MX.iO,MX.iW,MX.wQ,MX.lX,MX.jg,MX.lq,Bool.toNat_true,Bool.toNat_false,true_and,and_true,true_or,or_true]at*;omega
theorem jC.look{old:Int}(hm:m j=.ul old):jC (upd m j (.ul (enc L W S N))) a n L W S N tn th:=by
 refine h.move hj hj2 hm ?_ (fun a1 a2 a3 a4=>.inl (by subst a1 a2 a3;simp[enc]));intros;simp only[MX.iE,MX.iO,MX.iW,MX.wQ,MX.lX,MX.jg,MX.lq,Bool.toNat_true,Bool.toNat_false,true_and,and_true,true_or,or_true]at*;omega
theorem jC.aA7(hm:m j=.rel):jC (upd m j .out) a n L W S N (tn+1) th:=by
 refine h.move hj hj2 hm ?_ (fun a1 a2 a3 a4=>.inr ⟨a1,a2,a3,rfl,by simp⟩);intros;simp only[MX.iE,MX.iO,MX.iW,MX.wQ,MX.lX,MX.jg,MX.lq,Bool.toNat_true,Bool.toNat_false,true_and,and_true,true_or,or_true]at*;omega
theorem jC.aA8(hm:m j=.unl):jC (upd m j .out) a n L W S N tn (th+1):=by
 have q:=h.bl8 hj hj2 hm;refine h.move hj hj2 hm ?_ (fun a1 a2 a3 a4=>.inr ⟨a1,a2,a3,rfl,by simp⟩);intros;simp only[MX.iE,MX.iO,MX.iW,MX.wQ,MX.lX,MX.jg,MX.lq,Bool.toNat_true,Bool.toNat_false,true_and,and_true,true_or,or_true]at*;omega
end
theorem jC.AU{m:Nat->MX}{a n L W S N:Nat}(h:jC m a n L W S N 0 0)(hall:∀j,a<=j->j<a+n->m j=.queued\/m j=.fresh\/m j=.out){j:Nat}(hj:a<=j)(hj2:j<a+n)(hq:m j=.queued):False:=by
 have z:∀p:MX->Bool,p .queued=false->p .fresh=false->p .out=false->cnt p m a n=0:=fun p p1 p2 p3=>by
  unfold cnt;rw[List.countP_eq_zero];intro k hk;have:=List.mem_range.1 hk;rcases hall (a+k) (by omega) (by omega)with e|e|e<;>rw[e]<;>simp[p1,p2,p3]
 have p:=zX (m:=m) (p:=MX.wQ) hj hj2 (by rw[hq];rfl);obtain⟨h1,h2,h3,h4,h5,h6⟩:=h;rw[z MX.iE rfl rfl rfl]at h1;rw[z MX.iO rfl rfl rfl,z MX.lX rfl rfl rfl,z MX.lq rfl rfl rfl]at h2;rw[z MX.iO rfl rfl rfl,z MX.jg rfl rfl rfl]at h3;rw[z MX.iW rfl rfl rfl,z MX.jg rfl rfl rfl]at h5;obtain⟨i,i1,i2,i3⟩:=h6 (by omega) (by omega) (by omega) (by omega);rcases hall i i1 i2 with e|e|e<;>rw[e]at i3<;>cases i3
end
section
open Go.Conc Go.ConcN
open Go.ConcR (KK wgBlock WgAt stA smA rd wr mk)
open Go.ConcM (OsLater)
inductive WG|idle|work|rel|deaf|d2|d3|d4|lv|gone
 deriving DecidableEq
structure Wk where
 mx:MX
 zw:Bool
 rw:Bool
 syn:Bool
 wg:WG
 df:Nat
 keep:List (Nat×Obj)
def Wk.new:Wk:=⟨.fresh,false,false,false,.idle,0,[]⟩
inductive MW|solo|sp|ad|wt|rg|lI
 deriving DecidableEq
structure aO where
 n0:Nat
 n:Nat
 Gb:Nat
 Wg:Nat
 Zb:Nat
 Rb:Nat
 g0:Value
 g1:Value
 g2:Value
 nn:Nat
 vals:Nat->Int
 zv:Nat->Value
 rv:Nat->Value
structure aJ where
 num:Nat
 sc:Option aO
 wk:Nat->Wk
 mw:MW
 dm:Nat
 D:Nat
 L:Nat
 W:Nat
 S:Nat
 N:Nat
 tn:Nat
 th:Nat
 gs:Nat
 gm:Nat
 ex:Nat->Loc->Prop
 rd:Nat->Loc->Prop
 sh:Nat->Loc->Prop
 dead:Nat->Prop
structure ig where
 P:Program
 tG:TypeId
 tZ:TypeId
 tR:TypeId
 tW:TypeId
 os0:Os
 ac8:Array (Nat×ByteArray)
 Post:Value->World->Prop
def aJ.mm(γ:aJ):Nat->MX:=fun j=>(γ.wk j).mx
def ca(b off:Nat):Loc:=.cell ⟨b,off,none⟩
def dF(p:WG->Bool)(γ:aJ)(s:aO):Nat:=(List.range s.n).countP fun k=>p (γ.wk (s.n0+k)).wg
def WG.cd:WG->Bool|.work|.rel|.deaf=>true|_=>false
def WG.cr:WG->Nat
 |.idle=>9|.work=>8|.rel=>7|.deaf=>6|.d2=>5|.d3=>4|.d4=>3|.lv=>1|.gone=>0
def qL(γ:aJ)(s:aO):Nat:=((List.range s.n).map fun k=>(γ.wk (s.n0+k)).wg.cr).sum
def phi(γ:aJ)(s:aO):Nat:=VU γ.mm s.n0 s.n (γ.tn+γ.th)
def yO(mw:MW)(c d2 d3 d4 st sm:Nat):Prop:=
 match mw with
 |.solo=>False
 |.sp|.wt=>st=c*4294967296/\sm=0/\d2=0/\d3=0/\d4=0
 |.ad=>st=(c+1)*4294967296/\sm=0/\d2=0/\d3=0/\d4=0
 |.rg=>(1<=c/\st=c*4294967296+1/\sm=0/\d2=0/\d3=0/\d4=0)\/(c=0/\st=1/\sm=0/\d2+d3=1/\d4=0)\/(c=0/\st=0/\sm=0/\d2=0/\d3=0/\d4=1)\/(c=0/\st=0/\sm=1/\d2=0/\d3=0/\d4=0)
 |.lI=>c=0/\st=0/\sm=0/\d2=0/\d3=0/\d4=0
def Mem(s:aO)(γ:aJ)(g:Nat):Prop:=g=0\/(s.n0<=g/\g<γ.num)
section
variable(q:ig)
def kR(s:aO)(γ:aJ)(w:World):Prop:=∃C:Array Value,w.heap[s.Gb]?=some (.cells C q.tG)/\C.size=16/\C[0]?=some s.g0/\C[1]?=some s.g1/\C[2]?=some s.g2/\C[3]?=some (.int .u32 γ.D)/\
 C[4]?=some (.int .i32 (enc γ.L γ.W γ.S γ.N))/\C[5]?=some (.int .u32 ((γ.tn+γ.th:Nat):Int))/\(∀k,6<=k->k<16->∃x,C[k]?=some (.int .u64 x))/\(γ.D=1->∀id,1<=id->id<=s.nn->C[6+id]?=some (.int .u64 (s.vals id)))
def uy(b n:Nat)(t:TypeId)(f:Nat->Bool)(v:Nat->Value)(w:World):Prop:=∃Z:Array Value,w.heap[b]?=some (.cells Z t)/\Z.size=n/\(∀(k:Nat) (x:Value),Z[k]?=some x->(∀a,x≠Value.agg a)/\∀a,x≠Value.tuple a)/\∀k,k<n->f k=true->Z[k]?=some (v k)
structure dX(s:aO)(st:St aJ):Prop where
 n0:0<s.n0/\s.n0<=st.γ.num/\st.γ.num<=s.n0+s.n/\s.n<=9
 gb:kR q s st.γ st.w
 qV:WgAt q.tW s.Wg st.w st.γ.gs st.γ.gm
 zb:uy s.Zb s.n q.tZ (fun k=>(st.γ.wk (s.n0+k)).zw) s.zv st.w
 rb:uy s.Rb s.n q.tR (fun k=>(st.γ.wk (s.n0+k)).rw) s.rv st.w
 ne:s.Gb≠s.Wg/\s.Gb≠s.Zb/\s.Gb≠s.Rb/\s.Wg≠s.Zb/\s.Wg≠s.Rb/\s.Zb≠s.Rb
 mu:jC st.γ.mm s.n0 s.n st.γ.L st.γ.W st.γ.S st.γ.N st.γ.tn st.γ.th
 D1:st.γ.D<=1
 work:∀j,(st.γ.wk j).mx=.own .work->st.γ.D=0
 dn:∀j,(st.γ.wk j).mx=.own .dn->st.γ.D=1
 syn:∀j,s.n0<=j->(st.γ.wk j).syn=true->st.γ.D=1
 new:∀j,st.γ.num<=j->st.γ.wk j=.new
 on:∀j,s.n0<=j->j<st.γ.num->(st.γ.wk j).wg≠ .idle
 fin:∀j,s.n0<=j->(st.γ.wk j).wg≠ .idle->(st.γ.wk j).wg≠ .work->(st.γ.wk j).zw=true/\(st.γ.wk j).rw=true/\((st.γ.wk j).mx=.fresh\/(st.γ.wk j).mx=.out)
 all:st.γ.mw=.wt\/st.γ.mw=.rg\/st.γ.mw=.lI->st.γ.num=s.n0+s.n
 uh:yO st.γ.mw (dF WG.cd st.γ s) (dF (·== .d2) st.γ s) (dF (·== .d3) st.γ s) (dF (·== .d4) st.γ s) st.γ.gs st.γ.gm
end
structure tX(s:aO)(γ:aJ):Prop where
 spec:∀g b,(b=s.Gb\/b=s.Wg\/b=s.Zb\/b=s.Rb)->(∃off,¬γ.ex g (ca b off))/\∃off,¬γ.rd g (ca b off)
 J3:∀k,k<s.n->s.n0+k<γ.num->(γ.wk (s.n0+k)).wg=.work->γ.ex (s.n0+k) (ca s.Zb k)/\γ.ex (s.n0+k) (ca s.Rb k)
 Qj:∀k,k<s.n->γ.num<=s.n0+k->γ.ex 0 (ca s.Zb k)/\γ.ex 0 (ca s.Rb k)
 OE:∀g,Mem s γ g->∀off,off<3->γ.rd g (ca s.Gb off)
 OC:∀g,Mem s γ g->(∀off,3<=off->off<6->γ.sh g (ca s.Gb off))/\∀off,off<2->γ.sh g (ca s.Wg off)
 exS:∀j,(γ.wk j).mx=.own .work->∀off,6<=off->off<16->γ.ex j (ca s.Gb off)
 Xc:∀j,s.n0<=j->(γ.wk j).syn=true->∀off,6<=off->off<16->γ.rd j (ca s.Gb off)
 noS:(∀j,(γ.wk j).mx≠ .own .work)->∀g off,6<=off->off<16->¬γ.ex g (ca s.Gb off)/\¬γ.sh g (ca s.Gb off)/\(γ.D=0->¬γ.rd g (ca s.Gb off))
structure BD(s:aO)(st:St aJ):Prop where
 sh0:st.γ.D=0->(∀j,(st.γ.wk j).mx≠ .own .work)->∀g,Mem s st.γ g->∀off,6<=off->off<16->Perm st.t g (ca s.Gb off)
 sh1:st.γ.D=1->∃p,LastWrite st.t ⟨s.Gb,3,none⟩ p/\st.t.heard p/\∀off,6<=off->off<16->∀i a,touchAt st.t i=some a->a.loc=ca s.Gb off->a.write=true->Before st.t i p
 rel:∀j,s.n0<=j->j<st.γ.num->(st.γ.wk j).wg≠ .work->∃r,RelBy (stA s.Wg) st.t j r/\∀i a,r<i->st.t.g? i=some j->touchAt st.t i=some a->fE a.loc=some s.Wg
section
variable(q:ig)
structure aQ0(s:aO)(st:St aJ):Prop where
 c:dX q s st
 p:tX s st.γ
 t:BD s st
def aJ.old(γ:aJ):Nat:=match γ.sc with|some s=>s.n0|none=>γ.num
structure Base(st:St aJ):Prop where
 pos:0<st.γ.num
 tr:Ie st.t st.γ.num st.w.heap.size st.γ.ex st.γ.rd st.γ.sh
 Nu:q.P.globals.size<=st.w.heap.size
 dfm:Deaf st.t 0=st.γ.dm
 TL:∀j,0<j->j<st.γ.num->Deaf st.t j=(st.γ.wk j).df
 gone:∀j,(st.γ.wk j).wg=.gone->j≠0/\j<st.γ.num/\(st.γ.wk j).df=0
 os:OsLater q.os0 st.w.os
 out:st.w.output=q.ac8
 old:∀j,0<j->j<st.γ.old->(st.γ.wk j).wg=.lv\/(st.γ.wk j).wg=.gone
 dead:∀b,st.γ.dead b->b<st.w.heap.size
 know:∀i a,touchAt st.t i=some a->a.loc.isMemory=true->(∃b,fE a.loc=some b/\st.γ.dead b)\/Knows st.t 0 i\/∃g,st.t.g? i=some g/\st.γ.old<=g
 ho:∀i g,st.t.g? i=some g->g≠0->g<st.γ.old->st.t.counts i->∃j,st.t.g? j=some 0/\HappensBefore st.t i j
 pool:∀g l,st.γ.ex g l\/st.γ.rd g l\/st.γ.sh g l->g<st.γ.num
 Xr:∀j,j<st.γ.old->(st.γ.wk j).mx=.fresh\/(st.γ.wk j).mx=.out
 nw:∀j,st.γ.num<=j->st.γ.wk j=.new
 said:∀i a,touchAt st.t i=some a->a.kind=.said->st.t.g? i=some 0
 dsc:∀s,st.γ.sc=some s->¬st.γ.dead s.Gb/\¬st.γ.dead s.Zb/\¬st.γ.dead s.Rb
structure Inv(st:St aJ):Prop where
 base:Base q st
 solo:st.γ.sc=none↔st.γ.mw=.solo
 aZ:∀s,st.γ.sc=some s->aQ0 q s st
def Live(i:Nat)(st:St aJ):Prop:=i=0\/((st.γ.wk i).wg≠ .lv/\(st.γ.wk i).wg≠ .gone)
structure Rl(i:Nat)(st ah:St aJ):Prop where
 size:st.w.heap.size<=ah.w.heap.size
 ex:Live i st->∀l,st.γ.ex i l->ah.γ.ex i l
 rd:Live i st->∀l,st.γ.rd i l->ah.γ.rd i l
 blk:Live i st->∀b,(∀off,st.γ.ex i (ca b off))\/(∀off,st.γ.rd i (ca b off))->ah.w.heap[b]?=st.w.heap[b]?
 me:i≠0->ah.γ.wk i=st.γ.wk i
 main:i=0->ah.γ.mw=st.γ.mw/\ah.γ.dm=st.γ.dm/\ah.γ.num=st.γ.num/\(∀b,ah.γ.dead b↔st.γ.dead b)
 sc:i=0\/((st.γ.wk i).wg≠ .lv/\(st.γ.wk i).wg≠ .gone/\(st.γ.wk i).wg≠ .idle)->ah.γ.sc=st.γ.sc
 phi:i≠0->(st.γ.wk i).wg≠ .lv->(st.γ.wk i).wg≠ .gone/\(st.γ.wk i).wg≠ .idle->∀s,st.γ.sc=some s->phi ah.γ s<=phi st.γ s/\(phi ah.γ s=phi st.γ s->ah.γ.L=st.γ.L/\ah.γ.W=st.γ.W/\ah.γ.S=st.γ.S/\ah.γ.N=st.γ.N)/\(st.γ.D=1->ah.γ.D=1)
 qL:i=0->∀s,st.γ.sc=some s->qL ah.γ s<=qL st.γ s/\(qL ah.γ s=qL st.γ s->ah.γ.gs=st.γ.gs)
 work:i≠0->(st.γ.wk i).wg≠ .lv->(st.γ.wk i).wg≠ .gone/\(st.γ.wk i).wg≠ .idle->(st.γ.wk i).mx=.own .work->∀s,st.γ.sc=some s->∀off,6<=off->off<16->ah.w.cell? ⟨s.Gb,off,none⟩=st.w.cell? ⟨s.Gb,off,none⟩
 Wy:i≠0->(st.γ.wk i).mx=.own .work->ah.γ.D=st.γ.D
 hand:i≠0->(st.γ.wk i).mx=.woken true->(st.γ.wk i).wg=.work->st.γ.N<=ah.γ.N
 num:st.γ.num<=ah.γ.num
def Wt(i:Nat)(st:St aJ):Prop:=st.γ.sc≠none/\((i=0/\st.γ.mw=.rg/\st.γ.gm=0)\/(i≠0/\(st.γ.wk i).mx=.queued/\st.γ.tn+st.γ.th=0/\(st.γ.wk i).wg=.work))
def Lvs(i:Nat)(st:St aJ):Prop:=i≠0/\((st.γ.wk i).wg=.lv\/(st.γ.wk i).wg=.gone)
def cfg:VT aJ where
 P:=q.P
 Inv:=Inv q
 Rel:=Rl
 Waits:=Wt
 Gone:=fun i st=>i≠0/\(st.γ.wk i).wg=.gone
 Lv:=Lvs
 num:=fun st=>st.γ.num
 Post:=q.Post
end
section
variable{q:ig}
theorem Rl.refl(i:Nat)(st:St aJ):Rl i st st:=
 ⟨Nat.le_refl _,fun _ _ h=>h,fun _ _ h=>h,fun _ _ _=>rfl,fun _=>rfl,fun _=>⟨rfl,rfl,rfl,fun _=>.rfl⟩,fun _=>rfl,fun _ _ _ _ _=>⟨Nat.le_refl _,fun _=>⟨rfl,rfl,rfl,rfl⟩,fun h=>h⟩,fun _ _ _=>⟨Nat.le_refl _,fun _=>rfl⟩,fun _ _ _ _ _ _ _ _ _=>rfl,fun _ _=>rfl,fun _ _ _=>Nat.le_refl _,Nat.le_refl _⟩
theorem Rl.trans{i:Nat}{a b c:St aJ}(h:Rl i a b)(k:Rl i b c):Rl i a c:=by
 have lv:Live i a->Live i b:=fun hl=>by
  by_cases h0:i=0
  ·exact .inl h0
  ·rcases hl with hl|hl
   ·exact absurd hl h0
   ·right;rw[h.me h0];exact hl
 refine⟨Nat.le_trans h.size k.size,fun hl l x=>k.ex (lv hl) l (h.ex hl l x),fun hl l x=>k.rd (lv hl) l (h.rd hl l x),fun hl x hx=>?_,fun hi=>(k.me hi).trans (h.me hi),fun hi=>?_,fun hi=>?_,fun hi h1 h2 s hs=>?_,fun hi s hs=>?_,fun hi l1 l2 hw s hs off h1 h2=>?_,fun hi hw=>?_,fun hi hw hg=>?_,Nat.le_trans h.num k.num⟩
 ·refine(k.blk (lv hl) x ?_).trans (h.blk hl x hx);exact hx.imp (fun y off=>h.ex hl _ (y off)) fun y off=>h.rd hl _ (y off)
 ·obtain⟨h1,h2,h3,h4⟩:=h.main hi;obtain⟨k1,k2,k3,k4⟩:=k.main hi;exact⟨k1.trans h1,k2.trans h2,k3.trans h3,fun b=>(k4 b).trans (h4 b)⟩
 ·refine(k.sc ?_).trans (h.sc hi);rcases hi with hi|hi
  ·exact .inl hi
  ·by_cases h0:i=0
   ·exact .inl h0
   ·rw[h.me h0];exact .inr hi
 ·have e:=h.me hi;have es:=h.sc (.inr ⟨h1,h2⟩);obtain⟨p1,p2,p3⟩:=h.phi hi h1 h2 s hs;obtain⟨q1,q2,q3⟩:=k.phi hi (by rw[e];exact h1) (by rw[e];exact h2) s (es.trans hs);refine⟨Nat.le_trans q1 p1,fun ee=>?_,fun hD=>q3 (p3 hD)⟩;obtain⟨a1,a2,a3,a4⟩:=p2 (by omega);obtain⟨b1,b2,b3,b4⟩:=q2 (by omega);exact⟨b1.trans a1,b2.trans a2,b3.trans a3,b4.trans a4⟩
 ·have es:=h.sc (.inl hi);obtain⟨p1,p2⟩:=h.qL hi s hs;obtain⟨q1,q2⟩:=k.qL hi s (es.trans hs);exact⟨Nat.le_trans q1 p1,fun ee=>(q2 (by omega)).trans (p2 (by omega))⟩
 ·have e:=h.me hi;have es:=h.sc (.inr ⟨l1,l2⟩);exact(k.work hi (by rw[e];exact l1) (by rw[e];exact l2) (by rw[e];exact hw) s (es.trans hs) off h1 h2).trans (h.work hi l1 l2 hw s hs off h1 h2)
 ·exact(k.Wy hi (by rw[h.me hi];exact hw)).trans (h.Wy hi hw)
 ·exact Nat.le_trans (h.hand hi hw hg) (k.hand hi (by rw[h.me hi];exact hw) (by rw[h.me hi];exact hg))
theorem Inv.at{st:St aJ}(h:Inv q st)(d:Nat):Inv q (st.at d):=by
 obtain⟨b,hs,sc⟩:=h;refine⟨⟨b.pos,b.tr,b.Nu,b.dfm,b.TL,b.gone,b.os,b.out,b.old,b.dead,b.know,b.ho,b.pool,b.Xr,b.nw,b.said,b.dsc⟩,hs,fun s e=>?_⟩;obtain⟨x,y,z⟩:=sc s e;exact⟨⟨x.n0,x.gb,x.qV,x.zb,x.rb,x.ne,x.mu,x.D1,x.work,x.dn,x.syn,x.new,x.on,x.fin,x.all,x.uh⟩,y,⟨z.sh0,z.sh1,z.rel⟩⟩
theorem Rl.at(i:Nat)(st:St aJ)(d:Nat):Rl i st (st.at d):=
 ⟨Nat.le_refl _,fun _ _ h=>h,fun _ _ h=>h,fun _ _ _=>rfl,fun _=>rfl,fun _=>⟨rfl,rfl,rfl,fun _=>.rfl⟩,fun _=>rfl,fun _ _ _ _ _=>⟨Nat.le_refl _,fun _=>⟨rfl,rfl,rfl,rfl⟩,fun h=>h⟩,fun _ _ _=>⟨Nat.le_refl _,fun _=>rfl⟩,fun _ _ _ _ _ _ _ _ _=>rfl,fun _ _=>rfl,fun _ _ _=>Nat.le_refl _,Nat.le_refl _⟩
theorem wE{p:WG->Bool}{γ:aJ}{s:aO}{j:Nat}(h:s.n0<=j)(h2:j<s.n0+s.n)(hp:p (γ.wk j).wg=true):1<=dF p γ s:=by
 unfold dF;refine List.countP_pos_iff.2 ⟨j-s.n0,List.mem_range.2 (by omega),?_⟩;rw[show s.n0+(j-s.n0)=j by omega];exact hp
theorem rU{p:WG->Bool}{γ:aJ}{s:aO}(h:∀j,s.n0<=j->j<s.n0+s.n->p (γ.wk j).wg=false):dF p γ s=0:=by
 unfold dF;rw[List.countP_eq_zero];intro k hk;have:=List.mem_range.1 hk;rw[h (s.n0+k) (by omega) (by omega)];simp
theorem AU{st:St aJ}(h:Inv q st)(hall:∀i,i<st.γ.num->Wt i st\/(i≠0/\(st.γ.wk i).wg=.gone)):False:=by
 obtain⟨s,hs⟩:∃s,st.γ.sc=some s:=by
  rcases hall 0 h.base.pos with h0|h0
  ·cases e:st.γ.sc with
   |none=>exact absurd e h0.1
   |some s=>exact⟨s,rfl⟩
  ·exact absurd rfl h0.1
 have x:=(h.aZ s hs).c;have hrg:st.γ.mw=.rg/\st.γ.gm=0:=by
  rcases hall 0 h.base.pos with⟨_,⟨_,h1,h2⟩|⟨h1,_⟩⟩|h0
  ·exact⟨h1,h2⟩
  ·exact absurd rfl h1
  ·exact absurd rfl h0.1
 have hnum:=x.all (.inr (.inl hrg.1));have each:∀j,s.n0<=j->j<s.n0+s.n->((st.γ.wk j).mx=.queued/\st.γ.tn+st.γ.th=0/\(st.γ.wk j).wg=.work)\/(st.γ.wk j).wg=.gone:=fun j h1 h2=>by
  rcases hall j (by omega)with⟨_,⟨h3,_⟩|⟨_,h3⟩⟩|h3
  ·have:=x.n0.1;omega
  ·exact .inl h3
  ·exact .inr h3.2
 by_cases hq:∃j,s.n0<=j/\j<s.n0+s.n/\(st.γ.wk j).mx=.queued/\st.γ.tn+st.γ.th=0/\(st.γ.wk j).wg=.work
 ·obtain⟨j,h1,h2,h3,h4,h5⟩:=hq;have m:=x.mu;have e1:st.γ.tn=0:=by omega
  have e2:st.γ.th=0:=by omega
  rw[e1,e2]at m;refine m.AU (fun i i1 i2=>?_) h1 h2 h3;rcases each i i1 i2 with h|h
  ·exact .inl h.1
  ·have:=(x.fin i i1 (by rw[h];simp) (by rw[h];simp)).2.2;exact .inr this
 ·have hg:∀j,s.n0<=j->j<s.n0+s.n->(st.γ.wk j).wg=.gone:=fun j h1 h2=>(each j h1 h2).resolve_left fun h=>hq ⟨j,h1,h2,h⟩
  have w:=x.uh;rw[hrg.1]at w;rw[rU (p:=WG.cd) fun j a b=>by rw[hg j a b];rfl,rU (p:=(·== .d2)) fun j a b=>by rw[hg j a b];rfl,rU (p:=(·== .d3)) fun j a b=>by rw[hg j a b];rfl,rU (p:=(·== .d4)) fun j a b=>by rw[hg j a b];rfl]at w;simp only[yO]at w;have:=hrg.2;omega
theorem FC:(cfg q).Ok where
 refl:=Rl.refl
 trans:=fun i a b c h k=>h.trans k
 gone:=fun i a b h k=>⟨k.1,by rw[h.me k.1];exact k.2⟩
 Ny:=fun i st hi hlt h=>by
  rw[hi.base.TL i (by have:=h.1;omega) hlt];exact(hi.base.gone i h.2).2.2
 SQ:=fun i st h k=>by
  rcases h.2 with⟨h1,_⟩|⟨_,_,_,h1⟩
  ·exact k.1 h1
  ·rcases k.2 with k|k<;>rw[h1]at k<;>cases k
 TK:=fun st d h=>h.at d
 TI:=Rl.at
 TJ:=fun _ _=>rfl
 Hq:=fun _ _ _ h=>h
 pos:=fun st h=>h.base.pos
 AU:=fun st h k=>Cc.AU h fun i hi=>(k i hi).imp id fun y=>⟨y.1,y.2.2⟩
end
end
end Cc
end Go.Proofs.Ytpfpokjaeffbjab
