/- Part of the proof: Tape, Lift, Stp, Act, Mu, Bits, Mu2, Gen, Onc1, Onc2, Onc3. -/
import Derived.Test.YtpfpokjaeffbjaaKk0
import Derived.Test.YtpfpokjaeffbjaaKk2
import Derived.Test.YtpfpokjaeffbjaaKk1
import Derived.Conc.MuWords
set_option linter.unusedVariables false
set_option linter.unusedSimpArgs false
set_option maxRecDepth 100000
set_option maxHeartbeats 16000000
open Go renaming results→bR
open Go.GStep renaming after→dx
open Nat renaming le_trans→aY,le_refl→aH,lt_or_ge→bw,le_of_eq→cP
open Go.MemOp renaming ofEvents→aA
open Go.Frame renaming enter→bO
open Array renaming replicate→bN,getElem?_setIfInBounds_ne→aB,getElem?_setIfInBounds_self_of_lt→aW
open Go.MemAct renaming ofEvent→bJ
open Go.Trace renaming g?→cX
open Go.World renaming cell?→bM
open Go.BinOp renaming and→aZ
open Go.IntKind renaming i32→aK,wrap→bH,wrap_i32→dJ
namespace Go.Proofs.Ytpfpokjaeffbjaa
open Go renaming World→ae,Value→af,Goroutine→ah,Frame→ai,TypeId→aj,FuncId→ak,Program→au,undef→av,execOp→ax
open Go.Lib renaming hid→ay
namespace Cc
open Go.Conc
section
section
variable(P:au)(S:ak->Bool)(ro:Nat->Md)(Ds:Nat->Bool)(Ks K:List Item)(Stop:ai->ae->Prop)
def RS(f:ai)(base:List ai)(s:ae):Prop:=∃ρ f' base' w,KR P S Ds Ks K ρ (f::base) (f'::base')/\HR P.globals.size (fun f=>S f=true) ro ρ s w/\∀b,s.heap.size<=b->ro b=.all
inductive VD:ai->List ai->ae->Prop
 |stop {f:ai} {s:ae} (h:Stop f s):VD f [] s
 |step {f g:ai} {base b2:List ai} {s s1:ae} {es:Array Event} (h:stepG P true (G f (base++[dZ])) s=.go (G g (b2++[dZ])) s1 es) (l:M8 P (G f (base++[dZ])) (G g (b2++[dZ])) s s1 es)
   (m:RS P S ro Ds Ks K g b2 s1) (k:VD g b2 s1):VD f base s
inductive LT:ai->List ai->ae->Prop
 |stop {f:ai} {s:ae} (τ:Tape) (d:Nat) (h:Stop f (World.on s τ d)):LT f [] s
 |step {f:ai} {base:List ai} {s:ae} (nx:Tape->Nat->ai×List ai×ae) (h:∀τ d,∃es,stepG P true (G f (base++[dZ])) (World.on s τ d)=.go (G (nx τ d).1 ((nx τ d).2.1++[dZ])) (nx τ d).2.2 es)
   (m:∀τ d,RS P S ro Ds Ks K (nx τ d).1 (nx τ d).2.1 (nx τ d).2.2) (k:∀τ d,LT (nx τ d).1 (nx τ d).2.1 (nx τ d).2.2):LT f base s
end
section
variable{P:au}{S:ak->Bool}{ro:Nat->Md}{Ds:Nat->Bool}{Ks K:List Item}{Stop:ai->ae->Prop}
theorem HR.on{G:Nat}{S:ak->Prop}{ρ:Nat->Option Nat}{s w:ae}(h:HR G S ro ρ s w)(τ:Tape)(d:Nat)(H5:Tape)(d':Nat):HR G S ro ρ (World.on s τ d) (World.on w H5 d'):=⟨h.inj,h.row,h.hole,h.low,h.gs,h.gw⟩
theorem KR.bare{ρ:Nat->Option Nat}{l l':List ai}(h:KR P S Ds Ks K ρ l l'):∀f∈l,f.defers=[]:=by
 have one:∀{ρ:Nat->Option Nat} {Ds:Nat->Bool} {Ks K:List Item} {f f':ai},FR P S ρ Ds Ks K f f'->f.defers=[]:=fun h=>by
  cases h with
  |run X a b c d e f g r=>exact d
  |ret a b c d e g r=>exact d
 induction h with
 |one h=>intro f hf;simp at hf;subst hf;exact one h
 | @cons ρ f f' c c' r r' h hS hp ih=>
  intro x hx;rcases List.mem_cons.1 hx with rfl|hx
  ·exact one h
  ·have:=ih ρ av av (.refl _) .undef
   rcases List.mem_cons.1 hx with e|hx
   ·subst e;have:=this (x.finish av) (List.mem_cons_self ..)
    revert this
    unfold Frame.finish;split<;>exact id
   ·exact this x (by simp[hx])
theorem SU(c:ai)(vs:List PanicEntry):(∃ch,(c.raise vs).mode=.panicking ch)/\(c.raise vs).defers=c.defers:=by
 unfold Frame.raise;split<;>exact⟨⟨_,rfl⟩,rfl⟩
theorem zF(JW:∀f s,Stop f s->∀c,f.mode≠ .panicking c):∀(n:Nat) (base:List ai) (f:ai) (w:ae) (chain:List PanicEntry),f.mode=.panicking chain->f.defers=[]->(∀x∈base,x.defers=[])->
  ∀fr' w',runN P n (lone f (base++[dZ]) w)=.next (lone fr' [dZ] w')->¬Stop fr' w'
 |0,base,f,w,chain,hm,hd,hb,fr',w',hr,hs=>by
  simp only[runN,Stepped.next.injEq]at hr;have:f=fr':=by
   have:=congrArg (fun m=>(m.gs[0]?).map (·.frame)) hr
   simpa [lone]using this
  exact JW fr' w' hs chain (this ▸ hm)
 |n+1,base,f,w,chain,hm,hd,hb,fr',w',hr,hs=>by
  by_cases hc:f.catches P=true
  ·have:step P (lone f (base++[dZ]) w)=.ended (.unsupported (.noEntry "a panic or Goexit out of a method that fmt calls behind a cut's door") (f.pos P)) w:=
    step_lone_ended (by simp[stepG,unwind,hm,hd,hc])
   simp only[runN,this]at hr;cases hr
  ·cases base with
   |nil=>
    have:step P (lone f [dZ] w)=.next (lone (dZ.raise chain) [] w):=step_lone_go (by simp[stepG,unwind,hm,hd,hc])
    simp only[List.nil_append,runN,this]at hr;cases n with
    |zero=>
     simp only[runN,Stepped.next.injEq]at hr;have:=congrArg (fun m=>(m.gs[0]?).map (·.callers)) hr
     simp[lone]at this
    |succ n=>
     have:∃o w1,step P (lone (dZ.raise chain) [] w)=.ended o w1:=⟨_,_,step_lone_ended (by simp[stepG,unwind,dZ,Frame.raise,callDeferred]<;>exact⟨rfl,rfl⟩)⟩
     obtain⟨o,w1,this⟩:=this;simp only[runN,this]at hr;cases hr
   |cons c base=>
    have:step P (lone f (c::(base++[dZ])) w)=.next (lone (c.raise chain) (base++[dZ]) w):=step_lone_go (by simp[stepG,unwind,hm,hd,hc])
    simp only[List.cons_append,runN,this]at hr;obtain⟨⟨ch,h1⟩,h2⟩:=SU c chain;exact zF JW n base (c.raise chain) w ch h1 (h2.trans (hb c (by simp))) (fun x hx=>hb x (by simp[hx])) fr' w' hr hs
theorem xe{f:ai}{w:ae}(hm:f.mode=.returning)(hd:f.defers=[])(hk:f.kind=.normal):∀(n:Nat) (fr':ai) (w':ae),runN P (n+1) (lone f [dZ] w)≠ .next (lone fr' [dZ] w'):=by
 intro n fr' w' hr;have key:(∃o w1,step P (lone f [dZ] w)=.ended o w1)\/∃w1,step P (lone f [dZ] w)=.next (lone dZ [] w1):=by
  cases hf:P.funcs[f.fn]? with
  |none=>exact .inr ⟨w,step_lone_go (by simp[stepG,unwind,hm,hd,hf,doReturn,hk,dZ,fK,Frame.finish])⟩
  |some fn=>
   cases hres:(bR fn f.tmps).run P w with
   |ok v w1=>exact .inr ⟨w1,step_lone_go (by simp[stepG,unwind,hm,hd,hf,doReturn,hk,hres,dZ,fK,Frame.finish,dx])⟩
   |halt hh w1=>exact .inl (by
     cases hh<;>exact⟨_,_,step_lone_ended (by simp[stepG,unwind,hm,hd,hf,hres,dx]<;>exact⟨rfl,rfl⟩)⟩)
 rcases key with⟨o,w1,e⟩|⟨w1,e⟩
 ·simp only[runN,e]at hr;cases hr
 ·simp only[runN,e]at hr;cases n with
  |zero=>
   simp only[runN,Stepped.next.injEq]at hr;have:=congrArg (fun m=>(m.gs[0]?).map (·.callers)) hr
   simp[lone]at this
  |succ n=>
   have:∃o w2,step P (lone dZ [] w1)=.ended o w2:=⟨_,_,step_lone_ended (by simp[stepG,stepG.exec,dZ,fK]<;>exact⟨rfl,rfl⟩)⟩
   obtain⟨o,w2,e2⟩:=this;simp only[runN,e2]at hr;cases hr
theorem RS.on{f:ai}{base:List ai}{s:ae}(h:RS P S ro Ds Ks K f base s)(τ:Tape)(d:Nat):RS P S ro Ds Ks K f base (World.on s τ d):=by
 obtain⟨ρ,f',base',w,h1,h2,h3⟩:=h;exact⟨ρ,f',base',World.on w τ d,h1,h2.on τ d τ d,h3⟩
theorem M8.at{g g1:ah}{s s1:ae}{es:Array Event}(h:M8 P g g1 s s1 es){τ:Tape}{d:Nat}(e:∃c,s1.drawn=s.drawn+c/\∀j,j<c->τ (d+j)=s.tape (s.drawn+j)):
  ∃c,s1.drawn=s.drawn+c/\s1.tape=s.tape/\stepG P true g (World.on s τ d)=.go g1 (World.on s1 τ (d+c)) es/\M8 P g g1 (World.on s τ d) (World.on s1 τ (d+c)) es:=by
 obtain⟨h1,c,h2,h3⟩:=h;obtain⟨c',e1,e2⟩:=e;obtain rfl:c'=c:=by omega
 exact⟨c',h2,h1,h3 τ d e2,rfl,c',rfl,fun H5 d' m8=>h3 H5 d' fun j hj=>(m8 j hj).trans (e2 j hj)⟩
theorem rI(F:nL P S)(Uz:Y5 Ks K)(JW:∀f s,Stop f s->∀c,f.mode≠ .panicking c):∀(n:Nat) {f:ai} {base:List ai} {s:ae},RS P S ro Ds Ks K f base s->
  ∀fr' w',runN P n (lone f (base++[dZ]) s)=.next (lone fr' [dZ] w')->Stop fr' w'->VD P S ro Ds Ks K Stop f base s
 |0,f,base,s,hs,fr',w',hr,h=>by
  simp only[runN,Stepped.next.injEq]at hr;have e1:f=fr':=by have:=congrArg (fun m=>(m.gs[0]?).map (·.frame)) hr;simpa [lone]using this
  have e2:base++[dZ]=[dZ]:=by have:=congrArg (fun m=>(m.gs[0]?).map (·.callers)) hr;simpa [lone]using this
  have e3:s=w':=congrArg (·.world) hr;have e4:base=[]:=by cases base with
   |nil=>rfl
   |cons a l=>have:=congrArg List.length e2;simp at this
  subst e1 e3 e4;exact .stop h
 |n+1,f,base,s,hs,fr',w',hr,h=>by
  obtain⟨ρ,f',base',w,h1,h2,h3⟩:=hs;have hr2:HR P.globals.size (fun f=>S f=true) ro ρ s (World.on w s.tape s.drawn):=h2.on s.tape s.drawn s.tape s.drawn;rcases BJ F Uz h1 hr2 rfl rfl h3 with⟨g,b2,s1,es1,e1,l1,g',M0,w1,vK,es,-,k1,m1⟩|⟨rfl,hm⟩|hb
  ·have e2:step P (lone f (base++[dZ]) s)=.next (lone g (b2++[dZ]) s1):=step_lone_go (by
    show(stepG P true (G f (base++[dZ])) s).bare=_;rw[e1];rfl)
   simp only[runN,e2]at hr;have hs1:RS P S ro Ds Ks K g b2 s1:=⟨vK,g',M0,w1,k1,m1.hr,fun b hb=>h3 b (aY m1.ssize hb)⟩;exact .step e1 l1 hs1 (rI F Uz JW n hs1 fr' w' hr h)
  ·exfalso;have hd:=h1.bare f (by simp);have hk:f.kind=.normal:=by
    cases h1 with
    |one h=>cases h with
     |run X a b c d e' f g r=>exact b
     |ret a b c d e' g r=>exact b
   exact xe hm hd hk n fr' w' hr
  ·exfalso;rcases hb with⟨o,w1,es,e⟩|⟨fr,w1,es,ch,e,hm,hd⟩
   ·have e2:step P (lone f (base++[dZ]) s)=.ended o w1:=step_lone_ended (by
     show(stepG P true (G f (base++[dZ])) s).bare=_;rw[e];rfl)
    simp only[runN,e2]at hr;cases hr
   ·have e2:step P (lone f (base++[dZ]) s)=.next (lone fr (base++[dZ]) w1):=step_lone_go (by
     show(stepG P true (G f (base++[dZ])) s).bare=_;rw[e];rfl)
    simp only[runN,e2]at hr;exact zF JW n base fr w1 ch hm hd (fun x hx=>h1.bare x (by simp[hx])) fr' w' hr h
theorem VD.shift(hinv:∀f s τ d,Stop f s->Stop f (World.on s τ d)){f:ai}{base:List ai}{s:ae}(h:VD P S ro Ds Ks K Stop f base s):∀τ d,(∀j,τ (d+j)=s.tape (s.drawn+j))->VD P S ro Ds Ks K Stop f base (World.on s τ d):=by
 induction h with
 |stop h=>exact fun τ d _=>.stop (hinv _ _ _ _ h)
 |step h l m k ih=>
  intro τ d m8;obtain⟨-,c,hc,-⟩:=id l;obtain⟨c',e1,e0,e2,e3⟩:=l.at (τ:=τ) (d:=d) ⟨c,hc,fun j _=>m8 j⟩;refine .step e2 e3 (m.on _ _) (ih τ (d+c') fun j=>?_);rw[e0,e1,show d+c'+j=d+(c'+j) by omega,m8,Nat.add_assoc]
theorem LT.Ta(hinv:∀f s τ d,Stop f s->Stop f (World.on s τ d)){f:ai}{base:List ai}{s:ae}(GD:RS P S ro Ds Ks K f base s)(h:∀τ d,VD P S ro Ds Ks K Stop f base (World.on s τ d)):LT P S ro Ds Ks K Stop f base s:=by
 classical
 apply Classical.byContradiction;intro hno;let Nd:={x:ai×List ai×ae//(∀τ d,VD P S ro Ds Ks K Stop x.1 x.2.1 (World.on x.2.2 τ d))/\¬LT P S ro Ds Ks K Stop x.1 x.2.1 x.2.2}
 have next:∀x:Nd,∃(τ:Tape) (d:Nat) (y:Nd) (es:Array Event),stepG P true (G x.1.1 (x.1.2.1++[dZ])) (World.on x.1.2.2 τ d)=.go (G y.1.1 (y.1.2.1++[dZ])) y.1.2.2 es/\
   M8 P (G x.1.1 (x.1.2.1++[dZ])) (G y.1.1 (y.1.2.1++[dZ])) (World.on x.1.2.2 τ d) y.1.2.2 es:=by
  rintro ⟨⟨f,base,s⟩,hR,hL⟩;simp only at hR hL ⊢;have h1:∃τ d,∀g b2 s1 es,stepG P true (G f (base++[dZ])) (World.on s τ d)=.go (G g (b2++[dZ])) s1 es->RS P S ro Ds Ks K g b2 s1->¬LT P S ro Ds Ks K Stop g b2 s1:=by
   apply Classical.byContradiction;intro hn;apply hL;have:∀τ d,∃q:ai×List ai×ae,(∃es,stepG P true (G f (base++[dZ])) (World.on s τ d)=.go (G q.1 (q.2.1++[dZ])) q.2.2 es)/\RS P S ro Ds Ks K q.1 q.2.1 q.2.2/\LT P S ro Ds Ks K Stop q.1 q.2.1 q.2.2:=by
    intro τ d;apply Classical.byContradiction;intro hq;exact hn ⟨τ,d,fun g b2 s1 es e hm hl=>hq ⟨(g,b2,s1),⟨es,e⟩,hm,hl⟩⟩
   exact .step (fun τ d=>(this τ d).choose) (fun τ d=>(this τ d).choose_spec.1) (fun τ d=>(this τ d).choose_spec.2.1) fun τ d=>(this τ d).choose_spec.2.2
  obtain⟨Zf,d1,hbad⟩:=h1;generalize hs0:World.on s Zf d1=s0;have hr:=hR Zf d1;rw[hs0]at hr hbad;cases hr with
  |stop hst=>exact absurd (LT.stop Zf d1 (hs0 ▸ hst)) hL
  | @step _ g _ b2 _ s1 es e l m k=>
   refine⟨Zf,d1,⟨(g,b2,s1),?_,hbad g b2 s1 es e m⟩,es,by rw[hs0];exact e,by rw[hs0];exact l⟩;intro τ d;obtain⟨-,c,hc,-⟩:=id l;have hd0:s0.drawn=d1:=by rw[<-hs0];rfl
   have ht0:s0.tape=Zf:=by rw[<-hs0];rfl
   let H5:Tape:=fun n q=>if n<c then Zf (d1+n) q else τ (d+(n-c)) q
   have ag:∀j,j<c->H5 (0+j)=s0.tape (s0.drawn+j):=fun j hj=>by
    funext q;rw[hd0,ht0];show(if 0+j<c then Zf (d1+(0+j)) q else _)=_;rw[if_pos (by omega),Nat.zero_add]
   obtain⟨c',e1,e0,e2,e3⟩:=l.at (τ:=H5) (d:=0) ⟨c,hc,ag⟩;have hcc:c'=c:=by omega
   subst hcc;have hy:VD P S ro Ds Ks K Stop g b2 (World.on s1 H5 (0+c')):=by
    have h2:=hR H5 0;have es0:World.on s H5 0=World.on s0 H5 0:=by rw[<-hs0];rfl
    rw[es0]at h2;generalize hs2:World.on s0 H5 0=s2 at h2 e2;cases h2 with
    |stop hst=>exact absurd (LT.stop H5 0 (by rw[es0,hs2];exact hst)) hL
    | @step _ g' _ M0 _ s1' es' e' l' m' k'=>
     rw[e2]at e';simp only[GStep.go.injEq,G,Goroutine.mk.injEq,and_true]at e';obtain⟨⟨rfl,hb⟩,rfl,rfl⟩:=e';obtain rfl:=List.append_cancel_right hb;exact k'
   have:=hy.shift hinv τ d fun j=>by
    funext q;show τ (d+j) q=(if 0+c'+j<c' then Zf (d1+(0+c'+j)) q else τ (d+(0+c'+j-c')) q);rw[if_neg (by omega)];congr 2;omega
   exact this
 let Qe:Nd->Nd:=fun x=>(next x).choose_spec.choose_spec.choose
 let tp:Nd->Tape:=fun x=>(next x).choose
 let dd:Nd->Nat:=fun x=>(next x).choose_spec.choose
 have spec:∀x:Nd,∃(es:Array Event),stepG P true (G x.1.1 (x.1.2.1++[dZ])) (World.on x.1.2.2 (tp x) (dd x))=.go (G (Qe x).1.1 ((Qe x).1.2.1++[dZ])) (Qe x).1.2.2 es/\
   M8 P (G x.1.1 (x.1.2.1++[dZ])) (G (Qe x).1.1 ((Qe x).1.2.1++[dZ])) (World.on x.1.2.2 (tp x) (dd x)) (Qe x).1.2.2 es:=fun x=>(next x).choose_spec.choose_spec.choose_spec
 let x0:Nd:=⟨(f,base,s),h,hno⟩
 let sq:Nat->Nd:=fun k=>Nat.rec x0 (fun _ x=>Qe x) k
 have FY:∀k,sq (k+1)=Qe (sq k):=fun _=>rfl;let cc:Nat->Nat:=fun k=>(Qe (sq k)).1.2.2.drawn-dd (sq k)
 let D:Nat->Nat:=fun k=>Nat.rec 0 (fun k n=>n+cc k) k
 have Hm:∀k,D (k+1)=D k+cc k:=fun _=>rfl;have VN:∀j k,j<=k->D j<=D k:=fun j k hjk=>by
  induction hjk with
  |refl=>exact aH _
  |step _ ih=>exact aY ih (by rw[Hm];omega)
 let tau:Tape:=fun m q=>if hm:∃k,D k<=m/\m<D (k+1)then tp (sq hm.choose) (dd (sq hm.choose)+(m-D hm.choose)) q else 0
 have ai4:∀k j,j<cc k->tau (D k+j)=tp (sq k) (dd (sq k)+j):=by
  intro k j hj;funext q;have hm:∃k',D k'<=D k+j/\D k+j<D (k'+1):=⟨k,by omega,by rw[Hm];omega⟩;have hk:hm.choose=k:=by
   obtain⟨h1,h2⟩:=hm.choose_spec;rcases Nat.lt_trichotomy hm.choose k with h3|h3|h3
   ·have:=VN _ _ h3;rw[Nat.succ_eq_add_one]at this;omega
   ·exact h3
   ·have:=VN _ _ h3;rw[Nat.succ_eq_add_one,Hm]at this;omega
  show(if hm:∃k',D k'<=D k+j/\D k+j<D (k'+1)then tp (sq hm.choose) (dd (sq hm.choose)+(D k+j-D hm.choose)) q else 0)=_;rw[dif_pos hm,hk];congr 2;omega
 have never:∀{f:ai} {base:List ai} {s':ae},VD P S ro Ds Ks K Stop f base s'->∀k,f=(sq k).1.1->base=(sq k).1.2.1->s'=World.on (sq k).1.2.2 tau (D k)->False:=by
  intro f base s' hr;induction hr with
  | @stop f s' hst=>
   intro k e1 e2 e3;have:=(sq k).2.2
   rw[<-e1,<-e2]at this;exact this (.stop tau (D k) (e3 ▸ hst))
  | @step f g base b2 s' s1 es e l m kk ih=>
   intro k e1 e2 e3;obtain⟨es2,p1,p2⟩:=spec (sq k);obtain⟨-,c,hc,-⟩:=id p2;have hcc:cc k=c:=by
    show(Qe (sq k)).1.2.2.drawn-dd (sq k)=c;rw[hc];show dd (sq k)+c-dd (sq k)=c;omega
   obtain⟨c',q1,q0,q2,q3⟩:=p2.at (τ:=tau) (d:=D k) ⟨c,hc,fun j hj=>ai4 k j (by omega)⟩;have hc':c'=c:=by omega
   subst hc';have e4:stepG P true (G f (base++[dZ])) s'=.go (G (Qe (sq k)).1.1 ((Qe (sq k)).1.2.1++[dZ])) (World.on (Qe (sq k)).1.2.2 tau (D k+c')) es2:=by
    rw[e1,e2,e3];exact q2
   rw[e4]at e;simp only[GStep.go.injEq,G,Goroutine.mk.injEq,and_true]at e;obtain⟨⟨h1,h2⟩,h3,-⟩:=e;have h2:=List.append_cancel_right h2;exact ih (k+1) (by rw[FY];exact h1.symm) (by rw[FY];exact h2.symm) (by rw[FY,Hm,hcc];exact h3.symm)
 exact never (h tau 0) 0 rfl rfl rfl
end
end
section
section
variable{Γ:Type}(C:RF Γ)(S:ak->Bool)(ro:Nat->Md)(i:Nat)(Bw:(Nat->Option Nat)->St Γ->Prop)
structure Own:Prop where
 stable:∀ρ st dV,Bw ρ st->C.Rel i st dV->C.Inv dV->Bw ρ dV/\∀s,HR C.P.globals.size (fun f=>S f=true) ro ρ s st.w->HR C.P.globals.size (fun f=>S f=true) ro ρ s dV.w
 lv:∀ρ st,Bw ρ st->¬C.Lv i st
 step:∀ρ st s vK s1 w1 es fn pos,Bw ρ st->C.Inv st->Mv C.P.globals.size (fun f=>S f=true) ro ρ s st.w vK s1 w1 es->
  ∃γ',C.Inv ⟨w1,st.t++aA i fn pos es,γ'⟩/\C.num ⟨w1,st.t++aA i fn pos es,γ'⟩=C.num st/\(∀j,j≠i->C.Rel j st ⟨w1,st.t++aA i fn pos es,γ'⟩)/\
   (∀k,k≠i->C.lY k st->C.lY k ⟨w1,st.t++aA i fn pos es,γ'⟩)/\Bw vK ⟨w1,st.t++aA i fn pos es,γ'⟩
end
section
variable{Γ:Type}{C:RF Γ}{S:ak->Bool}{ro:Nat->Md}{i:Nat}{Bw:(Nat->Option Nat)->St Γ->Prop}{Ch:Nat->ah->St Γ->Prop}{Ds:Nat->Bool}{Ks K:List Item}{Stop:ai->ae->Prop}
theorem iR.own{g g':ah}{st:St Γ}{w':ae}{es:Array Event}{Kk:ah->St Γ->Prop}(h:stepG C.P (i==0) g st.w=.go g' w' es)(hs:g'.status=.running){γ':Γ}
  (h1:C.Inv ⟨w',st.t++aA i g.frame.fn g.frame.place es,γ'⟩)(h2:C.num ⟨w',st.t++aA i g.frame.fn g.frame.place es,γ'⟩=C.num st)
  (h3:∀j,j≠i->C.Rel j st ⟨w',st.t++aA i g.frame.fn g.frame.place es,γ'⟩)(h4:mayWake C.P g=true\/∀k,k≠i->C.lY k st->C.lY k ⟨w',st.t++aA i g.frame.fn g.frame.place es,γ'⟩)
  (h5:Kk g' ⟨w',st.t++aA i g.frame.fn g.frame.place es,γ'⟩):iR C i Ch Kk g st:=by
 unfold iR;rw[h];exact .inr ⟨γ',h1,h2,h3,h4,.inl ⟨hs,h5⟩⟩
theorem E4(F:nL C.P S)(Uz:Y5 Ks K)(pv:Own C S ro i Bw){f:ai}{base:List ai}{s:ae}(h:LT C.P S ro Ds Ks K Stop f base s):∀(ρ:Nat->Option Nat) (f':ai) (base' tail:List ai) (st:St Γ),
  KR C.P S Ds Ks K ρ (f::base) (f'::base')->HR C.P.globals.size (fun f=>S f=true) ro ρ s st.w->Bw ρ st->(∀b,s.heap.size<=b->ro b=.all)->
  (∀ρ' fr fr' s' st',Ext ρ ρ'->FR C.P S ρ' Ds Ks K fr fr'->(∃τ d,Stop fr (World.on s' τ d))->HR C.P.globals.size (fun f=>S f=true) ro ρ' s' st'.w->Bw ρ' st'->(∀b,s'.heap.size<=b->ro b=.all)->TT C i Ch (G fr' tail) st')->
  TT C i Ch (G f' (base'++tail)) st:=by
 induction h with
 | @stop f s τ d hst=>
  intro ρ f' base' tail st hK hH hV hro fin;cases hK with
  |one hF=>exact fin ρ f f' s st (Ext.refl ρ) hF ⟨τ,d,hst⟩ hH hV hro
 | @step f base s nx hstep GD hk ih=>
  intro ρ f' base' tail st hK hH hV hro fin;refine TT.step fun dV hr hi=>?_;obtain⟨hV1,hst⟩:=pv.stable ρ st dV hV hr hi;refine⟨fun hl=>absurd hl (pv.lv _ _ hV1),?_⟩;have zi:HR C.P.globals.size (fun f=>S f=true) ro ρ (World.on s dV.w.tape dV.w.drawn) dV.w:=by
   have:=hst s hH
   exact⟨this.inj,this.row,this.hole,this.low,this.gs,this.gw⟩
  obtain⟨es0,e0⟩:=hstep dV.w.tape dV.w.drawn;have hm0:=GD dV.w.tape dV.w.drawn;have ih0:=ih dV.w.tape dV.w.drawn;generalize nx dV.w.tape dV.w.drawn=q at e0 hm0 ih0;rcases BJ F Uz hK zi rfl rfl hro with⟨g,b2,s1,es1,e1,l1,g',M0,w1,vK,es,er,k1,m1⟩|⟨rfl,hm⟩|hb
  ·rw[e0]at e1;simp only[GStep.go.injEq,G,Goroutine.mk.injEq,and_true]at e1;obtain⟨⟨h1,h2⟩,h3,-⟩:=e1;have h2:=List.append_cancel_right h2;subst h1 h2 h3;have m1':Mv C.P.globals.size (fun f=>S f=true) ro ρ (World.on s dV.w.tape dV.w.drawn) dV.w vK q.2.2 w1 es:=m1;obtain⟨γ',i1,i2,i3,i4,i5⟩:=pv.step ρ dV _ vK _ w1 es f'.fn f'.place hV1 hi m1';refine iR.own (er _ tail) rfl i1 i2 i3 (.inr i4) ?_;exact ih0 vK g' M0 tail _ k1 m1.hr i5 (fun b hb=>hro b (aY m1.ssize hb)) fun ρ' fr fr' s' st' he=>fin ρ' fr fr' s' st' (m1.ext.trans he)
  ·exfalso;have hd:=hK.bare f (by simp);have hk:f.kind=.normal:=by
    cases hK with
    |one h=>cases h with
     |run X a b c d e' f g r=>exact b
     |ret a b c d e' g r=>exact b
   have e2:step C.P (lone f [dZ] (World.on s dV.w.tape dV.w.drawn))=.next (lone q.1 (q.2.1++[dZ]) q.2.2):=step_lone_go (by
    show(stepG C.P true (G f ([]++[dZ])) _).bare=_;rw[e0];rfl)
   cases hb:q.2.1 with
   |nil=>
    rw[hb]at e2;exact xe (P:=C.P) (w:=World.on s dV.w.tape dV.w.drawn) hm hd hk 0 q.1 q.2.2 (by simp only[runN,e2];rfl)
   |cons c l=>
    have e3:stepG C.P true (G f [dZ]) (World.on s dV.w.tape dV.w.drawn)=.go (G q.1 (q.2.1++[dZ])) q.2.2 es0:=e0;revert e3
    rw[hb];cases hf:C.P.funcs[f.fn]? with
    |none=>simp[G,stepG,unwind,hm,hd,hf,doReturn,hk]
    |some fn=>
     cases hres:(bR fn f.tmps).run C.P (World.on s dV.w.tape dV.w.drawn)with
     |ok v w1=>simp[G,stepG,unwind,hm,hd,hf,doReturn,hk,hres,dx]
     |halt hh w1=>cases hh<;>simp[G,stepG,unwind,hm,hd,hf,hres,dx]
  ·exfalso;rcases hb with⟨o,w1,es,e⟩|⟨fr,w1,es,ch,e,hm,hd⟩
   ·rw[e0]at e;cases e
   ·rw[e0]at e;simp only[GStep.go.injEq,G,Goroutine.mk.injEq,and_true]at e;obtain⟨⟨h1,h2⟩,h3,-⟩:=e;obtain⟨ρ2,f2,Vl,w2,h4,-⟩:=hm0;have:∃f'' ρ2 Ds Ks K,FR C.P S ρ2 Ds Ks K q.1 f'':=by
     generalize q.1=q1,q.2.1=q2 at h4;cases h4 with
     |one h=>exact⟨_,_,_,_,_,h⟩
     |cons h _ _=>exact⟨_,_,_,_,_,h⟩
    obtain⟨f'',ρ2,Ds2,Ks2,K2,hF⟩:=this;rw[h1]at hF;cases hF with
    |run X a b c d e f g r=>cases hm
    |ret a b c d e g r=>cases hm
def DC(P:au)(R:af->ae->Prop)(fr:ai)(w:ae):Prop:=∃τ d v,fr.leaving P (World.on w τ d) (.returned v)/\R v (World.on w τ d)
theorem E5(F:nL C.P S)(pv:Own C S ro i Bw){R:af->ae->Prop}{f:ak}{args args':Array af}(hS:S f=true){ρ:Nat->Option Nat}{s:ae}{st:St Γ}(ha:AR (fun f=>S f=true) ρ args args')(hH:HR C.P.globals.size (fun f=>S f=true) ro ρ s st.w)
  (hV:Bw ρ st)(hro:∀b,s.heap.size<=b->ro b=.all)(hC:∀τ d,Calls C.P f args (World.on s τ d) fun e w'=>∃v,e=.returned v/\R v w'){c:ai}{cs:List ai}
  (fin:∀ρ' v v' s' st',Ext ρ ρ'->VR (fun f=>S f=true) ρ' v v'->(∃τ d,R v (World.on s' τ d))->HR C.P.globals.size (fun f=>S f=true) ro ρ' s' st'.w->Bw ρ' st'->TT C i Ch (G (c.finish v') cs) st'):
  TT C i Ch (G (bO C.P f args' .normal) (c::cs)) st:=by
 obtain⟨fn,code,QL,hf2,hf3,hf4⟩:=F f hS;have hK:KR C.P S ES [] [] ρ [bO C.P f args .normal] [bO C.P f args' .normal]:=by
  rw[enter_at args QL hf2,enter_at args' QL hf2];refine .one (.run (b:=Go.Conc.base f) (b':=Go.Conc.base f) [.code code] rfl rfl rfl rfl rfl (by simp only[List.all_cons,Bool.and_eq_true];exact⟨hf4,rfl⟩) ?_ Gc);show AR (fun f=>S f=true) ρ (nI ES (args++bN (fn.ntmps-args.size) av)) (nI ES (args'++bN (fn.ntmps-args'.size) av));rw[pL,pL,<-ha.size];exact ha.append (AR.replicate _ VR.undef)
 have GD:RS C.P S ro ES [] [] (bO C.P f args .normal) [] s:=⟨ρ,_,[],st.w,hK,hH,hro⟩;have hinv:∀f s τ d,DC C.P R f s->DC C.P R f (World.on s τ d):=fun f s τ d ⟨H5,d',v,h1,h2⟩=>⟨H5,d',v,h1,h2⟩;have hT:LT C.P S ro ES [] [] (DC C.P R) (bO C.P f args .normal) [] s:=by
  refine LT.Ta hinv GD fun τ d=>?_;obtain⟨e,w',fr,⟨v,rfl,hR⟩,⟨n,hn⟩,-,hl⟩:=hC τ d [dZ];exact rI F (.inl ⟨rfl,rfl⟩) (fun f s ⟨τ,d,v,h,_⟩ c hc=>by have:=h.1;rw[hc]at this;cases this) n (GD.on τ d) fr w' hn ⟨w'.tape,w'.drawn,v,hl,hR⟩
 refine E4 F (.inl ⟨rfl,rfl⟩) pv hT ρ _ [] (c::cs) st hK hH hV hro ?_;rintro ρ' fr fr' s' st' Yo hF ⟨τ0,d0,τ,d,v,hl,hR⟩ RP QP Ac;have hl':fr.leaving C.P (World.on s' τ d) (.returned v):=hl;have hR':R v (World.on s' τ d):=hR;cases hF with
 |run X a b c d e f g r=>cases hl'.1
 | @ret b b' a a' todo todo' hfn hk hk' nD nP Bl _=>
  rw[pL,pL]at Bl;obtain⟨-,-,-,fn,Ae,hres⟩:=hl';have Ae:C.P.funcs[b.fn]?=some fn:=Ae;have ax3:C.P.funcs[b'.fn]?=some fn:=by rw[hfn];exact Ae
  have hres:(bR fn a.tmps).run C.P (World.on s' τ d)=.ok v (World.on s' τ d):=hres;refine TT.step fun dV hr hi=>?_;obtain⟨hV1,hst⟩:=pv.stable ρ' st' dV QP hr hi;refine⟨fun hl=>absurd hl (pv.lv _ _ hV1),?_⟩;have zi:=hst s' RP;have hA:HR C.P.globals.size (fun f=>S f=true) ro ρ' (World.on s' τ d) (World.on dV.w τ d):=⟨zi.inj,zi.row,zi.hole,zi.low,zi.gs,zi.gw⟩;have hB:HR C.P.globals.size (fun f=>S f=true) ro ρ' (World.on s' dV.w.tape dV.w.drawn) dV.w:=⟨zi.inj,zi.row,zi.hole,zi.low,zi.gs,zi.gw⟩;obtain⟨-,n,hn,hl⟩:=(SR.results (P:=C.P) (ro:=ro) Bl fn _ _ hA rfl rfl Ac).2.2 v _ hres;have hn0:n=0:=by have:d=d+n:=hn;omega
  subst hn0;have Ue:(bR fn a.tmps).run C.P (World.on s' dV.w.tape dV.w.drawn)=.ok v (World.on s' dV.w.tape dV.w.drawn):=(hl dV.w.tape dV.w.drawn fun j hj=>by omega).1;obtain⟨vK,v',w1,h1,h2,h3⟩:=(SR.results (P:=C.P) (ro:=ro) Bl fn _ _ hB rfl rfl Ac).1 v _ Ue;have m:=h2.sub (es':=seen C.P b'.fn ((bR fn a'.tmps).events C.P dV.w #[])) fun e he=>mem_seen he;obtain⟨γ',i1,i2,i3,i4,i5⟩:=pv.step ρ' dV _ vK _ w1 _ b'.fn "" hV1 hi m;refine iR.own (lN hk' nP ax3 h1) rfl i1 i2 i3 (.inr i4) ?_;exact fin vK v v' (World.on s' dV.w.tape dV.w.drawn) _ (Yo.trans h2.ext) h3 ⟨τ,d,hR'⟩ h2.hr i5
def yC(b:ai)(Q:Exit->Act->ae->Prop)(fr:ai)(w:ae):Prop:=
 ∃τ d a,(fr=b.at a [fK]/\Q .normal a (World.on w τ d))\/∃todo,fr={b.at a todo with mode:=.returning}/\Q .ret a (World.on w τ d)
theorem at_eq{b b':ai}(h1:b'.fn=b.fn)(h2:b'.kind=b.kind)(a:Act)(k:List Item):b'.at a k=b.at a k:=by unfold Frame.at;rw[h1,h2]
theorem QB(F:nL C.P S)(pv:Own C S ro i Bw){Q:Exit->Act->ae->Prop}(hQ:∀e a w,Q e a w->e=.normal\/e=.ret){code:Code}(hc:codeOk C.P S Ds code=true){b:ai}(hR:∀fn,C.P.funcs[b.fn]?=some fn->fn.results.all (yL Ds)=true){a a':Act}(hk:b.kind=.normal)(hd:a.defers=[])(hd':a'.defers=[])
  {ρ:Nat->Option Nat}{s:ae}{st:St Γ}(ha:AR (fun f=>S f=true) ρ (nI Ds a.tmps) (nI Ds a'.tmps))(hH:HR C.P.globals.size (fun f=>S f=true) ro ρ s st.w)(hV:Bw ρ st)(hro:∀b,s.heap.size<=b->ro b=.all)
  (hC:∀τ d,code.wp C.P Q a (World.on s τ d)){k:List Item}{cs:List ai}
  (GP:∀ρ' a2 wm s' st',Ext ρ ρ'->AR (fun f=>S f=true) ρ' (nI Ds a2.tmps) (nI Ds wm.tmps)->wm.defers=[]->(∃τ d,Q .normal a2 (World.on s' τ d))->HR C.P.globals.size (fun f=>S f=true) ro ρ' s' st'.w->Bw ρ' st'->(∀b,s'.heap.size<=b->ro b=.all)->TT C i Ch (G (b.at wm k) cs) st')
  (GN:∀ρ' a2 wm s' st' todo,Ext ρ ρ'->AR (fun f=>S f=true) ρ' (nI Ds a2.tmps) (nI Ds wm.tmps)->wm.defers=[]->(∃τ d,Q .ret a2 (World.on s' τ d))->HR C.P.globals.size (fun f=>S f=true) ro ρ' s' st'.w->Bw ρ' st'->(∀b,s'.heap.size<=b->ro b=.all)->TT C i Ch (G {b.at wm todo with mode:=.returning} cs) st'):
  TT C i Ch (G (b.at a' (.code code::k)) cs) st:=by
 have hK:KR C.P S Ds [fK] k ρ [b.at a ([.code code]++[fK])] [b.at a' ([.code code]++k)]:=
  .one (.run [.code code] rfl hk hk hd hd' (by simp only[List.all_cons,Bool.and_eq_true];exact⟨hc,rfl⟩) ha hR)
 have GD:RS C.P S ro Ds [fK] k (b.at a ([.code code]++[fK])) [] s:=⟨ρ,_,[],st.w,hK,hH,hro⟩;have hinv:∀f s τ d,yC b Q f s->yC b Q f (World.on s τ d):=fun f s τ d ⟨H5,d',x,h⟩=>⟨H5,d',x,h⟩;have hT:LT C.P S ro Ds [fK] k (yC b Q) (b.at a ([.code code]++[fK])) [] s:=by
  refine LT.Ta hinv GD fun τ d=>?_;obtain⟨e,a2,w',hq,hr⟩:=hC τ d b [fK] [dZ];have np:∀f s,yC b Q f s->∀c,f.mode≠ .panicking c:=by
   rintro f s ⟨τ,d,x,⟨rfl,-⟩|⟨todo,rfl,-⟩⟩ c hm<;>cases hm
  rcases hQ e a2 w' hq with rfl|rfl
  ·obtain⟨n,hn⟩:=hr;exact rI F (.inr rfl) np n (GD.on τ d) _ w' hn ⟨w'.tape,w'.drawn,a2,.inl ⟨rfl,hq⟩⟩
  ·obtain⟨todo,n,hn⟩:=hr;exact rI F (.inr rfl) np n (GD.on τ d) _ w' hn ⟨w'.tape,w'.drawn,a2,.inr ⟨todo,rfl,hq⟩⟩
 refine E4 F (.inr rfl) pv hT ρ _ [] cs st hK hH hV hro ?_;rintro ρ' fr fr' s' st' Yo hF ⟨τ0,d0,τ,d,a2,hst⟩ RP QP Ac;cases hF with
 | @run b1 b1' a1 Y2 X hfn hk1 Ya hd1 ax7 hX ht _=>
  rcases hst with⟨he,hq⟩|⟨todo,he,-⟩
  ·simp only[Frame.at,Frame.mk.injEq]at he;obtain⟨h1,h2,h3,h4,-⟩:=he;have Wb:X=[]:=by
    cases X with
    |nil=>rfl
    |cons x X=>have:=congrArg List.length h3;simp at this
   subst Wb;have:a1=a2:=by cases a1;cases a2;simp at h2 h4;subst h2 h4;rfl
   subst this;have e:b1'.at Y2 ([]++k)=b.at Y2 k:=at_eq (hfn.trans h1) (Ya.trans hk.symm) Y2 k;rw[e];exact GP ρ' a1 Y2 s' st' Yo ht ax7 ⟨τ,d,hq⟩ RP QP Ac
  ·have:=congrArg Frame.mode he
   simp[Frame.at]at this
 | @ret b1 b1' a1 Y2 todo todo' hfn hk1 Ya hd1 ax7 ht _=>
  rcases hst with⟨he,hq⟩|⟨bI5,he,hq⟩
  ·have:=congrArg Frame.mode he
   simp[Frame.at]at this
  ·simp only[Frame.at,Frame.mk.injEq]at he;obtain⟨h1,h2,h3,h4,-⟩:=he;have:a1=a2:=by cases a1;cases a2;simp at h2 h4;subst h2 h4;rfl
   subst this;have e:({b1'.at Y2 todo' with mode:=.returning}:ai)={b.at Y2 todo' with mode:=.returning}:=by
    rw[at_eq (hfn.trans h1) (Ya.trans hk.symm) Y2 todo']
   rw[e];exact GN ρ' a1 Y2 s' st' todo' Yo ht ax7 ⟨τ,d,hq⟩ RP QP Ac
end
end
end Cc
namespace Cc
open Go.Conc Go.ConcN
open Go.ConcM (OsLater)
section
open Go.ConcR (KK wgBlock WgAt stA smA rd wr mk)
theorem pG(e:Event)(x:Touch)(h:(bJ e).touch?=some x):(x=⟨e.loc,e.write,if e.sync then .atomic else .plain⟩/\∀m,e.loc≠ .mark m)\/(∃a,e.loc=.mark (.read a)/\x=⟨.cell a,false,.said⟩)\/(∃a,e.loc=.mark (.write a)/\x=⟨.cell a,true,.said⟩):=by
 obtain⟨l,w,s⟩:=e;cases l with
 |mark m=>cases m<;>first|(cases h;done)|(cases h;exact .inr (.inl ⟨_,rfl,rfl⟩))|(cases h;exact .inr (.inr ⟨_,rfl,rfl⟩))
 |obj c=>cases w<;>cases s<;>first|(cases h;done)|(cases h;exact .inl ⟨rfl,by simp⟩)
 |_=>cases h;exact .inl ⟨rfl,by simp⟩
theorem gQ{i:Nat}{fn:ak}{pos:String}{es:Array Event}{op:MemOp}(h:op∈aA i fn pos es):∃e∈es,op={g:=i,fn,pos,act:=.ofEvent e}:=by
 rw[ofEvents_eq]at h;obtain⟨e,he,rfl⟩:=Array.mem_map.1 h;exact⟨e,he,rfl⟩
theorem nO(e:Event)(m:Mark):bJ e=.mark m↔e.loc=.mark m:=by
 obtain⟨l,w,s⟩:=e;cases l with
 |mark m'=>simp[bJ]
 |obj c=>cases w<;>cases s<;>simp[bJ]
 |_=>simp[bJ]
theorem fU{d:Nat}{es:Array Event}(h:∀e∈es,e.loc≠ .mark .disable/\e.loc≠ .mark .enable):deafBehind d es=d:=by
 unfold deafBehind;refine Array.foldl_induction (motive:=fun _ (x:Nat)=>x=d) rfl fun i x hx=>?_;subst hx;obtain⟨h1,h2⟩:=h es[i] (Array.getElem_mem _);split
 ·rename_i e;exact absurd e h1
 ·rename_i e;exact absurd e h2
 ·rfl
section
variable{q:iK}
theorem Base.step{st:St eD}(h:Base q st){i:Nat}(hi:i<st.γ.num)(hio:i=0\/st.γ.old<=i){fn:ak}{pos:String}{es:Array Event}{w':ae}{γ':eD}(hsz:st.w.heap.size<=w'.heap.size)
  (htr:FH (st.t++aA i fn pos es) γ'.num w'.heap.size γ'.ex γ'.rd γ'.sh)(iC:γ'.num=st.γ.num)(hold:γ'.old=st.γ.old)(zO:∀b,γ'.dead b↔st.γ.dead b)(hsc:γ'.sc=st.γ.sc)
  (hos:OsLater st.w.os w'.os)(hout:w'.output=st.w.output)(hdm:γ'.dm=if i=0 then deafBehind st.γ.dm es else st.γ.dm)
  (hwk:∀j,j≠i->γ'.wk j=st.γ.wk j)(mg:i≠0->(γ'.wk i).df=deafBehind (st.γ.wk i).df es)(hgo:i≠0->(γ'.wk i).wg≠ .gone)(aY3:i=0->γ'.wk 0=st.γ.wk 0)
  (Uf:∀g l,γ'.ex g l\/γ'.rd g l\/γ'.sh g l->g<γ'.num)(JI:i≠0->∀e∈es,∀x,(bJ e).touch?=some x->x.kind≠ .said):Base q ⟨w',st.t++aA i fn pos es,γ'⟩:=by
 have hg:∀op∈aA i fn pos es,op.g=i:=fun op ho=>by obtain⟨e,_,rfl⟩:=gQ ho;rfl
 refine⟨by show 0<γ'.num;rw[iC];exact h.pos,htr,aY h.JY hsz,?_,fun j hj jz=>?_,fun j hj=>?_,h.os.trans hos,hout.trans h.out,fun j hj jz=>?_,fun b hb=>Nat.lt_of_lt_of_le (h.dead b ((zO b).1 hb)) hsz,fun k a ha hm=>?_,fun k g hk hne hlt hc=>?_,Uf,fun j hj=>?_,fun j hj=>?_,fun k a ha hk=>?_,fun s hs=>?_⟩
 ·show Deaf (st.t++aA i fn pos es) 0=γ'.dm;rw[hdm];by_cases h0:i=0
  ·subst h0;rw[if_pos rfl,Deaf_own,h.YG]
  ·rw[if_neg h0,Deaf_other st.t h0 _ hg,h.YG]
 ·show Deaf (st.t++aA i fn pos es) j=(γ'.wk j).df;have jz:j<γ'.num:=jz;by_cases h0:j=i
  ·subst h0;rw[Deaf_own,h.Pm j hj (by omega),mg (by omega)]
  ·rw[Deaf_other st.t (Ne.symm h0) _ hg,h.Pm j hj (by omega),hwk j h0]
 ·show j≠0/\j<γ'.num/\(γ'.wk j).df=0;have hj:(γ'.wk j).wg=.gone:=hj;rw[iC];by_cases h0:j=i
  ·subst h0;by_cases hz:j=0
   ·subst hz;rw[aY3 rfl]at hj ⊢;exact h.gone 0 hj
   ·exact absurd hj (hgo hz)
  ·rw[hwk j h0]at hj ⊢;exact h.gone j hj
 ·show(γ'.wk j).wg=.lv\/(γ'.wk j).wg=.gone;have jz:j<γ'.old:=jz;rw[hold]at jz;have:j≠i:=by rcases hio with h0|h0<;>omega
  rw[hwk j this];exact h.old j hj jz
 ·show(∃b,ij a.loc=some b/\γ'.dead b)\/Knows (st.t++aA i fn pos es) 0 k\/∃g,(st.t++aA i fn pos es).g? k=some g/\γ'.old<=g;rw[hold];rcases gT ha with⟨hlt,ha'⟩|⟨_,op,hop,hx,vN⟩
  ·rcases h.know k a ha' hm with⟨b,h1,h2⟩|h1|⟨g,h1,h2⟩
   ·exact .inl ⟨b,h1,(zO b).2 h2⟩
   ·exact .inr (.inl (h1.app _))
   ·exact .inr (.inr ⟨g,by simp only[cX,getElem?_append_old hlt]at h1 ⊢;exact h1,h2⟩)
  ·have k1:=knows_own hx;rw[hg op hop]at k1;rcases hio with h0|h0
   ·subst h0;exact .inr (.inl k1)
   ·exact .inr (.inr ⟨i,by simp only[cX,hx,Option.map_some,hg op hop],h0⟩)
 ·have hlt:g<γ'.old:=hlt;rw[hold]at hlt;rcases bw k st.t.size with hk2|hk2
  ·have hk':st.t.g? k=some g:=by simpa only[cX,getElem?_append_old hk2]using hk
   obtain⟨j,h1,h2⟩:=h.ho k g hk' hne hlt (by rw[counts_old hk2]at hc;exact hc);have hj:j<st.t.size:=by
    unfold cX at h1;obtain⟨op,ho,_⟩:=Option.map_eq_some_iff.1 h1;exact lt_size_of_getElem? ho
   exact⟨j,by simp only[cX,getElem?_append_old hj]at h1 ⊢;exact h1,hb_app _ h2⟩
  ·exfalso;obtain⟨op,ho,Ug⟩:=Option.map_eq_some_iff.1 hk;rcases getElem?_append_cases ho with⟨lU,_⟩|⟨_,OT⟩
   ·omega
   ·have:=hg op OT
    rcases hio with h0|h0<;>omega
 ·show(γ'.wk j).mx=.fresh\/(γ'.wk j).mx=.out;replace hj:j<γ'.old:=hj;rw[hold]at hj;by_cases e:j=i
  ·subst e;have h0:j=0:=by rcases hio with h0|h0;exact h0;omega
   subst h0;rw[aY3 rfl];exact h.S9 0 hj
  ·rw[hwk j e];exact h.S9 j hj
 ·show γ'.wk j=.new;replace hj:γ'.num<=j:=hj;rw[hwk j (by omega)];exact h.nw j (by omega)
 ·show(st.t++aA i fn pos es).g? k=some 0;rcases gT ha with⟨hlt,ha'⟩|⟨_,op,hop,hx,vN⟩
  ·have:=h.said k a ha' hk
   simp only[cX,getElem?_append_old hlt]at this ⊢;exact this
  ·by_cases h0:i=0
   ·subst h0;simp only[cX,hx,Option.map_some,hg op hop]
   ·obtain⟨e,he,rfl⟩:=gQ hop;exact absurd hk (JI h0 e he a vN)
 ·have hs:γ'.sc=some s:=hs;rw[hsc]at hs;obtain⟨a,b,c⟩:=h.dsc s hs;exact⟨fun x=>a ((zO _).1 x),fun x=>b ((zO _).1 x),fun x=>c ((zO _).1 x)⟩
theorem Rl.other{st st':St eD}{i j:Nat}(hij:j≠i){size:Nat}(A:Ng st.w.heap.size st.γ.ex st.γ.rd st.γ.sh)(hsz:st.w.heap.size<=st'.w.heap.size)(hex:∀l,st.γ.ex j l->st'.γ.ex j l)(hrd:∀l,st.γ.rd j l->st'.γ.rd j l)
  (hb:∀b,st'.w.heap[b]?=st.w.heap[b]?\/st.w.heap.size<=b\/(∃off,st.γ.ex i (ca b off))\/((∃off,¬st.γ.ex j (ca b off))/\∃off,¬st.γ.rd j (ca b off)))
  (hwk:∀k,k≠i->st'.γ.wk k=st.γ.wk k)(hmain:i≠0->st'.γ.mw=st.γ.mw/\st'.γ.dm=st.γ.dm/\st'.γ.num=st.γ.num/\(∀b,st'.γ.dead b↔st.γ.dead b))(hsc:st'.γ.sc=st.γ.sc)
  (JK:∀s,st.γ.sc=some s->Cc.phi st'.γ s<=Cc.phi st.γ s/\(Cc.phi st'.γ s=Cc.phi st.γ s->st'.γ.L=st.γ.L/\st'.γ.W=st.γ.W/\st'.γ.S=st.γ.S/\st'.γ.N=st.γ.N)/\(st.γ.D=1->st'.γ.D=1))
  (Mm:∀s,st.γ.sc=some s->i≠0->Cc.pI st'.γ s<=Cc.pI st.γ s/\(Cc.pI st'.γ s=Cc.pI st.γ s->st'.γ.gs=st.γ.gs))
  (mS:(st.γ.wk j).mx=.own .work->st'.γ.D=st.γ.D/\∀s,st.γ.sc=some s->∀off,6<=off->off<16->st'.w.cell? ⟨s.Gb,off,none⟩=st.w.cell? ⟨s.Gb,off,none⟩)(JO:j≠0->(st.γ.wk j).mx=.woken true->(st.γ.wk j).wg=.work->st.γ.N<=st'.γ.N)(iC:st.γ.num<=st'.γ.num):Rl j st st':=by
 refine⟨hsz,fun _=>hex,fun _=>hrd,fun _ b hfull=>?_,fun _=>hwk j hij,fun hj=>hmain (by omega),fun _=>hsc,fun _ _ _ s hs=>JK s hs,fun hj s hs=>Mm s hs (by omega),fun _ _ _ hw=>(mS hw).2,fun _ hw=>(mS hw).1,JO,iC⟩;rcases hb b with h1|h1|⟨off,h1⟩|⟨⟨o1,h1⟩,o2,h2⟩
 ·exact h1
 ·rcases hfull with hf|hf
  ·have:=A.low j _ (hf 0) b rfl;omega
  ·have:=A.xI j _ (hf 0) b rfl;omega
 ·rcases hfull with hf|hf
  ·exact absurd (A.ee _ _ _ (hf off) h1) hij
  ·exact absurd (hf off) (A.er _ _ _ h1)
 ·rcases hfull with hf|hf
  ·exact absurd (hf o1) h1
  ·exact absurd (hf o2) h2
theorem zy.app{s:eI}{st:St eD}(h:zy s st){w':ae}{γ':eD}{i:Nat}{u:Trace}(hu:∀op∈u,op.g=i)(hD:γ'.D=st.γ.D)(iC:γ'.num=st.γ.num)
  (mS:(∀j,(γ'.wk j).mx≠ .own .work)->∀j,(st.γ.wk j).mx≠ .own .work)(lH:∀j,s.n0<=j->j<st.γ.num->(γ'.wk j).wg≠ .work->(st.γ.wk j).wg≠ .work)
  (hS:∀op∈u,∀x,op.act.touch?=some x->(∀off,6<=off->off<16->x.loc≠ca s.Gb off)/\(x.loc=ca s.Gb 3->x.write=false))
  (hr:s.n0<=i->(st.γ.wk i).wg≠ .work->∀k,st.t.size<=k->(st.t++u).g? k=some i->¬(st.t++u).counts k/\∀a,touchAt (st.t++u) k=some a->ij a.loc=some s.Wg):zy s ⟨w',st.t++u,γ'⟩:=by
 refine⟨fun h0 h1 g hg off o1 o2=>?_,fun h1=>?_,fun j hj jz hw=>?_⟩
 ·have h0:γ'.D=0:=h0;have hm:Mem s st.γ g:=by unfold Mem at hg ⊢;rw[iC]at hg;exact hg
  exact(h.Zv (by omega) (mS h1) g hm off o1 o2).app fun op hop b hb e=>absurd e ((hS op hop b hb).1 off o1 o2)
 ·have h1:γ'.D=1:=h1;obtain⟨p,p1,p2,p3⟩:=h.VT (by omega);have hp:=lt_of_act? p1.1;refine⟨p,p1.app fun op hop sync e=>?_,(heard_old hp).2 p2,fun off o1 o2 k a ha e hw=>?_⟩
  ·have:op.act.touch?=some ⟨ca s.Gb 3,true,if sync then .atomic else .plain⟩:=by rw[e];rfl
   have:=(hS op hop _ this).2 rfl
   cases this
  ·rcases gT ha with⟨hlt,ha'⟩|⟨_,op,hop,hx,vN⟩
   ·exact(p3 off o1 o2 k a ha' e hw).app _
   ·exact absurd e ((hS op hop a vN).1 off o1 o2)
 ·have jz:j<γ'.num:=jz;obtain⟨r,r1,r2⟩:=h.rel j hj (by omega) (lH j hj (by omega) hw);refine⟨r,r1.app fun k hk hg=>?_,fun k a X8 hg ha=>?_⟩
  ·by_cases e:j=i
   ·subst e;exact(hr hj (lH j hj (by omega) hw) k hk hg).1
   ·exfalso;obtain⟨op,ho,Ug⟩:=Option.map_eq_some_iff.1 hg;rcases getElem?_append_cases ho with⟨lU,_⟩|⟨_,OT⟩
    ·omega
    ·exact e (Ug.symm.trans (hu op OT))
  ·rcases bw k st.t.size with hlt|hge
   ·exact r2 k a X8 (by simpa only[cX,getElem?_append_old hlt]using hg) (by rw[touchAt_old hlt]at ha;exact ha)
   ·by_cases e:j=i
    ·subst e;exact(hr hj (lH j hj (by omega) hw) k hge hg).2 a ha
    ·exfalso;obtain⟨op,ho,Ug⟩:=Option.map_eq_some_iff.1 hg;rcases getElem?_append_cases ho with⟨lU,_⟩|⟨_,OT⟩
     ·omega
     ·exact e (Ug.symm.trans (hu op OT))
theorem lt_of_block{w:ae}{b:Nat}{o:Obj}(h:w.heap[b]?=some o):b<w.heap.size:=(Array.getElem?_eq_some_iff.1 h).1
theorem gL.OD{s:eI}{st:St eD}(h:gL q s st):s.Gb<st.w.heap.size/\s.Wg<st.w.heap.size/\s.Zb<st.w.heap.size/\s.Rb<st.w.heap.size:=by
 obtain⟨C,h1,_⟩:=h.gb;obtain⟨Z,h2,_⟩:=h.zb;obtain⟨R,h3,_⟩:=h.rb;exact⟨lt_of_block h1,lt_of_block h.qL,lt_of_block h2,lt_of_block h3⟩
def eD.grow(γ:eD)(i size size':Nat):eD:={γ with ex:=C9 γ.ex i size size'}
theorem sf.grow{s:eI}{γ:eD}(h:sf s γ){i size size':Nat}(hl:s.Gb<size/\s.Wg<size/\s.Zb<size/\s.Rb<size):sf s (γ.grow i size size'):=by
 obtain⟨l1,l2,l3,l4⟩:=hl;have nf:∀{g b off},(b=s.Gb\/b=s.Wg\/b=s.Zb\/b=s.Rb)->C9 γ.ex i size size' g (ca b off)->γ.ex g (ca b off):=by
  intro g b off hb h;rcases h with h|⟨_,c,hc,h1,h2⟩
  ·exact h
  ·have:c=b:=by unfold ca ij at hc;simpa using hc.symm
   subst this;rcases hb with rfl|rfl|rfl|rfl<;>omega
 refine⟨fun g b hb=>?_,fun k k1 k2 k3=>⟨.inl (h.Hy k k1 k2 k3).1,.inl (h.Hy k k1 k2 k3).2⟩,fun k k1 k2=>⟨.inl (h.MH k k1 k2).1,.inl (h.MH k k1 k2).2⟩,h.KW,h.KU,fun j hj off o1 o2=>.inl (h.UO j hj off o1 o2),h.SP,fun h0 g off o1 o2=>?_⟩
 ·obtain⟨⟨o1,h1⟩,o2,h2⟩:=h.spec g b hb;exact⟨⟨o1,fun x=>h1 (nf hb x)⟩,o2,h2⟩
 ·obtain⟨h1,h2,h3⟩:=h.DX h0 g off o1 o2;exact⟨fun x=>h1 (nf (.inl rfl) x),h2,h3⟩
theorem Inv.own{st:St eD}(h:Inv q st){i:Nat}(hi:i<st.γ.num)(hio:i=0\/st.γ.old<=i)(lH:i≠0->(st.γ.wk i).wg=.work){fn:ak}{pos:String}{es:Array Event}{w':ae}(hsz:st.w.heap.size<=w'.heap.size)
  (Uh:∀e∈es,∀x,(bJ e).touch?=some x->May st.w.heap.size st.γ.ex st.γ.rd st.γ.sh i x/\∀b,ij x.loc=some b->b<w'.heap.size)(hmk:∀e∈es,e.loc≠ .mark .disable/\e.loc≠ .mark .enable/\∀a,e.loc≠ .mark (.release a))(JI:i≠0->∀e∈es,∀x,(bJ e).touch?=some x->x.kind≠ .said)
  (hos:OsLater st.w.os w'.os)(hout:w'.output=st.w.output)(hblk:∀b,b<st.w.heap.size->w'.heap[b]?=st.w.heap[b]?\/∀off,st.γ.ex i (ca b off))
  (hS:∀s,st.γ.sc=some s->∀e∈es,∀x,(bJ e).touch?=some x->(∀off,6<=off->off<16->x.loc≠ca s.Gb off)/\(x.loc=ca s.Gb 3->x.write=false)):
  Inv q ⟨w',st.t++aA i fn pos es,st.γ.grow i st.w.heap.size w'.heap.size⟩/\∀j,j≠i->Rl j st ⟨w',st.t++aA i fn pos es,st.γ.grow i st.w.heap.size w'.heap.size⟩:=by
 have A:=h.base.tr.FD;have htr:FH (st.t++aA i fn pos es) st.γ.num w'.heap.size (C9 st.γ.ex i st.w.heap.size w'.heap.size) st.γ.rd st.γ.sh:=by
  refine h.base.tr.step hsz hi (fun op ho=>?_) (fun op ho x hx=>?_) (fun op ho x hx b hb=>?_) (fun op ho a e=>?_);all_goals(obtain⟨e',he,rfl⟩:=gQ ho)
  ·rfl
  ·exact(Uh e' he x hx).1
  ·exact(Uh e' he x hx).2 b hb
  ·exact(hmk e' he).2.2 a ((nO e' _).1 e)
 have hq:=fun d=>fU (d:=d) fun e he=>⟨(hmk e he).1,(hmk e he).2.1⟩;have hsame:∀s,st.γ.sc=some s->∀b,(b=s.Gb\/b=s.Wg\/b=s.Zb\/b=s.Rb)->w'.heap[b]?=st.w.heap[b]?:=fun s hs b hb=>by
  have hl:=(h.eZ s hs).c.OD;have hlt:b<st.w.heap.size:=by rcases hb with rfl|rfl|rfl|rfl<;>omega
  rcases hblk b hlt with h1|h1
  ·exact h1
  ·obtain⟨⟨o,h2⟩,_⟩:=(h.eZ s hs).p.spec i b hb;exact absurd (h1 o) h2
 refine⟨⟨h.base.step hi hio hsz htr rfl rfl (fun _=>.rfl) rfl hos hout ?_ (fun _ _=>rfl) (fun _=>(hq _).symm) (fun h0=>?_) (fun _=>rfl) (fun g l hl=>?_) JI,h.solo,fun s hs=>?_⟩,fun j hj=>?_⟩
 ·show st.γ.dm=_;rw[hq];split<;>rfl
 ·show(st.γ.wk i).wg≠ .gone;rw[lH h0];simp
 ·rcases hl with(hl|⟨rfl,_⟩)|hl
  ·exact h.base.pool g l (.inl hl)
  ·exact hi
  ·exact h.base.pool g l (.inr hl)
 ·obtain⟨c,p,t⟩:=h.eZ s hs;have e1:=hsame s hs s.Gb (.inl rfl);have e2:=hsame s hs s.Wg (.inr (.inl rfl));have e3:=hsame s hs s.Zb (.inr (.inr (.inl rfl)));have e4:=hsame s hs s.Rb (.inr (.inr (.inr rfl)));refine⟨⟨c.n0,?_,e2.trans c.qL,?_,?_,c.ne,c.mu,c.D1,c.work,c.dn,c.syn,c.new,c.on,c.fin,c.all,c.sD⟩,p.grow c.OD,t.app (i:=i) (fun op ho=>?_) rfl rfl id (fun _ _ _ h=>h) (fun op ho x hx=>?_) fun hn hw=>?_⟩
  ·obtain⟨C,h1,h2⟩:=c.gb;exact⟨C,e1.trans h1,h2⟩
  ·obtain⟨C,h1,h2⟩:=c.zb;exact⟨C,e3.trans h1,h2⟩
  ·obtain⟨C,h1,h2⟩:=c.rb;exact⟨C,e4.trans h1,h2⟩
  ·obtain⟨e',he,rfl⟩:=gQ ho;rfl
  ·obtain⟨e',he,rfl⟩:=gQ ho;exact hS s hs e' he x hx
  ·exact absurd (lH (by have:=c.n0.1;omega)) hw
 ·refine Rl.other hj (size:=0) A hsz (fun l hl=>.inl hl) (fun l hl=>hl) (fun b=>?_) (fun _ _=>rfl) (fun _=>⟨rfl,rfl,rfl,fun _=>.rfl⟩) rfl (fun s hs=>⟨aH _,fun _=>⟨rfl,rfl,rfl,rfl⟩,id⟩) (fun s hs _=>⟨aH _,fun _=>rfl⟩) (fun hw=>⟨rfl,fun s hs off o1 o2=>?_⟩) (fun _ _ _=>aH _) nle
  ·rcases bw b st.w.heap.size with hlt|hge
   ·rcases hblk b hlt with h1|h1
    ·exact .inl h1
    ·exact .inr (.inr (.inl ⟨0,h1 0⟩))
   ·exact .inr (.inl hge)
  ·show w'.cell? _=_;unfold bM;rw[hsame s hs s.Gb (.inl rfl)]
variable(q) in
def Bw(i:Nat)(ro:Nat->Md)(ρ:Nat->Option Nat)(st:St eD):Prop:=
 i<st.γ.num/\(i=0\/(st.γ.wk i).wg=.work/\∃s,st.γ.sc=some s/\s.n0<=i)/\∀b c,ρ b=some c->match ro b with
  |.all=>∀l,ij l=some c->l.isMemory=true->st.γ.ex i l
  |.read n=>(∀off,st.γ.rd i (ca c off))\/(∀off,st.γ.ex i (ca c off))\/(n<=3/\∃s,st.γ.sc=some s/\c=s.Gb/\∃C:Array af,st.w.heap[c]?=some (.cells C q.tG)/\3<=C.size/\C[0]?=some s.g0/\C[1]?=some s.g1/\C[2]?=some s.g2)
  |.part _=>False
theorem O7{γ:eD}{i c:Nat}(h:∀l,ij l=some c->l.isMemory=true->γ.ex i l)(off:Nat):γ.ex i (ca c off):=h _ rfl rfl
theorem gL.head{s:eI}{st:St eD}(h:gL q s st):∃C:Array af,st.w.heap[s.Gb]?=some (.cells C q.tG)/\3<=C.size/\C[0]?=some s.g0/\C[1]?=some s.g1/\C[2]?=some s.g2:=by
 obtain⟨C,h1,h2,h3,h4,h5,_⟩:=h.gb;exact⟨C,h1,by omega,h3,h4,h5⟩
theorem BZ(S:ak->Bool)(i:Nat)(ro:Nat->Md){ρ:Nat->Option Nat}{st:St eD}{s:ae}{vK:Nat->Option Nat}{s1 w1:ae}{es:Array Event}(fn:ak)(pos:String)(hV:Bw q i ro ρ st)(hi:Inv q st)(m:Mv q.P.globals.size (fun f=>S f=true) ro ρ s st.w vK s1 w1 es):
  Inv q ⟨w1,st.t++aA i fn pos es,st.γ.grow i st.w.heap.size w1.heap.size⟩/\(∀j,j≠i->Rl j st ⟨w1,st.t++aA i fn pos es,st.γ.grow i st.w.heap.size w1.heap.size⟩)/\
   Bw q i ro vK ⟨w1,st.t++aA i fn pos es,st.γ.grow i st.w.heap.size w1.heap.size⟩:=by
 obtain⟨h1,h2,h3⟩:=id hV;have hold:i=0\/st.γ.old<=i:=h2.imp id fun⟨_,s,hs,hn⟩=>by unfold eD.old;rw[hs];exact hn
 have hmem:∀nA,st.γ.sc=some nA->Mem nA st.γ i:=fun nA hs₀=>h2.imp id fun⟨_,s,hs,hn⟩=>by rw[hs₀]at hs;cases hs;exact⟨hn,h1⟩
 have wz:∀e∈es,∀x,(bJ e).touch?=some x->(∃c,ij x.loc=some c/\x.loc.isMemory=true/\c<w1.heap.size/\((st.γ.ex i x.loc/\∀off,st.γ.ex i (ca c off))\/(x.write=false/\st.γ.rd i x.loc/\((∀off,st.γ.rd i (ca c off))\/∃nA off,st.γ.sc=some nA/\off<3/\x.loc=ca nA.Gb off))\/st.w.heap.size<=c)):=by
  intro e he x hx;have lt1:∀b c,vK b=some c->c<w1.heap.size:=fun b c hb=>by obtain⟨_,o',_,r2,_⟩:=m.hr.row b c hb;exact lt_of_block r2
  rcases m.evs e he with⟨a,b,xw,rfl,hb,hl,hg,hsp⟩|rfl|⟨c,b,rfl,hb,hall⟩
  ·have hx:x=⟨.cell a,xw,.plain⟩:=by cases hx;rfl
   subst hx;have hca:(Loc.cell a)=ca a.block a.off:=by unfold ca;cases a;simp at hsp;subst hsp;rfl
   refine⟨a.block,rfl,rfl,lt1 b _ hb,?_⟩;rcases m.fresh b _ hb with hb'|⟨hge,_⟩
   ·have hv:=h3 b _ hb';cases hm:ro b with
    |all=>rw[hm]at hv;exact .inl ⟨hv _ rfl rfl,fun off=>O7 hv off⟩
    |read n=>
     rw[hm]at hv hl hg;have hxw:xw=false:=by cases xw with
      |false=>rfl
      |true=>exact(hl rfl).elim
     subst hxw;rcases hv with hv|hv|⟨hn,nA,hs,hc,_⟩
     ·refine .inr (.inl ⟨rfl,?_,.inl hv⟩);show st.γ.rd i (.cell a);rw[hca];exact hv _
     ·exact .inl ⟨by show st.γ.ex i (.cell a);rw[hca];exact hv _,hv⟩
     ·have ho:a.off<3:=by have:a.off<n:=hg;omega
      refine .inr (.inl ⟨rfl,?_,.inr ⟨nA,a.off,hs,ho,by rw[<-hc];exact hca⟩⟩);show st.γ.rd i (.cell a);rw[hca,hc];exact(hi.eZ nA hs).p.KW i (hmem nA hs) _ ho
    |part f=>rw[hm]at hv;exact hv.elim
   ·exact .inr (.inr hge)
  ·cases hx
  ·have hx:x=⟨.obj c,false,.plain⟩:=by cases hx;rfl
   subst hx;refine⟨c,rfl,rfl,lt1 b _ hb,?_⟩;rcases m.fresh b _ hb with hb'|⟨hge,_⟩
   ·have hv:=h3 b _ hb';rw[hall]at hv;exact .inl ⟨hv _ rfl rfl,fun off=>O7 hv off⟩
   ·exact .inr (.inr hge)
 have mk3:∀e∈es,e.loc≠ .mark .disable/\e.loc≠ .mark .enable/\∀a,e.loc≠ .mark (.release a):=by
  intro e he;rcases m.evs e he with⟨a,b,xw,rfl,_⟩|rfl|⟨c,b,rfl,_⟩<;>simp
 have hA:∀e∈es,∀x,(bJ e).touch?=some x->May st.w.heap.size st.γ.ex st.γ.rd st.γ.sh i x/\∀b,ij x.loc=some b->b<w1.heap.size:=by
  intro e he x hx;obtain⟨c,hc,hmm,hlt,h⟩:=wz e he x hx;refine⟨?_,fun b hb=>by rw[hc]at hb;cases hb;exact hlt⟩;rcases h with h|⟨h4,h5,_⟩|h
  ·exact .inr (.inl h.1)
  ·exact .inr (.inr (.inl ⟨h5,h4⟩))
  ·exact .inr (.inr (.inr (.inr ⟨c,hc,h⟩)))
 have hB:∀c,c<st.w.heap.size->w1.heap[c]?=st.w.heap[c]?\/∀off,st.γ.ex i (ca c off):=by
  intro c hc;by_cases hex:∃b,ρ b=some c/\ro b=.all
  ·obtain⟨b,hb,hall⟩:=hex;have hv:=h3 b c hb;rw[hall]at hv;exact .inr fun off=>O7 hv off
  ·refine .inl (m.keep c hc fun b hb=>?_);have hv:=h3 b c hb;cases hm:ro b with
   |all=>exact absurd ⟨b,hb,hm⟩ hex
   |read n=>rfl
   |part f=>rw[hm]at hv;exact hv.elim
 have hS:∀nA,st.γ.sc=some nA->∀e∈es,∀x,(bJ e).touch?=some x->(∀off,6<=off->off<16->x.loc≠ca nA.Gb off)/\(x.loc=ca nA.Gb 3->x.write=false):=by
  intro nA hs e he x hx;obtain⟨c,hc,hmm,hlt,h⟩:=wz e he x hx;have hl:=(hi.eZ nA hs).c.OD;have sp:=(hi.eZ nA hs).p.spec i nA.Gb (.inl rfl);have hcb:∀off,x.loc=ca nA.Gb off->c=nA.Gb:=fun off e=>by rw[e]at hc;unfold ca ij at hc;simpa using hc.symm
  rcases h with h|⟨h4,_,h5⟩|h
  ·obtain⟨⟨o,ho⟩,_⟩:=sp;exact⟨fun off _ _ e=>ho (by rw[<-hcb off e];exact h.2 o),fun e=>absurd (by rw[<-hcb 3 e];exact h.2 o) ho⟩
  ·refine⟨fun off o1 o2 e=>?_,fun _=>h4⟩;rcases h5 with h5|⟨s₁,off',OS,ho',e'⟩
   ·obtain⟨_,o,ho⟩:=sp;exact ho (by rw[<-hcb off e];exact h5 o)
   ·rw[hs]at OS;cases OS;rw[e]at e';unfold ca at e';simp at e'<;>omega
  ·exact⟨fun off _ _ e=>by have:=hcb off e;omega,fun e=>by have:=hcb 3 e;omega⟩
 have hsd:i≠0->∀e∈es,∀x,(bJ e).touch?=some x->x.kind≠ .said:=by
  intro _ e he x hx;rcases m.evs e he with⟨a,b,xw,rfl,_⟩|rfl|⟨c,b,rfl,_⟩
  ·cases hx;simp
  ·cases hx
  ·cases hx;simp
 obtain⟨a15,yj⟩:=hi.own h1 hold (fun h0=>(h2.resolve_left h0).1) (fn:=fn) (pos:=pos) (es:=es) (w':=w1) m.size hA mk3 hsd (by rw[m.os];exact .refl _) m.output hB hS;refine⟨a15,yj,?_⟩;refine⟨h1,h2,fun b c hb=>?_⟩;rcases m.fresh b c hb with hb'|⟨hge,hall⟩
 ·have hv:=h3 b c hb';cases hm:ro b with
  |all=>rw[hm]at hv;exact fun l hl hl2=>.inl (hv l hl hl2)
  |read n=>
   rw[hm]at hv;rcases hv with hv|hv|⟨hn,nA,hs,hc,_⟩
   ·exact .inl hv
   ·exact .inr (.inl fun off=>.inl (hv off))
   ·subst hc;exact .inr (.inr ⟨hn,nA,hs,rfl,(a15.eZ nA hs).c.head⟩)
  |part f=>rw[hm]at hv;exact hv
 ·rw[hall];intro l hl hl2;obtain⟨_,o',_,r2,_⟩:=m.hr.row b c hb;exact .inr ⟨rfl,c,hl,hge,lt_of_block r2⟩
theorem Ao(S:ak->Bool)(i:Nat)(ro:Nat->Md):Own (cfg q) S ro i (Bw q i ro)where
 stable:=fun ρ st dV ⟨h1,h2,h3⟩ hr hi=>by
  have hr:Rl i st dV:=hr;have hi:Inv q dV:=hi;have hsc:dV.γ.sc=st.γ.sc:=hr.sc (h2.imp id fun h=>by rw[h.1];simp);have hl:Live i st:=h2.imp id fun h=>by rw[h.1];simp
  have keep:∀b c,ρ b=some c->(ro b=.all\/∃n,ro b=.read n/\∀off,st.γ.rd i (ca c off))->dV.w.heap[c]?=st.w.heap[c]?:=fun b c hb hc=>by
   have:=h3 b c hb
   rcases hc with hc|⟨n,hc,hf⟩
   ·rw[hc]at this;exact hr.blk hl c (.inl fun off=>O7 this off)
   ·exact hr.blk hl c (.inr hf)
  refine⟨⟨?_,?_,fun b c hb=>?_⟩,fun s hH=>⟨hH.inj,fun b c hb=>?_,hH.hole,hH.low,hH.gs,hi.base.JY⟩⟩
  ·rcases h2 with rfl|⟨hw,s,hs,hn⟩
   ·exact hi.base.pos
   ·have hc:=(hi.eZ s (hsc.trans hs)).c;have hne:i≠0:=by have:=hc.n0.1;omega
    refine Nat.lt_of_not_le fun hge=>?_;have:=hc.new i hge
    rw[hr.me hne]at this;rw[this]at hw;cases hw
  ·by_cases h0:i=0
   ·exact .inl h0
   ·rcases h2 with h2|⟨hw,s,hs,hn⟩
    ·exact absurd h2 h0
    ·exact .inr ⟨by rw[hr.me h0];exact hw,s,hsc.trans hs,hn⟩
  ·have hv:=h3 b c hb;cases hm:ro b with
   |all=>rw[hm]at hv;exact fun l hl' hl2=>hr.ex hl l (hv l hl' hl2)
   |read n=>
    rw[hm]at hv;rcases hv with hv|hv|⟨hn,s,hs,rfl,_⟩
    ·exact .inl fun off=>hr.rd hl _ (hv off)
    ·exact .inr (.inl fun off=>hr.ex hl _ (hv off))
    ·exact .inr (.inr ⟨hn,s,hsc.trans hs,rfl,(hi.eZ s (hsc.trans hs)).c.head⟩)
   |part f=>rw[hm]at hv;exact hv
  ·obtain⟨o,o',r1,r2,r3⟩:=hH.row b c hb;have hv:=h3 b c hb;cases hm:ro b with
   |all=>exact⟨o,o',r1,(keep b c hb (.inl hm)).trans r2,by rw[hm]at r3;exact r3⟩
   |read n=>
    rw[hm]at hv;rcases hv with hv|hv|⟨hn,nA,hs,rfl,C,c1,c2,c3,c4,c5⟩
    ·exact⟨o,o',r1,(keep b c hb (.inr ⟨n,hm,hv⟩)).trans r2,by rw[hm]at r3;exact r3⟩
    ·exact⟨o,o',r1,(hr.blk hl c (.inl hv)).trans r2,by rw[hm]at r3;exact r3⟩
    ·obtain⟨C',d1,d2,d3,d4,d5⟩:=(hi.eZ nA (hsc.trans hs)).c.head;refine⟨o,_,r1,d1,?_⟩;rw[r2]at c1;cases c1;rw[hm]at r3;cases r3 with
     |cells k3 k4 k5 k6=>
      have hsz:=k6 n rfl;refine .cells (by omega) (fun j v hv=>?_) (fun e=>by cases e) k6;obtain⟨v',hv',hr'⟩:=k4 j v hv;have hlt:=(Array.getElem?_eq_some_iff.1 hv).1;refine⟨v',?_,hr'⟩;match j,hlt with
      |0,_=>rw[c3]at hv';rw[d3];exact hv'
      |1,_=>rw[c4]at hv';rw[d4];exact hv'
      |2,_=>rw[c5]at hv';rw[d5];exact hv'
      |j+3,hlt=>omega
   |part f=>rw[hm]at hv;exact hv.elim
 lv:=fun ρ st ⟨h1,h2,h3⟩ hl=>by
  rcases h2 with h2|⟨hw,_⟩
  ·exact hl.1 h2
  ·rcases hl.2 with e|e<;>rw[hw]at e<;>cases e
 step:=fun ρ st s vK s1 w1 es fn pos hV hi m=>by
  obtain⟨a,b,c⟩:=BZ S i ro fn pos hV hi m;exact⟨st.γ.grow i st.w.heap.size w1.heap.size,a,rfl,b,fun k hk hw=>hw,c⟩
end
end
section
open Go.ConcR (KK wgBlock WgAt stA smA rd wr mk DC0)
section
variable{Γ:Type}{C:RF Γ}{i:Nat}{Ch:Nat->ah->St Γ->Prop}
theorem TT.walk(ok:C.Ok){F:ae->Prop}{st:St Γ}(hF:∀dV,C.Rel i st dV->C.Inv dV->F dV.w)(hlv:∀dV,C.Rel i st dV->C.Inv dV->¬C.Lv i dV):∀(n:Nat) (g:ah) (w:ae),
  Goes C.P (i==0) (fun _ w₁=>F w₁) DC0 (fun g' _=>g'.status=.running/\TT C i Ch g' st) n g w->TT C i Ch g st
 |0,g,w,h=>TT.step fun dV hr hi=>(h dV.w (hF dV hr hi)).2.elim dV hr hi
 |n+1,g,w,h=>by
  rcases h with h|⟨hs,h⟩
  ·exact TT.step fun dV hr hi=>(h dV.w (hF dV hr hi)).2.elim dV hr hi
  ·refine TT.step fun dV hr hi=>⟨fun hl=>absurd hl (hlv dV hr hi),?_⟩;have h1:=h dV.w (hF dV hr hi);cases hg:stepG C.P (i==0) g dV.w with
   |go g' w' es=>
    rw[hg]at h1;simp only[goes_go]at h1;obtain⟨⟨rfl,rfl⟩,h2⟩:=h1;have hrun:g'.status=.running:=by
     cases n with
     |zero=>exact(h2 dV.w (hF dV hr hi)).1
     |succ n=>exact h2.elim (fun h2=>(h2 dV.w (hF dV hr hi)).1) fun h2=>h2.1
    have ih:=TT.walk ok hF hlv n g' dV.w h2;have e:(⟨dV.w,dV.t++aA i g.frame.fn g.frame.place #[],dV.γ⟩:St Γ)=dV:=by rw[ofEvents_none,Array.append_empty]
    unfold iR;rw[hg];refine .inr ⟨dV.γ,by rw[e];exact hi,by rw[e],fun j hj=>by rw[e];exact ok.refl j dV,.inr fun k _ hw=>by rw[e];exact hw,?_⟩;rw[e];exact .inl ⟨hrun,ih.rely (ok.trans i) hr⟩
   |_=>rw[hg]at h1;exact h1.elim
end
section
variable{q:iK}{i:Nat}{Ch:Nat->ah->St eD->Prop}
theorem TT.act{g:ah}{st:St eD}(h:∀dV,Rl i st dV->Inv q dV->¬Lvs i dV/\∃g' w' es γ',stepG q.P (i==0) g dV.w=.go g' w' es/\g'.status=.running/\γ'.num=dV.γ.num/\
   (Inv q ⟨w',dV.t++aA i g.frame.fn g.frame.place es,γ'⟩/\∀j,j≠i->Rl j dV ⟨w',dV.t++aA i g.frame.fn g.frame.place es,γ'⟩)/\
   (mayWake q.P g=true\/∀k,k≠i->Wt k dV->Wt k ⟨w',dV.t++aA i g.frame.fn g.frame.place es,γ'⟩)/\TT (cfg q) i Ch g' ⟨w',dV.t++aA i g.frame.fn g.frame.place es,γ'⟩):TT (cfg q) i Ch g st:=
 TT.step fun dV hr hi=>by
  obtain⟨hl,g',w',es,γ',h1,h2,h3,⟨h4,h5⟩,h6,h7⟩:=h dV hr hi;exact⟨fun x=>absurd x hl,iR.own (C:=cfg q) h1 h2 h4 h3 h5 h6 h7⟩
def EvS(s:eI)(i:Nat)(e:Event):Prop:=
 (∃b off x,e=⟨ca b off,x,true⟩/\((b=s.Gb/\3<=off/\off<6)\/(b=s.Wg/\off<2)))\/(∃m,e.loc=.mark m/\(∀a,m≠ .release a)/\(∀a,m≠ .read a)/\∀a,m≠ .write a)\/(i=0/\∃off,off<2/\(e.loc=.mark (.read ⟨s.Wg,off,none⟩)\/e.loc=.mark (.write ⟨s.Wg,off,none⟩)))
theorem EvS.touch{s:eI}{e:Event}(h:EvS s i e){x:Touch}(hx:(bJ e).touch?=some x):(∃b off,x.loc=ca b off/\x.kind=.atomic/\((b=s.Gb/\3<=off/\off<6)\/(b=s.Wg/\off<2))/\e=⟨ca b off,x.write,true⟩)\/
  (i=0/\∃off,off<2/\x.loc=ca s.Wg off/\x.kind=.said):=by
 rcases h with⟨b,off,xw,rfl,hb⟩|⟨m,hm,h1,h2,h3⟩|⟨h0,off,ho,hm⟩
 ·rcases pG _ _ hx with⟨rfl,_⟩|⟨a,ha,_⟩|⟨a,ha,_⟩
  ·exact .inl ⟨b,off,rfl,rfl,hb,rfl⟩
  ·cases ha
  ·cases ha
 ·rcases pG _ _ hx with⟨_,hn⟩|⟨a,ha,_⟩|⟨a,ha,_⟩
  ·exact absurd hm (hn m)
  ·rw[hm]at ha;cases ha;exact absurd rfl (h2 a)
  ·rw[hm]at ha;cases ha;exact absurd rfl (h3 a)
 ·rcases pG _ _ hx with⟨_,hn⟩|⟨a,ha,rfl⟩|⟨a,ha,rfl⟩
  ·rcases hm with hm|hm<;>exact absurd hm (hn _)
  ·rcases hm with hm|hm<;>rw[hm]at ha<;>cases ha
   exact .inr ⟨h0,off,ho,rfl,rfl⟩
  ·rcases hm with hm|hm<;>rw[hm]at ha<;>cases ha
   exact .inr ⟨h0,off,ho,rfl,rfl⟩
structure ba7(γ' γ:eD):Prop where
 ex:γ'.ex=γ.ex
 rd:γ'.rd=γ.rd
 sh:γ'.sh=γ.sh
 dead:γ'.dead=γ.dead
 sc:γ'.sc=γ.sc
 num:γ'.num=γ.num
theorem Inv.act{st:St eD}(h:Inv q st){s:eI}(hs:st.γ.sc=some s)(hi:Mem s st.γ i){fn:ak}{pos:String}{es:Array Event}{w':ae}{γ':eD}(hF:ba7 γ' st.γ)(hev:∀e∈es,EvS s i e)(hg3:∀e∈es,e≠⟨ca s.Gb 3,true,true⟩)
  (hsz:w'.heap.size=st.w.heap.size)(hblk:∀b,b≠s.Gb->b≠s.Wg->w'.heap[b]?=st.w.heap[b]?)(hsh:∀off,6<=off->off<16->w'.cell? ⟨s.Gb,off,none⟩=st.w.cell? ⟨s.Gb,off,none⟩)(hos:OsLater st.w.os w'.os)(hout:w'.output=st.w.output)
  (hwk:∀j,j≠i->γ'.wk j=st.γ.wk j)(zM:i≠0->γ'.mw=st.γ.mw/\γ'.dm=st.γ.dm)(h0:i=0->γ'.dm=deafBehind st.γ.dm es/\γ'.wk 0=st.γ.wk 0/\γ'.mw≠ .solo)(mg:i≠0->(γ'.wk i).df=deafBehind (st.γ.wk i).df es/\(γ'.wk i).wg≠ .gone)
  (hC:gL q s ⟨w',st.t++aA i fn pos es,γ'⟩)(hP:sf s γ')(hD:γ'.D=st.γ.D)(mS:(∀j,(γ'.wk j).mx≠ .own .work)->∀j,(st.γ.wk j).mx≠ .own .work)(lH:(γ'.wk i).wg≠ .work->s.n0<=i->(st.γ.wk i).wg≠ .work)
  (hr:s.n0<=i->(st.γ.wk i).wg≠ .work->∀k,st.t.size<=k->(st.t++aA i fn pos es).g? k=some i->¬(st.t++aA i fn pos es).counts k/\∀a,touchAt (st.t++aA i fn pos es) k=some a->ij a.loc=some s.Wg)
  (JK:phi γ' s<=phi st.γ s/\(phi γ' s=phi st.γ s->γ'.L=st.γ.L/\γ'.W=st.γ.W/\γ'.S=st.γ.S/\γ'.N=st.γ.N))(Mm:i≠0->pI γ' s<=pI st.γ s/\(pI γ' s=pI st.γ s->γ'.gs=st.γ.gs))(JO:st.γ.N<=γ'.N\/∀j,j≠i->s.n0<=j->j<s.n0+s.n->(st.γ.wk j).mx≠ .woken true):
  Inv q ⟨w',st.t++aA i fn pos es,γ'⟩/\∀j,j≠i->Rl j st ⟨w',st.t++aA i fn pos es,γ'⟩:=by
 have x:=h.eZ s hs;have A:=h.base.tr.FD;have Ui:i<st.γ.num:=by rcases hi with rfl|hi;exact h.base.pos;exact hi.2
 have CJ:st.γ.old=s.n0:=by unfold eD.old;rw[hs]
 have hold:γ'.old=st.γ.old:=by unfold eD.old;rw[hF.sc,hF.num]
 have hl:=x.c.OD;have mU:∀op∈aA i fn pos es,op.g=i:=fun op ho=>by obtain⟨e,_,rfl⟩:=gQ ho;rfl
 have wz:∀op∈aA i fn pos es,∀y,op.act.touch?=some y->May st.w.heap.size st.γ.ex st.γ.rd st.γ.sh i y/\(∀b,ij y.loc=some b->b<w'.heap.size)/\(∀off,6<=off->off<16->y.loc≠ca s.Gb off)/\(y.loc=ca s.Gb 3->y.write=false):=by
  intro op ho y hy;obtain⟨e,he,rfl⟩:=gQ ho;obtain⟨s1,s2⟩:=x.p.KU i hi;rcases (hev e he).touch hy with⟨b,off,e1,e2,e3,e4⟩|⟨rfl,off,ho,e1,e2⟩
  ·refine⟨.inr (.inr (.inr (.inl ⟨?_,.inl e2⟩))),fun b' hb'=>?_,fun o o1 o2 e5=>?_,fun e5=>?_⟩
   ·rw[e1];rcases e3 with⟨rfl,a,b⟩|⟨rfl,a⟩
    ·exact s1 off a b
    ·exact s2 off a
   ·rw[e1]at hb';have:b=b':=by unfold ca ij at hb';simpa using hb'
    subst this;rw[hsz];rcases e3 with⟨rfl,_⟩|⟨rfl,_⟩<;>omega
   ·rw[e1]at e5;unfold ca at e5;simp at e5<;>(rcases e3 with⟨_,a,b⟩|⟨e3,_⟩<;>first|omega|exact x.c.ne.1 (e5.1.symm.trans e3))
   ·rw[e1]at e5;have e6:b=s.Gb/\off=3:=by unfold ca at e5;simpa using e5
    cases hw:y.write with
    |false=>rfl
    |true=>exact absurd (by rw[e4,hw,e6.1,e6.2]) (hg3 e he)
  ·refine⟨.inr (.inr (.inr (.inl ⟨by rw[e1];exact s2 off ho,.inr ⟨e2,rfl⟩⟩))),fun b' hb'=>?_,fun o o1 o2 e5=>?_,fun e5=>?_⟩
   ·rw[e1]at hb';have:s.Wg=b':=by unfold ca ij at hb';simpa using hb'
    omega
   ·rw[e1]at e5;unfold ca at e5;simp at e5<;>exact x.c.ne.1 e5.1.symm
   ·rw[e1]at e5;unfold ca at e5;simp at e5<;>exact absurd e5.1.symm x.c.ne.1
 have hnr:∀op∈aA i fn pos es,∀a,op.act≠ .mark (.release a):=by
  intro op ho a e;obtain⟨e',he,rfl⟩:=gQ ho;have e2:=(nO e' _).1 e;rcases hev e' he with⟨b,off,xw,rfl,_⟩|⟨m,hm,h1,_⟩|⟨_,off,_,hm|hm⟩
  ·cases e2
  ·rw[hm]at e2;cases e2;exact h1 a rfl
  ·rw[hm]at e2;cases e2
  ·rw[hm]at e2;cases e2
 have htr:FH (st.t++aA i fn pos es) st.γ.num w'.heap.size st.γ.ex st.γ.rd st.γ.sh:=by
  have t1:=h.base.tr.step (cP hsz.symm) Ui mU (fun op ho y hy=>(wz op ho y hy).1) (fun op ho y hy=>(wz op ho y hy).2.1) hnr;refine t1.sub (by rw[hsz];exact A) (fun g l hl=>.inl hl) (fun g l hl=>.inl hl) fun g l hl=>.inl hl
 refine⟨⟨h.base.step Ui (by rcases hi with hi|hi;exact .inl hi;exact .inr (by rw[CJ];exact hi.1)) (cP hsz.symm) (by rw[hF.ex,hF.rd,hF.sh,hF.num];exact htr) hF.num hold (fun b=>by rw[hF.dead]) hF.sc hos hout ?_ hwk (fun hne=>(mg hne).1) (fun hne=>(mg hne).2) (fun he=>(h0 he).2.1) (fun g l hl=>?_) (fun h0 e he y hy=>?_),?_,fun s' hs'=>?_⟩,fun j hj=>?_⟩
 ·split
  ·rename_i e;exact(h0 e).1
  ·rename_i e;exact(zM e).2
 ·rw[hF.ex,hF.rd,hF.sh]at hl;rw[hF.num];exact h.base.pool g l hl
 ·rcases (hev e he).touch hy with⟨b,off,e1,e2,_⟩|⟨e0,_⟩
  ·rw[e2];simp
  ·exact absurd e0 h0
 ·show γ'.sc=none↔γ'.mw=.solo;rw[hF.sc,hs];by_cases e:i=0
  ·exact⟨fun hn=>(by cases hn),fun hn=>absurd hn (h0 e).2.2⟩
  ·rw[(zM e).1,<-hs];exact h.solo
 ·have hs':γ'.sc=some s':=hs';rw[hF.sc,hs]at hs';cases hs';refine⟨hC,hP,x.t.app mU hD hF.num mS (fun j hj jz hw=>?_) (fun op ho y hy=>(wz op ho y hy).2.2) hr⟩;by_cases e:j=i
  ·subst e;exact lH hw hj
  ·rw[hwk j e]at hw;exact hw
 ·refine Rl.other hj (size:=0) A (cP hsz.symm) (fun l hl=>by show γ'.ex j l;rw[hF.ex];exact hl) (fun l hl=>by show γ'.rd j l;rw[hF.rd];exact hl) (fun b=>?_) hwk (fun hne=>⟨(zM hne).1,(zM hne).2,hF.num,fun b=>by show γ'.dead b↔_;rw[hF.dead]⟩) hF.sc (fun s' hs'=>?_) (fun s' hs' hne=>?_) (fun hw=>⟨hD,fun s' hs' off o1 o2=>?_⟩) (fun hz hw hg=>JO.resolve_right fun hh=>hh j hj ?_ ?_ hw) (cP hF.num.symm)
  ·by_cases e1:b=s.Gb
   ·exact .inr (.inr (.inr (by rw[e1];exact x.p.spec j s.Gb (.inl rfl))))
   ·by_cases e2:b=s.Wg
    ·exact .inr (.inr (.inr (by rw[e2];exact x.p.spec j s.Wg (.inr (.inl rfl)))))
    ·exact .inl (hblk b e1 e2)
  ·rw[hs]at hs';cases hs';exact⟨JK.1,JK.2,fun hd=>hD.trans hd⟩
  ·rw[hs]at hs';cases hs';exact Mm hne
  ·rw[hs]at hs';cases hs';exact hsh off o1 o2
  ·refine Nat.le_of_not_lt fun hlt=>?_;rcases h.base.old j (by omega) (by rw[CJ];exact hlt)with e|e<;>rw[hg]at e<;>cases e
  ·refine Nat.lt_of_not_le fun hge=>?_;have:=x.c.new j (by have:=x.c.n0;omega)
   rw[this]at hg;cases hg
end
end
section
open Go.ConcR (KK wgBlock WgAt stA smA rd wr mk DC0)
structure At(s:eI)(i:Nat)(x:Wk)(st:St eD):Prop where
 ne:i≠0
 sc:st.γ.sc=some s
 lo:s.n0<=i
 lt:i<st.γ.num
 me:st.γ.wk i=x
 fz:∀b o,(b,o)∈x.keep->st.w.heap[b]?=some o/\∀off,st.γ.rd i (ca b off)
section
variable{q:iK}{i:Nat}{s:eI}{x:Wk}
theorem At.rely{st dV:St eD}(h:At s i x st)(hx:x.wg≠ .lv/\x.wg≠ .gone/\x.wg≠ .idle)(hr:Rl i st dV)(hi:Inv q dV):At s i x dV:=by
 have e1:dV.γ.sc=some s:=(hr.sc (.inr (by rw[h.me];exact hx))).trans h.sc;have e2:dV.γ.wk i=x:=(hr.me h.ne).trans h.me;have hl:Live i st:=.inr (by rw[h.me];exact⟨hx.1,hx.2.1⟩);refine⟨h.ne,e1,h.lo,Nat.lt_of_not_le fun hge=>?_,e2,fun b o hb=>⟨(hr.blk hl b (.inr (h.fz b o hb).2)).trans (h.fz b o hb).1,fun off=>hr.rd hl _ ((h.fz b o hb).2 off)⟩⟩;have:=(hi.eZ s e1).c.new i hge
 rw[e2]at this;rw[this]at hx;exact hx.2.2 rfl
theorem At.hi{st:St eD}(h:At s i x st)(hi:Inv q st):i<s.n0+s.n:=by
 have:=(hi.eZ s h.sc).c.n0
 have:=h.lt
 omega
theorem At.apart{st:St eD}(h:At s i x st)(hi:Inv q st){b:Nat}{o:Obj}(hb:(b,o)∈x.keep):b≠s.Gb/\b≠s.Wg/\b≠s.Zb/\b≠s.Rb:=by
 have p:=(hi.eZ s h.sc).p.spec i;have hr:=(h.fz b o hb).2;refine⟨fun e=>?_,fun e=>?_,fun e=>?_,fun e=>?_⟩
 ·obtain⟨_,o',ho⟩:=p s.Gb (.inl rfl);exact ho (e ▸ hr o')
 ·obtain⟨_,o',ho⟩:=p s.Wg (.inr (.inl rfl));exact ho (e ▸ hr o')
 ·obtain⟨_,o',ho⟩:=p s.Zb (.inr (.inr (.inl rfl)));exact ho (e ▸ hr o')
 ·obtain⟨_,o',ho⟩:=p s.Rb (.inr (.inr (.inr rfl)));exact ho (e ▸ hr o')
theorem At.next{st dY:St eD}(h:At s i x st)(hi:Inv q st){x':Wk}(hk:x'.keep=x.keep)(hsc:dY.γ.sc=st.γ.sc)(iC:dY.γ.num=st.γ.num)(hme:dY.γ.wk i=x')(hrd:∀l,st.γ.rd i l->dY.γ.rd i l)(hb:∀b,b≠s.Gb->b≠s.Wg->b≠s.Zb->b≠s.Rb->dY.w.heap[b]?=st.w.heap[b]?):At s i x' dY:=by
 refine⟨h.ne,hsc.trans h.sc,h.lo,by rw[iC];exact h.lt,hme,fun b o Yk=>?_⟩;rw[hk]at Yk;obtain⟨a1,a2,a3,a4⟩:=h.apart hi Yk;exact⟨(hb b a1 a2 a3 a4).trans (h.fz b o Yk).1,fun off=>hrd _ ((h.fz b o Yk).2 off)⟩
theorem At.mem{st:St eD}(h:At s i x st):Mem s st.γ i:=.inr ⟨h.lo,h.lt⟩
theorem At.nH{st:St eD}(h:At s i x st)(hx:x.wg≠ .lv/\x.wg≠ .gone):¬Lvs i st:=fun hl=>by
 have:=hl.2
 rw[h.me]at this;exact this.elim hx.1 hx.2
def eD.setMu(γ:eD)(i:Nat)(x:Wk)(L W S N tn th:Nat):eD:={γ with wk:=upd γ.wk i x,L:=L,W:=W,S:=S,N:=N,tn:=tn,th:=th}
theorem Io(γ:eD)(i:Nat)(x:Wk)(L W S N tn th:Nat):(γ.setMu i x L W S N tn th).mm=upd γ.mm i x.mx:=by
 funext j;unfold eD.mm eD.setMu upd;by_cases e:j=i<;>simp[e]
theorem iq{p:WG->Bool}{γ γ':eD}(h:∀j,(γ'.wk j).wg=(γ.wk j).wg)(s:eI):gj p γ' s=gj p γ s:=by
 unfold gj;simp only[h]
theorem qT{γ γ':eD}(h:∀j,(γ'.wk j).wg=(γ.wk j).wg)(s:eI):pI γ' s=pI γ s:=by
 unfold pI;simp only[h]
theorem kK.of{γ γ':eD}{w w':ae}(h:kK q s γ w)(hb:w'.heap[s.Gb]?=w.heap[s.Gb]?)(hD:γ'.D=γ.D)(hw:γ'.L=γ.L/\γ'.W=γ.W/\γ'.S=γ.S/\γ'.N=γ.N)(ht:γ'.tn+γ'.th=γ.tn+γ.th):kK q s γ' w':=by
 unfold kK at h ⊢;rw[hb,hD,hw.1,hw.2.1,hw.2.2.1,hw.2.2.2,ht];exact h
theorem kK.cell{γ:eD}{w:ae}(h:kK q s γ w):w.cell? ⟨s.Gb,3,none⟩=some (.int .u32 γ.D)/\w.cell? ⟨s.Gb,4,none⟩=some (.int .i32 (enc γ.L γ.W γ.S γ.N))/\w.cell? ⟨s.Gb,5,none⟩=some (.int .u32 ((γ.tn+γ.th:Nat):Int))/\∀off,w.frozen? ⟨s.Gb,off,none⟩=false:=by
 obtain⟨C,h1,h2,h3,h4,h5,h6,h7,h8,h9⟩:=h;refine⟨?_,?_,?_,fun off=>?_⟩
 ·simp[bM,h1,h6]
 ·simp[bM,h1,h7]
 ·simp[bM,h1,h8]
 ·simp[World.frozen?,h1]
theorem C8{w:ae}{C:Array af}(h:w.heap[s.Gb]?=some (.cells C q.tG))(off:Nat)(v:af):(w.setCell ⟨s.Gb,off,none⟩ v).heap[s.Gb]?=some (.cells (C.setIfInBounds off v) q.tG):=by
 rw[setCell_eq_setRow w s.Gb off C q.tG (0,0) v h,setRow_heap w s.Gb _ _ q.tG _ h]
theorem kK.bn8{γ:eD}{w:ae}(h:kK q s γ w){γ':eD}(hD:γ'.D=γ.D)(ht:γ'.tn+γ'.th=γ.tn+γ.th){v:Int}(hv:v=enc γ'.L γ'.W γ'.S γ'.N):kK q s γ' (w.setCell ⟨s.Gb,4,none⟩ (.int .i32 v)):=by
 obtain⟨C,h1,h2,h3,h4,h5,h6,h7,h8,h9,h10⟩:=h;refine⟨_,C8 h1 4 _,by simpa using h2,?_,?_,?_,?_,?_,?_,fun k k1 k2=>?_,fun e id i1 i2=>?_⟩
 ·rw[aB (by omega)];exact h3
 ·rw[aB (by omega)];exact h4
 ·rw[aB (by omega)];exact h5
 ·rw[aB (by omega),hD];exact h6
 ·rw[aW (by omega),hv]
 ·rw[aB (by omega),ht];exact h8
 ·rw[aB (by omega)];exact h9 k k1 k2
 ·rw[aB (by omega)];exact h10 (by omega) id i1 i2
theorem kK.bn7{γ:eD}{w:ae}(h:kK q s γ w){γ':eD}(hD:γ'.D=γ.D)(hw:γ'.L=γ.L/\γ'.W=γ.W/\γ'.S=γ.S/\γ'.N=γ.N){v:Int}(hv:v=((γ'.tn+γ'.th:Nat):Int)):kK q s γ' (w.setCell ⟨s.Gb,5,none⟩ (.int .u32 v)):=by
 obtain⟨C,h1,h2,h3,h4,h5,h6,h7,h8,h9,h10⟩:=h;refine⟨_,C8 h1 5 _,by simpa using h2,?_,?_,?_,?_,?_,?_,fun k k1 k2=>?_,fun e id i1 i2=>?_⟩
 ·rw[aB (by omega)];exact h3
 ·rw[aB (by omega)];exact h4
 ·rw[aB (by omega)];exact h5
 ·rw[aB (by omega),hD];exact h6
 ·rw[aB (by omega),hw.1,hw.2.1,hw.2.2.1,hw.2.2.2];exact h7
 ·rw[aW (by omega),hv]
 ·rw[aB (by omega)];exact h9 k k1 k2
 ·rw[aB (by omega)];exact h10 (by omega) id i1 i2
structure eW(s:eI)(w w':ae):Prop where
 size:w'.heap.size=w.heap.size
 blk:∀b,b≠s.Gb->w'.heap[b]?=w.heap[b]?
 sh:∀off,6<=off->off<16->w'.cell? ⟨s.Gb,off,none⟩=w.cell? ⟨s.Gb,off,none⟩
 os:OsLater w.os w'.os
 out:w'.output=w.output
theorem eW.refl(w:ae):eW s w w:=⟨rfl,fun _ _=>rfl,fun _ _ _=>rfl,.refl _,rfl⟩
theorem eW.later(w:ae):eW s w w.later:=⟨rfl,fun _ _=>rfl,fun _ _ _=>rfl,⟨w.tick,rfl⟩,rfl⟩
theorem eW.asked(w:ae):eW s w w.asked:=⟨rfl,fun _ _=>rfl,fun _ _ _=>rfl,.refl _,rfl⟩
theorem eW.set(w:ae)(off:Nat)(v:af)(h:off<6):eW s w (w.setCell ⟨s.Gb,off,none⟩ v):=
 have A:=aside_setCell w ⟨s.Gb,off,none⟩ v
 ⟨A.size,fun b hb=>A.block b hb,fun o o1 o2=>World.cell?_setCell_other _ ⟨s.Gb,off,none⟩ ⟨s.Gb,o,none⟩ _ (by simp<;>omega),by rw[A.os];exact .refl _,A.output⟩
theorem Inv.mu{st:St eD}(h:Inv q st)(hA:At s i x st)(hx:x.wg=.work){x':Wk}(hx':x'={x with mx:=x'.mx,df:=x'.df}){es:Array Event}(mg:x'.df=deafBehind x.df es)
  (n1:x.mx≠ .own .work)(n2:x'.mx≠ .own .work)(n3:x'.mx=.own .dn->st.γ.D=1){L W S N tn th:Nat}(hm:jJ (upd st.γ.mm i x'.mx) s.n0 s.n L W S N tn th){w':ae}(hG:kK q s (st.γ.setMu i x' L W S N tn th) w')(hE:eW s st.w w')
  (hp:kF x'.mx+3*(tn+th)<kF x.mx+3*(st.γ.tn+st.γ.th)\/(kF x'.mx+3*(tn+th)=kF x.mx+3*(st.γ.tn+st.γ.th)/\L=st.γ.L/\W=st.γ.W/\S=st.γ.S/\N=st.γ.N))(hN:st.γ.N<=N\/∀j,j≠i->s.n0<=j->j<s.n0+s.n->(st.γ.wk j).mx≠ .woken true)(hev:∀e∈es,EvS s i e/\e≠⟨ca s.Gb 3,true,true⟩)(fn:ak)(pos:String):
  (Inv q ⟨w',st.t++aA i fn pos es,st.γ.setMu i x' L W S N tn th⟩/\∀j,j≠i->Rl j st ⟨w',st.t++aA i fn pos es,st.γ.setMu i x' L W S N tn th⟩)/\
   phi (st.γ.setMu i x' L W S N tn th) s+kF x.mx+3*(st.γ.tn+st.γ.th)=phi st.γ s+kF x'.mx+3*(tn+th):=by
 have X:=h.eZ s hA.sc;have hi2:=hA.hi h;have e1:x'.wg=.work:=by rw[hx'];exact hx
 have e2:x'.zw=x.zw:=by rw[hx']
 have e3:x'.rw=x.rw:=by rw[hx']
 have e4:x'.syn=x.syn:=by rw[hx']
 have hwk:∀j,(st.γ.setMu i x' L W S N tn th).wk j=if j=i then x' else st.γ.wk j:=fun j=>rfl;have lH:∀j,((st.γ.setMu i x' L W S N tn th).wk j).wg=(st.γ.wk j).wg:=fun j=>by
  rw[hwk];split
  ·rename_i e;subst e;rw[hA.me,hx,e1]
  ·rfl
 have V6:∀j,((st.γ.setMu i x' L W S N tn th).wk j).zw=(st.γ.wk j).zw:=fun j=>by
  rw[hwk];split
  ·rename_i e;subst e;rw[hA.me,e2]
  ·rfl
 have Ud:∀j,((st.γ.setMu i x' L W S N tn th).wk j).rw=(st.γ.wk j).rw:=fun j=>by
  rw[hwk];split
  ·rename_i e;subst e;rw[hA.me,e3]
  ·rfl
 have oD:∀j,((st.γ.setMu i x' L W S N tn th).wk j).syn=(st.γ.wk j).syn:=fun j=>by
  rw[hwk];split
  ·rename_i e;subst e;rw[hA.me,e4]
  ·rfl
 have hmx:∀j,j≠i->((st.γ.setMu i x' L W S N tn th).wk j).mx=(st.γ.wk j).mx:=fun j hj=>by rw[hwk,if_neg hj]
 have aW9:((st.γ.setMu i x' L W S N tn th).wk i).mx=x'.mx:=by rw[hwk,if_pos rfl]
 have mS:∀j,((st.γ.setMu i x' L W S N tn th).wk j).mx=.own .work->(st.γ.wk j).mx=.own .work:=fun j hj=>by
  by_cases e:j=i
  ·subst e;rw[aW9]at hj;exact absurd hj n2
  ·rwa [hmx j e]at hj
 have JK:phi (st.γ.setMu i x' L W S N tn th) s+kF x.mx+3*(st.γ.tn+st.γ.th)=phi st.γ s+kF x'.mx+3*(tn+th):=by
  have:=Gg st.γ.mm (a:=s.n0) s.n x'.mx (st.γ.tn+st.γ.th) (tn+th) hA.lo hi2
  unfold phi;rw[Io];have e:kF (st.γ.mm i)=kF x.mx:=by unfold eD.mm;rw[hA.me]
  show RG (upd st.γ.mm i x'.mx) s.n0 s.n (tn+th)+_+_=_;omega
 have c:=X.c;refine⟨h.act hA.sc hA.mem (γ':=st.γ.setMu i x' L W S N tn th) ⟨rfl,rfl,rfl,rfl,rfl,rfl⟩ (fun e he=>(hev e he).1) (fun e he=>(hev e he).2) hE.size (fun b hb _=>hE.blk b hb) hE.sh hE.os hE.out (fun j hj=>by rw[hwk,if_neg hj]) (fun _=>⟨rfl,rfl⟩) (fun e=>absurd e hA.ne) (fun _=>?_) ?_ ?_ rfl (fun hn j hj=>?_) (fun hw _=>by rw[lH]at hw;exact hw) (fun _ hw=>absurd (by rw[hA.me];exact hx) hw) ?_ (fun _=>?_) hN,JK⟩
 ·rw[hwk,if_pos rfl,hA.me];exact⟨mg,by rw[e1];simp⟩
 ·refine⟨c.n0,hG,c.qL.of_block (hE.blk _ c.ne.1.symm),?_,?_,c.ne,by rw[show(St.mk w' (st.t++aA i fn pos es) (st.γ.setMu i x' L W S N tn th)).γ.mm=upd st.γ.mm i x'.mx from Io ..];exact hm,c.D1,fun j hj=>c.work j (mS j hj),fun j hj=>?_,fun j h0 hj=>c.syn j h0 (by rw[<-oD j];exact hj),fun j hj=>?_,fun j h1 h2=>?_,fun j h1 h2 h3=>?_,c.all,?_⟩
  ·obtain⟨Z,z1,z2,z3,z4⟩:=c.zb;exact⟨Z,(hE.blk _ c.ne.2.1.symm).trans z1,z2,z3,fun k k1 k2=>z4 k k1 ((V6 _).symm.trans k2)⟩
  ·obtain⟨Z,z1,z2,z3,z4⟩:=c.rb;exact⟨Z,(hE.blk _ c.ne.2.2.1.symm).trans z1,z2,z3,fun k k1 k2=>z4 k k1 ((Ud _).symm.trans k2)⟩
  ·by_cases e:j=i
   ·subst e;have hj:((st.γ.setMu j x' L W S N tn th).wk j).mx=.own .dn:=hj;rw[aW9]at hj;exact n3 hj
   ·have hj:((st.γ.setMu i x' L W S N tn th).wk j).mx=.own .dn:=hj;rw[hmx j e]at hj;exact c.dn j hj
  ·have hne:j≠i:=by have:=hA.lt;have hj:st.γ.num<=j:=hj;omega
   show(st.γ.setMu i x' L W S N tn th).wk j=.new;rw[hwk,if_neg hne];exact c.new j hj
  ·show((st.γ.setMu i x' L W S N tn th).wk j).wg≠ .idle;rw[lH];exact c.on j h1 h2
  ·have h2:((st.γ.setMu i x' L W S N tn th).wk j).wg≠ .idle:=h2;have h3:((st.γ.setMu i x' L W S N tn th).wk j).wg≠ .work:=h3;rw[lH]at h2 h3;have hne:j≠i:=fun e=>h3 (by rw[e,hA.me];exact hx);show((st.γ.setMu i x' L W S N tn th).wk j).zw=true/\((st.γ.setMu i x' L W S N tn th).wk j).rw=true/\(((st.γ.setMu i x' L W S N tn th).wk j).mx=.fresh\/_=_);rw[hwk,if_neg hne];exact c.fin j h1 h2 h3
  ·show xh st.γ.mw (gj WG.cd (st.γ.setMu i x' L W S N tn th) s) (gj (·== .d2) (st.γ.setMu i x' L W S N tn th) s) (gj (·== .d3) (st.γ.setMu i x' L W S N tn th) s) (gj (·== .d4) (st.γ.setMu i x' L W S N tn th) s) st.γ.gs st.γ.gm;rw[iq lH,iq lH,iq lH,iq lH];exact c.sD
 ·have p:=X.p;refine⟨p.spec,fun k k1 k2 k3=>p.Hy k k1 k2 (by rw[<-lH];exact k3),p.MH,p.KW,p.KU,fun j hj=>p.UO j (mS j hj),fun j h0 hj=>p.SP j h0 (by rw[<-oD];exact hj),fun hn=>p.DX fun j hj=>?_⟩;by_cases e:j=i
  ·subst e;rw[hA.me]at hj;exact n1 hj
  ·exact hn j (by rw[hmx j e];exact hj)
 ·by_cases e:j=i
  ·subst e;rw[hA.me]at hj;exact n1 hj
  ·exact hn j (by rw[hmx j e];exact hj)
 ·refine⟨by omega,fun e=>?_⟩;rcases hp with hp|hp
  ·omega
  ·exact⟨hp.2.1,hp.2.2.1,hp.2.2.2.1,hp.2.2.2.2⟩
 ·rw[qT lH];exact⟨aH _,fun _=>rfl⟩
theorem R6{st st':St eD}(hsc:st'.γ.sc=st.γ.sc)(zM:st'.γ.mw=st.γ.mw)(Hu:st'.γ.gm=st.γ.gm)(aU7:st'.γ.tn+st'.γ.th<=st.γ.tn+st.γ.th){i:Nat}(hwk:∀k,k≠i->st'.γ.wk k=st.γ.wk k):∀k,k≠i->Wt k st->Wt k st':=fun k hk hw=>by
 obtain⟨h1,h2⟩:=hw;refine⟨by rw[hsc];exact h1,h2.imp (fun⟨a,b,c⟩=>⟨a,zM.trans b,Hu.trans c⟩) fun⟨a,b,c,d⟩=>⟨a,by rw[hwk k hk];exact b,by omega,by rw[hwk k hk];exact d⟩⟩
variable{Ch:Nat->ah->St eD->Prop}
theorem TT.mu{P:au}(hP:q.P=P){g:ah}{st:St eD}(hA:At s i x st)(hx:x.wg=.work){mx:MX}(hmx:x.mx=mx)(n1:mx≠ .own .work)
  (h:∀dV,At s i x dV->Inv q dV->gL q s dV->phi dV.γ s<=phi st.γ s->(phi dV.γ s=phi st.γ s->dV.γ.L=st.γ.L/\dV.γ.W=st.γ.W/\dV.γ.S=st.γ.S/\dV.γ.N=st.γ.N)->(st.γ.D=1->dV.γ.D=1)->(mx=.woken true->st.γ.N<=dV.γ.N)->
   ∃g' w' es mx' RQ L W S N tn th,stepG P (i==0) g dV.w=.go g' w' es/\g'.status=.running/\RQ=deafBehind x.df es/\mx'≠ .own .work/\(mx'=.own .dn->dV.γ.D=1)/\
    jJ (upd dV.γ.mm i mx') s.n0 s.n L W S N tn th/\kK q s (dV.γ.setMu i {x with mx:=mx',df:=RQ} L W S N tn th) w'/\eW s dV.w w'/\
    (kF mx'+3*(tn+th)<kF mx+3*(dV.γ.tn+dV.γ.th)\/(kF mx'+3*(tn+th)=kF mx+3*(dV.γ.tn+dV.γ.th)/\L=dV.γ.L/\W=dV.γ.W/\S=dV.γ.S/\N=dV.γ.N))/\(dV.γ.N<=N\/∀j,j≠i->s.n0<=j->j<s.n0+s.n->(dV.γ.wk j).mx≠ .woken true)/\
    (∀e∈es,EvS s i e/\e≠⟨ca s.Gb 3,true,true⟩)/\(mayWake P g=true\/tn+th<=dV.γ.tn+dV.γ.th)/\
    ∀dY,At s i {x with mx:=mx',df:=RQ} dY->Inv q dY->dY.w=w'->dY.γ.L=L/\dY.γ.W=W/\dY.γ.S=S/\dY.γ.N=N->dY.γ.D=dV.γ.D->phi dY.γ s+kF mx+3*(dV.γ.tn+dV.γ.th)=phi dV.γ s+kF mx'+3*(tn+th)->TT (cfg q) i Ch g' dY):
  TT (cfg q) i Ch g st:=by
 subst hP hmx;exact TT.act fun dV hr hi=>by
  have hA1:=hA.rely (by rw[hx];simp) hr hi;obtain⟨p1,p2,p3⟩:=hr.phi hA.ne (by rw[hA.me,hx];simp) (by rw[hA.me,hx];simp) s hA.sc;obtain⟨g',w',es,mx',RQ,L,W,S,N,tn,th,h1,h2,h3,h4,h5,h6,h7,h8,h9,h9',h10,h11,h12⟩:=h dV hA1 hi (hi.eZ s hA1.sc).c p1 p2 p3 fun e=>hr.hand hA.ne (by rw[hA.me];exact e) (by rw[hA.me];exact hx);obtain⟨⟨k1,k2⟩,k3⟩:=hi.mu hA1 hx (x':={x with mx:=mx',df:=RQ}) rfl h3 n1 h4 h5 h6 h7 h8 h9 h9' h10 g.frame.fn g.frame.place;refine⟨hA1.nH (by rw[hx];simp),g',w',es,dV.γ.setMu i {x with mx:=mx',df:=RQ} L W S N tn th,h1,h2,rfl,⟨k1,k2⟩,?_,h12 _ (hA1.next hi rfl rfl rfl (by simp[eD.setMu,upd]) (fun _ h=>h) fun b a1 _ _ _=>h8.blk b a1) k1 rfl ⟨rfl,rfl,rfl,rfl⟩ rfl k3⟩;exact h11.imp id fun(ht:tn+th<=dV.γ.tn+dV.γ.th)=>R6 (st:=dV) (st':=⟨w',dV.t++aA i g.frame.fn g.frame.place es,dV.γ.setMu i {x with mx:=mx',df:=RQ} L W S N tn th⟩) rfl rfl rfl ht fun k hk=>upd_ne _ _ hk
theorem TT.road{P:au}(hP:q.P=P){g:ah}{st:St eD}(hA:At s i x st)(hx:x.wg≠ .lv/\x.wg≠ .gone/\x.wg≠ .idle)(n:Nat)
  (h:∀w:ae,(∃v,w.cell? ⟨s.Gb,4,none⟩=some v)->Goes P (i==0) (fun _ w₁=>∃v,w₁.cell? ⟨s.Gb,4,none⟩=some v) DC0 (fun g' _=>g'.status=.running/\TT (cfg q) i Ch g' st) n g w):TT (cfg q) i Ch g st:=by
 subst hP;exact TT.step fun dV hr hi=>by
  have hr:Rl i st dV:=hr;have hi:Inv q dV:=hi;have f:∀dV,Rl i st dV->Inv q dV->∃v,dV.w.cell? ⟨s.Gb,4,none⟩=some v:=fun dV hr hi=>⟨_,((hi.eZ s (hA.rely hx hr hi).sc).c.gb.cell).2.1⟩;exact(TT.walk (C:=cfg q) Dk (F:=fun w₁=>∃v,w₁.cell? ⟨s.Gb,4,none⟩=some v) f (fun dV hr hi=>(hA.rely hx hr hi).nH ⟨hx.1,hx.2.1⟩) n g dV.w (h dV.w (f dV hr hi))).elim dV hr hi
theorem dW{s:eI}{w₀ w₁:ae}(_:∃v,w₀.cell? ⟨s.Gb,4,none⟩=some v)(r:∃v,w₁.cell? ⟨s.Gb,4,none⟩=some v):∃v,w₁.cell? ⟨s.Gb,4,none⟩=some v:=r
end
end
end Cc
namespace Cc
section
open Go
section
variable(l w s:Nat)(N:Nat)(hl:l<=1)(hw:w<=1)(hs:s<=1)(hN:N<=11)
include hl hw hs hN
theorem jU{p:Nat->Nat->Nat->Nat->Prop}(h:∀l w s:Fin 2,∀N:Fin 12,p l w s N):p l w s N:=h ⟨l,by omega⟩ ⟨w,by omega⟩ ⟨s,by omega⟩ ⟨N,by omega⟩
theorem uK:bits aZ aK (enc l w s N) 5=((l+4*s:Nat):Int):=jU l w s N hl hw hs hN (p:=fun l w s N=>bits aZ aK (enc l w s N) 5=((l+4*s:Nat):Int)) (by decide)
theorem zn:bits aZ aK (enc l w s N) 2=((2*w:Nat):Int):=jU l w s N hl hw hs hN (p:=fun l w s N=>bits aZ aK (enc l w s N) 2=((2*w:Nat):Int)) (by decide)
theorem mB:bits aZ aK (enc l w s N) 4=((4*s:Nat):Int):=jU l w s N hl hw hs hN (p:=fun l w s N=>bits aZ aK (enc l w s N) 4=((4*s:Nat):Int)) (by decide)
theorem Df:bits aZ aK (enc l w s N) 1=((l:Nat):Int):=jU l w s N hl hw hs hN (p:=fun l w s N=>bits aZ aK (enc l w s N) 1=((l:Nat):Int)) (by decide)
theorem aB5:bits aZ aK (enc l w s N) 3=((l+2*w:Nat):Int):=jU l w s N hl hw hs hN (p:=fun l w s N=>bits aZ aK (enc l w s N) 3=((l+2*w:Nat):Int)) (by decide)
theorem aB4:bits aZ aK (enc l w s N) 7=((l+2*w+4*s:Nat):Int):=jU l w s N hl hw hs hN (p:=fun l w s N=>bits aZ aK (enc l w s N) 7=((l+2*w+4*s:Nat):Int)) (by decide)
theorem Fq:bits BinOp.or aK (enc l w s N) 1=enc 1 w s N:=jU l w s N hl hw hs hN (p:=fun l w s N=>bits BinOp.or aK (enc l w s N) 1=enc 1 w s N) (by decide)
theorem ad9:bits BinOp.or aK (enc l w s N) 2=enc l 1 s N:=jU l w s N hl hw hs hN (p:=fun l w s N=>bits BinOp.or aK (enc l w s N) 2=enc l 1 s N) (by decide)
theorem a84:bits BinOp.or aK (enc l w s N) 4=enc l w 1 N:=jU l w s N hl hw hs hN (p:=fun l w s N=>bits BinOp.or aK (enc l w s N) 4=enc l w 1 N) (by decide)
theorem GW:bits BinOp.andNot aK (enc l w s N) 2=enc l 0 s N:=jU l w s N hl hw hs hN (p:=fun l w s N=>bits BinOp.andNot aK (enc l w s N) 2=enc l 0 s N) (by decide)
omit hl hw hs hN in
theorem UU:enc l w s N+8=enc l w s (N+1):=by unfold enc;omega
theorem Dg:bH .i32 (enc l w s N+8)=enc l w s (N+1):=by rw[UU];rw[dJ];unfold enc;omega
omit hN in
theorem UX:enc l w s N/8=(N:Int):=by unfold enc;omega
theorem aB3(h1:1<=N):bH .i32 (enc l w s N-8)=enc l w s (N-1):=by rw[dJ];unfold enc;omega
end
theorem jY{l w s N l' w' s' N':Nat}(h:enc l w s N=enc l' w' s' N')(h1:l<=1/\w<=1/\s<=1)(h2:l'<=1/\w'<=1/\s'<=1):l=l'/\w=w'/\s=s'/\N=N':=by unfold enc at h;omega
end
section
open Go.Conc Go.ConcN
open Go.ConcR (KK wgBlock WgAt stA smA rd wr mk DC0)
open Go.ConcM (OsLater)
section
variable{q:iK}{i:Nat}{s:eI}{x:Wk}
theorem gy:∀e∈(#[]:Array Event),EvS s i e/\e≠⟨ca s.Gb 3,true,true⟩:=by simp
theorem jq(off:Nat)(h:off=4\/off=5):∀e∈(#[⟨.cell ⟨s.Gb,off,none⟩,false,true⟩,⟨.cell ⟨s.Gb,off,none⟩,true,true⟩]:Array Event),EvS s i e/\e≠⟨ca s.Gb 3,true,true⟩:=by
 intro e he;simp at he;rcases he with rfl|rfl
 ·exact⟨.inl ⟨s.Gb,off,_,rfl,.inl ⟨rfl,by omega,by omega⟩⟩,by simp[ca]⟩
 ·exact⟨.inl ⟨s.Gb,off,_,rfl,.inl ⟨rfl,by omega,by omega⟩⟩,by simp[ca]<;>omega⟩
theorem oH(off:Nat)(h:3<=off/\off<6):∀e∈(#[⟨.cell ⟨s.Gb,off,none⟩,false,true⟩]:Array Event),EvS s i e/\e≠⟨ca s.Gb 3,true,true⟩:=by
 intro e he;simp at he;subst he;exact⟨.inl ⟨s.Gb,off,_,rfl,.inl ⟨rfl,h.1,h.2⟩⟩,by simp[ca]⟩
theorem oI(m:Mark)(h:(∀a,m≠ .release a)/\(∀a,m≠ .read a)/\∀a,m≠ .write a):∀e∈(#[⟨.mark m,false,true⟩]:Array Event),EvS s i e/\e≠⟨ca s.Gb 3,true,true⟩:=by
 intro e he;simp at he;subst he;exact⟨.inr (.inl ⟨m,rfl,h⟩),by simp[ca]⟩
theorem GU:∀e∈semEvents ⟨s.Gb,5,none⟩,EvS s i e/\e≠⟨ca s.Gb 3,true,true⟩:=by
 intro e he;simp[semEvents]at he;rcases he with rfl|rfl|rfl|rfl
 ·exact⟨.inr (.inl ⟨.disable,rfl,by simp⟩),by simp[ca]⟩
 ·exact⟨.inl ⟨s.Gb,5,_,rfl,.inl ⟨rfl,by omega,by omega⟩⟩,by simp[ca]⟩
 ·exact⟨.inl ⟨s.Gb,5,_,rfl,.inl ⟨rfl,by omega,by omega⟩⟩,by simp[ca]⟩
 ·exact⟨.inr (.inl ⟨.enable,rfl,by simp⟩),by simp[ca]⟩
theorem U2(d:Nat)(a:Loc)(x:Bool)(h:∀m,a≠ .mark m):d=deafBehind d #[⟨a,x,true⟩]:=(fU fun e he=>by simp at he;subst he;exact⟨h _,h _⟩).symm
theorem kQ(d:Nat)(a:Addr):d=deafBehind d #[⟨.cell a,false,true⟩,⟨.cell a,true,true⟩]:=(fU fun e he=>by simp at he;rcases he with rfl|rfl<;>simp).symm
theorem uN(d:Nat)(a:Addr):d=deafBehind d #[⟨.cell a,false,true⟩]:=(fU fun e he=>by simp at he;subst he;simp).symm
theorem ML(d:Nat)(a:Addr):d=deafBehind d (semEvents a):=by simp[semEvents,deafBehind]
theorem U1(d:Nat):d+1=deafBehind d #[⟨.mark .disable,false,true⟩]:=by simp[deafBehind]
theorem Fx(d:Nat):d=deafBehind (d+1) #[⟨.mark .enable,false,true⟩]:=by simp[deafBehind]
theorem U3(d:Nat)(m:Mark)(h:m≠ .disable/\m≠ .enable):d=deafBehind d #[⟨.mark m,false,true⟩]:=(fU fun e he=>by simp at he;subst he;simpa using h).symm
theorem fY{st:St eD}(h:At s i x st):st.γ.mm i=x.mx:=by unfold eD.mm;rw[h.me]
theorem upd_same{α:Type}(m:Nat->α)(j:Nat):upd m j (m j)=m:=by
 funext k;unfold upd;split
 ·rename_i e;rw[e]
 ·rfl
theorem kK.swap{γ:eD}{w:ae}(h:kK q s γ w){x':Wk}{L W S N tn th:Nat}(ht:tn+th=γ.tn+γ.th){v:Int}(hv:v=enc L W S N):kK q s (γ.setMu i x' L W S N tn th) (w.setCell ⟨s.Gb,4,none⟩ (.int .i32 v)):=h.bn8 (γ':=γ.setMu i x' L W S N tn th) rfl ht hv
theorem kK.sema{γ:eD}{w:ae}(h:kK q s γ w){x':Wk}{tn th:Nat}{v:Int}(hv:v=((tn+th:Nat):Int)):kK q s (γ.setMu i x' γ.L γ.W γ.S γ.N tn th) (w.setCell ⟨s.Gb,5,none⟩ (.int .u32 v)):=h.bn7 (γ':=γ.setMu i x' γ.L γ.W γ.S γ.N tn th) rfl ⟨rfl,rfl,rfl,rfl⟩ hv
theorem kK.stay{γ:eD}{w w':ae}(h:kK q s γ w)(hb:w'.heap[s.Gb]?=w.heap[s.Gb]?){x':Wk}{tn th:Nat}(ht:tn+th=γ.tn+γ.th):kK q s (γ.setMu i x' γ.L γ.W γ.S γ.N tn th) w':=h.of (γ':=γ.setMu i x' γ.L γ.W γ.S γ.N tn th) hb rfl ⟨rfl,rfl,rfl,rfl⟩ ht
theorem jJ.still{st:St eD}(h:gL q s st)(hA:At s i x st){mx:MX}(hmx:x.mx=mx):jJ (upd st.γ.mm i mx) s.n0 s.n st.γ.L st.γ.W st.γ.S st.γ.N st.γ.tn st.γ.th:=by
 rw[<-hmx,<-fY hA,upd_same];exact h.mu
variable{Ch:Nat->ah->St eD->Prop}
theorem TT.lG{P:au}(hP:q.P=P){g:ah}{st:St eD}(hA:At s i x st)(hx:x.wg=.work){mx:MX}(hmx:x.mx=mx)(n1:mx≠ .own .work)
  (h:∀dV,At s i x dV->Inv q dV->gL q s dV->∃g' w' es RQ,stepG P (i==0) g dV.w=.go g' w' es/\g'.status=.running/\RQ=deafBehind x.df es/\w'.heap[s.Gb]?=dV.w.heap[s.Gb]?/\eW s dV.w w'/\
    (∀e∈es,EvS s i e/\e≠⟨ca s.Gb 3,true,true⟩)/\
    ∀dY,At s i {x with df:=RQ} dY->Inv q dY->dY.w=w'->dY.γ.L=dV.γ.L/\dY.γ.W=dV.γ.W/\dY.γ.S=dV.γ.S/\dY.γ.N=dV.γ.N->phi dY.γ s<=phi st.γ s/\(phi dY.γ s=phi st.γ s->dY.γ.L=st.γ.L/\dY.γ.W=st.γ.W/\dY.γ.S=st.γ.S/\dY.γ.N=st.γ.N)->(st.γ.D=1->dY.γ.D=1)->TT (cfg q) i Ch g' dY):TT (cfg q) i Ch g st:=by
 subst hmx;exact TT.mu hP hA hx rfl n1 fun dV dX eO ek p1 p2 p3 _=>by
  obtain⟨g',w',es,RQ,h1,h2,h3,h4,h5,h6,h7⟩:=h dV dX eO ek;refine⟨g',w',es,x.mx,RQ,dV.γ.L,dV.γ.W,dV.γ.S,dV.γ.N,dV.γ.tn,dV.γ.th,h1,h2,h3,n1,fun e=>ek.dn i (by rw[dX.me];exact e),?_,?_,h5,.inr ⟨rfl,rfl,rfl,rfl,rfl⟩,.inl nle,h6,.inr nle,fun dY k1 k2 k3 k4 k5 k6=>?_⟩
  ·rw[<-fY dX,upd_same];exact ek.mu
  ·exact ek.gb.of h4 rfl ⟨rfl,rfl,rfl,rfl⟩ rfl
  ·refine h7 dY k1 k2 k3 k4 ⟨by omega,fun e=>?_⟩ (fun e=>k5.trans (p3 e));obtain⟨a,b,c,d⟩:=p2 (by omega);exact⟨k4.1.trans a,k4.2.1.trans b,k4.2.2.1.trans c,k4.2.2.2.trans d⟩
theorem jJ.Gh{m:Nat->MX}{a n j L W S N tn th:Nat}(h:jJ m a n L W S N tn th)(hj:a<=j)(jz:j<a+n)(hm:m j=.woken true){k:Nat}(hk:k≠j)(k1:a<=k)(k2:k<a+n):m k≠ .woken true:=by
 intro e;have c:=nQ MX.jo m n .out hj jz;have p:=yt (m:=upd m j .out) (p:=MX.jo) k1 k2 (by rw[upd_ne m _ hk,e];rfl);rw[hm]at c;simp[MX.jo]at c;have:=h.st
 omega
theorem jJ.bp7{m:Nat->MX}{a n L W S N tn th:Nat}(h:jJ m a n L W S N tn th)(hS:S=0){k:Nat}(k1:a<=k)(k2:k<a+n):m k≠ .woken true:=by
 intro e;have p:=yt (m:=m) (p:=MX.jo) k1 k2 (by rw[e];rfl);have:=h.st
 omega
theorem TT.sem{P:au}(hP:q.P=P){g:ah}{st:St eD}(hA:At s i x st)(hx:x.wg=.work)(hmx:x.mx=.iF)(hoff:g.offers=none)
  (hblk:∀w:ae,w.cell? ⟨s.Gb,5,none⟩=some (.int .u32 0)->stepG P (i==0) g w=.go {g with status:=.blocked} w #[])
  (h:∃g':ah,(∀(w:ae) (n:Int),w.cell? ⟨s.Gb,5,none⟩=some (.int .u32 n)->n≠0->w.frozen? ⟨s.Gb,5,none⟩=false->stepG P (i==0) g w=.go g' (w.setCell ⟨s.Gb,5,none⟩ (.int .u32 (n-1))) (semEvents ⟨s.Gb,5,none⟩))/\g'.status=.running/\
   (∀dY,At s i {x with mx:=.woken false} dY->Inv q dY->phi dY.γ s<phi st.γ s->TT (cfg q) i Ch g' dY)/\∀dY,At s i {x with mx:=.woken true} dY->Inv q dY->phi dY.γ s<phi st.γ s->TT (cfg q) i Ch g' dY):TT (cfg q) i Ch g st:=by
 subst hP;obtain⟨g',hgo,hs,hN,hH⟩:=h;refine TT.step fun dV hr hi=>?_;have hr:Rl i st dV:=hr;have hi:Inv q dV:=hi;have dX:=hA.rely (by rw[hx];simp) hr hi;have hC:=(hi.eZ s dX.sc).c;obtain⟨p1,p2,p3⟩:=hr.phi hA.ne (by rw[hA.me,hx];simp) (by rw[hA.me,hx];simp) s hA.sc;refine⟨fun hl=>absurd hl (dX.nH (by rw[hx];simp)),?_⟩;have cell:=hC.gb.cell.2.2.1;by_cases h0:dV.γ.tn+dV.γ.th=0
 ·unfold iR;rw[h0]at cell;rw[show stepG (cfg q).P (i==0) g dV.w=_ from hblk dV.w cell];exact .inl ⟨rfl,hoff,rfl,rfl,by rw[dX.sc];simp,.inr ⟨dX.ne,by rw[dX.me];exact hmx,h0,by rw[dX.me];exact hx⟩⟩
 ·have hstep:=hgo dV.w _ cell (by omega) (hC.gb.cell.2.2.2 5);have mm:dV.γ.mm i=.iF:=(fY dX).trans hmx;have go:∀(hh:Bool) (tn th:Nat),jJ (upd dV.γ.mm i (.woken hh)) s.n0 s.n dV.γ.L dV.γ.W dV.γ.S dV.γ.N tn th->tn+th+1=dV.γ.tn+dV.γ.th->
    (∀dY,At s i {x with mx:=.woken hh} dY->Inv q dY->phi dY.γ s<phi st.γ s->TT (cfg q) i Ch g' dY)->iR (cfg q) i Ch (TT (cfg q) i Ch) g dV:=by
   intro hh tn th hm ht hk;obtain⟨⟨k1,k2⟩,k3⟩:=hi.mu dX hx (x':={x with mx:=.woken hh}) rfl (es:=semEvents ⟨s.Gb,5,none⟩) (ML _ _) (by rw[hmx];simp) (by simp) (by simp) hm (hC.gb.sema (tn:=tn) (th:=th) (v:=((dV.γ.tn+dV.γ.th:Nat):Int)-1) (by omega)) (eW.set _ 5 _ (by omega)) (.inl (by rw[hmx];simp[kF]<;>omega)) (.inl nle) GU g.frame.fn g.frame.place;refine iR.own (C:=cfg q) (γ':=dV.γ.setMu i {x with mx:=.woken hh} dV.γ.L dV.γ.W dV.γ.S dV.γ.N tn th) hstep hs k1 rfl k2 (.inr (R6 (st:=dV) (st':=⟨_,_,dV.γ.setMu i {x with mx:=.woken hh} dV.γ.L dV.γ.W dV.γ.S dV.γ.N tn th⟩) rfl rfl rfl (by show tn+th<=_;omega) fun k hk=>upd_ne _ _ hk)) (hk _ (dX.next hi rfl rfl rfl (by simp[eD.setMu,upd]) (fun _ h=>h) fun b a1 _ _ _=>(eW.set (s:=s) dV.w 5 _ (by omega)).blk b a1) k1 ?_);show phi (dV.γ.setMu i {x with mx:=.woken hh} dV.γ.L dV.γ.W dV.γ.S dV.γ.N tn th) s<_;rw[hmx]at k3;simp only[kF]at k3;omega
  rcases Nat.eq_zero_or_pos dV.γ.tn with e|e
  ·exact go true dV.γ.tn (dV.γ.th-1) (hC.mu.aM1 dX.lo (dX.hi hi) mm (by omega)) (by omega) hH
  ·exact go false (dV.γ.tn-1) dV.γ.th (hC.mu.aM0 dX.lo (dX.hi hi) mm e) (by omega) hN
end
end
section
open Go.Conc Go.ConcN
open Go.ConcR (KK wgBlock WgAt stA smA rd wr mk DC0)
open Go.ConcM (OsLater)
section
variable{q:iK}{i:Nat}
theorem Inv.gen{st:St eD}(h:Inv q st){s:eI}(hs:st.γ.sc=some s)(hi:Mem s st.γ i){fn:ak}{pos:String}{es:Array Event}{w':ae}{γ':eD}(hsc:γ'.sc=st.γ.sc)(iC:γ'.num=st.γ.num)(zO:∀b,γ'.dead b↔st.γ.dead b)
  (Uh:∀e∈es,∀x,(bJ e).touch?=some x->May st.w.heap.size st.γ.ex st.γ.rd st.γ.sh i x/\∀b,ij x.loc=some b->b<w'.heap.size)(hrel:∀e∈es,∀a,e.loc≠ .mark (.release a))(JI:i≠0->∀e∈es,∀x,(bJ e).touch?=some x->x.kind≠ .said)
  (hsub:FH (st.t++aA i fn pos es) st.γ.num w'.heap.size st.γ.ex st.γ.rd st.γ.sh->FH (st.t++aA i fn pos es) st.γ.num w'.heap.size γ'.ex γ'.rd γ'.sh)(Ff:∀j,j≠i->∀l,(st.γ.ex j l->γ'.ex j l)/\(st.γ.rd j l->γ'.rd j l))(Uf:∀g l,γ'.ex g l\/γ'.rd g l\/γ'.sh g l->g<st.γ.num)
  (hsz:w'.heap.size=st.w.heap.size)(hblk:∀b,w'.heap[b]?=st.w.heap[b]?\/(∃off,st.γ.ex i (ca b off))\/b=s.Gb\/b=s.Wg\/b=s.Zb\/b=s.Rb)(hos:OsLater st.w.os w'.os)(hout:w'.output=st.w.output)
  (hwk:∀j,j≠i->γ'.wk j=st.γ.wk j)(zM:i≠0->γ'.mw=st.γ.mw/\γ'.dm=st.γ.dm)(h0:i=0->γ'.dm=deafBehind st.γ.dm es/\γ'.wk 0=st.γ.wk 0/\γ'.mw≠ .solo)(mg:i≠0->(γ'.wk i).df=deafBehind (st.γ.wk i).df es/\(γ'.wk i).wg≠ .gone)
  (hC:gL q s ⟨w',st.t++aA i fn pos es,γ'⟩)(hP:sf s γ')(hT:zy s ⟨w',st.t++aA i fn pos es,γ'⟩)
  (JK:phi γ' s<=phi st.γ s/\(phi γ' s=phi st.γ s->γ'.L=st.γ.L/\γ'.W=st.γ.W/\γ'.S=st.γ.S/\γ'.N=st.γ.N)/\(st.γ.D=1->γ'.D=1))(Mm:i≠0->pI γ' s<=pI st.γ s/\(pI γ' s=pI st.γ s->γ'.gs=st.γ.gs))
  (mS:∀j,j≠i->(st.γ.wk j).mx=.own .work->γ'.D=st.γ.D/\∀off,6<=off->off<16->w'.cell? ⟨s.Gb,off,none⟩=st.w.cell? ⟨s.Gb,off,none⟩)
  (JO:st.γ.N<=γ'.N\/∀j,j≠i->s.n0<=j->j<s.n0+s.n->(st.γ.wk j).mx≠ .woken true):
  Inv q ⟨w',st.t++aA i fn pos es,γ'⟩/\∀j,j≠i->Rl j st ⟨w',st.t++aA i fn pos es,γ'⟩:=by
 have x:=h.eZ s hs;have A:=h.base.tr.FD;have Ui:i<st.γ.num:=by rcases hi with rfl|hi;exact h.base.pos;exact hi.2
 have CJ:st.γ.old=s.n0:=by unfold eD.old;rw[hs]
 have hold:γ'.old=st.γ.old:=by unfold eD.old;rw[hsc,iC]
 have htr:FH (st.t++aA i fn pos es) st.γ.num w'.heap.size γ'.ex γ'.rd γ'.sh:=by
  refine hsub (h.base.tr.step (cP hsz.symm) Ui (fun op ho=>?_) (fun op ho y hy=>?_) (fun op ho y hy=>?_) (fun op ho a e=>?_) |>.sub ?_ (fun g l hl=>.inl hl) (fun g l hl=>.inl hl) fun g l hl=>.inl hl)
  ·obtain⟨e,_,rfl⟩:=gQ ho;rfl
  ·obtain⟨e,he,rfl⟩:=gQ ho;exact(Uh e he y hy).1
  ·obtain⟨e,he,rfl⟩:=gQ ho;exact(Uh e he y hy).2
  ·obtain⟨e',he,rfl⟩:=gQ ho;exact hrel e' he a ((nO e' _).1 e)
  ·rw[hsz];exact A
 refine⟨⟨h.base.step Ui (by rcases hi with hi|hi;exact .inl hi;exact .inr (by rw[CJ];exact hi.1)) (cP hsz.symm) (by rw[iC];exact htr) iC hold zO hsc hos hout ?_ hwk (fun hne=>(mg hne).1) (fun hne=>(mg hne).2) (fun he=>(h0 he).2.1) (fun g l hl=>by rw[iC];exact Uf g l hl) JI,?_,fun s' hs'=>?_⟩,fun j hj=>?_⟩
 ·split
  ·rename_i e;exact(h0 e).1
  ·rename_i e;exact(zM e).2
 ·show γ'.sc=none↔γ'.mw=.solo;rw[hsc,hs];by_cases e:i=0
  ·exact⟨fun hn=>(by cases hn),fun hn=>absurd hn (h0 e).2.2⟩
  ·rw[(zM e).1,<-hs];exact h.solo
 ·have hs':γ'.sc=some s':=hs';rw[hsc,hs]at hs';cases hs';exact⟨hC,hP,hT⟩
 ·refine Rl.other hj (size:=0) A (cP hsz.symm) (fun l hl=>(Ff j hj l).1 hl) (fun l hl=>(Ff j hj l).2 hl) (fun b=>?_) hwk (fun hne=>⟨(zM hne).1,(zM hne).2,iC,zO⟩) hsc (fun s' hs'=>?_) (fun s' hs' hne=>?_) (fun hw=>⟨(mS j hj hw).1,fun s' hs' off o1 o2=>?_⟩) (fun hz hw hg=>JO.resolve_right fun hh=>hh j hj ?_ ?_ hw) (cP iC.symm)
  ·rcases hblk b with e|e|e
   ·exact .inl e
   ·exact .inr (.inr (.inl e))
   ·exact .inr (.inr (.inr (x.p.spec j b e)))
  ·rw[hs]at hs';cases hs';exact JK
  ·rw[hs]at hs';cases hs';exact Mm hne
  ·rw[hs]at hs';cases hs';exact(mS j hj hw).2 off o1 o2
  ·refine Nat.le_of_not_lt fun hlt=>?_;rcases h.base.old j (by omega) (by rw[CJ];exact hlt)with e|e<;>rw[hg]at e<;>cases e
  ·refine Nat.lt_of_not_le fun hge=>?_;have:=x.c.new j (by have:=x.c.n0;omega)
   rw[this]at hg;cases hg
end
end
section
open Go.Conc Go.ConcN
open Go.ConcR (KK wgBlock WgAt stA smA rd wr mk DC0)
open Go.ConcM (OsLater)
theorem JC{t:Trace}{a:Addr}{p:Nat}{y:MemOp}(h:LastWrite t a p)(h1:t.heard p)(h2:Deaf t y.g=0)(hy:y.act=.access ⟨.cell a,false,true⟩):Knows (t++#[y]) y.g p:=by
 have hlast:(t++#[y])[t.size]?=some y:=by rw[Array.getElem?_append_right nle];simp
 have hp:=lt_of_act? h.1;obtain⟨z,hz,_⟩:=Option.map_eq_some_iff.1 h.1;have Mp:(t++#[y]).heard t.size:=⟨y.g,by simp[cX],by rw[deaf_old nle];exact h2⟩;refine⟨t.size,y,hlast,rfl,.inr (.single (.inr ⟨.atomic (a:=a) hp (by rw[act?_old hp];exact h.1) (by rw[act?_of hlast,hy]) (fun k sync h1 h2=>by rw[act?_old h2];exact h.2 k sync h1),(heard_old hp).2 h1,Mp⟩))⟩
section
variable{q:iK}{i:Nat}{s:eI}{x:Wk}
theorem gL.turn{st:St eD}(c:gL q s st)(hA:At s i x st)(hx:x.wg=.work){x':Wk}(e1:x'.wg=.work)(e2:x'.zw=x.zw)(e3:x'.rw=x.rw){w':ae}{t':Trace}{γ':eD}(hwk:γ'.wk=upd st.γ.wk i x')(hk:γ'.mw=st.γ.mw/\γ'.gs=st.γ.gs/\γ'.gm=st.γ.gm/\γ'.num=st.γ.num)
  (hG:kK q s γ' w')(hblk:∀b,b≠s.Gb->w'.heap[b]?=st.w.heap[b]?)(hmu:jJ (upd st.γ.mm i x'.mx) s.n0 s.n γ'.L γ'.W γ'.S γ'.N γ'.tn γ'.th)(hD:γ'.D<=1)
  (mS:∀j,(γ'.wk j).mx=.own .work->γ'.D=0)(hdn:∀j,(γ'.wk j).mx=.own .dn->γ'.D=1)(oD:∀j,s.n0<=j->(γ'.wk j).syn=true->γ'.D=1):gL q s ⟨w',t',γ'⟩:=by
 have at_:∀j,γ'.wk j=if j=i then x' else st.γ.wk j:=fun j=>by rw[hwk];rfl
 have lH:∀j,(γ'.wk j).wg=(st.γ.wk j).wg:=fun j=>by
  rw[at_];split
  ·rename_i e;subst e;rw[hA.me,hx,e1]
  ·rfl
 have V6:∀j,(γ'.wk j).zw=(st.γ.wk j).zw:=fun j=>by
  rw[at_];split
  ·rename_i e;subst e;rw[hA.me,e2]
  ·rfl
 have Ud:∀j,(γ'.wk j).rw=(st.γ.wk j).rw:=fun j=>by
  rw[at_];split
  ·rename_i e;subst e;rw[hA.me,e3]
  ·rfl
 have hmm:γ'.mm=upd st.γ.mm i x'.mx:=by
  funext j;unfold eD.mm;rw[at_];unfold upd;split<;>rfl
 obtain⟨k1,k2,k3,k4⟩:=hk;refine⟨by show _/\s.n0<=γ'.num/\γ'.num<=_/\_;rw[k4];exact c.n0,hG,?_,?_,?_,c.ne,?_,hD,mS,hdn,oD,fun j hj=>?_,fun j h1 h2=>?_,fun j h1 h2 h3=>?_,?_,?_⟩
 ·show WgAt q.tW s.Wg w' γ'.gs γ'.gm;rw[k2,k3];exact c.qL.of_block (hblk _ c.ne.1.symm)
 ·obtain⟨Z,z1,z2,z3,z4⟩:=c.zb;exact⟨Z,(hblk _ c.ne.2.1.symm).trans z1,z2,z3,fun k k1 k2=>z4 k k1 ((V6 _).symm.trans k2)⟩
 ·obtain⟨Z,z1,z2,z3,z4⟩:=c.rb;exact⟨Z,(hblk _ c.ne.2.2.1.symm).trans z1,z2,z3,fun k k1 k2=>z4 k k1 ((Ud _).symm.trans k2)⟩
 ·show jJ γ'.mm ..;rw[hmm];exact hmu
 ·have hj:γ'.num<=j:=hj;have hne:j≠i:=by have:=hA.lt;omega
  show γ'.wk j=.new;rw[at_,if_neg hne];exact c.new j (by omega)
 ·show(γ'.wk j).wg≠ .idle;rw[lH];exact c.on j h1 (by rw[<-k4];exact h2)
 ·have h2:(γ'.wk j).wg≠ .idle:=h2;have h3:(γ'.wk j).wg≠ .work:=h3;rw[lH]at h2 h3;have hne:j≠i:=fun e=>h3 (by rw[e,hA.me];exact hx);show(γ'.wk j).zw=true/\(γ'.wk j).rw=true/\((γ'.wk j).mx=.fresh\/(γ'.wk j).mx=.out);rw[at_,if_neg hne];exact c.fin j h1 h2 h3
 ·intro h;show γ'.num=_;rw[k4];refine c.all ?_;have h:γ'.mw=.wt\/γ'.mw=.rg\/γ'.mw=.lG:=h;rw[k1]at h;exact h
 ·show xh γ'.mw (gj WG.cd γ' s) (gj (·== .d2) γ' s) (gj (·== .d3) γ' s) (gj (·== .d4) γ' s) γ'.gs γ'.gm;rw[iq lH,iq lH,iq lH,iq lH,k1,k2,k3];exact c.sD
end
end
section
open Go.Conc Go.ConcN
open Go.ConcR (KK wgBlock WgAt stA smA rd wr mk DC0)
open Go.ConcM (OsLater)
def jA(f:Nat->Loc->Prop)(i:Nat)(s:eI):Nat->Loc->Prop:=fun g l=>f g l\/(g=i/\∃off,6<=off/\off<16/\l=ca s.Gb off)
theorem uZ(i:Nat)(fn:ak)(pos:String)(e:Event):aA i fn pos #[e]=#[{g:=i,fn,pos,act:=.ofEvent e}]:=by rw[ofEvents_eq];simp
section
variable{q:iK}{i:Nat}{s:eI}{x:Wk}
theorem yO{st:St eD}(h:Inv q st)(hA:At s i x st){o:Hg}(hmx:x.mx=.own o):∀j,j≠i->∀o',(st.γ.wk j).mx≠ .own o':=by
 intro j hj o' e;have c:=(h.eZ s hA.sc).c;have CJ:st.γ.old=s.n0:=by unfold eD.old;rw[hA.sc]
 have hi2:=hA.hi h;by_cases h1:j<s.n0
 ·rcases h.base.S9 j (by rw[CJ];exact h1)with h2|h2<;>rw[e]at h2<;>cases h2
 by_cases h2:st.γ.num<=j
 ·have:=c.new j h2
  rw[this]at e;cases e
 have jz:j<s.n0+s.n:=by have:=c.n0;omega
 have e1:=nQ MX.iP st.γ.mm s.n .out hA.lo hi2;have e2:=yt (m:=upd st.γ.mm i .out) (p:=MX.iP) (by omega:s.n0<=j) jz (by rw[upd_ne _ _ hj];show MX.iP (st.γ.wk j).mx=true;rw[e];rfl);rw[show st.γ.mm i=.own o from(fY hA).trans hmx]at e1;simp[MX.iP]at e1;have:=c.mu.own
 have:=c.mu.bd
 omega
theorem nX{e:Event}(he:e∈(#[⟨.cell ⟨s.Gb,3,none⟩,false,true⟩]:Array Event)){y:Touch}(hy:(bJ e).touch?=some y):y=⟨ca s.Gb 3,false,.atomic⟩:=by
 simp at he;subst he;cases hy;rfl
theorem Inv.aS6{st:St eD}(h:Inv q st)(hA:At s i x st)(hx:x.wg=.work)(mg:x.df=0)(hD:st.γ.D=1)(n1:x.mx≠ .own .work)(fn:ak)(pos:String):
  Inv q ⟨st.w,st.t++aA i fn pos #[⟨.cell ⟨s.Gb,3,none⟩,false,true⟩],{st.γ with wk:=upd st.γ.wk i {x with syn:=true},rd:=jA st.γ.rd i s}⟩/\
  ∀j,j≠i->Rl j st ⟨st.w,st.t++aA i fn pos #[⟨.cell ⟨s.Gb,3,none⟩,false,true⟩],{st.γ with wk:=upd st.γ.wk i {x with syn:=true},rd:=jA st.γ.rd i s}⟩:=by
 obtain⟨c,p,t⟩:=h.eZ s hA.sc;have A:=h.base.tr.FD;have hl:=c.OD;have jV:∀j,(st.γ.wk j).mx≠ .own .work:=fun j e=>by have:=c.work j e;omega
 have at_:∀j,upd st.γ.wk i {x with syn:=true} j=if j=i then{x with syn:=true}else st.γ.wk j:=fun j=>rfl;have hmx:∀j,(upd st.γ.wk i {x with syn:=true} j).mx=(st.γ.wk j).mx:=fun j=>by
  rw[at_];split
  ·rename_i e;subst e;rw[hA.me]
  ·rfl
 have lH:∀j,(upd st.γ.wk i {x with syn:=true} j).wg=(st.γ.wk j).wg:=fun j=>by
  rw[at_];split
  ·rename_i e;subst e;rw[hA.me]
  ·rfl
 have hmm:({st.γ with wk:=upd st.γ.wk i {x with syn:=true},rd:=jA st.γ.rd i s}:eD).mm=st.γ.mm:=funext fun j=>hmx j;have DX:=p.DX jV;have A':Ng st.w.heap.size st.γ.ex (jA st.γ.rd i s) st.γ.sh:=by
  refine⟨A.ee,fun g g' l h1 h2=>?_,A.es,fun g g' l h1 h2=>?_,A.low,fun g l h1 b hb=>?_,A.slow,fun g l h1=>?_⟩
  ·rcases h2 with h2|⟨_,off,o1,o2,rfl⟩
   ·exact A.er _ _ _ h1 h2
   ·exact absurd h1 (DX g off o1 o2).1
  ·rcases h1 with h1|⟨_,off,o1,o2,rfl⟩
   ·exact A.rs _ _ _ h1 h2
   ·exact(DX g' off o1 o2).2.1 h2
  ·rcases h1 with h1|⟨_,off,o1,o2,rfl⟩
   ·exact A.xI _ _ h1 b hb
   ·have:s.Gb=b:=by unfold ca ij at hb;simpa using hb
    omega
  ·rcases h1 with h1|(h1|⟨_,off,o1,o2,rfl⟩)|h1
   ·exact A.mem _ _ (.inl h1)
   ·exact A.mem _ _ (.inr (.inl h1))
   ·rfl
   ·exact A.mem _ _ (.inr (.inr h1))
 have hmem:=hA.mem;have Zu:=(p.KU i hmem).1 3 (by omega) (by omega);refine h.gen hA.sc hmem rfl rfl (fun _=>.rfl) (fun e he y hy=>?_) (fun e he a=>?_) (fun _ e he y hy=>by rw[nX he hy];simp) (fun T=>?_) (fun j hj l=>⟨id,.inl⟩) (fun g l hl=>?_) rfl (fun _=>.inl rfl) (.refl _) rfl (fun j hj=>upd_ne _ _ hj) (fun _=>⟨rfl,rfl⟩) (fun e=>absurd e hA.ne) (fun _=>?_) ?_ ?_ ?_ ?_ (fun _=>?_) (fun j _ e=>absurd e (jV j)) (.inl nle)
 ·rw[nX he hy];refine⟨.inr (.inr (.inr (.inl ⟨Zu,.inl rfl⟩))),fun b hb=>?_⟩;have hb:ij (ca s.Gb 3)=some b:=hb;have:s.Gb=b:=by unfold ca ij at hb;simpa using hb
  show b<st.w.heap.size;omega
 ·simp at he;subst he;simp
 ·refine⟨T.nr,A',T.ex,fun g l hl=>?_,T.sh,T.low,T.gs,T.norel⟩;rcases hl with hl|⟨rfl,off,o1,o2,rfl⟩
  ·exact T.rd g l hl
  ·obtain⟨pp,p1,p2,p3⟩:=t.VT hD;intro k a ha hal hw;rw[uZ]at ha ⊢;have kn:Knows (st.t++#[{g:=g,fn,pos,act:=.ofEvent ⟨.cell ⟨s.Gb,3,none⟩,false,true⟩}]) g pp:=by
    refine JC (y:={g:=g,fn,pos,act:=.ofEvent ⟨.cell ⟨s.Gb,3,none⟩,false,true⟩}) p1 p2 ?_ rfl;have:=h.base.Pm g (Nat.pos_of_ne_zero hA.ne) hA.lt
    rw[hA.me,mg]at this;exact this
   rcases gT ha with⟨hlt,ha'⟩|⟨_,op,hop,hx1,vN⟩
   ·exact Knows.of_before ((p3 off o1 o2 k a ha' hal hw).app _) kn
   ·simp at hop;subst hop;cases vN;cases hw
 ·rcases hl with hl|(hl|⟨rfl,_⟩)|hl
  ·exact h.base.pool g l (.inl hl)
  ·exact h.base.pool g l (.inr (.inl hl))
  ·exact hA.lt
  ·exact h.base.pool g l (.inr (.inr hl))
 ·show(upd st.γ.wk i {x with syn:=true} i).df=_/\(upd st.γ.wk i {x with syn:=true} i).wg≠_;rw[gF,hA.me];exact⟨uN _ _,by show x.wg≠_;rw[hx];simp⟩
 ·refine c.turn hA hx (x':={x with syn:=true}) hx rfl rfl rfl ⟨rfl,rfl,rfl,rfl⟩ (c.gb.of rfl rfl ⟨rfl,rfl,rfl,rfl⟩ rfl) (fun _ _=>rfl) (jJ.still c hA rfl) c.D1 (fun j hj=>c.work j ((hmx j).symm.trans hj)) (fun j hj=>c.dn j ((hmx j).symm.trans hj)) fun _ _ _=>hD
 ·refine⟨fun g b hb=>?_,fun k k1 k2 k3=>p.Hy k k1 k2 ((lH _).symm.trans k3),p.MH,fun g hg off ho=>.inl (p.KW g hg off ho),p.KU,fun j hj=>p.UO j ((hmx j).symm.trans hj),fun j hj0 hj off o1 o2=>?_,fun _ g off o1 o2=>⟨(DX g off o1 o2).1,(DX g off o1 o2).2.1,fun h0=>?_⟩⟩
  ·obtain⟨h1,o2,h2⟩:=p.spec g b hb;refine⟨h1,?_⟩;by_cases e:b=s.Gb
   ·subst e;refine⟨3,fun h3=>?_⟩;rcases h3 with h3|⟨_,off,o1,_,e⟩
    ·exact A.rs _ _ _ h3 Zu
    ·unfold ca at e;simp at e<;>omega
   ·refine⟨o2,fun h3=>?_⟩;rcases h3 with h3|⟨_,off,_,_,e2⟩
    ·exact h2 h3
    ·unfold ca at e2;simp at e2<;>exact e e2.1
  ·by_cases e:j=i
   ·exact .inr ⟨e,off,o1,o2,rfl⟩
   ·have hj:(upd st.γ.wk i {x with syn:=true} j).syn=true:=hj;rw[upd_ne _ _ e]at hj;exact .inl (p.SP j hj0 hj off o1 o2)
  ·have h0:st.γ.D=0:=h0;omega
 ·refine t.app (i:=i) (fun op ho=>?_) rfl rfl (fun _=>jV) (fun j _ _ hw e=>hw ((lH j).trans e)) (fun op ho y hy=>?_) fun _ hw=>absurd (by rw[hA.me];exact hx) hw
  ·obtain⟨e,_,rfl⟩:=gQ ho;rfl
  ·obtain⟨e,he,rfl⟩:=gQ ho;rw[nX he hy];exact⟨fun off o1 _ e=>by unfold ca at e;simp at e<;>omega,fun _=>rfl⟩
 ·have:phi ({st.γ with wk:=upd st.γ.wk i {x with syn:=true},rd:=jA st.γ.rd i s}:eD) s=phi st.γ s:=by unfold phi;rw[hmm]
  exact⟨cP this,fun _=>⟨rfl,rfl,rfl,rfl⟩,id⟩
 ·rw[qT (γ:=st.γ) lH];exact⟨aH _,fun _=>rfl⟩
end
end
section
open Go.Conc Go.ConcN
open Go.ConcR (KK wgBlock WgAt stA smA rd wr mk DC0)
open Go.ConcM (OsLater)
section
variable{q:iK}{i:Nat}{s:eI}{x:Wk}
theorem Vs{size:Nat}{ex rd sh:Nat->Loc->Prop}(A:Ng size ex rd sh)(hG:s.Gb<size)(no:∀g off,6<=off->off<16->¬ex g (ca s.Gb off)/\¬sh g (ca s.Gb off)/\¬rd g (ca s.Gb off)):Ng size (jA ex i s) rd sh:=by
 refine⟨fun g g' l h1 h2=>?_,fun g g' l h1 h2=>?_,fun g g' l h1 h2=>?_,A.rs,fun g l h1 b hb=>?_,A.xI,A.slow,fun g l h1=>?_⟩
 ·rcases h1 with h1|⟨rfl,off,o1,o2,rfl⟩<;>rcases h2 with h2|⟨rfl,off',o1',o2',e⟩
  ·exact A.ee _ _ _ h1 h2
  ·subst e;exact absurd h1 (no g off' o1' o2').1
  ·exact absurd h2 (no g' off o1 o2).1
  ·rfl
 ·rcases h1 with h1|⟨rfl,off,o1,o2,rfl⟩
  ·exact A.er _ _ _ h1 h2
  ·exact absurd h2 (no g' off o1 o2).2.2
 ·rcases h1 with h1|⟨rfl,off,o1,o2,rfl⟩
  ·exact A.es _ _ _ h1 h2
  ·exact(no g' off o1 o2).2.1 h2
 ·rcases h1 with h1|⟨_,off,o1,o2,rfl⟩
  ·exact A.low _ _ h1 b hb
  ·have:s.Gb=b:=by unfold ca ij at hb;simpa using hb
   omega
 ·rcases h1 with(h1|⟨_,off,o1,o2,rfl⟩)|h1
  ·exact A.mem _ _ (.inl h1)
  ·rfl
  ·exact A.mem _ _ (.inr h1)
theorem Inv.aS7{st:St eD}(h:Inv q st)(hA:At s i x st)(hx:x.wg=.work)(hD:st.γ.D=0)(n1:x.mx=.own .Ah)(fn:ak)(pos:String):
  Inv q ⟨st.w,st.t++aA i fn pos #[⟨.cell ⟨s.Gb,3,none⟩,false,true⟩],{st.γ with wk:=upd st.γ.wk i {x with mx:=.own .work},ex:=jA st.γ.ex i s}⟩/\
  ∀j,j≠i->Rl j st ⟨st.w,st.t++aA i fn pos #[⟨.cell ⟨s.Gb,3,none⟩,false,true⟩],{st.γ with wk:=upd st.γ.wk i {x with mx:=.own .work},ex:=jA st.γ.ex i s}⟩:=by
 obtain⟨c,p,t⟩:=h.eZ s hA.sc;have A:=h.base.tr.FD;have hl:=c.OD;have one:=yO h hA n1;have jV:∀j,(st.γ.wk j).mx≠ .own .work:=fun j e=>by
  by_cases hj:j=i
  ·subst hj;rw[hA.me,n1]at e;cases e
  ·exact one j hj _ e
 have at_:∀j,upd st.γ.wk i {x with mx:=.own .work} j=if j=i then{x with mx:=.own .work}else st.γ.wk j:=fun j=>rfl;have hmx:∀j,j≠i->(upd st.γ.wk i {x with mx:=.own .work} j).mx=(st.γ.wk j).mx:=fun j hj=>by rw[upd_ne _ _ hj]
 have lH:∀j,(upd st.γ.wk i {x with mx:=.own .work} j).wg=(st.γ.wk j).wg:=fun j=>by
  rw[at_];split
  ·rename_i e;subst e;rw[hA.me]
  ·rfl
 have oD:∀j,(upd st.γ.wk i {x with mx:=.own .work} j).syn=(st.γ.wk j).syn:=fun j=>by
  rw[at_];split
  ·rename_i e;subst e;rw[hA.me]
  ·rfl
 have DX:=fun g off o1 o2=>(⟨(p.DX jV g off o1 o2).1,(p.DX jV g off o1 o2).2.1,(p.DX jV g off o1 o2).2.2 hD⟩:¬st.γ.ex g (ca s.Gb off)/\¬st.γ.sh g (ca s.Gb off)/\¬st.γ.rd g (ca s.Gb off));have A':Ng st.w.heap.size (jA st.γ.ex i s) st.γ.rd st.γ.sh:=Vs A hl.1 DX;have hmem:=hA.mem;have Zu:=(p.KU i hmem).1 3 (by omega) (by omega);have hm:jJ (upd st.γ.mm i (.own .work)) s.n0 s.n st.γ.L st.γ.W st.γ.S st.γ.N st.γ.tn st.γ.th:=c.mu.owns hA.lo (hA.hi h) ((fY hA).trans n1);refine h.gen hA.sc hmem rfl rfl (fun _=>.rfl) (fun e he y hy=>?_) (fun e he a=>?_) (fun _ e he y hy=>by rw[nX he hy];simp) (fun T=>?_) (fun j hj l=>⟨.inl,id⟩) (fun g l hl=>?_) rfl (fun _=>.inl rfl) (.refl _) rfl (fun j hj=>upd_ne _ _ hj) (fun _=>⟨rfl,rfl⟩) (fun e=>absurd e hA.ne) (fun _=>?_) ?_ ?_ ?_ ?_ (fun _=>?_) (fun j _ e=>absurd e (jV j)) (.inl nle)
 ·rw[nX he hy];refine⟨.inr (.inr (.inr (.inl ⟨Zu,.inl rfl⟩))),fun b hb=>?_⟩;have hb:ij (ca s.Gb 3)=some b:=hb;have:s.Gb=b:=by unfold ca ij at hb;simpa using hb
  show b<st.w.heap.size;omega
 ·simp at he;subst he;simp
 ·refine⟨T.nr,A',fun g l hl=>?_,T.rd,T.sh,T.low,T.gs,T.norel⟩;rcases hl with hl|⟨rfl,off,o1,o2,rfl⟩
  ·exact T.ex g l hl
  ·refine(t.Zv hD jV g hmem off o1 o2).app fun op hop y hy e=>?_;obtain⟨e',he,rfl⟩:=gQ hop;rfl
 ·rcases hl with(hl|⟨rfl,_⟩)|hl
  ·exact h.base.pool g l (.inl hl)
  ·exact hA.lt
  ·exact h.base.pool g l (.inr hl)
 ·show(upd st.γ.wk i {x with mx:=.own .work} i).df=_/\(upd st.γ.wk i {x with mx:=.own .work} i).wg≠_;rw[gF,hA.me];exact⟨uN _ _,by show x.wg≠_;rw[hx];simp⟩
 ·refine c.turn hA hx (x':={x with mx:=.own .work}) hx rfl rfl rfl ⟨rfl,rfl,rfl,rfl⟩ (c.gb.of rfl rfl ⟨rfl,rfl,rfl,rfl⟩ rfl) (fun _ _=>rfl) hm c.D1 (fun _ _=>hD) (fun j hj=>?_) fun j h0 hj=>c.syn j h0 ((oD j).symm.trans hj);replace hj:(upd st.γ.wk i {x with mx:=.own .work} j).mx=.own .dn:=hj;by_cases e:j=i
  ·subst e;rw[gF]at hj;cases hj
  ·rw[hmx j e]at hj;exact c.dn j hj
 ·have nf:∀{g b off},b≠s.Gb->jA st.γ.ex i s g (ca b off)->st.γ.ex g (ca b off):=by
   intro g b off hb h1;rcases h1 with h1|⟨_,off',_,_,e⟩
   ·exact h1
   ·unfold ca at e;simp at e<;>exact absurd e.1 hb
  refine⟨fun g b hb=>?_,fun k k1 k2 k3=>⟨.inl (p.Hy k k1 k2 ((lH _).symm.trans k3)).1,.inl (p.Hy k k1 k2 ((lH _).symm.trans k3)).2⟩,fun k k1 k2=>⟨.inl (p.MH k k1 k2).1,.inl (p.MH k k1 k2).2⟩,p.KW,p.KU,fun j hj off o1 o2=>?_,fun j h0 hj=>p.SP j h0 ((oD j).symm.trans hj),fun hn=>absurd (by show(upd st.γ.wk i {x with mx:=.own .work} i).mx=_;rw[gF]) (hn i)⟩
  ·obtain⟨⟨o1,h1⟩,h2⟩:=p.spec g b hb;refine⟨?_,h2⟩;by_cases e:b=s.Gb
   ·subst e;refine⟨3,fun h3=>?_⟩;rcases h3 with h3|⟨_,off,o1,_,e⟩
    ·exact A.es _ _ _ h3 Zu
    ·unfold ca at e;simp at e<;>omega
   ·exact⟨o1,fun h3=>h1 (nf e h3)⟩
  ·replace hj:(upd st.γ.wk i {x with mx:=.own .work} j).mx=.own .work:=hj;by_cases e:j=i
   ·exact .inr ⟨e,off,o1,o2,rfl⟩
   ·rw[hmx j e]at hj;exact absurd hj (jV j)
 ·refine t.app (i:=i) (fun op ho=>?_) rfl rfl (fun _=>jV) (fun j _ _ hw e=>hw ((lH j).trans e)) (fun op ho y hy=>?_) fun _ hw=>absurd (by rw[hA.me];exact hx) hw
  ·obtain⟨e,_,rfl⟩:=gQ ho;rfl
  ·obtain⟨e,he,rfl⟩:=gQ ho;rw[nX he hy];exact⟨fun off o1 _ e=>by unfold ca at e;simp at e<;>omega,fun _=>rfl⟩
 ·have e2:({st.γ with wk:=upd st.γ.wk i {x with mx:=.own .work},ex:=jA st.γ.ex i s}:eD).mm=upd st.γ.mm i (.own .work):=by
   funext j;show(upd st.γ.wk i {x with mx:=.own .work} j).mx=_;unfold upd;split<;>rfl
  have e3:=Gg st.γ.mm (a:=s.n0) s.n (.own .work) (st.γ.tn+st.γ.th) (st.γ.tn+st.γ.th) hA.lo (hA.hi h);rw[show st.γ.mm i=.own .Ah from(fY hA).trans n1]at e3;have:phi ({st.γ with wk:=upd st.γ.wk i {x with mx:=.own .work},ex:=jA st.γ.ex i s}:eD) s=phi st.γ s:=by
   unfold phi;rw[e2];show RG _ _ _ (st.γ.tn+st.γ.th)=_;simp only[kF]at e3;omega
  exact⟨cP this,fun _=>⟨rfl,rfl,rfl,rfl⟩,id⟩
 ·rw[qT (γ:=st.γ) lH];exact⟨aH _,fun _=>rfl⟩
end
end
end Cc
end Go.Proofs.Ytpfpokjaeffbjaa
