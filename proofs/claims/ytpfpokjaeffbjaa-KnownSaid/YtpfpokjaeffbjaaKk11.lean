/- Part of the proof: Nm, Sa1, Sa2, SaW. -/
import Derived.Test.YtpfpokjaeffbjaaKk0
import Derived.Test.YtpfpokjaeffbjaaKk2
import Derived.Conc.Deaf
import Derived.Conc.DeferLaws
set_option linter.unusedVariables false
set_option linter.unusedSimpArgs false
set_option maxRecDepth 100000
set_option maxHeartbeats 16000000
open Pure renaming pure→aX
open Nat renaming le_refl→aH,le_trans→aY
open Array renaming all_eq_true_iff_forall_mem→aV,mem_of_getElem?→bF,getD_eq_getD_getElem?→bB,getElem?_setIfInBounds→cj,getElem?_modify→dP
open Go.Sem renaming run→cA,run_bind→aO
open Go.Instr renaming sureAddr→dM,alloc→dw,loadAt→aT,storeAt→bI
open List renaming cons_append→bK,contains_eq_mem→dg
open Bool renaming and_eq_true→aD,or_eq_true→bf,not_eq_true'→bV,false_eq_true→aQ
open Go.Deferred renaming ofValue→cG
open Go.Result renaming andThen_ok→dB
open Go renaming unsupported→bW
namespace Go.Proofs.Ytpfpokjaeffbjaa
open Go renaming World→ae,Value→af,Goroutine→ah,Frame→ai,TypeId→aj,FuncId→ak,Program→au,undef→av,execOp→ax
open Go.Lib renaming hid→ay
namespace Cc
open Go.Conc
def OkM(m:Mark):Prop:=m≠ .disable/\m≠ .enable
def Y4:Halt->Prop
 |.goexit|.waiting=>False
 |_=>True
def NM{α:Type}(wr:Bool):Sem α->Prop
 |.pure _=>True
 |.load _ _ k=>∀v,NM wr (k v)
 |.store _ _ _ k=>wr=true/\NM wr k
 |.new _ k=>∀r,NM wr (k r)
 |.shape _ k=>∀s,NM wr (k s)
 |.freeze _ _ k=>wr=true/\NM wr k
 |.frozen _ k=>∀b,NM wr (k b)
 |.getObj _ k=>∀o,NM wr (k o)
 |.setObj _ _ k=>wr=true/\NM wr k
 |.choose _ k=>∀n,NM wr (k n)
 |.sys _ k=>∀r,NM wr (k r)
 |.program k=>∀p,NM wr (k p)
 |.mark m k=>OkM m/\NM wr k
 |.halt h=>Y4 h
theorem NM.pure{α:Type}{wr:Bool}(a:α):NM wr (aX a:Sem α):=trivial
class Nm{α:Type}(wr:Bool)(x:Sem α):Prop where
 out:NM wr x
instance{α:Type}(wr:Bool)(a:α):Nm wr (aX a:Sem α):=⟨trivial⟩
instance{α:Type}(wr:Bool)(h:String):Nm wr (stuck h:Sem α):=⟨trivial⟩
instance{α:Type}(wr:Bool)(h:Unsupported):Nm wr (unsupported h:Sem α):=⟨trivial⟩
instance{α:Type}(wr:Bool)(h:af):Nm wr (goPanic h:Sem α):=⟨trivial⟩
theorem NM.bind{α β:Type}{wr:Bool}{x:Sem α}{f:α->Sem β}(h:NM wr x)(k:∀a,NM wr (f a)):NM wr (x>>=f):=by
 show NM wr (Sem.bind x f);induction x with
 |pure a=>exact k a
 |load m a c ih=>exact fun v=>ih v (h v)
 |store m a v c ih=>exact⟨h.1,ih h.2⟩
 |new o c ih=>exact fun v=>ih v (h v)
 |shape r c ih=>exact fun v=>ih v (h v)
 |freeze a n c ih=>exact⟨h.1,ih h.2⟩
 |frozen a c ih=>exact fun v=>ih v (h v)
 |getObj r c ih=>exact fun v=>ih v (h v)
 |setObj r o c ih=>exact⟨h.1,ih h.2⟩
 |choose q c ih=>exact fun v=>ih v (h v)
 |sys q c ih=>exact fun v=>ih v (h v)
 |program c ih=>exact fun v=>ih v (h v)
 |mark m c ih=>exact⟨h.1,ih h.2⟩
 |halt h'=>exact h
theorem NM.ite{α:Type}{wr:Bool}{c:Prop} [Decidable c]{a b:Sem α}(h1:NM wr a)(h2:NM wr b):NM wr (if c then a else b):=by
 by_cases h:c
 ·rw[if_pos h];exact h1
 ·rw[if_neg h];exact h2
theorem J6{P:au}{w:ae}{a:Addr}{b:Bool}{h:Halt}(e:w.farLoad P a b=.error h\/∃v,w.farStore P a v b=.error h):Y4 h:=by
 have nc:∀s,Y4 (w.noCell a s):=fun s=>by unfold World.noCell;split<;>trivial
 rcases e with e|⟨v,e⟩
 ·unfold World.farLoad at e;split at e
  ·split at e
   ·cases e
   ·cases e;trivial
  ·cases e;exact nc _
 ·unfold World.farStore at e;split at e
  ·split at e
   ·cases e
   ·cases e;trivial
  ·cases e;exact nc _
def Lv{α:Type}(P:au):Sem α->Nat->Nat->Prop
 |.pure _,d,d'=>d=d'
 |.load _ _ k,d,d'=>∀v,Lv P (k v) d d'
 |.store _ _ _ k,d,d'=>Lv P k d d'
 |.new _ k,d,d'=>∀r,Lv P (k r) d d'
 |.shape _ k,d,d'=>∀s,Lv P (k s) d d'
 |.freeze _ _ k,d,d'=>Lv P k d d'
 |.frozen _ k,d,d'=>∀b,Lv P (k b) d d'
 |.getObj _ k,d,d'=>∀o,Lv P (k o) d d'
 |.setObj _ _ k,d,d'=>Lv P k d d'
 |.choose _ k,d,d'=>∀n,Lv P (k n) d d'
 |.sys _ k,d,d'=>∀r,Lv P (k r) d d'
 |.program k,d,d'=>Lv P (k P) d d'
 |.mark .disable k,d,d'=>Lv P k (d+1) d'
 |.mark .enable k,d,d'=>Lv P k (d-1) d'
 |.mark _ k,d,d'=>Lv P k d d'
 |.halt h,_,_=>Y4 h
theorem NM.lv{α:Type}{P:au}{wr:Bool}{x:Sem α}(h:NM wr x)(d:Nat):Lv P x d d:=by
 induction x with
 |pure a=>exact(rfl:d=d)
 |load m a c ih=>exact fun v=>ih v (h v)
 |store m a v c ih=>exact ih h.2
 |new o c ih=>exact fun v=>ih v (h v)
 |shape r c ih=>exact fun v=>ih v (h v)
 |freeze a n c ih=>exact ih h.2
 |frozen a c ih=>exact fun v=>ih v (h v)
 |getObj r c ih=>exact fun v=>ih v (h v)
 |setObj r o c ih=>exact ih h.2
 |choose q c ih=>exact fun v=>ih v (h v)
 |sys q c ih=>exact fun v=>ih v (h v)
 |program c ih=>exact ih P (h P)
 |mark m c ih=>
  have:=ih h.2
  cases m<;>first
   |exact this
   |exact absurd rfl h.1.1
   |exact absurd rfl h.1.2
 |halt h'=>exact h
theorem Lv.bind{α β:Type}{P:au}{x:Sem α}{f:α->Sem β}{d₁ d₂:Nat}:∀{d:Nat},Lv P x d d₁->(∀a,Lv P (f a) d₁ d₂)->Lv P (x>>=f) d d₂:=by
 show∀{d:Nat},Lv P x d d₁->(∀a,Lv P (f a) d₁ d₂)->Lv P (Sem.bind x f) d d₂;induction x with
 |pure a=>intro d h k;cases h;exact k a
 |load m a c ih=>exact fun h k v=>ih v (h v) k
 |store m a v c ih=>exact fun h k=>ih h k
 |new o c ih=>exact fun h k v=>ih v (h v) k
 |shape r c ih=>exact fun h k v=>ih v (h v) k
 |freeze a n c ih=>exact fun h k=>ih h k
 |frozen a c ih=>exact fun h k v=>ih v (h v) k
 |getObj r c ih=>exact fun h k v=>ih v (h v) k
 |setObj r o c ih=>exact fun h k=>ih h k
 |choose q c ih=>exact fun h k v=>ih v (h v) k
 |sys q c ih=>exact fun h k v=>ih v (h v) k
 |program c ih=>exact fun h k=>ih P h k
 |mark m c ih=>intro d h k;cases m<;>exact ih h k
 |halt h'=>exact fun h _=>h
def VA(e:Event):Prop:=e.sync=true\/∀m,e.loc≠ .mark m
theorem deaf_push(d:Nat)(es:Array Event)(e:Event):deafBehind d (es.push e)=deafBehind (deafBehind d es) #[e]:=by
 unfold deafBehind;simp
theorem rT(d:Nat){e:Event}(h:∀m,e.loc≠ .mark m):deafBehind d #[e]=d:=by
 obtain⟨l,w,s⟩:=e;cases l<;>first|rfl|exact absurd rfl (h _)
theorem Lv.run{α:Type}{P:au}{x:Sem α}{Et d':Nat}:∀{d:Nat} {w:ae} {es:Array Event},Lv P x d d'->deafBehind Et es=d->(∀e∈es,VA e)->
  (∀a w',(x.runT P w es).1=.ok a w'->deafBehind Et (x.runT P w es).2=d'/\∀e∈(x.runT P w es).2,VA e)/\(∀h w',(x.runT P w es).1=.halt h w'->Y4 h):=by
 have pu:∀{es:Array Event} {e0:Event},VA e0->(∀e∈es,VA e)->∀e∈es.push e0,VA e:=fun h0 h e he=>by
  rcases Array.mem_push.1 he with h1|rfl
  ·exact h e h1
  ·exact h0
 have ap:∀{es:Array Event} {l:List Addr} {b c:Bool},(∀e∈es,VA e)->∀e∈es++l.toArray.map (fun a=>(⟨.cell a,b,c⟩:Event)),VA e:=fun h e he=>by
  rcases Array.mem_append.1 he with h1|h1
  ·exact h e h1
  ·obtain⟨a,_,rfl⟩:=Array.mem_map.1 h1;exact .inr fun m=>by simp
 have apd:∀{es:Array Event} {l:List Addr} {b c:Bool} {d:Nat},deafBehind Et es=d->deafBehind Et (es++l.toArray.map (fun a=>(⟨.cell a,b,c⟩:Event)))=d:=fun{es l b c d} h=>by
  subst h;induction l generalizing es with
  |nil=>simp
  |cons a l ih=>
   have e:es++(a::l).toArray.map (fun a=>(⟨.cell a,b,c⟩:Event))=es.push ⟨.cell a,b,c⟩++l.toArray.map (fun a=>(⟨.cell a,b,c⟩:Event)):=by simp
   rw[e,ih,deaf_push,rT _ (fun m=>by simp)]
 have pd:∀{es:Array Event} {e0:Event} {d:Nat},(∀m,e0.loc≠ .mark m)->deafBehind Et es=d->deafBehind Et (es.push e0)=d:=fun h hd=>by rw[deaf_push,rT _ h,hd]
 induction x with
 |pure a=>intro d w es h hd hes;exact⟨fun a1 w1 _=>⟨hd.trans h,hes⟩,fun h1 w1 e=>by cases e⟩
 |load m a c ih=>
  intro d w es h hd hes;cases hc:w.cell? a with
  |some v=>simp only[Sem.runT,hc];exact ih _ (h _) (pd (fun m=>by simp) hd) (pu (.inr fun m=>by simp) hes)
  |none=>
   cases hf:w.farLoad P a (m== .atomic)with
   |error e=>
    simp only[Sem.runT,hc,hf];refine⟨fun _ _ e=>(by cases e),fun h' w' e=>?_⟩;cases e;exact J6 (.inl hf)
   |ok p=>obtain⟨v,t⟩:=p;simp only[Sem.runT,hc,hf];exact ih _ (h _) (apd hd) (ap hes)
 |store m a v c ih=>
  intro d w es h hd hes;have main:∀v:af,(Sem.store m a v c).runT P w es=(match w.cell? a with
    |some _=>if w.frozen? a then(Result.halt (.unsupported (.unsafePointer "a write to bytes that a string shares")) w,es)else c.runT P (w.setCell a v) (es.push ⟨.cell a,true,m== .atomic⟩)
    |none=>match w.farStore P a v (m== .atomic)with
     |.ok (w,Ws)=>c.runT P w (es++Ws.toArray.map (⟨.cell ·,true,m== .atomic⟩))
     |.error h=>(.halt h w,es))->(∀x w',((Sem.store m a v c).runT P w es).1=.ok x w'->deafBehind Et ((Sem.store m a v c).runT P w es).2=d'/\∀e∈((Sem.store m a v c).runT P w es).2,VA e)/\(∀h w',((Sem.store m a v c).runT P w es).1=.halt h w'->Y4 h):=fun v e=>by
   rw[e];cases hc:w.cell? a with
   |some x=>
    dsimp only;split
    ·exact⟨fun _ _ e=>(by cases e),fun h' w' e=>by cases e;trivial⟩
    ·exact ih h (pd (fun m=>by simp) hd) (pu (.inr fun m=>by simp) hes)
   |none=>
    dsimp only;cases hf:w.farStore P a v (m== .atomic)with
    |error e=>exact⟨fun _ _ e=>(by cases e),fun h' w' e=>by cases e;exact J6 (.inr ⟨_,hf⟩)⟩
    |ok p=>obtain⟨v,t⟩:=p;exact ih h (apd hd) (ap hes)
  cases v<;>first
   |(simp only[Sem.runT];exact⟨fun _ _ e=>(by cases e),fun h' w' e=>by cases e;trivial⟩)
   |exact main _ rfl
 |new o c ih=>intro d w es h hd hes;exact ih _ (h _) hd hes
 |shape r c ih=>intro d w es h hd hes;exact ih _ (h _) hd hes
 |freeze a n c ih=>intro d w es h hd hes;exact ih h hd hes
 |frozen a c ih=>intro d w es h hd hes;exact ih _ (h _) hd hes
 |getObj r c ih=>
  intro d w es h hd hes;cases ho:w.heap[r]? with
  |none=>simp only[Sem.runT,ho];exact⟨fun _ _ e=>(by cases e),fun h' w' e=>by cases e;trivial⟩
  |some o=>cases o<;>(simp only[Sem.runT,ho];first|exact⟨fun _ _ e=>(by cases e),fun h' w' e=>by cases e;trivial⟩|exact ih _ (h _) (pd (fun m=>by simp) hd) (pu (.inr fun m=>by simp) hes))
 |setObj r o c ih=>
  intro d w es h hd hes;cases ho:w.heap[r]? with
  |none=>simp only[Sem.runT,ho];exact⟨fun _ _ e=>(by cases e),fun h' w' e=>by cases e;trivial⟩
  |some o=>cases o<;>(simp only[Sem.runT,ho];first|exact⟨fun _ _ e=>(by cases e),fun h' w' e=>by cases e;trivial⟩|exact ih h (pd (fun m=>by simp) hd) (pu (.inr fun m=>by simp) hes))
 |choose q c ih=>
  intro d w es h hd hes;unfold Sem.runT;split
  ·exact ih _ (h _) hd hes
  ·exact ih _ (h _) hd hes
 |sys q c ih=>intro d w es h hd hes;exact ih _ (h _) (pd (fun m=>by simp) hd) (pu (.inr fun m=>by simp) hes)
 |program c ih=>intro d w es h hd hes;exact ih P h hd hes
 |mark m c ih=>
  intro d w es h hd hes;cases m with
  |disable=>exact ih h (by rw[deaf_push,hd];rfl) (pu (.inl rfl) hes)
  |enable=>exact ih h (by rw[deaf_push,hd];rfl) (pu (.inl rfl) hes)
  |_=>exact ih h (by rw[deaf_push,hd];rfl) (pu (.inl rfl) hes)
 |halt h=>
  intro d w es hh hd hes;exact⟨fun _ _ e=>(by cases e),fun h' w' e=>by cases e;exact hh⟩
theorem Fy{P:au}{fn:ak}{es:Array Event}(h:∀e∈es,VA e)(d:Nat):deafBehind d (seen P fn es)=deafBehind d es:=by
 obtain⟨l⟩:=es;have h:∀e∈l,VA e:=fun e he=>h e (by simpa using he);have key:∀(quiet:ak->Bool) (l:List Event) (q:Bool) (kept:Array Event) (d₁:Nat),(∀e∈l,VA e)->deafBehind d kept=d₁->
   deafBehind d (l.foldl (seenStep quiet) (q,kept)).2=deafBehind d₁ l.toArray:=by
  intro quiet l;induction l with
  |nil=>intro q kept d₁ _ hk;simpa [deafBehind]using hk
  |cons e l ih=>
   intro q kept d₁ hl hk;have e1:deafBehind d₁ (e::l).toArray=deafBehind (deafBehind d₁ #[e]) l.toArray:=by simp[deafBehind]
   rw[List.foldl_cons,e1];have hx:(deafBehind d₁ #[e]=d₁/\∃b,seenStep quiet (q,kept) e=(b,kept))\/seenStep quiet (q,kept) e=(q,if q&& !e.sync then kept else kept.push e):=by
    unfold seenStep;dsimp only;split
    ·rename_i hf;exact .inl ⟨by simp[deafBehind,hf],_,rfl⟩
    ·exact .inr rfl
   rcases hx with⟨this,b,st⟩|st
   ·rw[this,st];exact ih _ _ _ (fun x hx=>hl x (by simp[hx])) hk
   ·rw[st];refine ih _ _ _ (fun x hx=>hl x (by simp[hx])) ?_;rcases hl e (by simp)with hs|hm
    ·rw[hs];simp only[Bool.not_true,Bool.and_false];rw[if_neg (by simp),deaf_push,hk]
    ·rw[rT _ hm];split
     ·exact hk
     ·rw[deaf_push,hk,rT _ hm]
 rw[seen_def];exact key _ l _ #[] d h rfl
def nS(w w':ae):Prop:=w.heap.size<=w'.heap.size/\∀b,b<w.heap.size->w'.heap[b]?=w.heap[b]?
theorem nS.refl(w:ae):nS w w:=⟨aH _,fun _ _=>rfl⟩
theorem nS.trans{a b c:ae}(h:nS a b)(k:nS b c):nS a c:=⟨aY h.1 k.1,fun i hi=>(k.2 i (Nat.lt_of_lt_of_le hi h.1)).trans (h.2 i hi)⟩
theorem nS.new(w:ae)(o:Obj):nS w {w with heap:=w.heap.push o}:=⟨by simp,fun b hb=>by
 show(w.heap.push o)[b]?=_;rw[Array.getElem?_push,if_neg (by omega)]⟩
theorem NM.ext{α:Type}{P:au}{x:Sem α}:∀{w:ae} {a:α} {w':ae},NM false x->x.run P w=.ok a w'->nS w w':=by
 induction x with
 |pure a=>intro w a' w' _ e;cases e;exact .refl _
 |load m a c ih=>
  intro w a' w' h e;simp only[cA]at e;split at e
  ·exact ih _ (h _) e
  ·split at e
   ·exact ih _ (h _) e
   ·cases e
 |store m a v c ih=>intro w a' w' h e;exact absurd h.1 (by simp)
 |new o c ih=>intro w a' w' h e;exact(nS.new w o).trans (ih _ (h _) e)
 |shape r c ih=>intro w a' w' h e;exact ih _ (h _) e
 |freeze a n c ih=>intro w a' w' h e;exact absurd h.1 (by simp)
 |frozen a c ih=>intro w a' w' h e;exact ih _ (h _) e
 |getObj r c ih=>
  intro w a' w' h e;cases ho:w.heap[r]? with
  |none=>simp only[cA,ho]at e;cases e
  |some o=>cases o<;>(simp only[cA,ho]at e;first|(cases e;done)|exact ih _ (h _) e)
 |setObj r o c ih=>intro w a' w' h e;exact absurd h.1 (by simp)
 |choose q c ih=>
  intro w a' w' h e;simp only[cA]at e;split at e
  ·exact ih _ (h _) e
  ·have:=ih _ (h _) e
   exact this
 |sys q c ih=>
  intro w a' w' h e;have hh:(w.sys q).2.heap=w.heap:=by
   unfold World.sys;have key:∀{β:Type} (x:Ask β) (w:ae),(w.ask x).2.heap=w.heap:=by
    intro β x;induction x with
    |done a=>intro w;rfl
    |ask what range k ih=>intro w;unfold World.ask;dsimp only;split<;>exact ih _ _
   have:=key (Kernel.perform q w.os) w
   split
   ·rfl
   ·rename_i h1;rw[h1]at this;exact this
  have:=ih _ (h _) e
  unfold nS at this ⊢;rw[hh]at this;exact this
 |program c ih=>intro w a' w' h e;exact ih _ (h _) e
 |mark m c ih=>intro w a' w' h e;exact ih h.2 e
 |halt h'=>intro w a' w' h e;cases e
theorem Gn{α β:Type}{wr:Bool}{f:α->β->Sem (ForInStep β)}(h:∀a b,NM wr (f a b)):∀(l:List α) (b:β),NM wr (forIn l b f)
 |[],b=>by simp only[List.forIn_nil];exact NM.pure b
 |a::l,b=>by
  simp only[List.forIn_cons];refine NM.bind (h a b) fun s=>?_;cases s with
  |done b=>exact NM.pure b
  |yield b=>exact Gn h l b
theorem tS{α β:Type}{wr:Bool}{f:α->β->Sem (ForInStep β)}(h:∀a b,NM wr (f a b))(l:Array α)(b:β):NM wr (forIn l b f):=by
 rw[<-Array.forIn_toList];exact Gn h _ b
theorem Ca{β:Type}{wr:Bool}{f:Nat->β->Sem (ForInStep β)}(h:∀a b,NM wr (f a b))(l:Std.Legacy.Range)(b:β):NM wr (forIn l b f):=by
 rw[Std.Legacy.Range.forIn_eq_forIn_range'];exact Gn h _ b
theorem NS{α β:Type}{wr:Bool}{f:α->Sem β}(h:∀a,NM wr (f a)):∀l:List α,NM wr (l.mapM f)
 |[]=>by simp only[List.mapM_nil];exact NM.pure _
 |a::l=>by
  simp only[List.mapM_cons];exact NM.bind (h a) fun _=>NM.bind (NS h l) fun _=>NM.pure _
theorem NT{α β:Type}{wr:Bool}{f:α->Sem β}(h:∀a,NM wr (f a))(l:Array α):NM wr (l.mapM f):=by
 rw[Array.mapM_eq_mapM_toList];exact NM.bind (NS h _) fun _=>NM.pure _
theorem am6{α β:Type}{wr:Bool}{x:Sem α}{f:α->β}(h:NM wr x):NM wr (Functor.map f x):=NM.bind h fun _=>NM.pure _
section
instance bg0(wr:Bool)(a:Addr)(m:Mode):Nm wr (load a m):=⟨fun _=>trivial⟩
instance aP5(a:Addr)(v:af)(m:Mode):Nm true (store a v m):=⟨⟨rfl,trivial⟩⟩
instance aH6(wr:Bool)(o:Obj):Nm wr (newObj o):=⟨fun _=>trivial⟩
instance aP8(wr:Bool)(r:Nat):Nm wr (shape r):=⟨fun _=>trivial⟩
instance aI2(a:Addr)(n:Nat):Nm true (freeze a n):=⟨⟨rfl,trivial⟩⟩
instance aI1(wr:Bool)(a:Addr):Nm wr (frozen a):=⟨fun _=>trivial⟩
instance aI0(wr:Bool)(r:Nat):Nm wr (getObj r):=⟨fun _=>trivial⟩
instance aH0(r:Nat)(o:Obj):Nm true (setObj r o):=⟨⟨rfl,trivial⟩⟩
instance aI4(wr:Bool)(q:Question):Nm wr (choose q):=⟨fun _=>trivial⟩
instance bp8(wr:Bool)(q:Sys):Nm wr (sys q):=⟨fun _=>trivial⟩
instance am4(wr:Bool):Nm wr program:=⟨fun _=>trivial⟩
instance aH3(wr:Bool):Nm wr (mark .noRoom):=⟨⟨⟨by simp,by simp⟩,trivial⟩⟩
theorem NM.auto{α:Type}{wr:Bool}{x:Sem α}(h:NM wr x:=by repeat' first|exact Nm.out|assumption|refine NM.bind ?_ fun _=>?_|refine NM.ite ?_ ?_|split|(intro _)|dsimp only):NM wr x:=h
instance an9(wr:Bool)(n:Nat):Nm wr (askRoom n):=⟨by
 unfold askRoom;exact NM.auto⟩
instance aG8(wr:Bool)(r:Nat):Nm wr (viewAt r):=⟨by
 unfold viewAt;exact NM.auto⟩
instance ZJ(wr:Bool)(r:Nat):Nm wr (numberAt r):=⟨by
 unfold numberAt;exact NM.auto⟩
instance an7(wr:Bool)(r:Nat):Nm wr (cellsIn r):=⟨by
 unfold cellsIn;exact NM.auto⟩
instance ZP(wr:Bool)(a:Addr)(b:Bool):Nm wr (asNumber a b):=⟨by
 unfold asNumber;exact NM.auto⟩
instance RL(wr:Bool)(a:Addr):Nm wr (behindNumber a):=⟨by
 unfold behindNumber;exact NM.auto⟩
instance aH2(wr:Bool)(a:Addr):Nm wr (noView a):=⟨by
 unfold noView;exact NM.auto⟩
instance Qn(a:Addr):Nm true (markStringish a):=⟨by
 unfold markStringish;exact NM.auto⟩
instance Xg(wr:Bool)(a:Addr):Nm wr (stringish a):=⟨by
 unfold stringish;exact NM.auto⟩
instance ZL(wr:Bool)(a b:Addr):Nm wr (mayBeOne a b):=⟨by
 unfold mayBeOne;exact NM.auto⟩
instance ZG(wr:Bool)(a b:Addr):Nm wr (sameAddr a b):=⟨by
 unfold sameAddr;exact NM.auto⟩
instance Tg(wr:Bool)(a b:Option Addr):Nm wr (samePointer a b):=⟨by
 unfold samePointer;exact NM.auto⟩
instance ZB(wr:Bool)(t:aj):Nm wr (typeInfo t):=⟨by
 unfold typeInfo;exact NM.auto⟩
instance VU(wr:Bool)(t:aj):Nm wr (underlying t):=⟨by
 unfold underlying;exact NM.auto⟩
instance am0(wr:Bool)(t:aj):Nm wr (typeStr t):=⟨by
 unfold typeStr;exact NM.auto⟩
instance Xd(wr:Bool)(t:aj):Nm wr (zeroValue t):=⟨by
 unfold zeroValue;exact NM.auto⟩
instance aG9(wr:Bool)(t:aj):Nm wr (sizeOf t):=⟨by
 unfold sizeOf;exact NM.auto⟩
instance aQ0(wr:Bool)(t:aj):Nm wr (isAgg t):=⟨by
 unfold isAgg;exact NM.auto⟩
theorem oY{wr:Bool}(a:Addr):∀(n i:Nat) (acc:Array af),NM wr (loadCellsFrom a i n acc)
 |0,i,acc=>by unfold loadCellsFrom;exact NM.pure _
 |n+1,i,acc=>by unfold loadCellsFrom;exact NM.bind Nm.out fun _=>oY a n _ _
instance(wr:Bool)(a:Addr)(n i:Nat)(acc:Array af):Nm wr (loadCellsFrom a i n acc):=⟨oY a n i acc⟩
theorem tP(a:Addr):∀(vs:List af) (i:Nat),NM true (storeCells a vs i)
 |[],i=>by unfold storeCells;exact NM.pure _
 |v::vs,i=>by unfold storeCells;exact NM.bind Nm.out fun _=>tP a vs _
instance(a:Addr)(vs:List af)(i:Nat):Nm true (storeCells a vs i):=⟨tP a vs i⟩
instance Xj(wr:Bool)(a:Addr)(n:Nat):Nm wr (loadCells a n):=⟨by
 unfold loadCells;exact NM.auto⟩
instance am8(wr:Bool)(t:aj)(a:Addr):Nm wr (loadVar t a):=⟨by
 unfold loadVar;exact NM.auto⟩
instance ZF(t:aj)(a:Addr)(v:af):Nm true (storeVar t a v):=⟨by
 unfold storeVar;exact NM.auto⟩
instance aH5(wr:Bool)(t:aj)(c:Array af):Nm wr (newRow t c):=⟨by
 unfold newRow;exact NM.auto⟩
instance aH4(wr:Bool)(t:aj)(v:af):Nm wr (newVar t v):=⟨by
 unfold newVar;exact NM.auto⟩
instance aI3(wr:Bool)(t:aj):Nm wr (elemOf t):=⟨by
 unfold elemOf;exact NM.auto⟩
instance bf8(wr:Bool)(t:aj)(c:Array af)(n:Nat):Nm wr (part t c n):=⟨by
 unfold part;exact NM.auto⟩
instance{α:Type}(wr:Bool)(e:RuntimeError):Nm wr (runtimePanic e:Sem α):=⟨by
 unfold runtimePanic;exact NM.auto⟩
instance{α:Type}(wr:Bool)(k:IntKind)(x y:Int)(c:BoundsCode):Nm wr (boundsPanic k x y c:Sem α):=⟨by
 unfold boundsPanic;repeat' (first|exact Nm.out|assumption|exact am6 Nm.out|(refine NM.bind ?_ fun _=>?_)|(refine NM.ite ?_ ?_)|split|(intro _)|dsimp only)⟩
instance ao0(wr:Bool)(v:af):Nm wr (asIntOf v):=⟨by
 unfold asIntOf;exact NM.auto⟩
instance aQ7(wr:Bool)(v:af):Nm wr (asInt v):=⟨by
 unfold asInt;exact NM.auto⟩
instance aI6(wr:Bool)(v:af):Nm wr (asBool v):=⟨by
 unfold asBool;exact NM.auto⟩
instance aQ8(wr:Bool)(v:af):Nm wr (asAgg v):=⟨by
 unfold asAgg;exact NM.auto⟩
instance aI7(wr:Bool)(v:af):Nm wr (asAddr v):=⟨by
 unfold asAddr;exact NM.auto⟩
instance ZC(wr:Bool)(v:af):Nm wr (dM v):=⟨by
 unfold dM;exact NM.auto⟩
instance aI5(wr:Bool)(a:Addr):Nm wr (byteOf a):=⟨by
 unfold byteOf;exact NM.auto⟩
instance V3(wr:Bool)(a:Addr)(f:Field):Nm wr (fieldPlace a f):=⟨by
 unfold fieldPlace;exact NM.auto⟩
instance Te(wr:Bool)(a:Addr)(u:aj)(n:Nat):Nm wr (variablesAt a u n):=⟨by
 unfold variablesAt;exact NM.auto⟩
instance Tn(wr:Bool)(t:aj)(v:af):Nm wr (dw t true v):=⟨by
 unfold dw;exact NM.auto⟩
instance Qo(wr:Bool)(t:aj)(v:af):Nm wr (aT t v):=⟨by
 unfold aT;exact NM.auto⟩
instance LX(t:aj)(v x:af):Nm true (bI t v x):=⟨by
 unfold bI;exact NM.auto⟩
instance an2(wr:Bool)(t:aj)(v:af)(n:Nat):Nm wr (Instr.fieldAt t v n):=⟨by
 unfold Instr.fieldAt;exact NM.auto⟩
instance an0(wr:Bool)(t:aj)(v x:af):Nm wr (Instr.indexAt t v x):=⟨by
 unfold Instr.indexAt;exact NM.auto⟩
instance bq0(wr:Bool)(t:aj)(v:af):Nm wr (Instr.box t v):=⟨by
 unfold Instr.box;exact NM.auto⟩
instance aQ5(wr:Bool)(t:aj)(p:Array (Nat×af)):Nm wr (Instr.build t p):=⟨by
 unfold Instr.build;repeat' (first|exact Nm.out|assumption|exact NT (fun f=>NM.bind Nm.out fun _=>Nm.out) _|(refine NM.bind ?_ fun _=>?_)|(refine NM.ite ?_ ?_)|split|(intro _)|dsimp only)⟩
instance DY(wr:Bool)(t:aj)(n:Nat)(p:Array (Nat×af)):Nm wr (Instr.buildSlice t n p):=⟨by
 unfold Instr.buildSlice;exact NM.auto⟩
instance am7(wr:Bool)(t:aj)(r:Option af):Nm wr (Instr.makeMap t r):=⟨by
 unfold Instr.makeMap;exact NM.auto⟩
instance Xi(wr:Bool)(t:aj)(x y:af):Nm wr (Instr.makeSlice t x y):=⟨by
 unfold Instr.makeSlice;exact NM.auto⟩
instance VV(wr:Bool)(v:af)(y:Nat)(c:BoundsCode):Nm wr (Instr.sliceBound v y c):=⟨by
 unfold Instr.sliceBound;exact NM.auto⟩
instance Tf(wr:Bool)(b:Bool)(x y:Nat)(l h m:Option af):Nm wr (Instr.sliceBounds b x y l h m):=⟨by
 unfold Instr.sliceBounds;exact NM.auto⟩
instance aP6(wr:Bool)(t:aj)(v:af)(l h m:Option af):Nm wr (Instr.slice t v l h m):=⟨by
 unfold Instr.slice;exact NM.auto⟩
instance am2(wr:Bool)(t:aj)(v:af)(l h m:Option af):Nm wr (Instr.sliceAt t v l h m):=⟨by
 unfold Instr.sliceAt;exact NM.auto⟩
instance aQ2(wr:Bool)(t:aj)(x:af)(n:Nat):Nm wr (Instr.field t x n):=⟨by
 unfold Instr.field;exact NM.auto⟩
instance aQ1(wr:Bool)(t:aj)(x y:af):Nm wr (Instr.index t x y):=⟨by
 unfold Instr.index;exact NM.auto⟩
instance an3(wr:Bool)(x:af)(n:Nat):Nm wr (Instr.extract x n):=⟨by
 unfold Instr.extract;exact NM.auto⟩
theorem Cb{wr:Bool}:∀(d:Nat) (t:aj) (x y:af),NM wr (Op.equalIn d t x y)
 |0,t,x,y=>by unfold Op.equalIn;exact Nm.out
 |d+1,t,x,y=>by
  unfold Op.equalIn;repeat' (first|exact Nm.out|assumption|exact Cb d _ _ _|(refine tS (fun _ _=>?_) _ _)|(refine Ca (fun _ _=>?_) _ _)|(refine NM.bind ?_ fun _=>?_)|(refine NM.ite ?_ ?_)|split|(intro _)|dsimp only)
theorem xM{wr:Bool}:∀(d:Nat) (t:aj) (x y:af),NM wr (Op.eqGuardIn d t x y)
 |0,t,x,y=>by unfold Op.eqGuardIn;exact Nm.out
 |d+1,t,x,y=>by
  unfold Op.eqGuardIn;repeat' (first|exact Nm.out|assumption|exact xM d _ _ _|(refine tS (fun _ _=>?_) _ _)|(refine Ca (fun _ _=>?_) _ _)|(refine NM.bind ?_ fun _=>?_)|(refine NM.ite ?_ ?_)|split|(intro _)|dsimp only)
instance(wr:Bool)(d:Nat)(t:aj)(x y:af):Nm wr (Op.equalIn d t x y):=⟨Cb d t x y⟩
instance(wr:Bool)(d:Nat)(t:aj)(x y:af):Nm wr (Op.eqGuardIn d t x y):=⟨xM d t x y⟩
instance aQ3(wr:Bool)(t:aj)(x y:af):Nm wr (Op.equal t x y):=⟨by
 unfold Op.equal;exact NM.auto⟩
instance VZ(wr:Bool)(o:BinOp)(k:FloatKind)(x y:Nat):Nm wr (Op.floatArith o k x y):=⟨by
 unfold Op.floatArith;exact NM.auto⟩
instance ZO(wr:Bool)(o:BinOp)(k:FloatKind)(x y:Nat):Nm wr (Op.floatCmp o k x y):=⟨by
 unfold Op.floatCmp;exact NM.auto⟩
instance RJ(wr:Bool)(s:FloatKind)(b:Nat)(d:FloatKind):Nm wr (Conv.floatToFloat s b d):=⟨by
 unfold Conv.floatToFloat;exact NM.auto⟩
instance aQ9(wr:Bool)(o:BinOp)(k:FloatKind)(x y:Nat):Nm wr (Op.Complex.arith o k x y):=⟨by
 unfold Op.Complex.arith;exact NM.auto⟩
instance bp9(wr:Bool)(o:BinOp)(k:FloatKind)(x y:Nat):Nm wr (Op.Complex.cmp o k x y):=⟨by
 unfold Op.Complex.cmp;exact NM.auto⟩
instance bg4(wr:Bool)(s:FloatKind)(b:Nat)(d:FloatKind):Nm wr (Op.Complex.conv s b d):=⟨by
 unfold Op.Complex.conv;exact NM.auto⟩
instance bg6(wr:Bool)(x y:Nat):Nm wr (Op.Complex.add x y):=⟨by
 unfold Op.Complex.add;exact NM.auto⟩
instance bg2(wr:Bool)(x y:Nat):Nm wr (Op.Complex.sub x y):=⟨by
 unfold Op.Complex.sub;exact NM.auto⟩
instance bg5(wr:Bool)(x y:Nat):Nm wr (Op.Complex.mul x y):=⟨by
 unfold Op.Complex.mul;exact NM.auto⟩
instance bg3(wr:Bool)(x y:Nat):Nm wr (Op.Complex.quo x y):=⟨by
 unfold Op.Complex.quo;exact NM.auto⟩
instance am5(wr:Bool)(a b c d:Nat):Nm wr (Op.Complex.product a b c d):=⟨by
 unfold Op.Complex.product;exact NM.auto⟩
instance Xk(wr:Bool)(s a b c d:Nat):Nm wr (Op.Complex.corrected s a b c d):=⟨by
 unfold Op.Complex.corrected;exact NM.auto⟩
instance ZI(wr:Bool)(a b c d:Nat):Nm wr (Op.Complex.quotient a b c d):=⟨by
 unfold Op.Complex.quotient;exact NM.auto⟩
instance Xl(wr:Bool)(o:BinOp)(k:FloatKind)(x y z u:Nat):Nm wr (Op.complexOp o k x y z u):=⟨by
 unfold Op.complexOp;exact NM.auto⟩
instance ZN(wr:Bool)(o:BinOp)(k:IntKind)(x y:Int):Nm wr (Op.intArith o k x y):=⟨by
 unfold Op.intArith;exact NM.auto⟩
instance aH8(wr:Bool)(o:BinOp)(k:IntKind)(x y:Int):Nm wr (Op.intDiv o k x y):=⟨by
 unfold Op.intDiv;exact NM.auto⟩
instance am9(wr:Bool)(o:BinOp)(k:IntKind)(x y:Int):Nm wr (Op.intBits o k x y):=⟨by
 unfold Op.intBits;exact NM.auto⟩
instance aH9(wr:Bool)(o:BinOp)(x y:Int):Nm wr (Op.intCmp o x y):=⟨by
 unfold Op.intCmp;exact NM.auto⟩
instance aP7(wr:Bool)(o:BinOp)(k:IntKind)(x:Int)(k2:IntKind)(y:Int):Nm wr (Op.shift o k x k2 y):=⟨by
 unfold Op.shift;exact NM.auto⟩
instance ZE(wr:Bool)(o:BinOp)(x y:ByteArray):Nm wr (Op.stringOp o x y):=⟨by
 unfold Op.stringOp;exact NM.auto⟩
instance aP4(wr:Bool)(o:UnOp)(x:af):Nm wr (Op.unary o x):=⟨by
 unfold Op.unary;exact NM.auto⟩
instance Xf(wr:Bool)(a b:Addr):Nm wr (Op.twoPlaces a b):=⟨by
 unfold Op.twoPlaces;exact NM.auto⟩
instance ao2(wr:Bool)(k:IntKind)(a b:Addr):Nm wr (Op.addrSub k a b):=⟨by
 unfold Op.addrSub;exact NM.auto⟩
instance ao4(wr:Bool)(o:BinOp)(a b:Addr):Nm wr (Op.addrCmp o a b):=⟨by
 unfold Op.addrCmp;exact NM.auto⟩
instance ao3(wr:Bool)(k:IntKind)(a:Addr)(n:Int):Nm wr (Op.addrMod k a n):=⟨by
 unfold Op.addrMod;exact NM.auto⟩
instance Xe(wr:Bool)(a:Array aj)(t:aj)(x y:af):Nm wr (Builtin.unsafeAdd_ a t #[x,y]):=⟨by
 cases x<;>unfold Builtin.unsafeAdd_<;>first
  |exact trivial
  |(refine NM.bind (x:=asInt y) Nm.out fun n=>?_
    exact NM.auto)⟩
instance Ti(wr:Bool)(t:aj)(x y:af):Nm wr (movedNumber t x y):=⟨by
 unfold movedNumber;exact NM.auto⟩
instance RH(wr:Bool)(t:aj)(x y:af):Nm wr (movedPointer t x y):=⟨by
 unfold movedPointer;exact NM.auto⟩
instance an4(wr:Bool)(o:BinOp)(t:aj)(x y:Operand)(a b:af):Nm wr (eqGuard o t x y a b):=⟨by
 unfold eqGuard;exact NM.auto⟩
instance aQ6(wr:Bool)(o:BinOp)(t:aj)(x y:af):Nm wr (binOp o t x y):=⟨by
 unfold binOp;exact NM.auto⟩
instance ZM(wr:Bool)(k:IntKind)(n:Int):Nm wr (Conv.intToInt k n):=⟨by
 unfold Conv.intToInt;exact NM.auto⟩
instance VW(wr:Bool)(k:FloatKind)(n:Int):Nm wr (Conv.intToFloat k n):=⟨by
 unfold Conv.intToFloat;exact NM.auto⟩
instance VY(wr:Bool)(s:FloatKind)(b:Nat)(k:IntKind):Nm wr (Conv.floatToInt s b k):=⟨by
 unfold Conv.floatToInt;exact NM.auto⟩
instance KX(wr:Bool)(s:FloatKind)(a b:Nat)(d:FloatKind):Nm wr (Conv.complexToComplex s a b d):=⟨by
 unfold Conv.complexToComplex;exact NM.auto⟩
instance Tk(wr:Bool)(n:Int):Nm wr (Conv.intToString n):=⟨by
 unfold Conv.intToString;exact NM.auto⟩
instance Ql(e:aj)(s:ByteArray):Nm true (Conv.stringToBytes e s):=⟨by
 unfold Conv.stringToBytes;exact NM.auto⟩
instance Qk(wr:Bool)(e:aj)(s:ByteArray):Nm wr (Conv.stringToRunes e s):=⟨by
 unfold Conv.stringToRunes;exact NM.auto⟩
instance(wr:Bool)(x:af):Nm wr (Conv.bytesToString x):=⟨by
 unfold Conv.bytesToString;repeat' (first|exact Nm.out|assumption|(refine tS (fun _ _=>?_) _ _)|(refine NM.bind ?_ fun _=>?_)|(refine NM.ite ?_ ?_)|split|(intro _)|dsimp only)⟩
instance(wr:Bool)(x:af):Nm wr (Conv.runesToString x):=⟨by
 unfold Conv.runesToString;repeat' (first|exact Nm.out|assumption|(refine tS (fun _ _=>?_) _ _)|(refine NM.bind ?_ fun _=>?_)|(refine NM.ite ?_ ?_)|split|(intro _)|dsimp only)⟩
instance aH1(wr:Bool)(a:Addr):Nm wr (Conv.seenAt a):=⟨by
 unfold Conv.seenAt;exact NM.auto⟩
instance Qj(wr:Bool)(s d:aj)(x:af):Nm wr (Conv.unsafePointer s d x):=⟨by
 unfold Conv.unsafePointer;exact NM.auto⟩
instance an6(s d:aj)(x:af):Nm true (convert s d x):=⟨by
 unfold convert;exact NM.auto⟩
theorem zI{wr:Bool}(b:Bool):∀(d:Nat) (t:aj) (x:af),NM wr (Instr.checkKey b d t x)
 |0,t,x=>by unfold Instr.checkKey;exact Nm.out
 |d+1,t,x=>by
  unfold Instr.checkKey;repeat' (first|exact Nm.out|assumption|exact zI b d _ _|(refine tS (fun _ _=>?_) _ _)|(refine Ca (fun _ _=>?_) _ _)|(refine NM.bind ?_ fun _=>?_)|(refine NM.ite ?_ ?_)|split|(intro _)|dsimp only)
theorem vZ{wr:Bool}(t:aj)(x:af):∀(l:List MapEntry) (i:Nat),NM wr (Instr.findAsking t x l i)
 |[],i=>by unfold Instr.findAsking;exact NM.pure _
 |e::l,i=>by
  unfold Instr.findAsking;repeat' (first|exact Nm.out|assumption|exact vZ t x l _|(refine NM.bind ?_ fun _=>?_)|(refine NM.ite ?_ ?_)|split|(intro _)|dsimp only)
instance(wr:Bool)(b:Bool)(d:Nat)(t:aj)(x:af):Nm wr (Instr.checkKey b d t x):=⟨zI b d t x⟩
instance(wr:Bool)(t:aj)(x:af)(l:List MapEntry)(i:Nat):Nm wr (Instr.findAsking t x l i):=⟨vZ t x l i⟩
instance an1(wr:Bool)(t:aj)(x:af)(l:List MapEntry):Nm wr (Instr.findKey t x l):=⟨by
 unfold Instr.findKey;exact NM.auto⟩
instance aH7(wr:Bool)(t:aj)(x y:af)(b:Bool):Nm wr (Instr.lookup t x y b):=⟨by
 unfold Instr.lookup;exact NM.auto⟩
instance RI(wr:Bool)(x y:af):Nm wr (Instr.keyThatStays x y):=⟨by
 unfold Instr.keyThatStays;exact NM.auto⟩
instance Xh(t:aj)(x y z:af):Nm true (Instr.mapUpdate t x y z):=⟨by
 unfold Instr.mapUpdate;exact NM.auto⟩
instance VX(wr:Bool)(a:Addr)(n:Nat):Nm wr (Builtin.holdsCells a n):=⟨by
 unfold Builtin.holdsCells;exact NM.auto⟩
instance ZK(wr:Bool)(a b c:Nat)(o:Option Addr)(x:af):Nm wr (Builtin.mayShare a b c o x):=⟨by
 unfold Builtin.mayShare;exact NM.auto⟩
instance aP9(wr:Bool)(x:af):Nm wr (Builtin.lenOf x):=⟨by
 unfold Builtin.lenOf;exact NM.auto⟩
instance V2(wr:Bool)(a b:Nat)(x:af):Nm wr (Builtin.firstCells a b x):=⟨by
 unfold Builtin.firstCells;exact NM.auto⟩
instance ao1(x:Array aj)(t:aj)(y:Array af):Nm true (Builtin.append_ x t y):=⟨by
 unfold Builtin.append_;exact NM.auto⟩
instance aQ4(x:Array aj)(t:aj)(y:Array af):Nm true (Builtin.copy_ x t y):=⟨by
 unfold Builtin.copy_;exact NM.auto⟩
instance an5(x:Array aj)(t:aj)(y:Array af):Nm true (Builtin.delete_ x t y):=⟨by
 unfold Builtin.delete_;exact NM.auto⟩
instance bg1(wr:Bool)(x:Array aj)(t:aj)(y:Array af):Nm wr (Builtin.len_ x t y):=⟨by
 unfold Builtin.len_;exact NM.auto⟩
theorem tQ{wr:Bool}:∀(l:List FieldStep) (t:aj) (x:Option af),NM wr (followBlind l t x)
 |[],t,x=>by unfold followBlind;exact Nm.out
 |s::l,t,x=>by
  unfold followBlind;repeat' (first|exact Nm.out|assumption|exact tQ l _ _|(refine NM.bind ?_ fun _=>?_)|(refine NM.ite ?_ ?_)|split|(intro _)|dsimp only)
instance(wr:Bool)(l:List FieldStep)(t:aj)(x:Option af):Nm wr (followBlind l t x):=⟨tQ l t x⟩
theorem zH{wr:Bool}:∀(n:Nat) (t:aj) (x:af) (name:String),NM wr (nilAhead n t x name)
 |0,t,x,_=>by unfold nilAhead;exact Nm.out
 |n+1,t,x,name=>by
  unfold nilAhead;repeat' (first|exact Nm.out|assumption|exact zH n _ _ _|(refine NM.bind ?_ fun _=>?_)|(refine NM.ite ?_ ?_)|split|(intro _)|dsimp only)
instance(wr:Bool)(n:Nat)(t:aj)(x:af)(name:String):Nm wr (nilAhead n t x name):=⟨zH n t x name⟩
end
section
structure Sg where
 ok:ak->Bool
 fs:ak->List Nat
 en:ak->Nat
 ext:ak->Bool
 Wj:ak
 Wi:ak
 pure:ak->Bool
 own:ak->List Nat
 wN:ak->List Nat
 wO:ak->List Nat
 WK:List aj
 np:ak->Nat
section
variable(s:Sg)(f:ak)
def Sg.clean(g:ak):Bool:=s.ok g&&(s.fs g).isEmpty&&s.en g==0
def Sg.uI:Bool:=s.pure f|| !(s.own f).isEmpty|| !(s.wN f).isEmpty|| !(s.wO f).isEmpty
def Sg.B0(g:ak):Bool:=(s.own g).isEmpty&&(s.wN g).isEmpty&&(s.wO g).isEmpty
def Sg.cl(g:ak):Bool:=s.clean g&&(if s.uI f then s.pure g&&1<=s.np g else s.B0 g)
def Sg.op?(g:ak):Operand->Bool
 |.func k=>s.cl g k
 |.tmp t=>(s.fs f).contains t&&s.uI g==s.uI f
 |_=>false
def Sg.gop(o:Oper):Bool:=match o.op with
 |.pick .. |.load .. |.nilCheck _|.binOp .. |.unOp .. |.fieldAddr .. |.field .. |.indexAddr .. |.index .. |.extract .. |.move _|.assign _|.build .. |.alloc _|.box .. |.makeSlice .. |.buildSlice .. =>true
 |.store _ (.tmp t) _=>(s.own f).contains t
 |.call c=>match c.callee with
  |.builtin .len=>true
  |.builtin .copy=>match(c.args[0]?:Option Operand)with
   |some (.tmp t)=>(s.own f).contains t
   |_=>false
  |.value (.func g)=>s.pure g&& !s.ext g&&g != s.Wj&&g != s.Wi
  |.value (.tmp _)=>true
  |_=>false
 |_=>false
def Sg.oJ(o:Oper):Bool:=match o.dst with
 |none=>true
 |some t=>
  (!(s.fs f).contains t||match o.op with
   |.move x|.assign x=>s.op? f f x
   |.makeFunc (.func g) _ _=>s.cl f g
   |.load _ (.tmp u)=>(s.wO f).contains u
   |_=>false)&&
  (!(s.own f).contains t||match o.op with
   |.alloc _|.box .. |.makeSlice .. =>true
   |.move (.tmp u)|.assign (.tmp u)=>(s.own f).contains u
   |_=>false)&&
  (!(s.wN f).contains t||match o.op with
   |.buildSlice ty _ ps=>s.WK.contains ty&&ps.all (fun p=>match p.2 with
    |.func g=>s.cl f g
    |_=>false)
   |_=>false)&&
  (!(s.wO f).contains t||match o.op with
   |.indexAddr _ (.tmp u) _=>(s.wN f).contains u
   |_=>false)
def Sg.Kh(o:Oper)(d:Nat):Option Nat:=
 if !s.oJ f o||(s.uI f&& !s.gop f o)then none else
 match o.op with
 |.call c=>
  match c.callee with
  |.builtin b=>match b with
   |.append|.copy|.delete|.len=>some d
   |_=>none
  |.value (.func g)=>
   if g==s.Wj then(if o.guard.isNone then some (d+1)else none)
   else if g==s.Wi then(if o.guard.isNone&&0<d then some (d-1)else none)
   else if s.ext g then some d
   else if s.ok g&&(s.fs g).all (fun i=>(c.args[i]?).all (s.op? f g))&&s.en g<=d&&(s.en g==0||o.guard.isNone)&&(s.B0 g||c.args.size<=s.np g)then some (d-s.en g)
   else none
  |.value (.tmp t)=>if(s.fs f).contains t&&(!s.uI f||c.args.size<=1)then some d else none
  |_=>none
 |.defer c=>match c.callee with
  |.value (.func g)=>if s.clean g&&s.B0 g then some d else none
  |_=>none
 |.makeFunc (.func _) _ _=>some d
 |.move _|.assign _|.pick .. |.alloc _|.box .. |.build .. |.buildSlice .. |.load .. |.store .. |.nilCheck _|.binOp .. |.unOp .. |.convert .. |.makeMap .. |.makeSlice .. |.slice .. |.fieldAddr .. |.field .. |.indexAddr .. |.index .. |.lookup .. |.mapUpdate .. |.extract .. =>some d
 |_=>none
def Sg.Er(ops:Array Oper):List Nat->Nat->Option Nat
 |[],d=>some d
 |i::r,d=>match ops[i]? with
  |none=>Sg.Er ops r d
  |some o=>match s.Kh f o d with
   |some d'=>Sg.Er ops r d'
   |none=>none
def uD:Option (Option Nat)->Option (Option Nat)->Option (Option Nat)
 |some none,some y=>some y
 |some x,some none=>some x
 |some (some x),some (some y)=>if x==y then some (some x)else none
 |_,_=>none
def Pq(st:Option (Option Nat))(e:Nat):Bool:=match st with
 |some none=>true
 |some (some d')=>d'==e
 |none=>false
def Sg.code:Code->Nat->Option (Option Nat)
 |.skip,d|.label _,d=>some (some d)
 |.ret,d=>if d==0 then some none else none
 |.exit _,d=>if d==s.en f then some none else none
 |.seq a b,d=>match Sg.code a d with
  |some (some d')=>Sg.code b d'
  |r=>r
 |.cond (.const (.bool t)) a b,d=>if t then Sg.code a d else Sg.code b d
 |.cond _ a b,d=>uD (Sg.code a d) (Sg.code b d)
 |.block _ a,d=>match Sg.code a d with
  |some none=>some (some (s.en f))
  |some (some d')=>if d'==s.en f then some (some (s.en f))else none
  |none=>none
 |.loop a,d=>if d==s.en f&&Pq (Sg.code a (s.en f)) (s.en f)then some none else none
 |.region _ ops draw,d=>
  if draw then(if ops.all (fun o=>s.Kh f o d==some d)then some (some d)else none)
  else(s.Er f ops (List.range ops.size) d).map some
 |_,_=>none
def Sg.items:Option Nat->List Item->Option (Option Nat)
 |st,[]=>some st
 |none,.code _::k=>Sg.items none k
 |some d,.code c::k=>match s.code f c d with
  |some st=>Sg.items st k
  |none=>none
 |st,.inBlock _::k=>if st==none||st==some (s.en f)then Sg.items (some (s.en f)) k else none
 |st,.inLoop c::k=>if(st==none||st==some (s.en f))&&Pq (s.code f c (s.en f)) (s.en f)then Sg.items none k else none
 |none,.inRegion _ _::k=>Sg.items none k
 |some d,.inRegion ops todo::k=>match s.Er f ops todo d with
  |some d'=>Sg.items (some d') k
  |none=>none
 |_,_=>none
def Sg.fin:Option (Option Nat)->Bool
 |some none=>true
 |some (some d)=>d==0
 |none=>false
end
section
variable{s:Sg}{f:ak}
theorem Sg.ym:∀(X:List Item) (st:Option Nat),Sg.fin (s.items f st X)=true->Sg.fin (s.items f none X)=true
 |[],st,h=>rfl
 |x::X,none,h=>h
 |x::X,some d,h=>by
  cases x with
  |code c=>
   simp only[Sg.items]at h ⊢;split at h
   ·exact ym X _ h
   ·cases h
  |inBlock id=>
   simp only[Sg.items]at h ⊢;split at h
   ·simpa using h
   ·cases h
  |inLoop c=>
   simp only[Sg.items]at h ⊢;split at h
   ·rename_i hc;simp only[aD]at hc;rw[if_pos (by simp[hc.2])];exact h
   ·cases h
  |inRegion ops todo=>
   simp only[Sg.items]at h ⊢;split at h
   ·exact ym X _ h
   ·cases h
  |_=>simp[Sg.items,Sg.fin]at h
theorem Sg.J5{id:Nat}{Ks:List Item}(hK:Ks=[]\/Ks=[fK]):∀(X:List Item) (st:Option Nat),Sg.fin (s.items f st X)=true->∀{k'},exitTo id (X++Ks)=some k'->
  ∃Y,k'=Y++Ks/\(∀K,exitTo id (X++K)=some (Y++K))/\Sg.fin (s.items f (some (s.en f)) Y)=true
 |[],st,hf,k',h=>by rcases hK with rfl|rfl<;>simp[exitTo,fK]at h
 |x::X,st,hf,k',h=>by
  have skip:∀st',Sg.fin (s.items f st' X)=true->exitTo id (x::X++Ks)=exitTo id (X++Ks)->(∀K,exitTo id (x::X++K)=exitTo id (X++K))->∃Y,k'=Y++Ks/\(∀K,exitTo id (x::X++K)=some (Y++K))/\Sg.fin (s.items f (some (s.en f)) Y)=true:=fun st' h1 h2 h3=>by
   rw[h2]at h;obtain⟨Y,e1,e2,e3⟩:=J5 hK X st' h1 h;exact⟨Y,e1,fun K=>by rw[h3];exact e2 K,e3⟩
  cases x with
  |inBlock i=>
   have hf2:Sg.fin (s.items f (some (s.en f)) X)=true:=by
    cases st<;>(simp only[Sg.items]at hf;split at hf)<;>first|exact hf|cases hf
   by_cases hi:(i==id)=true
   ·simp only[bK,exitTo]at h;rw[if_pos hi]at h;cases h;exact⟨X,rfl,fun K=>by simp only[bK,exitTo];rw[if_pos hi],hf2⟩
   ·exact skip _ hf2 (by simp only[bK,exitTo];rw[if_neg hi]) fun K=>by simp only[bK,exitTo];rw[if_neg hi]
  |code c=>
   cases st with
   |none=>exact skip none (by simpa only[Sg.items]using hf) (by simp only[bK,exitTo]) fun K=>by simp only[bK,exitTo]
   |some d=>
    simp only[Sg.items]at hf;split at hf
    ·exact skip _ hf (by simp only[bK,exitTo]) fun K=>by simp only[bK,exitTo]
    ·cases hf
  |inLoop c=>
   have hf2:Sg.fin (s.items f none X)=true:=by
    cases st<;>(simp only[Sg.items]at hf;split at hf)<;>first|exact hf|cases hf
   exact skip _ hf2 (by simp only[bK,exitTo]) fun K=>by simp only[bK,exitTo]
  |inRegion ops todo=>
   cases st with
   |none=>exact skip none (by simpa only[Sg.items]using hf) (by simp only[bK,exitTo]) fun K=>by simp only[bK,exitTo]
   |some d=>
    simp only[Sg.items]at hf;split at hf
    ·exact skip _ hf (by simp only[bK,exitTo]) fun K=>by simp only[bK,exitTo]
    ·cases hf
  |_=>cases st<;>simp[Sg.items,Sg.fin]at hf
theorem Mk{x y:Option (Option Nat)}{f:ak}{X:List Item}(h:Sg.fin ((uD x y).bind fun st=>s.items f st X)=true):Sg.fin (x.bind fun st=>s.items f st X)=true:=by
 cases x with
 |none=>exact h
 |some x=>cases y with
  |none=>cases x<;>simp[uD,Sg.fin]at h
  |some y=>cases x with
   |none=>cases y with
    |none=>exact h
    |some y=>exact Sg.ym X _ h
   |some x=>cases y with
    |none=>exact h
    |some y=>
     by_cases e:(x==y)=true
     ·simpa [uD,e]using h
     ·simp[uD,e,Sg.fin]at h
theorem JE{x y:Option (Option Nat)}{f:ak}{X:List Item}(h:Sg.fin ((uD x y).bind fun st=>s.items f st X)=true):Sg.fin (y.bind fun st=>s.items f st X)=true:=by
 cases x with
 |none=>simp[uD,Sg.fin]at h
 |some x=>cases y with
  |none=>cases x<;>simp[uD,Sg.fin]at h
  |some y=>cases x with
   |none=>exact h
   |some x=>cases y with
    |none=>exact Sg.ym X _ h
    |some y=>
     by_cases e:(x==y)=true
     ·have e':x=y:=by simpa using e
      subst e';simpa [uD]using h
     ·simp[uD,e,Sg.fin]at h
theorem Sg.jN{X:List Item}{c:Code}{d:Nat}:s.items f (some d) (.code c::X)=(s.code f c d).bind fun st=>s.items f st X:=by
 simp only[Sg.items];cases s.code f c d<;>rfl
theorem Sg.Dd{ops:Array Oper}{d:Nat}(h:(ops.all fun o=>s.Kh f o d==some d)=true):∀l:List Nat,s.Er f ops l d=some d
 |[]=>rfl
 |i::l=>by
  unfold Sg.Er;cases ho:ops[i]? with
  |none=>exact Dd h l
  |some o=>
   have h':=h;rw[aV]at h';have:s.Kh f o d=some d:=by simpa using h' o (bF ho)
   simp only[this];exact Dd h l
end
end
section
section
variable(s:Sg)
def CV(f:ak)(v:af):Prop:=∀fn x y,v=.func fn x y->∃g,fn=.func g/\s.cl f g=true/\(s.uI f=true->x=#[]/\y=#[])
def CD(d:Deferred):Prop:=∃g ik,d=dcall g ik/\s.clean g=true/\s.B0 g=true
structure vR(P:au):Prop where
 body:∀g,s.ok g=true->∃fn c,P.funcs[g]?=some fn/\fn.body=some c/\(fn.name== "runtime.NumGoroutine")=false/\Sg.fin (s.items g (some (s.en g)) [.code c])=true/\∀t∈s.own g++(s.wN g++s.wO g),s.np g<=t
 Wj:∀ik d,Lv P (callFunc s.Wj ik) d (d+1)/\∀w nx w',(callFunc s.Wj ik).run P w=.ok nx w'->∃v,nx=.value v
 Wi:∀ik d,Lv P (callFunc s.Wi ik) d (d-1)/\∀w nx w',(callFunc s.Wi ik).run P w=.ok nx w'->∃v,nx=.value v
 ext:∀g,s.ext g=true->∀ik d,Lv P (callFunc g ik) d d/\∀w nx w',(callFunc g ik).run P w=.ok nx w'->∃v,nx=.value v
 early:P.follows .staticDataAhead=true/\∀g,P.stepOf g=none
 row:∀ty,s.WK.contains ty=true->∀e,P.underlying ty=some (.slice e)->∀i z,P.info? e=some i->i.zero=some z->∀c∈z.cells,∀fn x y,c≠ .func fn x y
inductive Out(f:ak)(o:Oper)(d d1 d':Nat)(w w':ae):Next->Prop
 |value (v:af) (h:d1=d'):Out f o d d1 d' w w' (.value v)
 |skip (h:d1=d'):Out f o d d1 d' w w' .skip
 |defer (dd:Deferred) (h:d1=d') (hd:CD s dd) (hg:s.uI f=false):Out f o d d1 d' w w' (.defer dd)
 |enter (g:ak) (ik:Array af) (hg:s.ok g=true) (h1:d1=d) (h2:d'+s.en g=d) (ha:∀t,(s.fs g).contains t=true->CV s g (ik.getD t av)) (hp:s.uI f=true->s.pure g=true) (hz:∀t∈s.own g++(s.wN g++s.wO g),ik.size<=t) (hw:w'=w):Out f o d d1 d' w w' (.enter g ik)
end
section
variable{s:Sg}{P:au}{f g:ak}{o:Oper}{a:Act}{d d':Nat}
theorem CV.undef:CV s f av:=fun fn x y h=>by cases h
theorem CV.func{x y:Array af}(h:s.cl f g=true)(k:s.uI f=true->x=#[]/\y=#[]):CV s f (.func (.func g) x y):=fun fn x' y' e=>by cases e;exact⟨g,rfl,h,k⟩
theorem pD(h:s.clean g=true):s.ok g=true/\s.fs g=[]/\s.en g=0:=by
 simp only[Sg.clean,aD]at h;exact⟨h.1.1,by simpa using h.1.2,by simpa using h.2⟩
theorem yu(h:s.cl f g=true):s.clean g=true/\(s.uI f=true->s.pure g=true/\1<=s.np g)/\(s.uI f=false->s.B0 g=true):=by
 simp only[Sg.cl,aD]at h;refine⟨h.1,fun e=>?_,fun e=>?_⟩
 ·have:=h.2
  rw[if_pos e,aD,decide_eq_true_eq]at this;exact this
 ·have:=h.2
  rw[if_neg (by rw[e];simp)]at this;exact this
theorem rM(h:s.B0 g=true):s.own g=[]/\s.wN g=[]/\s.wO g=[]:=by
 simp only[Sg.B0,aD,List.isEmpty_iff]at h;exact⟨h.1.1,h.1.2,h.2⟩
theorem BS(H:vR s P){g:ak}(h:s.ok g=true)(ik:Array af)(w:ae):(callFunc g ik).run P w=.ok (.enter g ik) w:=by
 obtain⟨fn,c,h1,h2,h3,-,-⟩:=H.body g h;have h3:¬fn.name= "runtime.NumGoroutine" :=by simpa using h3
 simp[callFunc,h1,h2,h3]
theorem OA(H:vR s P){g:ak}(h:s.ok g=true)(ik:Array af)(d:Nat):Lv P (callFunc g ik) d d:=by
 obtain⟨fn,c,h1,h2,h3,-,-⟩:=H.body g h;have h3:¬fn.name= "runtime.NumGoroutine" :=by simpa using h3
 unfold callFunc;show Lv P (match P.funcs[g]? with
  |none=>_
  |some fn=>_) d d
 simp only[h1,h2];rw[if_neg (by simpa using h3)];exact(rfl:d=d)
theorem oQ{x:Sem af}{w:ae}{nx:Next}{w':ae}(h:((do pure (.value (<-x))):Sem Next).run P w=.ok nx w'):∃v,nx=.value v/\x.run P w=.ok v w':=by
 rw[aO]at h;cases hx:x.run P w with
 |halt e w1=>rw[hx]at h;cases h
 |ok v w1=>rw[hx]at h;simp at h<;>exact⟨v,h.1.symm,by rw[h.2]⟩
theorem BL{x:Sem Unit}{w:ae}{nx:Next}{w':ae}(h:((do x;pure .skip):Sem Next).run P w=.ok nx w'):nx=.skip/\x.run P w=.ok () w':=by
 rw[aO]at h;cases hx:x.run P w with
 |halt e w1=>rw[hx]at h;cases h
 |ok v w1=>rw[hx]at h;simp at h<;>exact⟨h.1.symm,by rw[h.2]⟩
theorem NL(hs:∀t,(s.fs f).contains t=true->CV s f (a.tmps.getD t av)){x:Operand}(h:s.op? f g x=true):CV s g (a.eval x):=by
 cases x with
 |func k=>exact CV.func h fun _=>⟨rfl,rfl⟩
 |tmp t=>
  simp only[Sg.op?,aD,beq_iff_eq]at h;intro fn x y e;obtain⟨k,h1,h2,h3⟩:=hs t h.1 fn x y e;refine⟨k,h1,?_,fun e=>h3 (by rw[<-h.2];exact e)⟩;simp only[Sg.cl]at h2 ⊢;rw[h.2];exact h2
 |_=>cases h
theorem Pf(H:vR s P){v:af}(hv:CV s f v)(ik:Array af)(hsz:s.uI f=true->ik.size<=1)(d:Nat):
  Lv P (do let d<-cG v ik;invoke d.target d.args) d d/\∀w nx w',(do let d<-cG v ik;invoke d.target d.args:Sem Next).run P w=.ok nx w'->w'=w/\∃g bs,nx=.enter g bs/\s.cl f g=true/\∀t∈s.own g++(s.wN g++s.wO g),bs.size<=t:=by
 cases v with
 |func fn x y=>
  obtain⟨g,rfl,hg,hxy⟩:=hv _ _ _ rfl;have hok:=(pD (yu hg).1).1;refine⟨?_,fun w nx w' h=>?_⟩
  ·show Lv P (callFunc g (x++ik++y)) d d;exact OA H hok _ d
  ·have h:(callFunc g (x++ik++y)).run P w=.ok nx w':=h;rw[BS H hok]at h;cases h;refine⟨rfl,g,_,rfl,hg,fun t ht=>?_⟩;by_cases e:s.uI f=true
   ·obtain⟨rfl,rfl⟩:=hxy e;obtain⟨-,-,-,-,-,-,hl⟩:=H.body g hok;have h1:=hl t ht;have h2:=((yu hg).2.1 e).2;have h3:=hsz e;simp<;>omega
   ·obtain⟨n1,n2,n3⟩:=rM ((yu hg).2.2 (by simpa using e));rw[n1,n2,n3]at ht;simp at ht
 |nilFunc=>exact⟨NM.lv (wr:=true) (x:=(runtimePanic .nilDeref:Sem Next)) Nm.out d,fun w nx w2 h=>by cases h⟩
 |_=>exact⟨trivial,fun w nx w' h=>by cases h⟩
theorem uJ(he:s.Kh f o d=some d'):s.oJ f o=true/\(s.uI f=true->s.gop f o=true):=by
 unfold Sg.Kh at he;split at he
 ·cases he
 ·rename_i h;simp only[bf,aD,not_or,not_and,bV]at h;refine⟨by simpa using h.1,fun e=>?_⟩;have:=h.2 e
  simpa using this
theorem Gp{wr:Bool}{x:Operand}(hop:o.op=.nilCheck x):NM wr (ax a.eval o)/\∀w nx w',(ax a.eval o).run P w=.ok nx w'->∃v,nx=.value v:=by
 have e:ax a.eval o=(match a.eval x with
  |.pointer none|.nilIface|.nilFunc=>runtimePanic .nilDeref
  |.func (.method name) first captured=>
   match(first[0]?:Option af)with
   |some .nilIface=>runtimePanic .nilDeref
   |some (.iface t w)=>do
    if(<-nilAhead ((<-program).types.size+Made.depth) t w name) != some false then
     unsupported (.noEntry "op/nilCheck.the method's receiver behind this interface value is a nil pointer, or cannot be seen to be none, and the arguments act or may panic (ledger 612)")
    pure (.value (.func (.method name) first captured))
   |_=>pure (.value (.func (.method name) first captured))
  |x=>pure (.value x)):=by unfold ax;rw[hop];rfl
 rw[e];refine⟨?_,fun w nx w' h=>?_⟩
 ·repeat' (first|exact Nm.out|(refine NM.bind ?_ fun _=>?_)|(refine NM.ite ?_ ?_)|split|(intro _)|dsimp only)
 ·generalize a.eval x=z at h;have hp:∀{w:ae} {nx:Next} {w':ae},(runtimePanic .nilDeref:Sem Next).run P w=.ok nx w'->False:=fun h=>by simp[runtimePanic,goPanic]at h
  split at h
  ·exact(hp h).elim
  ·exact(hp h).elim
  ·exact(hp h).elim
  ·split at h
   ·exact(hp h).elim
   ·rw[aO]at h;generalize(nilAhead _ _ _ _:Sem _)=na at h;revert h
    simp only[aO];intro h;cases hn:(program:Sem au).run P w with
    |halt e w1=>rw[hn]at h;cases h
    |ok p w1=>
     rw[hn]at h;simp at h;cases hq:(nilAhead (p.types.size+Made.depth) _ _ _).run P w1 with
     |halt e w2=>rw[hq]at h;cases h
     |ok r w2=>
      rw[hq]at h;simp at h;split at h<;>simp[unsupported]at h
      exact⟨_,h.1.symm⟩
   ·cases h;exact⟨_,rfl⟩
  ·cases h;exact⟨_,rfl⟩
theorem J9(H:vR s P)(hs:∀t,(s.fs f).contains t=true->CV s f (a.tmps.getD t av))(he:s.Kh f o d=some d')(R:Nat):∃d1,Lv P (ax a.eval o) (d+R) (d1+R)/\∀w nx w',(ax a.eval o).run P w=.ok nx w'->Out s f o d d1 d' w w' nx:=by
 obtain⟨-,hgo⟩:=uJ he;have val:∀{x:Sem af},Nm true x->ax a.eval o=(do pure (.value (<-x)))->d=d'->∃d1,Lv P (ax a.eval o) (d+R) (d1+R)/\∀w nx w',(ax a.eval o).run P w=.ok nx w'->Out s f o d d1 d' w w' nx:=fun{x} hx e hd=>by
  refine⟨d,?_,fun w nx w' h=>?_⟩
  ·rw[e];exact(NM.bind hx.out fun _=>Nm.out).lv (d+R)
  ·rw[e]at h;obtain⟨v,rfl,-⟩:=oQ h;exact .value v hd
 have skp:∀{x:Sem Unit},Nm true x->ax a.eval o=(do x;pure .skip)->d=d'->∃d1,Lv P (ax a.eval o) (d+R) (d1+R)/\∀w nx w',(ax a.eval o).run P w=.ok nx w'->Out s f o d d1 d' w w' nx:=fun{x} hx e hd=>by
  refine⟨d,?_,fun w nx w' h=>?_⟩
  ·rw[e];exact(NM.bind hx.out fun _=>Nm.out).lv (d+R)
  ·rw[e]at h;obtain⟨rfl,-⟩:=BL h;exact .skip hd
 have now:∀{v:af},ax a.eval o=(aX (.value v):Sem Next)->d=d'->∃d1,Lv P (ax a.eval o) (d+R) (d1+R)/\∀w nx w',(ax a.eval o).run P w=.ok nx w'->Out s f o d d1 d' w w' nx:=fun{v} e hd=>by
  refine⟨d,by rw[e];exact(rfl:d+R=d+R),fun w nx w' h=>?_⟩;rw[e]at h;cases h;exact .value _ hd
 unfold Sg.Kh at he;split at he
 ·cases he
 cases hop:o.op<;>rw[hop]at he<;>(try dsimp only at he)<;>try(cases he;done)
 case move x=>cases he;exact now (by unfold ax;rw[hop]) rfl
 case assign x=>cases he;exact now (by unfold ax;rw[hop]) rfl
 case makeFunc fn x y=>
  cases fn with
  |func g=>cases he;exact now (by unfold ax;rw[hop];rfl) rfl
  |_=>cases he
 case defer c=>
  cases hc:c.callee with
  |value x=>
   rw[hc]at he;cases x with
   |func g=>
    dsimp only at he;split at he
    ·rename_i hx;cases he;have hg:s.uI f=false:=by
      by_cases e:s.uI f=true
      ·have:=hgo e
       simp[Sg.gop,hop]at this
      ·simpa using e
     have e:ax a.eval o=(aX (.defer {target:=.fn (.func g) #[],args:=#[]++c.args.map a.eval}):Sem Next):=by
      obtain⟨ce,ik,ats⟩:=c;subst hc;unfold ax;rw[hop];rfl
     refine⟨d,by rw[e];exact(rfl:d+R=d+R),fun w nx w' h=>?_⟩;rw[e]at h;cases h;rw[aD]at hx;exact .defer _ rfl ⟨g,#[]++c.args.map a.eval,rfl,hx.1,hx.2⟩ hg
    ·cases he
   |_=>cases he
  |_=>rw[hc]at he;cases he
 case call c=>
  cases hc:c.callee with
  |invoke r n=>rw[hc]at he;cases he
  |builtin b=>
   rw[hc]at he;have e:ax a.eval o=Go.builtin b c.argTypes o.type (c.args.map fun|.const _=>true|_=>false) (c.args.map a.eval):=by
    obtain⟨ce,ik,ats⟩:=c;subst hc;unfold ax;rw[hop];rfl
   cases b<;>first
    |(cases he;done)
    |(cases he;exact val inferInstance (e.trans rfl) rfl)
  |value x=>
   rw[hc]at he;cases x with
   |func g=>
    have e:ax a.eval o=callFunc g (c.args.map a.eval):=by
     obtain⟨ce,ik,ats⟩:=c;have hc:ce=.value (.func g):=hc;subst hc;exact execOp_call_func hop
    dsimp only at he;split at he
    ·rename_i hg;have hg:g=s.Wj:=by simpa using hg
     subst hg;split at he
     ·cases he;refine⟨d+1,by rw[e];exact(by have:=(H.Wj (c.args.map a.eval) (d+R)).1;rwa [show d+R+1=d+1+R by omega]at this),fun w nx w' h=>?_⟩;rw[e]at h;obtain⟨v,rfl⟩:=(H.Wj _ 0).2 _ _ _ h;exact .value v rfl
     ·cases he
    ·split at he
     ·rename_i hg;have hg:g=s.Wi:=by simpa using hg
      subst hg;split at he
      ·rename_i hpos;have hpos:0<d:=by simp only[aD,decide_eq_true_eq]at hpos;exact hpos.2
       cases he;refine⟨d-1,by rw[e];exact(by have:=(H.Wi (c.args.map a.eval) (d+R)).1;rwa [show d+R-1=d-1+R by omega]at this),fun w nx w' h=>?_⟩;rw[e]at h;obtain⟨v,rfl⟩:=(H.Wi _ 0).2 _ _ _ h;exact .value v rfl
      ·cases he
     ·split at he
      ·rename_i hx;cases he;refine⟨d,by rw[e];exact(H.ext g hx _ (d+R)).1,fun w nx w' h=>?_⟩;rw[e]at h;obtain⟨v,rfl⟩:=(H.ext g hx _ (d+R)).2 _ _ _ h;exact .value v rfl
      ·split at he
       ·rename_i hx;simp only[aD,decide_eq_true_eq]at hx;obtain⟨⟨⟨⟨h1,h2⟩,h3⟩,h4⟩,h5⟩:=hx;cases he;refine⟨d,by rw[e];exact OA H h1 _ (d+R),fun w nx w' h=>?_⟩;rw[e,BS H h1]at h;cases h;refine .enter g _ h1 rfl (by omega) (fun t ht=>?_) (fun eg=>?_) (fun t ht=>?_) rfl
        ·rw[List.all_eq_true]at h2;have h2:=h2 t (by simpa using ht);cases hx:c.args[t]? with
         |none=>
          have e2:(c.args.map a.eval).getD t av=av:=by simp[bB,hx]
          rw[e2];exact CV.undef
         |some x=>
          rw[hx]at h2;have e2:(c.args.map a.eval).getD t av=a.eval x:=by simp[bB,hx]
          rw[e2];exact NL hs (by simpa using h2)
        ·have:=hgo eg
         simp only[Sg.gop,hop,hc,aD]at this;exact this.1.1.1
        ·simp only[bf,decide_eq_true_eq]at h5;rcases h5 with h5|h5
         ·obtain⟨n1,n2,n3⟩:=rM h5;rw[n1,n2,n3]at ht;simp at ht
         ·obtain⟨-,-,-,-,-,-,hl⟩:=H.body g h1;have:=hl t ht
          simp<;>omega
       ·cases he
   |tmp t=>
    dsimp only at he;split at he
    ·rename_i ht;cases he;have e:ax a.eval o=(do let d<-cG (a.eval (.tmp t)) (c.args.map a.eval);invoke d.target d.args):=by
      obtain⟨ce,ik,ats⟩:=c;subst hc;unfold ax;rw[hop];rfl
     rw[aD,bf,decide_eq_true_eq]at ht;obtain⟨ht,hsz⟩:=ht;obtain⟨k1,k2⟩:=Pf H (hs t ht) (c.args.map a.eval) (fun e=>by
      rcases hsz with h|h;· rw[e]at h;cases h
      ·simpa using h) (d+R)
     refine⟨d,by rw[e];exact k1,fun w nx w' h=>?_⟩;rw[e]at h;obtain⟨hw,g,bs,rfl,hg,hbz⟩:=k2 _ _ _ h;obtain⟨c0,c4,-⟩:=yu hg;obtain⟨c1,c2,c3⟩:=pD c0;exact .enter g bs c1 rfl (by rw[c3];rfl) (fun t ht=>by rw[c2]at ht;simp at ht) (fun e=>(c4 e).1) hbz hw
    ·cases he
   |_=>cases he
 case store t x y=>cases he;exact skp (x:=bI t (a.eval x) (a.eval y)) inferInstance (by unfold ax;rw[hop]) rfl
 case mapUpdate t m k x=>cases he;exact skp (x:=Instr.mapUpdate t (a.eval m) (a.eval k) (a.eval x)) inferInstance (by unfold ax;rw[hop]) rfl
 case nilCheck x=>
  cases he;obtain⟨k1,k2⟩:=Gp (P:=P) hop (a:=a) (wr:=true);exact⟨d,k1.lv (d+R),fun w nx w' h=>by obtain⟨v,rfl⟩:=k2 w nx w' h;exact .value v rfl⟩
 case pick c x y=>
  cases he;have e:ax a.eval o=(do pure (.value (if<-asBool (a.eval c)then a.eval x else a.eval y))):=by unfold ax;rw[hop]
  refine⟨d,by rw[e];exact(NM.bind (wr:=true) Nm.out fun _=>Nm.out).lv (d+R),fun w nx w' h=>?_⟩;rw[e,aO]at h;have:∃v,nx=.value v:=by
   cases hx:(asBool (a.eval c)).run P w with
   |halt e w1=>rw[hx]at h;cases h
   |ok v w1=>rw[hx]at h;simp at h<;>exact⟨_,h.1.symm⟩
  obtain⟨v,rfl⟩:=this;exact .value v rfl
 all_goals
  cases he;first
   |exact val (x:=dw _ true (.tuple #[])) inferInstance (by unfold ax;rw[hop]) rfl
   |exact val (x:=Instr.box _ _) inferInstance (by unfold ax;rw[hop]) rfl
   |exact val (x:=Instr.build _ _) inferInstance (by unfold ax;rw[hop]) rfl
   |exact val (x:=Instr.buildSlice _ _ _) inferInstance (by unfold ax;rw[hop]) rfl
   |exact val (x:=aT _ _) inferInstance (by unfold ax;rw[hop]) rfl
   |exact val (x:=Op.unary _ _) inferInstance (by unfold ax;rw[hop]) rfl
   |exact val (x:=Go.convert _ _ _) inferInstance (by unfold ax;rw[hop]) rfl
   |exact val (x:=Instr.makeMap _ _) inferInstance (by unfold ax;rw[hop]) rfl
   |exact val (x:=Instr.makeSlice _ _ _) inferInstance (by unfold ax;rw[hop]) rfl
   |exact val (x:=Instr.sliceAt _ _ _ _ _) inferInstance (by unfold ax;rw[hop]) rfl
   |exact val (x:=Instr.fieldAt _ _ _) inferInstance (by unfold ax;rw[hop]) rfl
   |exact val (x:=Instr.field _ _ _) inferInstance (by unfold ax;rw[hop]) rfl
   |exact val (x:=Instr.indexAt _ _ _) inferInstance (by unfold ax;rw[hop]) rfl
   |exact val (x:=Instr.index _ _ _) inferInstance (by unfold ax;rw[hop]) rfl
   |exact val (x:=Instr.lookup _ _ _ _) inferInstance (by unfold ax;rw[hop]) rfl
   |exact val (x:=Instr.extract _ _) inferInstance (by unfold ax;rw[hop]) rfl
   |exact val (x:=(do eqGuard ..;Go.binOp _ _ _ _)) ⟨NM.bind Nm.out fun _=>Nm.out⟩ (by unfold ax;rw[hop]) rfl
end
end
section
def blk:af->Option Nat
 |.pointer (some a)=>some a.block
 |.slice (some a) _ _=>some a.block
 |_=>none
def Rv(w:ae)(b:Nat):Prop:=∃cs e z,w.heap[b]?=some (.cells cs e z)
structure SI(s:Sg)(h:Nat)(w:ae)(f:ak)(tmps:Array af):Prop where
 sl:∀t,(s.fs f).contains t=true->CV s f (tmps.getD t av)
 own:∀t∈s.own f,∀b,blk (tmps.getD t av)=some b->h<=b/\Rv w b/\∀u∈s.wN f++s.wO f,blk (tmps.getD u av)≠some b
 row:∀u∈s.wN f++s.wO f,∀b,blk (tmps.getD u av)=some b->∃cs e z,w.heap[b]?=some (.cells cs e z)/\∀c∈cs,CV s f c
def kH(h:Nat)(w w':ae):Prop:=h=0\/(w.heap.size<=w'.heap.size/\∀b,b<h->w'.heap[b]?=w.heap[b]?)
section
variable{s:Sg}{P:au}{f:ak}{o:Oper}{a:Act}{d d' h:Nat}{w w':ae}{tmps:Array af}
theorem kH.of(e:nS w w')(hh:h<=w.heap.size):kH h w w':=.inr ⟨e.1,fun b hb=>e.2 b (by omega)⟩
theorem kH.refl(w:ae):kH h w w:=.inr ⟨aH _,fun _ _=>rfl⟩
theorem Rv.lt{b:Nat}(h:Rv w b):b<w.heap.size:=by
 obtain⟨cs,e,z,h⟩:=h;exact(Array.getElem?_eq_some_iff.1 h).1
theorem Rv.ext{b:Nat}(h:Rv w b)(e:nS w w'):Rv w' b:=by
 obtain⟨cs,e',z,h1⟩:=h;exact⟨cs,e',z,by rw[e.2 b (Array.getElem?_eq_some_iff.1 h1).1];exact h1⟩
theorem SI.mono(hs:SI s h w f tmps)(e:nS w w'):SI s h w' f tmps:=by
 refine⟨hs.sl,fun t ht b hb=>?_,fun u hu b hb=>?_⟩
 ·obtain⟨h1,h2,h3⟩:=hs.own t ht b hb;exact⟨h1,h2.ext e,h3⟩
 ·obtain⟨cs,e',z,h1,h2⟩:=hs.row u hu b hb;exact⟨cs,e',z,by rw[e.2 b (Array.getElem?_eq_some_iff.1 h1).1];exact h1,h2⟩
theorem SI.put(hs:SI s h w f a.tmps){v:af}(h1:∀t,o.dst=some t->(s.fs f).contains t=true->CV s f v)
  (h2:∀t,o.dst=some t->t∈s.own f->t∉s.wN f++s.wO f/\∀b,blk v=some b->h<=b/\Rv w b/\∀u∈s.wN f++s.wO f,blk (a.tmps.getD u av)≠some b)
  (h3:∀t,o.dst=some t->t∈s.wN f++s.wO f->∀b,blk v=some b->(∃cs e z,w.heap[b]?=some (.cells cs e z)/\∀c∈cs,CV s f c)/\∀t'∈s.own f,blk (a.tmps.getD t' av)≠some b):SI s h w f (a.put o.dst v).tmps:=by
 cases hd:o.dst with
 |none=>exact hs
 |some t=>
  show SI s h w f (a.tmps.setIfInBounds t v);have get:∀t',(a.tmps.setIfInBounds t v).getD t' av=a.tmps.getD t' av\/(t'=t/\(a.tmps.setIfInBounds t v).getD t' av=v):=fun t'=>by
   by_cases e:t=t'
   ·subst e;by_cases hl:t<a.tmps.size
    ·exact .inr ⟨rfl,by simp[bB,cj,hl]⟩
    ·exact .inl (by simp[bB,cj,hl])
   ·exact .inl (by simp[bB,cj,e])
  refine⟨fun t' ht=>?_,fun t' ht b hb=>?_,fun u hu b hb=>?_⟩
  ·rcases get t' with e|⟨rfl,e⟩<;>rw[e]
   ·exact hs.sl t' ht
   ·exact h1 t' hd ht
  ·rcases get t' with e|⟨rfl,e⟩<;>rw[e]at hb
   ·obtain⟨k1,k2,k3⟩:=hs.own t' ht b hb;refine⟨k1,k2,fun u hu hc=>?_⟩;rcases get u with e2|⟨rfl,e2⟩<;>rw[e2]at hc
    ·exact k3 u hu hc
    ·exact(h3 u hd hu b hc).2 t' ht hb
   ·obtain⟨k0,k⟩:=h2 t' hd ht;obtain⟨k1,k2,k3⟩:=k b hb;refine⟨k1,k2,fun u hu hc=>?_⟩;rcases get u with e2|⟨rfl,e2⟩<;>rw[e2]at hc
    ·exact k3 u hu hc
    ·exact k0 hu
  ·rcases get u with e|⟨rfl,e⟩<;>rw[e]at hb
   ·exact hs.row u hu b hb
   ·exact(h3 u hd hu b hb).1
def Sg.bare(s:Sg)(f:ak)(o:Oper):Prop:=∀t,o.dst=some t->(s.fs f).contains t=false/\t∉s.own f/\t∉s.wN f++s.wO f
theorem SI.free(hs:SI s h w f a.tmps)(hb:s.bare f o)(v:af):SI s h w f (a.put o.dst v).tmps:=
 hs.put (fun t e k=>by rw[(hb t e).1]at k;cases k) (fun t e k=>((hb t e).2.1 k).elim) fun t e k=>((hb t e).2.2 k).elim
theorem SI.none(hs:SI s h w f a.tmps)(hd:s.oJ f o=true){v:af}(hv:∀fn x y,v≠ .func fn x y)(hb:blk v=none):SI s h w f (a.put o.dst v).tmps:=by
 refine hs.put (fun t e k fn x y he=>(hv _ _ _ he).elim) (fun t e k=>⟨fun hm=>?_,fun b hb'=>by rw[hb]at hb';cases hb'⟩) fun t e k b hb'=>by rw[hb]at hb';cases hb'
 unfold Sg.oJ at hd;rw[e]at hd;simp only[aD,bf,bV]at hd;obtain⟨⟨⟨-,d1⟩,d2⟩,d3⟩:=hd;have k':(s.own f).contains t=true:=by simpa using k
 rw[k']at d1;rcases List.mem_append.1 hm with hm|hm
 ·have hm':(s.wN f).contains t=true:=by simpa using hm
  rw[hm']at d2;simp only[Bool.true_eq_false,false_or]at d1 d2;cases ho:o.op<;>rw[ho]at d1 d2<;>first|(cases d2;done)|(cases d1;done)
 ·have hm':(s.wO f).contains t=true:=by simpa using hm
  rw[hm']at d3;simp only[Bool.true_eq_false,false_or]at d1 d3;cases ho:o.op<;>rw[ho]at d1 d3<;>first|(cases d3;done)|(cases d1;done)
def Fr(P:au)(x:Sem af):Prop:=∀w v w',x.run P w=.ok v w'->∃(w0:ae) (o:Obj),nS w w0/\w'={w0 with heap:=w0.heap.push o}/\(∃cs e z,o=.cells cs e z)/\blk v=some w0.heap.size
theorem Fr.bind{α:Type}{y:Sem α}{k:α->Sem af}(h:NM false y)(hk:∀a,Fr P (k a)):Fr P (y>>=k):=by
 intro w v w' e;rw[aO]at e;cases hy:y.run P w with
 |halt hh w1=>rw[hy]at e;cases e
 |ok a w1=>
  rw[hy]at e;obtain⟨w0,o,h1,h2⟩:=hk a w1 v w' e;exact⟨w0,o,(h.ext hy).trans h1,h2⟩
theorem Fr.ite{c:Prop} [Decidable c]{x y:Sem af}(h1:Fr P x)(h2:Fr P y):Fr P (if c then x else y):=by
 by_cases h:c
 ·rw[if_pos h];exact h1
 ·rw[if_neg h];exact h2
theorem Fr.new(e:aj)(cs:Array af){k:Addr->af}(hk:∀b,blk (k ⟨b,0,Option.none⟩)=some b):Fr P (do let a<-newRow e cs;aX (k a)):=by
 intro w v w' h;have:(do let a<-newRow e cs;aX (k a):Sem af).run P w=.ok (k ⟨w.heap.size,0,Option.none⟩) {w with heap:=w.heap.push (.cells cs e)}:=by
  simp[newRow,newObj,cA]
 rw[this]at h;cases h;exact⟨w,_,.refl w,rfl,⟨cs,e,_,rfl⟩,hk _⟩
theorem Fr.stuck(m:String):Fr P (Go.stuck m):=fun w v w' h=>by cases h
theorem Fr.panic(m:String):Fr P (Go.runtimePanic (.error m)):=fun w v w' h=>by simp[runtimePanic,goPanic]at h
theorem UH(t:aj):Fr P (dw t true (.tuple #[])):=by
 unfold dw;exact Fr.bind Nm.out fun z=>by dsimp only;unfold newVar;exact Fr.new _ _ (k:=fun a=>.pointer (some a)) fun _=>rfl
theorem az6(t:aj)(v:af):Fr P (Instr.box t v):=by
 unfold Instr.box newVar;exact Fr.new _ _ (k:=fun a=>.pointer (some a)) fun _=>rfl
theorem GL(t:aj)(x y:af):Fr P (Instr.makeSlice t x y):=by
 unfold Instr.makeSlice;repeat' (first
  |exact Fr.panic _
  |exact Fr.stuck _
  |exact Fr.new _ _ (k:=fun a=>.slice (some a) _ _) fun _=>rfl
  |(refine Fr.bind Nm.out fun _=>?_)
  |(refine Fr.ite ?_ ?_)
  |split
  |dsimp only)
theorem WJ{t:aj}{dd:TypeDesc}(e:(underlying t).run P w=.ok dd w'):P.underlying t=some dd/\w'=w:=by
 simp only[underlying,program,aO,cA,dB]at e;cases hu:P.underlying t with
 |none=>rw[hu]at e;simp[Go.stuck]at e
 |some d=>rw[hu]at e;simp at e<;>exact⟨by rw[e.1],e.2.symm⟩
theorem Iw{t:aj}{i:TypeInfo}(e:(typeInfo t).run P w=.ok i w'):P.info? t=some i/\w'=w:=by
 simp only[typeInfo,program,aO,cA,dB]at e;cases hu:P.info? t with
 |none=>rw[hu]at e;simp[Go.stuck]at e
 |some d=>rw[hu]at e;simp at e<;>exact⟨by rw[e.1],e.2.symm⟩
theorem SC{t:aj}{z:af}(e:(zeroValue t).run P w=.ok z w'):∃i,P.info? t=some i/\i.zero=some z:=by
 simp only[zeroValue,aO]at e;cases hi:(typeInfo t).run P w with
 |halt hh w1=>rw[hi]at e;cases e
 |ok i w1=>
  rw[hi]at e;simp only[dB]at e;cases hz:i.zero with
  |none=>rw[hz]at e;simp[bW]at e
  |some v=>rw[hz]at e;simp at e<;>exact⟨i,(Iw hi).1,by rw[hz,e.1]⟩
theorem Jr{place:Nat->Option (Nat×Nat)}:∀{l:List (Nat×af)} {cells out:Array af},Instr.fill place cells l=some out->∀c∈out,c∈cells\/∃p∈l,c∈p.2.cells
 |[],cells,out,e,c,hc=>by unfold Instr.fill at e;cases e;exact .inl hc
 |(i,v)::l,cells,out,e,c,hc=>by
  unfold Instr.fill at e;split at e
  ·cases e
  ·rename_i off size hp;split at e
   ·cases e
   ·rcases Jr e c hc with h1|⟨p,h1,h2⟩
    ·have key:∀(xs:List (af×Nat)) (cs:Array af),c∈xs.foldl (fun cs (x:af×Nat)=>cs.setIfInBounds (off+x.2) x.1) cs->c∈cs\/∃x∈xs,c=x.1:=by
      intro xs;induction xs with
      |nil=>intro cs h;exact .inl h
      |cons x xs ih=>
       intro cs h;rcases ih _ h with h|⟨y,h3,h4⟩
       ·rcases Array.mem_or_eq_of_mem_setIfInBounds h with h|h
        ·exact .inl h
        ·exact .inr ⟨x,by simp,h⟩
       ·exact .inr ⟨y,by simp[h3],h4⟩
     rw[<-Array.foldl_toList]at h1;rcases key _ _ h1 with h1|⟨x,hx,hcx⟩
     ·exact .inl h1
     ·refine .inr ⟨(i,v),by simp,?_⟩;have hx:(x.1,x.2)∈v.cells.zipIdx:=by
       rw[<-Array.mem_toList_iff];exact hx
      have:=Array.mem_zipIdx hx
      rw[hcx,this.2.2];exact Array.getElem_mem _
    ·exact .inr ⟨p,by simp[h1],h2⟩
theorem PY(H:vR s P){ty:aj}(hty:s.WK.contains ty=true){n:Nat}{ps:Array (Nat×af)}(hp:∀p∈ps,∃g,p.2=.func (.func g) #[] #[]/\s.cl f g=true){v:af}(e:(Instr.buildSlice ty n ps).run P w=.ok v w'):
  ∃(w0:ae) (cs:Array af) (el:aj),nS w w0/\w'={w0 with heap:=w0.heap.push (.cells cs el)}/\blk v=some w0.heap.size/\∀c∈cs,CV s f c:=by
 unfold Instr.buildSlice at e;simp only[aO]at e;cases hu:(underlying ty).run P w with
 |halt hh w1=>rw[hu]at e;cases e
 |ok dd w1=>
  rw[hu]at e;simp only[dB]at e;obtain⟨hu1,rfl⟩:=WJ hu;cases dd with
  |slice el=>
   dsimp only at e;simp only[aO]at e;cases hz:(sizeOf el).run P w1 with
   |halt hh w2=>rw[hz]at e;cases e
   |ok n2 w2=>
    rw[hz]at e;simp only[dB]at e;have x2:nS w1 w2:=NM.ext (Nm.out:NM false (sizeOf el)) hz;split at e
    ·simp[bW]at e
    ·have fin:∀(zero:Array af) (w3:ae),nS w1 w3->(∀c∈zero,∀fn x y,c≠ .func fn x y)->(match Instr.fill (fun i=>some (i*n2,n2)) ((Array.range (n*n2)).map (zero[·%zero.size]!)) ps.toList with
       |some cells=>do aX (.slice (some (<-newRow el cells)) n n)
       |_=>Go.stuck "buildSlice: a part of the wrong size" :Sem af).run P w3=.ok v w'->
       ∃(w0:ae) (cs:Array af) (el:aj),nS w1 w0/\w'={w0 with heap:=w0.heap.push (.cells cs el)}/\blk v=some w0.heap.size/\∀c∈cs,CV s f c:=by
      intro zero w3 x3 hzero e;split at e
      ·rename_i cells aY8;simp[newRow,newObj,cA]at e;obtain⟨rfl,rfl⟩:=e;refine⟨w3,cells,el,x3,rfl,rfl,fun c hc=>?_⟩;rcases Jr aY8 c hc with h1|⟨p,h1,h2⟩
       ·obtain⟨k,_,rfl⟩:=Array.mem_map.1 h1;intro fn x y he;exfalso;by_cases hk:k%zero.size<zero.size
        ·rw[getElem!_pos zero _ hk]at he;exact hzero _ (Array.getElem_mem hk) fn x y he
        ·rw[getElem!_neg zero _ hk]at he;cases he
       ·obtain⟨g,h3,h4⟩:=hp p (by simpa using h1);rw[h3]at h2;have:c=.func (.func g) #[] #[]:=by simpa [Value.cells]using h2
        rw[this];exact CV.func h4 fun _=>⟨rfl,rfl⟩
      ·simp[Go.stuck]at e
     by_cases h0:n*n2=0
     ·rw[if_pos h0]at e;exact fin #[] w2 x2 (fun c hc=>by simp at hc) e
     ·rw[if_neg h0,aO]at e;cases hv:(zeroValue el).run P w2 with
      |halt hh w4=>rw[hv]at e;cases e
      |ok z w4=>
       rw[hv]at e;obtain⟨i,h1,h2⟩:=SC hv;exact fin z.cells w4 (x2.trans (NM.ext (Nm.out:NM false (zeroValue el)) hv)) (H.row ty hty el hu1 i z h1 h2) e
  |_=>simp[Go.stuck]at e
theorem add_block(a:Addr)(n:Nat):(a.add n).block=a.block:=by unfold Addr.add;split<;>rfl
def Po{α:Type}(P:au)(Q:α->Prop)(x:Sem α):Prop:=∀w v w',x.run P w=.ok v w'->Q v
theorem Po.bind{α β:Type}{R:α->Prop}{Q:β->Prop}{y:Sem α}{k:α->Sem β}(h:Po P R y)(hk:∀a,R a->Po P Q (k a)):Po P Q (y>>=k):=by
 intro w v w' e;rw[aO]at e;cases hy:y.run P w with
 |halt hh w1=>rw[hy]at e;cases e
 |ok a w1=>rw[hy]at e;exact hk a (h w a w1 hy) w1 v w' e
theorem Po.zV{α β:Type}{Q:β->Prop}{y:Sem α}{k:α->Sem β}(hk:∀a,Po P Q (k a)):Po P Q (y>>=k):=Po.bind (R:=fun _=>True) (fun _ _ _ _=>trivial) fun a _=>hk a
theorem Po.pure{α:Type}{Q:α->Prop}{a:α}(h:Q a):Po P Q (aX a:Sem α):=fun w v w' e=>by simp at e;rw[<-e.1];exact h
theorem Po.ite{α:Type}{Q:α->Prop}{c:Prop} [Decidable c]{x y:Sem α}(h1:Po P Q x)(h2:Po P Q y):Po P Q (if c then x else y):=by
 by_cases h:c
 ·rw[if_pos h];exact h1
 ·rw[if_neg h];exact h2
theorem Po.stuck{α:Type}{Q:α->Prop}(m:String):Po P Q (Go.stuck m:Sem α):=fun w v w' h=>by cases h
theorem Po.Zp{α:Type}{Q:α->Prop}(m:Unsupported):Po P Q (bW m:Sem α):=fun w v w' h=>by cases h
theorem Po.bounds{α:Type}{Q:α->Prop}{k:IntKind}{x y:Int}{c:BoundsCode}:Po P Q (boundsPanic k x y c:Sem α):=by
 unfold boundsPanic;have rp:∀b,Po P Q (Go.runtimePanic (.bounds (IntKind.i64.wrap x) y b c):Sem α):=fun b w v w' h=>by simp[runtimePanic,goPanic]at h
 dsimp only;refine Po.ite (Po.zV fun _=>rp _) (Po.zV fun _=>rp _)
theorem X4(ty:aj)(x i:af):Po P (fun v=>blk v=blk x/\∀fn a b,v≠ .func fn a b) (Instr.indexAt ty x i):=by
 unfold Instr.indexAt;refine Po.zV fun⟨k,n⟩=>?_;refine Po.zV fun dd=>?_;have fin:∀(a:Addr) (m:Nat),blk x=some a.block->(blk (.pointer (some (a.add m)))=blk x/\∀fn y b,Value.pointer (some (a.add m))≠ .func fn y b):=fun a m h=>⟨by rw[h];show some _=_;rw[add_block],fun fn y b h=>by cases h⟩;split
 ·refine Po.bind (R:=fun a:Addr=>blk x=some a.block) (fun w v w' e=>?_) fun a ha=>?_
  ·cases x with
   |pointer p=>cases p with
    |none=>simp[dM,Go.stuck]at e
    |some a=>simp[dM]at e;rw[<-e.1];rfl
   |_=>simp[dM,Go.stuck]at e
  ·refine Po.bind (R:=fun p:Option Addr×Nat×aj=>∀a,p.1=some a->blk x=some a.block) (Po.pure fun a' h=>by cases h;exact ha) fun p hp=>?_;refine Po.zV fun dd=>?_;dsimp only;split
   ·rename_i a' he;refine Po.ite (Po.zV fun m=>Po.pure (fin _ _ (hp _ he))) (Po.ite (Po.Zp _) Po.bounds)
   ·exact Po.bounds
 ·rename_i base len cap;refine Po.bind (R:=fun p:Option Addr×Nat×aj=>∀a,p.1=some a->blk (.slice base len cap)=some a.block) (Po.pure fun a' h=>by cases h;rfl) fun p hp=>?_;refine Po.zV fun dd=>?_;dsimp only;split
  ·rename_i a' he;refine Po.ite (Po.zV fun m=>Po.pure (fin _ _ (hp _ he))) (Po.ite (Po.Zp _) Po.bounds)
  ·exact Po.bounds
 ·exact Po.bind (R:=fun _=>False) (Po.stuck _) fun _ h=>h.elim
theorem TM{ty:aj}{x v:af}(hx:∀b,blk x=some b->∃cs e z,w.heap[b]?=some (.cells cs e z)/\∀c∈cs,CV s f c)(e:(aT ty x).run P w=.ok v w'):CV s f v:=by
 unfold aT at e;rw[aO]at e;cases x with
 |pointer p=>cases p with
  |none=>simp[dM,Go.stuck]at e
  |some a=>
   simp only[dM,Sem.run_pure,dB]at e;obtain⟨cs,el,z,h1,h2⟩:=hx a.block rfl;unfold loadVar at e;rw[aO]at e;cases hg:(isAgg ty).run P w with
   |halt hh w1=>rw[hg]at e;cases e
   |ok g w1=>
    rw[hg]at e;have x1:nS w w1:=NM.ext (Nm.out:NM false (isAgg ty)) hg;simp only[dB]at e;cases g with
    |true=>
     simp only[if_true,aO]at e;cases h3:(sizeOf ty).run P w1 with
     |halt hh w2=>rw[h3]at e;cases e
     |ok m w2=>
      rw[h3]at e;simp only[dB]at e;cases h4:(loadCells a m).run P w2 with
      |halt hh w3=>rw[h4]at e;cases e
      |ok l w3=>
       rw[h4]at e;simp at e;rw[<-e.1];intro fn x y he;cases he
    |false=>
     have h1':w1.heap[a.block]?=some (.cells cs el z):=by rw[x1.2 _ (Array.getElem?_eq_some_iff.1 h1).1];exact h1
     have e:(load a).run P w1=.ok v w':=e;unfold load at e;simp only[cA]at e;cases hc:w1.cell? a with
     |none=>
      rw[hc]at e;have:∃hh,w1.farLoad P a false=.error hh:=by
       unfold World.farLoad;rw[h1'];exact⟨_,rfl⟩
      obtain⟨hh,this⟩:=this;have e':(match w1.farLoad P a false with
       |.ok (v,_)=>(Sem.pure v:Sem af).run P w1
       |.error h=>.halt h w1)=.ok v w':=e
      rw[this]at e';cases e'
     |some c=>
      rw[hc]at e;simp[cA]at e;rw[<-e.1];unfold World.cell? at hc;rw[h1']at hc;dsimp only at hc;split at hc
      ·cases hc
      ·exact h2 c (bF hc)
 |_=>simp[dM,Go.stuck]at e
def K1(b:Nat)(w w':ae):Prop:=w'.heap.size=w.heap.size/\(∀c,c≠b->w'.heap[c]?=w.heap[c]?)/\(Rv w b->Rv w' b)
theorem K1.refl(b:Nat)(w:ae):K1 b w w:=⟨rfl,fun _ _=>rfl,id⟩
theorem K1.trans{b:Nat}{x y z:ae}(h:K1 b x y)(k:K1 b y z):K1 b x z:=⟨k.1.trans h.1,fun c hc=>(k.2.1 c hc).trans (h.2.1 c hc),fun hx=>k.2.2 (h.2.2 hx)⟩
theorem K1.set(w:ae)(a:Addr)(v:af):K1 a.block w (w.setCell a v):=by
 refine⟨by simp[World.setCell],fun c hc=>?_,fun⟨cs,e,z,h⟩=>?_⟩
 ·simp only[World.setCell];rw[dP,if_neg (Ne.symm hc)]
 ·simp only[World.setCell];refine⟨if a.spot.isSome then cs else cs.setIfInBounds a.off v,e,z,?_⟩;show(w.heap.modify _ _)[a.block]?=_;rw[dP,if_pos rfl,h];rfl
theorem Sk{a:Addr}{v:af}{u:Unit}(hc:Rv w a.block)(e:(store a v).run P w=.ok u w'):K1 a.block w w':=by
 unfold store at e;obtain⟨cs,el,z,h1⟩:=hc;have main:∀v:af,(Sem.store .plain a v (.pure ()):Sem Unit).run P w=(match w.cell? a with
   |some _=>if w.frozen? a then Result.halt (.unsupported (.unsafePointer "a write to bytes that a string shares")) w else(Sem.pure ():Sem Unit).run P (w.setCell a v)
   |none=>match w.farStore P a v false with
    |.ok (w,_)=>(Sem.pure ():Sem Unit).run P w
    |.error h=>.halt h w)->(Sem.store .plain a v (.pure ()):Sem Unit).run P w=.ok u w'->K1 a.block w w':=fun v e1 e=>by
  rw[e1]at e;cases hc:w.cell? a with
  |some x=>
   rw[hc]at e;dsimp only at e;split at e
   ·cases e
   ·simp[cA]at e;rw[<-e];exact K1.set w a v
  |none=>
   rw[hc]at e;have:∃hh,w.farStore P a v false=.error hh:=by
    unfold World.farStore;rw[h1];exact⟨_,rfl⟩
   obtain⟨hh,this⟩:=this;rw[this]at e;cases e
 cases v<;>first
  |(simp only[cA]at e;cases e;done)
  |exact main _ rfl e
theorem pH{a:Addr}:∀(vs:List af) (i:Nat) {w w':ae} {u:Unit},Rv w a.block->(storeCells a vs i).run P w=.ok u w'->K1 a.block w w'
 |[],i,w,w',u,hc,e=>by unfold storeCells at e;simp at e;rw[<-e];exact .refl _ _
 |v::vs,i,w,w',u,hc,e=>by
  unfold storeCells at e;rw[aO]at e;cases h1:(store (a.add i) v).run P w with
  |halt hh w1=>rw[h1]at e;cases e
  |ok u1 w1=>
   rw[h1]at e;simp only[dB]at e;have k1:=Sk (a:=a.add i) (by rw[add_block];exact hc) h1;rw[add_block]at k1;exact k1.trans (pH vs (i+1) (k1.2.2 hc) e)
theorem PS{ty:aj}{x v:af}{u:Unit}(hx:∀b,blk x=some b->Rv w b)(e:(bI ty x v).run P w=.ok u w'):∃b,blk x=some b/\K1 b w w':=by
 unfold bI at e;rw[aO]at e;cases x with
 |pointer p=>cases p with
  |none=>simp[dM,Go.stuck]at e
  |some a=>
   simp only[dM,Sem.run_pure,dB]at e;refine⟨a.block,rfl,?_⟩;unfold storeVar at e;rw[aO]at e;cases hz:(sizeOf ty).run P w with
   |halt hh w1=>rw[hz]at e;cases e
   |ok m w1=>
    rw[hz]at e;simp only[dB]at e;have e1:w1=w:=by
     simp only[sizeOf,aO]at hz;cases hi:(typeInfo ty).run P w with
     |halt hh w2=>rw[hi]at hz;cases hz
     |ok i w2=>rw[hi]at hz;simp at hz;rw[<-hz.2];exact(Iw hi).2
    subst e1;split at e
    ·simp[Go.stuck]at e
    ·exact pH _ _ (hx a.block rfl) e
 |_=>simp[dM,Go.stuck]at e
def Cp(P:au)(X:af)(x:Sem af):Prop:=∀w v w',(∀b,blk X=some b->Rv w b)->x.run P w=.ok v w'->blk v=none/\(∀fn a b,v≠ .func fn a b)/\∃w1,nS w w1/\(w'=w1\/∃b,blk X=some b/\K1 b w1 w')
theorem Cp.bind{α:Type}{X:af}{y:Sem α}{k:α->Sem af}(h:NM false y)(hk:∀a,Cp P X (k a)):Cp P X (y>>=k):=by
 intro w v w' hx e;rw[aO]at e;cases hy:y.run P w with
 |halt hh w1=>rw[hy]at e;cases e
 |ok a w1=>
  rw[hy]at e;have x1:=h.ext hy;obtain⟨k1,k2,w2,k3,k4⟩:=hk a w1 v w' (fun b hb=>(hx b hb).ext x1) e;exact⟨k1,k2,w2,x1.trans k3,k4⟩
theorem U7{ats:Array aj}{t:aj}{args:Array af}{x:af}(hx:args[0]?=some x):Cp P x (Builtin.copy_ ats t args):=by
 have stk:∀{m:String},Cp P x (Go.stuck m):=fun w v w' _ h=>by cases h
 unfold Builtin.copy_;dsimp only;rw[hx];split
 ·rename_i h1;simp only[Prod.mk.injEq]at h1;obtain⟨-,h1,-⟩:=h1;cases h1;refine Cp.bind Nm.out fun dd=>?_;split
  ·split
   ·refine Cp.bind Nm.out fun n=>?_;refine Cp.bind Nm.out fun m=>?_;refine Cp.bind Nm.out fun cells=>?_;split
    ·rename_i ad;intro w v w' hx e;rw[aO]at e;cases h2:(storeCells ad cells.toList).run P w with
     |halt hh w1=>rw[h2]at e;cases e
     |ok u w1=>
      rw[h2]at e;simp at e;obtain⟨rfl,rfl⟩:=e;exact⟨rfl,fun _ _ _ h=>(by cases h),w,.refl w,.inr ⟨ad.block,rfl,pH _ _ (hx _ rfl) h2⟩⟩
    ·intro w v w' hx e;simp at e;obtain⟨rfl,rfl⟩:=e;exact⟨rfl,fun _ _ _ h=>(by cases h),w,.refl w,.inl rfl⟩
   ·exact stk
  ·exact stk
 ·exact stk
theorem SI.wrote{b:Nat}(hs:SI s h w f tmps)(hw:K1 b w w')(hb:∀u∈s.wN f++s.wO f,blk (tmps.getD u av)≠some b):SI s h w' f tmps:=by
 refine⟨hs.sl,fun t ht c hc=>?_,fun u hu c hc=>?_⟩
 ·obtain⟨h1,h2,h3⟩:=hs.own t ht c hc;refine⟨h1,?_,h3⟩;by_cases e:c=b
  ·subst e;exact hw.2.2 h2
  ·obtain⟨cs,el,z,k⟩:=h2;exact⟨cs,el,z,by rw[hw.2.1 c e];exact k⟩
 ·obtain⟨cs,el,z,k1,k2⟩:=hs.row u hu c hc;have e:c≠b:=fun e=>hb u hu (e ▸ hc);exact⟨cs,el,z,by rw[hw.2.1 c e];exact k1,k2⟩
theorem kH.wrote{b:Nat}(hw:K1 b w w')(hb:h<=b):kH h w w':=.inr ⟨Nat.le_of_eq hw.1.symm,fun c hc=>hw.2.1 c (by omega)⟩
theorem kH.trans{w1 w2 w3:ae}(a:kH h w1 w2)(b:kH h w2 w3):kH h w1 w3:=by
 rcases a with a|a
 ·exact .inl a
 ·rcases b with b|b
  ·exact .inl b
  ·exact .inr ⟨aY a.1 b.1,fun c hc=>(b.2 c hc).trans (a.2 c hc)⟩
theorem MA(hg:s.uI f=false):s.own f=[]/\s.wN f=[]/\s.wO f=[]:=by
 simp only[Sg.uI,Bool.or_eq_false_iff,Bool.not_eq_false',List.isEmpty_iff]at hg;exact⟨hg.1.1.2,hg.1.2,hg.2⟩
theorem J8(hs:SI s h w f a.tmps)(he:s.Kh f o d=some d')(hg:s.uI f=false){nx:Next}(e:(ax a.eval o).run P w=.ok nx w')(w2:ae):(∀v,nx=.value v->SI s 0 w2 f (a.put o.dst v).tmps)/\SI s 0 w2 f (a.put o.dst av).tmps:=by
 obtain⟨l1,l2,l3⟩:=MA hg;obtain⟨hd,-⟩:=uJ he;have hs0:SI s 0 w2 f a.tmps:=⟨hs.sl,fun t ht=>by rw[l1]at ht;simp at ht,fun u hu=>by rw[l2,l3]at hu;simp at hu⟩;have fin:∀v,(∀t,o.dst=some t->(s.fs f).contains t=true->CV s f v)->SI s 0 w2 f (a.put o.dst v).tmps:=fun v h1=>hs0.put h1 (fun t _ k=>by rw[l1]at k;simp at k) fun t _ k=>by rw[l2,l3]at k;simp at k
 refine⟨fun v hv=>fin v fun t ht hc=>?_,fin av fun _ _ _=>CV.undef⟩;subst hv;unfold Sg.oJ at hd;rw[ht]at hd;simp only[aD,bf,bV,hc,Bool.true_eq_false,false_or]at hd;obtain⟨⟨⟨d0,-⟩,-⟩,-⟩:=hd;unfold ax at e;cases hop:o.op<;>rw[hop]at d0 e<;>(try dsimp only at d0 e)<;>try(cases d0;done)
 case move x=>simp at e;rw[<-e.1];exact NL hs.sl d0
 case assign x=>simp at e;rw[<-e.1];exact NL hs.sl d0
 case load ty x=>
  cases x with
  |tmp u=>rw[l3]at d0;simp at d0
  |_=>cases d0
 case makeFunc fn x y=>
  cases fn with
  |func g=>simp[Instr.makeFunc]at e;rw[<-e.1];exact CV.func d0 fun e=>by rw[hg]at e;cases e
  |_=>cases d0
theorem YB(H:vR s P)(hs:SI s h w f a.tmps)(he:s.Kh f o d=some d')(hg:s.uI f=true)(hh:h<=w.heap.size){nx:Next}(e:(ax a.eval o).run P w=.ok nx w'):(∀v,nx=.value v->SI s h w' f (a.put o.dst v).tmps/\kH h w w')/\(nx=.skip->SI s h w' f (a.put o.dst av).tmps/\kH h w w'):=by
 obtain⟨hd,hgo⟩:=uJ he;have hgo:=hgo hg;have non:∀{v:af},(∀fn x y,v≠ .func fn x y)->blk v=none->∀{w2},SI s h w2 f a.tmps->SI s h w2 f (a.put o.dst v).tmps:=fun h1 h2 _ hs=>hs.none hd h1 h2;have rd:∀{x:Sem af},Nm false x->ax a.eval o=(do pure (.value (<-x)))->s.bare f o->(∀v,nx=.value v->SI s h w' f (a.put o.dst v).tmps/\kH h w w')/\(nx=.skip->SI s h w' f (a.put o.dst av).tmps/\kH h w w'):=fun{x} hx e1 hb=>by
  rw[e1]at e;obtain⟨v,rfl,e2⟩:=oQ e;have x1:=hx.out.ext e2;exact⟨fun v' hv=>by cases hv;exact⟨(hs.mono x1).free hb v,.of x1 hh⟩,fun h=>by cases h⟩
 have now:∀{v:af},ax a.eval o=(aX (.value v):Sem Next)->SI s h w f (a.put o.dst v).tmps->(∀v,nx=.value v->SI s h w' f (a.put o.dst v).tmps/\kH h w w')/\(nx=.skip->SI s h w' f (a.put o.dst av).tmps/\kH h w w'):=fun{v} e1 k=>by
  rw[e1]at e;simp at e;obtain⟨rfl,rfl⟩:=e;exact⟨fun v' hv=>by cases hv;exact⟨k,.refl _⟩,fun h=>by cases h⟩
 have fresh:∀{x:Sem af},Fr P x->ax a.eval o=(do pure (.value (<-x)))->(∀t,o.dst=some t->(s.fs f).contains t=false/\t∉s.wN f++s.wO f)->(∀v,nx=.value v->SI s h w' f (a.put o.dst v).tmps/\kH h w w')/\(nx=.skip->SI s h w' f (a.put o.dst av).tmps/\kH h w w'):=fun{x} hx e1 hb=>by
  rw[e1]at e;obtain⟨v,rfl,e2⟩:=oQ e;obtain⟨w0,ob,x1,rfl,⟨cs,el,z,rfl⟩,hv⟩:=hx w v w' e2;have x2:=nS.new w0 (.cells cs el z);have hs1:=hs.mono x1;refine⟨fun v' hv'=>?_,fun h=>by cases h⟩;cases hv';refine⟨(hs1.mono x2).put (fun t ht hc=>by rw[(hb t ht).1]at hc;cases hc) (fun t ht ho=>⟨(hb t ht).2,fun b hb'=>?_⟩) (fun t ht hm=>((hb t ht).2 hm).elim),.of (x1.trans x2) hh⟩;rw[hv]at hb';cases hb';refine⟨aY hh x1.1,⟨cs,el,z,by show(w0.heap.push _)[w0.heap.size]?=_;simp⟩,fun u hu hc=>?_⟩;obtain⟨RR,el2,z2,k,-⟩:=hs1.row u hu _ hc;have:=(Array.getElem?_eq_some_iff.1 k).1
  omega
 have mv:∀{x:Operand},ax a.eval o=(aX (.value (a.eval x)):Sem Next)->(∀t,o.dst=some t->((s.fs f).contains t=true->s.op? f f x=true)/\(t∈s.own f->t∉s.wN f++s.wO f/\∃u,x=.tmp u/\u∈s.own f)/\t∉s.wN f++s.wO f)->(∀v,nx=.value v->SI s h w' f (a.put o.dst v).tmps/\kH h w w')/\(nx=.skip->SI s h w' f (a.put o.dst av).tmps/\kH h w w'):=fun{x} e1 hb=>by
  refine now e1 (hs.put (fun t ht hc=>NL hs.sl ((hb t ht).1 hc)) (fun t ht ho=>?_) fun t ht hm=>((hb t ht).2.2 hm).elim);obtain⟨h1,u,rfl,hu⟩:=(hb t ht).2.1 ho;exact⟨h1,fun b hb'=>hs.own u hu b hb'⟩
 cases hop:o.op<;>(try(exfalso;simp[Sg.gop,hop]at hgo;done))
 case move x=>
  refine mv (x:=x) (by unfold ax;rw[hop]) fun t ht=>?_;unfold Sg.oJ at hd;rw[ht,hop]at hd;simp only[aD,bf,bV]at hd;obtain⟨⟨⟨d0,d1⟩,d2⟩,d3⟩:=hd;have m2:t∉s.wN f++s.wO f:=by
   simp only[aQ,or_false,dg,decide_eq_false_iff_not]at d2 d3;simp[d2,d3]
  refine⟨fun hc=>by rw[hc]at d0;simpa using d0,fun ho=>⟨m2,?_⟩,m2⟩;have ho:(s.own f).contains t=true:=by simpa using ho
  rw[ho]at d1;cases x with
  |tmp u=>exact⟨u,rfl,by simpa using d1⟩
  |_=>simp at d1
 case assign x=>
  refine mv (x:=x) (by unfold ax;rw[hop]) fun t ht=>?_;unfold Sg.oJ at hd;rw[ht,hop]at hd;simp only[aD,bf,bV]at hd;obtain⟨⟨⟨d0,d1⟩,d2⟩,d3⟩:=hd;have m2:t∉s.wN f++s.wO f:=by
   simp only[aQ,or_false,dg,decide_eq_false_iff_not]at d2 d3;simp[d2,d3]
  refine⟨fun hc=>by rw[hc]at d0;simpa using d0,fun ho=>⟨m2,?_⟩,m2⟩;have ho:(s.own f).contains t=true:=by simpa using ho
  rw[ho]at d1;cases x with
  |tmp u=>exact⟨u,rfl,by simpa using d1⟩
  |_=>simp at d1
 case alloc ty=>
  refine fresh (UH ty) (by unfold ax;rw[hop]) fun t ht=>?_;unfold Sg.oJ at hd;rw[ht,hop]at hd;simp only[aD,bf,bV,aQ,or_false,or_true,and_true,dg,decide_eq_false_iff_not]at hd;exact⟨by simpa using hd.1.1,by simp[hd.1.2,hd.2]⟩
 case box ty x=>
  refine fresh (az6 ty _) (by unfold ax;rw[hop]) fun t ht=>?_;unfold Sg.oJ at hd;rw[ht,hop]at hd;simp only[aD,bf,bV,aQ,or_false,or_true,and_true,dg,decide_eq_false_iff_not]at hd;exact⟨by simpa using hd.1.1,by simp[hd.1.2,hd.2]⟩
 case makeSlice ty x y=>
  refine fresh (GL ty _ _) (by unfold ax;rw[hop]) fun t ht=>?_;unfold Sg.oJ at hd;rw[ht,hop]at hd;simp only[aD,bf,bV,aQ,or_false,or_true,and_true,dg,decide_eq_false_iff_not]at hd;exact⟨by simpa using hd.1.1,by simp[hd.1.2,hd.2]⟩
 case buildSlice ty n ps=>
  have e1:ax a.eval o=(do pure (.value (<-Instr.buildSlice ty n (ps.map fun(i,x)=>(i,a.eval x))))):=by unfold ax;rw[hop]
  unfold Sg.oJ at hd;rw[hop]at hd;by_cases hr:∃t,o.dst=some t/\(s.wN f).contains t=true
  ·obtain⟨t,ht,hc⟩:=hr;rw[ht]at hd;simp only[aD,bf,bV,aQ,or_false]at hd;obtain⟨⟨⟨d0,d1⟩,d2⟩,d3⟩:=hd;rw[hc]at d2;simp only[Bool.true_eq_false,false_or]at d2;obtain⟨d2,d4⟩:=d2;rw[e1]at e;obtain⟨v,rfl,e2⟩:=oQ e;obtain⟨w0,cs,el,x1,rfl,hv,hcs⟩:=PY (f:=f) H d2 (fun p hp=>by
    obtain⟨q,hq,rfl⟩:=Array.mem_map.1 hp;rw[aV]at d4;have:=d4 q hq
    cases hx:q.2 with
    |func g=>rw[hx]at this;exact⟨g,by show a.eval q.2=_;rw[hx];rfl,this⟩
    |_=>rw[hx]at this;cases this) e2
   have x2:=nS.new w0 (.cells cs el);have hs1:=hs.mono x1;have hcell:(w0.heap.push (.cells cs el))[w0.heap.size]?=some (.cells cs el):=by simp
   refine⟨fun v' hv'=>?_,fun h=>by cases h⟩;cases hv';refine⟨(hs1.mono x2).put (fun t' ht' hc'=>?_) (fun t' ht' ho=>?_) (fun t' ht' hm b hb'=>?_),.of (x1.trans x2) hh⟩
   ·rw[ht]at ht';cases ht';rw[d0]at hc';cases hc'
   ·rw[ht]at ht';cases ht';have:(s.own f).contains t=true:=by simpa using ho
    rw[d1]at this;cases this
   ·rw[hv]at hb';cases hb';refine⟨⟨cs,el,_,hcell,hcs⟩,fun t2 ht2 hc2=>?_⟩;obtain⟨-,k,-⟩:=hs1.own t2 ht2 _ hc2;have:=k.lt
    omega
  ·refine rd (x:=Instr.buildSlice ty n (ps.map fun(i,x)=>(i,a.eval x))) inferInstance e1 fun t ht=>?_;rw[ht]at hd;simp only[aD,bf,bV,aQ,or_false]at hd;obtain⟨⟨⟨d0,d1⟩,d2⟩,d3⟩:=hd;have k2:(s.wN f).contains t=false:=by
    cases hq:(s.wN f).contains t with
    |false=>rfl
    |true=>exact absurd ⟨t,ht,hq⟩ hr
   refine⟨d0,by simpa using d1,?_⟩;simp only[dg,decide_eq_false_iff_not]at k2 d3;simp[k2,d3]
 case load ty x=>
  have e1:ax a.eval o=(do pure (.value (<-aT ty (a.eval x)))):=by unfold ax;rw[hop]
  unfold Sg.oJ at hd;rw[hop]at hd;by_cases hr:∃t,o.dst=some t/\(s.fs f).contains t=true
  ·obtain⟨t,ht,hc⟩:=hr;rw[ht]at hd;simp only[aD,bf,bV,aQ,or_false]at hd;obtain⟨⟨⟨d0,d1⟩,d2⟩,d3⟩:=hd;rw[hc]at d0;simp only[Bool.true_eq_false,false_or]at d0;rw[e1]at e;obtain⟨v,rfl,e2⟩:=oQ e;cases x with
   |tmp u=>
    have hu:u∈s.wN f++s.wO f:=by simp at d0;simp[d0]
    have hcv:CV s f v:=TM (fun b hb=>hs.row u hu b hb) e2;have x1:=NM.ext (Nm.out:NM false (aT ty (a.eval (.tmp u)))) e2;refine⟨fun v' hv'=>?_,fun h=>by cases h⟩;cases hv';refine⟨(hs.mono x1).put (fun _ _ _=>hcv) (fun t' ht' ho=>?_) (fun t' ht' hm=>?_),.of x1 hh⟩
    ·rw[ht]at ht';cases ht';have:(s.own f).contains t=true:=by simpa using ho
     rw[d1]at this;cases this
    ·rw[ht]at ht';cases ht';simp only[dg,decide_eq_false_iff_not]at d2 d3;rcases List.mem_append.1 hm with hm|hm
     ·exact absurd hm d2
     ·exact absurd hm d3
   |_=>cases d0
  ·refine rd (x:=aT ty (a.eval x)) inferInstance e1 fun t ht=>?_;rw[ht]at hd;simp only[aD,bf,bV,aQ,or_false]at hd;obtain⟨⟨⟨d0,d1⟩,d2⟩,d3⟩:=hd;have k2:(s.fs f).contains t=false:=by
    cases hq:(s.fs f).contains t with
    |false=>rfl
    |true=>exact absurd ⟨t,ht,hq⟩ hr
   refine⟨k2,by simpa using d1,?_⟩;simp only[dg,decide_eq_false_iff_not]at d2 d3;simp[d2,d3]
 case indexAddr ty x y=>
  have e1:ax a.eval o=(do pure (.value (<-Instr.indexAt ty (a.eval x) (a.eval y)))):=by unfold ax;rw[hop]
  unfold Sg.oJ at hd;rw[hop]at hd;by_cases hr:∃t,o.dst=some t/\(s.wO f).contains t=true
  ·obtain⟨t,ht,hc⟩:=hr;rw[ht]at hd;simp only[aD,bf,bV,aQ,or_false]at hd;obtain⟨⟨⟨d0,d1⟩,d2⟩,d3⟩:=hd;rw[hc]at d3;simp only[Bool.true_eq_false,false_or]at d3;rw[e1]at e;obtain⟨v,rfl,e2⟩:=oQ e;cases x with
   |tmp u=>
    have hu:u∈s.wN f++s.wO f:=by simp at d3;simp[d3]
    obtain⟨hb,hnf⟩:=X4 ty _ _ w v w' e2;have x1:=NM.ext (Nm.out:NM false (Instr.indexAt ty (a.eval (.tmp u)) (a.eval y))) e2;have hs1:=hs.mono x1;refine⟨fun v' hv'=>?_,fun h=>by cases h⟩;cases hv';refine⟨hs1.put (fun _ _ _ fn p q he=>(hnf fn p q he).elim) (fun t' ht' ho=>?_) (fun t' ht' hm b hb'=>?_),.of x1 hh⟩
    ·rw[ht]at ht';cases ht';have:(s.own f).contains t=true:=by simpa using ho
     rw[d1]at this;cases this
    ·rw[hb]at hb';refine⟨hs1.row u hu b hb',fun t2 ht2 hc2=>?_⟩;exact(hs1.own t2 ht2 b hc2).2.2 u hu hb'
   |_=>cases d3
  ·refine rd (x:=Instr.indexAt ty (a.eval x) (a.eval y)) inferInstance e1 fun t ht=>?_;rw[ht]at hd;simp only[aD,bf,bV,aQ,or_false]at hd;obtain⟨⟨⟨d0,d1⟩,d2⟩,d3⟩:=hd;have k2:(s.wO f).contains t=false:=by
    cases hq:(s.wO f).contains t with
    |false=>rfl
    |true=>exact absurd ⟨t,ht,hq⟩ hr
   refine⟨d0,by simpa using d1,?_⟩;simp only[dg,decide_eq_false_iff_not]at d2 k2;simp[d2,k2]
 all_goals
  have nK:s.bare f o:=fun t ht=>by
   unfold Sg.oJ at hd;rw[ht,hop]at hd;simp only[aD,bf,bV,aQ,or_false]at hd;obtain⟨⟨⟨d0,d1⟩,d2⟩,d3⟩:=hd;refine⟨d0,by simpa using d1,?_⟩;simp only[dg,decide_eq_false_iff_not]at d2 d3;simp[d2,d3]
 case build ty ps=>exact rd (x:=Instr.build ty (ps.map fun(i,x)=>(i,a.eval x))) inferInstance (by unfold ax;rw[hop]) nK
 case unOp op ty x=>exact rd (x:=Op.unary op (a.eval x)) inferInstance (by unfold ax;rw[hop]) nK
 case fieldAddr ty x n=>exact rd (x:=Instr.fieldAt ty (a.eval x) n) inferInstance (by unfold ax;rw[hop]) nK
 case field ty x n=>exact rd (x:=Instr.field ty (a.eval x) n) inferInstance (by unfold ax;rw[hop]) nK
 case index ty x y=>exact rd (x:=Instr.index ty (a.eval x) (a.eval y)) inferInstance (by unfold ax;rw[hop]) nK
 case extract x n=>exact rd (x:=Instr.extract (a.eval x) n) inferInstance (by unfold ax;rw[hop]) nK
 case binOp op ty x y ty2=>exact rd (x:=(do eqGuard op ty x y (a.eval x) (a.eval y);Go.binOp op ty (a.eval x) (a.eval y))) ⟨NM.bind Nm.out fun _=>Nm.out⟩ (by unfold ax;rw[hop]) nK
 case pick c x y=>
  have e1:ax a.eval o=(do pure (.value (<-(do let b<-asBool (a.eval c);aX (if b then a.eval x else a.eval y):Sem af)))):=by unfold ax;rw[hop];simp
  exact rd ⟨NM.bind Nm.out fun _=>Nm.out⟩ e1 nK
 case nilCheck x=>
  obtain⟨k1,k2⟩:=Gp (P:=P) hop (a:=a) (wr:=false);obtain⟨v,rfl⟩:=k2 w nx w' e;have x1:=k1.ext e;exact⟨fun v' hv=>by cases hv;exact⟨(hs.mono x1).free nK v,.of x1 hh⟩,fun h=>by cases h⟩
 case store ty x y=>
  have e1:ax a.eval o=(do bI ty (a.eval x) (a.eval y);pure .skip):=by unfold ax;rw[hop]
  simp only[Sg.gop,hop]at hgo;cases x with
  |tmp u=>
   have hu:u∈s.own f:=by simpa using hgo
   rw[e1]at e;obtain⟨rfl,e2⟩:=BL e;obtain⟨b,hb,hw⟩:=PS (fun b hb=>(hs.own u hu b hb).2.1) e2;obtain⟨k1,k2,k3⟩:=hs.own u hu b hb;exact⟨fun v h=>(by cases h),fun _=>⟨(hs.wrote hw k3).free nK _,.wrote hw k1⟩⟩
  |_=>cases hgo
 case call c=>
  simp only[Sg.gop,hop]at hgo;cases hc:c.callee with
  |invoke r n=>rw[hc]at hgo;cases hgo
  |builtin b=>
   rw[hc]at hgo;have e1:ax a.eval o=Go.builtin b c.argTypes o.type (c.args.map fun|.const _=>true|_=>false) (c.args.map a.eval):=by
    obtain⟨ce,ik,ats⟩:=c;subst hc;unfold ax;rw[hop];rfl
   cases b<;>(try(cases hgo;done))
   case copy=>
    dsimp only at hgo;cases hx:(c.args[0]?:Option Operand)with
    |none=>rw[hx]at hgo;cases hgo
    |some x=>
     rw[hx]at hgo;cases x with
     |tmp u=>
      have hu:u∈s.own f:=by simpa using hgo
      have e2:ax a.eval o=(do pure (.value (<-Builtin.copy_ c.argTypes o.type (c.args.map a.eval)))):=e1;rw[e2]at e;obtain⟨v,rfl,e3⟩:=oQ e;obtain⟨k1,k2,w1,x1,k3⟩:=U7 (x:=a.eval (.tmp u)) (by simp[hx]) w v w' (fun b hb=>(hs.own u hu b hb).2.1) e3;have hs1:=hs.mono x1;refine⟨fun v' hv=>?_,fun h=>by cases h⟩;cases hv;rcases k3 with rfl|⟨b,hb,hw⟩
      ·exact⟨hs1.free nK v,.of x1 hh⟩
      ·obtain⟨m1,m2,m3⟩:=hs1.own u hu b hb;exact⟨(hs1.wrote hw m3).free nK v,(kH.of x1 hh).trans (.wrote hw m1)⟩
     |_=>cases hgo
   case len=>exact rd (x:=Builtin.len_ c.argTypes o.type (c.args.map a.eval)) inferInstance e1 nK
  |value x=>
   have enter:(∃g ik,nx=.enter g ik)->(∀v,nx=.value v->SI s h w' f (a.put o.dst v).tmps/\kH h w w')/\(nx=.skip->SI s h w' f (a.put o.dst av).tmps/\kH h w w'):=fun⟨g,ik,h⟩=>by
    subst h;exact⟨fun v h=>(by cases h),fun h=>by cases h⟩
   obtain⟨d1,-,ho⟩:=J9 H hs.sl he 0;have ho:=ho w nx w' e;rw[hc]at hgo;cases x with
   |func g=>
    have e1:ax a.eval o=callFunc g (c.args.map a.eval):=by
     obtain⟨ce,ik,ats⟩:=c;have hc:ce=.value (.func g):=hc;subst hc;exact execOp_call_func hop
    simp only[aD,bV,bne_iff_ne,ne_eq]at hgo;unfold Sg.Kh at he;rw[hop]at he;split at he
    ·cases he
    ·dsimp only at he;rw[hc]at he;dsimp only at he;rw[if_neg (by simp[hgo.1.2]),if_neg (by simp[hgo.2]),if_neg (by simp[hgo.1.1.2])]at he;split at he
     ·rename_i hx;simp only[aD,decide_eq_true_eq]at hx;rw[e1,BS H hx.1.1.1.1]at e;cases e;exact enter ⟨_,_,rfl⟩
     ·cases he
   |tmp t=>
    unfold Sg.Kh at he;rw[hop]at he;split at he
    ·cases he
    ·dsimp only at he;rw[hc]at he;dsimp only at he;split at he
     ·rename_i ht;have e1:ax a.eval o=(do let d<-cG (a.eval (.tmp t)) (c.args.map a.eval);invoke d.target d.args):=by
       obtain⟨ce,ik,ats⟩:=c;subst hc;unfold ax;rw[hop];rfl
      rw[e1]at e;rw[aD,bf,decide_eq_true_eq]at ht;obtain⟨-,g,bs,rfl,-⟩:=(Pf H (hs.sl t ht.1) (c.args.map a.eval) (fun e=>by
       rcases ht.2 with h|h;· rw[e]at h;cases h
       ·simpa using h) 0).2 _ _ _ e
      exact enter ⟨_,_,rfl⟩
     ·cases he
   |_=>cases hgo
end
end
end Cc
end Go.Proofs.Ytpfpokjaeffbjaa
