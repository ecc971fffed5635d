/- Part of the proof: Draws, Ren, RenOps, RenOp2. -/
import Derived.Conc.Events
import Derived.Calls
set_option linter.unusedVariables false
set_option linter.unusedSimpArgs false
set_option maxRecDepth 100000
set_option maxHeartbeats 16000000
namespace Go.Proofs.Ytpfpokjaeffbjab
namespace Cc
section
def World.on(s:World)(τ:Tape)(d:Nat):World:={s with tape:=τ,drawn:=d}
section
variable{P:Program}
theorem D6{s w':World}{x:Addr}{u:TypeId}{a:Addr}{v:Value}{b:Bool}{l:List Addr}(h:s.viewStore P x u a v b=.ok (w',l)):∃heap',w'={s with heap:=heap'}:=by
 unfold World.viewStore at h;simp only[Bind.bind,Except.bind,Pure.pure,Except.pure]at h
 (repeat' split at h)<;>first|(cases h;done)|(cases h;exact⟨_,rfl⟩)
theorem Gh{s w':World}{a:Addr}{v:Value}{b:Bool}{l:List Addr}(h:s.farStore P a v b=.ok (w',l)):∃heap',w'={s with heap:=heap'}:=by
 unfold World.farStore at h;split at h
 ·split at h
  ·rename_i r hv;cases h;exact D6 hv
  ·cases h
 ·cases h
theorem Iq(s:World)(τ:Tape)(d:Nat)(x:Addr)(u:TypeId)(a:Addr)(v:Value)(b:Bool):(World.on s τ d).viewStore P x u a v b=(s.viewStore P x u a v b).map fun r=>(World.on r.1 τ d,r.2):=by
 unfold World.viewStore;have e:∀at_ u k atomic,(World.on s τ d).seen P at_ u k atomic=s.seen P at_ u k atomic:=fun _ _ _ _=>rfl
 rw[e];simp only[Bind.bind,Except.bind,Pure.pure,Except.pure,Except.map];by_cases h1:(!tight P P.depth u)=true
 ·simp only[h1,if_true];rfl
 simp only[h1];cases s.seen P x u a b with
 |error e=>rfl
 |ok r=>
  dsimp only;cases v.bytes? with
  |none=>rfl
  |some bytes=>
   dsimp only;generalize(List.foldlM _ r.fst r.2.2.2.2.snd:Except String (Array Value))=q;by_cases hz:(some bytes.length≠Option.map (fun x=>x.length) r.2.2.2.2.fst.bytes?)
   ·rw[if_pos hz,if_pos hz];rfl
   ·rw[if_neg hz,if_neg hz];cases q<;>rfl
theorem NH(s:World)(τ:Tape)(d:Nat)(a:Addr)(v:Value)(b:Bool):(World.on s τ d).farStore P a v b=(s.farStore P a v b).map fun r=>(World.on r.1 τ d,r.2):=by
 unfold World.farStore;have e:(World.on s τ d).heap=s.heap:=rfl;rw[e];cases s.heap[a.block]? with
 |none=>rfl
 |some o=>
  cases o with
  |view x u=>
   dsimp only;rw[Iq];cases s.viewStore P x u a v b<;>rfl
  |_=>rfl
theorem Qg(s:World)(τ:Tape)(d:Nat)(a:Addr)(b:Bool):(World.on s τ d).farLoad P a b=s.farLoad P a b:=rfl
variable(P) in
def Zv{α:Type}(x:Sem α)(s:World)(a:α)(s1:World):Prop:=s1.tape=s.tape/\∃c,s1.drawn=s.drawn+c/\
  ∀τ d,(∀j,j<c->τ (d+j)=s.tape (s.drawn+j))->x.run P (World.on s τ d)=.ok a (World.on s1 τ (d+c))/\∀es,x.events P (World.on s τ d) es=x.events P s es
def mF{α:Type}:Sem α->Prop
 |.pure _|.halt _=>True
 |.load _ _ k=>∀v,mF (k v)
 |.store _ _ _ k|.freeze _ _ k|.setObj _ _ k|.mark _ k=>mF k
 |.new _ k=>∀n,mF (k n)
 |.shape _ k=>∀n,mF (k n)
 |.frozen _ k=>∀n,mF (k n)
 |.getObj _ k=>∀n,mF (k n)
 |.choose _ k=>∀n,mF (k n)
 |.program k=>∀n,mF (k n)
 |.sys _ _=>False
theorem iR{α:Type}(x:Sem α)(hs:mF x):∀(s:World) (a:α) (s1:World),x.run P s=.ok a s1->Zv P x s a s1:=by
 induction x with
 |pure a=>intro s b s1 h;cases h;exact⟨rfl,0,rfl,fun τ d _=>⟨rfl,fun _=>rfl⟩⟩
 |load m ad k ih=>
  intro s b s1 h;have e1:∀τ d,(World.on s τ d).cell? ad=s.cell? ad:=fun _ _=>rfl
  simp only[Sem.run]at h;cases hc:s.cell? ad with
  |some v=>
   rw[hc]at h;obtain⟨h1,c,h2,h3⟩:=ih v (hs v) s b s1 h;refine⟨h1,c,h2,fun τ d nO=>?_⟩;obtain⟨k1,k2⟩:=h3 τ d nO;simp only[Sem.run,Sem.events,Sem.runT,e1,hc];exact⟨k1,fun es=>k2 _⟩
  |none=>
   rw[hc]at h;simp only at h;cases hf:s.farLoad P ad (m== .atomic)with
   |error e=>rw[hf]at h;cases h
   |ok r=>
    obtain⟨v,l⟩:=r;rw[hf]at h;obtain⟨h1,c,h2,h3⟩:=ih v (hs v) s b s1 h;refine⟨h1,c,h2,fun τ d nO=>?_⟩;obtain⟨k1,k2⟩:=h3 τ d nO;simp only[Sem.run,Sem.events,Sem.runT,e1,hc,Qg,hf];exact⟨k1,fun es=>k2 _⟩
 |store m ad v k ih=>
  intro s b s1 h;have e1:∀τ d,(World.on s τ d).cell? ad=s.cell? ad:=fun _ _=>rfl
  have e2:∀τ d,(World.on s τ d).frozen? ad=s.frozen? ad:=fun _ _=>rfl
  cases hc:s.cell? ad with
  |some u=>
   cases hz:s.frozen? ad with
   |true=>cases v<;>simp only[Sem.run,hc,hz]at h<;>cases h
   |false=>
    have key:(∀x,v≠ .agg x)->(∀x,v≠ .tuple x)->k.run P (s.setCell ad v)=.ok b s1->Zv P (Sem.store m ad v k) s b s1:=fun n1 n2 h=>by
     obtain⟨h1,c,h2,h3⟩:=ih hs (s.setCell ad v) b s1 h;refine⟨h1,c,h2,fun τ d nO=>?_⟩;obtain⟨k1,k2⟩:=h3 τ d nO;have e3:(World.on s τ d).setCell ad v=World.on (s.setCell ad v) τ d:=rfl;cases v<;>first
      |exact absurd rfl (n1 _)
      |exact absurd rfl (n2 _)
      |(simp only[Sem.run,Sem.events,Sem.runT,e1,e2,hc,hz,e3,Bool.false_eq_true,if_false]
        exact⟨k1,fun es=>k2 _⟩)
    cases v<;>simp only[Sem.run,hc,hz,Bool.false_eq_true,if_false]at h<;>first|exact key (by simp) (by simp) h|cases h
  |none=>
   cases hf:s.farStore P ad v (m== .atomic)with
   |error e=>cases v<;>simp only[Sem.run,hc,hf]at h<;>cases h
   |ok r=>
    obtain⟨w',l⟩:=r;obtain⟨hp,rfl⟩:=Gh hf;have key:(∀x,v≠ .agg x)->(∀x,v≠ .tuple x)->k.run P {s with heap:=hp}=.ok b s1->Zv P (Sem.store m ad v k) s b s1:=fun n1 n2 h=>by
     obtain⟨h1,c,h2,h3⟩:=ih hs _ b s1 h;refine⟨h1,c,h2,fun τ d nO=>?_⟩;obtain⟨k1,k2⟩:=h3 τ d nO;cases v<;>first
      |exact absurd rfl (n1 _)
      |exact absurd rfl (n2 _)
      |(simp only[Sem.run,Sem.events,Sem.runT,e1,hc,NH,hf,Except.map]
        exact⟨k1,fun es=>k2 _⟩)
    cases v<;>simp only[Sem.run,hc,hf]at h<;>first|exact key (by simp) (by simp) h|cases h
 |new o k ih=>
  intro s b s1 h;obtain⟨h1,c,h2,h3⟩:=ih s.heap.size (hs _) {s with heap:=s.heap.push o} b s1 h;exact⟨h1,c,h2,fun τ d nO=>h3 τ d nO⟩
 |shape r k ih=>
  intro s b s1 h;obtain⟨h1,c,h2,h3⟩:=ih (s.shape? r) (hs _) s b s1 h;exact⟨h1,c,h2,fun τ d nO=>h3 τ d nO⟩
 |freeze ad n k ih=>
  intro s b s1 h;obtain⟨h1,c,h2,h3⟩:=ih hs (s.freeze ad n) b s1 h;have e:∀τ d,(World.on s τ d).freeze ad n=World.on (s.freeze ad n) τ d:=fun τ d=>by unfold World.freeze;split<;>rfl
  have e2:(s.freeze ad n).tape=s.tape:=by unfold World.freeze;split<;>rfl
  have e3:(s.freeze ad n).drawn=s.drawn:=by unfold World.freeze;split<;>rfl
  rw[e2]at h1;rw[e3]at h2;refine⟨h1,c,h2,fun τ d nO=>?_⟩;obtain⟨k1,k2⟩:=h3 τ d (by rw[e2,e3];exact nO);simp only[Sem.run,Sem.events,Sem.runT,e];exact⟨k1,fun es=>k2 _⟩
 |frozen ad k ih=>
  intro s b s1 h;obtain⟨h1,c,h2,h3⟩:=ih (s.frozen? ad) (hs _) s b s1 h;exact⟨h1,c,h2,fun τ d nO=>h3 τ d nO⟩
 |getObj r k ih=>
  intro s b s1 h;have e1:∀τ d,(World.on s τ d).heap=s.heap:=fun _ _=>rfl
  simp only[Sem.run]at h;cases ho:s.heap[r]? with
  |none=>rw[ho]at h;cases h
  |some o=>
   rw[ho]at h;have key:(∀x y z,o≠ .cells x y z)->(k o).run P s=.ok b s1->Zv P (Sem.getObj r k) s b s1:=fun n1 h=>by
    obtain⟨h1,c,h2,h3⟩:=ih o (hs o) s b s1 h;refine⟨h1,c,h2,fun τ d nO=>?_⟩;obtain⟨k1,k2⟩:=h3 τ d nO;cases o<;>first
     |exact absurd rfl (n1 _ _ _)
     |(simp only[Sem.run,Sem.events,Sem.runT,e1,ho]
       exact⟨k1,fun es=>k2 _⟩)
   cases o<;>first|(simp only at h;cases h;done)|exact key (by simp) h
 |setObj r o k ih=>
  intro s b s1 h;have e1:∀τ d,(World.on s τ d).heap=s.heap:=fun _ _=>rfl
  simp only[Sem.run]at h;cases ho:s.heap[r]? with
  |none=>rw[ho]at h;cases h
  |some o'=>
   rw[ho]at h;have key:(∀x y z,o'≠ .cells x y z)->k.run P {s with heap:=s.heap.setIfInBounds r o}=.ok b s1->Zv P (Sem.setObj r o k) s b s1:=fun n1 h=>by
    obtain⟨h1,c,h2,h3⟩:=ih hs _ b s1 h;refine⟨h1,c,h2,fun τ d nO=>?_⟩;obtain⟨k1,k2⟩:=h3 τ d nO;cases o'<;>first
     |exact absurd rfl (n1 _ _ _)
     |(simp only[Sem.run,Sem.events,Sem.runT,e1,ho]
       exact⟨k1,fun es=>k2 _⟩)
   cases o'<;>first|(simp only at h;cases h;done)|exact key (by simp) h
 |choose q k ih=>
  intro s b s1 h;simp only[Sem.run]at h;by_cases hq:q.forced=true
  ·rw[if_pos hq]at h;obtain⟨h1,c,h2,h3⟩:=ih 0 (hs 0) s b s1 h;refine⟨h1,c,h2,fun τ d nO=>?_⟩;simp only[Sem.run,Sem.events,Sem.runT,if_pos hq];exact h3 τ d nO
  ·rw[if_neg hq]at h;obtain⟨h1,c,h2,h3⟩:=ih _ (hs _) {s with drawn:=s.drawn+1} b s1 h;refine⟨h1,c+1,by rw[h2];simp only;omega,fun τ d nO=>?_⟩;have h0:τ d=s.tape s.drawn:=nO 0 (by omega);obtain⟨k1,k2⟩:=h3 τ (d+1) (fun j hj=>by
    have:=nO (j+1) (by omega);rw[show d+1+j=d+(j+1) by omega,this];show s.tape (s.drawn+(j+1))=s.tape (s.drawn+1+j);rw[show s.drawn+(j+1)=s.drawn+1+j by omega])
   simp only[Sem.run,Sem.events,Sem.runT,if_neg hq];have e2:(World.on s τ d).tape (World.on s τ d).drawn=s.tape s.drawn:=h0;rw[e2,show d+(c+1)=d+1+c by omega];exact⟨k1,k2⟩
 |sys c k ih=>
  exact hs.elim
 |program k ih=>
  intro s b s1 h;obtain⟨h1,c,h2,h3⟩:=ih P (hs P) s b s1 h;exact⟨h1,c,h2,fun τ d nO=>h3 τ d nO⟩
 |mark m k ih=>
  intro s b s1 h;obtain⟨h1,c,h2,h3⟩:=ih hs s b s1 h;refine⟨h1,c,h2,fun τ d nO=>?_⟩;obtain⟨k1,k2⟩:=h3 τ d nO;exact⟨k1,fun es=>k2 _⟩
 |halt hh=>intro s b s1 h;cases h
theorem Zv.bind{α β:Type}{x:Sem α}{f:α->Sem β}{s s1 s2:World}{a:α}{b:β}(hx:x.run P s=.ok a s1)(hf:(f a).run P s1=.ok b s2)(h:Zv P x s a s1)(k:Zv P (f a) s1 b s2):Zv P (x>>=f) s b s2:=by
 obtain⟨h1,c,h2,h3⟩:=h;obtain⟨k1,e,k2,k3⟩:=k;refine⟨k1.trans h1,c+e,by rw[k2,h2];omega,fun τ d nO=>?_⟩;obtain⟨m1,m2⟩:=h3 τ d fun j hj=>nO j (by omega)
 obtain⟨n1,n2⟩:=k3 τ (d+c) fun j hj=>by
  have:=nO (c+j) (by omega);rw[show d+c+j=d+(c+j) by omega,this,h1,h2];rw[show s.drawn+(c+j)=s.drawn+c+j by omega]
 refine⟨by rw[Sem.run_bind,m1];show(f a).run P _=_;rw[n1,show d+c+e=d+(c+e) by omega],fun es=>?_⟩;rw[Sem.events_bind,Sem.events_bind,m1,hx];simp only[Result.evThen_ok];rw[m2,n2]
theorem mF.bind{α β:Type}{x:Sem α}{f:α->Sem β}(h:mF x)(k:∀a,mF (f a)):mF (x>>=f):=by
 show mF (x.bind f)
 induction x with
 |pure a=>exact k a
 |load m a q ih=>exact fun v=>ih v (h v)
 |store m a v q ih=>exact ih h
 |new o q ih=>exact fun v=>ih v (h v)
 |shape r q ih=>exact fun v=>ih v (h v)
 |freeze a n q ih=>exact ih h
 |frozen a q ih=>exact fun v=>ih v (h v)
 |getObj r q ih=>exact fun v=>ih v (h v)
 |setObj r o q ih=>exact ih h
 |choose q' q ih=>exact fun v=>ih v (h v)
 |sys c q ih=>exact h.elim
 |program q ih=>exact fun v=>ih v (h v)
 |mark m q ih=>exact ih h
 |halt hh=>trivial
end
end
section
inductive VR(S:FuncId->Prop)(ρ:Nat->Option Nat):Value->Value->Prop
 |bool (b:Bool):VR S ρ (.bool b) (.bool b)
 |int (k:IntKind) (n:Int):VR S ρ (.int k n) (.int k n)
 |string (s:ByteArray):VR S ρ (.string s) (.string s)
 |nilPtr:VR S ρ (.pointer none) (.pointer none)
 |gQ (l c:Nat):VR S ρ (.slice none l c) (.slice none l c)
 |nilFunc:VR S ρ .nilFunc .nilFunc
 |ptr {b c:Nat} (off:Nat) (sp:Option Nat) (h:ρ b=some c):VR S ρ (.pointer (some ⟨b,off,sp⟩)) (.pointer (some ⟨c,off,sp⟩))
 |slice {b c:Nat} (off:Nat) (sp:Option Nat) (l k:Nat) (h:ρ b=some c):VR S ρ (.slice (some ⟨b,off,sp⟩) l k) (.slice (some ⟨c,off,sp⟩) l k)
 |func {f:FuncId} {x y x' y':Array Value} (hf:S f) (hx:x.size=x'.size) (hy:y.size=y'.size)
   (h1:∀(i:Nat) (v v':Value),x[i]?=some v->x'[i]?=some v'->VR S ρ v v') (h2:∀(i:Nat) (v v':Value),y[i]?=some v->y'[i]?=some v'->VR S ρ v v'):VR S ρ (.func (.func f) x y) (.func (.func f) x' y')
 |agg {x x':Array Value} (hx:x.size=x'.size) (h1:∀(i:Nat) (v v':Value),x[i]?=some v->x'[i]?=some v'->VR S ρ v v'):VR S ρ (.agg x) (.agg x')
 |tuple {x x':Array Value} (hx:x.size=x'.size) (h1:∀(i:Nat) (v v':Value),x[i]?=some v->x'[i]?=some v'->VR S ρ v v'):VR S ρ (.tuple x) (.tuple x')
 |junk {v':Value} (ha:∀x,v'≠ .agg x) (ht:∀x,v'≠ .tuple x) (hb:∀x,v'≠ .bool x):VR S ρ .nilIface v'
def Ext(ρ ρ':Nat->Option Nat):Prop:=∀b c,ρ b=some c->ρ' b=some c
theorem Ext.refl(ρ:Nat->Option Nat):Ext ρ ρ:=fun _ _ h=>h
theorem Ext.trans{ρ ρ' aW5:Nat->Option Nat}(h:Ext ρ ρ')(h':Ext ρ' aW5):Ext ρ aW5:=fun b c x=>h' b c (h b c x)
theorem VR.mono{S:FuncId->Prop}{ρ ρ':Nat->Option Nat}(e:Ext ρ ρ'){v v':Value}(h:VR S ρ v v'):VR S ρ' v v':=by
 induction h with
 |bool b=>exact .bool b
 |int k n=>exact .int k n
 |string s=>exact .string s
 |nilPtr=>exact .nilPtr
 |gQ l c=>exact .gQ l c
 |nilFunc=>exact .nilFunc
 |ptr off sp h=>exact .ptr off sp (e _ _ h)
 |slice off sp l k h=>exact .slice off sp l k (e _ _ h)
 |func hf hx hy _ _ i1 i2=>exact .func hf hx hy i1 i2
 |agg hx _ i1=>exact .agg hx i1
 |tuple hx _ i1=>exact .tuple hx i1
 |junk ha ht hb=>exact .junk ha ht hb
structure AR(S:FuncId->Prop)(ρ:Nat->Option Nat)(x x':Array Value):Prop where
 size:x.size=x'.size
 at_:∀(i:Nat) (v v':Value),x[i]?=some v->x'[i]?=some v'->VR S ρ v v'
section
variable{S:FuncId->Prop}{ρ ρ':Nat->Option Nat}
theorem AR.mono(e:Ext ρ ρ'){x x':Array Value}(h:AR S ρ x x'):AR S ρ' x x':=⟨h.size,fun i v v' a b=>(h.at_ i v v' a b).mono e⟩
theorem VR.agg'{x x':Array Value}(h:AR S ρ x x'):VR S ρ (.agg x) (.agg x'):=.agg h.size h.at_
theorem VR.tuple'{x x':Array Value}(h:AR S ρ x x'):VR S ρ (.tuple x) (.tuple x'):=.tuple h.size h.at_
theorem VR.func'{f:FuncId}{x y x' y':Array Value}(hf:S f)(h1:AR S ρ x x')(h2:AR S ρ y y'):VR S ρ (.func (.func f) x y) (.func (.func f) x' y'):=.func hf h1.size h2.size h1.at_ h2.at_
theorem VR.undef:VR S ρ undef undef:=.tuple rfl (by simp)
theorem AR.get{x x':Array Value}(h:AR S ρ x x'){i:Nat}{v:Value}(hv:x[i]?=some v):∃v',x'[i]?=some v'/\VR S ρ v v':=by
 have hi:i<x'.size:=h.size ▸ (Array.getElem?_eq_some_iff.1 hv).1;exact⟨x'[i],Array.getElem?_eq_getElem hi,h.at_ i v _ hv (Array.getElem?_eq_getElem hi)⟩
theorem AR.none{x x':Array Value}(h:AR S ρ x x'){i:Nat}(hv:x[i]?=Option.none):x'[i]?=Option.none:=by
 rw[Array.getElem?_eq_none_iff]at hv ⊢;rw[<-h.size];exact hv
theorem AR.getD{x x':Array Value}(h:AR S ρ x x')(i:Nat):VR S ρ (x.getD i undef) (x'.getD i undef):=by
 cases hx:x[i]? with
 |none=>
  have h':=h.none hx;simp only[Array.getD_eq_getD_getElem?,hx,h',Option.getD_none];exact VR.undef
 |some v=>
  obtain⟨v',h',hr⟩:=h.get hx;simp only[Array.getD_eq_getD_getElem?,hx,h',Option.getD_some];exact hr
theorem AR.empty:AR S ρ #[] #[]:=⟨rfl,by simp⟩
theorem AR.push{x x':Array Value}(h:AR S ρ x x'){v v':Value}(hv:VR S ρ v v'):AR S ρ (x.push v) (x'.push v'):=by
 refine⟨by simp[h.size],fun i a b ha hb=>?_⟩;rw[Array.getElem?_push]at ha hb;rw[<-h.size]at hb;split at ha
 ·rename_i e;rw[if_pos e]at hb;cases ha;cases hb;exact hv
 ·rename_i e;rw[if_neg e]at hb;exact h.at_ i a b ha hb
theorem AR.append{x x' y y':Array Value}(h:AR S ρ x x')(k:AR S ρ y y'):AR S ρ (x++y) (x'++y'):=by
 refine⟨by simp[h.size,k.size],fun i a b ha hb=>?_⟩;rw[Array.getElem?_append]at ha hb;rw[<-h.size]at hb;split at ha
 ·rename_i e;rw[if_pos e]at hb;exact h.at_ i a b ha hb
 ·rename_i e;rw[if_neg e]at hb;exact k.at_ _ a b ha hb
theorem AR.set{x x':Array Value}(h:AR S ρ x x')(i:Nat){v v':Value}(hv:VR S ρ v v'):AR S ρ (x.setIfInBounds i v) (x'.setIfInBounds i v'):=by
 refine⟨by simp[h.size],fun j a b ha hb=>?_⟩;rw[Array.getElem?_setIfInBounds]at ha hb;rw[<-h.size]at hb;split at ha
 ·rename_i e;rw[if_pos e]at hb;split at ha
  ·rename_i e2;rw[if_pos e2]at hb;cases ha;cases hb;exact hv
  ·cases ha
 ·rename_i e;rw[if_neg e]at hb;exact h.at_ j a b ha hb
theorem AR.map{α:Type}{f g:α->Value}(h:∀a,VR S ρ (f a) (g a))(l:Array α):AR S ρ (l.map f) (l.map g):=by
 refine⟨by simp,fun i a b ha hb=>?_⟩;rw[Array.getElem?_map]at ha hb;cases hl:l[i]? with
 |none=>rw[hl]at ha;cases ha
 |some z=>rw[hl]at ha hb;cases ha;cases hb;exact h z
theorem AR.extract{x x':Array Value}(h:AR S ρ x x')(i j:Nat):AR S ρ (x.extract i j) (x'.extract i j):=by
 refine⟨by simp[h.size],fun k a b ha hb=>?_⟩;rw[Array.getElem?_extract]at ha hb;rw[<-h.size]at hb;split at ha
 ·rename_i e;rw[if_pos e]at hb;exact h.at_ _ a b ha hb
 ·cases ha
theorem AR.replicate(n:Nat){v v':Value}(h:VR S ρ v v'):AR S ρ (Array.replicate n v) (Array.replicate n v'):=by
 refine⟨by simp,fun i a b ha hb=>?_⟩;rw[Array.getElem?_replicate]at ha hb;split at ha
 ·rename_i e;rw[if_pos e]at hb;cases ha;cases hb;exact h
 ·cases ha
theorem AR.one{v v':Value}(h:VR S ρ v v'):AR S ρ #[v] #[v']:=by simpa using AR.empty.push h
theorem VR.cells{v v':Value}(h:VR S ρ v v'):AR S ρ v.cells v'.cells:=by
 cases h with
 |agg hx h1=>exact⟨hx,h1⟩
 |bool b=>exact AR.one (.bool b)
 |int k n=>exact AR.one (.int k n)
 |string s=>exact AR.one (.string s)
 |nilPtr=>exact AR.one .nilPtr
 |gQ l c=>exact AR.one (.gQ l c)
 |nilFunc=>exact AR.one .nilFunc
 |ptr off sp h=>exact AR.one (.ptr off sp h)
 |slice off sp l k h=>exact AR.one (.slice off sp l k h)
 |func hf hx hy h1 h2=>exact AR.one (.func hf hx hy h1 h2)
 |tuple hx h1=>exact AR.one (.tuple hx h1)
 |junk ha ht hb=>
  have e:v'.cells=#[v']:=by cases v'<;>first|rfl|exact absurd rfl (ha _)
  rw[e];exact AR.one (.junk ha ht hb)
end
def oL(ρ:Nat->Option Nat)(a a':Addr):Prop:=ρ a.block=some a'.block/\a'.off=a.off/\a'.spot=a.spot
inductive Md where
 |all|read (n:Nat)|part (f:Nat)
 deriving DecidableEq
def Md.hi:Md->Nat->Nat
 |.all,_=>0
 |.read _,n=>n
 |.part f,_=>f
def Md.isRead:Md->Bool
 |.read _=>true
 |_=>false
def Md.gets:Md->Nat->Prop
 |.read n,i=>i<n
 |_,_=>True
def Md.lets:Md->Nat->Prop
 |.all,_=>True
 |.read _,_=>False
 |.part f,i=>f<=i
theorem Md.ag5{m:Md}{n i:Nat}(h:¬(0<=i/\i<m.hi n))(hi:i<n):m.lets i:=by
 cases m with
 |all=>trivial
 |read k=>simp[Md.hi]at h;exact absurd hi (by omega)
 |part f=>simp[Md.hi]at h;exact h
inductive OR(S:FuncId->Prop)(ro:Md)(ρ:Nat->Option Nat):Obj->Obj->Prop
 |cells {cs cs':Array Value} {e:TypeId} {fz':Nat×Nat} (h3:cs.size<=cs'.size) (h4:∀(i:Nat) (v:Value),cs[i]?=some v->∃v',cs'[i]?=some v'/\VR S ρ v v')
   (h5:ro.isRead=false->cs.size=cs'.size/\fz'=(0,0)) (h6:∀n,ro=.read n->cs.size=n):OR S ro ρ (.cells cs e (0,ro.hi cs.size)) (.cells cs' e fz')
 |number {a a':Addr} {lost:Bool} (h:oL ρ a a') (hro:ro=.all):OR S ro ρ (.number a lost) (.number a' lost)
structure HR(G:Nat)(S:FuncId->Prop)(ro:Nat->Md)(ρ:Nat->Option Nat)(s w:World):Prop where
 inj:∀b b' c,ρ b=some c->ρ b'=some c->b=b'
 row:∀b c,ρ b=some c->∃o o',s.heap[b]?=some o/\w.heap[c]?=some o'/\OR S (ro b) ρ o o'
 hole:∀b,ρ b=none->s.heap[b]?=none\/∃x,s.heap[b]?=some (.coro x)
 low:∀b c,ρ b=some c->G<=b/\G<=c
 gs:G<=s.heap.size
 gw:G<=w.heap.size
def an2(ro:Nat->Md)(ρ:Nat->Option Nat)(e:Event):Prop:=
 (∃a b x,e=⟨.cell a,x,false⟩/\ρ b=some a.block/\(x=true->(ro b).lets a.off)/\(ro b).gets a.off/\a.spot=none)\/e=⟨.mark .noRoom,false,true⟩\/∃c b,e=⟨.obj c,false,false⟩/\ρ b=some c/\ro b=.all
structure Mv(G:Nat)(S:FuncId->Prop)(ro:Nat->Md)(ρ:Nat->Option Nat)(s w:World)(ρ':Nat->Option Nat)(s' w':World)(es:Array Event):Prop where
 ext:Ext ρ ρ'
 hr:HR G S ro ρ' s' w'
 tape:s'.tape=w'.tape
 drawn:s'.drawn=w'.drawn
 an9:w'.tape=w.tape
 os:w'.os=w.os
 output:w'.output=w.output
 size:w.heap.size<=w'.heap.size
 keep:∀c,c<w.heap.size->(∀b,ρ b=some c->(ro b).isRead=true)->w'.heap[c]?=w.heap[c]?
 part:∀b c f,ρ b=some c->ro b=.part f->∀cs e fz,w.heap[c]?=some (.cells cs e fz)->∃cs',w'.heap[c]?=some (.cells cs' e fz)/\cs'.size=cs.size/\∀i,i<f->cs'[i]?=cs[i]?
 fresh:∀b c,ρ' b=some c->ρ b=some c\/(w.heap.size<=c/\ro b=.all)
 evs:∀e∈es,an2 ro ρ' e
 ssize:s.heap.size<=s'.heap.size
 sos:s'.os=s.os
 QM:s'.output=s.output
 same:s.heap.size=w.heap.size->(∀b c,ρ b=some c->c=b)->s'.heap.size=w'.heap.size/\∀b c,ρ' b=some c->c=b
theorem an2.mono{ro:Nat->Md}{ρ ρ':Nat->Option Nat}(h:Ext ρ ρ'){e:Event}(k:an2 ro ρ e):an2 ro ρ' e:=
 k.imp (fun⟨a,b,x,h1,h2,h3⟩=>⟨a,b,x,h1,h _ _ h2,h3⟩) (.imp id fun⟨c,b,h1,h2,h3⟩=>⟨c,b,h1,h _ _ h2,h3⟩)
theorem Mv.refl{G:Nat}{S:FuncId->Prop}{ro:Nat->Md}{ρ:Nat->Option Nat}{s w:World}(h:HR G S ro ρ s w)(ht:s.tape=w.tape)(hd:s.drawn=w.drawn):Mv G S ro ρ s w ρ s w #[]:=
 ⟨.refl _,h,ht,hd,rfl,rfl,rfl,Nat.le_refl _,fun _ _ _=>rfl,fun _ _ _ _ _ cs _ _ hc=>⟨cs,hc,rfl,fun _ _=>rfl⟩,fun _ _ h=>.inl h,by simp,Nat.le_refl _,rfl,rfl,fun a b=>⟨a,b⟩⟩
theorem Mv.trans{G:Nat}{S:FuncId->Prop}{ro:Nat->Md}{ρ dI fM:Nat->Option Nat}{s w s₁ w₁ s₂ w₂:World}{es es₁:Array Event}
  (h:Mv G S ro ρ s w dI s₁ w₁ es)(k:Mv G S ro dI s₁ w₁ fM s₂ w₂ es₁):Mv G S ro ρ s w fM s₂ w₂ (es++es₁):=by
 refine⟨h.ext.trans k.ext,k.hr,k.tape,k.drawn,k.an9.trans h.an9,k.os.trans h.os,k.output.trans h.output,Nat.le_trans h.size k.size,fun c hc hb=>?_,fun b c f hb hf cs e fz hc=>?_,fun b c hbc=>?_,fun e he=>?_,
  Nat.le_trans h.ssize k.ssize,k.sos.trans h.sos,k.QM.trans h.QM,fun a b=>k.same (h.same a b).1 (h.same a b).2⟩
 ·refine(k.keep c (Nat.lt_of_lt_of_le hc h.size) fun b hbc=>?_).trans (h.keep c hc hb);rcases h.fresh b c hbc with h1|⟨h1,_⟩
  ·exact hb b h1
  ·omega
 ·obtain⟨cs₁,h1,h2,h3⟩:=h.part b c f hb hf cs e fz hc;obtain⟨cs₂,k1,k2,k3⟩:=k.part b c f (h.ext _ _ hb) hf cs₁ e fz h1;exact⟨cs₂,k1,k2.trans h2,fun i hi=>(k3 i hi).trans (h3 i hi)⟩
 ·rcases k.fresh b c hbc with h1|⟨h1,h2⟩
  ·exact h.fresh b c h1
  ·exact .inr ⟨Nat.le_trans h.size h1,h2⟩
 ·rcases Array.mem_append.1 he with h1|h1
  ·exact(h.evs e h1).mono k.ext
  ·exact k.evs e h1
def FP:Halt->Prop
 |.panic _|.stuck _=>True
 |.unsupported (.initOrder _)=>False
 |.unsupported _=>True
 |_=>False
def SR{α β:Type}(P:Program)(S:FuncId->Prop)(ro:Nat->Md)(ρ:Nat->Option Nat)(x:Sem α)(y:Sem β)(V:(Nat->Option Nat)->α->β->Prop):Prop:=
 ∀s w,HR P.globals.size S ro ρ s w->s.tape=w.tape->s.drawn=w.drawn->(∀b,s.heap.size<=b->ro b=.all)->(∀a s',x.run P s=.ok a s'->
  ∃ρ' b w',y.run P w=.ok b w'/\Mv P.globals.size S ro ρ s w ρ' s' w' (y.events P w #[])/\V ρ' a b)/\(∀h s',x.run P s=.halt h s'->FP h)/\∀a s',x.run P s=.ok a s'->Zv P x s a s'
section
variable{α β γ δ:Type}{P:Program}{S:FuncId->Prop}{ro:Nat->Md}{ρ:Nat->Option Nat}
theorem SR.bind{x:Sem α}{y:Sem β}{f:α->Sem γ}{g:β->Sem δ}{V:(Nat->Option Nat)->α->β->Prop}{W:(Nat->Option Nat)->γ->δ->Prop}
  (h:SR P S ro ρ x y V)(k:∀ρ' a b,Ext ρ ρ'->V ρ' a b->SR P S ro ρ' (f a) (g b) W):SR P S ro ρ (x>>=f) (y>>=g) W:=by
 intro s w hr ht hd hro;refine⟨?_,?_,?_⟩
 ·intro c s' hx;rw[Sem.run_bind]at hx;cases hxs:x.run P s with
  |halt _ _=>rw[hxs]at hx;cases hx
  |ok a s₁=>
   rw[hxs]at hx;obtain⟨dI,b,w₁,hy,hm,hv⟩:=(h s w hr ht hd hro).1 a s₁ hxs;obtain⟨fM,d,w₂,hg,hm₂,hw⟩:=(k dI a b hm.ext hv s₁ w₁ hm.hr hm.tape hm.drawn (fun b hb=>hro b (Nat.le_trans hm.ssize hb))).1 c s' hx;refine⟨fM,d,w₂,?_,?_,hw⟩
   ·rw[Sem.run_bind,hy];exact hg
   ·rw[Sem.events_bind,hy,Result.evThen_ok,Sem.events_acc];exact hm.trans hm₂
 ·intro c s' hx;rw[Sem.run_bind]at hx;cases hxs:x.run P s with
  |halt c' _=>
   rw[hxs]at hx;cases hx;exact(h s w hr ht hd hro).2.1 _ _ hxs
  |ok a s₁=>
   rw[hxs]at hx;obtain⟨dI,b,w₁,hy,hm,hv⟩:=(h s w hr ht hd hro).1 a s₁ hxs;exact(k dI a b hm.ext hv s₁ w₁ hm.hr hm.tape hm.drawn (fun b hb=>hro b (Nat.le_trans hm.ssize hb))).2.1 c s' hx
 ·intro c s' hx;rw[Sem.run_bind]at hx;cases hxs:x.run P s with
  |halt _ _=>rw[hxs]at hx;cases hx
  |ok a s₁=>
   rw[hxs]at hx;obtain⟨dI,b,w₁,hy,hm,hv⟩:=(h s w hr ht hd hro).1 a s₁ hxs;exact Zv.bind hxs hx ((h s w hr ht hd hro).2.2 a s₁ hxs) ((k dI a b hm.ext hv s₁ w₁ hm.hr hm.tape hm.drawn (fun b hb=>hro b (Nat.le_trans hm.ssize hb))).2.2 c s' hx)
theorem SR.pure{a:α}{b:β}{V:(Nat->Option Nat)->α->β->Prop}(h:V ρ a b):SR P S ro ρ (Pure.pure a) (Pure.pure b) V:=by
 intro s w hr ht hd hro;refine⟨fun c s' hx=>?_,fun _ _ hx=>(by cases hx),fun a s' hx=>iR _ (by exact trivial) s a s' hx⟩;cases hx;exact⟨ρ,b,w,rfl,Mv.refl hr ht hd,h⟩
def Never(P:Program)(x:Sem α):Prop:=∀s,∃h s',x.run P s=.halt h s'/\FP h
theorem SR.never{x:Sem α}{y:Sem β}{V:(Nat->Option Nat)->α->β->Prop}(h:Never P x):SR P S ro ρ x y V:=by
 intro s _ _ _ _ _;obtain⟨c,s',e,t⟩:=h s;exact⟨fun a s' hx=>(by rw[e]at hx;cases hx),fun c' s' hx=>(by rw[e]at hx;cases hx;exact t),fun a s' hx=>(by rw[e]at hx;cases hx)⟩
theorem Never.halt{h:Halt}(t:FP h):Never P (Sem.halt h:Sem α):=fun s=>⟨h,s,rfl,t⟩
theorem Never.stuck{m:String}:Never P (stuck m:Sem α):=Never.halt trivial
theorem Never.bind{x:Sem α}{f:α->Sem γ}(h:Never P x):Never P (x>>=f):=fun s=>by
 obtain⟨c,s',e,t⟩:=h s;exact⟨c,s',by rw[Sem.run_bind,e];rfl,t⟩
theorem Never.after{x:Sem α}{f:α->Sem γ}(hx:∀s h s',x.run P s=.halt h s'->FP h)(h:∀a,Never P (f a)):Never P (x>>=f):=fun s=>by
 cases e:x.run P s with
 |halt c s'=>exact⟨c,s',by rw[Sem.run_bind,e];rfl,hx s c s' e⟩
 |ok a s'=>
  obtain⟨c,s₂,e₂,t⟩:=h a s';exact⟨c,s₂,by rw[Sem.run_bind,e];exact e₂,t⟩
theorem SR.stuck{m:String}{y:Sem β}{V:(Nat->Option Nat)->α->β->Prop}:SR P S ro ρ (stuck m:Sem α) y V:=SR.never Never.stuck
theorem SR.halt{m:String}{y:Sem β}{V:(Nat->Option Nat)->α->β->Prop}:SR P S ro ρ (Sem.halt (.stuck m):Sem α) y V:=SR.never (Never.halt trivial)
theorem SR.unsupported{u:Unsupported}{y:Sem β}{V:(Nat->Option Nat)->α->β->Prop}(hu:FP (.unsupported u)):SR P S ro ρ (unsupported u:Sem α) y V:=SR.never (Never.halt hu)
theorem SR.mono{x:Sem α}{y:Sem β}{V W:(Nat->Option Nat)->α->β->Prop}(h:SR P S ro ρ x y V)(k:∀ρ' a b,Ext ρ ρ'->V ρ' a b->W ρ' a b):SR P S ro ρ x y W:=by
 intro s w hr ht hd hro;refine⟨fun c s' hx=>?_,(h s w hr ht hd hro).2⟩;obtain⟨dI,b,w₁,hy,hm,hv⟩:=(h s w hr ht hd hro).1 c s' hx;exact⟨dI,b,w₁,hy,hm,k _ _ _ hm.ext hv⟩
theorem SR.program:SR P S ro ρ program program fun _ a b=>a=b/\a=P:=by
 intro s w hr ht hd hro;refine⟨fun c s' hx=>?_,fun _ _ hx=>(by cases hx),fun a s' hx=>iR _ (by exact fun _=>trivial) s a s' hx⟩;cases hx;exact⟨ρ,P,w,rfl,Mv.refl hr ht hd,rfl,rfl⟩
end
end
section
section
variable{P:Program}{S:FuncId->Prop}{ro:Nat->Md}{ρ:Nat->Option Nat}
def qg(ρ:Nat->Option Nat)(b c:Nat):Nat->Option Nat:=fun x=>if x=b then some c else ρ x
theorem oL.mono{ρ ρ':Nat->Option Nat}(e:Ext ρ ρ'){a a':Addr}(h:oL ρ a a'):oL ρ' a a':=⟨e _ _ h.1,h.2⟩
theorem oL.add{a a':Addr}(h:oL ρ a a')(n:Nat):oL ρ (a.add n) (a'.add n):=by
 obtain⟨h1,h2,h3⟩:=h;unfold Addr.add;split
 ·exact⟨h1,h2,h3⟩
 ·exact⟨h1,by simp[h2],rfl⟩
theorem oL.ptr{a a':Addr}(h:oL ρ a a'):VR S ρ (.pointer (some a)) (.pointer (some a')):=by
 obtain⟨b,o,sp⟩:=a;obtain⟨b',o',sp'⟩:=a';obtain⟨h1,h2,h3⟩:=h;simp at h2 h3;subst h2 h3;exact .ptr o' sp' h1
theorem oL.slice{a a':Addr}(h:oL ρ a a')(l k:Nat):VR S ρ (.slice (some a) l k) (.slice (some a') l k):=by
 obtain⟨b,o,sp⟩:=a;obtain⟨b',o',sp'⟩:=a';obtain⟨h1,h2,h3⟩:=h;simp at h2 h3;subst h2 h3;exact .slice o' sp' l k h1
theorem OR.mono{ρ':Nat->Option Nat}(e:Ext ρ ρ'){r:Md}{o o':Obj}(h:OR S r ρ o o'):OR S r ρ' o o':=by
 cases h with
 |cells h3 h4 h5 h6=>exact .cells h3 (fun i v hv=>let⟨v',a,b⟩:=h4 i v hv;⟨v',a,b.mono e⟩) h5 h6
 |number h hro=>exact .number (h.mono e) hro
theorem OR.Y4{r:Md}{cs:Array Value}{e:TypeId}{fz:Nat×Nat}{o':Obj}(h:OR S r ρ (.cells cs e fz) o'):∃cs' fz',o'=.cells cs' e fz'/\fz=(0,r.hi cs.size)/\cs.size<=cs'.size/\
  (∀(i:Nat) (v:Value),cs[i]?=some v->∃v',cs'[i]?=some v'/\VR S ρ v v')/\(r.isRead=false->cs.size=cs'.size/\fz'=(0,0))/\(∀n,r=.read n->cs.size=n):=by
 cases h with
 |cells h3 h4 h5 h6=>exact⟨_,_,rfl,rfl,h3,h4,h5,h6⟩
theorem HR.cell{s w:World}(h:HR P.globals.size S ro ρ s w){a:Addr}{v:Value}(hv:s.cell? a=some v):∃c v',ρ a.block=some c/\w.cell? {a with block:=c}=some v'/\VR S ρ v v'/\a.spot=none/\(ro a.block).gets a.off:=by
 unfold World.cell? at hv;cases hb:ρ a.block with
 |none=>
  rcases h.hole _ hb with h1|⟨x,h1⟩<;>rw[h1]at hv<;>cases hv
 |some c=>
  obtain⟨o,o',h1,h2,h3⟩:=h.row _ _ hb;rw[h1]at hv;cases h3 with
  |number _ _=>cases hv
  |cells h3 h4 h5 h6=>
   simp only at hv;split at hv
   ·cases hv
   ·rename_i hsp;obtain⟨v',hv',hr⟩:=h4 _ _ hv;have bz2:a.spot=none:=by cases hh:a.spot with
     |none=>rfl
     |some x=>rw[hh]at hsp;simp at hsp
    refine⟨c,v',rfl,?_,hr,bz2,?_⟩
    ·unfold World.cell?;simp only[h2];rw[if_neg hsp];exact hv'
    ·have hlt:=(Array.getElem?_eq_some_iff.1 hv).1;cases hm:ro a.block with
     |read n=>show a.off<n;rw[<-h6 n hm];exact hlt
     |all=>trivial
     |part f=>trivial
theorem HR.UJ{s w:World}(h:HR P.globals.size S ro ρ s w){a:Addr}(p:Program)(b:Bool):∃e,s.farLoad p a b=.error e/\FP e:=by
 unfold World.farLoad World.noCell;cases hb:ρ a.block with
 |none=>
  rcases h.hole _ hb with h1|⟨x,h1⟩<;>rw[h1]<;>exact⟨_,rfl,trivial⟩
 |some c=>
  obtain⟨o,o',h1,h2,h3⟩:=h.row _ _ hb;rw[h1];cases h3<;>exact⟨_,rfl,trivial⟩
theorem HR.Ew{s w:World}(h:HR P.globals.size S ro ρ s w){a:Addr}(p:Program)(v:Value)(b:Bool):∃e,s.farStore p a v b=.error e/\FP e:=by
 unfold World.farStore World.noCell;cases hb:ρ a.block with
 |none=>
  rcases h.hole _ hb with h1|⟨x,h1⟩<;>rw[h1]<;>exact⟨_,rfl,trivial⟩
 |some c=>
  obtain⟨o,o',h1,h2,h3⟩:=h.row _ _ hb;rw[h1];cases h3<;>exact⟨_,rfl,trivial⟩
theorem SR.load{a a':Addr}(ha:oL ρ a a'\/ρ a.block=none):SR P S ro ρ (load a) (load a') fun ρ' v v'=>VR S ρ' v v':=by
 intro s w hr ht hd hro;refine and_assoc.1 ⟨?_,fun a s' hx=>iR _ (by exact fun _=>trivial) s a s' hx⟩;unfold Go.load;simp only[Sem.run];cases hc:s.cell? a with
 |none=>
  obtain⟨e,he,tm⟩:=hr.UJ (a:=a) P (Mode.plain== .atomic);refine⟨fun v s' hx=>?_,fun v s' hx=>?_⟩
  ·simp only[he]at hx;cases hx
  ·simp only[he]at hx;cases hx;exact tm
 |some u=>
  refine⟨fun v s' hx=>?_,fun v s' hx=>by cases hx⟩;cases hx;obtain⟨c,v',h1,h2,h3,aI1,hgt⟩:=hr.cell hc;have he:a'={a with block:=c}:=by
   rcases ha with⟨k1,k2,k3⟩|k
   ·rw[h1]at k1;cases k1;cases a;cases a';simp at k2 k3 ⊢;exact⟨k2,k3⟩
   ·rw[h1]at k;cases k
  have h2':w.cell? a'=some v':=by rw[he];exact h2
  refine⟨ρ,v',w,?_,?_,h3⟩
  ·simp only[h2']
  ·have:(Sem.load Mode.plain a' Sem.pure:Sem Value)=Go.load a':=rfl;rw[this,events_load];simp only[h2'];have:=Mv.refl hr ht hd;refine{this with evs:=fun e he'=>?_};simp at he';subst he';exact .inl ⟨a',a.block,false,rfl,by rw[he];exact h1,by simp,by rw[he];exact hgt,by rw[he];exact aI1⟩
theorem getElem?_modify_ne{α:Type}(xs:Array α)(i j:Nat)(f:α->α)(h:i≠j):(xs.modify i f)[j]?=xs[j]?:=by
 rw[Array.getElem?_modify];simp[h]
theorem HR.setCell{s w:World}(h:HR P.globals.size S ro ρ s w){a:Addr}{c:Nat}(hb:ρ a.block=some c)(hro:(ro a.block).isRead=false)(hsp:a.spot=none){cs:Array Value}{e:TypeId}{fz:Nat×Nat}(hs:s.heap[a.block]?=some (.cells cs e fz))
  {v v':Value}(hv:VR S ρ v v'):HR P.globals.size S ro ρ (s.setCell a v) (w.setCell {a with block:=c} v'):=by
 refine⟨h.inj,fun b d hbd=>?_,fun b hbn=>?_,h.low,by simpa [World.setCell]using h.gs,by simpa [World.setCell]using h.gw⟩
 ·obtain⟨o,o',h1,h2,h3⟩:=h.row b d hbd;by_cases hba:a.block=b
  ·subst hba;rw[hb]at hbd;cases hbd;rw[hs]at h1;cases h1;obtain⟨cs',fz',rfl,rfl,h3,h4,h5,h7⟩:=h3.Y4;obtain⟨h6,rfl⟩:=h5 hro;have A:AR S ρ cs cs':=⟨h6,fun i x y hx hy=>by obtain⟨z,hz,hr⟩:=h4 i x hx;rw[hz]at hy;cases hy;exact hr⟩;have key:OR S (ro a.block) ρ (.cells (cs.setIfInBounds a.off v) e (0,(ro a.block).hi (cs.setIfInBounds a.off v).size)) (.cells (cs'.setIfInBounds a.off v') e (0,0)):=
    .cells (by simp[h6]) (fun i u hu=>(A.set a.off hv).get hu) (fun _=>⟨by simp[h6],rfl⟩) fun n hn=>by simpa using h7 n hn
   refine⟨_,_,?_,?_,key⟩
   ·simp[World.setCell,Array.getElem?_modify,hs,hsp]
   ·simp[World.setCell,Array.getElem?_modify,h2,hsp]
  ·have hcd:c≠d:=fun e=>hba (h.inj _ _ _ hb (e ▸ hbd))
   refine⟨o,o',?_,?_,h3⟩
   ·rw[World.setCell];exact(getElem?_modify_ne _ _ _ _ hba).trans h1
   ·rw[World.setCell];exact(getElem?_modify_ne _ _ _ _ hcd).trans h2
 ·have hba:a.block≠b:=fun e=>by rw[e,hbn]at hb;cases hb
  rw[World.setCell];simp only[getElem?_modify_ne _ _ _ _ hba];exact h.hole b hbn
theorem SR.store{a a':Addr}(ha:oL ρ a a'\/ρ a.block=none){v v':Value}(hv:VR S ρ v v'):SR P S ro ρ (store a v) (store a' v') fun _ _ _=>True:=by
 intro s w hr ht hd hro;refine and_assoc.1 ⟨?_,fun a s' hx=>iR _ (by exact trivial) s a s' hx⟩;refine⟨fun u s' hx=>?_,fun u s' hx=>?_⟩
 case refine_2=>
  unfold Go.store at hx;cases hc:s.cell? a with
  |none=>
   obtain⟨e,he,tm⟩:=hr.Ew (a:=a) P v (Mode.plain== .atomic);cases v<;>simp only[Sem.run,hc,he]at hx<;>cases hx<;>first|exact tm|trivial
  |some z=>
   cases hf:s.frozen? a with
   |true=>cases v<;>simp only[Sem.run,hc,hf]at hx<;>cases hx<;>trivial
   |false=>cases v<;>simp only[Sem.run,hc,hf]at hx<;>cases hx<;>trivial
 have key:s.cell? a≠none/\s.frozen? a=false/\s'=s.setCell a v/\(∀x,v≠ .agg x)/\(∀x,v≠ .tuple x):=by
  unfold Go.store at hx;cases hc:s.cell? a with
  |none=>
   exfalso;obtain⟨e,he,-⟩:=hr.Ew (a:=a) P v (Mode.plain== .atomic);cases v<;>simp only[Sem.run,hc,he]at hx<;>cases hx
  |some z=>
   cases hf:s.frozen? a with
   |true=>exfalso;cases v<;>simp only[Sem.run,hc,hf]at hx<;>cases hx
   |false=>cases v<;>simp only[Sem.run,hc,hf]at hx<;>cases hx<;>exact⟨by simp,rfl,rfl,by simp,by simp⟩
 obtain⟨hc,hf,rfl,n1,n2⟩:=key;obtain⟨z,hz⟩:=Option.ne_none_iff_exists'.1 hc;obtain⟨c,v₀,h1,h2,h3,aI1,hgt⟩:=hr.cell hz;have he:a'={a with block:=c}:=by
  rcases ha with⟨k1,k2,k3⟩|k
  ·rw[h1]at k1;cases k1;cases a;cases a';simp at k2 k3 ⊢;exact⟨k2,k3⟩
  ·rw[h1]at k;cases k
 obtain⟨o,o',r1,r2,r0⟩:=hr.row _ _ h1;obtain⟨cs,cs',e,fz',rfl,rfl,r3,r4,r5⟩:∃cs cs' e fz',o=.cells cs e (0,(ro a.block).hi cs.size)/\o'=.cells cs' e fz'/\cs.size<=cs'.size/\(∀(i:Nat) (v:Value),cs[i]?=some v->∃v',cs'[i]?=some v'/\VR S ρ v v')/\((ro a.block).isRead=false->cs.size=cs'.size/\fz'=(0,0)):=by
  cases r0 with
  |cells h3 h4 h5 _=>exact⟨_,_,_,_,rfl,rfl,h3,h4,h5⟩
  |number _ _=>
   unfold World.cell? at hz;rw[r1]at hz;cases hz
 have hsp:a.spot=none:=by
  unfold World.cell? at hz;rw[r1]at hz;simp only at hz;cases hs:a.spot with
  |none=>rfl
  |some _=>simp[hs]at hz
 have hoff:a.off<cs.size:=by
  unfold World.cell? at hz;rw[r1]at hz;simp only[hsp]at hz;exact(Array.getElem?_eq_some_iff.1 (by simpa using hz)).1
 have hlets:(ro a.block).lets a.off:=by
  refine Md.ag5 (n:=cs.size) (fun h=>?_) hoff;unfold World.frozen? at hf;rw[r1]at hf;simp at hf;omega
 have hrb:(ro a.block).isRead=false:=by cases hm:ro a.block with
  |read n=>rw[hm]at hlets;exact hlets.elim
  |all=>rfl
  |part f=>rfl
 obtain⟨r6,rfl⟩:=r5 hrb;have hf':w.frozen? a'=false:=by rw[he];simp[World.frozen?,r2]
 have h2':w.cell? a'=some v₀:=by rw[he];exact h2
 have m1:(∀x,v'≠ .agg x)/\(∀x,v'≠ .tuple x):=by
  cases hv<;>first|exact absurd rfl (n1 _)|exact absurd rfl (n2 _)|exact⟨‹∀x,v'≠Value.agg x›,‹∀x,v'≠Value.tuple x›⟩|exact⟨by simp,by simp⟩
 have hone:v'.oneCell'=true:=by
  obtain⟨m1,m2⟩:=m1;cases v'<;>first|rfl|exact absurd rfl (m1 _)|exact absurd rfl (m2 _)
 have hrun:(Go.store a' v').run P w=.ok () (w.setCell a' v'):=by
  obtain⟨m1,m2⟩:=m1;unfold Go.store;cases v'<;>first|exact absurd rfl (m1 _)|exact absurd rfl (m2 _)|(simp only[Sem.run,h2',hf'];rfl)
 refine⟨ρ,(),w.setCell a' v',hrun,?_,trivial⟩;rw[events_store _ _ _ a' v' .plain hone];simp only[h2',hf'];refine⟨.refl _,by rw[he];exact hr.setCell h1 hrb hsp r1 hv,ht,hd,rfl,rfl,rfl,by simp[World.setCell],fun d hd' hb=>?_,fun b d f hb bf3 ds de dz hds=>?_,fun _ _ h=>.inl h,fun e he'=>?_,by simp[World.setCell],rfl,rfl,fun k1 k2=>⟨by simpa [World.setCell]using k1,k2⟩⟩
 ·have hcd:a'.block≠d:=fun e=>by
   have:=hb a.block (by rw[<-e,he];exact h1);rw[hrb]at this;cases this
  rw[World.setCell];exact getElem?_modify_ne _ _ _ _ hcd
 ·by_cases hcd:a'.block=d
  ·have hba:b=a.block:=hr.inj _ _ _ hb (by rw[<-hcd,he];exact h1);subst hba;rw[bf3]at hlets;refine⟨ds.setIfInBounds a'.off v',?_,by simp,fun i hi=>?_⟩
   ·have hsp':a'.spot=none:=by rw[he];exact hsp
    subst hcd;simp[World.setCell,Array.getElem?_modify,hds,hsp']
   ·have:a'.off≠i:=by rw[he];simp only[Md.lets]at hlets;show a.off≠i;omega
    rw[Array.getElem?_setIfInBounds_ne this]
  ·refine⟨ds,?_,rfl,fun _ _=>rfl⟩;rw[World.setCell];exact(getElem?_modify_ne _ _ _ _ hcd).trans hds
 ·simp at he';subst he';exact .inl ⟨a',a.block,true,rfl,by rw[he];exact h1,fun _=>(by rw[he];exact hlets),by rw[he];exact hgt,by rw[he];exact aI1⟩
theorem HR.push{s w:World}(hr:HR P.globals.size S ro ρ s w)(hro:∀b,s.heap.size<=b->ro b=.all){o o':Obj}(ho:∀ρ',Ext ρ ρ'->OR S .all ρ' o o'):
  Ext ρ (qg ρ s.heap.size w.heap.size)/\HR P.globals.size S ro (qg ρ s.heap.size w.heap.size) {s with heap:=s.heap.push o} {w with heap:=w.heap.push o'}:=by
 have hlt:∀b c,ρ b=some c->b<s.heap.size/\c<w.heap.size:=fun b c hb=>by
  obtain⟨x,_,h1,h2,_⟩:=hr.row _ _ hb;exact⟨(Array.getElem?_eq_some_iff.1 h1).1,(Array.getElem?_eq_some_iff.1 h2).1⟩
 have hext:Ext ρ (qg ρ s.heap.size w.heap.size):=fun b c hb=>by
  unfold qg;rw[if_neg (by have:=(hlt b c hb).1;omega)];exact hb
 refine⟨hext,⟨fun b b' c hb hb'=>?_,fun b c hb=>?_,fun b hb=>?_,fun b c hb=>?_,?_,?_⟩⟩
 ·unfold qg at hb hb';split at hb<;>split at hb'
  ·omega
  ·cases hb;have:=(hlt _ _ hb').2;omega
  ·cases hb';have:=(hlt _ _ hb).2;omega
  ·exact hr.inj _ _ _ hb hb'
 ·unfold qg at hb;split at hb
  ·rename_i hbs;cases hb;subst hbs;refine⟨o,o',by simp,by simp,?_⟩;rw[hro _ (Nat.le_refl _)];exact ho _ hext
  ·obtain⟨x,x',h1,h2,h3⟩:=hr.row _ _ hb;have hl:=hlt b c hb;refine⟨x,x',?_,?_,?_⟩
   ·simp only[Array.getElem?_push];rw[if_neg (by omega)];exact h1
   ·simp only[Array.getElem?_push];rw[if_neg (by omega)];exact h2
   ·exact h3.mono hext
 ·unfold qg at hb;split at hb
  ·cases hb
  ·rename_i hne;simp only[Array.getElem?_push];rw[if_neg hne];exact hr.hole b hb
 ·unfold qg at hb;split at hb
  ·rename_i hbs;cases hb;subst hbs;exact⟨hr.gs,hr.gw⟩
  ·exact hr.low _ _ hb
 ·simp;exact Nat.le_succ_of_le hr.gs
 ·simp;exact Nat.le_succ_of_le hr.gw
theorem Mv.push{s w:World}(hr:HR P.globals.size S ro ρ s w)(ht:s.tape=w.tape)(hd:s.drawn=w.drawn)(hro:∀b,s.heap.size<=b->ro b=.all){o o':Obj}(ho:∀ρ',Ext ρ ρ'->OR S .all ρ' o o'):
  Mv P.globals.size S ro ρ s w (qg ρ s.heap.size w.heap.size) {s with heap:=s.heap.push o} {w with heap:=w.heap.push o'} #[]:=by
 obtain⟨h1,h2⟩:=hr.push hro ho;refine⟨h1,h2,ht,hd,rfl,rfl,rfl,by simp,fun c hc _=>?_,fun b c f hb _ cs e fz hc=>?_,fun b c hb=>?_,by simp,by simp,rfl,rfl,fun k1 k2=>⟨by simpa using k1,fun b c hb=>?_⟩⟩
 ·simp only[Array.getElem?_push];rw[if_neg (by omega)]
 ·refine⟨cs,?_,rfl,fun _ _=>rfl⟩;have hlt:=(Array.getElem?_eq_some_iff.1 hc).1;simp only[Array.getElem?_push];rw[if_neg (by omega)];exact hc
 ·unfold qg at hb;split at hb
  ·rename_i hbs;cases hb;subst hbs;exact .inr ⟨Nat.le_refl _,hro _ (Nat.le_refl _)⟩
  ·exact .inl hb
 ·unfold qg at hb;split at hb
  ·rename_i hbs;cases hb;subst hbs;exact k1.symm
  ·exact k2 b c hb
theorem SR.newRow{e:TypeId}{cs cs':Array Value}(h:AR S ρ cs cs'):SR P S ro ρ (newRow e cs) (newRow e cs') fun ρ' a a'=>oL ρ' a a':=by
 intro s w hr ht hd hro;refine and_assoc.1 ⟨?_,fun a s' hx=>iR _ (by exact mF.bind (by exact fun _=>trivial) (by exact fun _=>trivial)) s a s' hx⟩;refine⟨fun a s' hx=>?_,fun _ _ hx=>by simp only[Go.newRow,newObj,Sem.run_bind]at hx;cases hx⟩;have hx':a=⟨s.heap.size,0,none⟩/\s'={s with heap:=s.heap.push (.cells cs e)}:=by
  simp only[Go.newRow,newObj,Sem.run_bind]at hx;cases hx;exact⟨rfl,rfl⟩
 obtain⟨rfl,rfl⟩:=hx';exact⟨qg ρ s.heap.size w.heap.size,⟨w.heap.size,0,none⟩,{w with heap:=w.heap.push (.cells cs' e)},rfl,
  Mv.push hr ht hd hro fun _ he=>.cells (ro:=.all) (by rw[h.size];exact Nat.le_refl _) (fun i v hv=>(h.mono he).get hv) (fun _=>⟨h.size,rfl⟩) (fun _ e=>by cases e),⟨by simp[qg],rfl,rfl⟩⟩
theorem SR.UU{a a':Addr}{lost:Bool}(h:oL ρ a a'):SR P S ro ρ (asNumber a lost) (asNumber a' lost) fun ρ' v v'=>VR S ρ' v v':=by
 intro s w hr ht hd hro;refine and_assoc.1 ⟨?_,fun a s' hx=>iR _ (by exact mF.bind (by exact fun _=>trivial) (by exact fun _=>trivial)) s a s' hx⟩;refine⟨fun v s' hx=>?_,fun _ _ hx=>by simp only[asNumber,newObj,Sem.run_bind]at hx;cases hx⟩;have hx':v=.pointer (some ⟨s.heap.size,0,none⟩)/\s'={s with heap:=s.heap.push (.number a lost)}:=by
  simp only[asNumber,newObj,Sem.run_bind]at hx;cases hx;exact⟨rfl,rfl⟩
 obtain⟨rfl,rfl⟩:=hx';exact⟨qg ρ s.heap.size w.heap.size,.pointer (some ⟨w.heap.size,0,none⟩),{w with heap:=w.heap.push (.number a' lost)},rfl,
  Mv.push hr ht hd hro fun _ he=>.number (h.mono he) rfl,.ptr 0 none (by simp[qg])⟩
theorem SR.choose{q:Question}:SR P S ro ρ (choose q) (choose q) fun _ a b=>a=b:=by
 intro s w hr ht hd hro;refine and_assoc.1 ⟨?_,fun a s' hx=>iR _ (by exact fun _=>trivial) s a s' hx⟩;refine⟨fun a s' hx=>?_,fun _ _ hx=>by simp only[Go.choose,Sem.run]at hx;split at hx<;>cases hx⟩;simp only[Go.choose,Sem.run]at hx;split at hx
 ·rename_i hq;cases hx;refine⟨ρ,0,w,by simp[Go.choose,Sem.run,hq],?_,rfl⟩;rw[events_choose];exact Mv.refl hr ht hd
 ·rename_i hq;cases hx;refine⟨ρ,q.cut (w.tape w.drawn q),{w with drawn:=w.drawn+1},by simp[Go.choose,Sem.run,hq],?_,by rw[ht,hd]⟩;rw[events_choose];exact⟨.refl _,⟨hr.inj,hr.row,hr.hole,hr.low,hr.gs,hr.gw⟩,ht,by simp[hd],rfl,rfl,rfl,Nat.le_refl _,fun _ _ _=>rfl,fun _ _ _ _ _ cs _ _ hc=>⟨cs,hc,rfl,fun _ _=>rfl⟩,fun _ _ h=>.inl h,by simp,Nat.le_refl _,rfl,rfl,fun a b=>⟨a,b⟩⟩
theorem SR.mark{m:Mark}(hm:m=.noRoom):SR P S ro ρ (mark m) (mark m) fun _ _ _=>True:=by
 subst hm;intro s w hr ht hd hro;refine and_assoc.1 ⟨?_,fun a s' hx=>iR _ (by exact trivial) s a s' hx⟩;refine⟨fun a s' hx=>?_,fun _ _ hx=>by cases hx⟩;cases hx;refine⟨ρ,(),w,rfl,?_,trivial⟩;rw[events_mark];exact{Mv.refl hr ht hd with evs:=fun e he=>by simp at he;subst he;exact .inr (.inl rfl)}
theorem SR.shape{r r':Nat}(h:ρ r=some r'):SR P S ro ρ (shape r) (shape r') fun ρ' a b=>(∃e n n',a=some (e,n)/\b=some (e,n')/\n<=n')\/(a=none/\b=none):=by
 intro s w hr ht hd hro;refine and_assoc.1 ⟨?_,fun a s' hx=>iR _ (by exact fun _=>trivial) s a s' hx⟩;refine⟨fun a s' hx=>?_,fun _ _ hx=>by cases hx⟩;cases hx;refine⟨ρ,w.shape? r',w,rfl,Mv.refl hr ht hd,?_⟩;obtain⟨o,o',h1,h2,h3⟩:=hr.row _ _ h;unfold World.shape?;rw[h1,h2];cases h3 with
 |cells h3 h4 h5 _=>exact .inl ⟨_,_,_,rfl,rfl,h3⟩
 |number h _=>exact .inr ⟨rfl,rfl⟩
theorem SR.getObj{r r':Nat}(h:ρ r=some r'):SR P S ro ρ (getObj r) (getObj r') fun ρ' a b=>∃x x' l,a=.number x l/\b=.number x' l/\oL ρ' x x':=by
 intro s w hr ht hd hro;refine and_assoc.1 ⟨?_,fun a s' hx=>iR _ (by exact fun _=>trivial) s a s' hx⟩;obtain⟨o,o',h1,h2,h3⟩:=hr.row _ _ h;cases h3 with
 |cells h3 h4 h5 _=>exact⟨fun a s' hx=>(by simp only[Go.getObj,Sem.run,h1]at hx;cases hx),fun _ _ hx=>by simp only[Go.getObj,Sem.run,h1]at hx;cases hx;trivial⟩
 |number h hall=>
  refine⟨fun a s' hx=>?_,fun _ _ hx=>by simp only[Go.getObj,Sem.run,h1]at hx;cases hx⟩;simp only[Go.getObj,Sem.run,h1]at hx;cases hx;refine⟨ρ,_,w,by simp only[Go.getObj,Sem.run,h2],?_,_,_,_,rfl,rfl,h⟩;have hev:(Go.getObj r').events P w #[]=#[⟨.obj r',false,false⟩]:=by simp only[Go.getObj,Sem.events,Sem.runT,h2,Obj.isChan];rfl
  rw[hev];exact{Mv.refl hr ht hd with evs:=fun e he=>by simp at he;subst he;exact .inr (.inr ⟨r',r,rfl,by assumption,hall⟩)}
theorem SR.viewAt{r r':Nat}(h:ρ r=some r'):SR P S ro ρ (viewAt r) (viewAt r') fun _ a b=>a=none/\b=none:=by
 unfold Go.viewAt;refine SR.bind (SR.shape h) fun ρ' a b he hab=>?_
 rcases hab with⟨e,n,n',rfl,rfl,_⟩|⟨rfl,rfl⟩
 ·exact SR.pure ⟨rfl,rfl⟩
 ·refine SR.bind (SR.getObj (he _ _ h)) fun fM o o' _ ho=>?_
  obtain⟨x,x',l,rfl,rfl,_⟩:=ho;exact SR.pure ⟨rfl,rfl⟩
theorem SR.numberAt{r r':Nat}(h:ρ r=some r'):SR P S ro ρ (numberAt r) (numberAt r') fun ρ' a b=>(a=none/\b=none)\/∃x x' l,a=some (x,l)/\b=some (x',l)/\oL ρ' x x':=by
 unfold Go.numberAt;refine SR.bind (SR.shape h) fun ρ' a b he hab=>?_
 rcases hab with⟨e,n,n',rfl,rfl,_⟩|⟨rfl,rfl⟩
 ·exact SR.pure (.inl ⟨rfl,rfl⟩)
 ·refine SR.bind (SR.getObj (he _ _ h)) fun fM o o' _ ho=>?_
  obtain⟨x,x',l,rfl,rfl,hx⟩:=ho;exact SR.pure (.inr ⟨x,x',l,rfl,rfl,hx⟩)
theorem SR.behindNumber{n n':Addr}(h:oL ρ n n'):SR P S ro ρ (behindNumber n) (behindNumber n') fun ρ' a b=>oL ρ' a.1 b.1/\a.2=b.2:=by
 unfold Go.behindNumber;refine SR.bind (SR.numberAt h.1) fun ρ' a b he hab=>?_
 rcases hab with⟨rfl,rfl⟩|⟨x,x',l,rfl,rfl,hx⟩
 ·exact SR.pure ⟨h.mono he,rfl⟩
 ·exact SR.pure ⟨hx,rfl⟩
theorem SR.noView{a a':Addr}(h:oL ρ a a'):SR P S ro ρ (noView a) (noView a') fun _ _ _=>True:=by
 unfold Go.noView;refine SR.bind (SR.viewAt h.1) fun ρ' a b he hab=>?_
 obtain⟨rfl,rfl⟩:=hab;exact SR.pure trivial
theorem SR.byteOf{a a':Addr}(h:oL ρ a a'):SR P S ro ρ (byteOf a) (byteOf a') fun _ x y=>x=y:=by
 unfold Go.byteOf;rw[h.2.2];cases a.spot with
 |some s=>exact SR.pure rfl
 |none=>
  refine SR.bind SR.program fun ρ' p p' he hp=>?_
  obtain⟨rfl,rfl⟩:=hp;refine SR.bind (SR.noView (h.mono he)) fun fM _ _ he₂ _=>?_
  refine SR.bind (SR.shape ((h.mono he).mono he₂).1) fun iK x y fJ hxy=>?_
  rcases hxy with⟨e,n,n',rfl,rfl,_⟩|⟨rfl,rfl⟩
  ·simp only[h.2.1];split
   ·exact SR.pure rfl
   ·split
    ·exact SR.pure rfl
    ·exact SR.stuck
  ·exact SR.stuck
theorem SR.typeInfo(t:TypeId):SR P S ro ρ (typeInfo t) (typeInfo t) fun _ a b=>a=b/\P.info? t=some a:=by
 intro s w hr ht hd hro;refine and_assoc.1 ⟨?_,fun a s' hx=>iR _ (by exact mF.bind (by exact fun _=>trivial) fun _=>(by split<;>exact trivial)) s a s' hx⟩;cases hi:P.info? t with
 |none=>exact⟨fun a s' hx=>(by simp only[Go.typeInfo,Sem.run_bind,run_program,Result.andThen,hi]at hx;cases hx),fun _ _ hx=>by simp only[Go.typeInfo,Sem.run_bind,run_program,Result.andThen,hi]at hx;cases hx;trivial⟩
 |some i=>
  refine⟨fun a s' hx=>?_,fun _ _ hx=>by simp only[Go.typeInfo,Sem.run_bind,run_program,Result.andThen,hi]at hx;cases hx⟩;simp only[Go.typeInfo,Sem.run_bind,run_program,Result.andThen,hi]at hx;cases hx;refine⟨ρ,_,w,?_,?_,rfl,rfl⟩
  ·simp only[Go.typeInfo,Sem.run_bind,run_program,Result.andThen,hi];rfl
  ·rw[events_typeInfo];exact Mv.refl hr ht hd
theorem SR.underlying(t:TypeId):SR P S ro ρ (underlying t) (underlying t) fun _ a b=>a=b/\P.underlying t=some a:=by
 intro s w hr ht hd hro;refine and_assoc.1 ⟨?_,fun a s' hx=>iR _ (by exact mF.bind (by exact fun _=>trivial) fun _=>(by split<;>exact trivial)) s a s' hx⟩;cases hi:P.underlying t with
 |none=>exact⟨fun a s' hx=>(by simp only[Go.underlying,Sem.run_bind,run_program,Result.andThen,hi]at hx;cases hx),fun _ _ hx=>by simp only[Go.underlying,Sem.run_bind,run_program,Result.andThen,hi]at hx;cases hx;trivial⟩
 |some i=>
  refine⟨fun a s' hx=>?_,fun _ _ hx=>by simp only[Go.underlying,Sem.run_bind,run_program,Result.andThen,hi]at hx;cases hx⟩;simp only[Go.underlying,Sem.run_bind,run_program,Result.andThen,hi]at hx;cases hx;refine⟨ρ,_,w,?_,?_,rfl,rfl⟩
  ·simp only[Go.underlying,Sem.run_bind,run_program,Result.andThen,hi];rfl
  ·rw[events_underlying];exact Mv.refl hr ht hd
theorem SR.sizeOf(t:TypeId):SR P S ro ρ (sizeOf t) (sizeOf t) fun _ a b=>a=b:=by
 unfold Go.sizeOf;exact SR.bind (SR.typeInfo t) fun _ a b _ h=>by obtain⟨rfl,_⟩:=h;exact SR.pure rfl
theorem SR.isAgg(t:TypeId):SR P S ro ρ (isAgg t) (isAgg t) fun _ a b=>a=b:=by
 unfold Go.isAgg;refine SR.bind (SR.underlying t) fun _ a b _ h=>?_
 obtain⟨rfl,_⟩:=h;split<;>exact SR.pure rfl
def Bz(P:Program)(S:FuncId->Prop)(t:TypeId):Prop:=∀i v,P.info? t=some i->i.zero=some v->∀ρ,VR S ρ v v
theorem SR.zeroValue{t:TypeId}(hz:Bz P S t):SR P S ro ρ (zeroValue t) (zeroValue t) fun ρ' a b=>VR S ρ' a b:=by
 unfold Go.zeroValue;refine SR.bind (SR.typeInfo t) fun ρ' a b _ h=>?_
 obtain⟨rfl,hi⟩:=h;split
 ·rename_i v hv;exact SR.pure (hz _ _ hi hv ρ')
 ·exact SR.unsupported trivial
end
end
section
section
variable{P:Program}{S:FuncId->Prop}{ro:Nat->Md}{ρ:Nat->Option Nat}{v v' u u':Value}
def Calm{α:Type}(P:Program)(x:Sem α):Prop:=∀s h s',x.run P s=.halt h s'->FP h
theorem Calm.bind{α β:Type}{x:Sem α}{f:α->Sem β}(h:Calm P x)(k:∀a,Calm P (f a)):Calm P (x>>=f):=fun s c s' e=>by
 rw[Sem.run_bind]at e;cases h1:x.run P s with
 |halt c' s₁=>rw[h1]at e;cases e;exact h s _ _ h1
 |ok a s₁=>rw[h1]at e;exact k a _ _ _ e
theorem Calm.pure{α:Type}(a:α):Calm P (Pure.pure a:Sem α):=fun s h s' e=>by cases e
theorem Calm.underlying(t:TypeId):Calm P (Go.underlying t):=fun s h s' e=>by
 cases hi:P.underlying t<;>(simp only[Go.underlying,Sem.run_bind,run_program,Result.andThen,hi]at e;cases e)
 trivial
theorem Calm.elemOf(t:TypeId):Calm P (Go.elemOf t):=by
 unfold Go.elemOf;exact Calm.bind (Calm.underlying t) fun d=>by
  split
  ·exact Calm.pure _
  ·intro s h s' e;cases e;trivial
theorem Calm.choose(q:Question):Calm P (Go.choose q):=fun s h s' e=>by simp only[Go.choose,Sem.run]at e;split at e<;>cases e
theorem Calm.newVar(t:TypeId)(v:Value):Calm P (Go.newVar t v):=fun s h s' e=>by
 simp only[Go.newVar,Go.newRow,newObj,Sem.run_bind]at e;cases e
theorem Calm.program:Calm P program:=fun s h s' e=>by cases e
theorem Never.goPanic{α:Type}(v:Value):Never P (goPanic v:Sem α):=Never.halt trivial
theorem Never.panic{α:Type}(e:RuntimeError):Never P (runtimePanic e:Sem α):=by
 unfold runtimePanic;refine Never.after (fun s h s' e=>Calm.program s h s' e) fun p=>?_
 cases e<;>first
  |exact Never.goPanic _
  |exact Never.after (fun s h s' e=>Calm.elemOf _ s h s' e) fun _=>Never.after (fun s h s' e=>Calm.newVar _ _ s h s' e) fun _=>Never.goPanic _
theorem Never.bounds{α:Type}{k:IntKind}{x y:Int}{c:BoundsCode}:Never P (boundsPanic k x y c:Sem α):=by
 unfold boundsPanic;dsimp only;split
 ·refine Never.after (fun s h s' e=>?_) fun _=>Never.panic _
  exact(Calm.bind (Calm.choose _) fun a=>Calm.pure (a==1)) s h s' e
 ·exact Never.after (fun s h s' e=>Calm.pure _ s h s' e) fun _=>Never.panic _
theorem SR.panic{α β:Type}{e:RuntimeError}{y:Sem β}{V:(Nat->Option Nat)->α->β->Prop}:SR P S ro ρ (runtimePanic e:Sem α) y V:=SR.never (Never.panic e)
theorem SR.bounds{α β:Type}{k:IntKind}{x y:Int}{c:BoundsCode}{z:Sem β}{V:(Nat->Option Nat)->α->β->Prop}:SR P S ro ρ (boundsPanic k x y c:Sem α) z V:=SR.never Never.bounds
theorem SR.Ap{α β γ:Type}{m:String}{f:α->Sem β}{y:Sem γ}{V:(Nat->Option Nat)->β->γ->Prop}:SR P S ro ρ ((Go.stuck m:Sem α)>>=f) y V:=SR.never Never.stuck.bind
theorem SR.oM{α β γ:Type}{m:Unsupported}{f:α->Sem β}{y:Sem γ}{V:(Nat->Option Nat)->β->γ->Prop}(hm:FP (.unsupported m)):SR P S ro ρ ((Go.unsupported m:Sem α)>>=f) y V:=SR.never (Never.bind (Never.halt hm))
theorem SR.oN{α β γ:Type}{e:RuntimeError}{f:α->Sem β}{y:Sem γ}{V:(Nat->Option Nat)->β->γ->Prop}:SR P S ro ρ ((runtimePanic e:Sem α)>>=f) y V:=SR.never (Never.panic e).bind
theorem SR.asIntOf(h:VR S ρ v v'):SR P S ro ρ (asIntOf v) (asIntOf v') fun _ a b=>a=b:=by
 cases h<;>first|exact SR.pure rfl|exact SR.halt|exact SR.unsupported trivial
theorem SR.asInt(h:VR S ρ v v'):SR P S ro ρ (asInt v) (asInt v') fun _ a b=>a=b:=by
 unfold Go.asInt;exact SR.bind (SR.asIntOf h) fun _ a b _ e=>by subst e;exact SR.pure rfl
theorem SR.asBool(h:VR S ρ v v'):SR P S ro ρ (asBool v) (asBool v') fun _ a b=>a=b:=by
 cases h<;>first|exact SR.pure rfl|exact SR.halt
theorem SR.asAgg(h:VR S ρ v v'):SR P S ro ρ (asAgg v) (asAgg v') fun ρ' a b=>AR S ρ' a b:=by
 cases h<;>first|exact SR.pure ⟨by assumption,by assumption⟩|exact SR.halt
theorem SR.sureAddr(h:VR S ρ v v'):SR P S ro ρ (Instr.sureAddr v) (Instr.sureAddr v') fun ρ' a b=>oL ρ' a b:=by
 cases h with
 |ptr off sp h=>exact SR.pure ⟨h,rfl,rfl⟩
 |_=>exact SR.halt
theorem SR.asAddr(h:VR S ρ v v'):SR P S ro ρ (asAddr v) (asAddr v') fun ρ' a b=>oL ρ' a b:=by
 cases h with
 |ptr off sp h=>exact SR.pure ⟨h,rfl,rfl⟩
 |nilPtr=>show SR P S ro ρ (runtimePanic .nilDeref:Sem Addr) _ _;exact SR.panic
 |_=>exact SR.halt
theorem SR.loadCellsFrom{a a':Addr}:∀(n i:Nat) {ρ:Nat->Option Nat} {acc acc':Array Value},oL ρ a a'->AR S ρ acc acc'->SR P S ro ρ (loadCellsFrom a i n acc) (loadCellsFrom a' i n acc') fun ρ' x y=>AR S ρ' x y
 |0,_,_,_,_,_,h=>SR.pure h
 |n+1,i,ρ,acc,acc',ha,h=>by
  unfold Go.loadCellsFrom;exact SR.bind (SR.load (.inl (ha.add i))) fun ρ' x y he hxy=>SR.loadCellsFrom n (i+1) (ha.mono he) ((h.mono he).push hxy)
theorem SR.loadCells{a a':Addr}(ha:oL ρ a a')(n:Nat):SR P S ro ρ (loadCells a n) (loadCells a' n) fun ρ' x y=>AR S ρ' x y:=SR.loadCellsFrom n 0 ha AR.empty
theorem SR.storeCells{a a':Addr}:∀(l l':List Value) (i:Nat) {ρ:Nat->Option Nat},oL ρ a a'->AR S ρ l.toArray l'.toArray->SR P S ro ρ (storeCells a l i) (storeCells a' l' i) fun _ _ _=>True
 |[],[],_,_,_,_=>SR.pure trivial
 |[],_::_,_,_,_,h=>by have:=h.size;simp at this
 |_::_,[],_,_,_,h=>by have:=h.size;simp at this
 |v::l,v'::l',i,ρ,ha,h=>by
  unfold Go.storeCells;have hv:VR S ρ v v':=h.at_ 0 v v' (by simp) (by simp);have hl:AR S ρ l.toArray l'.toArray:=⟨by have:=h.size;simpa using this,fun j x y hx hy=>h.at_ (j+1) x y (by simpa using hx) (by simpa using hy)⟩;exact SR.bind (SR.store (.inl (ha.add i)) hv) fun ρ' _ _ he _=>SR.storeCells l l' (i+1) (ha.mono he) (hl.mono he)
theorem SR.loadVar{a a':Addr}(t:TypeId)(ha:oL ρ a a'):SR P S ro ρ (loadVar t a) (loadVar t a') fun ρ' x y=>VR S ρ' x y:=by
 unfold Go.loadVar;refine SR.bind (SR.isAgg t) fun ρ' x y he e=>?_
 subst e;split
 ·refine SR.bind (SR.sizeOf t) fun fM n m he₂ e=>?_
  subst e;exact SR.bind (SR.loadCells ((ha.mono he).mono he₂) n) fun _ _ _ _ h=>SR.pure (VR.agg' h)
 ·exact SR.load (.inl (ha.mono he))
theorem SR.storeVar{a a':Addr}(t:TypeId)(ha:oL ρ a a')(hv:VR S ρ v v'):SR P S ro ρ (storeVar t a v) (storeVar t a' v') fun _ _ _=>True:=by
 unfold Go.storeVar;refine SR.bind (SR.sizeOf t) fun ρ' n m he e=>?_
 subst e;have hc:=hv.cells;rw[hc.size];split
 ·exact SR.Ap
 ·exact SR.storeCells _ _ 0 ((ha.mono he).mono (.refl _)) (by show AR S _ v.cells.toList.toArray v'.cells.toList.toArray;rw[Array.toArray_toList,Array.toArray_toList];exact(hc.mono he))
theorem SR.part{t:TypeId}{cs cs':Array Value}(h:AR S ρ cs cs')(off:Nat):SR P S ro ρ (part t cs off) (part t cs' off) fun ρ' x y=>VR S ρ' x y:=by
 unfold Go.part;refine SR.bind (SR.isAgg t) fun ρ' x y he e=>?_
 subst e;split
 ·refine SR.bind (SR.sizeOf t) fun fM n m he₂ e=>?_
  subst e;exact SR.pure (VR.agg' (((h.mono he).mono he₂).extract _ _))
 ·cases hc:cs[off]? with
  |none=>exact SR.stuck
  |some v=>
   obtain⟨v',hv',hr⟩:=h.get hc;simp only[hv'];exact SR.pure (hr.mono he)
theorem SR.alloc{t:TypeId}(hz:Bz P S t):SR P S ro ρ (Instr.alloc t true (.tuple #[])) (Instr.alloc t true (.tuple #[])) fun ρ' x y=>VR S ρ' x y:=by
 unfold Instr.alloc;refine SR.bind (SR.zeroValue hz) fun ρ' x y he h=>?_
 exact SR.bind (SR.newRow h.cells) fun fM a b _ h=>SR.pure (oL.ptr h)
theorem SR.box{t:TypeId}(h:VR S ρ v v'):SR P S ro ρ (Instr.box t v) (Instr.box t v') fun ρ' x y=>VR S ρ' x y:=by
 unfold Instr.box;exact SR.bind (SR.newRow h.cells) fun fM a b _ h=>SR.pure (oL.ptr h)
theorem foldl_set{cs cs':Array Value}{off:Nat}:∀(l:List (Value×Nat)) (l':List (Value×Nat)),l.length=l'.length->(∀(i:Nat) (x y:Value×Nat),l[i]?=some x->l'[i]?=some y->VR S ρ x.1 y.1/\x.2=y.2)->AR S ρ cs cs'->
  AR S ρ (l.foldl (fun cs x=>cs.setIfInBounds (off+x.2) x.1) cs) (l'.foldl (fun cs x=>cs.setIfInBounds (off+x.2) x.1) cs')
 |[],[],_,_,h=>h
 |[],_::_,e,_,_=>by simp at e
 |_::_,[],e,_,_=>by simp at e
 |x::l,y::l',e,hl,h=>by
  obtain⟨h1,h2⟩:=hl 0 x y rfl rfl;simp only[List.foldl_cons];refine foldl_set l l' (by simpa using e) (fun i a b ha hb=>hl (i+1) a b ha hb) ?_;rw[h2];exact h.set _ h1
def yP(S:FuncId->Prop)(ρ:Nat->Option Nat)(l l':List (Nat×Value)):Prop:=l.length=l'.length/\∀(i:Nat) (x y:Nat×Value),l[i]?=some x->l'[i]?=some y->x.1=y.1/\VR S ρ x.2 y.2
theorem yP.mono{ρ':Nat->Option Nat}(e:Ext ρ ρ'){l l':List (Nat×Value)}(h:yP S ρ l l'):yP S ρ' l l':=⟨h.1,fun i x y hx hy=>⟨(h.2 i x y hx hy).1,(h.2 i x y hx hy).2.mono e⟩⟩
theorem zV(place:Nat->Option (Nat×Nat)):∀(l l':List (Nat×Value)) (cs cs':Array Value),yP S ρ l l'->AR S ρ cs cs'->∀r,Instr.fill place cs l=some r->∃r',Instr.fill place cs' l'=some r'/\AR S ρ r r'
 |[],[],cs,cs',_,h,r,hr=>by
  simp only[Instr.fill]at hr;cases hr;exact⟨cs',rfl,h⟩
 |[],_::_,_,_,e,_,_,_=>by have:=e.1;simp at this
 |_::_,[],_,_,e,_,_,_=>by have:=e.1;simp at this
 |(i,v)::l,(i',v')::l',cs,cs',e,h,r,hr=>by
  obtain⟨h1,h2⟩:=e.2 0 _ _ rfl rfl;simp only at h1 h2;subst h1;unfold Instr.fill at hr ⊢;cases hp:place i with
  |none=>rw[hp]at hr;cases hr
  |some q=>
   obtain⟨off,size⟩:=q;rw[hp]at hr;simp only at hr ⊢;rw[<-h2.cells.size,<-h.size];split at hr
   ·cases hr
   ·rename_i hc;rw[if_neg hc];refine zV place l l' _ _ ⟨by have:=e.1;simpa using this,fun j x y hx hy=>e.2 (j+1) x y hx hy⟩ ?_ r hr;show AR S ρ (v.cells.zipIdx.foldl (fun cs x=>cs.setIfInBounds (off+x.2) x.1) cs) (v'.cells.zipIdx.foldl (fun cs x=>cs.setIfInBounds (off+x.2) x.1) cs');rw[<-Array.foldl_toList,<-Array.foldl_toList];refine foldl_set _ _ (by simp[h2.cells.size]) (fun j x y hx hy=>?_) h;rw[Array.getElem?_toList,Array.getElem?_zipIdx]at hx hy;cases hvx:v.cells[j]? with
    |none=>rw[hvx]at hx;cases hx
    |some a=>
     cases hvy:v'.cells[j]? with
     |none=>rw[hvy]at hy;cases hy
     |some b=>
      rw[hvx]at hx;rw[hvy]at hy;simp only[Option.map_some,Option.some.injEq]at hx hy;subst hx hy;exact⟨h2.cells.at_ j a b hvx hvy,rfl⟩
theorem AR.aj0{z z':Array Value}(h:AR S ρ z z')(i:Nat):VR S ρ z[i]! z'[i]!:=by
 rw[Array.getElem!_eq_getD,Array.getElem!_eq_getD,Array.getD_eq_getD_getElem?,Array.getD_eq_getD_getElem?];cases hz:z[i]? with
 |none=>rw[h.none hz];exact .bool false
 |some v=>obtain⟨v',hv',hr⟩:=h.get hz;rw[hv'];exact hr
theorem uG{z z':Array Value}(h:AR S ρ z z')(n:Nat):AR S ρ ((Array.range n).map (z[·%z.size]!)) ((Array.range n).map (z'[·%z'.size]!)):=by
 rw[<-h.size];exact AR.map (fun i=>h.aj0 (i%z.size)) _
end
end
end Cc
end Go.Proofs.Ytpfpokjaeffbjab
