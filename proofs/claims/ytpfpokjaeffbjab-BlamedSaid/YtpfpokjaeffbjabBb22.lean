/- Part of the proof: SaW. -/
import Derived.Test.YtpfpokjaeffbjabBb21
set_option linter.unusedVariables false
set_option linter.unusedSimpArgs false
set_option maxRecDepth 100000
set_option maxHeartbeats 16000000
namespace Go.Proofs.Ytpfpokjaeffbjab
namespace Cc
open Go.Conc
def blk:Value->Option Nat
 |.pointer (some a)=>some a.block
 |.slice (some a) _ _=>some a.block
 |_=>none
def VL(w:World)(b:Nat):Prop:=∃cs e z,w.heap[b]?=some (.cells cs e z)
structure SI(s:Sg)(h:Nat)(w:World)(f:FuncId)(tmps:Array Value):Prop where
 sl:∀t,(s.fs f).contains t=true->CV s f (tmps.getD t undef)
 own:∀t∈s.own f,∀b,blk (tmps.getD t undef)=some b->h<=b/\VL w b/\∀u∈s.xQ f++s.xR f,blk (tmps.getD u undef)≠some b
 row:∀u∈s.xQ f++s.xR f,∀b,blk (tmps.getD u undef)=some b->∃cs e z,w.heap[b]?=some (.cells cs e z)/\∀c∈cs,CV s f c
def kN(h:Nat)(w w':World):Prop:=h=0\/(w.heap.size<=w'.heap.size/\∀b,b<h->w'.heap[b]?=w.heap[b]?)
section
variable{s:Sg}{P:Program}{f:FuncId}{o:Oper}{a:Act}{d d' h:Nat}{w w':World}{tmps:Array Value}
theorem kN.of(e:oJ w w')(hh:h<=w.heap.size):kN h w w':=.inr ⟨e.1,fun b hb=>e.2 b (by omega)⟩
theorem kN.refl(w:World):kN h w w:=.inr ⟨Nat.le_refl _,fun _ _=>rfl⟩
theorem VL.lt{b:Nat}(h:VL w b):b<w.heap.size:=by
 obtain⟨cs,e,z,h⟩:=h;exact(Array.getElem?_eq_some_iff.1 h).1
theorem VL.ext{b:Nat}(h:VL w b)(e:oJ w w'):VL w' b:=by
 obtain⟨cs,e',z,h1⟩:=h;exact⟨cs,e',z,by rw[e.2 b (Array.getElem?_eq_some_iff.1 h1).1];exact h1⟩
theorem SI.mono(hs:SI s h w f tmps)(e:oJ w w'):SI s h w' f tmps:=by
 refine⟨hs.sl,fun t ht b hb=>?_,fun u hu b hb=>?_⟩
 ·obtain⟨h1,h2,h3⟩:=hs.own t ht b hb;exact⟨h1,h2.ext e,h3⟩
 ·obtain⟨cs,e',z,h1,h2⟩:=hs.row u hu b hb;exact⟨cs,e',z,by rw[e.2 b (Array.getElem?_eq_some_iff.1 h1).1];exact h1,h2⟩
theorem SI.put(hs:SI s h w f a.tmps){v:Value}(h1:∀t,o.dst=some t->(s.fs f).contains t=true->CV s f v)
  (h2:∀t,o.dst=some t->t∈s.own f->t∉s.xQ f++s.xR f/\∀b,blk v=some b->h<=b/\VL w b/\∀u∈s.xQ f++s.xR f,blk (a.tmps.getD u undef)≠some b)
  (h3:∀t,o.dst=some t->t∈s.xQ f++s.xR f->∀b,blk v=some b->(∃cs e z,w.heap[b]?=some (.cells cs e z)/\∀c∈cs,CV s f c)/\∀t'∈s.own f,blk (a.tmps.getD t' undef)≠some b):SI s h w f (a.put o.dst v).tmps:=by
 cases hd:o.dst with
 |none=>exact hs
 |some t=>
  show SI s h w f (a.tmps.setIfInBounds t v);have get:∀t',(a.tmps.setIfInBounds t v).getD t' undef=a.tmps.getD t' undef\/(t'=t/\(a.tmps.setIfInBounds t v).getD t' undef=v):=fun t'=>by
   by_cases e:t=t'
   ·subst e;by_cases hl:t<a.tmps.size
    ·exact .inr ⟨rfl,by simp[Array.getD_eq_getD_getElem?,Array.getElem?_setIfInBounds,hl]⟩
    ·exact .inl (by simp[Array.getD_eq_getD_getElem?,Array.getElem?_setIfInBounds,hl])
   ·exact .inl (by simp[Array.getD_eq_getD_getElem?,Array.getElem?_setIfInBounds,e])
  refine⟨fun t' ht=>?_,fun t' ht b hb=>?_,fun u hu b hb=>?_⟩
  ·rcases get t' with e|⟨rfl,e⟩<;>rw[e]
   ·exact hs.sl t' ht
   ·exact h1 t' hd ht
  ·rcases get t' with e|⟨rfl,e⟩<;>rw[e]at hb
   ·obtain⟨k1,k2,k3⟩:=hs.own t' ht b hb;refine⟨k1,k2,fun u hu hc=>?_⟩;rcases get u with e2|⟨rfl,e2⟩<;>rw[e2]at hc
    ·exact k3 u hu hc
    ·exact(h3 u hd hu b hc).2 t' ht hb
   ·obtain⟨k0,k⟩:=h2 t' hd ht;obtain⟨k1,k2,k3⟩:=k b hb;refine⟨k1,k2,fun u hu hc=>?_⟩;rcases get u with e2|⟨rfl,e2⟩<;>rw[e2]at hc
    ·exact k3 u hu hc
    ·exact k0 hu
  ·rcases get u with e|⟨rfl,e⟩<;>rw[e]at hb
   ·exact hs.row u hu b hb
   ·exact(h3 u hd hu b hb).1
def Sg.bare(s:Sg)(f:FuncId)(o:Oper):Prop:=∀t,o.dst=some t->(s.fs f).contains t=false/\t∉s.own f/\t∉s.xQ f++s.xR f
theorem SI.free(hs:SI s h w f a.tmps)(hb:s.bare f o)(v:Value):SI s h w f (a.put o.dst v).tmps:=
 hs.put (fun t e k=>by rw[(hb t e).1]at k;cases k) (fun t e k=>((hb t e).2.1 k).elim) fun t e k=>((hb t e).2.2 k).elim
theorem SI.none(hs:SI s h w f a.tmps)(hd:s.qc f o=true){v:Value}(hv:∀fn x y,v≠ .func fn x y)(hb:blk v=none):SI s h w f (a.put o.dst v).tmps:=by
 refine hs.put (fun t e k fn x y he=>(hv _ _ _ he).elim) (fun t e k=>⟨fun hm=>?_,fun b hb'=>by rw[hb]at hb';cases hb'⟩) fun t e k b hb'=>by rw[hb]at hb';cases hb'
 unfold Sg.qc at hd;rw[e]at hd;simp only[Bool.and_eq_true,Bool.or_eq_true,Bool.not_eq_true']at hd;obtain⟨⟨⟨-,d1⟩,d2⟩,d3⟩:=hd;have k':(s.own f).contains t=true:=by simpa using k
 rw[k']at d1;rcases List.mem_append.1 hm with hm|hm
 ·have hm':(s.xQ f).contains t=true:=by simpa using hm
  rw[hm']at d2;simp only[Bool.true_eq_false,false_or]at d1 d2;cases ho:o.op<;>rw[ho]at d1 d2<;>first|(cases d2;done)|(cases d1;done)
 ·have hm':(s.xR f).contains t=true:=by simpa using hm
  rw[hm']at d3;simp only[Bool.true_eq_false,false_or]at d1 d3;cases ho:o.op<;>rw[ho]at d1 d3<;>first|(cases d3;done)|(cases d1;done)
def Fr(P:Program)(x:Sem Value):Prop:=∀w v w',x.run P w=.ok v w'->∃(w0:World) (o:Obj),oJ w w0/\w'={w0 with heap:=w0.heap.push o}/\(∃cs e z,o=.cells cs e z)/\blk v=some w0.heap.size
theorem Fr.bind{α:Type}{y:Sem α}{k:α->Sem Value}(h:NM false y)(hk:∀a,Fr P (k a)):Fr P (y>>=k):=by
 intro w v w' e;rw[Sem.run_bind]at e;cases hy:y.run P w with
 |halt hh w1=>rw[hy]at e;cases e
 |ok a w1=>
  rw[hy]at e;obtain⟨w0,o,h1,h2⟩:=hk a w1 v w' e;exact⟨w0,o,(h.ext hy).trans h1,h2⟩
theorem Fr.ite{c:Prop} [Decidable c]{x y:Sem Value}(h1:Fr P x)(h2:Fr P y):Fr P (if c then x else y):=by
 by_cases h:c
 ·rw[if_pos h];exact h1
 ·rw[if_neg h];exact h2
theorem Fr.new(e:TypeId)(cs:Array Value){k:Addr->Value}(hk:∀b,blk (k ⟨b,0,Option.none⟩)=some b):Fr P (do let a<-newRow e cs;Pure.pure (k a)):=by
 intro w v w' h;have:(do let a<-newRow e cs;Pure.pure (k a):Sem Value).run P w=.ok (k ⟨w.heap.size,0,Option.none⟩) {w with heap:=w.heap.push (.cells cs e)}:=by
  simp[newRow,newObj,Sem.run]
 rw[this]at h;cases h;exact⟨w,_,.refl w,rfl,⟨cs,e,_,rfl⟩,hk _⟩
theorem Fr.stuck(m:String):Fr P (Go.stuck m):=fun w v w' h=>by cases h
theorem Fr.panic(m:String):Fr P (Go.runtimePanic (.error m)):=fun w v w' h=>by simp[runtimePanic,goPanic]at h
theorem YB(t:TypeId):Fr P (Instr.alloc t true (.tuple #[])):=by
 unfold Instr.alloc;exact Fr.bind Nm.out fun z=>by dsimp only;unfold newVar;exact Fr.new _ _ (k:=fun a=>.pointer (some a)) fun _=>rfl
theorem aL6(t:TypeId)(v:Value):Fr P (Instr.box t v):=by
 unfold Instr.box newVar;exact Fr.new _ _ (k:=fun a=>.pointer (some a)) fun _=>rfl
theorem Jm(t:TypeId)(x y:Value):Fr P (Instr.makeSlice t x y):=by
 unfold Instr.makeSlice
 repeat' (first
  |exact Fr.panic _
  |exact Fr.stuck _
  |exact Fr.new _ _ (k:=fun a=>.slice (some a) _ _) fun _=>rfl
  |(refine Fr.bind Nm.out fun _=>?_)
  |(refine Fr.ite ?_ ?_)
  |split
  |dsimp only)
theorem ab7{t:TypeId}{dd:TypeDesc}(e:(underlying t).run P w=.ok dd w'):P.underlying t=some dd/\w'=w:=by
 simp only[underlying,program,Sem.run_bind,Sem.run,Result.andThen_ok]at e;cases hu:P.underlying t with
 |none=>rw[hu]at e;simp[Go.stuck]at e
 |some d=>rw[hu]at e;simp at e;exact⟨by rw[e.1],e.2.symm⟩
theorem KP{t:TypeId}{i:TypeInfo}(e:(typeInfo t).run P w=.ok i w'):P.info? t=some i/\w'=w:=by
 simp only[typeInfo,program,Sem.run_bind,Sem.run,Result.andThen_ok]at e;cases hu:P.info? t with
 |none=>rw[hu]at e;simp[Go.stuck]at e
 |some d=>rw[hu]at e;simp at e;exact⟨by rw[e.1],e.2.symm⟩
theorem WV{t:TypeId}{z:Value}(e:(zeroValue t).run P w=.ok z w'):∃i,P.info? t=some i/\i.zero=some z:=by
 simp only[zeroValue,Sem.run_bind]at e;cases hi:(typeInfo t).run P w with
 |halt hh w1=>rw[hi]at e;cases e
 |ok i w1=>
  rw[hi]at e;simp only[Result.andThen_ok]at e;cases hz:i.zero with
  |none=>rw[hz]at e;simp[Go.unsupported]at e
  |some v=>rw[hz]at e;simp at e;exact⟨i,(KP hi).1,by rw[hz,e.1]⟩
theorem MJ{place:Nat->Option (Nat×Nat)}:∀{l:List (Nat×Value)} {cells out:Array Value},Instr.fill place cells l=some out->∀c∈out,c∈cells\/∃p∈l,c∈p.2.cells
 |[],cells,out,e,c,hc=>by unfold Instr.fill at e;cases e;exact .inl hc
 |(i,v)::l,cells,out,e,c,hc=>by
  unfold Instr.fill at e;split at e
  ·cases e
  ·rename_i off size hp;split at e
   ·cases e
   ·rcases MJ e c hc with h1|⟨p,h1,h2⟩
    ·have key:∀(xs:List (Value×Nat)) (cs:Array Value),c∈xs.foldl (fun cs (x:Value×Nat)=>cs.setIfInBounds (off+x.2) x.1) cs->c∈cs\/∃x∈xs,c=x.1:=by
      intro xs
      induction xs with
      |nil=>intro cs h;exact .inl h
      |cons x xs ih=>
       intro cs h;rcases ih _ h with h|⟨y,h3,h4⟩
       ·rcases Array.mem_or_eq_of_mem_setIfInBounds h with h|h
        ·exact .inl h
        ·exact .inr ⟨x,by simp,h⟩
       ·exact .inr ⟨y,by simp[h3],h4⟩
     rw[<-Array.foldl_toList]at h1;rcases key _ _ h1 with h1|⟨x,hx,hcx⟩
     ·exact .inl h1
     ·refine .inr ⟨(i,v),by simp,?_⟩;have hx:(x.1,x.2)∈v.cells.zipIdx:=by
       rw[<-Array.mem_toList_iff];exact hx
      have:=Array.mem_zipIdx hx;rw[hcx,this.2.2];exact Array.getElem_mem _
    ·exact .inr ⟨p,by simp[h1],h2⟩
theorem Uw(H:xI s P){ty:TypeId}(hty:s.rowT.contains ty=true){n:Nat}{ps:Array (Nat×Value)}(hp:∀p∈ps,∃g,p.2=.func (.func g) #[] #[]/\s.cl f g=true){v:Value}(e:(Instr.buildSlice ty n ps).run P w=.ok v w'):
  ∃(w0:World) (cs:Array Value) (el:TypeId),oJ w w0/\w'={w0 with heap:=w0.heap.push (.cells cs el)}/\blk v=some w0.heap.size/\∀c∈cs,CV s f c:=by
 unfold Instr.buildSlice at e;simp only[Sem.run_bind]at e;cases hu:(underlying ty).run P w with
 |halt hh w1=>rw[hu]at e;cases e
 |ok dd w1=>
  rw[hu]at e;simp only[Result.andThen_ok]at e;obtain⟨hu1,rfl⟩:=ab7 hu;cases dd with
  |slice el=>
   dsimp only at e;simp only[Sem.run_bind]at e;cases hz:(sizeOf el).run P w1 with
   |halt hh w2=>rw[hz]at e;cases e
   |ok n2 w2=>
    rw[hz]at e;simp only[Result.andThen_ok]at e;have x2:oJ w1 w2:=NM.ext (Nm.out:NM false (sizeOf el)) hz;split at e
    ·simp[Go.unsupported]at e
    ·have fin:∀(zero:Array Value) (w3:World),oJ w1 w3->(∀c∈zero,∀fn x y,c≠ .func fn x y)->(match Instr.fill (fun i=>some (i*n2,n2)) ((Array.range (n*n2)).map (zero[·%zero.size]!)) ps.toList with
       |some cells=>do Pure.pure (.slice (some (<-newRow el cells)) n n)
       |_=>Go.stuck "buildSlice: a part of the wrong size" :Sem Value).run P w3=.ok v w'->
       ∃(w0:World) (cs:Array Value) (el:TypeId),oJ w1 w0/\w'={w0 with heap:=w0.heap.push (.cells cs el)}/\blk v=some w0.heap.size/\∀c∈cs,CV s f c:=by
      intro zero w3 x3 hzero e;split at e
      ·rename_i cells bf4;simp[newRow,newObj,Sem.run]at e;obtain⟨rfl,rfl⟩:=e;refine⟨w3,cells,el,x3,rfl,rfl,fun c hc=>?_⟩;rcases MJ bf4 c hc with h1|⟨p,h1,h2⟩
       ·obtain⟨k,_,rfl⟩:=Array.mem_map.1 h1;intro fn x y he;exfalso;by_cases hk:k%zero.size<zero.size
        ·rw[getElem!_pos zero _ hk]at he;exact hzero _ (Array.getElem_mem hk) fn x y he
        ·rw[getElem!_neg zero _ hk]at he;cases he
       ·obtain⟨g,h3,h4⟩:=hp p (by simpa using h1);rw[h3]at h2;have:c=.func (.func g) #[] #[]:=by simpa [Value.cells]using h2
        rw[this];exact CV.func h4 fun _=>⟨rfl,rfl⟩
      ·simp[Go.stuck]at e
     by_cases h0:n*n2=0
     ·rw[if_pos h0]at e;exact fin #[] w2 x2 (fun c hc=>by simp at hc) e
     ·rw[if_neg h0,Sem.run_bind]at e;cases hv:(zeroValue el).run P w2 with
      |halt hh w4=>rw[hv]at e;cases e
      |ok z w4=>
       rw[hv]at e;obtain⟨i,h1,h2⟩:=WV hv;exact fin z.cells w4 (x2.trans (NM.ext (Nm.out:NM false (zeroValue el)) hv)) (H.row ty hty el hu1 i z h1 h2) e
  |_=>simp[Go.stuck]at e
theorem add_block(a:Addr)(n:Nat):(a.add n).block=a.block:=by unfold Addr.add;split<;>rfl
def Po{α:Type}(P:Program)(Q:α->Prop)(x:Sem α):Prop:=∀w v w',x.run P w=.ok v w'->Q v
theorem Po.bind{α β:Type}{R:α->Prop}{Q:β->Prop}{y:Sem α}{k:α->Sem β}(h:Po P R y)(hk:∀a,R a->Po P Q (k a)):Po P Q (y>>=k):=by
 intro w v w' e;rw[Sem.run_bind]at e;cases hy:y.run P w with
 |halt hh w1=>rw[hy]at e;cases e
 |ok a w1=>rw[hy]at e;exact hk a (h w a w1 hy) w1 v w' e
theorem Po.CB{α β:Type}{Q:β->Prop}{y:Sem α}{k:α->Sem β}(hk:∀a,Po P Q (k a)):Po P Q (y>>=k):=Po.bind (R:=fun _=>True) (fun _ _ _ _=>trivial) fun a _=>hk a
theorem Po.pure{α:Type}{Q:α->Prop}{a:α}(h:Q a):Po P Q (Pure.pure a:Sem α):=fun w v w' e=>by simp at e;rw[<-e.1];exact h
theorem Po.ite{α:Type}{Q:α->Prop}{c:Prop} [Decidable c]{x y:Sem α}(h1:Po P Q x)(h2:Po P Q y):Po P Q (if c then x else y):=by
 by_cases h:c
 ·rw[if_pos h];exact h1
 ·rw[if_neg h];exact h2
theorem Po.stuck{α:Type}{Q:α->Prop}(m:String):Po P Q (Go.stuck m:Sem α):=fun w v w' h=>by cases h
theorem Po.ao0{α:Type}{Q:α->Prop}(m:Unsupported):Po P Q (Go.unsupported m:Sem α):=fun w v w' h=>by cases h
theorem Po.bounds{α:Type}{Q:α->Prop}{k:IntKind}{x y:Int}{c:BoundsCode}:Po P Q (boundsPanic k x y c:Sem α):=by
 unfold boundsPanic;have rp:∀b,Po P Q (Go.runtimePanic (.bounds (IntKind.i64.wrap x) y b c):Sem α):=fun b w v w' h=>by simp[runtimePanic,goPanic]at h
 dsimp only;refine Po.ite (Po.CB fun _=>rp _) (Po.CB fun _=>rp _)
theorem ah3(ty:TypeId)(x i:Value):Po P (fun v=>blk v=blk x/\∀fn a b,v≠ .func fn a b) (Instr.indexAt ty x i):=by
 unfold Instr.indexAt;refine Po.CB fun⟨k,n⟩=>?_
 refine Po.CB fun dd=>?_
 have fin:∀(a:Addr) (m:Nat),blk x=some a.block->(blk (.pointer (some (a.add m)))=blk x/\∀fn y b,Value.pointer (some (a.add m))≠ .func fn y b):=fun a m h=>⟨by rw[h];show some _=_;rw[add_block],fun fn y b h=>by cases h⟩
 split
 ·refine Po.bind (R:=fun a:Addr=>blk x=some a.block) (fun w v w' e=>?_) fun a ha=>?_
  ·cases x with
   |pointer p=>cases p with
    |none=>simp[Instr.sureAddr,Go.stuck]at e
    |some a=>simp[Instr.sureAddr]at e;rw[<-e.1];rfl
   |_=>simp[Instr.sureAddr,Go.stuck]at e
  ·refine Po.bind (R:=fun p:Option Addr×Nat×TypeId=>∀a,p.1=some a->blk x=some a.block) (Po.pure fun a' h=>by cases h;exact ha) fun p hp=>?_
   refine Po.CB fun dd=>?_
   dsimp only;split
   ·rename_i a' he;refine Po.ite (Po.CB fun m=>Po.pure (fin _ _ (hp _ he))) (Po.ite (Po.ao0 _) Po.bounds)
   ·exact Po.bounds
 ·rename_i base len cap;refine Po.bind (R:=fun p:Option Addr×Nat×TypeId=>∀a,p.1=some a->blk (.slice base len cap)=some a.block) (Po.pure fun a' h=>by cases h;rfl) fun p hp=>?_
  refine Po.CB fun dd=>?_
  dsimp only;split
  ·rename_i a' he;refine Po.ite (Po.CB fun m=>Po.pure (fin _ _ (hp _ he))) (Po.ite (Po.ao0 _) Po.bounds)
  ·exact Po.bounds
 ·exact Po.bind (R:=fun _=>False) (Po.stuck _) fun _ h=>h.elim
theorem XU{ty:TypeId}{x v:Value}(hx:∀b,blk x=some b->∃cs e z,w.heap[b]?=some (.cells cs e z)/\∀c∈cs,CV s f c)(e:(Instr.loadAt ty x).run P w=.ok v w'):CV s f v:=by
 unfold Instr.loadAt at e;rw[Sem.run_bind]at e;cases x with
 |pointer p=>cases p with
  |none=>simp[Instr.sureAddr,Go.stuck]at e
  |some a=>
   simp only[Instr.sureAddr,Sem.run_pure,Result.andThen_ok]at e;obtain⟨cs,el,z,h1,h2⟩:=hx a.block rfl;unfold loadVar at e;rw[Sem.run_bind]at e;cases hg:(isAgg ty).run P w with
   |halt hh w1=>rw[hg]at e;cases e
   |ok g w1=>
    rw[hg]at e;have x1:oJ w w1:=NM.ext (Nm.out:NM false (isAgg ty)) hg;simp only[Result.andThen_ok]at e;cases g with
    |true=>
     simp only[if_true,Sem.run_bind]at e;cases h3:(sizeOf ty).run P w1 with
     |halt hh w2=>rw[h3]at e;cases e
     |ok m w2=>
      rw[h3]at e;simp only[Result.andThen_ok]at e;cases h4:(loadCells a m).run P w2 with
      |halt hh w3=>rw[h4]at e;cases e
      |ok l w3=>
       rw[h4]at e;simp at e;rw[<-e.1];intro fn x y he;cases he
    |false=>
     have h1':w1.heap[a.block]?=some (.cells cs el z):=by rw[x1.2 _ (Array.getElem?_eq_some_iff.1 h1).1];exact h1
     have e:(load a).run P w1=.ok v w':=e;unfold load at e;simp only[Sem.run]at e;cases hc:w1.cell? a with
     |none=>
      rw[hc]at e;have:∃hh,w1.farLoad P a false=.error hh:=by
       unfold World.farLoad;rw[h1'];exact⟨_,rfl⟩
      obtain⟨hh,this⟩:=this;have e':(match w1.farLoad P a false with
       |.ok (v,_)=>(Sem.pure v:Sem Value).run P w1
       |.error h=>.halt h w1)=.ok v w':=e
      rw[this]at e';cases e'
     |some c=>
      rw[hc]at e;simp[Sem.run]at e;rw[<-e.1];unfold World.cell? at hc;rw[h1']at hc;dsimp only at hc;split at hc
      ·cases hc
      ·exact h2 c (Array.mem_of_getElem? hc)
 |_=>simp[Instr.sureAddr,Go.stuck]at e
def OL(b:Nat)(w w':World):Prop:=w'.heap.size=w.heap.size/\(∀c,c≠b->w'.heap[c]?=w.heap[c]?)/\(VL w b->VL w' b)
theorem OL.refl(b:Nat)(w:World):OL b w w:=⟨rfl,fun _ _=>rfl,id⟩
theorem OL.trans{b:Nat}{x y z:World}(h:OL b x y)(k:OL b y z):OL b x z:=⟨k.1.trans h.1,fun c hc=>(k.2.1 c hc).trans (h.2.1 c hc),fun hx=>k.2.2 (h.2.2 hx)⟩
theorem OL.set(w:World)(a:Addr)(v:Value):OL a.block w (w.setCell a v):=by
 refine⟨by simp[World.setCell],fun c hc=>?_,fun⟨cs,e,z,h⟩=>?_⟩
 ·simp only[World.setCell];rw[Array.getElem?_modify,if_neg (Ne.symm hc)]
 ·simp only[World.setCell];refine⟨if a.spot.isSome then cs else cs.setIfInBounds a.off v,e,z,?_⟩;show(w.heap.modify _ _)[a.block]?=_;rw[Array.getElem?_modify,if_pos rfl,h];rfl
theorem WM{a:Addr}{v:Value}{u:Unit}(hc:VL w a.block)(e:(store a v).run P w=.ok u w'):OL a.block w w':=by
 unfold store at e;obtain⟨cs,el,z,h1⟩:=hc;have main:∀v:Value,(Sem.store .plain a v (.pure ()):Sem Unit).run P w=(match w.cell? a with
   |some _=>if w.frozen? a then Result.halt (.unsupported (.unsafePointer "a write to bytes that a string shares")) w else(Sem.pure ():Sem Unit).run P (w.setCell a v)
   |none=>match w.farStore P a v false with
    |.ok (w,_)=>(Sem.pure ():Sem Unit).run P w
    |.error h=>.halt h w)->(Sem.store .plain a v (.pure ()):Sem Unit).run P w=.ok u w'->OL a.block w w':=fun v e1 e=>by
  rw[e1]at e;cases hc:w.cell? a with
  |some x=>
   rw[hc]at e;dsimp only at e;split at e
   ·cases e
   ·simp[Sem.run]at e;rw[<-e];exact OL.set w a v
  |none=>
   rw[hc]at e;have:∃hh,w.farStore P a v false=.error hh:=by
    unfold World.farStore;rw[h1];exact⟨_,rfl⟩
   obtain⟨hh,this⟩:=this;rw[this]at e;cases e
 cases v<;>first
  |(simp only[Sem.run]at e;cases e;done)
  |exact main _ rfl e
theorem qK{a:Addr}:∀(vs:List Value) (i:Nat) {w w':World} {u:Unit},VL w a.block->(storeCells a vs i).run P w=.ok u w'->OL a.block w w'
 |[],i,w,w',u,hc,e=>by unfold storeCells at e;simp at e;rw[<-e];exact .refl _ _
 |v::vs,i,w,w',u,hc,e=>by
  unfold storeCells at e;rw[Sem.run_bind]at e;cases h1:(store (a.add i) v).run P w with
  |halt hh w1=>rw[h1]at e;cases e
  |ok u1 w1=>
   rw[h1]at e;simp only[Result.andThen_ok]at e;have k1:=WM (a:=a.add i) (by rw[add_block];exact hc) h1;rw[add_block]at k1;exact k1.trans (qK vs (i+1) (k1.2.2 hc) e)
theorem Uk{ty:TypeId}{x v:Value}{u:Unit}(hx:∀b,blk x=some b->VL w b)(e:(Instr.storeAt ty x v).run P w=.ok u w'):∃b,blk x=some b/\OL b w w':=by
 unfold Instr.storeAt at e;rw[Sem.run_bind]at e;cases x with
 |pointer p=>cases p with
  |none=>simp[Instr.sureAddr,Go.stuck]at e
  |some a=>
   simp only[Instr.sureAddr,Sem.run_pure,Result.andThen_ok]at e;refine⟨a.block,rfl,?_⟩;unfold storeVar at e;rw[Sem.run_bind]at e;cases hz:(sizeOf ty).run P w with
   |halt hh w1=>rw[hz]at e;cases e
   |ok m w1=>
    rw[hz]at e;simp only[Result.andThen_ok]at e;have e1:w1=w:=by
     simp only[sizeOf,Sem.run_bind]at hz;cases hi:(typeInfo ty).run P w with
     |halt hh w2=>rw[hi]at hz;cases hz
     |ok i w2=>rw[hi]at hz;simp at hz;rw[<-hz.2];exact(KP hi).2
    subst e1;split at e
    ·simp[Go.stuck]at e
    ·exact qK _ _ (hx a.block rfl) e
 |_=>simp[Instr.sureAddr,Go.stuck]at e
def Cp(P:Program)(X:Value)(x:Sem Value):Prop:=∀w v w',(∀b,blk X=some b->VL w b)->x.run P w=.ok v w'->blk v=none/\(∀fn a b,v≠ .func fn a b)/\∃w1,oJ w w1/\(w'=w1\/∃b,blk X=some b/\OL b w1 w')
theorem Cp.bind{α:Type}{X:Value}{y:Sem α}{k:α->Sem Value}(h:NM false y)(hk:∀a,Cp P X (k a)):Cp P X (y>>=k):=by
 intro w v w' hx e;rw[Sem.run_bind]at e;cases hy:y.run P w with
 |halt hh w1=>rw[hy]at e;cases e
 |ok a w1=>
  rw[hy]at e;have x1:=h.ext hy;obtain⟨k1,k2,w2,k3,k4⟩:=hk a w1 v w' (fun b hb=>(hx b hb).ext x1) e;exact⟨k1,k2,w2,x1.trans k3,k4⟩
theorem YV{ats:Array TypeId}{t:TypeId}{args:Array Value}{x:Value}(hx:args[0]?=some x):Cp P x (Builtin.copy_ ats t args):=by
 have stk:∀{m:String},Cp P x (Go.stuck m):=fun w v w' _ h=>by cases h
 unfold Builtin.copy_;dsimp only;rw[hx];split
 ·rename_i h1;simp only[Prod.mk.injEq]at h1;obtain⟨-,h1,-⟩:=h1;cases h1;refine Cp.bind Nm.out fun dd=>?_
  split
  ·split
   ·refine Cp.bind Nm.out fun n=>?_
    refine Cp.bind Nm.out fun m=>?_
    refine Cp.bind Nm.out fun cells=>?_
    split
    ·rename_i ad;intro w v w' hx e;rw[Sem.run_bind]at e;cases h2:(storeCells ad cells.toList).run P w with
     |halt hh w1=>rw[h2]at e;cases e
     |ok u w1=>
      rw[h2]at e;simp at e;obtain⟨rfl,rfl⟩:=e;exact⟨rfl,fun _ _ _ h=>(by cases h),w,.refl w,.inr ⟨ad.block,rfl,qK _ _ (hx _ rfl) h2⟩⟩
    ·intro w v w' hx e;simp at e;obtain⟨rfl,rfl⟩:=e;exact⟨rfl,fun _ _ _ h=>(by cases h),w,.refl w,.inl rfl⟩
   ·exact stk
  ·exact stk
 ·exact stk
theorem SI.wrote{b:Nat}(hs:SI s h w f tmps)(hw:OL b w w')(hb:∀u∈s.xQ f++s.xR f,blk (tmps.getD u undef)≠some b):SI s h w' f tmps:=by
 refine⟨hs.sl,fun t ht c hc=>?_,fun u hu c hc=>?_⟩
 ·obtain⟨h1,h2,h3⟩:=hs.own t ht c hc;refine⟨h1,?_,h3⟩;by_cases e:c=b
  ·subst e;exact hw.2.2 h2
  ·obtain⟨cs,el,z,k⟩:=h2;exact⟨cs,el,z,by rw[hw.2.1 c e];exact k⟩
 ·obtain⟨cs,el,z,k1,k2⟩:=hs.row u hu c hc;have e:c≠b:=fun e=>hb u hu (e ▸ hc)
  exact⟨cs,el,z,by rw[hw.2.1 c e];exact k1,k2⟩
theorem kN.wrote{b:Nat}(hw:OL b w w')(hb:h<=b):kN h w w':=.inr ⟨Nat.le_of_eq hw.1.symm,fun c hc=>hw.2.1 c (by omega)⟩
theorem kN.trans{w1 w2 w3:World}(a:kN h w1 w2)(b:kN h w2 w3):kN h w1 w3:=by
 rcases a with a|a
 ·exact .inl a
 ·rcases b with b|b
  ·exact .inl b
  ·exact .inr ⟨Nat.le_trans a.1 b.1,fun c hc=>(b.2 c hc).trans (a.2 c hc)⟩
theorem Qc(hg:s.grd f=false):s.own f=[]/\s.xQ f=[]/\s.xR f=[]:=by
 simp only[Sg.grd,Bool.or_eq_false_iff,Bool.not_eq_false',List.isEmpty_iff]at hg;exact⟨hg.1.1.2,hg.1.2,hg.2⟩
theorem NI(hs:SI s h w f a.tmps)(he:s.eff f o d=some d')(hg:s.grd f=false){nx:Next}(e:(execOp a.eval o).run P w=.ok nx w')(w2:World):(∀v,nx=.value v->SI s 0 w2 f (a.put o.dst v).tmps)/\SI s 0 w2 f (a.put o.dst undef).tmps:=by
 obtain⟨l1,l2,l3⟩:=Qc hg;obtain⟨hd,-⟩:=vY he;have hs0:SI s 0 w2 f a.tmps:=⟨hs.sl,fun t ht=>by rw[l1]at ht;simp at ht,fun u hu=>by rw[l2,l3]at hu;simp at hu⟩;have fin:∀v,(∀t,o.dst=some t->(s.fs f).contains t=true->CV s f v)->SI s 0 w2 f (a.put o.dst v).tmps:=fun v h1=>hs0.put h1 (fun t _ k=>by rw[l1]at k;simp at k) fun t _ k=>by rw[l2,l3]at k;simp at k
 refine⟨fun v hv=>fin v fun t ht hc=>?_,fin undef fun _ _ _=>CV.undef⟩;subst hv;unfold Sg.qc at hd;rw[ht]at hd;simp only[Bool.and_eq_true,Bool.or_eq_true,Bool.not_eq_true',hc,Bool.true_eq_false,false_or]at hd;obtain⟨⟨⟨d0,-⟩,-⟩,-⟩:=hd;unfold execOp at e;cases hop:o.op<;>rw[hop]at d0 e<;>(try dsimp only at d0 e)<;>try(cases d0;done)
 case move x=>simp at e;rw[<-e.1];exact Rh hs.sl d0
 case assign x=>simp at e;rw[<-e.1];exact Rh hs.sl d0
 case load ty x=>
  cases x with
  |tmp u=>rw[l3]at d0;simp at d0
  |_=>cases d0
 case makeFunc fn x y=>
  cases fn with
  |func g=>simp[Instr.makeFunc]at e;rw[<-e.1];exact CV.func d0 fun e=>by rw[hg]at e;cases e
  |_=>cases d0
theorem aj7(H:xI s P)(hs:SI s h w f a.tmps)(he:s.eff f o d=some d')(hg:s.grd f=true)(hh:h<=w.heap.size){nx:Next}(e:(execOp a.eval o).run P w=.ok nx w'):(∀v,nx=.value v->SI s h w' f (a.put o.dst v).tmps/\kN h w w')/\(nx=.skip->SI s h w' f (a.put o.dst undef).tmps/\kN h w w'):=by
 obtain⟨hd,hgo⟩:=vY he;have hgo:=hgo hg;have non:∀{v:Value},(∀fn x y,v≠ .func fn x y)->blk v=none->∀{w2},SI s h w2 f a.tmps->SI s h w2 f (a.put o.dst v).tmps:=fun h1 h2 _ hs=>hs.none hd h1 h2
 have rd:∀{x:Sem Value},Nm false x->execOp a.eval o=(do pure (.value (<-x)))->s.bare f o->(∀v,nx=.value v->SI s h w' f (a.put o.dst v).tmps/\kN h w w')/\(nx=.skip->SI s h w' f (a.put o.dst undef).tmps/\kN h w w'):=fun{x} hx e1 hb=>by
  rw[e1]at e;obtain⟨v,rfl,e2⟩:=qo e;have x1:=hx.out.ext e2;exact⟨fun v' hv=>by cases hv;exact⟨(hs.mono x1).free hb v,.of x1 hh⟩,fun h=>by cases h⟩
 have now:∀{v:Value},execOp a.eval o=(Pure.pure (.value v):Sem Next)->SI s h w f (a.put o.dst v).tmps->(∀v,nx=.value v->SI s h w' f (a.put o.dst v).tmps/\kN h w w')/\(nx=.skip->SI s h w' f (a.put o.dst undef).tmps/\kN h w w'):=fun{v} e1 k=>by
  rw[e1]at e;simp at e;obtain⟨rfl,rfl⟩:=e;exact⟨fun v' hv=>by cases hv;exact⟨k,.refl _⟩,fun h=>by cases h⟩
 have fresh:∀{x:Sem Value},Fr P x->execOp a.eval o=(do pure (.value (<-x)))->(∀t,o.dst=some t->(s.fs f).contains t=false/\t∉s.xQ f++s.xR f)->(∀v,nx=.value v->SI s h w' f (a.put o.dst v).tmps/\kN h w w')/\(nx=.skip->SI s h w' f (a.put o.dst undef).tmps/\kN h w w'):=fun{x} hx e1 hb=>by
  rw[e1]at e;obtain⟨v,rfl,e2⟩:=qo e;obtain⟨w0,ob,x1,rfl,⟨cs,el,z,rfl⟩,hv⟩:=hx w v w' e2;have x2:=oJ.new w0 (.cells cs el z);have hs1:=hs.mono x1;refine⟨fun v' hv'=>?_,fun h=>by cases h⟩;cases hv';refine⟨(hs1.mono x2).put (fun t ht hc=>by rw[(hb t ht).1]at hc;cases hc) (fun t ht ho=>⟨(hb t ht).2,fun b hb'=>?_⟩) (fun t ht hm=>((hb t ht).2 hm).elim),.of (x1.trans x2) hh⟩;rw[hv]at hb';cases hb';refine⟨Nat.le_trans hh x1.1,⟨cs,el,z,by show(w0.heap.push _)[w0.heap.size]?=_;simp⟩,fun u hu hc=>?_⟩;obtain⟨cs2,el2,z2,k,-⟩:=hs1.row u hu _ hc;have:=(Array.getElem?_eq_some_iff.1 k).1;omega
 have mv:∀{x:Operand},execOp a.eval o=(Pure.pure (.value (a.eval x)):Sem Next)->(∀t,o.dst=some t->((s.fs f).contains t=true->s.op? f f x=true)/\(t∈s.own f->t∉s.xQ f++s.xR f/\∃u,x=.tmp u/\u∈s.own f)/\t∉s.xQ f++s.xR f)->(∀v,nx=.value v->SI s h w' f (a.put o.dst v).tmps/\kN h w w')/\(nx=.skip->SI s h w' f (a.put o.dst undef).tmps/\kN h w w'):=fun{x} e1 hb=>by
  refine now e1 (hs.put (fun t ht hc=>Rh hs.sl ((hb t ht).1 hc)) (fun t ht ho=>?_) fun t ht hm=>((hb t ht).2.2 hm).elim);obtain⟨h1,u,rfl,hu⟩:=(hb t ht).2.1 ho;exact⟨h1,fun b hb'=>hs.own u hu b hb'⟩
 cases hop:o.op<;>(try(exfalso;simp[Sg.gop,hop]at hgo;done))
 case move x=>
  refine mv (x:=x) (by unfold execOp;rw[hop]) fun t ht=>?_
  unfold Sg.qc at hd;rw[ht,hop]at hd;simp only[Bool.and_eq_true,Bool.or_eq_true,Bool.not_eq_true']at hd;obtain⟨⟨⟨d0,d1⟩,d2⟩,d3⟩:=hd;have m2:t∉s.xQ f++s.xR f:=by
   simp only[Bool.false_eq_true,or_false,List.contains_eq_mem,decide_eq_false_iff_not]at d2 d3;simp[d2,d3]
  refine⟨fun hc=>by rw[hc]at d0;simpa using d0,fun ho=>⟨m2,?_⟩,m2⟩;have ho:(s.own f).contains t=true:=by simpa using ho
  rw[ho]at d1;cases x with
  |tmp u=>exact⟨u,rfl,by simpa using d1⟩
  |_=>simp at d1
 case assign x=>
  refine mv (x:=x) (by unfold execOp;rw[hop]) fun t ht=>?_
  unfold Sg.qc at hd;rw[ht,hop]at hd;simp only[Bool.and_eq_true,Bool.or_eq_true,Bool.not_eq_true']at hd;obtain⟨⟨⟨d0,d1⟩,d2⟩,d3⟩:=hd;have m2:t∉s.xQ f++s.xR f:=by
   simp only[Bool.false_eq_true,or_false,List.contains_eq_mem,decide_eq_false_iff_not]at d2 d3;simp[d2,d3]
  refine⟨fun hc=>by rw[hc]at d0;simpa using d0,fun ho=>⟨m2,?_⟩,m2⟩;have ho:(s.own f).contains t=true:=by simpa using ho
  rw[ho]at d1;cases x with
  |tmp u=>exact⟨u,rfl,by simpa using d1⟩
  |_=>simp at d1
 case alloc ty=>
  refine fresh (YB ty) (by unfold execOp;rw[hop]) fun t ht=>?_
  unfold Sg.qc at hd;rw[ht,hop]at hd;simp only[Bool.and_eq_true,Bool.or_eq_true,Bool.not_eq_true',Bool.false_eq_true,or_false,or_true,and_true,List.contains_eq_mem,decide_eq_false_iff_not]at hd;exact⟨by simpa using hd.1.1,by simp[hd.1.2,hd.2]⟩
 case box ty x=>
  refine fresh (aL6 ty _) (by unfold execOp;rw[hop]) fun t ht=>?_
  unfold Sg.qc at hd;rw[ht,hop]at hd;simp only[Bool.and_eq_true,Bool.or_eq_true,Bool.not_eq_true',Bool.false_eq_true,or_false,or_true,and_true,List.contains_eq_mem,decide_eq_false_iff_not]at hd;exact⟨by simpa using hd.1.1,by simp[hd.1.2,hd.2]⟩
 case makeSlice ty x y=>
  refine fresh (Jm ty _ _) (by unfold execOp;rw[hop]) fun t ht=>?_
  unfold Sg.qc at hd;rw[ht,hop]at hd;simp only[Bool.and_eq_true,Bool.or_eq_true,Bool.not_eq_true',Bool.false_eq_true,or_false,or_true,and_true,List.contains_eq_mem,decide_eq_false_iff_not]at hd;exact⟨by simpa using hd.1.1,by simp[hd.1.2,hd.2]⟩
 case buildSlice ty n ps=>
  have e1:execOp a.eval o=(do pure (.value (<-Instr.buildSlice ty n (ps.map fun(i,x)=>(i,a.eval x))))):=by unfold execOp;rw[hop]
  unfold Sg.qc at hd;rw[hop]at hd;by_cases hr:∃t,o.dst=some t/\(s.xQ f).contains t=true
  ·obtain⟨t,ht,hc⟩:=hr;rw[ht]at hd;simp only[Bool.and_eq_true,Bool.or_eq_true,Bool.not_eq_true',Bool.false_eq_true,or_false]at hd;obtain⟨⟨⟨d0,d1⟩,d2⟩,d3⟩:=hd;rw[hc]at d2;simp only[Bool.true_eq_false,false_or]at d2;obtain⟨d2,d4⟩:=d2;rw[e1]at e;obtain⟨v,rfl,e2⟩:=qo e;obtain⟨w0,cs,el,x1,rfl,hv,hcs⟩:=Uw (f:=f) H d2 (fun p hp=>by
    obtain⟨q,hq,rfl⟩:=Array.mem_map.1 hp;rw[Array.all_eq_true_iff_forall_mem]at d4;have:=d4 q hq;cases hx:q.2 with
    |func g=>rw[hx]at this;exact⟨g,by show a.eval q.2=_;rw[hx];rfl,this⟩
    |_=>rw[hx]at this;cases this) e2
   have x2:=oJ.new w0 (.cells cs el);have hs1:=hs.mono x1;have hcell:(w0.heap.push (.cells cs el))[w0.heap.size]?=some (.cells cs el):=by simp
   refine⟨fun v' hv'=>?_,fun h=>by cases h⟩;cases hv';refine⟨(hs1.mono x2).put (fun t' ht' hc'=>?_) (fun t' ht' ho=>?_) (fun t' ht' hm b hb'=>?_),.of (x1.trans x2) hh⟩
   ·rw[ht]at ht';cases ht';rw[d0]at hc';cases hc'
   ·rw[ht]at ht';cases ht';have:(s.own f).contains t=true:=by simpa using ho
    rw[d1]at this;cases this
   ·rw[hv]at hb';cases hb';refine⟨⟨cs,el,_,hcell,hcs⟩,fun t2 ht2 hc2=>?_⟩;obtain⟨-,k,-⟩:=hs1.own t2 ht2 _ hc2;have:=k.lt;omega
  ·refine rd (x:=Instr.buildSlice ty n (ps.map fun(i,x)=>(i,a.eval x))) inferInstance e1 fun t ht=>?_
   rw[ht]at hd;simp only[Bool.and_eq_true,Bool.or_eq_true,Bool.not_eq_true',Bool.false_eq_true,or_false]at hd;obtain⟨⟨⟨d0,d1⟩,d2⟩,d3⟩:=hd;have k2:(s.xQ f).contains t=false:=by
    cases hq:(s.xQ f).contains t with
    |false=>rfl
    |true=>exact absurd ⟨t,ht,hq⟩ hr
   refine⟨d0,by simpa using d1,?_⟩;simp only[List.contains_eq_mem,decide_eq_false_iff_not]at k2 d3;simp[k2,d3]
 case load ty x=>
  have e1:execOp a.eval o=(do pure (.value (<-Instr.loadAt ty (a.eval x)))):=by unfold execOp;rw[hop]
  unfold Sg.qc at hd;rw[hop]at hd;by_cases hr:∃t,o.dst=some t/\(s.fs f).contains t=true
  ·obtain⟨t,ht,hc⟩:=hr;rw[ht]at hd;simp only[Bool.and_eq_true,Bool.or_eq_true,Bool.not_eq_true',Bool.false_eq_true,or_false]at hd;obtain⟨⟨⟨d0,d1⟩,d2⟩,d3⟩:=hd;rw[hc]at d0;simp only[Bool.true_eq_false,false_or]at d0;rw[e1]at e;obtain⟨v,rfl,e2⟩:=qo e;cases x with
   |tmp u=>
    have hu:u∈s.xQ f++s.xR f:=by simp at d0;simp[d0]
    have hcv:CV s f v:=XU (fun b hb=>hs.row u hu b hb) e2;have x1:=NM.ext (Nm.out:NM false (Instr.loadAt ty (a.eval (.tmp u)))) e2;refine⟨fun v' hv'=>?_,fun h=>by cases h⟩;cases hv';refine⟨(hs.mono x1).put (fun _ _ _=>hcv) (fun t' ht' ho=>?_) (fun t' ht' hm=>?_),.of x1 hh⟩
    ·rw[ht]at ht';cases ht';have:(s.own f).contains t=true:=by simpa using ho
     rw[d1]at this;cases this
    ·rw[ht]at ht';cases ht';simp only[List.contains_eq_mem,decide_eq_false_iff_not]at d2 d3;rcases List.mem_append.1 hm with hm|hm
     ·exact absurd hm d2
     ·exact absurd hm d3
   |_=>cases d0
  ·refine rd (x:=Instr.loadAt ty (a.eval x)) inferInstance e1 fun t ht=>?_
   rw[ht]at hd;simp only[Bool.and_eq_true,Bool.or_eq_true,Bool.not_eq_true',Bool.false_eq_true,or_false]at hd;obtain⟨⟨⟨d0,d1⟩,d2⟩,d3⟩:=hd;have k2:(s.fs f).contains t=false:=by
    cases hq:(s.fs f).contains t with
    |false=>rfl
    |true=>exact absurd ⟨t,ht,hq⟩ hr
   refine⟨k2,by simpa using d1,?_⟩;simp only[List.contains_eq_mem,decide_eq_false_iff_not]at d2 d3;simp[d2,d3]
 case indexAddr ty x y=>
  have e1:execOp a.eval o=(do pure (.value (<-Instr.indexAt ty (a.eval x) (a.eval y)))):=by unfold execOp;rw[hop]
  unfold Sg.qc at hd;rw[hop]at hd;by_cases hr:∃t,o.dst=some t/\(s.xR f).contains t=true
  ·obtain⟨t,ht,hc⟩:=hr;rw[ht]at hd;simp only[Bool.and_eq_true,Bool.or_eq_true,Bool.not_eq_true',Bool.false_eq_true,or_false]at hd;obtain⟨⟨⟨d0,d1⟩,d2⟩,d3⟩:=hd;rw[hc]at d3;simp only[Bool.true_eq_false,false_or]at d3;rw[e1]at e;obtain⟨v,rfl,e2⟩:=qo e;cases x with
   |tmp u=>
    have hu:u∈s.xQ f++s.xR f:=by simp at d3;simp[d3]
    obtain⟨hb,hnf⟩:=ah3 ty _ _ w v w' e2;have x1:=NM.ext (Nm.out:NM false (Instr.indexAt ty (a.eval (.tmp u)) (a.eval y))) e2;have hs1:=hs.mono x1;refine⟨fun v' hv'=>?_,fun h=>by cases h⟩;cases hv';refine⟨hs1.put (fun _ _ _ fn p q he=>(hnf fn p q he).elim) (fun t' ht' ho=>?_) (fun t' ht' hm b hb'=>?_),.of x1 hh⟩
    ·rw[ht]at ht';cases ht';have:(s.own f).contains t=true:=by simpa using ho
     rw[d1]at this;cases this
    ·rw[hb]at hb';refine⟨hs1.row u hu b hb',fun t2 ht2 hc2=>?_⟩;exact(hs1.own t2 ht2 b hc2).2.2 u hu hb'
   |_=>cases d3
  ·refine rd (x:=Instr.indexAt ty (a.eval x) (a.eval y)) inferInstance e1 fun t ht=>?_
   rw[ht]at hd;simp only[Bool.and_eq_true,Bool.or_eq_true,Bool.not_eq_true',Bool.false_eq_true,or_false]at hd;obtain⟨⟨⟨d0,d1⟩,d2⟩,d3⟩:=hd;have k2:(s.xR f).contains t=false:=by
    cases hq:(s.xR f).contains t with
    |false=>rfl
    |true=>exact absurd ⟨t,ht,hq⟩ hr
   refine⟨d0,by simpa using d1,?_⟩;simp only[List.contains_eq_mem,decide_eq_false_iff_not]at d2 k2;simp[d2,k2]
 all_goals
  have hbare:s.bare f o:=fun t ht=>by
   unfold Sg.qc at hd;rw[ht,hop]at hd;simp only[Bool.and_eq_true,Bool.or_eq_true,Bool.not_eq_true',Bool.false_eq_true,or_false]at hd;obtain⟨⟨⟨d0,d1⟩,d2⟩,d3⟩:=hd;refine⟨d0,by simpa using d1,?_⟩;simp only[List.contains_eq_mem,decide_eq_false_iff_not]at d2 d3;simp[d2,d3]
 case build ty ps=>exact rd (x:=Instr.build ty (ps.map fun(i,x)=>(i,a.eval x))) inferInstance (by unfold execOp;rw[hop]) hbare
 case unOp op ty x=>exact rd (x:=Op.unary op (a.eval x)) inferInstance (by unfold execOp;rw[hop]) hbare
 case fieldAddr ty x n=>exact rd (x:=Instr.fieldAt ty (a.eval x) n) inferInstance (by unfold execOp;rw[hop]) hbare
 case field ty x n=>exact rd (x:=Instr.field ty (a.eval x) n) inferInstance (by unfold execOp;rw[hop]) hbare
 case index ty x y=>exact rd (x:=Instr.index ty (a.eval x) (a.eval y)) inferInstance (by unfold execOp;rw[hop]) hbare
 case extract x n=>exact rd (x:=Instr.extract (a.eval x) n) inferInstance (by unfold execOp;rw[hop]) hbare
 case binOp op ty x y ty2=>exact rd (x:=(do eqGuard op ty x y (a.eval x) (a.eval y);Go.binOp op ty (a.eval x) (a.eval y))) ⟨NM.bind Nm.out fun _=>Nm.out⟩ (by unfold execOp;rw[hop]) hbare
 case pick c x y=>
  have e1:execOp a.eval o=(do pure (.value (<-(do let b<-asBool (a.eval c);Pure.pure (if b then a.eval x else a.eval y):Sem Value)))):=by unfold execOp;rw[hop];simp
  exact rd ⟨NM.bind Nm.out fun _=>Nm.out⟩ e1 hbare
 case nilCheck x=>
  obtain⟨k1,k2⟩:=I5 (P:=P) hop (a:=a) (wr:=false);obtain⟨v,rfl⟩:=k2 w nx w' e;have x1:=k1.ext e;exact⟨fun v' hv=>by cases hv;exact⟨(hs.mono x1).free hbare v,.of x1 hh⟩,fun h=>by cases h⟩
 case store ty x y=>
  have e1:execOp a.eval o=(do Instr.storeAt ty (a.eval x) (a.eval y);pure .skip):=by unfold execOp;rw[hop]
  simp only[Sg.gop,hop]at hgo;cases x with
  |tmp u=>
   have hu:u∈s.own f:=by simpa using hgo
   rw[e1]at e;obtain⟨rfl,e2⟩:=Ed e;obtain⟨b,hb,hw⟩:=Uk (fun b hb=>(hs.own u hu b hb).2.1) e2;obtain⟨k1,k2,k3⟩:=hs.own u hu b hb;exact⟨fun v h=>(by cases h),fun _=>⟨(hs.wrote hw k3).free hbare _,.wrote hw k1⟩⟩
  |_=>cases hgo
 case call c=>
  simp only[Sg.gop,hop]at hgo;cases hc:c.callee with
  |invoke r n=>rw[hc]at hgo;cases hgo
  |builtin b=>
   rw[hc]at hgo;have e1:execOp a.eval o=Go.builtin b c.argTypes o.type (c.args.map fun|.const _=>true|_=>false) (c.args.map a.eval):=by
    obtain⟨ce,zZ9,ats⟩:=c;subst hc;unfold execOp;rw[hop];rfl
   cases b<;>(try(cases hgo;done))
   case copy=>
    dsimp only at hgo;cases hx:(c.args[0]?:Option Operand)with
    |none=>rw[hx]at hgo;cases hgo
    |some x=>
     rw[hx]at hgo;cases x with
     |tmp u=>
      have hu:u∈s.own f:=by simpa using hgo
      have e2:execOp a.eval o=(do pure (.value (<-Builtin.copy_ c.argTypes o.type (c.args.map a.eval)))):=e1;rw[e2]at e;obtain⟨v,rfl,e3⟩:=qo e;obtain⟨k1,k2,w1,x1,k3⟩:=YV (x:=a.eval (.tmp u)) (by simp[hx]) w v w' (fun b hb=>(hs.own u hu b hb).2.1) e3;have hs1:=hs.mono x1;refine⟨fun v' hv=>?_,fun h=>by cases h⟩;cases hv;rcases k3 with rfl|⟨b,hb,hw⟩
      ·exact⟨hs1.free hbare v,.of x1 hh⟩
      ·obtain⟨m1,m2,m3⟩:=hs1.own u hu b hb;exact⟨(hs1.wrote hw m3).free hbare v,(kN.of x1 hh).trans (.wrote hw m1)⟩
     |_=>cases hgo
   case len=>exact rd (x:=Builtin.len_ c.argTypes o.type (c.args.map a.eval)) inferInstance e1 hbare
  |value x=>
   have enter:(∃g zZ9,nx=.enter g zZ9)->(∀v,nx=.value v->SI s h w' f (a.put o.dst v).tmps/\kN h w w')/\(nx=.skip->SI s h w' f (a.put o.dst undef).tmps/\kN h w w'):=fun⟨g,zZ9,h⟩=>by
    subst h;exact⟨fun v h=>(by cases h),fun h=>by cases h⟩
   obtain⟨d1,-,ho⟩:=NJ H hs.sl he 0;have ho:=ho w nx w' e;rw[hc]at hgo;cases x with
   |func g=>
    have e1:execOp a.eval o=callFunc g (c.args.map a.eval):=by
     obtain⟨ce,zZ9,ats⟩:=c;have hc:ce=.value (.func g):=hc;subst hc;exact execOp_call_func hop
    simp only[Bool.and_eq_true,Bool.not_eq_true',bne_iff_ne,ne_eq]at hgo;unfold Sg.eff at he;rw[hop]at he;split at he
    ·cases he
    ·dsimp only at he;rw[hc]at he;dsimp only at he;rw[if_neg (by simp[hgo.1.2]),if_neg (by simp[hgo.2]),if_neg (by simp[hgo.1.1.2])]at he;split at he
     ·rename_i hx;simp only[Bool.and_eq_true,decide_eq_true_eq]at hx;rw[e1,Em H hx.1.1.1.1]at e;cases e;exact enter ⟨_,_,rfl⟩
     ·cases he
   |tmp t=>
    unfold Sg.eff at he;rw[hop]at he;split at he
    ·cases he
    ·dsimp only at he;rw[hc]at he;dsimp only at he;split at he
     ·rename_i ht;have e1:execOp a.eval o=(do let d<-Deferred.ofValue (a.eval (.tmp t)) (c.args.map a.eval);invoke d.target d.args):=by
       obtain⟨ce,zZ9,ats⟩:=c;subst hc;unfold execOp;rw[hop];rfl
      rw[e1]at e;rw[Bool.and_eq_true,Bool.or_eq_true,decide_eq_true_eq]at ht;obtain⟨-,g,bs,rfl,-⟩:=(TG H (hs.sl t ht.1) (c.args.map a.eval) (fun e=>by
       rcases ht.2 with h|h;· rw[e]at h;cases h
       ·simpa using h) 0).2 _ _ _ e
      exact enter ⟨_,_,rfl⟩
     ·cases he
   |_=>cases hgo
end
end Cc
end Go.Proofs.Ytpfpokjaeffbjab
