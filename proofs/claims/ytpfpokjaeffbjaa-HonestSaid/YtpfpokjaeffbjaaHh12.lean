/- Part of the proof: SaW, Sa3, Sa4, Lone, SaX, SaG, Run, Tail, VrfF. -/
import Derived.Test.YtpfpokjaeffbjaaHh0
import Derived.Test.YtpfpokjaeffbjaaHh11
import Derived.DyingOn
import Derived.Test.YtpfpokjaeffbjaaHh3
import Derived.Conc.Fork
import Derived.Test.YtpfpokjaeffbjaaHh5
import Derived.Laws.Externs
import Derived.Test.YtpfpokjaeffbjaaProg
import Derived.RowKit
import Derived.Test.YtpfpokjaeffbjaaHh7
set_option linter.unusedVariables false
set_option linter.unusedSimpArgs false
set_option maxRecDepth 100000
set_option maxHeartbeats 16000000
open Nat renaming le_refl→aH,le_trans→aY,zero_add→cZ
open Array renaming getD_eq_getD_getElem?→bF,getElem?_setIfInBounds→cn,getElem?_modify→dP,all_eq_true_iff_forall_mem→aV,replicate→bO
open Bool renaming and_eq_true→aD,or_eq_true→bf,not_eq_true'→bW,false_eq_true→aQ
open Go.Sem renaming run_bind→aO,run→cC
open Pure renaming pure→aX
open Go.Instr renaming alloc→dw,sureAddr→dM,loadAt→aT,storeAt→bJ
open Go.Result renaming andThen_ok→dB
open Go renaming unsupported→bX,results→bT
open List renaming contains_eq_mem→dg,range→bq,cons_append→bM,getElem?_eq_getElem→aN
open Go.Region renaming wanted→bg
open Go.GStep renaming after→dx
open Go.Frame renaming finish_at→dI,enter→bQ
open Go.MemOp renaming ofEvents→aA
open Go.Proofs.Try renaming prog→dS
namespace Go.Proofs.Ytpfpokjaeffbjaa
open Go renaming World→ae,Value→af,Goroutine→ah,Frame→ai,TypeId→aj,FuncId→ak,Program→au,undef→av,execOp→ax
open Go.Lib renaming hid→ay
namespace Cc
open Go.Conc
section
def blk:af->Option Nat
 |.pointer (some a)=>some a.block
 |.slice (some a) _ _=>some a.block
 |_=>none
def QN(w:ae)(b:Nat):Prop:=∃cs e z,w.heap[b]?=some (.cells cs e z)
structure SI(s:Sg)(h:Nat)(w:ae)(f:ak)(tmps:Array af):Prop where
 sl:∀t,(s.fs f).contains t=true->CV s f (tmps.getD t av)
 own:∀t∈s.own f,∀b,blk (tmps.getD t av)=some b->h<=b/\QN w b/\∀u∈s.wF f++s.wG f,blk (tmps.getD u av)≠some b
 row:∀u∈s.wF f++s.wG f,∀b,blk (tmps.getD u av)=some b->∃cs e z,w.heap[b]?=some (.cells cs e z)/\∀c∈cs,CV s f c
def kQ(h:Nat)(w w':ae):Prop:=h=0\/(w.heap.size<=w'.heap.size/\∀b,b<h->w'.heap[b]?=w.heap[b]?)
section
variable{s:Sg}{P:au}{f:ak}{o:Oper}{a:Act}{d d' h:Nat}{w w':ae}{tmps:Array af}
theorem kQ.of(e:nV w w')(hh:h<=w.heap.size):kQ h w w':=.inr ⟨e.1,fun b hb=>e.2 b (by omega)⟩
theorem kQ.refl(w:ae):kQ h w w:=.inr ⟨aH _,fun _ _=>rfl⟩
theorem QN.lt{b:Nat}(h:QN w b):b<w.heap.size:=by
 obtain⟨cs,e,z,h⟩:=h;exact(Array.getElem?_eq_some_iff.1 h).1
theorem QN.ext{b:Nat}(h:QN w b)(e:nV w w'):QN w' b:=by
 obtain⟨cs,e',z,h1⟩:=h;exact⟨cs,e',z,by rw[e.2 b (Array.getElem?_eq_some_iff.1 h1).1];exact h1⟩
theorem SI.mono(hs:SI s h w f tmps)(e:nV w w'):SI s h w' f tmps:=by
 refine⟨hs.sl,fun t ht b hb=>?_,fun u hu b hb=>?_⟩
 ·obtain⟨h1,h2,h3⟩:=hs.own t ht b hb;exact⟨h1,h2.ext e,h3⟩
 ·obtain⟨cs,e',z,h1,h2⟩:=hs.row u hu b hb;exact⟨cs,e',z,by rw[e.2 b (Array.getElem?_eq_some_iff.1 h1).1];exact h1,h2⟩
theorem SI.put(hs:SI s h w f a.tmps){v:af}(h1:∀t,o.dst=some t->(s.fs f).contains t=true->CV s f v)
  (h2:∀t,o.dst=some t->t∈s.own f->t∉s.wF f++s.wG f/\∀b,blk v=some b->h<=b/\QN w b/\∀u∈s.wF f++s.wG f,blk (a.tmps.getD u av)≠some b)
  (h3:∀t,o.dst=some t->t∈s.wF f++s.wG f->∀b,blk v=some b->(∃cs e z,w.heap[b]?=some (.cells cs e z)/\∀c∈cs,CV s f c)/\∀t'∈s.own f,blk (a.tmps.getD t' av)≠some b):SI s h w f (a.put o.dst v).tmps:=by
 cases hd:o.dst with
 |none=>exact hs
 |some t=>
  show SI s h w f (a.tmps.setIfInBounds t v);have get:∀t',(a.tmps.setIfInBounds t v).getD t' av=a.tmps.getD t' av\/(t'=t/\(a.tmps.setIfInBounds t v).getD t' av=v):=fun t'=>by
   by_cases e:t=t'
   ·subst e;by_cases hl:t<a.tmps.size
    ·exact .inr ⟨rfl,by simp[bF,cn,hl]⟩
    ·exact .inl (by simp[bF,cn,hl])
   ·exact .inl (by simp[bF,cn,e])
  refine⟨fun t' ht=>?_,fun t' ht b hb=>?_,fun u hu b hb=>?_⟩
  ·rcases get t' with e|⟨rfl,e⟩<;>rw[e]
   ·exact hs.sl t' ht
   ·exact h1 t' hd ht
  ·rcases get t' with e|⟨rfl,e⟩<;>rw[e]at hb
   ·obtain⟨k1,k2,k3⟩:=hs.own t' ht b hb;refine⟨k1,k2,fun u hu hc=>?_⟩;rcases get u with e2|⟨rfl,e2⟩<;>rw[e2]at hc
    ·exact k3 u hu hc
    ·exact(h3 u hd hu b hc).2 t' ht hb
   ·obtain⟨k0,k⟩:=h2 t' hd ht;obtain⟨k1,k2,k3⟩:=k b hb;refine⟨k1,k2,fun u hu hc=>?_⟩;rcases get u with e2|⟨rfl,e2⟩<;>rw[e2]at hc
    ·exact k3 u hu hc
    ·exact k0 hu
  ·rcases get u with e|⟨rfl,e⟩<;>rw[e]at hb
   ·exact hs.row u hu b hb
   ·exact(h3 u hd hu b hb).1
def Sg.bare(s:Sg)(f:ak)(o:Oper):Prop:=∀t,o.dst=some t->(s.fs f).contains t=false/\t∉s.own f/\t∉s.wF f++s.wG f
theorem SI.free(hs:SI s h w f a.tmps)(hb:s.bare f o)(v:af):SI s h w f (a.put o.dst v).tmps:=
 hs.put (fun t e k=>by rw[(hb t e).1]at k;cases k) (fun t e k=>((hb t e).2.1 k).elim) fun t e k=>((hb t e).2.2 k).elim
theorem SI.none(hs:SI s h w f a.tmps)(hd:s.oM f o=true){v:af}(hv:∀fn x y,v≠ .func fn x y)(hb:blk v=none):SI s h w f (a.put o.dst v).tmps:=by
 refine hs.put (fun t e k fn x y he=>(hv _ _ _ he).elim) (fun t e k=>⟨fun hm=>?_,fun b hb'=>by rw[hb]at hb';cases hb'⟩) fun t e k b hb'=>by rw[hb]at hb';cases hb'
 unfold Sg.oM at hd;rw[e]at hd;simp only[aD,bf,bW]at hd;obtain⟨⟨⟨-,d1⟩,d2⟩,d3⟩:=hd;have k':(s.own f).contains t=true:=by simpa using k
 rw[k']at d1;rcases List.mem_append.1 hm with hm|hm
 ·have hm':(s.wF f).contains t=true:=by simpa using hm
  rw[hm']at d2;simp only[Bool.true_eq_false,false_or]at d1 d2;cases ho:o.op<;>rw[ho]at d1 d2<;>first|(cases d2;done)|(cases d1;done)
 ·have hm':(s.wG f).contains t=true:=by simpa using hm
  rw[hm']at d3;simp only[Bool.true_eq_false,false_or]at d1 d3;cases ho:o.op<;>rw[ho]at d1 d3<;>first|(cases d3;done)|(cases d1;done)
def Fr(P:au)(x:Sem af):Prop:=∀w v w',x.run P w=.ok v w'->∃(w0:ae) (o:Obj),nV w w0/\w'={w0 with heap:=w0.heap.push o}/\(∃cs e z,o=.cells cs e z)/\blk v=some w0.heap.size
theorem Fr.bind{α:Type}{y:Sem α}{k:α->Sem af}(h:NM false y)(hk:∀a,Fr P (k a)):Fr P (y>>=k):=by
 intro w v w' e;rw[aO]at e;cases hy:y.run P w with
 |halt hh w1=>rw[hy]at e;cases e
 |ok a w1=>
  rw[hy]at e;obtain⟨w0,o,h1,h2⟩:=hk a w1 v w' e;exact⟨w0,o,(h.ext hy).trans h1,h2⟩
theorem Fr.ite{c:Prop} [Decidable c]{x y:Sem af}(h1:Fr P x)(h2:Fr P y):Fr P (if c then x else y):=by
 by_cases h:c
 ·rw[if_pos h];exact h1
 ·rw[if_neg h];exact h2
theorem Fr.new(e:aj)(cs:Array af){k:Addr->af}(hk:∀b,blk (k ⟨b,0,Option.none⟩)=some b):Fr P (do let a<-newRow e cs;aX (k a)):=by
 intro w v w' h;have:(do let a<-newRow e cs;aX (k a):Sem af).run P w=.ok (k ⟨w.heap.size,0,Option.none⟩) {w with heap:=w.heap.push (.cells cs e)}:=by
  simp[newRow,newObj,cC]
 rw[this]at h;cases h;exact⟨w,_,.refl w,rfl,⟨cs,e,_,rfl⟩,hk _⟩
theorem Fr.stuck(m:String):Fr P (Go.stuck m):=fun w v w' h=>by cases h
theorem Fr.panic(m:String):Fr P (Go.runtimePanic (.error m)):=fun w v w' h=>by simp[runtimePanic,goPanic]at h
theorem Ug(t:aj):Fr P (dw t true (.tuple #[])):=by
 unfold dw;exact Fr.bind Nm.out fun z=>by dsimp only;unfold newVar;exact Fr.new _ _ (k:=fun a=>.pointer (some a)) fun _=>rfl
theorem as5(t:aj)(v:af):Fr P (Instr.box t v):=by
 unfold Instr.box newVar;exact Fr.new _ _ (k:=fun a=>.pointer (some a)) fun _=>rfl
theorem GN(t:aj)(x y:af):Fr P (Instr.makeSlice t x y):=by
 unfold Instr.makeSlice;repeat' (first
  |exact Fr.panic _
  |exact Fr.stuck _
  |exact Fr.new _ _ (k:=fun a=>.slice (some a) _ _) fun _=>rfl
  |(refine Fr.bind Nm.out fun _=>?_)
  |(refine Fr.ite ?_ ?_)
  |split
  |dsimp only)
theorem V8{t:aj}{dd:TypeDesc}(e:(underlying t).run P w=.ok dd w'):P.underlying t=some dd/\w'=w:=by
 simp only[underlying,program,aO,cC,dB]at e;cases hu:P.underlying t with
 |none=>rw[hu]at e;simp[Go.stuck]at e
 |some d=>rw[hu]at e;simp at e<;>exact⟨by rw[e.1],e.2.symm⟩
theorem Iw{t:aj}{i:TypeInfo}(e:(typeInfo t).run P w=.ok i w'):P.info? t=some i/\w'=w:=by
 simp only[typeInfo,program,aO,cC,dB]at e;cases hu:P.info? t with
 |none=>rw[hu]at e;simp[Go.stuck]at e
 |some d=>rw[hu]at e;simp at e<;>exact⟨by rw[e.1],e.2.symm⟩
theorem RQ{t:aj}{z:af}(e:(zeroValue t).run P w=.ok z w'):∃i,P.info? t=some i/\i.zero=some z:=by
 simp only[zeroValue,aO]at e;cases hi:(typeInfo t).run P w with
 |halt hh w1=>rw[hi]at e;cases e
 |ok i w1=>
  rw[hi]at e;simp only[dB]at e;cases hz:i.zero with
  |none=>rw[hz]at e;simp[bX]at e
  |some v=>rw[hz]at e;simp at e<;>exact⟨i,(Iw hi).1,by rw[hz,e.1]⟩
theorem Jp{place:Nat->Option (Nat×Nat)}:∀{l:List (Nat×af)} {cells out:Array af},Instr.fill place cells l=some out->∀c∈out,c∈cells\/∃p∈l,c∈p.2.cells
 |[],cells,out,e,c,hc=>by unfold Instr.fill at e;cases e;exact .inl hc
 |(i,v)::l,cells,out,e,c,hc=>by
  unfold Instr.fill at e;split at e
  ·cases e
  ·rename_i off size hp;split at e
   ·cases e
   ·rcases Jp e c hc with h1|⟨p,h1,h2⟩
    ·have key:∀(xs:List (af×Nat)) (cs:Array af),c∈xs.foldl (fun cs (x:af×Nat)=>cs.setIfInBounds (off+x.2) x.1) cs->c∈cs\/∃x∈xs,c=x.1:=by
      intro xs;induction xs with
      |nil=>intro cs h;exact .inl h
      |cons x xs ih=>
       intro cs h;rcases ih _ h with h|⟨y,h3,h4⟩
       ·rcases Array.mem_or_eq_of_mem_setIfInBounds h with h|h
        ·exact .inl h
        ·exact .inr ⟨x,by simp,h⟩
       ·exact .inr ⟨y,by simp[h3],h4⟩
     rw[<-Array.foldl_toList]at h1;rcases key _ _ h1 with h1|⟨x,hx,hcx⟩
     ·exact .inl h1
     ·refine .inr ⟨(i,v),by simp,?_⟩;have hx:(x.1,x.2)∈v.cells.zipIdx:=by
       rw[<-Array.mem_toList_iff];exact hx
      have:=Array.mem_zipIdx hx
      rw[hcx,this.2.2];exact Array.getElem_mem _
    ·exact .inr ⟨p,by simp[h1],h2⟩
theorem Pt(H:wh s P){ty:aj}(hty:s.Wa.contains ty=true){n:Nat}{ps:Array (Nat×af)}(hp:∀p∈ps,∃g,p.2=.func (.func g) #[] #[]/\s.cl f g=true){v:af}(e:(Instr.buildSlice ty n ps).run P w=.ok v w'):
  ∃(w0:ae) (cs:Array af) (el:aj),nV w w0/\w'={w0 with heap:=w0.heap.push (.cells cs el)}/\blk v=some w0.heap.size/\∀c∈cs,CV s f c:=by
 unfold Instr.buildSlice at e;simp only[aO]at e;cases hu:(underlying ty).run P w with
 |halt hh w1=>rw[hu]at e;cases e
 |ok dd w1=>
  rw[hu]at e;simp only[dB]at e;obtain⟨hu1,rfl⟩:=V8 hu;cases dd with
  |slice el=>
   dsimp only at e;simp only[aO]at e;cases hz:(sizeOf el).run P w1 with
   |halt hh w2=>rw[hz]at e;cases e
   |ok n2 w2=>
    rw[hz]at e;simp only[dB]at e;have x2:nV w1 w2:=NM.ext (Nm.out:NM false (sizeOf el)) hz;split at e
    ·simp[bX]at e
    ·have fin:∀(zero:Array af) (w3:ae),nV w1 w3->(∀c∈zero,∀fn x y,c≠ .func fn x y)->(match Instr.fill (fun i=>some (i*n2,n2)) ((Array.range (n*n2)).map (zero[·%zero.size]!)) ps.toList with
       |some cells=>do aX (.slice (some (<-newRow el cells)) n n)
       |_=>Go.stuck "buildSlice: a part of the wrong size" :Sem af).run P w3=.ok v w'->
       ∃(w0:ae) (cs:Array af) (el:aj),nV w1 w0/\w'={w0 with heap:=w0.heap.push (.cells cs el)}/\blk v=some w0.heap.size/\∀c∈cs,CV s f c:=by
      intro zero w3 x3 hzero e;split at e
      ·rename_i cells aR7;simp[newRow,newObj,cC]at e;obtain⟨rfl,rfl⟩:=e;refine⟨w3,cells,el,x3,rfl,rfl,fun c hc=>?_⟩;rcases Jp aR7 c hc with h1|⟨p,h1,h2⟩
       ·obtain⟨k,_,rfl⟩:=Array.mem_map.1 h1;intro fn x y he;exfalso;by_cases hk:k%zero.size<zero.size
        ·rw[getElem!_pos zero _ hk]at he;exact hzero _ (Array.getElem_mem hk) fn x y he
        ·rw[getElem!_neg zero _ hk]at he;cases he
       ·obtain⟨g,h3,h4⟩:=hp p (by simpa using h1);rw[h3]at h2;have:c=.func (.func g) #[] #[]:=by simpa [Value.cells]using h2
        rw[this];exact CV.func h4 fun _=>⟨rfl,rfl⟩
      ·simp[Go.stuck]at e
     by_cases h0:n*n2=0
     ·rw[if_pos h0]at e;exact fin #[] w2 x2 (fun c hc=>by simp at hc) e
     ·rw[if_neg h0,aO]at e;cases hv:(zeroValue el).run P w2 with
      |halt hh w4=>rw[hv]at e;cases e
      |ok z w4=>
       rw[hv]at e;obtain⟨i,h1,h2⟩:=RQ hv;exact fin z.cells w4 (x2.trans (NM.ext (Nm.out:NM false (zeroValue el)) hv)) (H.row ty hty el hu1 i z h1 h2) e
  |_=>simp[Go.stuck]at e
theorem add_block(a:Addr)(n:Nat):(a.add n).block=a.block:=by unfold Addr.add;split<;>rfl
def Po{α:Type}(P:au)(Q:α->Prop)(x:Sem α):Prop:=∀w v w',x.run P w=.ok v w'->Q v
theorem Po.bind{α β:Type}{R:α->Prop}{Q:β->Prop}{y:Sem α}{k:α->Sem β}(h:Po P R y)(hk:∀a,R a->Po P Q (k a)):Po P Q (y>>=k):=by
 intro w v w' e;rw[aO]at e;cases hy:y.run P w with
 |halt hh w1=>rw[hy]at e;cases e
 |ok a w1=>rw[hy]at e;exact hk a (h w a w1 hy) w1 v w' e
theorem Po.Ac{α β:Type}{Q:β->Prop}{y:Sem α}{k:α->Sem β}(hk:∀a,Po P Q (k a)):Po P Q (y>>=k):=Po.bind (R:=fun _=>True) (fun _ _ _ _=>trivial) fun a _=>hk a
theorem Po.pure{α:Type}{Q:α->Prop}{a:α}(h:Q a):Po P Q (aX a:Sem α):=fun w v w' e=>by simp at e;rw[<-e.1];exact h
theorem Po.ite{α:Type}{Q:α->Prop}{c:Prop} [Decidable c]{x y:Sem α}(h1:Po P Q x)(h2:Po P Q y):Po P Q (if c then x else y):=by
 by_cases h:c
 ·rw[if_pos h];exact h1
 ·rw[if_neg h];exact h2
theorem Po.stuck{α:Type}{Q:α->Prop}(m:String):Po P Q (Go.stuck m:Sem α):=fun w v w' h=>by cases h
theorem Po.YI{α:Type}{Q:α->Prop}(m:Unsupported):Po P Q (bX m:Sem α):=fun w v w' h=>by cases h
theorem Po.bounds{α:Type}{Q:α->Prop}{k:IntKind}{x y:Int}{c:BoundsCode}:Po P Q (boundsPanic k x y c:Sem α):=by
 unfold boundsPanic;have rp:∀b,Po P Q (Go.runtimePanic (.bounds (IntKind.i64.wrap x) y b c):Sem α):=fun b w v w' h=>by simp[runtimePanic,goPanic]at h
 dsimp only;refine Po.ite (Po.Ac fun _=>rp _) (Po.Ac fun _=>rp _)
theorem Xk(ty:aj)(x i:af):Po P (fun v=>blk v=blk x/\∀fn a b,v≠ .func fn a b) (Instr.indexAt ty x i):=by
 unfold Instr.indexAt;refine Po.Ac fun⟨k,n⟩=>?_;refine Po.Ac fun dd=>?_;have fin:∀(a:Addr) (m:Nat),blk x=some a.block->(blk (.pointer (some (a.add m)))=blk x/\∀fn y b,Value.pointer (some (a.add m))≠ .func fn y b):=fun a m h=>⟨by rw[h];show some _=_;rw[add_block],fun fn y b h=>by cases h⟩;split
 ·refine Po.bind (R:=fun a:Addr=>blk x=some a.block) (fun w v w' e=>?_) fun a ha=>?_
  ·cases x with
   |pointer p=>cases p with
    |none=>simp[dM,Go.stuck]at e
    |some a=>simp[dM]at e;rw[<-e.1];rfl
   |_=>simp[dM,Go.stuck]at e
  ·refine Po.bind (R:=fun p:Option Addr×Nat×aj=>∀a,p.1=some a->blk x=some a.block) (Po.pure fun a' h=>by cases h;exact ha) fun p hp=>?_;refine Po.Ac fun dd=>?_;dsimp only;split
   ·rename_i a' he;refine Po.ite (Po.Ac fun m=>Po.pure (fin _ _ (hp _ he))) (Po.ite (Po.YI _) Po.bounds)
   ·exact Po.bounds
 ·rename_i base len cap;refine Po.bind (R:=fun p:Option Addr×Nat×aj=>∀a,p.1=some a->blk (.slice base len cap)=some a.block) (Po.pure fun a' h=>by cases h;rfl) fun p hp=>?_;refine Po.Ac fun dd=>?_;dsimp only;split
  ·rename_i a' he;refine Po.ite (Po.Ac fun m=>Po.pure (fin _ _ (hp _ he))) (Po.ite (Po.YI _) Po.bounds)
  ·exact Po.bounds
 ·exact Po.bind (R:=fun _=>False) (Po.stuck _) fun _ h=>h.elim
theorem S6{ty:aj}{x v:af}(hx:∀b,blk x=some b->∃cs e z,w.heap[b]?=some (.cells cs e z)/\∀c∈cs,CV s f c)(e:(aT ty x).run P w=.ok v w'):CV s f v:=by
 unfold aT at e;rw[aO]at e;cases x with
 |pointer p=>cases p with
  |none=>simp[dM,Go.stuck]at e
  |some a=>
   simp only[dM,Sem.run_pure,dB]at e;obtain⟨cs,el,z,h1,h2⟩:=hx a.block rfl;unfold loadVar at e;rw[aO]at e;cases hg:(isAgg ty).run P w with
   |halt hh w1=>rw[hg]at e;cases e
   |ok g w1=>
    rw[hg]at e;have x1:nV w w1:=NM.ext (Nm.out:NM false (isAgg ty)) hg;simp only[dB]at e;cases g with
    |true=>
     simp only[if_true,aO]at e;cases h3:(sizeOf ty).run P w1 with
     |halt hh w2=>rw[h3]at e;cases e
     |ok m w2=>
      rw[h3]at e;simp only[dB]at e;cases h4:(loadCells a m).run P w2 with
      |halt hh w3=>rw[h4]at e;cases e
      |ok l w3=>
       rw[h4]at e;simp at e;rw[<-e.1];intro fn x y he;cases he
    |false=>
     have h1':w1.heap[a.block]?=some (.cells cs el z):=by rw[x1.2 _ (Array.getElem?_eq_some_iff.1 h1).1];exact h1
     have e:(load a).run P w1=.ok v w':=e;unfold load at e;simp only[cC]at e;cases hc:w1.cell? a with
     |none=>
      rw[hc]at e;have:∃hh,w1.farLoad P a false=.error hh:=by
       unfold World.farLoad;rw[h1'];exact⟨_,rfl⟩
      obtain⟨hh,this⟩:=this;have e':(match w1.farLoad P a false with
       |.ok (v,_)=>(Sem.pure v:Sem af).run P w1
       |.error h=>.halt h w1)=.ok v w':=e
      rw[this]at e';cases e'
     |some c=>
      rw[hc]at e;simp[cC]at e;rw[<-e.1];unfold World.cell? at hc;rw[h1']at hc;dsimp only at hc;split at hc
      ·cases hc
      ·exact h2 c (Array.mem_of_getElem? hc)
 |_=>simp[dM,Go.stuck]at e
def KQ(b:Nat)(w w':ae):Prop:=w'.heap.size=w.heap.size/\(∀c,c≠b->w'.heap[c]?=w.heap[c]?)/\(QN w b->QN w' b)
theorem KQ.refl(b:Nat)(w:ae):KQ b w w:=⟨rfl,fun _ _=>rfl,id⟩
theorem KQ.trans{b:Nat}{x y z:ae}(h:KQ b x y)(k:KQ b y z):KQ b x z:=⟨k.1.trans h.1,fun c hc=>(k.2.1 c hc).trans (h.2.1 c hc),fun hx=>k.2.2 (h.2.2 hx)⟩
theorem KQ.set(w:ae)(a:Addr)(v:af):KQ a.block w (w.setCell a v):=by
 refine⟨by simp[World.setCell],fun c hc=>?_,fun⟨cs,e,z,h⟩=>?_⟩
 ·simp only[World.setCell];rw[dP,if_neg (Ne.symm hc)]
 ·simp only[World.setCell];refine⟨if a.spot.isSome then cs else cs.setIfInBounds a.off v,e,z,?_⟩;show(w.heap.modify _ _)[a.block]?=_;rw[dP,if_pos rfl,h];rfl
theorem RH{a:Addr}{v:af}{u:Unit}(hc:QN w a.block)(e:(store a v).run P w=.ok u w'):KQ a.block w w':=by
 unfold store at e;obtain⟨cs,el,z,h1⟩:=hc;have main:∀v:af,(Sem.store .plain a v (.pure ()):Sem Unit).run P w=(match w.cell? a with
   |some _=>if w.frozen? a then Result.halt (.unsupported (.unsafePointer "a write to bytes that a string shares")) w else(Sem.pure ():Sem Unit).run P (w.setCell a v)
   |none=>match w.farStore P a v false with
    |.ok (w,_)=>(Sem.pure ():Sem Unit).run P w
    |.error h=>.halt h w)->(Sem.store .plain a v (.pure ()):Sem Unit).run P w=.ok u w'->KQ a.block w w':=fun v e1 e=>by
  rw[e1]at e;cases hc:w.cell? a with
  |some x=>
   rw[hc]at e;dsimp only at e;split at e
   ·cases e
   ·simp[cC]at e;rw[<-e];exact KQ.set w a v
  |none=>
   rw[hc]at e;have:∃hh,w.farStore P a v false=.error hh:=by
    unfold World.farStore;rw[h1];exact⟨_,rfl⟩
   obtain⟨hh,this⟩:=this;rw[this]at e;cases e
 cases v<;>first
  |(simp only[cC]at e;cases e;done)
  |exact main _ rfl e
theorem pJ{a:Addr}:∀(vs:List af) (i:Nat) {w w':ae} {u:Unit},QN w a.block->(storeCells a vs i).run P w=.ok u w'->KQ a.block w w'
 |[],i,w,w',u,hc,e=>by unfold storeCells at e;simp at e;rw[<-e];exact .refl _ _
 |v::vs,i,w,w',u,hc,e=>by
  unfold storeCells at e;rw[aO]at e;cases h1:(store (a.add i) v).run P w with
  |halt hh w1=>rw[h1]at e;cases e
  |ok u1 w1=>
   rw[h1]at e;simp only[dB]at e;have k1:=RH (a:=a.add i) (by rw[add_block];exact hc) h1;rw[add_block]at k1;exact k1.trans (pJ vs (i+1) (k1.2.2 hc) e)
theorem O9{ty:aj}{x v:af}{u:Unit}(hx:∀b,blk x=some b->QN w b)(e:(bJ ty x v).run P w=.ok u w'):∃b,blk x=some b/\KQ b w w':=by
 unfold bJ at e;rw[aO]at e;cases x with
 |pointer p=>cases p with
  |none=>simp[dM,Go.stuck]at e
  |some a=>
   simp only[dM,Sem.run_pure,dB]at e;refine⟨a.block,rfl,?_⟩;unfold storeVar at e;rw[aO]at e;cases hz:(sizeOf ty).run P w with
   |halt hh w1=>rw[hz]at e;cases e
   |ok m w1=>
    rw[hz]at e;simp only[dB]at e;have e1:w1=w:=by
     simp only[sizeOf,aO]at hz;cases hi:(typeInfo ty).run P w with
     |halt hh w2=>rw[hi]at hz;cases hz
     |ok i w2=>rw[hi]at hz;simp at hz;rw[<-hz.2];exact(Iw hi).2
    subst e1;split at e
    ·simp[Go.stuck]at e
    ·exact pJ _ _ (hx a.block rfl) e
 |_=>simp[dM,Go.stuck]at e
def Cp(P:au)(X:af)(x:Sem af):Prop:=∀w v w',(∀b,blk X=some b->QN w b)->x.run P w=.ok v w'->blk v=none/\(∀fn a b,v≠ .func fn a b)/\∃w1,nV w w1/\(w'=w1\/∃b,blk X=some b/\KQ b w1 w')
theorem Cp.bind{α:Type}{X:af}{y:Sem α}{k:α->Sem af}(h:NM false y)(hk:∀a,Cp P X (k a)):Cp P X (y>>=k):=by
 intro w v w' hx e;rw[aO]at e;cases hy:y.run P w with
 |halt hh w1=>rw[hy]at e;cases e
 |ok a w1=>
  rw[hy]at e;have x1:=h.ext hy;obtain⟨k1,k2,w2,k3,k4⟩:=hk a w1 v w' (fun b hb=>(hx b hb).ext x1) e;exact⟨k1,k2,w2,x1.trans k3,k4⟩
theorem UD{ats:Array aj}{t:aj}{args:Array af}{x:af}(hx:args[0]?=some x):Cp P x (Builtin.copy_ ats t args):=by
 have stk:∀{m:String},Cp P x (Go.stuck m):=fun w v w' _ h=>by cases h
 unfold Builtin.copy_;dsimp only;rw[hx];split
 ·rename_i h1;simp only[Prod.mk.injEq]at h1;obtain⟨-,h1,-⟩:=h1;cases h1;refine Cp.bind Nm.out fun dd=>?_;split
  ·split
   ·refine Cp.bind Nm.out fun n=>?_;refine Cp.bind Nm.out fun m=>?_;refine Cp.bind Nm.out fun cells=>?_;split
    ·rename_i ad;intro w v w' hx e;rw[aO]at e;cases h2:(storeCells ad cells.toList).run P w with
     |halt hh w1=>rw[h2]at e;cases e
     |ok u w1=>
      rw[h2]at e;simp at e;obtain⟨rfl,rfl⟩:=e;exact⟨rfl,fun _ _ _ h=>(by cases h),w,.refl w,.inr ⟨ad.block,rfl,pJ _ _ (hx _ rfl) h2⟩⟩
    ·intro w v w' hx e;simp at e;obtain⟨rfl,rfl⟩:=e;exact⟨rfl,fun _ _ _ h=>(by cases h),w,.refl w,.inl rfl⟩
   ·exact stk
  ·exact stk
 ·exact stk
theorem SI.wrote{b:Nat}(hs:SI s h w f tmps)(hw:KQ b w w')(hb:∀u∈s.wF f++s.wG f,blk (tmps.getD u av)≠some b):SI s h w' f tmps:=by
 refine⟨hs.sl,fun t ht c hc=>?_,fun u hu c hc=>?_⟩
 ·obtain⟨h1,h2,h3⟩:=hs.own t ht c hc;refine⟨h1,?_,h3⟩;by_cases e:c=b
  ·subst e;exact hw.2.2 h2
  ·obtain⟨cs,el,z,k⟩:=h2;exact⟨cs,el,z,by rw[hw.2.1 c e];exact k⟩
 ·obtain⟨cs,el,z,k1,k2⟩:=hs.row u hu c hc;have e:c≠b:=fun e=>hb u hu (e ▸ hc);exact⟨cs,el,z,by rw[hw.2.1 c e];exact k1,k2⟩
theorem kQ.wrote{b:Nat}(hw:KQ b w w')(hb:h<=b):kQ h w w':=.inr ⟨Nat.le_of_eq hw.1.symm,fun c hc=>hw.2.1 c (by omega)⟩
theorem kQ.trans{w1 w2 w3:ae}(a:kQ h w1 w2)(b:kQ h w2 w3):kQ h w1 w3:=by
 rcases a with a|a
 ·exact .inl a
 ·rcases b with b|b
  ·exact .inl b
  ·exact .inr ⟨aY a.1 b.1,fun c hc=>(b.2 c hc).trans (a.2 c hc)⟩
theorem LY(hg:s.vX f=false):s.own f=[]/\s.wF f=[]/\s.wG f=[]:=by
 simp only[Sg.vX,Bool.or_eq_false_iff,Bool.not_eq_false',List.isEmpty_iff]at hg;exact⟨hg.1.1.2,hg.1.2,hg.2⟩
theorem J4(hs:SI s h w f a.tmps)(he:s.Kc f o d=some d')(hg:s.vX f=false){nx:Next}(e:(ax a.eval o).run P w=.ok nx w')(w2:ae):(∀v,nx=.value v->SI s 0 w2 f (a.put o.dst v).tmps)/\SI s 0 w2 f (a.put o.dst av).tmps:=by
 obtain⟨l1,l2,l3⟩:=LY hg;obtain⟨hd,-⟩:=uT he;have hs0:SI s 0 w2 f a.tmps:=⟨hs.sl,fun t ht=>by rw[l1]at ht;simp at ht,fun u hu=>by rw[l2,l3]at hu;simp at hu⟩;have fin:∀v,(∀t,o.dst=some t->(s.fs f).contains t=true->CV s f v)->SI s 0 w2 f (a.put o.dst v).tmps:=fun v h1=>hs0.put h1 (fun t _ k=>by rw[l1]at k;simp at k) fun t _ k=>by rw[l2,l3]at k;simp at k
 refine⟨fun v hv=>fin v fun t ht hc=>?_,fin av fun _ _ _=>CV.undef⟩;subst hv;unfold Sg.oM at hd;rw[ht]at hd;simp only[aD,bf,bW,hc,Bool.true_eq_false,false_or]at hd;obtain⟨⟨⟨d0,-⟩,-⟩,-⟩:=hd;unfold ax at e;cases hop:o.op<;>rw[hop]at d0 e<;>(try dsimp only at d0 e)<;>try(cases d0;done)
 case move x=>simp at e;rw[<-e.1];exact M7 hs.sl d0
 case assign x=>simp at e;rw[<-e.1];exact M7 hs.sl d0
 case load ty x=>
  cases x with
  |tmp u=>rw[l3]at d0;simp at d0
  |_=>cases d0
 case makeFunc fn x y=>
  cases fn with
  |func g=>simp[Instr.makeFunc]at e;rw[<-e.1];exact CV.func d0 fun e=>by rw[hg]at e;cases e
  |_=>cases d0
theorem XU(H:wh s P)(hs:SI s h w f a.tmps)(he:s.Kc f o d=some d')(hg:s.vX f=true)(hh:h<=w.heap.size){nx:Next}(e:(ax a.eval o).run P w=.ok nx w'):(∀v,nx=.value v->SI s h w' f (a.put o.dst v).tmps/\kQ h w w')/\(nx=.skip->SI s h w' f (a.put o.dst av).tmps/\kQ h w w'):=by
 obtain⟨hd,hgo⟩:=uT he;have hgo:=hgo hg;have non:∀{v:af},(∀fn x y,v≠ .func fn x y)->blk v=none->∀{w2},SI s h w2 f a.tmps->SI s h w2 f (a.put o.dst v).tmps:=fun h1 h2 _ hs=>hs.none hd h1 h2;have rd:∀{x:Sem af},Nm false x->ax a.eval o=(do pure (.value (<-x)))->s.bare f o->(∀v,nx=.value v->SI s h w' f (a.put o.dst v).tmps/\kQ h w w')/\(nx=.skip->SI s h w' f (a.put o.dst av).tmps/\kQ h w w'):=fun{x} hx e1 hb=>by
  rw[e1]at e;obtain⟨v,rfl,e2⟩:=oV e;have x1:=hx.out.ext e2;exact⟨fun v' hv=>by cases hv;exact⟨(hs.mono x1).free hb v,.of x1 hh⟩,fun h=>by cases h⟩
 have now:∀{v:af},ax a.eval o=(aX (.value v):Sem Next)->SI s h w f (a.put o.dst v).tmps->(∀v,nx=.value v->SI s h w' f (a.put o.dst v).tmps/\kQ h w w')/\(nx=.skip->SI s h w' f (a.put o.dst av).tmps/\kQ h w w'):=fun{v} e1 k=>by
  rw[e1]at e;simp at e;obtain⟨rfl,rfl⟩:=e;exact⟨fun v' hv=>by cases hv;exact⟨k,.refl _⟩,fun h=>by cases h⟩
 have fresh:∀{x:Sem af},Fr P x->ax a.eval o=(do pure (.value (<-x)))->(∀t,o.dst=some t->(s.fs f).contains t=false/\t∉s.wF f++s.wG f)->(∀v,nx=.value v->SI s h w' f (a.put o.dst v).tmps/\kQ h w w')/\(nx=.skip->SI s h w' f (a.put o.dst av).tmps/\kQ h w w'):=fun{x} hx e1 hb=>by
  rw[e1]at e;obtain⟨v,rfl,e2⟩:=oV e;obtain⟨w0,ob,x1,rfl,⟨cs,el,z,rfl⟩,hv⟩:=hx w v w' e2;have x2:=nV.new w0 (.cells cs el z);have hs1:=hs.mono x1;refine⟨fun v' hv'=>?_,fun h=>by cases h⟩;cases hv';refine⟨(hs1.mono x2).put (fun t ht hc=>by rw[(hb t ht).1]at hc;cases hc) (fun t ht ho=>⟨(hb t ht).2,fun b hb'=>?_⟩) (fun t ht hm=>((hb t ht).2 hm).elim),.of (x1.trans x2) hh⟩;rw[hv]at hb';cases hb';refine⟨aY hh x1.1,⟨cs,el,z,by show(w0.heap.push _)[w0.heap.size]?=_;simp⟩,fun u hu hc=>?_⟩;obtain⟨X5,el2,z2,k,-⟩:=hs1.row u hu _ hc;have:=(Array.getElem?_eq_some_iff.1 k).1
  omega
 have mv:∀{x:Operand},ax a.eval o=(aX (.value (a.eval x)):Sem Next)->(∀t,o.dst=some t->((s.fs f).contains t=true->s.op? f f x=true)/\(t∈s.own f->t∉s.wF f++s.wG f/\∃u,x=.tmp u/\u∈s.own f)/\t∉s.wF f++s.wG f)->(∀v,nx=.value v->SI s h w' f (a.put o.dst v).tmps/\kQ h w w')/\(nx=.skip->SI s h w' f (a.put o.dst av).tmps/\kQ h w w'):=fun{x} e1 hb=>by
  refine now e1 (hs.put (fun t ht hc=>M7 hs.sl ((hb t ht).1 hc)) (fun t ht ho=>?_) fun t ht hm=>((hb t ht).2.2 hm).elim);obtain⟨h1,u,rfl,hu⟩:=(hb t ht).2.1 ho;exact⟨h1,fun b hb'=>hs.own u hu b hb'⟩
 cases hop:o.op<;>(try(exfalso;simp[Sg.gop,hop]at hgo;done))
 case move x=>
  refine mv (x:=x) (by unfold ax;rw[hop]) fun t ht=>?_;unfold Sg.oM at hd;rw[ht,hop]at hd;simp only[aD,bf,bW]at hd;obtain⟨⟨⟨d0,d1⟩,d2⟩,d3⟩:=hd;have m2:t∉s.wF f++s.wG f:=by
   simp only[aQ,or_false,dg,decide_eq_false_iff_not]at d2 d3;simp[d2,d3]
  refine⟨fun hc=>by rw[hc]at d0;simpa using d0,fun ho=>⟨m2,?_⟩,m2⟩;have ho:(s.own f).contains t=true:=by simpa using ho
  rw[ho]at d1;cases x with
  |tmp u=>exact⟨u,rfl,by simpa using d1⟩
  |_=>simp at d1
 case assign x=>
  refine mv (x:=x) (by unfold ax;rw[hop]) fun t ht=>?_;unfold Sg.oM at hd;rw[ht,hop]at hd;simp only[aD,bf,bW]at hd;obtain⟨⟨⟨d0,d1⟩,d2⟩,d3⟩:=hd;have m2:t∉s.wF f++s.wG f:=by
   simp only[aQ,or_false,dg,decide_eq_false_iff_not]at d2 d3;simp[d2,d3]
  refine⟨fun hc=>by rw[hc]at d0;simpa using d0,fun ho=>⟨m2,?_⟩,m2⟩;have ho:(s.own f).contains t=true:=by simpa using ho
  rw[ho]at d1;cases x with
  |tmp u=>exact⟨u,rfl,by simpa using d1⟩
  |_=>simp at d1
 case alloc ty=>
  refine fresh (Ug ty) (by unfold ax;rw[hop]) fun t ht=>?_;unfold Sg.oM at hd;rw[ht,hop]at hd;simp only[aD,bf,bW,aQ,or_false,or_true,and_true,dg,decide_eq_false_iff_not]at hd;exact⟨by simpa using hd.1.1,by simp[hd.1.2,hd.2]⟩
 case box ty x=>
  refine fresh (as5 ty _) (by unfold ax;rw[hop]) fun t ht=>?_;unfold Sg.oM at hd;rw[ht,hop]at hd;simp only[aD,bf,bW,aQ,or_false,or_true,and_true,dg,decide_eq_false_iff_not]at hd;exact⟨by simpa using hd.1.1,by simp[hd.1.2,hd.2]⟩
 case makeSlice ty x y=>
  refine fresh (GN ty _ _) (by unfold ax;rw[hop]) fun t ht=>?_;unfold Sg.oM at hd;rw[ht,hop]at hd;simp only[aD,bf,bW,aQ,or_false,or_true,and_true,dg,decide_eq_false_iff_not]at hd;exact⟨by simpa using hd.1.1,by simp[hd.1.2,hd.2]⟩
 case buildSlice ty n ps=>
  have e1:ax a.eval o=(do pure (.value (<-Instr.buildSlice ty n (ps.map fun(i,x)=>(i,a.eval x))))):=by unfold ax;rw[hop]
  unfold Sg.oM at hd;rw[hop]at hd;by_cases hr:∃t,o.dst=some t/\(s.wF f).contains t=true
  ·obtain⟨t,ht,hc⟩:=hr;rw[ht]at hd;simp only[aD,bf,bW,aQ,or_false]at hd;obtain⟨⟨⟨d0,d1⟩,d2⟩,d3⟩:=hd;rw[hc]at d2;simp only[Bool.true_eq_false,false_or]at d2;obtain⟨d2,d4⟩:=d2;rw[e1]at e;obtain⟨v,rfl,e2⟩:=oV e;obtain⟨w0,cs,el,x1,rfl,hv,hcs⟩:=Pt (f:=f) H d2 (fun p hp=>by
    obtain⟨q,hq,rfl⟩:=Array.mem_map.1 hp;rw[aV]at d4;have:=d4 q hq
    cases hx:q.2 with
    |func g=>rw[hx]at this;exact⟨g,by show a.eval q.2=_;rw[hx];rfl,this⟩
    |_=>rw[hx]at this;cases this) e2
   have x2:=nV.new w0 (.cells cs el);have hs1:=hs.mono x1;have hcell:(w0.heap.push (.cells cs el))[w0.heap.size]?=some (.cells cs el):=by simp
   refine⟨fun v' hv'=>?_,fun h=>by cases h⟩;cases hv';refine⟨(hs1.mono x2).put (fun t' ht' hc'=>?_) (fun t' ht' ho=>?_) (fun t' ht' hm b hb'=>?_),.of (x1.trans x2) hh⟩
   ·rw[ht]at ht';cases ht';rw[d0]at hc';cases hc'
   ·rw[ht]at ht';cases ht';have:(s.own f).contains t=true:=by simpa using ho
    rw[d1]at this;cases this
   ·rw[hv]at hb';cases hb';refine⟨⟨cs,el,_,hcell,hcs⟩,fun t2 ht2 hc2=>?_⟩;obtain⟨-,k,-⟩:=hs1.own t2 ht2 _ hc2;have:=k.lt
    omega
  ·refine rd (x:=Instr.buildSlice ty n (ps.map fun(i,x)=>(i,a.eval x))) inferInstance e1 fun t ht=>?_;rw[ht]at hd;simp only[aD,bf,bW,aQ,or_false]at hd;obtain⟨⟨⟨d0,d1⟩,d2⟩,d3⟩:=hd;have k2:(s.wF f).contains t=false:=by
    cases hq:(s.wF f).contains t with
    |false=>rfl
    |true=>exact absurd ⟨t,ht,hq⟩ hr
   refine⟨d0,by simpa using d1,?_⟩;simp only[dg,decide_eq_false_iff_not]at k2 d3;simp[k2,d3]
 case load ty x=>
  have e1:ax a.eval o=(do pure (.value (<-aT ty (a.eval x)))):=by unfold ax;rw[hop]
  unfold Sg.oM at hd;rw[hop]at hd;by_cases hr:∃t,o.dst=some t/\(s.fs f).contains t=true
  ·obtain⟨t,ht,hc⟩:=hr;rw[ht]at hd;simp only[aD,bf,bW,aQ,or_false]at hd;obtain⟨⟨⟨d0,d1⟩,d2⟩,d3⟩:=hd;rw[hc]at d0;simp only[Bool.true_eq_false,false_or]at d0;rw[e1]at e;obtain⟨v,rfl,e2⟩:=oV e;cases x with
   |tmp u=>
    have hu:u∈s.wF f++s.wG f:=by simp at d0;simp[d0]
    have hcv:CV s f v:=S6 (fun b hb=>hs.row u hu b hb) e2;have x1:=NM.ext (Nm.out:NM false (aT ty (a.eval (.tmp u)))) e2;refine⟨fun v' hv'=>?_,fun h=>by cases h⟩;cases hv';refine⟨(hs.mono x1).put (fun _ _ _=>hcv) (fun t' ht' ho=>?_) (fun t' ht' hm=>?_),.of x1 hh⟩
    ·rw[ht]at ht';cases ht';have:(s.own f).contains t=true:=by simpa using ho
     rw[d1]at this;cases this
    ·rw[ht]at ht';cases ht';simp only[dg,decide_eq_false_iff_not]at d2 d3;rcases List.mem_append.1 hm with hm|hm
     ·exact absurd hm d2
     ·exact absurd hm d3
   |_=>cases d0
  ·refine rd (x:=aT ty (a.eval x)) inferInstance e1 fun t ht=>?_;rw[ht]at hd;simp only[aD,bf,bW,aQ,or_false]at hd;obtain⟨⟨⟨d0,d1⟩,d2⟩,d3⟩:=hd;have k2:(s.fs f).contains t=false:=by
    cases hq:(s.fs f).contains t with
    |false=>rfl
    |true=>exact absurd ⟨t,ht,hq⟩ hr
   refine⟨k2,by simpa using d1,?_⟩;simp only[dg,decide_eq_false_iff_not]at d2 d3;simp[d2,d3]
 case indexAddr ty x y=>
  have e1:ax a.eval o=(do pure (.value (<-Instr.indexAt ty (a.eval x) (a.eval y)))):=by unfold ax;rw[hop]
  unfold Sg.oM at hd;rw[hop]at hd;by_cases hr:∃t,o.dst=some t/\(s.wG f).contains t=true
  ·obtain⟨t,ht,hc⟩:=hr;rw[ht]at hd;simp only[aD,bf,bW,aQ,or_false]at hd;obtain⟨⟨⟨d0,d1⟩,d2⟩,d3⟩:=hd;rw[hc]at d3;simp only[Bool.true_eq_false,false_or]at d3;rw[e1]at e;obtain⟨v,rfl,e2⟩:=oV e;cases x with
   |tmp u=>
    have hu:u∈s.wF f++s.wG f:=by simp at d3;simp[d3]
    obtain⟨hb,hnf⟩:=Xk ty _ _ w v w' e2;have x1:=NM.ext (Nm.out:NM false (Instr.indexAt ty (a.eval (.tmp u)) (a.eval y))) e2;have hs1:=hs.mono x1;refine⟨fun v' hv'=>?_,fun h=>by cases h⟩;cases hv';refine⟨hs1.put (fun _ _ _ fn p q he=>(hnf fn p q he).elim) (fun t' ht' ho=>?_) (fun t' ht' hm b hb'=>?_),.of x1 hh⟩
    ·rw[ht]at ht';cases ht';have:(s.own f).contains t=true:=by simpa using ho
     rw[d1]at this;cases this
    ·rw[hb]at hb';refine⟨hs1.row u hu b hb',fun t2 ht2 hc2=>?_⟩;exact(hs1.own t2 ht2 b hc2).2.2 u hu hb'
   |_=>cases d3
  ·refine rd (x:=Instr.indexAt ty (a.eval x) (a.eval y)) inferInstance e1 fun t ht=>?_;rw[ht]at hd;simp only[aD,bf,bW,aQ,or_false]at hd;obtain⟨⟨⟨d0,d1⟩,d2⟩,d3⟩:=hd;have k2:(s.wG f).contains t=false:=by
    cases hq:(s.wG f).contains t with
    |false=>rfl
    |true=>exact absurd ⟨t,ht,hq⟩ hr
   refine⟨d0,by simpa using d1,?_⟩;simp only[dg,decide_eq_false_iff_not]at d2 k2;simp[d2,k2]
 all_goals
  have nN:s.bare f o:=fun t ht=>by
   unfold Sg.oM at hd;rw[ht,hop]at hd;simp only[aD,bf,bW,aQ,or_false]at hd;obtain⟨⟨⟨d0,d1⟩,d2⟩,d3⟩:=hd;refine⟨d0,by simpa using d1,?_⟩;simp only[dg,decide_eq_false_iff_not]at d2 d3;simp[d2,d3]
 case build ty ps=>exact rd (x:=Instr.build ty (ps.map fun(i,x)=>(i,a.eval x))) inferInstance (by unfold ax;rw[hop]) nN
 case unOp op ty x=>exact rd (x:=Op.unary op (a.eval x)) inferInstance (by unfold ax;rw[hop]) nN
 case fieldAddr ty x n=>exact rd (x:=Instr.fieldAt ty (a.eval x) n) inferInstance (by unfold ax;rw[hop]) nN
 case field ty x n=>exact rd (x:=Instr.field ty (a.eval x) n) inferInstance (by unfold ax;rw[hop]) nN
 case index ty x y=>exact rd (x:=Instr.index ty (a.eval x) (a.eval y)) inferInstance (by unfold ax;rw[hop]) nN
 case extract x n=>exact rd (x:=Instr.extract (a.eval x) n) inferInstance (by unfold ax;rw[hop]) nN
 case binOp op ty x y ty2=>exact rd (x:=(do eqGuard op ty x y (a.eval x) (a.eval y);Go.binOp op ty (a.eval x) (a.eval y))) ⟨NM.bind Nm.out fun _=>Nm.out⟩ (by unfold ax;rw[hop]) nN
 case pick c x y=>
  have e1:ax a.eval o=(do pure (.value (<-(do let b<-asBool (a.eval c);aX (if b then a.eval x else a.eval y):Sem af)))):=by unfold ax;rw[hop];simp
  exact rd ⟨NM.bind Nm.out fun _=>Nm.out⟩ e1 nN
 case nilCheck x=>
  obtain⟨k1,k2⟩:=Gr (P:=P) hop (a:=a) (wr:=false);obtain⟨v,rfl⟩:=k2 w nx w' e;have x1:=k1.ext e;exact⟨fun v' hv=>by cases hv;exact⟨(hs.mono x1).free nN v,.of x1 hh⟩,fun h=>by cases h⟩
 case store ty x y=>
  have e1:ax a.eval o=(do bJ ty (a.eval x) (a.eval y);pure .skip):=by unfold ax;rw[hop]
  simp only[Sg.gop,hop]at hgo;cases x with
  |tmp u=>
   have hu:u∈s.own f:=by simpa using hgo
   rw[e1]at e;obtain⟨rfl,e2⟩:=Ca e;obtain⟨b,hb,hw⟩:=O9 (fun b hb=>(hs.own u hu b hb).2.1) e2;obtain⟨k1,k2,k3⟩:=hs.own u hu b hb;exact⟨fun v h=>(by cases h),fun _=>⟨(hs.wrote hw k3).free nN _,.wrote hw k1⟩⟩
  |_=>cases hgo
 case call c=>
  simp only[Sg.gop,hop]at hgo;cases hc:c.callee with
  |invoke r n=>rw[hc]at hgo;cases hgo
  |builtin b=>
   rw[hc]at hgo;have e1:ax a.eval o=Go.builtin b c.argTypes o.type (c.args.map fun|.const _=>true|_=>false) (c.args.map a.eval):=by
    obtain⟨ce,iy,ats⟩:=c;subst hc;unfold ax;rw[hop];rfl
   cases b<;>(try(cases hgo;done))
   case copy=>
    dsimp only at hgo;cases hx:(c.args[0]?:Option Operand)with
    |none=>rw[hx]at hgo;cases hgo
    |some x=>
     rw[hx]at hgo;cases x with
     |tmp u=>
      have hu:u∈s.own f:=by simpa using hgo
      have e2:ax a.eval o=(do pure (.value (<-Builtin.copy_ c.argTypes o.type (c.args.map a.eval)))):=e1;rw[e2]at e;obtain⟨v,rfl,e3⟩:=oV e;obtain⟨k1,k2,w1,x1,k3⟩:=UD (x:=a.eval (.tmp u)) (by simp[hx]) w v w' (fun b hb=>(hs.own u hu b hb).2.1) e3;have hs1:=hs.mono x1;refine⟨fun v' hv=>?_,fun h=>by cases h⟩;cases hv;rcases k3 with rfl|⟨b,hb,hw⟩
      ·exact⟨hs1.free nN v,.of x1 hh⟩
      ·obtain⟨m1,m2,m3⟩:=hs1.own u hu b hb;exact⟨(hs1.wrote hw m3).free nN v,(kQ.of x1 hh).trans (.wrote hw m1)⟩
     |_=>cases hgo
   case len=>exact rd (x:=Builtin.len_ c.argTypes o.type (c.args.map a.eval)) inferInstance e1 nN
  |value x=>
   have enter:(∃g iy,nx=.enter g iy)->(∀v,nx=.value v->SI s h w' f (a.put o.dst v).tmps/\kQ h w w')/\(nx=.skip->SI s h w' f (a.put o.dst av).tmps/\kQ h w w'):=fun⟨g,iy,h⟩=>by
    subst h;exact⟨fun v h=>(by cases h),fun h=>by cases h⟩
   obtain⟨d1,-,ho⟩:=J5 H hs.sl he 0;have ho:=ho w nx w' e;rw[hc]at hgo;cases x with
   |func g=>
    have e1:ax a.eval o=callFunc g (c.args.map a.eval):=by
     obtain⟨ce,iy,ats⟩:=c;have hc:ce=.value (.func g):=hc;subst hc;exact execOp_call_func hop
    simp only[aD,bW,bne_iff_ne,ne_eq]at hgo;unfold Sg.Kc at he;rw[hop]at he;split at he
    ·cases he
    ·dsimp only at he;rw[hc]at he;dsimp only at he;rw[if_neg (by simp[hgo.1.2]),if_neg (by simp[hgo.2]),if_neg (by simp[hgo.1.1.2])]at he;split at he
     ·rename_i hx;simp only[aD,decide_eq_true_eq]at hx;rw[e1,Cn H hx.1.1.1.1]at e;cases e;exact enter ⟨_,_,rfl⟩
     ·cases he
   |tmp t=>
    unfold Sg.Kc at he;rw[hop]at he;split at he
    ·cases he
    ·dsimp only at he;rw[hc]at he;dsimp only at he;split at he
     ·rename_i ht;have e1:ax a.eval o=(do let d<-Deferred.ofValue (a.eval (.tmp t)) (c.args.map a.eval);invoke d.target d.args):=by
       obtain⟨ce,iy,ats⟩:=c;subst hc;unfold ax;rw[hop];rfl
      rw[e1]at e;rw[aD,bf,decide_eq_true_eq]at ht;obtain⟨-,g,bs,rfl,-⟩:=(Ox H (hs.sl t ht.1) (c.args.map a.eval) (fun e=>by
       rcases ht.2 with h|h;· rw[e]at h;cases h
       ·simpa using h) 0).2 _ _ _ e
      exact enter ⟨_,_,rfl⟩
     ·cases he
   |_=>cases hgo
end
end
section
instance ag8(wr:Bool)(fn:Func)(xs:Array af):Nm wr (bT fn xs):=⟨by
 unfold bT;refine NM.bind (Nc (fun r=>?_) _) fun _=>Nm.out;cases r with
 |tmp t=>exact Nm.out
 |cell x t=>exact NM.bind Nm.out fun _=>Nm.out⟩
section
variable(s:Sg)
inductive KS(Ks K:List Item)(w:ae)(h:Nat):Nat->ai->ai->Prop
 |run {b:ai} {a:Act} (X:List Item) (d:Nat) (hd:∀x∈a.defers,CD s x) (hX:Sg.fin (s.items b.fn (some d) X)=true) (hs:SI s h w b.fn a.tmps) (hh:h<=w.heap.size) (hp:h=0\/s.vX b.fn=true) (hz:h=0\/a.defers=[]):KS Ks K w h d (b.at a (X++Ks)) (b.at a (X++K))
 |ret {b:ai} {a:Act} {todo todo':List Item} (hd:∀x∈a.defers,CD s x) (hh:h<=w.heap.size) (hz:h=0\/a.defers=[]):KS Ks K w h 0 {b.at a todo with mode:=.returning} {b.at a todo' with mode:=.returning}
inductive xD(Ks K:List Item)(κ:CallKind):ae->Nat->List ai->List ai->Prop
 |one {w:ae} {h L:Nat} {f f':ai} (hf:KS s Ks K w h L f f') (hk:f.kind=κ) (hS:κ=.deferred->s.ok f.fn=true):xD Ks K κ w L [f] [f']
 |call {w:ae} {h d L:Nat} {f f' c c':ai} {r r':List ai} (hf:KS s [] [] w h d f f') (hS:s.ok f.fn=true) (hk:f.kind=.normal) (hc:∀x∈c.defers,CD s x) (hp:∀v w2,kQ h w w2->xD Ks K κ w2 L (c.finish v::r) (c'.finish v::r')):xD Ks K κ w (d+L) (f::c::r) (f'::c'::r')
 |Qx {w:ae} {h d L:Nat} {f f' c c':ai} {r r':List ai} (hf:KS s [] [] w h d f f') (hS:s.ok f.fn=true) (hk:f.kind=.deferred) (hm:c.mode=.returning) (hm':c'.mode=.returning) (hp:∀w2,kQ h w w2->xD Ks K κ w2 L (c::r) (c'::r')):xD Ks K κ w (d+L) (f::c::r) (f'::c'::r')
end
section
variable{s:Sg}{P:au}{Ks K:List Item}{κ:CallKind}{L d h₀:Nat}{f f':ai}{base base':List ai}{w:ae}
theorem KS.defs(h:KS s Ks K w h₀ d f f'):(∀x∈f.defers,CD s x)/\∀c,f.mode≠ .panicking c:=by
 cases h with
 |run X d hd hX hs _ _ _=>exact⟨hd,fun c e=>by cases e⟩
 |ret hd _ _=>exact⟨hd,fun c e=>by cases e⟩
theorem KS.zero(h:KS s Ks K w h₀ d f f')(hm:f.mode=.returning):d=0:=by
 cases h with
 |run X d hd hX hs _ _ _=>cases hm
 |ret hd _ _=>rfl
theorem KS.low(h:KS s Ks K w h₀ d f f'):h₀<=w.heap.size:=by
 cases h with
 |run X d hd hX hs hh _ _=>exact hh
 |ret hd hh _=>exact hh
theorem xD.bare(h:xD s Ks K κ w L (f::base) (f'::base')):∀c∈f::base,∀x∈c.defers,CD s x:=by
 generalize hl:f::base=l at h;generalize hl':f'::base'=l' at h;clear hl hl';induction h with
 |one h hk _=>intro c hc;simp at hc;subst hc;exact h.defs.1
 |call h hS hk hc hp ih=>
  intro c hm;rcases List.mem_cons.1 hm with rfl|hm
  ·exact h.defs.1
  ·rcases List.mem_cons.1 hm with rfl|hm
   ·exact hc
   ·exact ih av _ (.refl _) c (by simp[hm])
 |Qx h hS hk hm hm' hp ih=>
  intro c hmm;rcases List.mem_cons.1 hmm with rfl|hmm
  ·exact h.defs.1
  ·exact ih _ (.refl _) c hmm
def az3(P:au)(f:ai)(base:List ai)(w:ae):Prop:=∀tail,(stepG P true (G f (base++tail)) w).okD P\/(∃g w1 es,stepG P true (G f (base++tail)) w=.go g w1 es/\g.status=.blocked/\g.dying=none)\/
 ∃vs w1 es,stepG P true (G f (base++tail)) w=.go (G (f.raise vs) (base++tail)) w1 es/\∀e∈vs,e.recovered=false
def Vg(s:Sg)(P:au)(Ks K:List Item)(κ:CallKind)(L:Nat)(f:ai)(base:List ai)(f':ai)(base':List ai)(w:ae):Prop:=
 ∃(g:ai) (b2:List ai) (g':ai) (Mh:List ai) (w1:ae) (es:Array Event),(∀main tail,stepG P main (G f (base++tail)) w=.go (G g (b2++tail)) w1 es)/\(∀main tail,stepG P main (G f' (base'++tail)) w=.go (G g' (Mh++tail)) w1 es)/\
  xD s Ks K κ w1 (deafBehind L es) (g::b2) (g'::Mh)
theorem GW(fr:ai)(cs:List ai)(dy:Option Dying)(m:String)(w:ae):(endFatal P fr cs dy m w).okD P:=by
 unfold endFatal;dsimp only;split
 ·exact dieOf_okD _ _ _ _ _
 ·intro v hv;cases hv
 ·intro v hv;cases hv
theorem Qv(H:wh s P)(fr:ai)(cs:List ai)(g:Nat)(w:ae):(early P fr cs none g w).okD P:=by
 unfold early;simp only[H.early.1,H.early.2 g];intro v hv;cases hv
theorem Sn(H:wh s P){b:ai}{a:Act}{ops:Array Oper}{i:Nat}{rest:List Nat}{k:List Item}{o:Oper}(hk:b.kind≠ .early)(ho:ops[i]?=some o)(hw:bg o (yielded ops a.tmps)=true){hh:Halt}{w1:ae}(hrun:(ax a.eval o).run P w=.halt hh w1)(hok:Yo hh):
  az3 P (b.at a (.inRegion ops (i::rest)::k)) base w:=by
 intro tail;have e:=stepG_oper (P:=P) (main:=true) (b:=b) (rest:=rest) (k:=k) (cs:=base++tail) (w:=w) ho hw;have hk1:(b.kind==CallKind.early)=false:=by simpa using hk
 rw[e];cases hh with
 |panic v=>
  refine .inr (.inr ⟨[{v,recovered:=false}],w1,listed P b.fn a o w,?_,by simp⟩);simp[stepG.apply,hrun,G,Frame.at,hk1,dx,listed]
 |goexit=>exact hok.elim
 |waiting=>exact hok.elim
 |blocked=>exact .inr (.inl ⟨_,_,_,by simp[stepG.apply,hrun,dx,Frame.at];exact⟨rfl,rfl,rfl⟩,rfl,rfl⟩)
 |fatal m=>
  refine .inl ?_;simp only[stepG.apply,Sem.runT_eq,hrun,if_true];exact GStep.okD_after (GW _ _ _ _ _)
 |throw m=>
  refine .inl ?_;simp only[stepG.apply,Sem.runT_eq,hrun,if_true];exact GStep.okD_after (dieOf_okD _ _ _ _ _)
 |unsupported u=>
  refine .inl ?_;cases u<;>first
   |(simp only[stepG.apply,Sem.runT_eq,hrun,if_true];exact GStep.okD_after (Qv H _ _ _ _))
   |(simp only[stepG.apply,Sem.runT_eq,hrun,if_true];refine GStep.okD_after ?_;intro v hv;cases hv)
 |_=>
  refine .inl ?_;simp only[stepG.apply,Sem.runT_eq,hrun,if_true];refine GStep.okD_after ?_;intro v hv;cases hv
theorem qT{main:Bool}{b:ai}{a:Act}{cs:List ai}{fn:Func}{todo:List Item}{c:ai}{v:af}{w':ae}(hn:b.kind=.normal\/(b.kind=.deferred/\∀e older,c.mode=.panicking (e::older)->e.recovered=false))(hd:a.defers=[])(hf:P.funcs[b.fn]?=some fn)
  (hr:(results fn a.tmps).run P w=.ok v w'):
  stepG P main (G {b.at a todo with mode:=.returning} (c::cs)) w=.go (G (if b.kind=.normal then c.finish v else c) cs) w' (seen P b.fn ((results fn a.tmps).events P w #[])):=by
 rcases hn with hn|⟨hn,hm⟩
 ·simp[G,stepG,unwind,doReturn,Frame.at,hn,hd,hf,hr,dx]
 ·have e:(match c.mode with
    |.panicking ({recovered:=true, .. }::older)=>
     match older.dropWhile (!·.goexit)with
     |[]=>{c with mode:=.returning}
     |rest=>{c with mode:=.panicking rest}
    |_=>c)=c:=by
   split
   ·rename_i hc;cases hm _ _ hc
   ·rfl
  have hdr:∀(fr:ai) (w:ae),fr.kind=.deferred->doReturn P main fr (c::cs) none v w=.go (G c cs) w #[]:=fun fr w hk=>by
   unfold doReturn;simp only[hk];exact congrArg (fun x=>GStep.go (G x cs) w #[]) e
  have e1:stepG P main (G {b.at a todo with mode:=.returning} (c::cs)) w=dx (seen P b.fn ((results fn a.tmps).events P w #[])) (doReturn P main {b.at a todo with mode:=.returning} (c::cs) none v w'):=by simp[G,stepG,unwind,Frame.at,hd,hf,hr]
  rw[e1,hdr {b.at a todo with mode:=.returning} w' hn,if_neg (by rw[hn];simp)];simp[dx]
theorem wN{main:Bool}{b:ai}{a:Act}{w':ae}{cs:List ai}{fn:Func}{todo:List Item}{h:Halt}(hd:a.defers=[])(hf:P.funcs[b.fn]?=some fn)
  (hr:(results fn a.tmps).run P w=.halt h w'):∃o es,stepG P main (G {b.at a todo with mode:=.returning} cs) w=.ended o w' es/\∀v,o≠ .done v:=by
 cases h<;>exact⟨_,_,by simp[G,stepG,unwind,Frame.at,hd,hf,hr,dx];exact⟨rfl,rfl⟩,fun v hv=>by cases hv⟩
theorem Qy(L:Nat):deafBehind L #[]=L:=rfl
theorem P6{x:Sem Next}{d₁:Nat}(h:Lv P x L d₁){nx:Next}{w':ae}(hr:x.run P w=.ok nx w')(fn:ak):deafBehind L (seen P fn (x.events P w #[]))=d₁:=by
 obtain⟨k1,k2⟩:=h.run (w:=w) (es:=#[]) (Ez:=L) rfl (by simp);rw[Sem.runT_eq]at k1;obtain⟨k3,k4⟩:=k1 nx w' hr;rw[Fy k4];exact k3
theorem EY{α:Type}{x:Sem α}{wr:Bool}(h:NM wr x){nx:α}{w':ae}(hr:x.run P w=.ok nx w')(fn:ak)(L:Nat):deafBehind L (seen P fn (x.events P w #[]))=L:=by
 obtain⟨k1,k2⟩:=(h.lv (P:=P) L).run (w:=w) (es:=#[]) (Ez:=L) rfl (by simp);rw[Sem.runT_eq]at k1;obtain⟨k3,k4⟩:=k1 nx w' hr;rw[Fy k4];exact k3
theorem WW{x:Sem Next}{d₁:Nat}(h:Lv P x L d₁){hh:Halt}{w':ae}(hr:x.run P w=.halt hh w'):Yo hh:=by
 obtain⟨k1,k2⟩:=h.run (w:=w) (es:=#[]) (Ez:=L) rfl (by simp);rw[Sem.runT_eq]at k2;exact k2 hh w' hr
theorem xD.cast{L':Nat}{l l':List ai}(h:xD s Ks K κ w L l l')(e:L=L'):xD s Ks K κ w L' l l':=e ▸ h
theorem kQ.le{h:Nat}{w w2:ae}(e:kQ h w w2)(hh:h<=w.heap.size):h<=w2.heap.size:=by
 rcases e with rfl|e
 ·exact Nat.zero_le _
 ·exact aY hh e.1
theorem QF{o:Oper}{a:Act}{fn:ak}{d':Nat}(he:s.Kc fn o d=some d'){g:ak}{iy:Array af}{w':ae}(hrun:(ax a.eval o).run P w=.ok (.enter g iy) w'):s.bare fn o:=by
 have hd:=(uT he).1;have hc:∃c,o.op=.call c:=by
  unfold ax at hrun;cases hop:o.op<;>rw[hop]at hrun<;>first
   |exact⟨_,rfl⟩
   |(exfalso;obtain⟨v,h,-⟩:=oV hrun;cases h;done)
   |(exfalso;obtain⟨h,-⟩:=Ca hrun;cases h;done)
   |(exfalso;cases hrun;done)
   |(exfalso;unfold Sg.Kc at he;rw[hop]at he;split at he<;>(try(cases he;done));done)
   |skip
  case pick c x y=>
   exfalso;have hrun:(do pure (.value (if<-asBool (a.eval c)then a.eval x else a.eval y)):Sem Next).run P w=.ok (.enter g iy) w':=hrun;rw[aO]at hrun;cases hx:(asBool (a.eval c)).run P w with
   |halt e w1=>rw[hx]at hrun;cases hrun
   |ok v w1=>rw[hx]at hrun;simp at hrun
  case nilCheck x=>
   exfalso;have hrun:(ax a.eval o).run P w=.ok (.enter g iy) w':=by unfold ax;rw[hop];exact hrun
   obtain⟨v,h⟩:=(Gr (P:=P) hop (a:=a) (wr:=true)).2 _ _ _ hrun;cases h
  case defer c=>
   exfalso;have hrun:(do pure (.defer (<-Go.resolve a.eval c o.type)):Sem Next).run P w=.ok (.enter g iy) w':=hrun;rw[aO]at hrun;cases hx:(Go.resolve a.eval c o.type).run P w with
   |halt e w1=>rw[hx]at hrun;cases hrun
   |ok v w1=>rw[hx]at hrun;simp at hrun
 obtain⟨c,hop⟩:=hc;intro t ht;unfold Sg.oM at hd;rw[ht,hop]at hd;simp only[aD,bf,bW,aQ,or_false]at hd;obtain⟨⟨⟨d0,d1⟩,d2⟩,d3⟩:=hd;refine⟨d0,by simpa using d1,?_⟩;simp only[dg,decide_eq_false_iff_not]at d2 d3;simp[d2,d3]
theorem MR(H:wh s P)(hκ:κ=.normal\/κ=.deferred)(T4:(Ks=[]/\K=[])\/Ks=[fM])(h:xD s Ks K κ w L (f::base) (f'::base')):
  Vg s P Ks K κ L f base f' base' w\/(base=[]/\f.mode=.returning/\f.defers=[])\/az3 P f base w:=by
 obtain⟨d,R,iE,sH,h0,hf,hL,JS,hk,reb⟩:∃d R iE sH h0,KS s iE sH w h0 d f f'/\L=d+R/\((iE=[]/\sH=[])\/iE=[fM])/\(f.kind=.normal\/f.kind=.deferred)/\
   ∀d' g g' w2,g.fn=f.fn->g.kind=f.kind->KS s iE sH w2 h0 d' g g'->kQ h0 w w2->xD s Ks K κ w2 (d'+R) (g::base) (g'::base'):=by
  cases h with
  |one h hk hS=>exact⟨L,0,Ks,K,_,h,rfl,T4,hk ▸ hκ,fun d' g g' w2 e1 e hg _=>(xD.one hg (e.trans hk) fun x=>by rw[e1];exact hS x).cast (by omega)⟩
  |call h hS hk hc hp=>exact⟨_,_,[],[],_,h,rfl,.inl ⟨rfl,rfl⟩,.inl hk,fun d' g g' w2 e1 e2 hg hx=>.call hg (by rw[e1];exact hS) (e2.trans hk) hc fun v w3 hx2=>hp v w3 (hx.trans hx2)⟩
  |Qx h hS hk hm hm' hp=>exact⟨_,_,[],[],_,h,rfl,.inl ⟨rfl,rfl⟩,.inr hk,fun d' g g' w2 e1 e2 hg hx=>.Qx hg (by rw[e1];exact hS) (e2.trans hk) hm hm' fun w3 hx2=>hp w3 (hx.trans hx2)⟩
 have C7:f.kind≠ .early:=by rcases hk with e|e<;>rw[e]<;>simp
 have ctl:∀{g g':ai},(∀main tail,stepG P main (G f (base++tail)) w=.go (G g (base++tail)) w #[])->(∀main tail,stepG P main (G f' (base'++tail)) w=.go (G g' (base'++tail)) w #[])->xD s Ks K κ w L (g::base) (g'::base')->Vg s P Ks K κ L f base f' base' w:=
  fun h1 h2 h3=>⟨_,base,_,base',w,#[],h1,h2,h3⟩
 cases hf with
 | @ret b a todo todo' nJ hh hz=>
  cases mz:a.defers with
  |cons x ds=>
   obtain⟨g,iy,rfl,hg,hgn⟩:=nJ x (by rw[mz];simp);obtain⟨n1,n2,n3⟩:=rR hgn;obtain⟨c1,c2,c3⟩:=pG hg;obtain⟨fn,code,f1,f2,f3,f4,-⟩:=H.body g c1;have e:∀(td:List Item) (main:Bool) (cs:List ai),stepG P main (G {b.at a td with mode:=.returning} cs) w=.go (G ((baseD g).at {tmps:=iy++bO (fn.ntmps-iy.size) av,defers:=[]} [.code code]) ({b.at ⟨a.tmps,ds⟩ td with mode:=.returning}::cs)) w #[]:=fun td main cs=>stepG_unwind_enter mz f1 f3 f2;refine .inl ⟨_,{b.at ⟨a.tmps,ds⟩ todo with mode:=.returning}::base,_,{b.at ⟨a.tmps,ds⟩ todo' with mode:=.returning}::base',w,#[],fun main tail=>e todo main (base++tail),fun main tail=>e todo' main (base'++tail),?_⟩;have hrow:∀w2,kQ 0 w w2->xD s Ks K κ w2 L ({b.at ⟨a.tmps,ds⟩ todo with mode:=.returning}::base) ({b.at ⟨a.tmps,ds⟩ todo' with mode:=.returning}::base'):=fun w2 hx=>by
    have h0z:h0=0:=by
     rcases hz with h|h
     ·exact h
     ·rw[mz]at h;cases h
    subst h0z;exact(reb 0 {b.at ⟨a.tmps,ds⟩ todo with mode:=.returning} {b.at ⟨a.tmps,ds⟩ todo' with mode:=.returning} w2 rfl rfl (.ret (b:=b) (a:=⟨a.tmps,ds⟩) (fun x hx=>nJ x (by rw[mz];simp[hx])) (Nat.zero_le _) (.inl rfl)) hx).cast (L':=L) (by omega)
   refine(xD.Qx (h:=0) (d:=s.en g) (L:=L) (KS.run (b:=baseD g) (a:=⟨iy++bO (fn.ntmps-iy.size) av,[]⟩) [.code code] (s.en g) (by simp) f4 ⟨fun t ht=>?_,fun t ht=>?_,fun t ht=>?_⟩ (Nat.zero_le _) (.inl rfl) (.inl rfl)) c1 rfl rfl rfl hrow).cast (L':=deafBehind L #[]) (by rw[c3,Qy];omega)
   ·rw[show(baseD g).fn=g from rfl,c2]at ht;simp at ht
   ·rw[show(baseD g).fn=g from rfl,n1]at ht;simp at ht
   ·rw[show(baseD g).fn=g from rfl,n2,n3]at ht;simp at ht
  |nil=>
   cases h with
   |one h hk _=>exact .inr (.inl ⟨rfl,rfl,mz⟩)
   | @call _ h₁ d₁ L₁ _ _ c c' r r' h hS hk hc hp=>
    obtain⟨fn,code,f1,-⟩:=H.body _ hS;have f1:P.funcs[b.fn]?=some fn:=f1;have hk:b.kind=.normal:=hk;cases hres:(bT fn a.tmps).run P w with
    |halt hh w1=>
     refine .inr (.inr fun tail=>.inl ?_);obtain⟨o,es,e,ho⟩:=wN (main:=true) (todo:=todo) (cs:=c::r++tail) mz f1 hres;rw[e];exact ho
    |ok v w1=>
     refine .inl ⟨c.finish v,r,c'.finish v,r',w1,seen P b.fn ((bT fn a.tmps).events P w #[]),fun main tail=>?_,fun main tail=>?_,?_⟩
     ·have:=qT (main:=main) (todo:=todo) (cs:=r++tail) (c:=c) (.inl hk) mz f1 hres
      rw[if_pos hk]at this;exact this
     ·have:=qT (main:=main) (todo:=todo') (cs:=r'++tail) (c:=c') (.inl hk) mz f1 hres
      rw[if_pos hk]at this;exact this
     ·rw[EY (Nm.out:NM false (bT fn a.tmps)) hres];have h0:d₁=0:=h.zero rfl;have hx:kQ h₁ w w1:=by
       have:=NM.ext (Nm.out:NM false (bT fn a.tmps)) hres
       exact .of this h.low
      exact(hp v w1 hx).cast (by omega)
   | @Qx _ h₁ d₁ L₁ _ _ c c' r r' h hS hk hm hm' hp=>
    obtain⟨fn,code,f1,-⟩:=H.body _ hS;have f1:P.funcs[b.fn]?=some fn:=f1;have hk:b.kind=.deferred:=hk;cases hres:(bT fn a.tmps).run P w with
    |halt hh w1=>
     refine .inr (.inr fun tail=>.inl ?_);obtain⟨o,es,e,ho⟩:=wN (main:=true) (todo:=todo) (cs:=c::r++tail) mz f1 hres;rw[e];exact ho
    |ok v w1=>
     refine .inl ⟨c,r,c',r',w1,seen P b.fn ((bT fn a.tmps).events P w #[]),fun main tail=>?_,fun main tail=>?_,?_⟩
     ·have:=qT (main:=main) (todo:=todo) (cs:=r++tail) (c:=c) (.inr ⟨hk,fun e older x=>by rw[hm]at x;cases x⟩) mz f1 hres
      rw[if_neg (by rw[hk];simp)]at this;exact this
     ·have:=qT (main:=main) (todo:=todo') (cs:=r'++tail) (c:=c') (.inr ⟨hk,fun e older x=>by rw[hm']at x;cases x⟩) mz f1 hres
      rw[if_neg (by rw[hk];simp)]at this;exact this
     ·rw[EY (Nm.out:NM false (bT fn a.tmps)) hres];have h0:d₁=0:=h.zero rfl;have hx:kQ h₁ w w1:=by
       have:=NM.ext (Nm.out:NM false (bT fn a.tmps)) hres
       exact .of this h.low
      exact(hp w1 hx).cast (by omega)
 | @run b a X d nJ hX hs hh hp hz=>
  have C7:b.kind≠ .early:=C7;have Ib:∀{d2:Nat} {a2:Act} (X2:List Item) {w2:ae},(∀x∈a2.defers,CD s x)->Sg.fin (s.items b.fn (some d2) X2)=true->SI s h0 w2 b.fn a2.tmps->kQ h0 w w2->(h0=0\/a2.defers=[])->xD s Ks K κ w2 (d2+R) (b.at a2 (X2++iE)::base) (b.at a2 (X2++sH)::base'):=
   fun{d2 a2} X2 {w2} h1 h2 h3 h4 h5=>reb _ _ _ w2 rfl rfl (.run X2 _ h1 h2 h3 (h4.le hh) hp h5) h4
  have top:∀{d2:Nat} (X2:List Item),(∀x∈a.defers,CD s x)->Sg.fin (s.items b.fn (some d2) X2)=true->SI s h0 w b.fn a.tmps->xD s Ks K κ w (d2+R) (b.at a (X2++iE)::base) (b.at a (X2++sH)::base'):=
   fun X2 h1 h2 h3=>Ib X2 h1 h2 h3 (.refl _) hz
  have ret:d=0->∀{todo todo':List Item},xD s Ks K κ w L ({b.at a todo with mode:=.returning}::base) ({b.at a todo' with mode:=.returning}::base'):=fun h0' {t t'}=>
   (reb 0 {b.at a t with mode:=.returning} {b.at a t' with mode:=.returning} w rfl rfl (.ret (b:=b) (a:=a) nJ hh hz) (.refl _)).cast (L':=L) (by rw[hL,h0'])
  have ar0:iE=[]\/iE=[fM]:=JS.imp (·.1) id;cases X with
  |nil=>
   rcases JS with⟨rfl,rfl⟩|rfl
   ·have h0:d=0:=by simpa [Sg.items,Sg.fin]using hX
    exact .inl (ctl (fun _ _=>stepG_end) (fun _ _=>stepG_end) (ret h0))
   ·refine .inr (.inr fun tail=>.inl ?_);obtain⟨u,hu⟩:∃u,stepG P true (G (b.at a ([]++[fM])) (base++tail)) w=.ended (.unsupported u ((b.at a [fM]).pos P)) w #[]:=by simp[G,stepG,stepG.exec,Frame.at,fM]
    rw[hu];intro v hv;cases hv
  |cons x X=>
   cases x with
   |code c=>
    cases c with
    |skip=>exact .inl (ctl (fun _ _=>stepG_skip) (fun _ _=>stepG_skip) ((top X nJ hX hs).cast hL.symm))
    |label l=>exact .inl (ctl (fun _ _=>stepG_label) (fun _ _=>stepG_label) ((top X nJ hX hs).cast hL.symm))
    |ret=>
     have h0:d=0:=by
      by_cases e:d=0
      ·exact e
      ·simp[Sg.items,Sg.code,Sg.fin,e]at hX
     exact .inl (ctl (fun _ _=>stepG_ret') (fun _ _=>stepG_ret') (ret h0))
    |seq c1 c2=>
     refine .inl (ctl (fun _ _=>stepG_seq) (fun _ _=>stepG_seq) ((top (.code c1:: .code c2::X) nJ ?_ hs).cast hL.symm));rw[Sg.jY]at hX ⊢;simp only[Sg.code]at hX;cases h1:s.code b.fn c1 d with
     |none=>rw[h1]at hX;exact hX
     |some st=>
      rw[h1]at hX;cases st with
      |none=>exact hX
      |some d2=>
       show Sg.fin (s.items b.fn (some d2) (.code c2::X))=true;rw[Sg.jY];exact hX
    |block id c1=>
     refine .inl (ctl (fun _ _=>stepG_block) (fun _ _=>stepG_block) ((top (.code c1:: .inBlock id::X) nJ ?_ hs).cast hL.symm));rw[Sg.jY]at hX ⊢;simp only[Sg.code]at hX;cases h1:s.code b.fn c1 d with
     |none=>rw[h1]at hX;exact hX
     |some st=>
      rw[h1]at hX;cases st with
      |none=>exact hX
      |some d2=>
       dsimp only at hX;show Sg.fin (s.items b.fn (some d2) (.inBlock id::X))=true;split at hX
       ·rename_i he;simp only[Sg.items];rw[if_pos (by simp at he;simp[he])];exact hX
       ·cases hX
    |loop c1=>
     refine .inl (ctl (fun _ _=>stepG_loop) (fun _ _=>stepG_loop) ((top (.code c1:: .inLoop c1::X) nJ ?_ hs).cast hL.symm));rw[Sg.jY]at hX ⊢;simp only[Sg.code]at hX;split at hX
     ·rename_i he;simp only[aD,beq_iff_eq]at he;obtain⟨he,hb⟩:=he;subst he;have hX:Sg.fin (s.items b.fn none X)=true:=hX;cases h1:s.code b.fn c1 (s.en b.fn)with
      |none=>rw[h1]at hb;cases hb
      |some st=>
       show Sg.fin (s.items b.fn st (.inLoop c1::X))=true;have hst:(st==none||st==some (s.en b.fn))=true:=by
        rw[h1]at hb;cases st with
        |none=>rfl
        |some d2=>simpa [OJ]using hb
       cases st<;>(simp only[Sg.items];rw[if_pos (by rw[hst,hb];rfl)];exact hX)
     ·cases hX
    |cond q c1 c2=>
     rw[Sg.jY]at hX;have hXc:(∃t,q=.const (.bool t)/\Sg.fin ((s.code b.fn (if t then c1 else c2) d).bind fun st=>s.items b.fn st X)=true)\/Sg.fin ((uL (s.code b.fn c1 d) (s.code b.fn c2 d)).bind fun st=>s.items b.fn st X)=true:=by
      cases q with
      |const v=>cases v with
       |bool t=>
        refine .inl ⟨t,rfl,?_⟩;simp only[Sg.code]at hX;cases t<;>simpa using hX
       |_=>exact .inr (by simpa only[Sg.code]using hX)
      |_=>exact .inr (by simpa only[Sg.code]using hX)
     have dead:(∀t,a.eval q≠ .bool t)->az3 P (b.at a (.code (.cond q c1 c2)::X++iE)) base w:=fun hn tail=>by
      refine .inl ?_;have he:(b.at a (.code (.cond q c1 c2)::(X++iE))).eval q=a.eval q:=Frame.eval_at _ _ _ _;simp only[Frame.at]at he;have:∃m,stepG P true (G (b.at a (.code (.cond q c1 c2)::X++iE)) (base++tail)) w=.ended (.stuck m ((b.at a (.code (.cond q c1 c2)::X++iE)).pos P)) w #[]:=by
       cases hq:a.eval q<;>first
        |exact absurd hq (hn _)
        |(rw[hq]at he;exact⟨_,by simp[G,stepG,stepG.exec,Frame.at,he];rfl⟩)
      obtain⟨m,e⟩:=this;rw[e];intro v hv;cases hv
     cases hq:a.eval q with
     |bool t=>
      refine .inl (ctl (fun _ _=>stepG_cond hq) (fun _ _=>stepG_cond hq) ((top (.code (if t then c1 else c2)::X) nJ ?_ hs).cast hL.symm));rw[Sg.jY];rcases hXc with⟨t',rfl,h2⟩|hX
      ·have:t'=t:=by have h3:Value.bool t'=.bool t:=hq;cases h3;rfl
       subst this;exact h2
      ·cases t with
       |true=>exact LJ hX
       |false=>exact Jw hX
     |_=>exact .inr (.inr (dead fun t e=>by rw[hq]at e;cases e))
    |exit id=>
     rw[Sg.jY]at hX;simp only[Sg.code]at hX;split at hX
     ·rename_i he;have he:d=s.en b.fn:=by simpa using he
      have hX:Sg.fin (s.items b.fn none X)=true:=hX;cases hx:exitTo id (X++iE)with
      |none=>
       refine .inr (.inr fun tail=>.inl ?_);have:∃m,stepG P true (G (b.at a (.code (.exit id)::X++iE)) (base++tail)) w=.ended (.stuck m ((b.at a (.code (.exit id)::X++iE)).pos P)) w #[]:=
        ⟨_,by simp[G,stepG,stepG.exec,Frame.at,hx];exact rfl⟩
       obtain⟨m,e⟩:=this;rw[e];intro v hv;cases hv
      |some k'=>
       obtain⟨Y,rfl,h2,h3⟩:=Sg.J1 ar0 X none hX hx;exact .inl (ctl (fun _ _=>stepG_exit hx) (fun _ _=>stepG_exit (h2 sH)) ((top Y nJ (he ▸ h3) hs).cast hL.symm))
     ·cases hX
    |region id ops draw=>
     rw[Sg.jY]at hX;simp only[Sg.code]at hX;cases draw with
     |false=>
      refine .inl (ctl (fun _ _=>stepG_region) (fun _ _=>stepG_region) ((top (.inRegion ops (bq ops.size)::X) nJ ?_ hs).cast hL.symm));rw[if_neg (by simp)]at hX;simp only[Sg.items];cases h1:s.Ey b.fn ops (bq ops.size) d with
      |none=>rw[h1]at hX;exact hX
      |some d2=>rw[h1]at hX;exact hX
     |true=>
      rw[if_pos rfl]at hX;split at hX
      ·rename_i he;refine .inl ⟨_,base,_,base',{w with drawn:=w.drawn+1},#[],fun _ _=>stepG_region_draw,fun _ _=>stepG_region_draw,(Ib (w2:={w with drawn:=w.drawn+1}) (.inRegion ops _::X) nJ ?_ (hs.mono ⟨aH _,fun _ _=>rfl⟩) (.of ⟨aH _,fun _ _=>rfl⟩ hh) hz).cast hL.symm⟩;simp only[Sg.items,Sg.Dl he];exact hX
      ·cases hX
    |_=>simp[Sg.items,Sg.code,Sg.fin]at hX
   |inBlock id=>
    refine .inl (ctl (fun _ _=>stepG_inBlock) (fun _ _=>stepG_inBlock) ?_);simp only[Sg.items]at hX;split at hX
    ·rename_i he;have he:d=s.en b.fn:=by simpa using he
     exact(top X nJ (he ▸ hX) hs).cast hL.symm
    ·cases hX
   |inLoop c=>
    refine .inl (ctl (fun _ _=>stepG_inLoop) (fun _ _=>stepG_inLoop) ((top (.code c:: .inLoop c::X) nJ ?_ hs).cast hL.symm));simp only[Sg.items]at hX;split at hX
    ·rename_i he;simp only[aD]at he;obtain⟨he,hb⟩:=he;have he:d=s.en b.fn:=by simpa using he
     subst he;rw[Sg.jY];cases h1:s.code b.fn c (s.en b.fn)with
     |none=>rw[h1]at hb;cases hb
     |some st=>
      show Sg.fin (s.items b.fn st (.inLoop c::X))=true;have hst:(st==none||st==some (s.en b.fn))=true:=by
       rw[h1]at hb;cases st with
       |none=>rfl
       |some d2=>simpa [OJ]using hb
      cases st<;>(simp only[Sg.items];rw[if_pos (by rw[hst,hb];rfl)];exact hX)
    ·cases hX
   |inRegion ops l=>
    cases l with
    |nil=>exact .inl (ctl (fun _ _=>stepG_region_end) (fun _ _=>stepG_region_end) ((top X nJ (by simpa only[Sg.items,Sg.Ey]using hX) hs).cast hL.symm))
    |cons i rest=>
     cases ho:ops[i]? with
     |none=>
      have st:∀(k:List Item) (main:Bool) (cs:List ai),stepG P main (G (b.at a (.inRegion ops (i::rest)::k)) cs) w=.go (G (b.at a (.inRegion ops rest::k)) cs) w #[]:=by
       intro k main cs;simp[G,stepG,stepG.exec,Frame.at,ho,Frame.finish]
      exact .inl (ctl (fun _ _=>st _ _ _) (fun _ _=>st _ _ _) ((top (.inRegion ops rest::X) nJ (by simpa only[Sg.items,Sg.Ey,ho]using hX) hs).cast hL.symm))
     |some o=>
      obtain⟨d2,he,VD⟩:∃d2,s.Kc b.fn o d=some d2/\Sg.fin (s.items b.fn (some d2) (.inRegion ops rest::X))=true:=by
       simp only[Sg.items,Sg.Ey,ho]at hX;cases he:s.Kc b.fn o d with
       |none=>rw[he]at hX;cases hX
       |some d2=>rw[he]at hX;exact⟨d2,rfl,by simpa only[Sg.items]using hX⟩
      have guard:s.vX b.fn=true\/(s.vX b.fn=false/\h0=0):=by
       cases hg:s.vX b.fn with
       |true=>exact .inl rfl
       |false=>
        rcases hp with h|h
        ·exact .inr ⟨rfl,h⟩
        ·rw[hg]at h;cases h
      have hput:∀v,∀x∈(a.put o.dst v).defers,CD s x:=fun v x hx=>nJ x (by rw[put_defers]at hx;exact hx);cases hw:bg o (yielded ops a.tmps)with
      |false=>
       have e2:d2=d:=by
        by_cases hg:o.guard=none
        ·unfold bg at hw;rw[hg]at hw;cases hw
        ·have hg:o.guard.isNone=false:=by cases h:o.guard<;>simp_all
         unfold Sg.Kc at he;simp only[hg]at he;repeat' (first|(cases he;done)|(cases he;rfl)|split at he)
         all_goals(first|(simp_all;done)|(cases he;simp_all))
       subst e2;exact .inl (ctl (fun _ _=>stepG_unwanted ho hw) (fun _ _=>stepG_unwanted ho hw) ((Ib (.inRegion ops rest::X) (hput _) VD (hs.none (uT he).1 (fun _ _ _ h=>by cases h) rfl) (.refl _) (by rw[put_defers];exact hz)).cast hL.symm))
      |true=>
       obtain⟨d1,k1,k2⟩:=J5 H hs.sl he R;rw[<-hL]at k1;cases hrun:(ax a.eval o).run P w with
       |halt hh w1=>exact .inr (.inr (Sn H C7 ho hw hrun (WW k1 hrun)))
       |ok nx w1=>
        have lev:=P6 k1 hrun b.fn;have upd:(∀v,nx=.value v->SI s h0 w1 b.fn (a.put o.dst v).tmps/\kQ h0 w w1)/\(nx=.skip->SI s h0 w1 b.fn (a.put o.dst av).tmps/\kQ h0 w w1):=by
         rcases guard with hg|⟨hg,h00⟩
         ·exact XU H hs he hg hh hrun
         ·subst h00;obtain⟨k1,k2⟩:=J4 hs he hg hrun w1;exact⟨fun v hv=>⟨k1 v hv,.inl rfl⟩,fun _=>⟨k2,.inl rfl⟩⟩
        cases k2 w nx w1 hrun with
        |value v e1=>
         subst e1;exact .inl ⟨_,base,_,base',w1,listed P b.fn a o w,fun _ _=>stepG_value ho hw C7 hrun,fun _ _=>stepG_value ho hw C7 hrun,(Ib (.inRegion ops rest::X) (hput _) VD (upd.1 v rfl).1 (upd.1 v rfl).2 (by rw[put_defers];exact hz)).cast lev.symm⟩
        |skip e1=>
         subst e1;exact .inl ⟨_,base,_,base',w1,listed P b.fn a o w,fun _ _=>stepG_none ho hw C7 hrun,fun _ _=>stepG_none ho hw C7 hrun,(Ib (.inRegion ops rest::X) (hput _) VD (upd.2 rfl).1 (upd.2 rfl).2 (by rw[put_defers];exact hz)).cast lev.symm⟩
        |defer dd e1 hd hg=>
         subst e1;have h00:h0=0:=by
          rcases guard with h|h
          ·rw[hg]at h;cases h
          ·exact h.2
         subst h00;have st:∀(k:List Item) (main:Bool) (cs:List ai),stepG P main (G (b.at a (.inRegion ops (i::rest)::k)) cs) w=.go (G (b.at (Act.put ⟨a.tmps,dd::a.defers⟩ o.dst av) (.inRegion ops rest::k)) cs) w1 (listed P b.fn a o w):=fun k main cs=>by
          have hfin:(b.at ⟨a.tmps,dd::a.defers⟩ (.inRegion ops (i::rest)::k)).finish av=b.at (Act.put ⟨a.tmps,dd::a.defers⟩ o.dst av) (.inRegion ops rest::k):=by rw[dI,ho];rfl
          have hk':(b.kind==CallKind.early)=false:=beq_eq_false_iff_ne.2 C7;rw[stepG_oper ho hw,<-hfin];simp[stepG.apply,hrun,G,Frame.at,hk',dx,listed]
         refine .inl ⟨_,base,_,base',w1,listed P b.fn a o w,fun _ _=>st _ _ _,fun _ _=>st _ _ _,(Ib (.inRegion ops rest::X) (fun x hx=>?_) VD ?_ (.inl rfl) (.inl rfl)).cast lev.symm⟩
         ·rw[put_defers]at hx;rcases List.mem_cons.1 hx with rfl|hx
          ·exact hd
          ·exact nJ x hx
         ·have:=(J4 hs he hg hrun w1).2
          cases aS3:o.dst with
          |none=>rw[aS3]at this;exact this
          |some t=>rw[aS3]at this;exact this
        |enter g iy hg e1 e2 ha hpu hsz hww=>
         subst e1;subst hww;obtain⟨fn,code,f1,f2,f3,f4,-⟩:=H.body g hg;refine .inl ⟨bQ P g iy .normal,b.at a (.inRegion ops (i::rest)::(X++iE))::base,bQ P g iy .normal,b.at a (.inRegion ops (i::rest)::(X++sH))::base',w1,listed P b.fn a o w1,fun _ _=>stepG_enter ho hw C7 hrun,fun _ _=>stepG_enter ho hw C7 hrun,?_⟩;rw[enter_at iy f1 f2];have big:∀t,(s.fs g).contains t=true->CV s g ((iy++bO (fn.ntmps-iy.size) av).getD t av):=fun t ht=>by
          rw[bF,Array.getElem?_append];split
          ·rw[<-bF];exact ha t ht
          ·rw[Array.getElem?_replicate];split<;>exact CV.undef
         have none_:∀t,t∈s.own g++(s.wF g++s.wG g)->blk ((iy++bO (fn.ntmps-iy.size) av).getD t av)=none:=fun t ht=>by
          have:=hsz t ht
          rw[bF,Array.getElem?_append,if_neg (by omega),Array.getElem?_replicate];split<;>rfl
         refine(xD.call (h:=if s.vX b.fn then w1.heap.size else 0) (d:=s.en g) (L:=d2+R) (KS.run (b:=Go.Conc.base g) (a:=⟨iy++bO (fn.ntmps-iy.size) av,[]⟩) [.code code] (s.en g) (by simp) f4 ⟨big,fun t ht b' hb'=>?_,fun t ht b' hb'=>?_⟩ ?_ ?_ (.inr rfl)) hg rfl nJ fun v w2 hx=>?_).cast ?_
         ·have:blk ((iy++bO (fn.ntmps-iy.size) av).getD t av)=some b':=hb'
          rw[none_ t (by simp[show t∈s.own g from ht])]at this;cases this
         ·have:blk ((iy++bO (fn.ntmps-iy.size) av).getD t av)=some b':=hb'
          rw[none_ t (List.mem_append_right _ ht)]at this;cases this
         ·split
          ·exact aH _
          ·exact Nat.zero_le _
         ·cases hgr:s.vX b.fn with
          |false=>exact .inl rfl
          |true=>exact .inr (by show s.vX g=true;simp[Sg.vX,hpu hgr])
         ·have f1:∀k,(b.at a (.inRegion ops (i::rest)::k)).finish v=b.at (a.put o.dst v) (.inRegion ops rest::k):=fun k=>by rw[dI,ho];rfl
          rw[f1,f1];have nN:s.bare b.fn o:=QF he hrun;rcases guard with hgr|⟨hgr,h00⟩
          ·rw[if_pos hgr]at hx;have hx':nV w1 w2:=by
            rcases hx with hx|hx
            ·exact⟨by omega,fun b' hb'=>by omega⟩
            ·exact hx
           exact Ib (.inRegion ops rest::X) (hput _) VD ((hs.mono hx').free nN v) (.of hx' hh) (by rw[put_defers];exact hz)
          ·subst h00;obtain⟨l1,l2,l3⟩:=LY hgr;have hs2:SI s 0 w2 b.fn a.tmps:=⟨hs.sl,fun t ht=>by rw[l1]at ht;simp at ht,fun u hu=>by rw[l2,l3]at hu;simp at hu⟩;exact Ib (.inRegion ops rest::X) (hput _) VD (hs2.free nN v) (.inl rfl) (.inl rfl)
         ·have:deafBehind L (listed P b.fn a o w1)=d1+R:=lev
          rw[this];omega
   |_=>simp[Sg.items,Sg.fin]at hX
end
end
section
def NR(c:ai):Prop:=∀ch,c.mode=.panicking ch->∀e∈ch,e.recovered=false
inductive Dm(s:Sg):ae->List ai->Prop
 |top {w:ae} {p:ai} {rest:List ai} {ch:List PanicEntry} (hm:p.mode=.panicking ch) (hn:∀c∈p::rest,NR c) (hd:∀c∈p::rest,∀x∈c.defers,CD s x):Dm s w (p::rest)
 |up {w:ae} {L:Nat} {U U':List ai} {p:ai} {rest:List ai} {ch:List PanicEntry} (h:xD s [] [] .deferred w L U U') (hm:p.mode=.panicking ch) (hn:∀c∈p::rest,NR c) (hd:∀c∈p::rest,∀x∈c.defers,CD s x):Dm s w (U++p::rest)
def az2(s:Sg)(w:ae)(l:List ai):Prop:=(∃l1,Dm s w l1/\l=l1++[ek])\/∃ch,l=[ek.raise ch]
section
variable{s:Sg}{P:au}{Ks K:List Item}{κ:CallKind}{L d:Nat}{f f':ai}{base base':List ai}{w:ae}
theorem NR.raise{c:ai}(h:NR c){vs:List PanicEntry}(hv:∀e∈vs,e.recovered=false):NR (c.raise vs):=by
 intro ch hc e he;unfold Frame.raise at hc;cases hm:c.mode with
 |panicking ch0=>
  rw[hm]at hc;cases hc;rcases List.mem_append.1 he with he|he
  ·exact hv e he
  ·exact h ch0 hm e he
 |run=>rw[hm]at hc;cases hc;exact hv e he
 |returning=>rw[hm]at hc;cases hc;exact hv e he
theorem raise_mode(c:ai)(vs:List PanicEntry):∃ch,(c.raise vs).mode=.panicking ch:=by
 unfold Frame.raise;cases c.mode<;>exact⟨_,rfl⟩
theorem rP(c:ai)(vs:List PanicEntry):(c.raise vs).defers=c.defers:=by
 unfold Frame.raise;cases c.mode<;>rfl
theorem xD.calm{l l':List ai}(h:xD s Ks K κ w L l l'):∀c∈l,∀ch,c.mode≠ .panicking ch:=by
 induction h with
 |one h hk _=>intro c hc;simp at hc;subst hc;exact h.defs.2
 |call h hS hk hc hp ih=>
  intro c hm;rcases List.mem_cons.1 hm with rfl|hm
  ·exact h.defs.2
  ·rcases List.mem_cons.1 hm with rfl|hm
   ·intro ch e;refine ih av _ (.refl _) (c.finish av) (by simp) ch ?_;rw[<-e];unfold Frame.finish;split<;>rfl
   ·exact ih av _ (.refl _) c (by simp[hm])
 |Qx h hS hk hm hm' hp ih=>
  intro c hmm;rcases List.mem_cons.1 hmm with rfl|hmm
  ·exact h.defs.2
  ·exact ih _ (.refl _) c hmm
theorem xD.ne_nil{l l':List ai}(h:xD s Ks K κ w L l l'):∃f r f' r',l=f::r/\l'=f'::r':=by
 cases h<;>exact⟨_,_,_,_,rfl,rfl⟩
theorem Qw(H:wh s P){cs:List ai}(h:az2 s w (f::cs)):(stepG P true (G f cs) w).okD P\/(∃g w1 es,stepG P true (G f cs) w=.go g w1 es/\g.status=.blocked/\g.dying=none)\/∃g b2 w1 es,stepG P true (G f cs) w=.go (G g b2) w1 es/\az2 s w1 (g::b2):=by
 rcases h with⟨l1,hl,e⟩|⟨ch,e⟩
 ·cases hl with
  | @top p rest ch hm hn hd=>
   simp only[bM,List.cons.injEq]at e;obtain⟨rfl,rfl⟩:=e;cases mz:f.defers with
   |cons x ds=>
    obtain⟨g,iy,rfl,hg,hgn⟩:=hd f (by simp) x (by rw[mz];simp);obtain⟨n1,n2,n3⟩:=rR hgn;obtain⟨c1,c2,c3⟩:=pG hg;obtain⟨fn,code,f1,f2,f3,f4,-⟩:=H.body g c1;have h1:¬fn.name= "runtime.NumGoroutine" :=by simpa using f3
    have st:stepG P true (G f (rest++[ek])) w=.go (G ((baseD g).at {tmps:=iy++bO (fn.ntmps-iy.size) av,defers:=[]} [.code code]) ({f with defers:=ds}::(rest++[ek]))) w #[]:=by
     rw[<-enter_atD iy f1 f2];simp[G,stepG,unwind,callDeferred,hm,mz,dcall,invoke,callFunc,f1,h1,f2,dx,seen_none]
    refine .inr (.inr ⟨_,_,_,_,st,.inl ⟨[_]++{f with defers:=ds}::rest,?_,rfl⟩⟩);refine .up (L:=s.en g) (U':=[(baseD g).at {tmps:=iy++bO (fn.ntmps-iy.size) av,defers:=[]} [.code code]]) (.one (h:=0) (KS.run (Ks:=[]) (K:=[]) (b:=baseD g) (a:=⟨iy++bO (fn.ntmps-iy.size) av,[]⟩) [.code code] (s.en g) (by simp) f4 ⟨fun t ht=>?_,fun t ht=>?_,fun t ht=>?_⟩ (Nat.zero_le _) (.inl rfl) (.inl rfl)) rfl fun _=>c1) (p:={f with defers:=ds}) hm (fun c hc=>?_) fun c hc x hx=>?_
    ·rw[show(baseD g).fn=g from rfl,c2]at ht;simp at ht
    ·rw[show(baseD g).fn=g from rfl,n1]at ht;simp at ht
    ·rw[show(baseD g).fn=g from rfl,n2,n3]at ht;simp at ht
    ·rcases List.mem_cons.1 hc with rfl|hc
     ·exact hn f (by simp)
     ·exact hn c (by simp[hc])
    ·rcases List.mem_cons.1 hc with rfl|hc
     ·exact hd f (by simp) x (by rw[mz];exact List.mem_cons_of_mem _ hx)
     ·exact hd c (by simp[hc]) x hx
   |nil=>
    by_cases aS9:f.catches P=true
    ·refine .inl ?_;have st:stepG P true (G f (rest++[ek])) w=.ended (.unsupported (.noEntry "a panic or Goexit out of a method that fmt calls behind a cut's door") (f.pos P)) w #[]:=by
      simp[G,stepG,unwind,hm,mz,aS9]
     rw[st];intro v hv;cases hv
    ·have st:∀c r,stepG P true (G f (c::r)) w=.go (G (c.raise ch) r) w #[]:=fun c r=>by
      simp[G,stepG,unwind,hm,mz,aS9]
     cases rest with
     |nil=>exact .inr (.inr ⟨_,_,_,_,st _ _,.inr ⟨ch,rfl⟩⟩)
     |cons c r=>
      obtain⟨ch2,hm2⟩:=raise_mode c ch;refine .inr (.inr ⟨_,_,_,_,st c (r++[ek]),.inl ⟨c.raise ch::r,.top hm2 (fun x hx=>?_) fun x hx y hy=>?_,rfl⟩⟩)
      ·rcases List.mem_cons.1 hx with rfl|hx
       ·exact(hn c (by simp)).raise (hn f (by simp) ch hm)
       ·exact hn x (by simp[hx])
      ·rcases List.mem_cons.1 hx with rfl|hx
       ·rw[rP]at hy;exact hd c (by simp) y hy
       ·exact hd x (by simp[hx]) y hy
  | @up L U U' p rest ch h hm hn hd=>
   obtain⟨u,b,u',b',rfl,rfl⟩:=h.ne_nil;simp only[bM,List.append_assoc,List.cons.injEq]at e;obtain⟨rfl,rfl⟩:=e;rcases MR (w:=w) H (.inr rfl) (.inl ⟨rfl,rfl⟩) h with⟨g,b2,g',Mh,w1,es,e1,e2,k⟩|⟨rfl,h2,h3⟩|hb
   ·refine .inr (.inr ⟨g,b2++(p::rest++[ek]),w1,es,e1 true _,.inl ⟨g::b2++p::rest,.up k hm hn hd,by simp⟩⟩)
   ·cases h with
    |one hf hk hS=>
     have hk:f.kind=.deferred:=hk;obtain⟨fn,code,f1,-⟩:=H.body _ (hS rfl);cases hf with
     |run X d _ _ _ _ _ _=>cases h2
     | @ret b a todo todo' nJ _ _=>
      have f1:P.funcs[b.fn]?=some fn:=f1;have hk:b.kind=.deferred:=hk;have h3:a.defers=[]:=h3;cases hres:(bT fn a.tmps).run P w with
      |halt hh w1=>
       obtain⟨o,es,e,ho⟩:=wN (main:=true) (todo:=todo) (cs:=p::rest++[ek]) h3 f1 hres;refine .inl ?_;show(stepG P true (G _ (p::rest++[ek])) w).okD P;rw[e];exact ho
      |ok v w1=>
       have:=qT (main:=true) (todo:=todo) (cs:=rest++[ek]) (c:=p) (.inr ⟨hk,fun e older x=>hn p (by simp) _ x e (by simp)⟩) h3 f1 hres
       rw[if_neg (by rw[hk];simp)]at this;exact .inr (.inr ⟨p,rest++[ek],_,_,this,.inl ⟨p::rest,.top hm hn hd,rfl⟩⟩)
   ·rcases hb (p::rest++[ek])with h1|h1|⟨vs,w1,es,h1,h2⟩
    ·exact .inl h1
    ·exact .inr (.inl h1)
    ·obtain⟨ch2,hm2⟩:=raise_mode f vs;refine .inr (.inr ⟨_,_,w1,es,h1,.inl ⟨f.raise vs::(b++p::rest),.top hm2 (fun c hc=>?_) fun c hc x hx=>?_,by simp⟩⟩)
     ·rcases List.mem_cons.1 hc with rfl|hc
      ·exact NR.raise (fun ch x=>(h.calm f (by simp) ch x).elim) h2
      ·rcases List.mem_append.1 hc with hc|hc
       ·exact fun ch x=>(h.calm c (by simp[hc]) ch x).elim
       ·exact hn c hc
     ·rcases List.mem_cons.1 hc with rfl|hc
      ·rw[rP]at hx;exact h.bare f (by simp) x hx
      ·rcases List.mem_append.1 hc with hc|hc
       ·exact h.bare c (by simp[hc]) x hx
       ·exact hd c hc x hx
 ·simp only[List.cons.injEq]at e;obtain⟨rfl,rfl⟩:=e;refine .inl ?_;have:∃o,stepG P true (G (ek.raise ch) []) w=.ended o w #[]/\∀v,o≠ .done v:=⟨_,by simp[G,stepG,unwind,callDeferred,Frame.raise,ek];exact rfl,fun v hv=>by cases hv⟩
  obtain⟨o,e,ho⟩:=this;rw[e];exact ho
theorem oq(f:ai)(cs:List ai)(w:ae):lone f cs w=oneG (G f cs) w:=rfl
theorem Fp:∀(n:Nat) {g:ah} {w:ae},g.dyingOn P->∀fr cs w',runN P n (oneG g w)≠ .next (lone fr cs w')
 |0,g,w,h,fr,cs,w',e=>by
  simp only[runN,Stepped.next.injEq]at e;obtain⟨_,d,hd,_⟩:=h;have:=congrArg (fun m=>(m.gs[0]?).map (·.dying)) e
  simp[oneG,lone,hd]at this
 |n+1,g,w,h,fr,cs,w',e=>by
  rcases step_dyingOn (w:=w) h with⟨g',w1,hs,h'⟩|⟨o,w1,hs,ho⟩
  ·simp only[runN,hs]at e;exact Fp n h' fr cs w' e
  ·simp only[runN,hs]at e;cases e
theorem Kr{g:ah}{w:ae}(h:g.status=.blocked):∀(n:Nat) fr cs w',runN P n (oneG g w)≠ .next (lone fr cs w')
 |0,fr,cs,w',e=>by
  simp only[runN,Stepped.next.injEq]at e;have:=congrArg (fun m=>(m.gs[0]?).map (·.status)) e
  simp[oneG,lone,h]at this
 |n+1,fr,cs,w',e=>by
  obtain⟨f2,X5,st,dy,off⟩:=g;simp only at h;subst h;obtain⟨o',w1,he,ho⟩:=endWith_ended w 2 (bytes "fatal error: all goroutines are asleep - deadlock!\n") (.fatal "all goroutines are asleep - deadlock!");have:step P (oneG ⟨f2,X5,.blocked,dy,off⟩ w)=.ended o' w1:=by
   simp[step,stepT,move,ask,askOn,oneG,runnable_eq,due,ahead,Goroutine.canRun,List.range_succ,pure];rw[he]
  simp only[runN,this]at e;cases e
theorem xI{g:ah}{w:ae}(hr:g.status=.running):(∀g' w' es,stepG P true g w=.go g' w' es->g'.status=.running\/g'.status=.blocked->step P (oneG g w)=.next (oneG g' w'))/\(∀o w' es,stepG P true g w=.ended o w' es->step P (oneG g w)=.ended o w'):=by
 refine⟨fun g' w' es hs h1=>?_,fun o w' es hs=>?_⟩
 ·rw[step,stepT,move_oneG hr];rcases h1 with h1|h1<;>simp[runT,oneG,Array.swapAt!,hs,h1]
 ·rw[step,stepT,move_oneG hr];simp[runT,oneG,Array.swapAt!,hs]
theorem BI{cs:List ai}(h:(stepG P true (G f cs) w).okD P\/∃g w1 es,stepG P true (G f cs) w=.go g w1 es/\g.status=.blocked/\g.dying=none)(n:Nat)(fr:ai)(cs':List ai)(w':ae):runN P (n+1) (lone f cs w)≠ .next (lone fr cs' w'):=by
 intro e;rw[oq]at e;have so:=xI (P:=P) (g:=G f cs) (w:=w) rfl;rcases h with h|⟨g,w1,es,h,h1,-⟩
 ·cases hs:stepG P true (G f cs) w with
  |go g w1 es=>
   rw[hs]at h;have h:g.dyingOn P:=h;rw[runN,so.1 g w1 es hs h.1]at e;exact Fp n h fr cs' w' e
  |ended o w1 es=>rw[runN,so.2 o w1 es hs]at e;cases e
  |_=>rw[hs]at h;exact h.elim
 ·rw[runN,so.1 g w1 es h (.inr h1)]at e;exact Kr h1 n fr cs' w' e
theorem Ke(H:wh s P):∀(n:Nat) {f:ai} {cs:List ai} {w:ae},az2 s w (f::cs)->∀fr w',(∀ch,fr.mode≠ .panicking ch)->runN P n (lone f cs w)≠ .next (lone fr [ek] w')
 |0,f,cs,w,h,fr,w',hm,e=>by
  simp only[runN,Stepped.next.injEq]at e;have e1:f=fr:=by have:=congrArg (fun m=>(m.gs[0]?).map (·.frame)) e;simpa [lone]using this
  have e2:cs=[ek]:=by have:=congrArg (fun m=>(m.gs[0]?).map (·.callers)) e;simpa [lone]using this
  subst e1 e2;rcases h with⟨l1,hl,e⟩|⟨ch,e⟩
  ·have:l1=[f]:=by
    have:[f]++[ek]=l1++[ek]:=e
    exact(List.append_cancel_right this).symm
   subst this;generalize hf:[f]=l1 at hl;cases hl with
   |top h1=>
    simp only[List.cons.injEq]at hf;obtain⟨rfl,-⟩:=hf;exact hm _ h1
   |up h=>
    obtain⟨u,b,u',b',rfl,rfl⟩:=h.ne_nil;have:=congrArg List.length hf
    simp at this
  ·have:=congrArg List.length e
   simp at this
 |n+1,f,cs,w,h,fr,w',hm,e=>by
  rcases Qw (w:=w) H h with h1|h1|⟨g,b2,w1,es,h1,h2⟩
  ·exact BI (.inl h1) n fr _ w' e
  ·exact BI (.inr h1) n fr _ w' e
  ·have so:=(xI (P:=P) (g:=G f cs) (w:=w) rfl).1 _ _ _ h1 (.inl rfl);rw[<-oq,<-oq]at so;rw[runN,so]at e;exact Ke H n h2 fr w' hm e
theorem RP(H:wh s P)(T4:(Ks=[]/\K=[])\/Ks=[fM]):∀(n:Nat) {f f':ai} {base base':List ai} {L:Nat} {w:ae},xD s Ks K .normal w L (f::base) (f'::base')->
  ∀fr w',(∀ch,fr.mode≠ .panicking ch)->runN P n (lone f (base++[ek]) w)=.next (lone fr [ek] w')->∀(tail:List ai) (t:Trace),(∀op∈t,op.g=0)->Deaf t 0=L->
  ∃fr' L' t',xD s Ks K .normal w' L' [fr] [fr']/\runNT P n (solo (G f' (base'++tail)) w) t=(.next (solo (G fr' tail) w'),t')/\(∀op∈t',op.g=0)/\Deaf t' 0=L'
 |0,f,f',base,base',L,w,h,fr,w',hm,e,tail,t,ht,hd=>by
  simp only[runN,Stepped.next.injEq]at e;have e1:f=fr:=by have:=congrArg (fun m=>(m.gs[0]?).map (·.frame)) e;simpa [lone]using this
  have e2:base++[ek]=[ek]:=by have:=congrArg (fun m=>(m.gs[0]?).map (·.callers)) e;simpa [lone]using this
  have e3:w=w':=congrArg (·.world) e;have e2:base=[]:=by simpa using e2
  subst e1 e2 e3;have e4:base'=[]:=by cases h;rfl
  subst e4;exact⟨f',L,t,h,rfl,ht,hd⟩
 |n+1,f,f',base,base',L,w,h,fr,w',hm,e,tail,t,ht,hd=>by
  rcases MR (w:=w) H (.inl rfl) T4 h with⟨g,b2,g',Mh,w1,es,e1,e2,k⟩|⟨rfl,h2,h3⟩|hb
  ·have so:=(xI (P:=P) (g:=G f (base++[ek])) (w:=w) rfl).1 _ _ _ (e1 true [ek]) (.inl rfl);rw[<-oq,<-oq]at so;rw[runN,so]at e;have st:stepT P (solo (G f' (base'++tail)) w)=(.next (solo (G g' (Mh++tail)) w1),aA 0 f'.fn f'.place es):=by
    rw[stepT_solo rfl];exact runT_solo_go (e2 true tail)
   have hg:∀op∈t++aA 0 f'.fn f'.place es,op.g=0:=fun op hop=>by
    rcases Array.mem_append.1 hop with hop|hop
    ·exact ht op hop
    ·rw[ofEvents_eq]at hop;obtain⟨x,_,rfl⟩:=Array.mem_map.1 hop;rfl
   have hd2:Deaf (t++aA 0 f'.fn f'.place es) 0=deafBehind L es:=by rw[Deaf_own,hd]
   obtain⟨fr',L',t',k1,k2,k3,k4⟩:=RP H T4 n k fr w' hm e tail _ hg hd2;refine⟨fr',L',t',k1,?_,k3,k4⟩;simp only[runNT,st];exact k2
  ·exfalso;have hk:f.kind=.normal:=by cases h;assumption
   exact xp h2 h3 hk n fr w' e
  ·exfalso;rcases hb [ek]with h1|h1|⟨vs,w1,es,h1,h2⟩
   ·exact BI (.inl h1) n fr _ w' e
   ·exact BI (.inr h1) n fr _ w' e
   ·have so:=(xI (P:=P) (g:=G f (base++[ek])) (w:=w) rfl).1 _ _ _ h1 (.inl rfl);rw[<-oq,<-oq]at so;rw[runN,so]at e;obtain⟨ch2,hm2⟩:=raise_mode f vs;refine Ke H n (.inl ⟨f.raise vs::base,.top hm2 (fun c hc=>?_) fun c hc x hx=>?_,rfl⟩) fr w' hm e
    ·rcases List.mem_cons.1 hc with rfl|hc
     ·exact NR.raise (fun ch x=>(h.calm f (by simp) ch x).elim) h2
     ·exact fun ch x=>(h.calm c (by simp[hc]) ch x).elim
    ·rcases List.mem_cons.1 hc with rfl|hc
     ·rw[rP]at hx;exact h.bare f (by simp) x hx
     ·exact h.bare c (by simp[hc]) x hx
theorem P7(H:wh s P){Q:Exit->Act->ae->Prop}(hQ:∀e a w,Q e a w->e=.normal\/e=.ret){c:Code}{b:ai}{a:Act}(hk:b.kind=.normal)(nJ:∀x∈a.defers,CD s x)(hX:Sg.fin (s.items b.fn (some 0) [.code c])=true)(hl:s.vX b.fn=false)(hs:∀t,(s.fs b.fn).contains t=true->CV s b.fn (a.tmps.getD t av))(hC:c.wp P Q a w)(k:List Item)(cs:List ai)(t:Trace)(ht:∀op∈t,op.g=0)(hd:Deaf t 0=0):
  ∃n a2 w2 t2,(∀op∈t2,op.g=0)/\Deaf t2 0=0/\((Q .normal a2 w2/\runNT P n (solo (G (b.at a (.code c::k)) cs) w) t=(.next (solo (G (b.at a2 k) cs) w2),t2))\/
   ∃todo,Q .ret a2 w2/\runNT P n (solo (G (b.at a (.code c::k)) cs) w) t=(.next (solo (G {b.at a2 todo with mode:=.returning} cs) w2),t2)):=by
 obtain⟨l1,l2,l3⟩:=LY hl;have h:xD s [fM] k .normal w 0 [b.at a ([.code c]++[fM])] [b.at a ([.code c]++k)]:=.one (h:=0) (.run [.code c] 0 nJ hX ⟨hs,fun t ht=>by rw[l1]at ht;simp at ht,fun u hu=>by rw[l2,l3]at hu;simp at hu⟩ (Nat.zero_le _) (.inl rfl) (.inl rfl)) hk fun e=>by cases e
 obtain⟨e,a2,w2,hq,hr⟩:=hC b [fM] [ek];have aW6:∀n fr w',runN P n (lone (b.at a (.code c::[fM])) [ek] w)=.next (lone fr [ek] w')->(∀ch,fr.mode≠ .panicking ch)->∃fr' L' t',xD s [fM] k .normal w' L' [fr] [fr']/\runNT P n (solo (G (b.at a (.code c::k)) cs) w) t=(.next (solo (G fr' cs) w'),t')/\(∀op∈t',op.g=0)/\Deaf t' 0=L':=
  fun n fr w' hn hm=>RP H (.inr rfl) n h fr w' hm hn cs t ht hd
 rcases hQ e a2 w2 hq with rfl|rfl
 ·obtain⟨n,hn⟩:=hr;obtain⟨fr',L',t',k1,k2,k3,k4⟩:=aW6 n _ _ hn fun ch e=>by cases e
  refine⟨n,a2,w2,t',k3,?_,.inl ⟨hq,?_⟩⟩
  ·generalize Q9:b.at a2 [fM]=fr at k1;cases k1 with
   |one hF hk2 _=>cases hF with
    | @run b1 a1 X d h1 VD h2 _ _ _=>
     have h3:=congrArg Frame.todo Q9;simp only[Frame.at]at h3;have VE:X=[]:=by
      cases X with
      |nil=>rfl
      |cons x X=>have:=congrArg List.length h3;simp at this
     subst VE;rw[k4];simpa [Sg.items,Sg.fin]using VD
    |ret h1 _ _=>have:=congrArg Frame.mode Q9;cases this
  ·generalize Q9:b.at a2 [fM]=fr at k1;cases k1 with
   |one hF hk2 _=>cases hF with
    | @run b1 a1 X d h1 VD h2 _ _ _=>
     simp only[Frame.at,Frame.mk.injEq]at Q9;obtain⟨h3,h4,h5,h6,-,h7,-⟩:=Q9;have VE:X=[]:=by
      cases X with
      |nil=>rfl
      |cons x X=>have:=congrArg List.length h5;simp at this
     subst VE;have ha:a1=a2:=by cases a1;cases a2;simp at h4 h6;subst h4 h6;rfl
     subst ha;have e:b1.at a1 ([]++k)=b.at a1 k:=at_eq h3.symm h7.symm a1 k;rw[e]at k2;exact k2
    |ret h1 _ _=>have:=congrArg Frame.mode Q9;cases this
 ·obtain⟨todo,n,hn⟩:=hr;obtain⟨fr',L',t',k1,k2,k3,k4⟩:=aW6 n _ _ hn fun ch e=>by cases e
  generalize Q9:({b.at a2 todo with mode:=.returning}:ai)=fr at k1;cases k1 with
  |one hF hk2 _=>cases hF with
   |run X d h1 VD h2 _ _ _=>have:=congrArg Frame.mode Q9;cases this
   | @ret b1 a1 bx5 FY h1 _ _=>
    simp only[Frame.at,Frame.mk.injEq]at Q9;obtain⟨h3,h4,h5,h6,-,h7,-⟩:=Q9;have ha:a1=a2:=by cases a1;cases a2;simp at h4 h6;subst h4 h6;rfl
    subst ha;have e:({b1.at a1 FY with mode:=.returning}:ai)={b.at a1 FY with mode:=.returning}:=by rw[at_eq h3.symm h7.symm a1 FY]
    rw[e]at k2;exact⟨n,a1,w2,t',k3,k4,.inr ⟨FY,hq,k2⟩⟩
end
end
end Cc
namespace Cc
open Go.Conc Go.ConcN
open Go.ConcR (DC0)
def LR(P:au)(g₀:ah)(w₀:ae)(g:ah)(w:ae):Prop:=
 ∃n t,runNT P n (solo g₀ w₀) #[]=(.next (solo g w),t)/\g.status=.running/\(∀op∈t,op.g=0)/\Deaf t 0=0
theorem LR.start{P:au}{g:ah}{w:ae}(h:g.status=.running):LR P g w g w:=
 ⟨0,#[],rfl,h,fun op h=>by simp at h,rfl⟩
section
variable{s:Sg}{P:au}{g₀:ah}{w₀:ae}
theorem LR.step{g g':ah}{w w':ae}(h:LR P g₀ w₀ g w)(hs:stepG P true g w=.go g' w' #[])(hr:g'.status=.running):LR P g₀ w₀ g' w':=by
 obtain⟨n,t,h1,h2,h3,h4⟩:=h;have st:stepT P (solo g w)=(.next (solo g' w'),aA 0 g.frame.fn g.frame.place #[]):=by
  rw[stepT_solo h2];exact runT_solo_go hs
 refine⟨n+1,t,?_,hr,h3,h4⟩;rw[runNT_add,h1];simp only[runNT,st];rw[ofEvents_none,Array.append_empty]
theorem LR.walk{X:Prop}{w:ae}:∀(n:Nat) {g:ah} {w':ae},LR P g₀ w₀ g w->Goes P (0==0) (fun _ w₁=>Ho w₁) DC0 (fun g' _=>g'.status=.running/\(LR P g₀ w₀ g' w->X)) n g w'->X
 |0,g,w',h,k=>(k w trivial).2 h
 |n+1,g,w',h,k=>by
  rcases k with k|⟨hs,k⟩
  ·exact(k w trivial).2 h
  ·have h1:=k w trivial;cases hg:stepG P (0==0) g w with
   |go g' w2 es=>
    rw[hg]at h1;simp only[goes_go]at h1;obtain⟨⟨rfl,rfl⟩,h2⟩:=h1;have hrun:g'.status=.running:=by
     cases n with
     |zero=>exact(h2 w2 trivial).1
     |succ n=>exact h2.elim (fun h2=>(h2 w2 trivial).1) fun h2=>h2.1
    exact LR.walk n (h.step hg hrun) h2
   |_=>rw[hg]at h1;exact h1.elim
theorem LR.road{X:Prop}{g:ah}{w:ae}(n:Nat)(h:LR P g₀ w₀ g w)(k:∀YF:ae,Ho YF->Goes P (0==0) (fun _ w₁=>Ho w₁) DC0 (fun g' _=>g'.status=.running/\(LR P g₀ w₀ g' w->X)) n g YF):X:=
 LR.walk n h (k w trivial)
theorem LR.call{b:ai}{a:Act}{kk:List Item}{cs:List ai}{w:ae}{ops:Array Oper}{i:Nat}{rest:List Nat}{o:Oper}{f:ak}{args:Array af}(h:LR P g₀ w₀ (G (b.at a (.inRegion ops (i::rest)::kk)) cs) w)(ho:ops[i]?=some o)(hw:bg o (yielded ops a.tmps)=true)(hk:b.kind≠ .early)
  (hr:∀w:ae,(ax a.eval o).run P w=.ok (.enter f args) w)(he:∀w:ae,(ax a.eval o).events P w #[]=#[]):LR P g₀ w₀ (G (bQ P f args .normal) (b.at a (.inRegion ops (i::rest)::kk)::cs)) w:=by
 refine h.step ?_ rfl;rw[stepG_enter ho hw hk (hr w)];unfold listed;rw[he,seen_none]
theorem LR.code(H:wh s P){Q:Exit->Act->ae->Prop}(hQ:∀e a w,Q e a w->e=.normal\/e=.ret){c:Code}{b:ai}{a:Act}{w:ae}{k:List Item}{cs:List ai}(h:LR P g₀ w₀ (G (b.at a (.code c::k)) cs) w)(hk:b.kind=.normal)(nJ:a.defers=[])(hX:Sg.fin (s.items b.fn (some 0) [.code c])=true)(hl:s.vX b.fn=false)(hs:s.fs b.fn=[])(hC:c.wp P Q a w):
  ∃a2 w2,(Q .normal a2 w2/\LR P g₀ w₀ (G (b.at a2 k) cs) w2)\/∃todo,Q .ret a2 w2/\LR P g₀ w₀ (G {b.at a2 todo with mode:=.returning} cs) w2:=by
 obtain⟨n,t,h1,h2,h3,h4⟩:=h;obtain⟨m,a2,w2,t2,k1,k2,k3⟩:=P7 H hQ hk (fun x hx=>by rw[nJ]at hx;cases hx) hX hl (fun t ht=>by rw[hs]at ht;cases ht) hC k cs t h3 h4;refine⟨a2,w2,k3.imp (fun⟨q1,q2⟩=>⟨q1,n+m,t2,?_,rfl,k1,k2⟩) fun⟨todo,q1,q2⟩=>⟨todo,q1,n+m,t2,?_,rfl,k1,k2⟩⟩
 ·rw[runNT_add,h1];exact q2
 ·rw[runNT_add,h1];exact q2
theorem LR.pieces(H:wh s P){N R:Act->ae->Prop}{b:ai}(hk:b.kind=.normal)(hl:s.vX b.fn=false)(hs:s.fs b.fn=[]){T:Code}{k:List Item}{cst:List ai}{X:Prop}
  (GQ:∀a2 w2,a2.defers=[]->N a2 w2->LR P g₀ w₀ (G (b.at a2 (.code T::k)) cst) w2->X)(GP:∀a2 w2 todo,a2.defers=[]->R a2 w2->LR P g₀ w₀ (G {b.at a2 todo with mode:=.returning} cst) w2->X):
  ∀(cs:List Code),(∀c∈cs,Sg.fin (s.items b.fn (some 0) [.code c])=true)->∀(a:Act) (w:ae),a.defers=[]->LR P g₀ w₀ (G (b.at a (.code (Ah cs T)::k)) cst) w->wpL P N R cs a w->X
 |[],_,a,w,hd,h,hw=>GQ a w hd hw h
 |c::cs,hc,a,w,hd,h,hw=>by
  have h1:LR P g₀ w₀ (G (b.at a (.code c:: .code (Ah cs T)::k)) cst) w:=h.step (by
   show stepG P true (G (b.at a (.code (.seq c (Ah cs T))::k)) cst) w=_;rw[stepG_seq]) rfl
  obtain⟨a2,w2,hz⟩:=LR.code H (fun e a w h=>by cases e<;>first|exact .inl rfl|exact .inr rfl|exact h.elim) h1 hk hd (hc c (by simp)) hl hs hw;rcases hz with⟨q1,q2⟩|⟨todo,q1,q2⟩
  ·obtain⟨e1,e2⟩:=q1;exact LR.pieces H hk hl hs GQ GP cs (fun c' h=>hc c' (by simp[h])) a2 w2 e1 q2 e2
  ·obtain⟨e1,e2⟩:=q1;exact GP a2 w2 todo e1 e2 q2
end
end Cc
namespace Cc
open Go.Conc
instance aj0(wr:Bool)(a:Addr):Nm wr (mark (.acquire a)):=⟨⟨by simp,by simp⟩,trivial⟩
instance YX(wr:Bool)(a:Addr):Nm wr (mark (.releaseMerge a)):=⟨⟨by simp,by simp⟩,trivial⟩
instance by2(wr:Bool)(iy:Array af):Nm wr (Extern.Race.at_ iy):=⟨by
 unfold Extern.Race.at_;split<;>exact Nm.out⟩
theorem EX(iy:Array af):NM true (Extern.Race.marked .acquire iy)/\NM true (Extern.Race.marked .releaseMerge iy):=
 ⟨NM.bind Nm.out fun _=>NM.bind Nm.out fun _=>Nm.out,NM.bind Nm.out fun _=>NM.bind Nm.out fun _=>Nm.out⟩
instance a57(wr:Bool)(t:Extern.Atomic.T)(a:Addr):Nm wr (Extern.Atomic.read t a):=⟨by
 unfold Extern.Atomic.read;repeat' (first|exact Nm.out|(refine NM.bind ?_ fun _=>?_)|(refine NM.ite ?_ ?_)|split)⟩
theorem Nf{α:Type}{wr:Bool}{p:α->Sem Bool}(h:∀a,NM wr (p a)):∀l:List α,NM wr (l.anyM p)
 |[]=>by simp only[List.anyM];exact Nm.out
 |a::l=>by
  simp only[List.anyM];refine NM.bind (h a) fun b=>?_;cases b with
  |true=>exact Nm.out
  |false=>exact Nf h l
instance ag6(wr:Bool)(a:Addr):Nm wr (Extern.Atomic.touchesFrozen a):=⟨by
 unfold Extern.Atomic.touchesFrozen;repeat' (first|exact Nm.out|exact Nf (fun _=>Nm.out) _|(refine NM.bind ?_ fun _=>?_)|(refine NM.ite ?_ ?_)|split|dsimp only)⟩
theorem n7(iy:Array af):iy=#[]\/(∃x,iy=#[x])\/(∃x y,iy=#[x,y])\/(∃x y z,iy=#[x,y,z])\/∃x y z u l,iy=⟨x::y::z::u::l⟩:=by
 obtain⟨l⟩:=iy;match l with
 |[]=>exact .inl rfl
 |[x]=>exact .inr (.inl ⟨x,rfl⟩)
 |[x,y]=>exact .inr (.inr (.inl ⟨x,y,rfl⟩))
 |[x,y,z]=>exact .inr (.inr (.inr (.inl ⟨x,y,z,rfl⟩)))
 |x::y::z::u::l=>exact .inr (.inr (.inr (.inr ⟨x,y,z,u,l,rfl⟩)))
theorem Lx(iy:Array af):NM true (Extern.Sync.canSpin iy):=by
 rcases n7 iy with rfl|⟨x,rfl⟩|⟨x,y,rfl⟩|⟨x,y,z,rfl⟩|⟨x,y,z,u,l,rfl⟩<;>(try exact trivial)
 cases x<;>first
  |exact trivial
  |(show NM true (if _ then _ else _)
    refine NM.ite Nm.out (NM.bind Nm.out fun _=>Nm.out))
theorem PU(iy:Array af):NM true (Extern.Sync.nothing iy):=trivial
theorem SE(h:String->Halt)(hh:∀m,Yo (h m))(iy:Array af):NM true (Extern.Sync.die h iy):=by
 rcases n7 iy with rfl|⟨x,rfl⟩|⟨x,y,rfl⟩|⟨x,y,z,rfl⟩|⟨x,y,z,u,l,rfl⟩<;>(try exact trivial)
 cases x<;>first
  |exact trivial
  |(show NM true (match String.fromUTF8? _ with|some m=>_|none=>_)
    split
    ·exact hh _
    ·exact trivial)
theorem ai3(t:Extern.Atomic.T)(iy:Array af):NM true (Extern.Atomic.casT t iy):=by
 rcases n7 iy with rfl|⟨x,rfl⟩|⟨x,y,rfl⟩|⟨x,y,z,rfl⟩|⟨x,y,z,u,l,rfl⟩<;>(try exact trivial)
 unfold Extern.Atomic.casT;refine NM.bind (x:=asAddr x) Nm.out fun a=>?_;repeat' (first|exact Nm.out|(refine NM.bind ?_ fun _=>?_)|(refine NM.ite ?_ ?_)|split|dsimp only)
theorem PL(k:IntKind)(b:Bool)(iy:Array af):NM true (Extern.Atomic.update (Op.intArith .add) k b iy):=by
 rcases n7 iy with rfl|⟨x,rfl⟩|⟨x,y,rfl⟩|⟨x,y,z,rfl⟩|⟨x,y,z,u,l,rfl⟩<;>(try exact trivial)
 unfold Extern.Atomic.update;refine NM.bind (x:=asAddr x) Nm.out fun a=>?_;repeat' (first|exact Nm.out|(refine NM.bind ?_ fun _=>?_)|(refine NM.ite ?_ ?_)|split|dsimp only)
theorem SC(t:Extern.Atomic.T)(iy:Array af):NM true (Extern.Atomic.loadT t iy):=by
 rcases n7 iy with rfl|⟨x,rfl⟩|⟨x,y,rfl⟩|⟨x,y,z,rfl⟩|⟨x,y,z,u,l,rfl⟩<;>(try exact trivial)
 unfold Extern.Atomic.loadT;exact NM.bind (x:=asAddr x) Nm.out fun a=>Nm.out
theorem PS(iy:Array af):NM true (Extern.Atomic.storeT iy):=by
 rcases n7 iy with rfl|⟨x,rfl⟩|⟨x,y,rfl⟩|⟨x,y,z,rfl⟩|⟨x,y,z,u,l,rfl⟩<;>(try exact trivial)
 unfold Extern.Atomic.storeT;exact NM.bind (x:=asAddr x) Nm.out fun a=>NM.bind Nm.out fun _=>Nm.out
theorem IW(iy:Array af):NM true (Extern.Sync.count iy):=by
 unfold Extern.Sync.count;repeat' (first|exact Nm.out|(refine NM.bind ?_ fun _=>?_)|split)
section
variable{P:au}
theorem NU(iy:Array af)(d:Nat):Lv P (Extern.Sync.semacquire iy) d d/\Lv P (Extern.Sync.semrelease iy) d d:=by
 have en:Lv P (do mark .enable;aX Extern.Sync.none_:Sem af) (d+1) d:=(rfl:d+1-1=d);refine⟨?_,?_⟩
 ·show Lv P (Extern.Sync.count iy>>=fun p=>_) (d+1) d;refine Lv.bind ((IW iy).lv (d+1)) fun p=>?_;obtain⟨a,n⟩:=p;dsimp only;split
  ·exact trivial
  ·exact Lv.bind ((Nm.out:NM true (store a (.int .u32 (n-1)) .atomic)).lv _) fun _=>en
 ·show Lv P (Extern.Sync.count iy>>=fun p=>_) (d+1) d;refine Lv.bind ((IW iy).lv (d+1)) fun p=>?_;obtain⟨a,n⟩:=p;exact Lv.bind ((Nm.out:NM true (Op.intArith .add .u32 n 1)).lv _) fun v=>Lv.bind ((Nm.out:NM true (store a v .atomic)).lv _) fun _=>en
theorem CH(iy:Array af)(d:Nat):Lv P ((fun _=>do mark .disable;aX Extern.Race.none_:Array af->Sem af) iy) d (d+1)/\Lv P ((fun _=>do mark .enable;aX Extern.Race.none_:Array af->Sem af) iy) d (d-1):=⟨rfl,rfl⟩
theorem iI{f:ak}{fn:Func}{e:Array af->Sem af}(hf:P.funcs[f]?=some fn)(hname:(fn.name== "runtime.NumGoroutine")=false)(hb:fn.body.isNone=true)(hn:Extern.findNext fn=none)(he:Extern.find fn=some e)(iy:Array af){d d':Nat}(h:Lv P (e iy) d d'):
  Lv P (callFunc f iy) d d'/\∀w nx w',(callFunc f iy).run P w=.ok nx w'->∃v,nx=.value v:=by
 refine⟨?_,fun w nx w' h=>?_⟩
 ·have h1:¬fn.name= "runtime.NumGoroutine" :=by simpa using hname
  unfold callFunc;show Lv P (match P.funcs[f]? with
   |none=>_
   |some fn=>_) d d'
  simp only[hf];rw[if_neg (by simpa using h1),if_pos hb];simp only[hn,he];show Lv P (do let v<-e iy;aX (Next.value v)) d d';exact Lv.bind h fun _=>rfl
 ·rw[run_callFunc_extern hf hname hb hn he]at h;cases hx:(e iy).run P w with
  |halt hh w1=>rw[hx]at h;cases h
  |ok v w1=>rw[hx]at h;simp at h<;>exact⟨v,h.1.symm⟩
end
end Cc
namespace Cc
open Go.Conc Go.RowKit
def ae3:List ak:=[24,51,52,54,53,25,36,50,18,30,55,82,83,41,42,56,57,67,58,73,69,84,59,60,70,64,65,66,68,37,47,43,44,119,120,85,86,87,88,89,77,103,104,133,135,121,111,112,126,127,137,147]
def RN:List ak:=[105,90,132,134,139,140,141,142,143,144,145,136,146]
def sg:Sg where
 ok:=ae3.contains
 fs:=fun f=>if f==89 then [8,12,13,24,37]else if f==88 then [1,15]else if f==56 then [11,29,30]else if f==66 then [9]else if f==103 then [1,10]else if f==127 then [1,19]else []
 en:=fun f=>if f==133 then 1 else 0
 ext:=RN.contains
 VK:=91
 VJ:=92
 pure:=[85,86,87,47,68,65].contains
 own:=fun f=>if f==56 then [15,8,16]else if f==86 then [4]else if f==87 then [4]else []
 wF:=fun f=>if f==56 then [24]else []
 wG:=fun f=>if f==56 then [28]else []
 Wa:=[167]
 np:=fun f=>if f==56 then 3 else 1
theorem fH{g:ak}(h:(sg.own g++(sg.wF g++sg.wG g)).all (fun t=>decide (sg.np g<=t))=true):∀t∈sg.own g++(sg.wF g++sg.wG g),sg.np g<=t:=fun t ht=>by
 rw[List.all_eq_true]at h;simpa using h t ht
instance a59(xs:Array af):Nm true (Extern.OsHooks.nano xs):=⟨by
 unfold Extern.OsHooks.nano Extern.OsHooks.clock;repeat' (first|exact Nm.out|(refine NM.bind ?_ fun _=>?_)|split)⟩
theorem V6(g:ak)(hg:sg.ok g=true):∃fn c,Try.prog.funcs[g]?=some fn/\fn.body=some c/\(fn.name== "runtime.NumGoroutine")=false/\Sg.fin (sg.items g (some (sg.en g)) [.code c])=true/\∀t∈sg.own g++(sg.wF g++sg.wG g),sg.np g<=t:=by
 have hg:ae3.contains g=true:=hg;unfold ae3 at hg;simp only[List.contains_cons,List.contains_nil,Bool.or_false,bf,beq_iff_eq]at hg;rcases hg with rfl|rfl|rfl|rfl|rfl|rfl|rfl|rfl|rfl|rfl|rfl|rfl|rfl|rfl|rfl|rfl|rfl|rfl|rfl|rfl|rfl|rfl|rfl|rfl|rfl|rfl|rfl|rfl|rfl|rfl|rfl|rfl|rfl|rfl|rfl|rfl|rfl|rfl|rfl|rfl|rfl|rfl|rfl|rfl|rfl|rfl|rfl|rfl|rfl|rfl|rfl|rfl
 ·exact⟨_,_,Try.func24,rfl,by kernel_rfl,by kernel_rfl,fH (by kernel_rfl)⟩
 ·exact⟨_,_,Try.func51,rfl,by kernel_rfl,by kernel_rfl,fH (by kernel_rfl)⟩
 ·exact⟨_,_,Try.func52,rfl,by kernel_rfl,by kernel_rfl,fH (by kernel_rfl)⟩
 ·exact⟨_,_,Try.func54,rfl,by kernel_rfl,by kernel_rfl,fH (by kernel_rfl)⟩
 ·exact⟨_,_,Try.func53,rfl,by kernel_rfl,by kernel_rfl,fH (by kernel_rfl)⟩
 ·exact⟨_,_,Try.func25,rfl,by kernel_rfl,by kernel_rfl,fH (by kernel_rfl)⟩
 ·exact⟨_,_,Try.func36,rfl,by kernel_rfl,by kernel_rfl,fH (by kernel_rfl)⟩
 ·exact⟨_,_,Try.func50,rfl,by kernel_rfl,by kernel_rfl,fH (by kernel_rfl)⟩
 ·exact⟨_,_,Try.func18,rfl,by kernel_rfl,by kernel_rfl,fH (by kernel_rfl)⟩
 ·exact⟨_,_,Try.func30,rfl,by kernel_rfl,by kernel_rfl,fH (by kernel_rfl)⟩
 ·exact⟨_,_,Try.func55,rfl,by kernel_rfl,by kernel_rfl,fH (by kernel_rfl)⟩
 ·exact⟨_,_,Try.func82,rfl,by kernel_rfl,by kernel_rfl,fH (by kernel_rfl)⟩
 ·exact⟨_,_,Try.func83,rfl,by kernel_rfl,by kernel_rfl,fH (by kernel_rfl)⟩
 ·exact⟨_,_,Try.func41,rfl,by kernel_rfl,by kernel_rfl,fH (by kernel_rfl)⟩
 ·exact⟨_,_,Try.func42,rfl,by kernel_rfl,by kernel_rfl,fH (by kernel_rfl)⟩
 ·exact⟨_,_,Try.func56,rfl,by kernel_rfl,by kernel_rfl,fH (by kernel_rfl)⟩
 ·exact⟨_,_,Try.func57,rfl,by kernel_rfl,by kernel_rfl,fH (by kernel_rfl)⟩
 ·exact⟨_,_,Try.func67,rfl,by kernel_rfl,by kernel_rfl,fH (by kernel_rfl)⟩
 ·exact⟨_,_,Try.func58,rfl,by kernel_rfl,by kernel_rfl,fH (by kernel_rfl)⟩
 ·exact⟨_,_,Try.func73,rfl,by kernel_rfl,by kernel_rfl,fH (by kernel_rfl)⟩
 ·exact⟨_,_,Try.func69,rfl,by kernel_rfl,by kernel_rfl,fH (by kernel_rfl)⟩
 ·exact⟨_,_,Try.func84,rfl,by kernel_rfl,by kernel_rfl,fH (by kernel_rfl)⟩
 ·exact⟨_,_,Try.func59,rfl,by kernel_rfl,by kernel_rfl,fH (by kernel_rfl)⟩
 ·exact⟨_,_,Try.func60,rfl,by kernel_rfl,by kernel_rfl,fH (by kernel_rfl)⟩
 ·exact⟨_,_,Try.func70,rfl,by kernel_rfl,by kernel_rfl,fH (by kernel_rfl)⟩
 ·exact⟨_,_,Try.func64,rfl,by kernel_rfl,by kernel_rfl,fH (by kernel_rfl)⟩
 ·exact⟨_,_,Try.func65,rfl,by kernel_rfl,by kernel_rfl,fH (by kernel_rfl)⟩
 ·exact⟨_,_,Try.func66,rfl,by kernel_rfl,by kernel_rfl,fH (by kernel_rfl)⟩
 ·exact⟨_,_,Try.func68,rfl,by kernel_rfl,by kernel_rfl,fH (by kernel_rfl)⟩
 ·exact⟨_,_,Try.func37,rfl,by kernel_rfl,by kernel_rfl,fH (by kernel_rfl)⟩
 ·exact⟨_,_,Try.func47,rfl,by kernel_rfl,by kernel_rfl,fH (by kernel_rfl)⟩
 ·exact⟨_,_,Try.func43,rfl,by kernel_rfl,by kernel_rfl,fH (by kernel_rfl)⟩
 ·exact⟨_,_,Try.func44,rfl,by kernel_rfl,by kernel_rfl,fH (by kernel_rfl)⟩
 ·exact⟨_,_,Try.func119,rfl,by kernel_rfl,by kernel_rfl,fH (by kernel_rfl)⟩
 ·exact⟨_,_,Try.func120,rfl,by kernel_rfl,by kernel_rfl,fH (by kernel_rfl)⟩
 ·exact⟨_,_,Try.func85,rfl,by kernel_rfl,by kernel_rfl,fH (by kernel_rfl)⟩
 ·exact⟨_,_,Try.func86,rfl,by kernel_rfl,by kernel_rfl,fH (by kernel_rfl)⟩
 ·exact⟨_,_,Try.func87,rfl,by kernel_rfl,by kernel_rfl,fH (by kernel_rfl)⟩
 ·exact⟨_,_,Try.func88,rfl,by kernel_rfl,by kernel_rfl,fH (by kernel_rfl)⟩
 ·exact⟨_,_,Try.func89,rfl,by kernel_rfl,by kernel_rfl,fH (by kernel_rfl)⟩
 ·exact⟨_,_,Try.func77,rfl,by kernel_rfl,by kernel_rfl,fH (by kernel_rfl)⟩
 ·exact⟨_,_,Try.func103,rfl,by kernel_rfl,by kernel_rfl,fH (by kernel_rfl)⟩
 ·exact⟨_,_,Try.func104,rfl,by kernel_rfl,by kernel_rfl,fH (by kernel_rfl)⟩
 ·exact⟨_,_,Try.func133,rfl,by kernel_rfl,by kernel_rfl,fH (by kernel_rfl)⟩
 ·exact⟨_,_,Try.func135,rfl,by kernel_rfl,by kernel_rfl,fH (by kernel_rfl)⟩
 ·exact⟨_,_,Try.func121,rfl,by kernel_rfl,by kernel_rfl,fH (by kernel_rfl)⟩
 ·exact⟨_,_,Try.func111,rfl,by kernel_rfl,by kernel_rfl,fH (by kernel_rfl)⟩
 ·exact⟨_,_,Try.func112,rfl,by kernel_rfl,by kernel_rfl,fH (by kernel_rfl)⟩
 ·exact⟨_,_,Try.func126,rfl,by kernel_rfl,by kernel_rfl,fH (by kernel_rfl)⟩
 ·exact⟨_,_,Try.func127,rfl,by kernel_rfl,by kernel_rfl,fH (by kernel_rfl)⟩
 ·exact⟨_,_,Try.func137,rfl,by kernel_rfl,by kernel_rfl,fH (by kernel_rfl)⟩
 ·exact⟨_,_,Try.func147,rfl,by kernel_rfl,by kernel_rfl,fH (by kernel_rfl)⟩
theorem ae2(g:ak)(hg:sg.ext g=true)(xs:Array af)(d:Nat):Lv dS (callFunc g xs) d d/\∀w nx w2,(callFunc g xs).run dS w=.ok nx w2->∃v,nx=.value v:=by
 have hg:RN.contains g=true:=hg;unfold RN at hg;simp only[List.contains_cons,List.contains_nil,Bool.or_false,bf,beq_iff_eq]at hg;rcases hg with rfl|rfl|rfl|rfl|rfl|rfl|rfl|rfl|rfl|rfl|rfl|rfl|rfl
 ·exact iI (e:=Extern.Race.marked .acquire) Try.func105 (by kernel_rfl) (by kernel_rfl) (by kernel_rfl) (by kernel_rfl) xs ((EX _).1.lv _)
 ·exact iI (e:=Extern.Race.marked .releaseMerge) Try.func90 (by kernel_rfl) (by kernel_rfl) (by kernel_rfl) (by kernel_rfl) xs ((EX _).2.lv _)
 ·exact iI (e:=Extern.Atomic.casT (.int .i32)) Try.func132 (by kernel_rfl) (by kernel_rfl) (by kernel_rfl) (by kernel_rfl) xs ((ai3 _ _).lv _)
 ·exact iI (e:=Extern.Atomic.update (Op.intArith .add) .i32 true) Try.func134 (by kernel_rfl) (by kernel_rfl) (by kernel_rfl) (by kernel_rfl) xs ((PL _ _ _).lv _)
 ·exact iI (e:=Extern.Sync.canSpin) Try.func139 (by kernel_rfl) (by kernel_rfl) (by kernel_rfl) (by kernel_rfl) xs ((Lx _).lv _)
 ·exact iI (e:=Extern.Sync.nothing) Try.func140 (by kernel_rfl) (by kernel_rfl) (by kernel_rfl) (by kernel_rfl) xs ((PU _).lv _)
 ·exact iI (e:=Extern.Sync.die .throw) Try.func141 (by kernel_rfl) (by kernel_rfl) (by kernel_rfl) (by kernel_rfl) xs ((SE Halt.throw (fun _=>trivial) _).lv _)
 ·exact iI (e:=Extern.OsHooks.nano) Try.func142 (by kernel_rfl) (by kernel_rfl) (by kernel_rfl) (by kernel_rfl) xs ((Nm.out:NM true (Extern.OsHooks.nano _)).lv _)
 ·exact iI (e:=Extern.Sync.semacquire) Try.func143 (by kernel_rfl) (by kernel_rfl) (by kernel_rfl) (by kernel_rfl) xs ((NU _ _).1)
 ·exact iI (e:=Extern.Sync.die .fatal) Try.func144 (by kernel_rfl) (by kernel_rfl) (by kernel_rfl) (by kernel_rfl) xs ((SE Halt.fatal (fun _=>trivial) _).lv _)
 ·exact iI (e:=Extern.Sync.semrelease) Try.func145 (by kernel_rfl) (by kernel_rfl) (by kernel_rfl) (by kernel_rfl) xs ((NU _ _).2)
 ·exact iI (e:=Extern.Atomic.loadT (.int .u32)) Try.func136 (by kernel_rfl) (by kernel_rfl) (by kernel_rfl) (by kernel_rfl) xs ((SC _ _).lv _)
 ·exact iI (e:=Extern.Atomic.storeT) Try.func146 (by kernel_rfl) (by kernel_rfl) (by kernel_rfl) (by kernel_rfl) xs ((PS _).lv _)
theorem YM:wh sg dS where
 body:=V6
 VK xs d:=iI (e:=fun _=>do mark .disable;aX Extern.Race.none_) Try.func91 (by kernel_rfl) (by kernel_rfl) (by kernel_rfl) (by kernel_rfl) xs (CH xs d).1
 VJ xs d:=iI (e:=fun _=>do mark .enable;aX Extern.Race.none_) Try.func92 (by kernel_rfl) (by kernel_rfl) (by kernel_rfl) (by kernel_rfl) xs (CH xs d).2
 ext:=ae2
 early:=⟨by kernel_rfl,fun g=>by
  have h:(Try.prog.funcs.all fun f=>(f.body.map readies).all (·.isEmpty))=true:=by kernel_rfl
  unfold Program.stepOf;rw[Array.findIdx?_eq_none_iff];intro f hf;rw[aV]at h;have:=h f hf
  cases hb:f.body with
  |none=>rfl
  |some c=>
   rw[hb]at this;have:readies c=[]:=by simpa using this
   simp[this]⟩
 row ty hty e he i z hi hz:=by
  have hty:ty=167:=by simpa [sg]using hty
  subst hty;have h1:(match Try.prog.underlying 167 with|some (.slice e)=>(Try.prog.info? e).bind (·.zero)|_=>none)=some .nilFunc:=by kernel_rfl
  rw[he]at h1;dsimp only at h1;rw[hi]at h1;have h2:i.zero=some .nilFunc:=h1;rw[hz]at h2;cases h2;intro c hc fn x y e;have:c=.nilFunc:=by simpa [Value.cells]using hc
  rw[this]at e;cases e
end Cc
namespace U6
open Go.Conc Go.ConcN Go.RowKit Cc pH
open Pl Mem
open Go.ConcM (OsLater)
def Runs(f:ak)(args:Array af)(W:ae):Prop:=
 ∃M last o w' t',runNT dS (M+1) (solo (G (bQ dS f args .normal) []) W) #[]=(.ended o w',t')/\runN dS M (solo (G (bQ dS f args .normal) []) W)=.next last/\Go.step dS last=.ended o w'/\Conc.Good dS (fun v W'=>v=.bool true/\Kept W W') last o w' t'
theorem Ga{f:ak}{args:Array af}{W w1:ae}{g:ah}(hL:LR dS (G (bQ dS f args .normal) []) W g w1)(hb:Below W.heap.size W w1)(hT:∀st,kH 0 1 (yE w1) st->Inv (prm W) st->TT (cfg (prm W)) 0 (TW (cfg (prm W))) g st):Runs f args W:=by
 obtain⟨n,t,h1,h2,h3,h4⟩:=hL;exact Pq (q:=prm W) (n:=n) (w₁:=w1) (t₁:=t) h1 h2 h3 h4 (by show Try.prog.globals.size<=_;rw[Dc];omega) (by show OsLater W.os w1.os;rw[hb.os];exact .refl _) hb.output fun st hw hI hK hex hnd=>hT st (hK _ fun b o h=>kg.1 h) hI
theorem Mk{W w1:ae}(hb:Below W.heap.size W w1){b:Nat}{o:Obj}(h:(b,o)∈yE W):(b,o)∈yE w1:=by
 have h1:=kg.1 h;exact kg.2 ((hb.block b (lt_of_block h1)).trans h1)
theorem ends{W w1:ae}(hb:Below W.heap.size W w1){num:Nat}{K:List (Nat×Obj)}{st:St eH}(hA:kH 0 num K st)(hs:∀b o,(b,o)∈yE w1->(b,o)∈K)(hI:Inv (prm W) st):(prm W).Post (.bool true) st.w:=
 ⟨rfl,Xd hA (fun b o h=>hs b o (Mk hb h)) hI⟩
theorem EW{k:IntKind}{w:ae}{base:Nat}{e:aj}{n:Nat}{v:af}{zs:List Int}(h:w.ownsRow base e 1 v n (zs.map (Value.int k))):∃A c,v=.slice A zs.length c/\lO (yE w) k A c zs:=by
 obtain⟨h1,h2⟩:=h;rw[List.length_map,Nat.mul_one]at h1;rcases h2 with⟨rfl,rfl⟩|⟨g,cap,cur,rfl,-,hb,hc,-,hs,ht⟩
 ·exact⟨none,0,by rw[h1],by omega,.inl rfl,fun hp=>absurd hp (by omega)⟩
 ·refine⟨some ⟨g,0,none⟩,cap,by rw[h1],by omega,.inr ⟨g,0,rfl,cur,e,_,kg.2 hb⟩,fun _=>⟨g,0,rfl,cur,e,_,kg.2 hb,fun i hi=>?_⟩⟩;have h3:(cur.toList.take (n*1))[i]?=some (.int k (zs.getD i 0)):=by
   rw[ht,List.getElem?_map,aN hi,List.getD_eq_getElem?_getD,aN hi];rfl
  rw[List.getElem?_take,if_pos (by omega),Array.getElem?_toList]at h3;rw[cZ];exact h3
theorem Fz{w:ae}{base:Nat}{e:aj}{n:Nat}{v:af}{l:List Cm}(hn:n=l.length)(h:w.ownsRow base e 3 v n (eO l)):∃A c,v=.slice A l.length c/\yI (yE w) A c l:=by
 subst hn;obtain⟨h1,h2⟩:=h;rcases h2 with⟨rfl,h0⟩|⟨g,cap,cur,rfl,-,hb,hc,-,hs,ht⟩
 ·exact⟨none,0,by rw[h0],by omega,.inl rfl,fun hp=>absurd hp (by omega)⟩
 ·refine⟨some ⟨g,0,none⟩,cap,rfl,hc,.inr ⟨g,0,rfl,cur,e,_,kg.2 hb⟩,fun _=>⟨g,0,rfl,cur,e,_,kg.2 hb,fun i u hu=>?_⟩⟩;rw[cZ];have hlt:=(List.getElem?_eq_some_iff.1 hu).1;rw[<-ht,List.getElem?_take]at hu;split at hu
  ·rw[Array.getElem?_toList]at hu;exact hu
  ·cases hu
theorem EU{k:IntKind}{W:ae}{A:Option Addr}{c n:Nat}{l:List Int}(h:gA k W W.heap.size (.slice A n c) l)(hp:0<l.length):n=l.length/\lO (yE W) k A c l:=by
 have h0:=h;obtain⟨A',c',hv,hc,h⟩:=h;cases hv;obtain⟨b,off,rfl,hb,hcell⟩:=h hp;obtain⟨C,e,fz,h1,-⟩:=xn (hcell 0 hp);exact⟨rfl,Sr h0 (.inr ⟨b,off,rfl,C,e,fz,kg.2 h1⟩)⟩
end U6
namespace Cc
open Go.Conc Go.ConcN
theorem kX{S:ak->Bool}{md:Nat->Option Md}{T:Array af}{i:Nat}{v:af}(h:T[i]?=some v)(hv:VR (fun f=>S f=true) (zi md) v v):(T.map (MP S md))[i]?=some v:=by
 rw[Array.getElem?_map,h,Option.map_some,Ih hv]
theorem Sh.Zc{q:iU}{S:ak->Bool}{md:Nat->Option Md}{st:St eH}(h:DK q md st)(hi:Inv q st){X:Nat->Prop}{Φ:Act->ae->Prop}{T:Array af}(hΦ:Φ ⟨T.map (MP S md),[]⟩ (World.on (kA S st.w md) st.w.tape st.w.drawn)):Sh q S Ak (tQ md) X st Φ ⟨T,[]⟩ st:=by
 refine Sh.S5 (a:=⟨T.map (MP S md),[]⟩) (a':=⟨T,[]⟩) h hi (Mi (by simp) fun i v v' _ e1 e2=>?_) rfl rfl hΦ;rw[Array.getElem?_map,e2,Option.map_some]at e1;cases e1;exact MO S md v'
end Cc
namespace Cc
open Go.Conc Go.RowKit
def aG0:List ak:=[28,41,42,59,65,68,47,89,121]
def vS(f:ak):Bool:=aG0.contains f
theorem YH:nP dS vS:=by
 intro f hf;unfold vS aG0 at hf;simp only[List.contains_cons,List.contains_nil,Bool.or_false,bf,beq_iff_eq]at hf;rcases hf with rfl|rfl|rfl|rfl|rfl|rfl|rfl|rfl|rfl
 ·exact⟨_,_,Try.func28,rfl,by kernel_rfl,by kernel_rfl⟩
 ·exact⟨_,_,Try.func41,rfl,by kernel_rfl,by kernel_rfl⟩
 ·exact⟨_,_,Try.func42,rfl,by kernel_rfl,by kernel_rfl⟩
 ·exact⟨_,_,Try.func59,rfl,by kernel_rfl,by kernel_rfl⟩
 ·exact⟨_,_,Try.func65,rfl,by kernel_rfl,by kernel_rfl⟩
 ·exact⟨_,_,Try.func68,rfl,by kernel_rfl,by kernel_rfl⟩
 ·exact⟨_,_,Try.func47,rfl,by kernel_rfl,by kernel_rfl⟩
 ·exact⟨_,_,Try.func89,rfl,by kernel_rfl,by kernel_rfl⟩
 ·exact⟨_,_,Try.func121,rfl,by kernel_rfl,by kernel_rfl⟩
end Cc
end Go.Proofs.Ytpfpokjaeffbjaa
