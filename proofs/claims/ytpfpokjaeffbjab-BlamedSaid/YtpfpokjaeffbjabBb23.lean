/- Part of the proof: Sa3, Sa4, Lone, SaX. -/
import Derived.Test.YtpfpokjaeffbjabBb22
import Derived.DyingOn
import Derived.Test.YtpfpokjaeffbjabBb5
import Derived.Conc.Fork
import Derived.Test.YtpfpokjaeffbjabBb9
import Derived.Test.YtpfpokjaeffbjabBb21
import Derived.Laws.Externs
set_option linter.unusedVariables false
set_option linter.unusedSimpArgs false
set_option maxRecDepth 100000
set_option maxHeartbeats 16000000
namespace Go.Proofs.Ytpfpokjaeffbjab
namespace Cc
open Go.Conc
section
instance aC3(wr:Bool)(fn:Func)(xs:Array Value):Nm wr (Go.results fn xs):=⟨by
 unfold Go.results;refine NM.bind (Ro (fun r=>?_) _) fun _=>Nm.out
 cases r with
 |tmp t=>exact Nm.out
 |cell x t=>exact NM.bind Nm.out fun _=>Nm.out⟩
section
variable(s:Sg)
inductive OM(Ks K:List Item)(w:World)(h:Nat):Nat->Frame->Frame->Prop
 |run {b:Frame} {a:Act} (X:List Item) (d:Nat) (hd:∀x∈a.defers,CD s x) (hX:Sg.fin (s.items b.fn (some d) X)=true) (hs:SI s h w b.fn a.tmps) (hh:h<=w.heap.size) (hp:h=0\/s.grd b.fn=true) (hz:h=0\/a.defers=[]):OM Ks K w h d (b.at a (X++Ks)) (b.at a (X++K))
 |ret {b:Frame} {a:Act} {todo todo':List Item} (hd:∀x∈a.defers,CD s x) (hh:h<=w.heap.size) (hz:h=0\/a.defers=[]):OM Ks K w h 0 {b.at a todo with mode:=.returning} {b.at a todo' with mode:=.returning}
inductive yS(Ks K:List Item)(κ:CallKind):World->Nat->List Frame->List Frame->Prop
 |one {w:World} {h L:Nat} {f f':Frame} (hf:OM s Ks K w h L f f') (hk:f.kind=κ) (hS:κ=.deferred->s.ok f.fn=true):yS Ks K κ w L [f] [f']
 |call {w:World} {h d L:Nat} {f f' c c':Frame} {r r':List Frame} (hf:OM s [] [] w h d f f') (hS:s.ok f.fn=true) (hk:f.kind=.normal) (hc:∀x∈c.defers,CD s x) (hp:∀v w2,kN h w w2->yS Ks K κ w2 L (c.finish v::r) (c'.finish v::r')):yS Ks K κ w (d+L) (f::c::r) (f'::c'::r')
 |Vs {w:World} {h d L:Nat} {f f' c c':Frame} {r r':List Frame} (hf:OM s [] [] w h d f f') (hS:s.ok f.fn=true) (hk:f.kind=.deferred) (hm:c.mode=.returning) (hm':c'.mode=.returning) (hp:∀w2,kN h w w2->yS Ks K κ w2 L (c::r) (c'::r')):yS Ks K κ w (d+L) (f::c::r) (f'::c'::r')
end
section
variable{s:Sg}{P:Program}{Ks K:List Item}{κ:CallKind}{L d h₀:Nat}{f f':Frame}{base base':List Frame}{w:World}
theorem OM.defs(h:OM s Ks K w h₀ d f f'):(∀x∈f.defers,CD s x)/\∀c,f.mode≠ .panicking c:=by
 cases h with
 |run X d hd hX hs _ _ _=>exact⟨hd,fun c e=>by cases e⟩
 |ret hd _ _=>exact⟨hd,fun c e=>by cases e⟩
theorem OM.zero(h:OM s Ks K w h₀ d f f')(hm:f.mode=.returning):d=0:=by
 cases h with
 |run X d hd hX hs _ _ _=>cases hm
 |ret hd _ _=>rfl
theorem OM.low(h:OM s Ks K w h₀ d f f'):h₀<=w.heap.size:=by
 cases h with
 |run X d hd hX hs hh _ _=>exact hh
 |ret hd hh _=>exact hh
theorem yS.bare(h:yS s Ks K κ w L (f::base) (f'::base')):∀c∈f::base,∀x∈c.defers,CD s x:=by
 generalize hl:f::base=l at h;generalize hl':f'::base'=l' at h;clear hl hl'
 induction h with
 |one h hk _=>intro c hc;simp at hc;subst hc;exact h.defs.1
 |call h hS hk hc hp ih=>
  intro c hm;rcases List.mem_cons.1 hm with rfl|hm
  ·exact h.defs.1
  ·rcases List.mem_cons.1 hm with rfl|hm
   ·exact hc
   ·exact ih undef _ (.refl _) c (by simp[hm])
 |Vs h hS hk hm hm' hp ih=>
  intro c hmm;rcases List.mem_cons.1 hmm with rfl|hmm
  ·exact h.defs.1
  ·exact ih _ (.refl _) c hmm
def aS1(P:Program)(f:Frame)(base:List Frame)(w:World):Prop:=∀tail,(stepG P true (G f (base++tail)) w).okD P\/(∃g w1 es,stepG P true (G f (base++tail)) w=.go g w1 es/\g.status=.blocked/\g.dying=none)\/
 ∃vs w1 es,stepG P true (G f (base++tail)) w=.go (G (f.raise vs) (base++tail)) w1 es/\∀e∈vs,e.recovered=false
def ZC(s:Sg)(P:Program)(Ks K:List Item)(κ:CallKind)(L:Nat)(f:Frame)(base:List Frame)(f':Frame)(base':List Frame)(w:World):Prop:=
 ∃(g:Frame) (b2:List Frame) (g':Frame) (b2':List Frame) (w1:World) (es:Array Event),(∀main tail,stepG P main (G f (base++tail)) w=.go (G g (b2++tail)) w1 es)/\(∀main tail,stepG P main (G f' (base'++tail)) w=.go (G g' (b2'++tail)) w1 es)/\
  yS s Ks K κ w1 (deafBehind L es) (g::b2) (g'::b2')
theorem Jt(fr:Frame)(cs:List Frame)(dy:Option Dying)(m:String)(w:World):(endFatal P fr cs dy m w).okD P:=by
 unfold endFatal;dsimp only;split
 ·exact dieOf_okD _ _ _ _ _
 ·intro v hv;cases hv
 ·intro v hv;cases hv
theorem Vq(H:xI s P)(fr:Frame)(cs:List Frame)(g:Nat)(w:World):(early P fr cs none g w).okD P:=by
 unfold early;simp only[H.early.1,H.early.2 g];intro v hv;cases hv
theorem Xq(H:xI s P){b:Frame}{a:Act}{ops:Array Oper}{i:Nat}{rest:List Nat}{k:List Item}{o:Oper}(hk:b.kind≠ .early)(ho:ops[i]?=some o)(hw:Region.wanted o (yielded ops a.tmps)=true){hh:Halt}{w1:World}(hrun:(execOp a.eval o).run P w=.halt hh w1)(hok:OkH hh):
  aS1 P (b.at a (.inRegion ops (i::rest)::k)) base w:=by
 intro tail;have e:=stepG_oper (P:=P) (main:=true) (b:=b) (rest:=rest) (k:=k) (cs:=base++tail) (w:=w) ho hw;have hk1:(b.kind==CallKind.early)=false:=by simpa using hk
 rw[e];cases hh with
 |panic v=>
  refine .inr (.inr ⟨[{v,recovered:=false}],w1,listed P b.fn a o w,?_,by simp⟩);simp[stepG.apply,hrun,G,Frame.at,hk1,GStep.after,listed]
 |goexit=>exact hok.elim
 |waiting=>exact hok.elim
 |blocked=>exact .inr (.inl ⟨_,_,_,by simp[stepG.apply,hrun,GStep.after,Frame.at];exact⟨rfl,rfl,rfl⟩,rfl,rfl⟩)
 |fatal m=>
  refine .inl ?_;simp only[stepG.apply,Sem.runT_eq,hrun,if_true];exact GStep.okD_after (Jt _ _ _ _ _)
 |throw m=>
  refine .inl ?_;simp only[stepG.apply,Sem.runT_eq,hrun,if_true];exact GStep.okD_after (dieOf_okD _ _ _ _ _)
 |unsupported u=>
  refine .inl ?_;cases u<;>first
   |(simp only[stepG.apply,Sem.runT_eq,hrun,if_true];exact GStep.okD_after (Vq H _ _ _ _))
   |(simp only[stepG.apply,Sem.runT_eq,hrun,if_true];refine GStep.okD_after ?_;intro v hv;cases hv)
 |_=>
  refine .inl ?_;simp only[stepG.apply,Sem.runT_eq,hrun,if_true];refine GStep.okD_after ?_;intro v hv;cases hv
theorem qY{main:Bool}{b:Frame}{a:Act}{cs:List Frame}{fn:Func}{todo:List Item}{c:Frame}{v:Value}{w':World}(hn:b.kind=.normal\/(b.kind=.deferred/\∀e older,c.mode=.panicking (e::older)->e.recovered=false))(hd:a.defers=[])(hf:P.funcs[b.fn]?=some fn)
  (hr:(results fn a.tmps).run P w=.ok v w'):
  stepG P main (G {b.at a todo with mode:=.returning} (c::cs)) w=.go (G (if b.kind=.normal then c.finish v else c) cs) w' (seen P b.fn ((results fn a.tmps).events P w #[])):=by
 rcases hn with hn|⟨hn,hm⟩
 ·simp[G,stepG,unwind,doReturn,Frame.at,hn,hd,hf,hr,GStep.after]
 ·have e:(match c.mode with
    |.panicking ({recovered:=true, .. }::older)=>
     match older.dropWhile (!·.goexit)with
     |[]=>{c with mode:=.returning}
     |rest=>{c with mode:=.panicking rest}
    |_=>c)=c:=by
   split
   ·rename_i hc;cases hm _ _ hc
   ·rfl
  have hdr:∀(fr:Frame) (w:World),fr.kind=.deferred->doReturn P main fr (c::cs) none v w=.go (G c cs) w #[]:=fun fr w hk=>by
   unfold doReturn;simp only[hk];exact congrArg (fun x=>GStep.go (G x cs) w #[]) e
  have e1:stepG P main (G {b.at a todo with mode:=.returning} (c::cs)) w=GStep.after (seen P b.fn ((results fn a.tmps).events P w #[])) (doReturn P main {b.at a todo with mode:=.returning} (c::cs) none v w'):=by simp[G,stepG,unwind,Frame.at,hd,hf,hr]
  rw[e1,hdr {b.at a todo with mode:=.returning} w' hn,if_neg (by rw[hn];simp)];simp[GStep.after]
theorem x9{main:Bool}{b:Frame}{a:Act}{w':World}{cs:List Frame}{fn:Func}{todo:List Item}{h:Halt}(hd:a.defers=[])(hf:P.funcs[b.fn]?=some fn)
  (hr:(results fn a.tmps).run P w=.halt h w'):∃o es,stepG P main (G {b.at a todo with mode:=.returning} cs) w=.ended o w' es/\∀v,o≠ .done v:=by
 cases h<;>exact⟨_,_,by simp[G,stepG,unwind,Frame.at,hd,hf,hr,GStep.after];exact⟨rfl,rfl⟩,fun v hv=>by cases hv⟩
theorem Vt(L:Nat):deafBehind L #[]=L:=rfl
theorem U3{x:Sem Next}{d₁:Nat}(h:Lv P x L d₁){nx:Next}{w':World}(hr:x.run P w=.ok nx w')(fn:FuncId):deafBehind L (seen P fn (x.events P w #[]))=d₁:=by
 obtain⟨k1,k2⟩:=h.run (w:=w) (es:=#[]) (d₀:=L) rfl (by simp);rw[Sem.runT_eq]at k1;obtain⟨k3,k4⟩:=k1 nx w' hr;rw[Hw k4];exact k3
theorem GR{α:Type}{x:Sem α}{wr:Bool}(h:NM wr x){nx:α}{w':World}(hr:x.run P w=.ok nx w')(fn:FuncId)(L:Nat):deafBehind L (seen P fn (x.events P w #[]))=L:=by
 obtain⟨k1,k2⟩:=(h.lv (P:=P) L).run (w:=w) (es:=#[]) (d₀:=L) rfl (by simp);rw[Sem.runT_eq]at k1;obtain⟨k3,k4⟩:=k1 nx w' hr;rw[Hw k4];exact k3
theorem ag0{x:Sem Next}{d₁:Nat}(h:Lv P x L d₁){hh:Halt}{w':World}(hr:x.run P w=.halt hh w'):OkH hh:=by
 obtain⟨k1,k2⟩:=h.run (w:=w) (es:=#[]) (d₀:=L) rfl (by simp);rw[Sem.runT_eq]at k2;exact k2 hh w' hr
theorem yS.cast{L':Nat}{l l':List Frame}(h:yS s Ks K κ w L l l')(e:L=L'):yS s Ks K κ w L' l l':=e ▸ h
theorem kN.le{h:Nat}{w w2:World}(e:kN h w w2)(hh:h<=w.heap.size):h<=w2.heap.size:=by
 rcases e with rfl|e
 ·exact Nat.zero_le _
 ·exact Nat.le_trans hh e.1
theorem Vz{o:Oper}{a:Act}{fn:FuncId}{d':Nat}(he:s.eff fn o d=some d'){g:FuncId}{zZ9:Array Value}{w':World}(hrun:(execOp a.eval o).run P w=.ok (.enter g zZ9) w'):s.bare fn o:=by
 have hd:=(vY he).1;have hc:∃c,o.op=.call c:=by
  unfold execOp at hrun;cases hop:o.op<;>rw[hop]at hrun<;>first
   |exact⟨_,rfl⟩
   |(exfalso;obtain⟨v,h,-⟩:=qo hrun;cases h;done)
   |(exfalso;obtain⟨h,-⟩:=Ed hrun;cases h;done)
   |(exfalso;cases hrun;done)
   |(exfalso;unfold Sg.eff at he;rw[hop]at he;split at he<;>(try(cases he;done));done)
   |skip
  case pick c x y=>
   exfalso;have hrun:(do pure (.value (if<-asBool (a.eval c)then a.eval x else a.eval y)):Sem Next).run P w=.ok (.enter g zZ9) w':=hrun;rw[Sem.run_bind]at hrun;cases hx:(asBool (a.eval c)).run P w with
   |halt e w1=>rw[hx]at hrun;cases hrun
   |ok v w1=>rw[hx]at hrun;simp at hrun
  case nilCheck x=>
   exfalso;have hrun:(execOp a.eval o).run P w=.ok (.enter g zZ9) w':=by unfold execOp;rw[hop];exact hrun
   obtain⟨v,h⟩:=(I5 (P:=P) hop (a:=a) (wr:=true)).2 _ _ _ hrun;cases h
  case defer c=>
   exfalso;have hrun:(do pure (.defer (<-Go.resolve a.eval c o.type)):Sem Next).run P w=.ok (.enter g zZ9) w':=hrun;rw[Sem.run_bind]at hrun;cases hx:(Go.resolve a.eval c o.type).run P w with
   |halt e w1=>rw[hx]at hrun;cases hrun
   |ok v w1=>rw[hx]at hrun;simp at hrun
 obtain⟨c,hop⟩:=hc;intro t ht;unfold Sg.qc at hd;rw[ht,hop]at hd;simp only[Bool.and_eq_true,Bool.or_eq_true,Bool.not_eq_true',Bool.false_eq_true,or_false]at hd;obtain⟨⟨⟨d0,d1⟩,d2⟩,d3⟩:=hd;refine⟨d0,by simpa using d1,?_⟩;simp only[List.contains_eq_mem,decide_eq_false_iff_not]at d2 d3;simp[d2,d3]
theorem QV(H:xI s P)(hκ:κ=.normal\/κ=.deferred)(hKs:(Ks=[]/\K=[])\/Ks=[bW])(h:yS s Ks K κ w L (f::base) (f'::base')):
  ZC s P Ks K κ L f base f' base' w\/(base=[]/\f.mode=.returning/\f.defers=[])\/aS1 P f base w:=by
 obtain⟨d,R,fZ,tY,h0,hf,hL,Ns,hk,reb⟩:∃d R fZ tY h0,OM s fZ tY w h0 d f f'/\L=d+R/\((fZ=[]/\tY=[])\/fZ=[bW])/\(f.kind=.normal\/f.kind=.deferred)/\
   ∀d' g g' w2,g.fn=f.fn->g.kind=f.kind->OM s fZ tY w2 h0 d' g g'->kN h0 w w2->yS s Ks K κ w2 (d'+R) (g::base) (g'::base'):=by
  cases h with
  |one h hk hS=>exact⟨L,0,Ks,K,_,h,rfl,hKs,hk ▸ hκ,fun d' g g' w2 e1 e hg _=>(yS.one hg (e.trans hk) fun x=>by rw[e1];exact hS x).cast (by omega)⟩
  |call h hS hk hc hp=>exact⟨_,_,[],[],_,h,rfl,.inl ⟨rfl,rfl⟩,.inl hk,fun d' g g' w2 e1 e2 hg hx=>.call hg (by rw[e1];exact hS) (e2.trans hk) hc fun v w3 hx2=>hp v w3 (hx.trans hx2)⟩
  |Vs h hS hk hm hm' hp=>exact⟨_,_,[],[],_,h,rfl,.inl ⟨rfl,rfl⟩,.inr hk,fun d' g g' w2 e1 e2 hg hx=>.Vs hg (by rw[e1];exact hS) (e2.trans hk) hm hm' fun w3 hx2=>hp w3 (hx.trans hx2)⟩
 have hke:f.kind≠ .early:=by rcases hk with e|e<;>rw[e]<;>simp
 have ctl:∀{g g':Frame},(∀main tail,stepG P main (G f (base++tail)) w=.go (G g (base++tail)) w #[])->(∀main tail,stepG P main (G f' (base'++tail)) w=.go (G g' (base'++tail)) w #[])->yS s Ks K κ w L (g::base) (g'::base')->ZC s P Ks K κ L f base f' base' w:=
  fun h1 h2 h3=>⟨_,base,_,base',w,#[],h1,h2,h3⟩
 cases hf with
 | @ret b a todo todo' hda hh hz=>
  cases hdf:a.defers with
  |cons x ds=>
   obtain⟨g,zZ9,rfl,hg,hgn⟩:=hda x (by rw[hdf];simp);obtain⟨n1,n2,n3⟩:=sO hgn;obtain⟨c1,c2,c3⟩:=qH hg;obtain⟨fn,code,f1,f2,f3,f4,-⟩:=H.body g c1;have e:∀(td:List Item) (main:Bool) (cs:List Frame),stepG P main (G {b.at a td with mode:=.returning} cs) w=.go (G ((baseD g).at {tmps:=zZ9++Array.replicate (fn.ntmps-zZ9.size) undef,defers:=[]} [.code code]) ({b.at ⟨a.tmps,ds⟩ td with mode:=.returning}::cs)) w #[]:=fun td main cs=>stepG_unwind_enter hdf f1 f3 f2
   refine .inl ⟨_,{b.at ⟨a.tmps,ds⟩ todo with mode:=.returning}::base,_,{b.at ⟨a.tmps,ds⟩ todo' with mode:=.returning}::base',w,#[],fun main tail=>e todo main (base++tail),fun main tail=>e todo' main (base'++tail),?_⟩;have hrow:∀w2,kN 0 w w2->yS s Ks K κ w2 L ({b.at ⟨a.tmps,ds⟩ todo with mode:=.returning}::base) ({b.at ⟨a.tmps,ds⟩ todo' with mode:=.returning}::base'):=fun w2 hx=>by
    have h0z:h0=0:=by
     rcases hz with h|h
     ·exact h
     ·rw[hdf]at h;cases h
    subst h0z;exact(reb 0 {b.at ⟨a.tmps,ds⟩ todo with mode:=.returning} {b.at ⟨a.tmps,ds⟩ todo' with mode:=.returning} w2 rfl rfl (.ret (b:=b) (a:=⟨a.tmps,ds⟩) (fun x hx=>hda x (by rw[hdf];simp[hx])) (Nat.zero_le _) (.inl rfl)) hx).cast (L':=L) (by omega)
   refine(yS.Vs (h:=0) (d:=s.en g) (L:=L) (OM.run (b:=baseD g) (a:=⟨zZ9++Array.replicate (fn.ntmps-zZ9.size) undef,[]⟩) [.code code] (s.en g) (by simp) f4 ⟨fun t ht=>?_,fun t ht=>?_,fun t ht=>?_⟩ (Nat.zero_le _) (.inl rfl) (.inl rfl)) c1 rfl rfl rfl hrow).cast (L':=deafBehind L #[]) (by rw[c3,Vt];omega)
   ·rw[show(baseD g).fn=g from rfl,c2]at ht;simp at ht
   ·rw[show(baseD g).fn=g from rfl,n1]at ht;simp at ht
   ·rw[show(baseD g).fn=g from rfl,n2,n3]at ht;simp at ht
  |nil=>
   cases h with
   |one h hk _=>exact .inr (.inl ⟨rfl,rfl,hdf⟩)
   | @call _ h₁ d₁ L₁ _ _ c c' r r' h hS hk hc hp=>
    obtain⟨fn,code,f1,-⟩:=H.body _ hS;have f1:P.funcs[b.fn]?=some fn:=f1;have hk:b.kind=.normal:=hk;cases hres:(Go.results fn a.tmps).run P w with
    |halt hh w1=>
     refine .inr (.inr fun tail=>.inl ?_);obtain⟨o,es,e,ho⟩:=x9 (main:=true) (todo:=todo) (cs:=c::r++tail) hdf f1 hres;rw[e];exact ho
    |ok v w1=>
     refine .inl ⟨c.finish v,r,c'.finish v,r',w1,seen P b.fn ((Go.results fn a.tmps).events P w #[]),fun main tail=>?_,fun main tail=>?_,?_⟩
     ·have:=qY (main:=main) (todo:=todo) (cs:=r++tail) (c:=c) (.inl hk) hdf f1 hres;rw[if_pos hk]at this;exact this
     ·have:=qY (main:=main) (todo:=todo') (cs:=r'++tail) (c:=c') (.inl hk) hdf f1 hres;rw[if_pos hk]at this;exact this
     ·rw[GR (Nm.out:NM false (Go.results fn a.tmps)) hres];have h0:d₁=0:=h.zero rfl;have hx:kN h₁ w w1:=by
       have:=NM.ext (Nm.out:NM false (Go.results fn a.tmps)) hres;exact .of this h.low
      exact(hp v w1 hx).cast (by omega)
   | @Vs _ h₁ d₁ L₁ _ _ c c' r r' h hS hk hm hm' hp=>
    obtain⟨fn,code,f1,-⟩:=H.body _ hS;have f1:P.funcs[b.fn]?=some fn:=f1;have hk:b.kind=.deferred:=hk;cases hres:(Go.results fn a.tmps).run P w with
    |halt hh w1=>
     refine .inr (.inr fun tail=>.inl ?_);obtain⟨o,es,e,ho⟩:=x9 (main:=true) (todo:=todo) (cs:=c::r++tail) hdf f1 hres;rw[e];exact ho
    |ok v w1=>
     refine .inl ⟨c,r,c',r',w1,seen P b.fn ((Go.results fn a.tmps).events P w #[]),fun main tail=>?_,fun main tail=>?_,?_⟩
     ·have:=qY (main:=main) (todo:=todo) (cs:=r++tail) (c:=c) (.inr ⟨hk,fun e older x=>by rw[hm]at x;cases x⟩) hdf f1 hres;rw[if_neg (by rw[hk];simp)]at this;exact this
     ·have:=qY (main:=main) (todo:=todo') (cs:=r'++tail) (c:=c') (.inr ⟨hk,fun e older x=>by rw[hm']at x;cases x⟩) hdf f1 hres;rw[if_neg (by rw[hk];simp)]at this;exact this
     ·rw[GR (Nm.out:NM false (Go.results fn a.tmps)) hres];have h0:d₁=0:=h.zero rfl;have hx:kN h₁ w w1:=by
       have:=NM.ext (Nm.out:NM false (Go.results fn a.tmps)) hres;exact .of this h.low
      exact(hp w1 hx).cast (by omega)
 | @run b a X d hda hX hs hh hp hz=>
  have hke:b.kind≠ .early:=hke;have Kw:∀{d2:Nat} {a2:Act} (X2:List Item) {w2:World},(∀x∈a2.defers,CD s x)->Sg.fin (s.items b.fn (some d2) X2)=true->SI s h0 w2 b.fn a2.tmps->kN h0 w w2->(h0=0\/a2.defers=[])->yS s Ks K κ w2 (d2+R) (b.at a2 (X2++fZ)::base) (b.at a2 (X2++tY)::base'):=
   fun{d2 a2} X2 {w2} h1 h2 h3 h4 h5=>reb _ _ _ w2 rfl rfl (.run X2 _ h1 h2 h3 (h4.le hh) hp h5) h4
  have top:∀{d2:Nat} (X2:List Item),(∀x∈a.defers,CD s x)->Sg.fin (s.items b.fn (some d2) X2)=true->SI s h0 w b.fn a.tmps->yS s Ks K κ w (d2+R) (b.at a (X2++fZ)::base) (b.at a (X2++tY)::base'):=
   fun X2 h1 h2 h3=>Kw X2 h1 h2 h3 (.refl _) hz
  have ret:d=0->∀{todo todo':List Item},yS s Ks K κ w L ({b.at a todo with mode:=.returning}::base) ({b.at a todo' with mode:=.returning}::base'):=fun h0' {t t'}=>
   (reb 0 {b.at a t with mode:=.returning} {b.at a t' with mode:=.returning} w rfl rfl (.ret (b:=b) (a:=a) hda hh hz) (.refl _)).cast (L':=L) (by rw[hL,h0'])
  have aK5:fZ=[]\/fZ=[bW]:=Ns.imp (·.1) id;cases X with
  |nil=>
   rcases Ns with⟨rfl,rfl⟩|rfl
   ·have h0:d=0:=by simpa [Sg.items,Sg.fin]using hX
    exact .inl (ctl (fun _ _=>stepG_end) (fun _ _=>stepG_end) (ret h0))
   ·refine .inr (.inr fun tail=>.inl ?_);obtain⟨u,hu⟩:∃u,stepG P true (G (b.at a ([]++[bW])) (base++tail)) w=.ended (.unsupported u ((b.at a [bW]).pos P)) w #[]:=by simp[G,stepG,stepG.exec,Frame.at,bW]
    rw[hu];intro v hv;cases hv
  |cons x X=>
   cases x with
   |code c=>
    cases c with
    |skip=>exact .inl (ctl (fun _ _=>stepG_skip) (fun _ _=>stepG_skip) ((top X hda hX hs).cast hL.symm))
    |label l=>exact .inl (ctl (fun _ _=>stepG_label) (fun _ _=>stepG_label) ((top X hda hX hs).cast hL.symm))
    |ret=>
     have h0:d=0:=by
      by_cases e:d=0
      ·exact e
      ·simp[Sg.items,Sg.code,Sg.fin,e]at hX
     exact .inl (ctl (fun _ _=>stepG_ret') (fun _ _=>stepG_ret') (ret h0))
    |seq c1 c2=>
     refine .inl (ctl (fun _ _=>stepG_seq) (fun _ _=>stepG_seq) ((top (.code c1:: .code c2::X) hda ?_ hs).cast hL.symm));rw[Sg.jF]at hX ⊢;simp only[Sg.code]at hX;cases h1:s.code b.fn c1 d with
     |none=>rw[h1]at hX;exact hX
     |some st=>
      rw[h1]at hX;cases st with
      |none=>exact hX
      |some d2=>
       show Sg.fin (s.items b.fn (some d2) (.code c2::X))=true;rw[Sg.jF];exact hX
    |block id c1=>
     refine .inl (ctl (fun _ _=>stepG_block) (fun _ _=>stepG_block) ((top (.code c1:: .inBlock id::X) hda ?_ hs).cast hL.symm));rw[Sg.jF]at hX ⊢;simp only[Sg.code]at hX;cases h1:s.code b.fn c1 d with
     |none=>rw[h1]at hX;exact hX
     |some st=>
      rw[h1]at hX;cases st with
      |none=>exact hX
      |some d2=>
       dsimp only at hX;show Sg.fin (s.items b.fn (some d2) (.inBlock id::X))=true;split at hX
       ·rename_i he;simp only[Sg.items];rw[if_pos (by simp at he;simp[he])];exact hX
       ·cases hX
    |loop c1=>
     refine .inl (ctl (fun _ _=>stepG_loop) (fun _ _=>stepG_loop) ((top (.code c1:: .inLoop c1::X) hda ?_ hs).cast hL.symm));rw[Sg.jF]at hX ⊢;simp only[Sg.code]at hX;split at hX
     ·rename_i he;simp only[Bool.and_eq_true,beq_iff_eq]at he;obtain⟨he,hb⟩:=he;subst he;have hX:Sg.fin (s.items b.fn none X)=true:=hX;cases h1:s.code b.fn c1 (s.en b.fn)with
      |none=>rw[h1]at hb;cases hb
      |some st=>
       show Sg.fin (s.items b.fn st (.inLoop c1::X))=true;have hst:(st==none||st==some (s.en b.fn))=true:=by
        rw[h1]at hb;cases st with
        |none=>rfl
        |some d2=>simpa [TP]using hb
       cases st<;>(simp only[Sg.items];rw[if_pos (by rw[hst,hb];rfl)];exact hX)
     ·cases hX
    |cond q c1 c2=>
     rw[Sg.jF]at hX;have hXc:(∃t,q=.const (.bool t)/\Sg.fin ((s.code b.fn (if t then c1 else c2) d).bind fun st=>s.items b.fn st X)=true)\/Sg.fin ((vN (s.code b.fn c1 d) (s.code b.fn c2 d)).bind fun st=>s.items b.fn st X)=true:=by
      cases q with
      |const v=>cases v with
       |bool t=>
        refine .inl ⟨t,rfl,?_⟩;simp only[Sg.code]at hX;cases t<;>simpa using hX
       |_=>exact .inr (by simpa only[Sg.code]using hX)
      |_=>exact .inr (by simpa only[Sg.code]using hX)
     have dead:(∀t,a.eval q≠ .bool t)->aS1 P (b.at a (.code (.cond q c1 c2)::X++fZ)) base w:=fun hn tail=>by
      refine .inl ?_;have he:(b.at a (.code (.cond q c1 c2)::(X++fZ))).eval q=a.eval q:=Frame.eval_at _ _ _ _;simp only[Frame.at]at he;have:∃m,stepG P true (G (b.at a (.code (.cond q c1 c2)::X++fZ)) (base++tail)) w=.ended (.stuck m ((b.at a (.code (.cond q c1 c2)::X++fZ)).pos P)) w #[]:=by
       cases hq:a.eval q<;>first
        |exact absurd hq (hn _)
        |(rw[hq]at he;exact⟨_,by simp[G,stepG,stepG.exec,Frame.at,he];rfl⟩)
      obtain⟨m,e⟩:=this;rw[e];intro v hv;cases hv
     cases hq:a.eval q with
     |bool t=>
      refine .inl (ctl (fun _ _=>stepG_cond hq) (fun _ _=>stepG_cond hq) ((top (.code (if t then c1 else c2)::X) hda ?_ hs).cast hL.symm));rw[Sg.jF];rcases hXc with⟨t',rfl,h2⟩|hX
      ·have:t'=t:=by have h3:Value.bool t'=.bool t:=hq;cases h3;rfl
       subst this;exact h2
      ·cases t with
       |true=>exact P5 hX
       |false=>exact MR hX
     |_=>exact .inr (.inr (dead fun t e=>by rw[hq]at e;cases e))
    |exit id=>
     rw[Sg.jF]at hX;simp only[Sg.code]at hX;split at hX
     ·rename_i he;have he:d=s.en b.fn:=by simpa using he
      have hX:Sg.fin (s.items b.fn none X)=true:=hX;cases hx:exitTo id (X++fZ)with
      |none=>
       refine .inr (.inr fun tail=>.inl ?_);have:∃m,stepG P true (G (b.at a (.code (.exit id)::X++fZ)) (base++tail)) w=.ended (.stuck m ((b.at a (.code (.exit id)::X++fZ)).pos P)) w #[]:=
        ⟨_,by simp[G,stepG,stepG.exec,Frame.at,hx];exact rfl⟩
       obtain⟨m,e⟩:=this;rw[e];intro v hv;cases hv
      |some k'=>
       obtain⟨Y,rfl,h2,h3⟩:=Sg.ND aK5 X none hX hx;exact .inl (ctl (fun _ _=>stepG_exit hx) (fun _ _=>stepG_exit (h2 tY)) ((top Y hda (he ▸ h3) hs).cast hL.symm))
     ·cases hX
    |region id ops draw=>
     rw[Sg.jF]at hX;simp only[Sg.code]at hX;cases draw with
     |false=>
      refine .inl (ctl (fun _ _=>stepG_region) (fun _ _=>stepG_region) ((top (.inRegion ops (List.range ops.size)::X) hda ?_ hs).cast hL.symm));rw[if_neg (by simp)]at hX;simp only[Sg.items];cases h1:s.Gi b.fn ops (List.range ops.size) d with
      |none=>rw[h1]at hX;exact hX
      |some d2=>rw[h1]at hX;exact hX
     |true=>
      rw[if_pos rfl]at hX;split at hX
      ·rename_i he;refine .inl ⟨_,base,_,base',{w with drawn:=w.drawn+1},#[],fun _ _=>stepG_region_draw,fun _ _=>stepG_region_draw,(Kw (w2:={w with drawn:=w.drawn+1}) (.inRegion ops _::X) hda ?_ (hs.mono ⟨Nat.le_refl _,fun _ _=>rfl⟩) (.of ⟨Nat.le_refl _,fun _ _=>rfl⟩ hh) hz).cast hL.symm⟩;simp only[Sg.items,Sg.Fg he];exact hX
      ·cases hX
    |_=>simp[Sg.items,Sg.code,Sg.fin]at hX
   |inBlock id=>
    refine .inl (ctl (fun _ _=>stepG_inBlock) (fun _ _=>stepG_inBlock) ?_);simp only[Sg.items]at hX;split at hX
    ·rename_i he;have he:d=s.en b.fn:=by simpa using he
     exact(top X hda (he ▸ hX) hs).cast hL.symm
    ·cases hX
   |inLoop c=>
    refine .inl (ctl (fun _ _=>stepG_inLoop) (fun _ _=>stepG_inLoop) ((top (.code c:: .inLoop c::X) hda ?_ hs).cast hL.symm));simp only[Sg.items]at hX;split at hX
    ·rename_i he;simp only[Bool.and_eq_true]at he;obtain⟨he,hb⟩:=he;have he:d=s.en b.fn:=by simpa using he
     subst he;rw[Sg.jF];cases h1:s.code b.fn c (s.en b.fn)with
     |none=>rw[h1]at hb;cases hb
     |some st=>
      show Sg.fin (s.items b.fn st (.inLoop c::X))=true;have hst:(st==none||st==some (s.en b.fn))=true:=by
       rw[h1]at hb;cases st with
       |none=>rfl
       |some d2=>simpa [TP]using hb
      cases st<;>(simp only[Sg.items];rw[if_pos (by rw[hst,hb];rfl)];exact hX)
    ·cases hX
   |inRegion ops l=>
    cases l with
    |nil=>exact .inl (ctl (fun _ _=>stepG_region_end) (fun _ _=>stepG_region_end) ((top X hda (by simpa only[Sg.items,Sg.Gi]using hX) hs).cast hL.symm))
    |cons i rest=>
     cases ho:ops[i]? with
     |none=>
      have st:∀(k:List Item) (main:Bool) (cs:List Frame),stepG P main (G (b.at a (.inRegion ops (i::rest)::k)) cs) w=.go (G (b.at a (.inRegion ops rest::k)) cs) w #[]:=by
       intro k main cs;simp[G,stepG,stepG.exec,Frame.at,ho,Frame.finish]
      exact .inl (ctl (fun _ _=>st _ _ _) (fun _ _=>st _ _ _) ((top (.inRegion ops rest::X) hda (by simpa only[Sg.items,Sg.Gi,ho]using hX) hs).cast hL.symm))
     |some o=>
      obtain⟨d2,he,hX2⟩:∃d2,s.eff b.fn o d=some d2/\Sg.fin (s.items b.fn (some d2) (.inRegion ops rest::X))=true:=by
       simp only[Sg.items,Sg.Gi,ho]at hX;cases he:s.eff b.fn o d with
       |none=>rw[he]at hX;cases hX
       |some d2=>rw[he]at hX;exact⟨d2,rfl,by simpa only[Sg.items]using hX⟩
      have guard:s.grd b.fn=true\/(s.grd b.fn=false/\h0=0):=by
       cases hg:s.grd b.fn with
       |true=>exact .inl rfl
       |false=>
        rcases hp with h|h
        ·exact .inr ⟨rfl,h⟩
        ·rw[hg]at h;cases h
      have hput:∀v,∀x∈(a.put o.dst v).defers,CD s x:=fun v x hx=>hda x (by rw[put_defers]at hx;exact hx)
      cases hw:Region.wanted o (yielded ops a.tmps)with
      |false=>
       have e2:d2=d:=by
        by_cases hg:o.guard=none
        ·unfold Region.wanted at hw;rw[hg]at hw;cases hw
        ·have hg:o.guard.isNone=false:=by cases h:o.guard<;>simp_all
         unfold Sg.eff at he;simp only[hg]at he
         repeat' (first|(cases he;done)|(cases he;rfl)|split at he)
         all_goals(first|(simp_all;done)|(cases he;simp_all))
       subst e2;exact .inl (ctl (fun _ _=>stepG_unwanted ho hw) (fun _ _=>stepG_unwanted ho hw) ((Kw (.inRegion ops rest::X) (hput _) hX2 (hs.none (vY he).1 (fun _ _ _ h=>by cases h) rfl) (.refl _) (by rw[put_defers];exact hz)).cast hL.symm))
      |true=>
       obtain⟨d1,k1,k2⟩:=NJ H hs.sl he R;rw[<-hL]at k1;cases hrun:(execOp a.eval o).run P w with
       |halt hh w1=>exact .inr (.inr (Xq H hke ho hw hrun (ag0 k1 hrun)))
       |ok nx w1=>
        have lev:=U3 k1 hrun b.fn;have upd:(∀v,nx=.value v->SI s h0 w1 b.fn (a.put o.dst v).tmps/\kN h0 w w1)/\(nx=.skip->SI s h0 w1 b.fn (a.put o.dst undef).tmps/\kN h0 w w1):=by
         rcases guard with hg|⟨hg,h00⟩
         ·exact aj7 H hs he hg hh hrun
         ·subst h00;obtain⟨k1,k2⟩:=NI hs he hg hrun w1;exact⟨fun v hv=>⟨k1 v hv,.inl rfl⟩,fun _=>⟨k2,.inl rfl⟩⟩
        cases k2 w nx w1 hrun with
        |value v e1=>
         subst e1;exact .inl ⟨_,base,_,base',w1,listed P b.fn a o w,fun _ _=>stepG_value ho hw hke hrun,fun _ _=>stepG_value ho hw hke hrun,(Kw (.inRegion ops rest::X) (hput _) hX2 (upd.1 v rfl).1 (upd.1 v rfl).2 (by rw[put_defers];exact hz)).cast lev.symm⟩
        |skip e1=>
         subst e1;exact .inl ⟨_,base,_,base',w1,listed P b.fn a o w,fun _ _=>stepG_none ho hw hke hrun,fun _ _=>stepG_none ho hw hke hrun,(Kw (.inRegion ops rest::X) (hput _) hX2 (upd.2 rfl).1 (upd.2 rfl).2 (by rw[put_defers];exact hz)).cast lev.symm⟩
        |defer dd e1 hd hg=>
         subst e1;have h00:h0=0:=by
          rcases guard with h|h
          ·rw[hg]at h;cases h
          ·exact h.2
         subst h00;have st:∀(k:List Item) (main:Bool) (cs:List Frame),stepG P main (G (b.at a (.inRegion ops (i::rest)::k)) cs) w=.go (G (b.at (Act.put ⟨a.tmps,dd::a.defers⟩ o.dst undef) (.inRegion ops rest::k)) cs) w1 (listed P b.fn a o w):=fun k main cs=>by
          have hfin:(b.at ⟨a.tmps,dd::a.defers⟩ (.inRegion ops (i::rest)::k)).finish undef=b.at (Act.put ⟨a.tmps,dd::a.defers⟩ o.dst undef) (.inRegion ops rest::k):=by rw[Frame.finish_at,ho];rfl
          have hk':(b.kind==CallKind.early)=false:=beq_eq_false_iff_ne.2 hke;rw[stepG_oper ho hw,<-hfin];simp[stepG.apply,hrun,G,Frame.at,hk',GStep.after,listed]
         refine .inl ⟨_,base,_,base',w1,listed P b.fn a o w,fun _ _=>st _ _ _,fun _ _=>st _ _ _,(Kw (.inRegion ops rest::X) (fun x hx=>?_) hX2 ?_ (.inl rfl) (.inl rfl)).cast lev.symm⟩
         ·rw[put_defers]at hx;rcases List.mem_cons.1 hx with rfl|hx
          ·exact hd
          ·exact hda x hx
         ·have:=(NI hs he hg hrun w1).2;cases hdst:o.dst with
          |none=>rw[hdst]at this;exact this
          |some t=>rw[hdst]at this;exact this
        |enter g zZ9 hg e1 e2 ha hpu hsz hww=>
         subst e1;subst hww;obtain⟨fn,code,f1,f2,f3,f4,-⟩:=H.body g hg;refine .inl ⟨Frame.enter P g zZ9 .normal,b.at a (.inRegion ops (i::rest)::(X++fZ))::base,Frame.enter P g zZ9 .normal,b.at a (.inRegion ops (i::rest)::(X++tY))::base',w1,listed P b.fn a o w1,fun _ _=>stepG_enter ho hw hke hrun,fun _ _=>stepG_enter ho hw hke hrun,?_⟩;rw[enter_at zZ9 f1 f2];have big:∀t,(s.fs g).contains t=true->CV s g ((zZ9++Array.replicate (fn.ntmps-zZ9.size) undef).getD t undef):=fun t ht=>by
          rw[Array.getD_eq_getD_getElem?,Array.getElem?_append];split
          ·rw[<-Array.getD_eq_getD_getElem?];exact ha t ht
          ·rw[Array.getElem?_replicate];split<;>exact CV.undef
         have none_:∀t,t∈s.own g++(s.xQ g++s.xR g)->blk ((zZ9++Array.replicate (fn.ntmps-zZ9.size) undef).getD t undef)=none:=fun t ht=>by
          have:=hsz t ht;rw[Array.getD_eq_getD_getElem?,Array.getElem?_append,if_neg (by omega),Array.getElem?_replicate];split<;>rfl
         refine(yS.call (h:=if s.grd b.fn then w1.heap.size else 0) (d:=s.en g) (L:=d2+R) (OM.run (b:=Go.Conc.base g) (a:=⟨zZ9++Array.replicate (fn.ntmps-zZ9.size) undef,[]⟩) [.code code] (s.en g) (by simp) f4 ⟨big,fun t ht b' hb'=>?_,fun t ht b' hb'=>?_⟩ ?_ ?_ (.inr rfl)) hg rfl hda fun v w2 hx=>?_).cast ?_
         ·have:blk ((zZ9++Array.replicate (fn.ntmps-zZ9.size) undef).getD t undef)=some b':=hb';rw[none_ t (by simp[show t∈s.own g from ht])]at this;cases this
         ·have:blk ((zZ9++Array.replicate (fn.ntmps-zZ9.size) undef).getD t undef)=some b':=hb';rw[none_ t (List.mem_append_right _ ht)]at this;cases this
         ·split
          ·exact Nat.le_refl _
          ·exact Nat.zero_le _
         ·cases hgr:s.grd b.fn with
          |false=>exact .inl rfl
          |true=>exact .inr (by show s.grd g=true;simp[Sg.grd,hpu hgr])
         ·have f1:∀k,(b.at a (.inRegion ops (i::rest)::k)).finish v=b.at (a.put o.dst v) (.inRegion ops rest::k):=fun k=>by rw[Frame.finish_at,ho];rfl
          rw[f1,f1];have hbare:s.bare b.fn o:=Vz he hrun;rcases guard with hgr|⟨hgr,h00⟩
          ·rw[if_pos hgr]at hx;have hx':oJ w1 w2:=by
            rcases hx with hx|hx
            ·exact⟨by omega,fun b' hb'=>by omega⟩
            ·exact hx
           exact Kw (.inRegion ops rest::X) (hput _) hX2 ((hs.mono hx').free hbare v) (.of hx' hh) (by rw[put_defers];exact hz)
          ·subst h00;obtain⟨l1,l2,l3⟩:=Qc hgr;have hs2:SI s 0 w2 b.fn a.tmps:=⟨hs.sl,fun t ht=>by rw[l1]at ht;simp at ht,fun u hu=>by rw[l2,l3]at hu;simp at hu⟩;exact Kw (.inRegion ops rest::X) (hput _) hX2 (hs2.free hbare v) (.inl rfl) (.inl rfl)
         ·have:deafBehind L (listed P b.fn a o w1)=d1+R:=lev;rw[this];omega
   |_=>simp[Sg.items,Sg.fin]at hX
end
end
section
def NR(c:Frame):Prop:=∀ch,c.mode=.panicking ch->∀e∈ch,e.recovered=false
inductive Dm(s:Sg):World->List Frame->Prop
 |top {w:World} {p:Frame} {rest:List Frame} {ch:List PanicEntry} (hm:p.mode=.panicking ch) (hn:∀c∈p::rest,NR c) (hd:∀c∈p::rest,∀x∈c.defers,CD s x):Dm s w (p::rest)
 |up {w:World} {L:Nat} {U U':List Frame} {p:Frame} {rest:List Frame} {ch:List PanicEntry} (h:yS s [] [] .deferred w L U U') (hm:p.mode=.panicking ch) (hn:∀c∈p::rest,NR c) (hd:∀c∈p::rest,∀x∈c.defers,CD s x):Dm s w (U++p::rest)
def aS0(s:Sg)(w:World)(l:List Frame):Prop:=(∃l1,Dm s w l1/\l=l1++[aA])\/∃ch,l=[aA.raise ch]
section
variable{s:Sg}{P:Program}{Ks K:List Item}{κ:CallKind}{L d:Nat}{f f':Frame}{base base':List Frame}{w:World}
theorem NR.raise{c:Frame}(h:NR c){vs:List PanicEntry}(hv:∀e∈vs,e.recovered=false):NR (c.raise vs):=by
 intro ch hc e he;unfold Frame.raise at hc;cases hm:c.mode with
 |panicking ch0=>
  rw[hm]at hc;cases hc;rcases List.mem_append.1 he with he|he
  ·exact hv e he
  ·exact h ch0 hm e he
 |run=>rw[hm]at hc;cases hc;exact hv e he
 |returning=>rw[hm]at hc;cases hc;exact hv e he
theorem raise_mode(c:Frame)(vs:List PanicEntry):∃ch,(c.raise vs).mode=.panicking ch:=by
 unfold Frame.raise;cases c.mode<;>exact⟨_,rfl⟩
theorem sJ(c:Frame)(vs:List PanicEntry):(c.raise vs).defers=c.defers:=by
 unfold Frame.raise;cases c.mode<;>rfl
theorem yS.calm{l l':List Frame}(h:yS s Ks K κ w L l l'):∀c∈l,∀ch,c.mode≠ .panicking ch:=by
 induction h with
 |one h hk _=>intro c hc;simp at hc;subst hc;exact h.defs.2
 |call h hS hk hc hp ih=>
  intro c hm;rcases List.mem_cons.1 hm with rfl|hm
  ·exact h.defs.2
  ·rcases List.mem_cons.1 hm with rfl|hm
   ·intro ch e;refine ih undef _ (.refl _) (c.finish undef) (by simp) ch ?_;rw[<-e];unfold Frame.finish;split<;>rfl
   ·exact ih undef _ (.refl _) c (by simp[hm])
 |Vs h hS hk hm hm' hp ih=>
  intro c hmm;rcases List.mem_cons.1 hmm with rfl|hmm
  ·exact h.defs.2
  ·exact ih _ (.refl _) c hmm
theorem yS.ne_nil{l l':List Frame}(h:yS s Ks K κ w L l l'):∃f r f' r',l=f::r/\l'=f'::r':=by
 cases h<;>exact⟨_,_,_,_,rfl,rfl⟩
theorem Vr(H:xI s P){cs:List Frame}(h:aS0 s w (f::cs)):(stepG P true (G f cs) w).okD P\/(∃g w1 es,stepG P true (G f cs) w=.go g w1 es/\g.status=.blocked/\g.dying=none)\/∃g b2 w1 es,stepG P true (G f cs) w=.go (G g b2) w1 es/\aS0 s w1 (g::b2):=by
 rcases h with⟨l1,hl,e⟩|⟨ch,e⟩
 ·cases hl with
  | @top p rest ch hm hn hd=>
   simp only[List.cons_append,List.cons.injEq]at e;obtain⟨rfl,rfl⟩:=e;cases hdf:f.defers with
   |cons x ds=>
    obtain⟨g,zZ9,rfl,hg,hgn⟩:=hd f (by simp) x (by rw[hdf];simp);obtain⟨n1,n2,n3⟩:=sO hgn;obtain⟨c1,c2,c3⟩:=qH hg;obtain⟨fn,code,f1,f2,f3,f4,-⟩:=H.body g c1;have h1:¬fn.name= "runtime.NumGoroutine" :=by simpa using f3
    have st:stepG P true (G f (rest++[aA])) w=.go (G ((baseD g).at {tmps:=zZ9++Array.replicate (fn.ntmps-zZ9.size) undef,defers:=[]} [.code code]) ({f with defers:=ds}::(rest++[aA]))) w #[]:=by
     rw[<-enter_atD zZ9 f1 f2];simp[G,stepG,unwind,callDeferred,hm,hdf,dcall,invoke,callFunc,f1,h1,f2,GStep.after,seen_none]
    refine .inr (.inr ⟨_,_,_,_,st,.inl ⟨[_]++{f with defers:=ds}::rest,?_,rfl⟩⟩);refine .up (L:=s.en g) (U':=[(baseD g).at {tmps:=zZ9++Array.replicate (fn.ntmps-zZ9.size) undef,defers:=[]} [.code code]]) (.one (h:=0) (OM.run (Ks:=[]) (K:=[]) (b:=baseD g) (a:=⟨zZ9++Array.replicate (fn.ntmps-zZ9.size) undef,[]⟩) [.code code] (s.en g) (by simp) f4 ⟨fun t ht=>?_,fun t ht=>?_,fun t ht=>?_⟩ (Nat.zero_le _) (.inl rfl) (.inl rfl)) rfl fun _=>c1) (p:={f with defers:=ds}) hm (fun c hc=>?_) fun c hc x hx=>?_
    ·rw[show(baseD g).fn=g from rfl,c2]at ht;simp at ht
    ·rw[show(baseD g).fn=g from rfl,n1]at ht;simp at ht
    ·rw[show(baseD g).fn=g from rfl,n2,n3]at ht;simp at ht
    ·rcases List.mem_cons.1 hc with rfl|hc
     ·exact hn f (by simp)
     ·exact hn c (by simp[hc])
    ·rcases List.mem_cons.1 hc with rfl|hc
     ·exact hd f (by simp) x (by rw[hdf];exact List.mem_cons_of_mem _ hx)
     ·exact hd c (by simp[hc]) x hx
   |nil=>
    by_cases bf9:f.catches P=true
    ·refine .inl ?_;have st:stepG P true (G f (rest++[aA])) w=.ended (.unsupported (.noEntry "a panic or Goexit out of a method that fmt calls behind a cut's door") (f.pos P)) w #[]:=by
      simp[G,stepG,unwind,hm,hdf,bf9]
     rw[st];intro v hv;cases hv
    ·have st:∀c r,stepG P true (G f (c::r)) w=.go (G (c.raise ch) r) w #[]:=fun c r=>by
      simp[G,stepG,unwind,hm,hdf,bf9]
     cases rest with
     |nil=>exact .inr (.inr ⟨_,_,_,_,st _ _,.inr ⟨ch,rfl⟩⟩)
     |cons c r=>
      obtain⟨ch2,hm2⟩:=raise_mode c ch;refine .inr (.inr ⟨_,_,_,_,st c (r++[aA]),.inl ⟨c.raise ch::r,.top hm2 (fun x hx=>?_) fun x hx y hy=>?_,rfl⟩⟩)
      ·rcases List.mem_cons.1 hx with rfl|hx
       ·exact(hn c (by simp)).raise (hn f (by simp) ch hm)
       ·exact hn x (by simp[hx])
      ·rcases List.mem_cons.1 hx with rfl|hx
       ·rw[sJ]at hy;exact hd c (by simp) y hy
       ·exact hd x (by simp[hx]) y hy
  | @up L U U' p rest ch h hm hn hd=>
   obtain⟨u,b,u',b',rfl,rfl⟩:=h.ne_nil;simp only[List.cons_append,List.append_assoc,List.cons.injEq]at e;obtain⟨rfl,rfl⟩:=e;rcases QV (w:=w) H (.inr rfl) (.inl ⟨rfl,rfl⟩) h with⟨g,b2,g',b2',w1,es,e1,e2,k⟩|⟨rfl,h2,h3⟩|hb
   ·refine .inr (.inr ⟨g,b2++(p::rest++[aA]),w1,es,e1 true _,.inl ⟨g::b2++p::rest,.up k hm hn hd,by simp⟩⟩)
   ·cases h with
    |one hf hk hS=>
     have hk:f.kind=.deferred:=hk;obtain⟨fn,code,f1,-⟩:=H.body _ (hS rfl);cases hf with
     |run X d _ _ _ _ _ _=>cases h2
     | @ret b a todo todo' hda _ _=>
      have f1:P.funcs[b.fn]?=some fn:=f1;have hk:b.kind=.deferred:=hk;have h3:a.defers=[]:=h3;cases hres:(Go.results fn a.tmps).run P w with
      |halt hh w1=>
       obtain⟨o,es,e,ho⟩:=x9 (main:=true) (todo:=todo) (cs:=p::rest++[aA]) h3 f1 hres;refine .inl ?_;show(stepG P true (G _ (p::rest++[aA])) w).okD P;rw[e];exact ho
      |ok v w1=>
       have:=qY (main:=true) (todo:=todo) (cs:=rest++[aA]) (c:=p) (.inr ⟨hk,fun e older x=>hn p (by simp) _ x e (by simp)⟩) h3 f1 hres;rw[if_neg (by rw[hk];simp)]at this;exact .inr (.inr ⟨p,rest++[aA],_,_,this,.inl ⟨p::rest,.top hm hn hd,rfl⟩⟩)
   ·rcases hb (p::rest++[aA])with h1|h1|⟨vs,w1,es,h1,h2⟩
    ·exact .inl h1
    ·exact .inr (.inl h1)
    ·obtain⟨ch2,hm2⟩:=raise_mode f vs;refine .inr (.inr ⟨_,_,w1,es,h1,.inl ⟨f.raise vs::(b++p::rest),.top hm2 (fun c hc=>?_) fun c hc x hx=>?_,by simp⟩⟩)
     ·rcases List.mem_cons.1 hc with rfl|hc
      ·exact NR.raise (fun ch x=>(h.calm f (by simp) ch x).elim) h2
      ·rcases List.mem_append.1 hc with hc|hc
       ·exact fun ch x=>(h.calm c (by simp[hc]) ch x).elim
       ·exact hn c hc
     ·rcases List.mem_cons.1 hc with rfl|hc
      ·rw[sJ]at hx;exact h.bare f (by simp) x hx
      ·rcases List.mem_append.1 hc with hc|hc
       ·exact h.bare c (by simp[hc]) x hx
       ·exact hd c hc x hx
 ·simp only[List.cons.injEq]at e;obtain⟨rfl,rfl⟩:=e;refine .inl ?_;have:∃o,stepG P true (G (aA.raise ch) []) w=.ended o w #[]/\∀v,o≠ .done v:=⟨_,by simp[G,stepG,unwind,callDeferred,Frame.raise,aA];exact rfl,fun v hv=>by cases hv⟩;obtain⟨o,e,ho⟩:=this;rw[e];exact ho
theorem o9(f:Frame)(cs:List Frame)(w:World):lone f cs w=oneG (G f cs) w:=rfl
theorem Hg:∀(n:Nat) {g:Goroutine} {w:World},g.dyingOn P->∀fr cs w',runN P n (oneG g w)≠ .next (lone fr cs w')
 |0,g,w,h,fr,cs,w',e=>by
  simp only[runN,Stepped.next.injEq]at e;obtain⟨_,d,hd,_⟩:=h;have:=congrArg (fun m=>(m.gs[0]?).map (·.dying)) e;simp[oneG,lone,hd]at this
 |n+1,g,w,h,fr,cs,w',e=>by
  rcases step_dyingOn (w:=w) h with⟨g',w1,hs,h'⟩|⟨o,w1,hs,ho⟩
  ·simp only[runN,hs]at e;exact Hg n h' fr cs w' e
  ·simp only[runN,hs]at e;cases e
theorem Oh{g:Goroutine}{w:World}(h:g.status=.blocked):∀(n:Nat) fr cs w',runN P n (oneG g w)≠ .next (lone fr cs w')
 |0,fr,cs,w',e=>by
  simp only[runN,Stepped.next.injEq]at e;have:=congrArg (fun m=>(m.gs[0]?).map (·.status)) e;simp[oneG,lone,h]at this
 |n+1,fr,cs,w',e=>by
  obtain⟨f2,cs2,st,dy,off⟩:=g;simp only at h;subst h;obtain⟨o',w1,he,ho⟩:=endWith_ended w 2 (bytes "fatal error: all goroutines are asleep - deadlock!\n") (.fatal "all goroutines are asleep - deadlock!");have:step P (oneG ⟨f2,cs2,.blocked,dy,off⟩ w)=.ended o' w1:=by
   simp[step,stepT,move,ask,askOn,oneG,runnable_eq,due,ahead,Goroutine.canRun,List.range_succ,pure];rw[he]
  simp only[runN,this]at e;cases e
theorem yV{g:Goroutine}{w:World}(hr:g.status=.running):(∀g' w' es,stepG P true g w=.go g' w' es->g'.status=.running\/g'.status=.blocked->step P (oneG g w)=.next (oneG g' w'))/\(∀o w' es,stepG P true g w=.ended o w' es->step P (oneG g w)=.ended o w'):=by
 refine⟨fun g' w' es hs h1=>?_,fun o w' es hs=>?_⟩
 ·rw[step,stepT,move_oneG hr];rcases h1 with h1|h1<;>simp[runT,oneG,Array.swapAt!,hs,h1]
 ·rw[step,stepT,move_oneG hr];simp[runT,oneG,Array.swapAt!,hs]
theorem DR{cs:List Frame}(h:(stepG P true (G f cs) w).okD P\/∃g w1 es,stepG P true (G f cs) w=.go g w1 es/\g.status=.blocked/\g.dying=none)(n:Nat)(fr:Frame)(cs':List Frame)(w':World):runN P (n+1) (lone f cs w)≠ .next (lone fr cs' w'):=by
 intro e;rw[o9]at e;have so:=yV (P:=P) (g:=G f cs) (w:=w) rfl;rcases h with h|⟨g,w1,es,h,h1,-⟩
 ·cases hs:stepG P true (G f cs) w with
  |go g w1 es=>
   rw[hs]at h;have h:g.dyingOn P:=h;rw[runN,so.1 g w1 es hs h.1]at e;exact Hg n h fr cs' w' e
  |ended o w1 es=>rw[runN,so.2 o w1 es hs]at e;cases e
  |_=>rw[hs]at h;exact h.elim
 ·rw[runN,so.1 g w1 es h (.inr h1)]at e;exact Oh h1 n fr cs' w' e
theorem NV(H:xI s P):∀(n:Nat) {f:Frame} {cs:List Frame} {w:World},aS0 s w (f::cs)->∀fr w',(∀ch,fr.mode≠ .panicking ch)->runN P n (lone f cs w)≠ .next (lone fr [aA] w')
 |0,f,cs,w,h,fr,w',hm,e=>by
  simp only[runN,Stepped.next.injEq]at e;have e1:f=fr:=by have:=congrArg (fun m=>(m.gs[0]?).map (·.frame)) e;simpa [lone]using this
  have e2:cs=[aA]:=by have:=congrArg (fun m=>(m.gs[0]?).map (·.callers)) e;simpa [lone]using this
  subst e1 e2;rcases h with⟨l1,hl,e⟩|⟨ch,e⟩
  ·have:l1=[f]:=by
    have:[f]++[aA]=l1++[aA]:=e;exact(List.append_cancel_right this).symm
   subst this;generalize hf:[f]=l1 at hl;cases hl with
   |top h1=>
    simp only[List.cons.injEq]at hf;obtain⟨rfl,-⟩:=hf;exact hm _ h1
   |up h=>
    obtain⟨u,b,u',b',rfl,rfl⟩:=h.ne_nil;have:=congrArg List.length hf;simp at this
  ·have:=congrArg List.length e;simp at this
 |n+1,f,cs,w,h,fr,w',hm,e=>by
  rcases Vr (w:=w) H h with h1|h1|⟨g,b2,w1,es,h1,h2⟩
  ·exact DR (.inl h1) n fr _ w' e
  ·exact DR (.inr h1) n fr _ w' e
  ·have so:=(yV (P:=P) (g:=G f cs) (w:=w) rfl).1 _ _ _ h1 (.inl rfl);rw[<-o9,<-o9]at so;rw[runN,so]at e;exact NV H n h2 fr w' hm e
theorem WU(H:xI s P)(hKs:(Ks=[]/\K=[])\/Ks=[bW]):∀(n:Nat) {f f':Frame} {base base':List Frame} {L:Nat} {w:World},yS s Ks K .normal w L (f::base) (f'::base')->
  ∀fr w',(∀ch,fr.mode≠ .panicking ch)->runN P n (lone f (base++[aA]) w)=.next (lone fr [aA] w')->∀(tail:List Frame) (t:Trace),(∀op∈t,op.g=0)->Deaf t 0=L->
  ∃fr' L' t',yS s Ks K .normal w' L' [fr] [fr']/\runNT P n (solo (G f' (base'++tail)) w) t=(.next (solo (G fr' tail) w'),t')/\(∀op∈t',op.g=0)/\Deaf t' 0=L'
 |0,f,f',base,base',L,w,h,fr,w',hm,e,tail,t,ht,hd=>by
  simp only[runN,Stepped.next.injEq]at e;have e1:f=fr:=by have:=congrArg (fun m=>(m.gs[0]?).map (·.frame)) e;simpa [lone]using this
  have e2:base++[aA]=[aA]:=by have:=congrArg (fun m=>(m.gs[0]?).map (·.callers)) e;simpa [lone]using this
  have e3:w=w':=congrArg (·.world) e;have e2:base=[]:=by simpa using e2
  subst e1 e2 e3;have e4:base'=[]:=by cases h;rfl
  subst e4;exact⟨f',L,t,h,rfl,ht,hd⟩
 |n+1,f,f',base,base',L,w,h,fr,w',hm,e,tail,t,ht,hd=>by
  rcases QV (w:=w) H (.inl rfl) hKs h with⟨g,b2,g',b2',w1,es,e1,e2,k⟩|⟨rfl,h2,h3⟩|hb
  ·have so:=(yV (P:=P) (g:=G f (base++[aA])) (w:=w) rfl).1 _ _ _ (e1 true [aA]) (.inl rfl);rw[<-o9,<-o9]at so;rw[runN,so]at e;have st:stepT P (solo (G f' (base'++tail)) w)=(.next (solo (G g' (b2'++tail)) w1),MemOp.ofEvents 0 f'.fn f'.place es):=by
    rw[stepT_solo rfl];exact runT_solo_go (e2 true tail)
   have hg:∀op∈t++MemOp.ofEvents 0 f'.fn f'.place es,op.g=0:=fun op hop=>by
    rcases Array.mem_append.1 hop with hop|hop
    ·exact ht op hop
    ·rw[ofEvents_eq]at hop;obtain⟨x,_,rfl⟩:=Array.mem_map.1 hop;rfl
   have hd2:Deaf (t++MemOp.ofEvents 0 f'.fn f'.place es) 0=deafBehind L es:=by rw[Deaf_own,hd]
   obtain⟨fr',L',t',k1,k2,k3,k4⟩:=WU H hKs n k fr w' hm e tail _ hg hd2;refine⟨fr',L',t',k1,?_,k3,k4⟩;simp only[runNT,st];exact k2
  ·exfalso;have hk:f.kind=.normal:=by cases h;assumption
   exact yM h2 h3 hk n fr w' e
  ·exfalso;rcases hb [aA]with h1|h1|⟨vs,w1,es,h1,h2⟩
   ·exact DR (.inl h1) n fr _ w' e
   ·exact DR (.inr h1) n fr _ w' e
   ·have so:=(yV (P:=P) (g:=G f (base++[aA])) (w:=w) rfl).1 _ _ _ h1 (.inl rfl);rw[<-o9,<-o9]at so;rw[runN,so]at e;obtain⟨ch2,hm2⟩:=raise_mode f vs;refine NV H n (.inl ⟨f.raise vs::base,.top hm2 (fun c hc=>?_) fun c hc x hx=>?_,rfl⟩) fr w' hm e
    ·rcases List.mem_cons.1 hc with rfl|hc
     ·exact NR.raise (fun ch x=>(h.calm f (by simp) ch x).elim) h2
     ·exact fun ch x=>(h.calm c (by simp[hc]) ch x).elim
    ·rcases List.mem_cons.1 hc with rfl|hc
     ·rw[sJ]at hx;exact h.bare f (by simp) x hx
     ·exact h.bare c (by simp[hc]) x hx
theorem U4(H:xI s P){Q:Exit->Act->World->Prop}(hQ:∀e a w,Q e a w->e=.normal\/e=.ret){c:Code}{b:Frame}{a:Act}(hk:b.kind=.normal)(hda:∀x∈a.defers,CD s x)(hX:Sg.fin (s.items b.fn (some 0) [.code c])=true)(hl:s.grd b.fn=false)(hs:∀t,(s.fs b.fn).contains t=true->CV s b.fn (a.tmps.getD t undef))(hC:c.wp P Q a w)(k:List Item)(cs:List Frame)(t:Trace)(ht:∀op∈t,op.g=0)(hd:Deaf t 0=0):
  ∃n a2 w2 t2,(∀op∈t2,op.g=0)/\Deaf t2 0=0/\((Q .normal a2 w2/\runNT P n (solo (G (b.at a (.code c::k)) cs) w) t=(.next (solo (G (b.at a2 k) cs) w2),t2))\/
   ∃todo,Q .ret a2 w2/\runNT P n (solo (G (b.at a (.code c::k)) cs) w) t=(.next (solo (G {b.at a2 todo with mode:=.returning} cs) w2),t2)):=by
 obtain⟨l1,l2,l3⟩:=Qc hl;have h:yS s [bW] k .normal w 0 [b.at a ([.code c]++[bW])] [b.at a ([.code c]++k)]:=.one (h:=0) (.run [.code c] 0 hda hX ⟨hs,fun t ht=>by rw[l1]at ht;simp at ht,fun u hu=>by rw[l2,l3]at hu;simp at hu⟩ (Nat.zero_le _) (.inl rfl) (.inl rfl)) hk fun e=>by cases e
 obtain⟨e,a2,w2,hq,hr⟩:=hC b [bW] [aA];have bi9:∀n fr w',runN P n (lone (b.at a (.code c::[bW])) [aA] w)=.next (lone fr [aA] w')->(∀ch,fr.mode≠ .panicking ch)->∃fr' L' t',yS s [bW] k .normal w' L' [fr] [fr']/\runNT P n (solo (G (b.at a (.code c::k)) cs) w) t=(.next (solo (G fr' cs) w'),t')/\(∀op∈t',op.g=0)/\Deaf t' 0=L':=
  fun n fr w' hn hm=>WU H (.inr rfl) n h fr w' hm hn cs t ht hd
 rcases hQ e a2 w2 hq with rfl|rfl
 ·obtain⟨n,hn⟩:=hr;obtain⟨fr',L',t',k1,k2,k3,k4⟩:=bi9 n _ _ hn fun ch e=>by cases e
  refine⟨n,a2,w2,t',k3,?_,.inl ⟨hq,?_⟩⟩
  ·generalize hfr:b.at a2 [bW]=fr at k1;cases k1 with
   |one hF hk2 _=>cases hF with
    | @run b1 a1 X d h1 hX2 h2 _ _ _=>
     have h3:=congrArg Frame.todo hfr;simp only[Frame.at]at h3;have hX0:X=[]:=by
      cases X with
      |nil=>rfl
      |cons x X=>have:=congrArg List.length h3;simp at this
     subst hX0;rw[k4]
     simpa [Sg.items,Sg.fin]using hX2
    |ret h1 _ _=>have:=congrArg Frame.mode hfr;cases this
  ·generalize hfr:b.at a2 [bW]=fr at k1;cases k1 with
   |one hF hk2 _=>cases hF with
    | @run b1 a1 X d h1 hX2 h2 _ _ _=>
     simp only[Frame.at,Frame.mk.injEq]at hfr;obtain⟨h3,h4,h5,h6,-,h7,-⟩:=hfr;have hX0:X=[]:=by
      cases X with
      |nil=>rfl
      |cons x X=>have:=congrArg List.length h5;simp at this
     subst hX0;have ha:a1=a2:=by cases a1;cases a2;simp at h4 h6;subst h4 h6;rfl
     subst ha;have e:b1.at a1 ([]++k)=b.at a1 k:=at_eq h3.symm h7.symm a1 k;rw[e]at k2;exact k2
    |ret h1 _ _=>have:=congrArg Frame.mode hfr;cases this
 ·obtain⟨todo,n,hn⟩:=hr;obtain⟨fr',L',t',k1,k2,k3,k4⟩:=bi9 n _ _ hn fun ch e=>by cases e
  generalize hfr:({b.at a2 todo with mode:=.returning}:Frame)=fr at k1;cases k1 with
  |one hF hk2 _=>cases hF with
   |run X d h1 hX2 h2 _ _ _=>have:=congrArg Frame.mode hfr;cases this
   | @ret b1 a1 bJ4 Iu h1 _ _=>
    simp only[Frame.at,Frame.mk.injEq]at hfr;obtain⟨h3,h4,h5,h6,-,h7,-⟩:=hfr;have ha:a1=a2:=by cases a1;cases a2;simp at h4 h6;subst h4 h6;rfl
    subst ha;have e:({b1.at a1 Iu with mode:=.returning}:Frame)={b.at a1 Iu with mode:=.returning}:=by rw[at_eq h3.symm h7.symm a1 Iu]
    rw[e]at k2;exact⟨n,a1,w2,t',k3,k4,.inr ⟨Iu,hq,k2⟩⟩
end
end
end Cc
namespace Cc
open Go.Conc Go.ConcN
open Go.ConcR (DC0)
def LR(P:Program)(g₀:Goroutine)(w₀:World)(g:Goroutine)(w:World):Prop:=
 ∃n t,runNT P n (solo g₀ w₀) #[]=(.next (solo g w),t)/\g.status=.running/\(∀op∈t,op.g=0)/\Deaf t 0=0
theorem LR.start{P:Program}{g:Goroutine}{w:World}(h:g.status=.running):LR P g w g w:=
 ⟨0,#[],rfl,h,fun op h=>by simp at h,rfl⟩
def wpL(P:Program)(N R:Act->World->Prop):List Code->Act->World->Prop
 |[],a,w=>N a w
 |c::cs,a,w=>c.wp P (fun e a w=>match e with|.normal=>a.defers=[]/\wpL P N R cs a w|.ret=>a.defers=[]/\R a w|_=>False) a w
theorem jY{P:Program}{N R:Act->World->Prop}{c:Code}{cs:List Code}{a:Act}{w:World}(h:c.wp P (fun e a w=>match e with|.normal=>a.defers=[]/\wpL P N R cs a w|.ret=>a.defers=[]/\R a w|_=>False) a w):wpL P N R (c::cs) a w:=h
section
variable{s:Sg}{P:Program}{g₀:Goroutine}{w₀:World}
theorem LR.step{g g':Goroutine}{w w':World}(h:LR P g₀ w₀ g w)(hs:stepG P true g w=.go g' w' #[])(hr:g'.status=.running):LR P g₀ w₀ g' w':=by
 obtain⟨n,t,h1,h2,h3,h4⟩:=h;have st:stepT P (solo g w)=(.next (solo g' w'),MemOp.ofEvents 0 g.frame.fn g.frame.place #[]):=by
  rw[stepT_solo h2];exact runT_solo_go hs
 refine⟨n+1,t,?_,hr,h3,h4⟩;rw[runNT_add,h1];simp only[runNT,st];rw[ofEvents_none,Array.append_empty]
theorem LR.walk{X:Prop}{w:World}:∀(n:Nat) {g:Goroutine} {w':World},LR P g₀ w₀ g w->Goes P (0==0) (fun _ w₁=>AnyW w₁) DC0 (fun g' _=>g'.status=.running/\(LR P g₀ w₀ g' w->X)) n g w'->X
 |0,g,w',h,k=>(k w trivial).2 h
 |n+1,g,w',h,k=>by
  rcases k with k|⟨hs,k⟩
  ·exact(k w trivial).2 h
  ·have h1:=k w trivial;cases hg:stepG P (0==0) g w with
   |go g' w2 es=>
    rw[hg]at h1;simp only[goes_go]at h1;obtain⟨⟨rfl,rfl⟩,h2⟩:=h1;have hrun:g'.status=.running:=by
     cases n with
     |zero=>exact(h2 w2 trivial).1
     |succ n=>exact h2.elim (fun h2=>(h2 w2 trivial).1) fun h2=>h2.1
    exact LR.walk n (h.step hg hrun) h2
   |_=>rw[hg]at h1;exact h1.elim
theorem LR.road{X:Prop}{g:Goroutine}{w:World}(n:Nat)(h:LR P g₀ w₀ g w)(k:∀an8:World,AnyW an8->Goes P (0==0) (fun _ w₁=>AnyW w₁) DC0 (fun g' _=>g'.status=.running/\(LR P g₀ w₀ g' w->X)) n g an8):X:=
 LR.walk n h (k w trivial)
theorem LR.call{b:Frame}{a:Act}{kk:List Item}{cs:List Frame}{w:World}{ops:Array Oper}{i:Nat}{rest:List Nat}{o:Oper}{f:FuncId}{args:Array Value}(h:LR P g₀ w₀ (G (b.at a (.inRegion ops (i::rest)::kk)) cs) w)(ho:ops[i]?=some o)(hw:Region.wanted o (yielded ops a.tmps)=true)(hk:b.kind≠ .early)
  (hr:∀w:World,(execOp a.eval o).run P w=.ok (.enter f args) w)(he:∀w:World,(execOp a.eval o).events P w #[]=#[]):LR P g₀ w₀ (G (Frame.enter P f args .normal) (b.at a (.inRegion ops (i::rest)::kk)::cs)) w:=by
 refine h.step ?_ rfl;rw[stepG_enter ho hw hk (hr w)];unfold listed;rw[he,seen_none]
theorem LR.code(H:xI s P){Q:Exit->Act->World->Prop}(hQ:∀e a w,Q e a w->e=.normal\/e=.ret){c:Code}{b:Frame}{a:Act}{w:World}{k:List Item}{cs:List Frame}(h:LR P g₀ w₀ (G (b.at a (.code c::k)) cs) w)(hk:b.kind=.normal)(hda:a.defers=[])(hX:Sg.fin (s.items b.fn (some 0) [.code c])=true)(hl:s.grd b.fn=false)(hs:s.fs b.fn=[])(hC:c.wp P Q a w):
  ∃a2 w2,(Q .normal a2 w2/\LR P g₀ w₀ (G (b.at a2 k) cs) w2)\/∃todo,Q .ret a2 w2/\LR P g₀ w₀ (G {b.at a2 todo with mode:=.returning} cs) w2:=by
 obtain⟨n,t,h1,h2,h3,h4⟩:=h;obtain⟨m,a2,w2,t2,k1,k2,k3⟩:=U4 H hQ hk (fun x hx=>by rw[hda]at hx;cases hx) hX hl (fun t ht=>by rw[hs]at ht;cases ht) hC k cs t h3 h4;refine⟨a2,w2,k3.imp (fun⟨q1,q2⟩=>⟨q1,n+m,t2,?_,rfl,k1,k2⟩) fun⟨todo,q1,q2⟩=>⟨todo,q1,n+m,t2,?_,rfl,k1,k2⟩⟩
 ·rw[runNT_add,h1];exact q2
 ·rw[runNT_add,h1];exact q2
theorem LR.pieces(H:xI s P){N R:Act->World->Prop}{b:Frame}(hk:b.kind=.normal)(hl:s.grd b.fn=false)(hs:s.fs b.fn=[]){T:Code}{k:List Item}{cst:List Frame}{X:Prop}
  (Jp:∀a2 w2,a2.defers=[]->N a2 w2->LR P g₀ w₀ (G (b.at a2 (.code T::k)) cst) w2->X)(Jo:∀a2 w2 todo,a2.defers=[]->R a2 w2->LR P g₀ w₀ (G {b.at a2 todo with mode:=.returning} cst) w2->X):
  ∀(cs:List Code),(∀c∈cs,Sg.fin (s.items b.fn (some 0) [.code c])=true)->∀(a:Act) (w:World),a.defers=[]->LR P g₀ w₀ (G (b.at a (.code (y8 cs T)::k)) cst) w->wpL P N R cs a w->X
 |[],_,a,w,hd,h,hw=>Jp a w hd hw h
 |c::cs,hc,a,w,hd,h,hw=>by
  have h1:LR P g₀ w₀ (G (b.at a (.code c:: .code (y8 cs T)::k)) cst) w:=h.step (by
   show stepG P true (G (b.at a (.code (.seq c (y8 cs T))::k)) cst) w=_;rw[stepG_seq]) rfl
  obtain⟨a2,w2,hz⟩:=LR.code H (fun e a w h=>by cases e<;>first|exact .inl rfl|exact .inr rfl|exact h.elim) h1 hk hd (hc c (by simp)) hl hs hw;rcases hz with⟨q1,q2⟩|⟨todo,q1,q2⟩
  ·obtain⟨e1,e2⟩:=q1;exact LR.pieces H hk hl hs Jp Jo cs (fun c' h=>hc c' (by simp[h])) a2 w2 e1 q2 e2
  ·obtain⟨e1,e2⟩:=q1;exact Jo a2 w2 todo e1 e2 q2
end
end Cc
namespace Cc
open Go.Conc
instance aE4(wr:Bool)(a:Addr):Nm wr (mark (.acquire a)):=⟨⟨by simp,by simp⟩,trivial⟩
instance ap3(wr:Bool)(a:Addr):Nm wr (mark (.releaseMerge a)):=⟨⟨by simp,by simp⟩,trivial⟩
instance bK0(wr:Bool)(zZ9:Array Value):Nm wr (Extern.Race.at_ zZ9):=⟨by
 unfold Extern.Race.at_;split<;>exact Nm.out⟩
theorem GN(zZ9:Array Value):NM true (Extern.Race.marked .acquire zZ9)/\NM true (Extern.Race.marked .releaseMerge zZ9):=
 ⟨NM.bind Nm.out fun _=>NM.bind Nm.out fun _=>Nm.out,NM.bind Nm.out fun _=>NM.bind Nm.out fun _=>Nm.out⟩
instance bp9(wr:Bool)(t:Extern.Atomic.T)(a:Addr):Nm wr (Extern.Atomic.read t a):=⟨by
 unfold Extern.Atomic.read
 repeat' (first|exact Nm.out|(refine NM.bind ?_ fun _=>?_)|(refine NM.ite ?_ ?_)|split)⟩
theorem Rq{α:Type}{wr:Bool}{p:α->Sem Bool}(h:∀a,NM wr (p a)):∀l:List α,NM wr (l.anyM p)
 |[]=>by simp only[List.anyM];exact Nm.out
 |a::l=>by
  simp only[List.anyM];refine NM.bind (h a) fun b=>?_
  cases b with
  |true=>exact Nm.out
  |false=>exact Rq h l
instance aC1(wr:Bool)(a:Addr):Nm wr (Extern.Atomic.touchesFrozen a):=⟨by
 unfold Extern.Atomic.touchesFrozen
 repeat' (first|exact Nm.out|exact Rq (fun _=>Nm.out) _|(refine NM.bind ?_ fun _=>?_)|(refine NM.ite ?_ ?_)|split|dsimp only)⟩
theorem oP(zZ9:Array Value):zZ9=#[]\/(∃x,zZ9=#[x])\/(∃x y,zZ9=#[x,y])\/(∃x y z,zZ9=#[x,y,z])\/∃x y z u l,zZ9=⟨x::y::z::u::l⟩:=by
 obtain⟨l⟩:=zZ9
 match l with
 |[]=>exact .inl rfl
 |[x]=>exact .inr (.inl ⟨x,rfl⟩)
 |[x,y]=>exact .inr (.inr (.inl ⟨x,y,rfl⟩))
 |[x,y,z]=>exact .inr (.inr (.inr (.inl ⟨x,y,z,rfl⟩)))
 |x::y::z::u::l=>exact .inr (.inr (.inr (.inr ⟨x,y,z,u,l,rfl⟩)))
theorem PL(zZ9:Array Value):NM true (Extern.Sync.canSpin zZ9):=by
 rcases oP zZ9 with rfl|⟨x,rfl⟩|⟨x,y,rfl⟩|⟨x,y,z,rfl⟩|⟨x,y,z,u,l,rfl⟩<;>(try exact trivial)
 cases x<;>first
  |exact trivial
  |(show NM true (if _ then _ else _)
    refine NM.ite Nm.out (NM.bind Nm.out fun _=>Nm.out))
theorem UR(zZ9:Array Value):NM true (Extern.Sync.nothing zZ9):=trivial
theorem XD(h:String->Halt)(hh:∀m,OkH (h m))(zZ9:Array Value):NM true (Extern.Sync.die h zZ9):=by
 rcases oP zZ9 with rfl|⟨x,rfl⟩|⟨x,y,rfl⟩|⟨x,y,z,rfl⟩|⟨x,y,z,u,l,rfl⟩<;>(try exact trivial)
 cases x<;>first
  |exact trivial
  |(show NM true (match String.fromUTF8? _ with|some m=>_|none=>_)
    split
    ·exact hh _
    ·exact trivial)
theorem aD7(t:Extern.Atomic.T)(zZ9:Array Value):NM true (Extern.Atomic.casT t zZ9):=by
 rcases oP zZ9 with rfl|⟨x,rfl⟩|⟨x,y,rfl⟩|⟨x,y,z,rfl⟩|⟨x,y,z,u,l,rfl⟩<;>(try exact trivial)
 unfold Extern.Atomic.casT;refine NM.bind (x:=asAddr x) Nm.out fun a=>?_
 repeat' (first|exact Nm.out|(refine NM.bind ?_ fun _=>?_)|(refine NM.ite ?_ ?_)|split|dsimp only)
theorem UK(k:IntKind)(b:Bool)(zZ9:Array Value):NM true (Extern.Atomic.update (Op.intArith .add) k b zZ9):=by
 rcases oP zZ9 with rfl|⟨x,rfl⟩|⟨x,y,rfl⟩|⟨x,y,z,rfl⟩|⟨x,y,z,u,l,rfl⟩<;>(try exact trivial)
 unfold Extern.Atomic.update;refine NM.bind (x:=asAddr x) Nm.out fun a=>?_
 repeat' (first|exact Nm.out|(refine NM.bind ?_ fun _=>?_)|(refine NM.ite ?_ ?_)|split|dsimp only)
theorem XB(t:Extern.Atomic.T)(zZ9:Array Value):NM true (Extern.Atomic.loadT t zZ9):=by
 rcases oP zZ9 with rfl|⟨x,rfl⟩|⟨x,y,rfl⟩|⟨x,y,z,rfl⟩|⟨x,y,z,u,l,rfl⟩<;>(try exact trivial)
 unfold Extern.Atomic.loadT;exact NM.bind (x:=asAddr x) Nm.out fun a=>Nm.out
theorem UO(zZ9:Array Value):NM true (Extern.Atomic.storeT zZ9):=by
 rcases oP zZ9 with rfl|⟨x,rfl⟩|⟨x,y,rfl⟩|⟨x,y,z,rfl⟩|⟨x,y,z,u,l,rfl⟩<;>(try exact trivial)
 unfold Extern.Atomic.storeT;exact NM.bind (x:=asAddr x) Nm.out fun a=>NM.bind Nm.out fun _=>Nm.out
theorem Lp(zZ9:Array Value):NM true (Extern.Sync.count zZ9):=by
 unfold Extern.Sync.count
 repeat' (first|exact Nm.out|(refine NM.bind ?_ fun _=>?_)|split)
section
variable{P:Program}
theorem SL(zZ9:Array Value)(d:Nat):Lv P (Extern.Sync.semacquire zZ9) d d/\Lv P (Extern.Sync.semrelease zZ9) d d:=by
 have en:Lv P (do mark .enable;Pure.pure Extern.Sync.none_:Sem Value) (d+1) d:=(rfl:d+1-1=d);refine⟨?_,?_⟩
 ·show Lv P (Extern.Sync.count zZ9>>=fun p=>_) (d+1) d;refine Lv.bind ((Lp zZ9).lv (d+1)) fun p=>?_
  obtain⟨a,n⟩:=p;dsimp only;split
  ·exact trivial
  ·exact Lv.bind ((Nm.out:NM true (store a (.int .u32 (n-1)) .atomic)).lv _) fun _=>en
 ·show Lv P (Extern.Sync.count zZ9>>=fun p=>_) (d+1) d;refine Lv.bind ((Lp zZ9).lv (d+1)) fun p=>?_
  obtain⟨a,n⟩:=p;exact Lv.bind ((Nm.out:NM true (Op.intArith .add .u32 n 1)).lv _) fun v=>Lv.bind ((Nm.out:NM true (store a v .atomic)).lv _) fun _=>en
theorem EJ(zZ9:Array Value)(d:Nat):Lv P ((fun _=>do mark .disable;Pure.pure Extern.Race.none_:Array Value->Sem Value) zZ9) d (d+1)/\Lv P ((fun _=>do mark .enable;Pure.pure Extern.Race.none_:Array Value->Sem Value) zZ9) d (d-1):=⟨rfl,rfl⟩
theorem gy{f:FuncId}{fn:Func}{e:Array Value->Sem Value}(hf:P.funcs[f]?=some fn)(hname:(fn.name== "runtime.NumGoroutine")=false)(hb:fn.body.isNone=true)(hn:Extern.findNext fn=none)(he:Extern.find fn=some e)(zZ9:Array Value){d d':Nat}(h:Lv P (e zZ9) d d'):
  Lv P (callFunc f zZ9) d d'/\∀w nx w',(callFunc f zZ9).run P w=.ok nx w'->∃v,nx=.value v:=by
 refine⟨?_,fun w nx w' h=>?_⟩
 ·have h1:¬fn.name= "runtime.NumGoroutine" :=by simpa using hname
  unfold callFunc;show Lv P (match P.funcs[f]? with
   |none=>_
   |some fn=>_) d d'
  simp only[hf];rw[if_neg (by simpa using h1),if_pos hb];simp only[hn,he];show Lv P (do let v<-e zZ9;Pure.pure (Next.value v)) d d';exact Lv.bind h fun _=>rfl
 ·rw[run_callFunc_extern hf hname hb hn he]at h;cases hx:(e zZ9).run P w with
  |halt hh w1=>rw[hx]at h;cases h
  |ok v w1=>rw[hx]at h;simp at h;exact⟨v,h.1.symm⟩
end
end Cc
end Go.Proofs.Ytpfpokjaeffbjab
