/- Part of the proof: Sa3, Sa4, Lone, Run, Deal, Leave, DealsWalk, KnLib, KnDeal, Check, Order. -/
import Derived.Test.YtpfpokjaeffbjaaKk0
import Derived.Test.YtpfpokjaeffbjaaKk11
import Derived.DyingOn
import Derived.Test.YtpfpokjaeffbjaaKk3
import Derived.Conc.Fork
import Derived.Test.YtpfpokjaeffbjaaKk5
import Derived.Test.YtpfpokjaeffbjaaKk10
import Derived.Test.YtpfpokjaeffbjaaKk6
import Derived.Deep.RegionLaw
import Derived.Conc.LeavingOf
import Derived.Conc.HoldsTime
import Derived.Lib.SmallJoins
import Derived.OpenShut
import Derived.Test.YtpfpokjaeffbjaaKk1
import Derived.RowKit
import Derived.Test.YtpfpokjaeffbjaaRows
import Derived.BigQuiet
set_option linter.unusedVariables false
set_option linter.unusedSimpArgs false
set_option maxRecDepth 100000
set_option maxHeartbeats 16000000
open Go renaming results→bR
open Go.Region renaming wanted→bg
open Go.GStep renaming after→dx
open Nat renaming le_trans→aY,le_refl→aH,lt_or_ge→bw
open Bool renaming and_eq_true→aD
open List renaming range→bq,cons_append→bK,map_append→cB,getElem?_eq_getElem→aN
open Array renaming replicate→bN,getD_eq_getD_getElem?→bB
open Go.Frame renaming finish_at→dI,enter→bO
open Go.MemOp renaming ofEvents→aA
open Go.Proofs.Try renaming prog→dS
open Go.Value renaming int→bU,oneCell'→cw
open Go.World renaming ownsRow_nil→cy,cell?_setCell_other→bX
open Int renaming eq_ofNat_of_zero_le→cn
namespace Go.Proofs.Ytpfpokjaeffbjaa
open Go renaming World→ae,Value→af,Goroutine→ah,Frame→ai,TypeId→aj,FuncId→ak,Program→au,undef→av,execOp→ax
open Go.Lib renaming hid→ay
namespace Cc
open Go.Conc
section
instance am3(wr:Bool)(fn:Func)(xs:Array af):Nm wr (bR fn xs):=⟨by
 unfold bR;refine NM.bind (NT (fun r=>?_) _) fun _=>Nm.out;cases r with
 |tmp t=>exact Nm.out
 |cell x t=>exact NM.bind Nm.out fun _=>Nm.out⟩
section
variable(s:Sg)
inductive Ld(Ks K:List Item)(w:ae)(h:Nat):Nat->ai->ai->Prop
 |run {b:ai} {a:Act} (X:List Item) (d:Nat) (hd:∀x∈a.defers,CD s x) (hX:Sg.fin (s.items b.fn (some d) X)=true) (hs:SI s h w b.fn a.tmps) (hh:h<=w.heap.size) (hp:h=0\/s.uI b.fn=true) (hz:h=0\/a.defers=[]):Ld Ks K w h d (b.at a (X++Ks)) (b.at a (X++K))
 |ret {b:ai} {a:Act} {todo todo':List Item} (hd:∀x∈a.defers,CD s x) (hh:h<=w.heap.size) (hz:h=0\/a.defers=[]):Ld Ks K w h 0 {b.at a todo with mode:=.returning} {b.at a todo' with mode:=.returning}
inductive xq(Ks K:List Item)(κ:CallKind):ae->Nat->List ai->List ai->Prop
 |one {w:ae} {h L:Nat} {f f':ai} (hf:Ld s Ks K w h L f f') (hk:f.kind=κ) (hS:κ=.deferred->s.ok f.fn=true):xq Ks K κ w L [f] [f']
 |call {w:ae} {h d L:Nat} {f f' c c':ai} {r r':List ai} (hf:Ld s [] [] w h d f f') (hS:s.ok f.fn=true) (hk:f.kind=.normal) (hc:∀x∈c.defers,CD s x) (hp:∀v w2,kH h w w2->xq Ks K κ w2 L (c.finish v::r) (c'.finish v::r')):xq Ks K κ w (d+L) (f::c::r) (f'::c'::r')
 |Q5 {w:ae} {h d L:Nat} {f f' c c':ai} {r r':List ai} (hf:Ld s [] [] w h d f f') (hS:s.ok f.fn=true) (hk:f.kind=.deferred) (hm:c.mode=.returning) (hm':c'.mode=.returning) (hp:∀w2,kH h w w2->xq Ks K κ w2 L (c::r) (c'::r')):xq Ks K κ w (d+L) (f::c::r) (f'::c'::r')
end
section
variable{s:Sg}{P:au}{Ks K:List Item}{κ:CallKind}{L d h₀:Nat}{f f':ai}{base base':List ai}{w:ae}
theorem Ld.defs(h:Ld s Ks K w h₀ d f f'):(∀x∈f.defers,CD s x)/\∀c,f.mode≠ .panicking c:=by
 cases h with
 |run X d hd hX hs _ _ _=>exact⟨hd,fun c e=>by cases e⟩
 |ret hd _ _=>exact⟨hd,fun c e=>by cases e⟩
theorem Ld.zero(h:Ld s Ks K w h₀ d f f')(hm:f.mode=.returning):d=0:=by
 cases h with
 |run X d hd hX hs _ _ _=>cases hm
 |ret hd _ _=>rfl
theorem Ld.low(h:Ld s Ks K w h₀ d f f'):h₀<=w.heap.size:=by
 cases h with
 |run X d hd hX hs hh _ _=>exact hh
 |ret hd hh _=>exact hh
theorem xq.bare(h:xq s Ks K κ w L (f::base) (f'::base')):∀c∈f::base,∀x∈c.defers,CD s x:=by
 generalize hl:f::base=l at h;generalize hl':f'::base'=l' at h;clear hl hl';induction h with
 |one h hk _=>intro c hc;simp at hc;subst hc;exact h.defs.1
 |call h hS hk hc hp ih=>
  intro c hm;rcases List.mem_cons.1 hm with rfl|hm
  ·exact h.defs.1
  ·rcases List.mem_cons.1 hm with rfl|hm
   ·exact hc
   ·exact ih av _ (.refl _) c (by simp[hm])
 |Q5 h hS hk hm hm' hp ih=>
  intro c hmm;rcases List.mem_cons.1 hmm with rfl|hmm
  ·exact h.defs.1
  ·exact ih _ (.refl _) c hmm
def aG0(P:au)(f:ai)(base:List ai)(w:ae):Prop:=∀tail,(stepG P true (G f (base++tail)) w).okD P\/(∃g w1 es,stepG P true (G f (base++tail)) w=.go g w1 es/\g.status=.blocked/\g.dying=none)\/
 ∃vs w1 es,stepG P true (G f (base++tail)) w=.go (G (f.raise vs) (base++tail)) w1 es/\∀e∈vs,e.recovered=false
def VL(s:Sg)(P:au)(Ks K:List Item)(κ:CallKind)(L:Nat)(f:ai)(base:List ai)(f':ai)(base':List ai)(w:ae):Prop:=
 ∃(g:ai) (b2:List ai) (g':ai) (M0:List ai) (w1:ae) (es:Array Event),(∀main tail,stepG P main (G f (base++tail)) w=.go (G g (b2++tail)) w1 es)/\(∀main tail,stepG P main (G f' (base'++tail)) w=.go (G g' (M0++tail)) w1 es)/\
  xq s Ks K κ w1 (deafBehind L es) (g::b2) (g'::M0)
theorem GV(fr:ai)(cs:List ai)(dy:Option Dying)(m:String)(w:ae):(endFatal P fr cs dy m w).okD P:=by
 unfold endFatal;dsimp only;split
 ·exact dieOf_okD _ _ _ _ _
 ·intro v hv;cases hv
 ·intro v hv;cases hv
theorem QZ(H:vR s P)(fr:ai)(cs:List ai)(g:Nat)(w:ae):(early P fr cs none g w).okD P:=by
 unfold early;simp only[H.early.1,H.early.2 g];intro v hv;cases hv
theorem S7(H:vR s P){b:ai}{a:Act}{ops:Array Oper}{i:Nat}{rest:List Nat}{k:List Item}{o:Oper}(hk:b.kind≠ .early)(ho:ops[i]?=some o)(hw:bg o (yielded ops a.tmps)=true){hh:Halt}{w1:ae}(hrun:(ax a.eval o).run P w=.halt hh w1)(hok:Y4 hh):
  aG0 P (b.at a (.inRegion ops (i::rest)::k)) base w:=by
 intro tail;have e:=stepG_oper (P:=P) (main:=true) (b:=b) (rest:=rest) (k:=k) (cs:=base++tail) (w:=w) ho hw;have hk1:(b.kind==CallKind.early)=false:=by simpa using hk
 rw[e];cases hh with
 |panic v=>
  refine .inr (.inr ⟨[{v,recovered:=false}],w1,listed P b.fn a o w,?_,by simp⟩);simp[stepG.apply,hrun,G,Frame.at,hk1,dx,listed]
 |goexit=>exact hok.elim
 |waiting=>exact hok.elim
 |blocked=>exact .inr (.inl ⟨_,_,_,by simp[stepG.apply,hrun,dx,Frame.at]<;>exact⟨rfl,rfl,rfl⟩,rfl,rfl⟩)
 |fatal m=>
  refine .inl ?_;simp only[stepG.apply,Sem.runT_eq,hrun,if_true];exact GStep.okD_after (GV _ _ _ _ _)
 |throw m=>
  refine .inl ?_;simp only[stepG.apply,Sem.runT_eq,hrun,if_true];exact GStep.okD_after (dieOf_okD _ _ _ _ _)
 |unsupported u=>
  refine .inl ?_;cases u<;>first
   |(simp only[stepG.apply,Sem.runT_eq,hrun,if_true];exact GStep.okD_after (QZ H _ _ _ _))
   |(simp only[stepG.apply,Sem.runT_eq,hrun,if_true];refine GStep.okD_after ?_;intro v hv;cases hv)
 |_=>
  refine .inl ?_;simp only[stepG.apply,Sem.runT_eq,hrun,if_true];refine GStep.okD_after ?_;intro v hv;cases hv
theorem mq{main:Bool}{b:ai}{a:Act}{cs:List ai}{fn:Func}{todo:List Item}{c:ai}{v:af}{w':ae}(hn:b.kind=.normal\/(b.kind=.deferred/\∀e older,c.mode=.panicking (e::older)->e.recovered=false))(hd:a.defers=[])(hf:P.funcs[b.fn]?=some fn)
  (hr:(results fn a.tmps).run P w=.ok v w'):
  stepG P main (G {b.at a todo with mode:=.returning} (c::cs)) w=.go (G (if b.kind=.normal then c.finish v else c) cs) w' (seen P b.fn ((results fn a.tmps).events P w #[])):=by
 rcases hn with hn|⟨hn,hm⟩
 ·simp[G,stepG,unwind,doReturn,Frame.at,hn,hd,hf,hr,dx]
 ·have e:(match c.mode with
    |.panicking ({recovered:=true, .. }::older)=>
     match older.dropWhile (!·.goexit)with
     |[]=>{c with mode:=.returning}
     |rest=>{c with mode:=.panicking rest}
    |_=>c)=c:=by
   split
   ·rename_i hc;cases hm _ _ hc
   ·rfl
  have hdr:∀(fr:ai) (w:ae),fr.kind=.deferred->doReturn P main fr (c::cs) none v w=.go (G c cs) w #[]:=fun fr w hk=>by
   unfold doReturn;simp only[hk];exact congrArg (fun x=>GStep.go (G x cs) w #[]) e
  have e1:stepG P main (G {b.at a todo with mode:=.returning} (c::cs)) w=dx (seen P b.fn ((results fn a.tmps).events P w #[])) (doReturn P main {b.at a todo with mode:=.returning} (c::cs) none v w'):=by simp[G,stepG,unwind,Frame.at,hd,hf,hr]
  rw[e1,hdr {b.at a todo with mode:=.returning} w' hn,if_neg (by rw[hn];simp)];simp[dx]
theorem wB{main:Bool}{b:ai}{a:Act}{w':ae}{cs:List ai}{fn:Func}{todo:List Item}{h:Halt}(hd:a.defers=[])(hf:P.funcs[b.fn]?=some fn)
  (hr:(results fn a.tmps).run P w=.halt h w'):∃o es,stepG P main (G {b.at a todo with mode:=.returning} cs) w=.ended o w' es/\∀v,o≠ .done v:=by
 cases h<;>exact⟨_,_,by simp[G,stepG,unwind,Frame.at,hd,hf,hr,dx]<;>exact⟨rfl,rfl⟩,fun v hv=>by cases hv⟩
theorem Q6(L:Nat):deafBehind L #[]=L:=rfl
theorem Qz{x:Sem Next}{d₁:Nat}(h:Lv P x L d₁){nx:Next}{w':ae}(hr:x.run P w=.ok nx w')(fn:ak):deafBehind L (seen P fn (x.events P w #[]))=d₁:=by
 obtain⟨k1,k2⟩:=h.run (w:=w) (es:=#[]) (Et:=L) rfl (by simp);rw[Sem.runT_eq]at k1;obtain⟨k3,k4⟩:=k1 nx w' hr;rw[Fy k4];exact k3
theorem qV{α:Type}{x:Sem α}{wr:Bool}(h:NM wr x){nx:α}{w':ae}(hr:x.run P w=.ok nx w')(fn:ak)(L:Nat):deafBehind L (seen P fn (x.events P w #[]))=L:=by
 obtain⟨k1,k2⟩:=(h.lv (P:=P) L).run (w:=w) (es:=#[]) (Et:=L) rfl (by simp);rw[Sem.runT_eq]at k1;obtain⟨k3,k4⟩:=k1 nx w' hr;rw[Fy k4];exact k3
theorem XG{x:Sem Next}{d₁:Nat}(h:Lv P x L d₁){hh:Halt}{w':ae}(hr:x.run P w=.halt hh w'):Y4 hh:=by
 obtain⟨k1,k2⟩:=h.run (w:=w) (es:=#[]) (Et:=L) rfl (by simp);rw[Sem.runT_eq]at k2;exact k2 hh w' hr
theorem xq.cast{L':Nat}{l l':List ai}(h:xq s Ks K κ w L l l')(e:L=L'):xq s Ks K κ w L' l l':=e ▸ h
theorem kH.le{h:Nat}{w w2:ae}(e:kH h w w2)(hh:h<=w.heap.size):h<=w2.heap.size:=by
 rcases e with rfl|e
 ·exact Nat.zero_le _
 ·exact aY hh e.1
theorem Rg{o:Oper}{a:Act}{fn:ak}{d':Nat}(he:s.Kh fn o d=some d'){g:ak}{ik:Array af}{w':ae}(hrun:(ax a.eval o).run P w=.ok (.enter g ik) w'):s.bare fn o:=by
 have hd:=(uJ he).1;have hc:∃c,o.op=.call c:=by
  unfold ax at hrun;cases hop:o.op<;>rw[hop]at hrun<;>first
   |exact⟨_,rfl⟩
   |(exfalso;obtain⟨v,h,-⟩:=oQ hrun;cases h;done)
   |(exfalso;obtain⟨h,-⟩:=BL hrun;cases h;done)
   |(exfalso;cases hrun;done)
   |(exfalso;unfold Sg.Kh at he;rw[hop]at he;split at he<;>(try(cases he;done));done)
   |skip
  case pick c x y=>
   exfalso;have hrun:(do pure (.value (if<-asBool (a.eval c)then a.eval x else a.eval y)):Sem Next).run P w=.ok (.enter g ik) w':=hrun;rw[Sem.run_bind]at hrun;cases hx:(asBool (a.eval c)).run P w with
   |halt e w1=>rw[hx]at hrun;cases hrun
   |ok v w1=>rw[hx]at hrun;simp at hrun
  case nilCheck x=>
   exfalso;have hrun:(ax a.eval o).run P w=.ok (.enter g ik) w':=by unfold ax;rw[hop];exact hrun
   obtain⟨v,h⟩:=(Gp (P:=P) hop (a:=a) (wr:=true)).2 _ _ _ hrun;cases h
  case defer c=>
   exfalso;have hrun:(do pure (.defer (<-Go.resolve a.eval c o.type)):Sem Next).run P w=.ok (.enter g ik) w':=hrun;rw[Sem.run_bind]at hrun;cases hx:(Go.resolve a.eval c o.type).run P w with
   |halt e w1=>rw[hx]at hrun;cases hrun
   |ok v w1=>rw[hx]at hrun;simp at hrun
 obtain⟨c,hop⟩:=hc;intro t ht;unfold Sg.oJ at hd;rw[ht,hop]at hd;simp only[aD,Bool.or_eq_true,Bool.not_eq_true',Bool.false_eq_true,or_false]at hd;obtain⟨⟨⟨d0,d1⟩,d2⟩,d3⟩:=hd;refine⟨d0,by simpa using d1,?_⟩;simp only[List.contains_eq_mem,decide_eq_false_iff_not]at d2 d3;simp[d2,d3]
theorem Nv(H:vR s P)(hκ:κ=.normal\/κ=.deferred)(Uz:(Ks=[]/\K=[])\/Ks=[fK])(h:xq s Ks K κ w L (f::base) (f'::base')):
  VL s P Ks K κ L f base f' base' w\/(base=[]/\f.mode=.returning/\f.defers=[])\/aG0 P f base w:=by
 obtain⟨d,R,iu,si,h0,hf,hL,JX,hk,reb⟩:∃d R iu si h0,Ld s iu si w h0 d f f'/\L=d+R/\((iu=[]/\si=[])\/iu=[fK])/\(f.kind=.normal\/f.kind=.deferred)/\
   ∀d' g g' w2,g.fn=f.fn->g.kind=f.kind->Ld s iu si w2 h0 d' g g'->kH h0 w w2->xq s Ks K κ w2 (d'+R) (g::base) (g'::base'):=by
  cases h with
  |one h hk hS=>exact⟨L,0,Ks,K,_,h,rfl,Uz,hk ▸ hκ,fun d' g g' w2 e1 e hg _=>(xq.one hg (e.trans hk) fun x=>by rw[e1];exact hS x).cast (by omega)⟩
  |call h hS hk hc hp=>exact⟨_,_,[],[],_,h,rfl,.inl ⟨rfl,rfl⟩,.inl hk,fun d' g g' w2 e1 e2 hg hx=>.call hg (by rw[e1];exact hS) (e2.trans hk) hc fun v w3 hx2=>hp v w3 (hx.trans hx2)⟩
  |Q5 h hS hk hm hm' hp=>exact⟨_,_,[],[],_,h,rfl,.inl ⟨rfl,rfl⟩,.inr hk,fun d' g g' w2 e1 e2 hg hx=>.Q5 hg (by rw[e1];exact hS) (e2.trans hk) hm hm' fun w3 hx2=>hp w3 (hx.trans hx2)⟩
 have CN:f.kind≠ .early:=by rcases hk with e|e<;>rw[e]<;>simp
 have ctl:∀{g g':ai},(∀main tail,stepG P main (G f (base++tail)) w=.go (G g (base++tail)) w #[])->(∀main tail,stepG P main (G f' (base'++tail)) w=.go (G g' (base'++tail)) w #[])->xq s Ks K κ w L (g::base) (g'::base')->VL s P Ks K κ L f base f' base' w:=
  fun h1 h2 h3=>⟨_,base,_,base',w,#[],h1,h2,h3⟩
 cases hf with
 | @ret b a todo todo' nD hh hz=>
  cases mg:a.defers with
  |cons x ds=>
   obtain⟨g,ik,rfl,hg,hgn⟩:=nD x (by rw[mg];simp);obtain⟨n1,n2,n3⟩:=rM hgn;obtain⟨c1,c2,c3⟩:=pD hg;obtain⟨fn,code,f1,f2,f3,f4,-⟩:=H.body g c1;have e:∀(td:List Item) (main:Bool) (cs:List ai),stepG P main (G {b.at a td with mode:=.returning} cs) w=.go (G ((baseD g).at {tmps:=ik++bN (fn.ntmps-ik.size) av,defers:=[]} [.code code]) ({b.at ⟨a.tmps,ds⟩ td with mode:=.returning}::cs)) w #[]:=fun td main cs=>stepG_unwind_enter mg f1 f3 f2;refine .inl ⟨_,{b.at ⟨a.tmps,ds⟩ todo with mode:=.returning}::base,_,{b.at ⟨a.tmps,ds⟩ todo' with mode:=.returning}::base',w,#[],fun main tail=>e todo main (base++tail),fun main tail=>e todo' main (base'++tail),?_⟩;have hrow:∀w2,kH 0 w w2->xq s Ks K κ w2 L ({b.at ⟨a.tmps,ds⟩ todo with mode:=.returning}::base) ({b.at ⟨a.tmps,ds⟩ todo' with mode:=.returning}::base'):=fun w2 hx=>by
    have h0z:h0=0:=by
     rcases hz with h|h
     ·exact h
     ·rw[mg]at h;cases h
    subst h0z;exact(reb 0 {b.at ⟨a.tmps,ds⟩ todo with mode:=.returning} {b.at ⟨a.tmps,ds⟩ todo' with mode:=.returning} w2 rfl rfl (.ret (b:=b) (a:=⟨a.tmps,ds⟩) (fun x hx=>nD x (by rw[mg];simp[hx])) (Nat.zero_le _) (.inl rfl)) hx).cast (L':=L) (by omega)
   refine(xq.Q5 (h:=0) (d:=s.en g) (L:=L) (Ld.run (b:=baseD g) (a:=⟨ik++bN (fn.ntmps-ik.size) av,[]⟩) [.code code] (s.en g) (by simp) f4 ⟨fun t ht=>?_,fun t ht=>?_,fun t ht=>?_⟩ (Nat.zero_le _) (.inl rfl) (.inl rfl)) c1 rfl rfl rfl hrow).cast (L':=deafBehind L #[]) (by rw[c3,Q6];omega)
   ·rw[show(baseD g).fn=g from rfl,c2]at ht;simp at ht
   ·rw[show(baseD g).fn=g from rfl,n1]at ht;simp at ht
   ·rw[show(baseD g).fn=g from rfl,n2,n3]at ht;simp at ht
  |nil=>
   cases h with
   |one h hk _=>exact .inr (.inl ⟨rfl,rfl,mg⟩)
   | @call _ h₁ d₁ L₁ _ _ c c' r r' h hS hk hc hp=>
    obtain⟨fn,code,f1,-⟩:=H.body _ hS;have f1:P.funcs[b.fn]?=some fn:=f1;have hk:b.kind=.normal:=hk;cases hres:(bR fn a.tmps).run P w with
    |halt hh w1=>
     refine .inr (.inr fun tail=>.inl ?_);obtain⟨o,es,e,ho⟩:=wB (main:=true) (todo:=todo) (cs:=c::r++tail) mg f1 hres;rw[e];exact ho
    |ok v w1=>
     refine .inl ⟨c.finish v,r,c'.finish v,r',w1,seen P b.fn ((bR fn a.tmps).events P w #[]),fun main tail=>?_,fun main tail=>?_,?_⟩
     ·have:=mq (main:=main) (todo:=todo) (cs:=r++tail) (c:=c) (.inl hk) mg f1 hres
      rw[if_pos hk]at this;exact this
     ·have:=mq (main:=main) (todo:=todo') (cs:=r'++tail) (c:=c') (.inl hk) mg f1 hres
      rw[if_pos hk]at this;exact this
     ·rw[qV (Nm.out:NM false (bR fn a.tmps)) hres];have h0:d₁=0:=h.zero rfl;have hx:kH h₁ w w1:=by
       have:=NM.ext (Nm.out:NM false (bR fn a.tmps)) hres
       exact .of this h.low
      exact(hp v w1 hx).cast (by omega)
   | @Q5 _ h₁ d₁ L₁ _ _ c c' r r' h hS hk hm hm' hp=>
    obtain⟨fn,code,f1,-⟩:=H.body _ hS;have f1:P.funcs[b.fn]?=some fn:=f1;have hk:b.kind=.deferred:=hk;cases hres:(bR fn a.tmps).run P w with
    |halt hh w1=>
     refine .inr (.inr fun tail=>.inl ?_);obtain⟨o,es,e,ho⟩:=wB (main:=true) (todo:=todo) (cs:=c::r++tail) mg f1 hres;rw[e];exact ho
    |ok v w1=>
     refine .inl ⟨c,r,c',r',w1,seen P b.fn ((bR fn a.tmps).events P w #[]),fun main tail=>?_,fun main tail=>?_,?_⟩
     ·have:=mq (main:=main) (todo:=todo) (cs:=r++tail) (c:=c) (.inr ⟨hk,fun e older x=>by rw[hm]at x;cases x⟩) mg f1 hres
      rw[if_neg (by rw[hk];simp)]at this;exact this
     ·have:=mq (main:=main) (todo:=todo') (cs:=r'++tail) (c:=c') (.inr ⟨hk,fun e older x=>by rw[hm']at x;cases x⟩) mg f1 hres
      rw[if_neg (by rw[hk];simp)]at this;exact this
     ·rw[qV (Nm.out:NM false (bR fn a.tmps)) hres];have h0:d₁=0:=h.zero rfl;have hx:kH h₁ w w1:=by
       have:=NM.ext (Nm.out:NM false (bR fn a.tmps)) hres
       exact .of this h.low
      exact(hp w1 hx).cast (by omega)
 | @run b a X d nD hX hs hh hp hz=>
  have CN:b.kind≠ .early:=CN;have Ih:∀{d2:Nat} {a2:Act} (X2:List Item) {w2:ae},(∀x∈a2.defers,CD s x)->Sg.fin (s.items b.fn (some d2) X2)=true->SI s h0 w2 b.fn a2.tmps->kH h0 w w2->(h0=0\/a2.defers=[])->xq s Ks K κ w2 (d2+R) (b.at a2 (X2++iu)::base) (b.at a2 (X2++si)::base'):=
   fun{d2 a2} X2 {w2} h1 h2 h3 h4 h5=>reb _ _ _ w2 rfl rfl (.run X2 _ h1 h2 h3 (h4.le hh) hp h5) h4
  have top:∀{d2:Nat} (X2:List Item),(∀x∈a.defers,CD s x)->Sg.fin (s.items b.fn (some d2) X2)=true->SI s h0 w b.fn a.tmps->xq s Ks K κ w (d2+R) (b.at a (X2++iu)::base) (b.at a (X2++si)::base'):=
   fun X2 h1 h2 h3=>Ih X2 h1 h2 h3 (.refl _) hz
  have ret:d=0->∀{todo todo':List Item},xq s Ks K κ w L ({b.at a todo with mode:=.returning}::base) ({b.at a todo' with mode:=.returning}::base'):=fun h0' {t t'}=>
   (reb 0 {b.at a t with mode:=.returning} {b.at a t' with mode:=.returning} w rfl rfl (.ret (b:=b) (a:=a) nD hh hz) (.refl _)).cast (L':=L) (by rw[hL,h0'])
  have ay5:iu=[]\/iu=[fK]:=JX.imp (·.1) id;cases X with
  |nil=>
   rcases JX with⟨rfl,rfl⟩|rfl
   ·have h0:d=0:=by simpa [Sg.items,Sg.fin]using hX
    exact .inl (ctl (fun _ _=>stepG_end) (fun _ _=>stepG_end) (ret h0))
   ·refine .inr (.inr fun tail=>.inl ?_);obtain⟨u,hu⟩:∃u,stepG P true (G (b.at a ([]++[fK])) (base++tail)) w=.ended (.unsupported u ((b.at a [fK]).pos P)) w #[]:=by simp[G,stepG,stepG.exec,Frame.at,fK]
    rw[hu];intro v hv;cases hv
  |cons x X=>
   cases x with
   |code c=>
    cases c with
    |skip=>exact .inl (ctl (fun _ _=>stepG_skip) (fun _ _=>stepG_skip) ((top X nD hX hs).cast hL.symm))
    |label l=>exact .inl (ctl (fun _ _=>stepG_label) (fun _ _=>stepG_label) ((top X nD hX hs).cast hL.symm))
    |ret=>
     have h0:d=0:=by
      by_cases e:d=0
      ·exact e
      ·simp[Sg.items,Sg.code,Sg.fin,e]at hX
     exact .inl (ctl (fun _ _=>stepG_ret') (fun _ _=>stepG_ret') (ret h0))
    |seq c1 c2=>
     refine .inl (ctl (fun _ _=>stepG_seq) (fun _ _=>stepG_seq) ((top (.code c1:: .code c2::X) nD ?_ hs).cast hL.symm));rw[Sg.jN]at hX ⊢;simp only[Sg.code]at hX;cases h1:s.code b.fn c1 d with
     |none=>rw[h1]at hX;exact hX
     |some st=>
      rw[h1]at hX;cases st with
      |none=>exact hX
      |some d2=>
       show Sg.fin (s.items b.fn (some d2) (.code c2::X))=true;rw[Sg.jN];exact hX
    |block id c1=>
     refine .inl (ctl (fun _ _=>stepG_block) (fun _ _=>stepG_block) ((top (.code c1:: .inBlock id::X) nD ?_ hs).cast hL.symm));rw[Sg.jN]at hX ⊢;simp only[Sg.code]at hX;cases h1:s.code b.fn c1 d with
     |none=>rw[h1]at hX;exact hX
     |some st=>
      rw[h1]at hX;cases st with
      |none=>exact hX
      |some d2=>
       dsimp only at hX;show Sg.fin (s.items b.fn (some d2) (.inBlock id::X))=true;split at hX
       ·rename_i he;simp only[Sg.items];rw[if_pos (by simp at he;simp[he])];exact hX
       ·cases hX
    |loop c1=>
     refine .inl (ctl (fun _ _=>stepG_loop) (fun _ _=>stepG_loop) ((top (.code c1:: .inLoop c1::X) nD ?_ hs).cast hL.symm));rw[Sg.jN]at hX ⊢;simp only[Sg.code]at hX;split at hX
     ·rename_i he;simp only[aD,beq_iff_eq]at he;obtain⟨he,hb⟩:=he;subst he;have hX:Sg.fin (s.items b.fn none X)=true:=hX;cases h1:s.code b.fn c1 (s.en b.fn)with
      |none=>rw[h1]at hb;cases hb
      |some st=>
       show Sg.fin (s.items b.fn st (.inLoop c1::X))=true;have hst:(st==none||st==some (s.en b.fn))=true:=by
        rw[h1]at hb;cases st with
        |none=>rfl
        |some d2=>simpa [Pq]using hb
       cases st<;>(simp only[Sg.items];rw[if_pos (by rw[hst,hb];rfl)];exact hX)
     ·cases hX
    |cond q c1 c2=>
     rw[Sg.jN]at hX;have hXc:(∃t,q=.const (.bool t)/\Sg.fin ((s.code b.fn (if t then c1 else c2) d).bind fun st=>s.items b.fn st X)=true)\/Sg.fin ((uD (s.code b.fn c1 d) (s.code b.fn c2 d)).bind fun st=>s.items b.fn st X)=true:=by
      cases q with
      |const v=>cases v with
       |bool t=>
        refine .inl ⟨t,rfl,?_⟩;simp only[Sg.code]at hX;cases t<;>simpa using hX
       |_=>exact .inr (by simpa only[Sg.code]using hX)
      |_=>exact .inr (by simpa only[Sg.code]using hX)
     have dead:(∀t,a.eval q≠ .bool t)->aG0 P (b.at a (.code (.cond q c1 c2)::X++iu)) base w:=fun hn tail=>by
      refine .inl ?_;have he:(b.at a (.code (.cond q c1 c2)::(X++iu))).eval q=a.eval q:=Frame.eval_at _ _ _ _;simp only[Frame.at]at he;have:∃m,stepG P true (G (b.at a (.code (.cond q c1 c2)::X++iu)) (base++tail)) w=.ended (.stuck m ((b.at a (.code (.cond q c1 c2)::X++iu)).pos P)) w #[]:=by
       cases hq:a.eval q<;>first
        |exact absurd hq (hn _)
        |(rw[hq]at he;exact⟨_,by simp[G,stepG,stepG.exec,Frame.at,he];rfl⟩)
      obtain⟨m,e⟩:=this;rw[e];intro v hv;cases hv
     cases hq:a.eval q with
     |bool t=>
      refine .inl (ctl (fun _ _=>stepG_cond hq) (fun _ _=>stepG_cond hq) ((top (.code (if t then c1 else c2)::X) nD ?_ hs).cast hL.symm));rw[Sg.jN];rcases hXc with⟨t',rfl,h2⟩|hX
      ·have:t'=t:=by have h3:Value.bool t'=.bool t:=hq;cases h3;rfl
       subst this;exact h2
      ·cases t with
       |true=>exact Mk hX
       |false=>exact JE hX
     |_=>exact .inr (.inr (dead fun t e=>by rw[hq]at e;cases e))
    |exit id=>
     rw[Sg.jN]at hX;simp only[Sg.code]at hX;split at hX
     ·rename_i he;have he:d=s.en b.fn:=by simpa using he
      have hX:Sg.fin (s.items b.fn none X)=true:=hX;cases hx:exitTo id (X++iu)with
      |none=>
       refine .inr (.inr fun tail=>.inl ?_);have:∃m,stepG P true (G (b.at a (.code (.exit id)::X++iu)) (base++tail)) w=.ended (.stuck m ((b.at a (.code (.exit id)::X++iu)).pos P)) w #[]:=
        ⟨_,by simp[G,stepG,stepG.exec,Frame.at,hx]<;>exact rfl⟩
       obtain⟨m,e⟩:=this;rw[e];intro v hv;cases hv
      |some k'=>
       obtain⟨Y,rfl,h2,h3⟩:=Sg.J5 ay5 X none hX hx;exact .inl (ctl (fun _ _=>stepG_exit hx) (fun _ _=>stepG_exit (h2 si)) ((top Y nD (he ▸ h3) hs).cast hL.symm))
     ·cases hX
    |region id ops draw=>
     rw[Sg.jN]at hX;simp only[Sg.code]at hX;cases draw with
     |false=>
      refine .inl (ctl (fun _ _=>stepG_region) (fun _ _=>stepG_region) ((top (.inRegion ops (bq ops.size)::X) nD ?_ hs).cast hL.symm));rw[if_neg (by simp)]at hX;simp only[Sg.items];cases h1:s.Er b.fn ops (bq ops.size) d with
      |none=>rw[h1]at hX;exact hX
      |some d2=>rw[h1]at hX;exact hX
     |true=>
      rw[if_pos rfl]at hX;split at hX
      ·rename_i he;refine .inl ⟨_,base,_,base',{w with drawn:=w.drawn+1},#[],fun _ _=>stepG_region_draw,fun _ _=>stepG_region_draw,(Ih (w2:={w with drawn:=w.drawn+1}) (.inRegion ops _::X) nD ?_ (hs.mono ⟨aH _,fun _ _=>rfl⟩) (.of ⟨aH _,fun _ _=>rfl⟩ hh) hz).cast hL.symm⟩;simp only[Sg.items,Sg.Dd he];exact hX
      ·cases hX
    |_=>simp[Sg.items,Sg.code,Sg.fin]at hX
   |inBlock id=>
    refine .inl (ctl (fun _ _=>stepG_inBlock) (fun _ _=>stepG_inBlock) ?_);simp only[Sg.items]at hX;split at hX
    ·rename_i he;have he:d=s.en b.fn:=by simpa using he
     exact(top X nD (he ▸ hX) hs).cast hL.symm
    ·cases hX
   |inLoop c=>
    refine .inl (ctl (fun _ _=>stepG_inLoop) (fun _ _=>stepG_inLoop) ((top (.code c:: .inLoop c::X) nD ?_ hs).cast hL.symm));simp only[Sg.items]at hX;split at hX
    ·rename_i he;simp only[aD]at he;obtain⟨he,hb⟩:=he;have he:d=s.en b.fn:=by simpa using he
     subst he;rw[Sg.jN];cases h1:s.code b.fn c (s.en b.fn)with
     |none=>rw[h1]at hb;cases hb
     |some st=>
      show Sg.fin (s.items b.fn st (.inLoop c::X))=true;have hst:(st==none||st==some (s.en b.fn))=true:=by
       rw[h1]at hb;cases st with
       |none=>rfl
       |some d2=>simpa [Pq]using hb
      cases st<;>(simp only[Sg.items];rw[if_pos (by rw[hst,hb];rfl)];exact hX)
    ·cases hX
   |inRegion ops l=>
    cases l with
    |nil=>exact .inl (ctl (fun _ _=>stepG_region_end) (fun _ _=>stepG_region_end) ((top X nD (by simpa only[Sg.items,Sg.Er]using hX) hs).cast hL.symm))
    |cons i rest=>
     cases ho:ops[i]? with
     |none=>
      have st:∀(k:List Item) (main:Bool) (cs:List ai),stepG P main (G (b.at a (.inRegion ops (i::rest)::k)) cs) w=.go (G (b.at a (.inRegion ops rest::k)) cs) w #[]:=by
       intro k main cs;simp[G,stepG,stepG.exec,Frame.at,ho,Frame.finish]
      exact .inl (ctl (fun _ _=>st _ _ _) (fun _ _=>st _ _ _) ((top (.inRegion ops rest::X) nD (by simpa only[Sg.items,Sg.Er,ho]using hX) hs).cast hL.symm))
     |some o=>
      obtain⟨d2,he,Wa⟩:∃d2,s.Kh b.fn o d=some d2/\Sg.fin (s.items b.fn (some d2) (.inRegion ops rest::X))=true:=by
       simp only[Sg.items,Sg.Er,ho]at hX;cases he:s.Kh b.fn o d with
       |none=>rw[he]at hX;cases hX
       |some d2=>rw[he]at hX;exact⟨d2,rfl,by simpa only[Sg.items]using hX⟩
      have guard:s.uI b.fn=true\/(s.uI b.fn=false/\h0=0):=by
       cases hg:s.uI b.fn with
       |true=>exact .inl rfl
       |false=>
        rcases hp with h|h
        ·exact .inr ⟨rfl,h⟩
        ·rw[hg]at h;cases h
      have hput:∀v,∀x∈(a.put o.dst v).defers,CD s x:=fun v x hx=>nD x (by rw[put_defers]at hx;exact hx);cases hw:bg o (yielded ops a.tmps)with
      |false=>
       have e2:d2=d:=by
        by_cases hg:o.guard=none
        ·unfold bg at hw;rw[hg]at hw;cases hw
        ·have hg:o.guard.isNone=false:=by cases h:o.guard<;>simp_all
         unfold Sg.Kh at he;simp only[hg]at he;repeat' (first|(cases he;done)|(cases he;rfl)|split at he)
         all_goals(first|(simp_all;done)|(cases he;simp_all))
       subst e2;exact .inl (ctl (fun _ _=>stepG_unwanted ho hw) (fun _ _=>stepG_unwanted ho hw) ((Ih (.inRegion ops rest::X) (hput _) Wa (hs.none (uJ he).1 (fun _ _ _ h=>by cases h) rfl) (.refl _) (by rw[put_defers];exact hz)).cast hL.symm))
      |true=>
       obtain⟨d1,k1,k2⟩:=J9 H hs.sl he R;rw[<-hL]at k1;cases hrun:(ax a.eval o).run P w with
       |halt hh w1=>exact .inr (.inr (S7 H CN ho hw hrun (XG k1 hrun)))
       |ok nx w1=>
        have lev:=Qz k1 hrun b.fn;have upd:(∀v,nx=.value v->SI s h0 w1 b.fn (a.put o.dst v).tmps/\kH h0 w w1)/\(nx=.skip->SI s h0 w1 b.fn (a.put o.dst av).tmps/\kH h0 w w1):=by
         rcases guard with hg|⟨hg,h00⟩
         ·exact YB H hs he hg hh hrun
         ·subst h00;obtain⟨k1,k2⟩:=J8 hs he hg hrun w1;exact⟨fun v hv=>⟨k1 v hv,.inl rfl⟩,fun _=>⟨k2,.inl rfl⟩⟩
        cases k2 w nx w1 hrun with
        |value v e1=>
         subst e1;exact .inl ⟨_,base,_,base',w1,listed P b.fn a o w,fun _ _=>stepG_value ho hw CN hrun,fun _ _=>stepG_value ho hw CN hrun,(Ih (.inRegion ops rest::X) (hput _) Wa (upd.1 v rfl).1 (upd.1 v rfl).2 (by rw[put_defers];exact hz)).cast lev.symm⟩
        |skip e1=>
         subst e1;exact .inl ⟨_,base,_,base',w1,listed P b.fn a o w,fun _ _=>stepG_none ho hw CN hrun,fun _ _=>stepG_none ho hw CN hrun,(Ih (.inRegion ops rest::X) (hput _) Wa (upd.2 rfl).1 (upd.2 rfl).2 (by rw[put_defers];exact hz)).cast lev.symm⟩
        |defer dd e1 hd hg=>
         subst e1;have h00:h0=0:=by
          rcases guard with h|h
          ·rw[hg]at h;cases h
          ·exact h.2
         subst h00;have st:∀(k:List Item) (main:Bool) (cs:List ai),stepG P main (G (b.at a (.inRegion ops (i::rest)::k)) cs) w=.go (G (b.at (Act.put ⟨a.tmps,dd::a.defers⟩ o.dst av) (.inRegion ops rest::k)) cs) w1 (listed P b.fn a o w):=fun k main cs=>by
          have hfin:(b.at ⟨a.tmps,dd::a.defers⟩ (.inRegion ops (i::rest)::k)).finish av=b.at (Act.put ⟨a.tmps,dd::a.defers⟩ o.dst av) (.inRegion ops rest::k):=by rw[dI,ho];rfl
          have hk':(b.kind==CallKind.early)=false:=beq_eq_false_iff_ne.2 CN;rw[stepG_oper ho hw,<-hfin];simp[stepG.apply,hrun,G,Frame.at,hk',dx,listed]
         refine .inl ⟨_,base,_,base',w1,listed P b.fn a o w,fun _ _=>st _ _ _,fun _ _=>st _ _ _,(Ih (.inRegion ops rest::X) (fun x hx=>?_) Wa ?_ (.inl rfl) (.inl rfl)).cast lev.symm⟩
         ·rw[put_defers]at hx;rcases List.mem_cons.1 hx with rfl|hx
          ·exact hd
          ·exact nD x hx
         ·have:=(J8 hs he hg hrun w1).2
          cases aZ3:o.dst with
          |none=>rw[aZ3]at this;exact this
          |some t=>rw[aZ3]at this;exact this
        |enter g ik hg e1 e2 ha hpu hsz hww=>
         subst e1;subst hww;obtain⟨fn,code,f1,f2,f3,f4,-⟩:=H.body g hg;refine .inl ⟨bO P g ik .normal,b.at a (.inRegion ops (i::rest)::(X++iu))::base,bO P g ik .normal,b.at a (.inRegion ops (i::rest)::(X++si))::base',w1,listed P b.fn a o w1,fun _ _=>stepG_enter ho hw CN hrun,fun _ _=>stepG_enter ho hw CN hrun,?_⟩;rw[enter_at ik f1 f2];have big:∀t,(s.fs g).contains t=true->CV s g ((ik++bN (fn.ntmps-ik.size) av).getD t av):=fun t ht=>by
          rw[bB,Array.getElem?_append];split
          ·rw[<-bB];exact ha t ht
          ·rw[Array.getElem?_replicate];split<;>exact CV.undef
         have none_:∀t,t∈s.own g++(s.wN g++s.wO g)->blk ((ik++bN (fn.ntmps-ik.size) av).getD t av)=none:=fun t ht=>by
          have:=hsz t ht
          rw[bB,Array.getElem?_append,if_neg (by omega),Array.getElem?_replicate];split<;>rfl
         refine(xq.call (h:=if s.uI b.fn then w1.heap.size else 0) (d:=s.en g) (L:=d2+R) (Ld.run (b:=Go.Conc.base g) (a:=⟨ik++bN (fn.ntmps-ik.size) av,[]⟩) [.code code] (s.en g) (by simp) f4 ⟨big,fun t ht b' hb'=>?_,fun t ht b' hb'=>?_⟩ ?_ ?_ (.inr rfl)) hg rfl nD fun v w2 hx=>?_).cast ?_
         ·have:blk ((ik++bN (fn.ntmps-ik.size) av).getD t av)=some b':=hb'
          rw[none_ t (by simp[show t∈s.own g from ht])]at this;cases this
         ·have:blk ((ik++bN (fn.ntmps-ik.size) av).getD t av)=some b':=hb'
          rw[none_ t (List.mem_append_right _ ht)]at this;cases this
         ·split
          ·exact aH _
          ·exact Nat.zero_le _
         ·cases hgr:s.uI b.fn with
          |false=>exact .inl rfl
          |true=>exact .inr (by show s.uI g=true;simp[Sg.uI,hpu hgr])
         ·have f1:∀k,(b.at a (.inRegion ops (i::rest)::k)).finish v=b.at (a.put o.dst v) (.inRegion ops rest::k):=fun k=>by rw[dI,ho];rfl
          rw[f1,f1];have nK:s.bare b.fn o:=Rg he hrun;rcases guard with hgr|⟨hgr,h00⟩
          ·rw[if_pos hgr]at hx;have hx':nS w1 w2:=by
            rcases hx with hx|hx
            ·exact⟨by omega,fun b' hb'=>by omega⟩
            ·exact hx
           exact Ih (.inRegion ops rest::X) (hput _) Wa ((hs.mono hx').free nK v) (.of hx' hh) (by rw[put_defers];exact hz)
          ·subst h00;obtain⟨l1,l2,l3⟩:=MA hgr;have hs2:SI s 0 w2 b.fn a.tmps:=⟨hs.sl,fun t ht=>by rw[l1]at ht;simp at ht,fun u hu=>by rw[l2,l3]at hu;simp at hu⟩;exact Ih (.inRegion ops rest::X) (hput _) Wa (hs2.free nK v) (.inl rfl) (.inl rfl)
         ·have:deafBehind L (listed P b.fn a o w1)=d1+R:=lev
          rw[this];omega
   |_=>simp[Sg.items,Sg.fin]at hX
end
end
section
def NR(c:ai):Prop:=∀ch,c.mode=.panicking ch->∀e∈ch,e.recovered=false
inductive Dm(s:Sg):ae->List ai->Prop
 |top {w:ae} {p:ai} {rest:List ai} {ch:List PanicEntry} (hm:p.mode=.panicking ch) (hn:∀c∈p::rest,NR c) (hd:∀c∈p::rest,∀x∈c.defers,CD s x):Dm s w (p::rest)
 |up {w:ae} {L:Nat} {U U':List ai} {p:ai} {rest:List ai} {ch:List PanicEntry} (h:xq s [] [] .deferred w L U U') (hm:p.mode=.panicking ch) (hn:∀c∈p::rest,NR c) (hd:∀c∈p::rest,∀x∈c.defers,CD s x):Dm s w (U++p::rest)
def aF7(s:Sg)(w:ae)(l:List ai):Prop:=(∃l1,Dm s w l1/\l=l1++[dZ])\/∃ch,l=[dZ.raise ch]
section
variable{s:Sg}{P:au}{Ks K:List Item}{κ:CallKind}{L d:Nat}{f f':ai}{base base':List ai}{w:ae}
theorem NR.raise{c:ai}(h:NR c){vs:List PanicEntry}(hv:∀e∈vs,e.recovered=false):NR (c.raise vs):=by
 intro ch hc e he;unfold Frame.raise at hc;cases hm:c.mode with
 |panicking ch0=>
  rw[hm]at hc;cases hc;rcases List.mem_append.1 he with he|he
  ·exact hv e he
  ·exact h ch0 hm e he
 |run=>rw[hm]at hc;cases hc;exact hv e he
 |returning=>rw[hm]at hc;cases hc;exact hv e he
theorem raise_mode(c:ai)(vs:List PanicEntry):∃ch,(c.raise vs).mode=.panicking ch:=by
 unfold Frame.raise;cases c.mode<;>exact⟨_,rfl⟩
theorem rJ(c:ai)(vs:List PanicEntry):(c.raise vs).defers=c.defers:=by
 unfold Frame.raise;cases c.mode<;>rfl
theorem xq.calm{l l':List ai}(h:xq s Ks K κ w L l l'):∀c∈l,∀ch,c.mode≠ .panicking ch:=by
 induction h with
 |one h hk _=>intro c hc;simp at hc;subst hc;exact h.defs.2
 |call h hS hk hc hp ih=>
  intro c hm;rcases List.mem_cons.1 hm with rfl|hm
  ·exact h.defs.2
  ·rcases List.mem_cons.1 hm with rfl|hm
   ·intro ch e;refine ih av _ (.refl _) (c.finish av) (by simp) ch ?_;rw[<-e];unfold Frame.finish;split<;>rfl
   ·exact ih av _ (.refl _) c (by simp[hm])
 |Q5 h hS hk hm hm' hp ih=>
  intro c hmm;rcases List.mem_cons.1 hmm with rfl|hmm
  ·exact h.defs.2
  ·exact ih _ (.refl _) c hmm
theorem xq.ne_nil{l l':List ai}(h:xq s Ks K κ w L l l'):∃f r f' r',l=f::r/\l'=f'::r':=by
 cases h<;>exact⟨_,_,_,_,rfl,rfl⟩
theorem Q4(H:vR s P){cs:List ai}(h:aF7 s w (f::cs)):(stepG P true (G f cs) w).okD P\/(∃g w1 es,stepG P true (G f cs) w=.go g w1 es/\g.status=.blocked/\g.dying=none)\/∃g b2 w1 es,stepG P true (G f cs) w=.go (G g b2) w1 es/\aF7 s w1 (g::b2):=by
 rcases h with⟨l1,hl,e⟩|⟨ch,e⟩
 ·cases hl with
  | @top p rest ch hm hn hd=>
   simp only[bK,List.cons.injEq]at e;obtain⟨rfl,rfl⟩:=e;cases mg:f.defers with
   |cons x ds=>
    obtain⟨g,ik,rfl,hg,hgn⟩:=hd f (by simp) x (by rw[mg];simp);obtain⟨n1,n2,n3⟩:=rM hgn;obtain⟨c1,c2,c3⟩:=pD hg;obtain⟨fn,code,f1,f2,f3,f4,-⟩:=H.body g c1;have h1:¬fn.name= "runtime.NumGoroutine" :=by simpa using f3
    have st:stepG P true (G f (rest++[dZ])) w=.go (G ((baseD g).at {tmps:=ik++bN (fn.ntmps-ik.size) av,defers:=[]} [.code code]) ({f with defers:=ds}::(rest++[dZ]))) w #[]:=by
     rw[<-enter_atD ik f1 f2];simp[G,stepG,unwind,callDeferred,hm,mg,dcall,invoke,callFunc,f1,h1,f2,dx,seen_none]
    refine .inr (.inr ⟨_,_,_,_,st,.inl ⟨[_]++{f with defers:=ds}::rest,?_,rfl⟩⟩);refine .up (L:=s.en g) (U':=[(baseD g).at {tmps:=ik++bN (fn.ntmps-ik.size) av,defers:=[]} [.code code]]) (.one (h:=0) (Ld.run (Ks:=[]) (K:=[]) (b:=baseD g) (a:=⟨ik++bN (fn.ntmps-ik.size) av,[]⟩) [.code code] (s.en g) (by simp) f4 ⟨fun t ht=>?_,fun t ht=>?_,fun t ht=>?_⟩ (Nat.zero_le _) (.inl rfl) (.inl rfl)) rfl fun _=>c1) (p:={f with defers:=ds}) hm (fun c hc=>?_) fun c hc x hx=>?_
    ·rw[show(baseD g).fn=g from rfl,c2]at ht;simp at ht
    ·rw[show(baseD g).fn=g from rfl,n1]at ht;simp at ht
    ·rw[show(baseD g).fn=g from rfl,n2,n3]at ht;simp at ht
    ·rcases List.mem_cons.1 hc with rfl|hc
     ·exact hn f (by simp)
     ·exact hn c (by simp[hc])
    ·rcases List.mem_cons.1 hc with rfl|hc
     ·exact hd f (by simp) x (by rw[mg];exact List.mem_cons_of_mem _ hx)
     ·exact hd c (by simp[hc]) x hx
   |nil=>
    by_cases aZ8:f.catches P=true
    ·refine .inl ?_;have st:stepG P true (G f (rest++[dZ])) w=.ended (.unsupported (.noEntry "a panic or Goexit out of a method that fmt calls behind a cut's door") (f.pos P)) w #[]:=by
      simp[G,stepG,unwind,hm,mg,aZ8]
     rw[st];intro v hv;cases hv
    ·have st:∀c r,stepG P true (G f (c::r)) w=.go (G (c.raise ch) r) w #[]:=fun c r=>by
      simp[G,stepG,unwind,hm,mg,aZ8]
     cases rest with
     |nil=>exact .inr (.inr ⟨_,_,_,_,st _ _,.inr ⟨ch,rfl⟩⟩)
     |cons c r=>
      obtain⟨ch2,hm2⟩:=raise_mode c ch;refine .inr (.inr ⟨_,_,_,_,st c (r++[dZ]),.inl ⟨c.raise ch::r,.top hm2 (fun x hx=>?_) fun x hx y hy=>?_,rfl⟩⟩)
      ·rcases List.mem_cons.1 hx with rfl|hx
       ·exact(hn c (by simp)).raise (hn f (by simp) ch hm)
       ·exact hn x (by simp[hx])
      ·rcases List.mem_cons.1 hx with rfl|hx
       ·rw[rJ]at hy;exact hd c (by simp) y hy
       ·exact hd x (by simp[hx]) y hy
  | @up L U U' p rest ch h hm hn hd=>
   obtain⟨u,b,u',b',rfl,rfl⟩:=h.ne_nil;simp only[bK,List.append_assoc,List.cons.injEq]at e;obtain⟨rfl,rfl⟩:=e;rcases Nv (w:=w) H (.inr rfl) (.inl ⟨rfl,rfl⟩) h with⟨g,b2,g',M0,w1,es,e1,e2,k⟩|⟨rfl,h2,h3⟩|hb
   ·refine .inr (.inr ⟨g,b2++(p::rest++[dZ]),w1,es,e1 true _,.inl ⟨g::b2++p::rest,.up k hm hn hd,by simp⟩⟩)
   ·cases h with
    |one hf hk hS=>
     have hk:f.kind=.deferred:=hk;obtain⟨fn,code,f1,-⟩:=H.body _ (hS rfl);cases hf with
     |run X d _ _ _ _ _ _=>cases h2
     | @ret b a todo todo' nD _ _=>
      have f1:P.funcs[b.fn]?=some fn:=f1;have hk:b.kind=.deferred:=hk;have h3:a.defers=[]:=h3;cases hres:(bR fn a.tmps).run P w with
      |halt hh w1=>
       obtain⟨o,es,e,ho⟩:=wB (main:=true) (todo:=todo) (cs:=p::rest++[dZ]) h3 f1 hres;refine .inl ?_;show(stepG P true (G _ (p::rest++[dZ])) w).okD P;rw[e];exact ho
      |ok v w1=>
       have:=mq (main:=true) (todo:=todo) (cs:=rest++[dZ]) (c:=p) (.inr ⟨hk,fun e older x=>hn p (by simp) _ x e (by simp)⟩) h3 f1 hres
       rw[if_neg (by rw[hk];simp)]at this;exact .inr (.inr ⟨p,rest++[dZ],_,_,this,.inl ⟨p::rest,.top hm hn hd,rfl⟩⟩)
   ·rcases hb (p::rest++[dZ])with h1|h1|⟨vs,w1,es,h1,h2⟩
    ·exact .inl h1
    ·exact .inr (.inl h1)
    ·obtain⟨ch2,hm2⟩:=raise_mode f vs;refine .inr (.inr ⟨_,_,w1,es,h1,.inl ⟨f.raise vs::(b++p::rest),.top hm2 (fun c hc=>?_) fun c hc x hx=>?_,by simp⟩⟩)
     ·rcases List.mem_cons.1 hc with rfl|hc
      ·exact NR.raise (fun ch x=>(h.calm f (by simp) ch x).elim) h2
      ·rcases List.mem_append.1 hc with hc|hc
       ·exact fun ch x=>(h.calm c (by simp[hc]) ch x).elim
       ·exact hn c hc
     ·rcases List.mem_cons.1 hc with rfl|hc
      ·rw[rJ]at hx;exact h.bare f (by simp) x hx
      ·rcases List.mem_append.1 hc with hc|hc
       ·exact h.bare c (by simp[hc]) x hx
       ·exact hd c hc x hx
 ·simp only[List.cons.injEq]at e;obtain⟨rfl,rfl⟩:=e;refine .inl ?_;have:∃o,stepG P true (G (dZ.raise ch) []) w=.ended o w #[]/\∀v,o≠ .done v:=⟨_,by simp[G,stepG,unwind,callDeferred,Frame.raise,dZ]<;>exact rfl,fun v hv=>by cases hv⟩
  obtain⟨o,e,ho⟩:=this;rw[e];exact ho
theorem ou(f:ai)(cs:List ai)(w:ae):lone f cs w=oneG (G f cs) w:=rfl
theorem Fs:∀(n:Nat) {g:ah} {w:ae},g.dyingOn P->∀fr cs w',runN P n (oneG g w)≠ .next (lone fr cs w')
 |0,g,w,h,fr,cs,w',e=>by
  simp only[runN,Stepped.next.injEq]at e;obtain⟨_,d,hd,_⟩:=h;have:=congrArg (fun m=>(m.gs[0]?).map (·.dying)) e
  simp[oneG,lone,hd]at this
 |n+1,g,w,h,fr,cs,w',e=>by
  rcases step_dyingOn (w:=w) h with⟨g',w1,hs,h'⟩|⟨o,w1,hs,ho⟩
  ·simp only[runN,hs]at e;exact Fs n h' fr cs w' e
  ·simp only[runN,hs]at e;cases e
theorem KA{g:ah}{w:ae}(h:g.status=.blocked):∀(n:Nat) fr cs w',runN P n (oneG g w)≠ .next (lone fr cs w')
 |0,fr,cs,w',e=>by
  simp only[runN,Stepped.next.injEq]at e;have:=congrArg (fun m=>(m.gs[0]?).map (·.status)) e
  simp[oneG,lone,h]at this
 |n+1,fr,cs,w',e=>by
  obtain⟨f2,RR,st,dy,off⟩:=g;simp only at h;subst h;obtain⟨o',w1,he,ho⟩:=endWith_ended w 2 (bytes "fatal error: all goroutines are asleep - deadlock!\n") (.fatal "all goroutines are asleep - deadlock!");have:step P (oneG ⟨f2,RR,.blocked,dy,off⟩ w)=.ended o' w1:=by
   simp[step,stepT,move,ask,askOn,oneG,runnable_eq,due,ahead,Goroutine.canRun,List.range_succ,pure];rw[he]
  simp only[runN,this]at e;cases e
theorem xC{g:ah}{w:ae}(hr:g.status=.running):(∀g' w' es,stepG P true g w=.go g' w' es->g'.status=.running\/g'.status=.blocked->step P (oneG g w)=.next (oneG g' w'))/\(∀o w' es,stepG P true g w=.ended o w' es->step P (oneG g w)=.ended o w'):=by
 refine⟨fun g' w' es hs h1=>?_,fun o w' es hs=>?_⟩
 ·rw[step,stepT,move_oneG hr];rcases h1 with h1|h1<;>simp[runT,oneG,Array.swapAt!,hs,h1]
 ·rw[step,stepT,move_oneG hr];simp[runT,oneG,Array.swapAt!,hs]
theorem Bt{cs:List ai}(h:(stepG P true (G f cs) w).okD P\/∃g w1 es,stepG P true (G f cs) w=.go g w1 es/\g.status=.blocked/\g.dying=none)(n:Nat)(fr:ai)(cs':List ai)(w':ae):runN P (n+1) (lone f cs w)≠ .next (lone fr cs' w'):=by
 intro e;rw[ou]at e;have so:=xC (P:=P) (g:=G f cs) (w:=w) rfl;rcases h with h|⟨g,w1,es,h,h1,-⟩
 ·cases hs:stepG P true (G f cs) w with
  |go g w1 es=>
   rw[hs]at h;have h:g.dyingOn P:=h;rw[runN,so.1 g w1 es hs h.1]at e;exact Fs n h fr cs' w' e
  |ended o w1 es=>rw[runN,so.2 o w1 es hs]at e;cases e
  |_=>rw[hs]at h;exact h.elim
 ·rw[runN,so.1 g w1 es h (.inr h1)]at e;exact KA h1 n fr cs' w' e
theorem Kj(H:vR s P):∀(n:Nat) {f:ai} {cs:List ai} {w:ae},aF7 s w (f::cs)->∀fr w',(∀ch,fr.mode≠ .panicking ch)->runN P n (lone f cs w)≠ .next (lone fr [dZ] w')
 |0,f,cs,w,h,fr,w',hm,e=>by
  simp only[runN,Stepped.next.injEq]at e;have e1:f=fr:=by have:=congrArg (fun m=>(m.gs[0]?).map (·.frame)) e;simpa [lone]using this
  have e2:cs=[dZ]:=by have:=congrArg (fun m=>(m.gs[0]?).map (·.callers)) e;simpa [lone]using this
  subst e1 e2;rcases h with⟨l1,hl,e⟩|⟨ch,e⟩
  ·have:l1=[f]:=by
    have:[f]++[dZ]=l1++[dZ]:=e
    exact(List.append_cancel_right this).symm
   subst this;generalize hf:[f]=l1 at hl;cases hl with
   |top h1=>
    simp only[List.cons.injEq]at hf;obtain⟨rfl,-⟩:=hf;exact hm _ h1
   |up h=>
    obtain⟨u,b,u',b',rfl,rfl⟩:=h.ne_nil;have:=congrArg List.length hf
    simp at this
  ·have:=congrArg List.length e
   simp at this
 |n+1,f,cs,w,h,fr,w',hm,e=>by
  rcases Q4 (w:=w) H h with h1|h1|⟨g,b2,w1,es,h1,h2⟩
  ·exact Bt (.inl h1) n fr _ w' e
  ·exact Bt (.inr h1) n fr _ w' e
  ·have so:=(xC (P:=P) (g:=G f cs) (w:=w) rfl).1 _ _ _ h1 (.inl rfl);rw[<-ou,<-ou]at so;rw[runN,so]at e;exact Kj H n h2 fr w' hm e
theorem Ss(H:vR s P)(Uz:(Ks=[]/\K=[])\/Ks=[fK]):∀(n:Nat) {f f':ai} {base base':List ai} {L:Nat} {w:ae},xq s Ks K .normal w L (f::base) (f'::base')->
  ∀fr w',(∀ch,fr.mode≠ .panicking ch)->runN P n (lone f (base++[dZ]) w)=.next (lone fr [dZ] w')->∀(tail:List ai) (t:Trace),(∀op∈t,op.g=0)->Deaf t 0=L->
  ∃fr' L' t',xq s Ks K .normal w' L' [fr] [fr']/\runNT P n (solo (G f' (base'++tail)) w) t=(.next (solo (G fr' tail) w'),t')/\(∀op∈t',op.g=0)/\Deaf t' 0=L'
 |0,f,f',base,base',L,w,h,fr,w',hm,e,tail,t,ht,hd=>by
  simp only[runN,Stepped.next.injEq]at e;have e1:f=fr:=by have:=congrArg (fun m=>(m.gs[0]?).map (·.frame)) e;simpa [lone]using this
  have e2:base++[dZ]=[dZ]:=by have:=congrArg (fun m=>(m.gs[0]?).map (·.callers)) e;simpa [lone]using this
  have e3:w=w':=congrArg (·.world) e;have e2:base=[]:=by simpa using e2
  subst e1 e2 e3;have e4:base'=[]:=by cases h;rfl
  subst e4;exact⟨f',L,t,h,rfl,ht,hd⟩
 |n+1,f,f',base,base',L,w,h,fr,w',hm,e,tail,t,ht,hd=>by
  rcases Nv (w:=w) H (.inl rfl) Uz h with⟨g,b2,g',M0,w1,es,e1,e2,k⟩|⟨rfl,h2,h3⟩|hb
  ·have so:=(xC (P:=P) (g:=G f (base++[dZ])) (w:=w) rfl).1 _ _ _ (e1 true [dZ]) (.inl rfl);rw[<-ou,<-ou]at so;rw[runN,so]at e;have st:stepT P (solo (G f' (base'++tail)) w)=(.next (solo (G g' (M0++tail)) w1),aA 0 f'.fn f'.place es):=by
    rw[stepT_solo rfl];exact runT_solo_go (e2 true tail)
   have hg:∀op∈t++aA 0 f'.fn f'.place es,op.g=0:=fun op hop=>by
    rcases Array.mem_append.1 hop with hop|hop
    ·exact ht op hop
    ·rw[ofEvents_eq]at hop;obtain⟨x,_,rfl⟩:=Array.mem_map.1 hop;rfl
   have hd2:Deaf (t++aA 0 f'.fn f'.place es) 0=deafBehind L es:=by rw[Deaf_own,hd]
   obtain⟨fr',L',t',k1,k2,k3,k4⟩:=Ss H Uz n k fr w' hm e tail _ hg hd2;refine⟨fr',L',t',k1,?_,k3,k4⟩;simp only[runNT,st];exact k2
  ·exfalso;have hk:f.kind=.normal:=by cases h;assumption
   exact xe h2 h3 hk n fr w' e
  ·exfalso;rcases hb [dZ]with h1|h1|⟨vs,w1,es,h1,h2⟩
   ·exact Bt (.inl h1) n fr _ w' e
   ·exact Bt (.inr h1) n fr _ w' e
   ·have so:=(xC (P:=P) (g:=G f (base++[dZ])) (w:=w) rfl).1 _ _ _ h1 (.inl rfl);rw[<-ou,<-ou]at so;rw[runN,so]at e;obtain⟨ch2,hm2⟩:=raise_mode f vs;refine Kj H n (.inl ⟨f.raise vs::base,.top hm2 (fun c hc=>?_) fun c hc x hx=>?_,rfl⟩) fr w' hm e
    ·rcases List.mem_cons.1 hc with rfl|hc
     ·exact NR.raise (fun ch x=>(h.calm f (by simp) ch x).elim) h2
     ·exact fun ch x=>(h.calm c (by simp[hc]) ch x).elim
    ·rcases List.mem_cons.1 hc with rfl|hc
     ·rw[rJ]at hx;exact h.bare f (by simp) x hx
     ·exact h.bare c (by simp[hc]) x hx
theorem QA(H:vR s P){Q:Exit->Act->ae->Prop}(hQ:∀e a w,Q e a w->e=.normal\/e=.ret){c:Code}{b:ai}{a:Act}(hk:b.kind=.normal)(nD:∀x∈a.defers,CD s x)(hX:Sg.fin (s.items b.fn (some 0) [.code c])=true)(hl:s.uI b.fn=false)(hs:∀t,(s.fs b.fn).contains t=true->CV s b.fn (a.tmps.getD t av))(hC:c.wp P Q a w)(k:List Item)(cs:List ai)(t:Trace)(ht:∀op∈t,op.g=0)(hd:Deaf t 0=0):
  ∃n a2 w2 t2,(∀op∈t2,op.g=0)/\Deaf t2 0=0/\((Q .normal a2 w2/\runNT P n (solo (G (b.at a (.code c::k)) cs) w) t=(.next (solo (G (b.at a2 k) cs) w2),t2))\/
   ∃todo,Q .ret a2 w2/\runNT P n (solo (G (b.at a (.code c::k)) cs) w) t=(.next (solo (G {b.at a2 todo with mode:=.returning} cs) w2),t2)):=by
 obtain⟨l1,l2,l3⟩:=MA hl;have h:xq s [fK] k .normal w 0 [b.at a ([.code c]++[fK])] [b.at a ([.code c]++k)]:=.one (h:=0) (.run [.code c] 0 nD hX ⟨hs,fun t ht=>by rw[l1]at ht;simp at ht,fun u hu=>by rw[l2,l3]at hu;simp at hu⟩ (Nat.zero_le _) (.inl rfl) (.inl rfl)) hk fun e=>by cases e
 obtain⟨e,a2,w2,hq,hr⟩:=hC b [fK] [dZ];have a61:∀n fr w',runN P n (lone (b.at a (.code c::[fK])) [dZ] w)=.next (lone fr [dZ] w')->(∀ch,fr.mode≠ .panicking ch)->∃fr' L' t',xq s [fK] k .normal w' L' [fr] [fr']/\runNT P n (solo (G (b.at a (.code c::k)) cs) w) t=(.next (solo (G fr' cs) w'),t')/\(∀op∈t',op.g=0)/\Deaf t' 0=L':=
  fun n fr w' hn hm=>Ss H (.inr rfl) n h fr w' hm hn cs t ht hd
 rcases hQ e a2 w2 hq with rfl|rfl
 ·obtain⟨n,hn⟩:=hr;obtain⟨fr',L',t',k1,k2,k3,k4⟩:=a61 n _ _ hn fun ch e=>by cases e
  refine⟨n,a2,w2,t',k3,?_,.inl ⟨hq,?_⟩⟩
  ·generalize RO:b.at a2 [fK]=fr at k1;cases k1 with
   |one hF hk2 _=>cases hF with
    | @run b1 a1 X d h1 Wa h2 _ _ _=>
     have h3:=congrArg Frame.todo RO;simp only[Frame.at]at h3;have Wb:X=[]:=by
      cases X with
      |nil=>rfl
      |cons x X=>have:=congrArg List.length h3;simp at this
     subst Wb;rw[k4];simpa [Sg.items,Sg.fin]using Wa
    |ret h1 _ _=>have:=congrArg Frame.mode RO;cases this
  ·generalize RO:b.at a2 [fK]=fr at k1;cases k1 with
   |one hF hk2 _=>cases hF with
    | @run b1 a1 X d h1 Wa h2 _ _ _=>
     simp only[Frame.at,Frame.mk.injEq]at RO;obtain⟨h3,h4,h5,h6,-,h7,-⟩:=RO;have Wb:X=[]:=by
      cases X with
      |nil=>rfl
      |cons x X=>have:=congrArg List.length h5;simp at this
     subst Wb;have ha:a1=a2:=by cases a1;cases a2;simp at h4 h6;subst h4 h6;rfl
     subst ha;have e:b1.at a1 ([]++k)=b.at a1 k:=at_eq h3.symm h7.symm a1 k;rw[e]at k2;exact k2
    |ret h1 _ _=>have:=congrArg Frame.mode RO;cases this
 ·obtain⟨todo,n,hn⟩:=hr;obtain⟨fr',L',t',k1,k2,k3,k4⟩:=a61 n _ _ hn fun ch e=>by cases e
  generalize RO:({b.at a2 todo with mode:=.returning}:ai)=fr at k1;cases k1 with
  |one hF hk2 _=>cases hF with
   |run X d h1 Wa h2 _ _ _=>have:=congrArg Frame.mode RO;cases this
   | @ret b1 a1 bI6 FU h1 _ _=>
    simp only[Frame.at,Frame.mk.injEq]at RO;obtain⟨h3,h4,h5,h6,-,h7,-⟩:=RO;have ha:a1=a2:=by cases a1;cases a2;simp at h4 h6;subst h4 h6;rfl
    subst ha;have e:({b1.at a1 FU with mode:=.returning}:ai)={b.at a1 FU with mode:=.returning}:=by rw[at_eq h3.symm h7.symm a1 FU]
    rw[e]at k2;exact⟨n,a1,w2,t',k3,k4,.inr ⟨FU,hq,k2⟩⟩
end
end
end Cc
namespace Cc
open Go.Conc Go.ConcN
open Go.ConcR (DC0)
def LR(P:au)(g₀:ah)(w₀:ae)(g:ah)(w:ae):Prop:=
 ∃n t,runNT P n (solo g₀ w₀) #[]=(.next (solo g w),t)/\g.status=.running/\(∀op∈t,op.g=0)/\Deaf t 0=0
theorem LR.start{P:au}{g:ah}{w:ae}(h:g.status=.running):LR P g w g w:=
 ⟨0,#[],rfl,h,fun op h=>by simp at h,rfl⟩
section
variable{s:Sg}{P:au}{g₀:ah}{w₀:ae}
theorem LR.step{g g':ah}{w w':ae}(h:LR P g₀ w₀ g w)(hs:stepG P true g w=.go g' w' #[])(hr:g'.status=.running):LR P g₀ w₀ g' w':=by
 obtain⟨n,t,h1,h2,h3,h4⟩:=h;have st:stepT P (solo g w)=(.next (solo g' w'),aA 0 g.frame.fn g.frame.place #[]):=by
  rw[stepT_solo h2];exact runT_solo_go hs
 refine⟨n+1,t,?_,hr,h3,h4⟩;rw[runNT_add,h1];simp only[runNT,st];rw[ofEvents_none,Array.append_empty]
theorem LR.walk{X:Prop}{w:ae}:∀(n:Nat) {g:ah} {w':ae},LR P g₀ w₀ g w->Goes P (0==0) (fun _ w₁=>Hp w₁) DC0 (fun g' _=>g'.status=.running/\(LR P g₀ w₀ g' w->X)) n g w'->X
 |0,g,w',h,k=>(k w trivial).2 h
 |n+1,g,w',h,k=>by
  rcases k with k|⟨hs,k⟩
  ·exact(k w trivial).2 h
  ·have h1:=k w trivial;cases hg:stepG P (0==0) g w with
   |go g' w2 es=>
    rw[hg]at h1;simp only[goes_go]at h1;obtain⟨⟨rfl,rfl⟩,h2⟩:=h1;have hrun:g'.status=.running:=by
     cases n with
     |zero=>exact(h2 w2 trivial).1
     |succ n=>exact h2.elim (fun h2=>(h2 w2 trivial).1) fun h2=>h2.1
    exact LR.walk n (h.step hg hrun) h2
   |_=>rw[hg]at h1;exact h1.elim
theorem LR.road{X:Prop}{g:ah}{w:ae}(n:Nat)(h:LR P g₀ w₀ g w)(k:∀Zm:ae,Hp Zm->Goes P (0==0) (fun _ w₁=>Hp w₁) DC0 (fun g' _=>g'.status=.running/\(LR P g₀ w₀ g' w->X)) n g Zm):X:=
 LR.walk n h (k w trivial)
theorem LR.call{b:ai}{a:Act}{kk:List Item}{cs:List ai}{w:ae}{ops:Array Oper}{i:Nat}{rest:List Nat}{o:Oper}{f:ak}{args:Array af}(h:LR P g₀ w₀ (G (b.at a (.inRegion ops (i::rest)::kk)) cs) w)(ho:ops[i]?=some o)(hw:bg o (yielded ops a.tmps)=true)(hk:b.kind≠ .early)
  (hr:∀w:ae,(ax a.eval o).run P w=.ok (.enter f args) w)(he:∀w:ae,(ax a.eval o).events P w #[]=#[]):LR P g₀ w₀ (G (bO P f args .normal) (b.at a (.inRegion ops (i::rest)::kk)::cs)) w:=by
 refine h.step ?_ rfl;rw[stepG_enter ho hw hk (hr w)];unfold listed;rw[he,seen_none]
theorem LR.code(H:vR s P){Q:Exit->Act->ae->Prop}(hQ:∀e a w,Q e a w->e=.normal\/e=.ret){c:Code}{b:ai}{a:Act}{w:ae}{k:List Item}{cs:List ai}(h:LR P g₀ w₀ (G (b.at a (.code c::k)) cs) w)(hk:b.kind=.normal)(nD:a.defers=[])(hX:Sg.fin (s.items b.fn (some 0) [.code c])=true)(hl:s.uI b.fn=false)(hs:s.fs b.fn=[])(hC:c.wp P Q a w):
  ∃a2 w2,(Q .normal a2 w2/\LR P g₀ w₀ (G (b.at a2 k) cs) w2)\/∃todo,Q .ret a2 w2/\LR P g₀ w₀ (G {b.at a2 todo with mode:=.returning} cs) w2:=by
 obtain⟨n,t,h1,h2,h3,h4⟩:=h;obtain⟨m,a2,w2,t2,k1,k2,k3⟩:=QA H hQ hk (fun x hx=>by rw[nD]at hx;cases hx) hX hl (fun t ht=>by rw[hs]at ht;cases ht) hC k cs t h3 h4;refine⟨a2,w2,k3.imp (fun⟨q1,q2⟩=>⟨q1,n+m,t2,?_,rfl,k1,k2⟩) fun⟨todo,q1,q2⟩=>⟨todo,q1,n+m,t2,?_,rfl,k1,k2⟩⟩
 ·rw[runNT_add,h1];exact q2
 ·rw[runNT_add,h1];exact q2
theorem LR.pieces(H:vR s P){N R:Act->ae->Prop}{b:ai}(hk:b.kind=.normal)(hl:s.uI b.fn=false)(hs:s.fs b.fn=[]){T:Code}{k:List Item}{cst:List ai}{X:Prop}
  (GP:∀a2 w2,a2.defers=[]->N a2 w2->LR P g₀ w₀ (G (b.at a2 (.code T::k)) cst) w2->X)(GN:∀a2 w2 todo,a2.defers=[]->R a2 w2->LR P g₀ w₀ (G {b.at a2 todo with mode:=.returning} cst) w2->X):
  ∀(cs:List Code),(∀c∈cs,Sg.fin (s.items b.fn (some 0) [.code c])=true)->∀(a:Act) (w:ae),a.defers=[]->LR P g₀ w₀ (G (b.at a (.code (xH cs T)::k)) cst) w->Hs P N R cs a w->X
 |[],_,a,w,hd,h,hw=>GP a w hd hw h
 |c::cs,hc,a,w,hd,h,hw=>by
  have h1:LR P g₀ w₀ (G (b.at a (.code c:: .code (xH cs T)::k)) cst) w:=h.step (by
   show stepG P true (G (b.at a (.code (.seq c (xH cs T))::k)) cst) w=_;rw[stepG_seq]) rfl
  obtain⟨a2,w2,hz⟩:=LR.code H (fun e a w h=>by cases e<;>first|exact .inl rfl|exact .inr rfl|exact h.elim) h1 hk hd (hc c (by simp)) hl hs hw;rcases hz with⟨q1,q2⟩|⟨todo,q1,q2⟩
  ·obtain⟨e1,e2⟩:=q1;exact LR.pieces H hk hl hs GP GN cs (fun c' h=>hc c' (by simp[h])) a2 w2 e1 q2 e2
  ·obtain⟨e1,e2⟩:=q1;exact GN a2 w2 todo e1 e2 q2
end
end Cc
namespace aD5
open Go.Conc Go.ConcN Go.RowKit Cc lF
open Pl Mem
open Go.ConcM (OsLater)
def Runs(f:ak)(args:Array af)(W:ae):Prop:=
 ∃M last o w' t',runNT dS (M+1) (solo (G (bO dS f args .normal) []) W) #[]=(.ended o w',t')/\runN dS M (solo (G (bO dS f args .normal) []) W)=.next last/\Go.step dS last=.ended o w'/\Conc.Good dS (fun v W'=>v=.bool true/\Kept W W') last o w' t'
theorem M4{W w1:ae}(hb:Below W.heap.size W w1){b:Nat}{o:Obj}(h:(b,o)∈Ai W):(b,o)∈Ai w1:=by
 have h1:=jR.1 h;exact jR.2 ((hb.block b (lt_of_block h1)).trans h1)
theorem ends{W w1:ae}(hb:Below W.heap.size W w1){num:Nat}{K:List (Nat×Obj)}{st:St eD}(hA:kv 0 num K st)(hs:∀b o,(b,o)∈Ai w1->(b,o)∈K)(hI:Inv (WU W) st):(WU W).Post (.bool true) st.w:=
 ⟨rfl,OJ hA (fun b o h=>hs b o (M4 hb h)) hI⟩
theorem Qf{k:IntKind}{W:ae}{A:Option Addr}{c n:Nat}{l:List Int}(h:fW k W W.heap.size (.slice A n c) l)(hp:0<l.length):n=l.length/\oM (Ai W) k A c l:=by
 have h0:=h;obtain⟨A',c',hv,hc,h⟩:=h;cases hv;obtain⟨b,off,rfl,hb,hcell⟩:=h hp;obtain⟨C,e,fz,h1,-⟩:=wZ (hcell 0 hp);exact⟨rfl,Tc h0 (.inr ⟨b,off,rfl,C,e,fz,jR.2 h1⟩)⟩
theorem YT{q:iK}{P:au}(hP:q.P=P){st:St eD}{num t:Nat}{K:List (Nat×Obj)}{Ch:Nat->ah->St eD->Prop}{fn:Func}{b:ai}{a':Act}{todo:List Item}(hk:b.kind=.normal)(hd:a'.defers=[])(hfn:P.funcs[b.fn]?=some fn)(hin:P.inits.idxOf? b.fn=none)(hres:fn.results=#[.tmp t])(ht:a'.tmps[t]?=some (.bool true))
  (hA:kv 0 num K st)(fin:∀dV,kv 0 num K dV->Inv q dV->q.Post (.bool true) dV.w):TT (cfg q) 0 Ch (G {b.at a' todo with mode:=.returning} []) st:=by
 refine TT.ends hP hA fun dV hr dX hi=>⟨.bool true,dV.w,FX hk hd hfn hin ?_ ?_,fin dV dX hi⟩
 ·unfold bR;rw[hres];simp[go_sem,ht]
 ·unfold bR;rw[hres];simp[go_sem,ht]
theorem Ma{P:au}{f:ak}{args:Array af}{fr:ai}{W:ae}(h:bO P f args .normal=fr):LR P (G (bO P f args .normal) []) W (G fr []) W:=by
 rw[h];exact LR.start (by rw[<-h];rfl)
end aD5
namespace Dea
open Go.RowKit Pl mJ uU Mem KM ng
def oN(t n:Int)(coeffs shares:List Int)(w:ae)(e:Ending)(w':ae):Prop:=
 Below w.heap.size w w'/\
 ((iO t n coeffs≠0/\e=.returned (.tuple #[.agg #[.int .i64 0,.int .i64 0,.slice none 0 0],.slice none 0 0,.int .i64 (iO t n coeffs)]))\/
  (iO t n coeffs=0/\∃vc vs,e=.returned (.tuple #[.agg #[.int .i64 t,.int .i64 n,vc],vs,.int .i64 0])/\
   fW .u64 w' w'.heap.size vc (comms coeffs coeffs.length)/\fW .u64 w' w'.heap.size vs shares))
theorem uE:(Try.prog.info? 76).map (fun i=>(i.zero,i.size,i.bytes))=some (some (.int .u64 0),1,8):=kr
theorem Cz:(Try.prog.info? 40).map (fun i=>(i.zero,i.size,i.bytes))=some (some (.int .u64 0),1,8):=kr
theorem YH(t n:Int)(coeffs shares:List Int)(v:af)(w:ae)(hv:fW .u64 w w.heap.size v coeffs)(hl:coeffs.length<=65536)
  (hbad:t<2\/n<t\/9<n\/(coeffs.length:Int)≠t):
  Calls dS 18 #[.int .i64 t,.int .i64 n,v] w (oN t n coeffs shares w):=by
 obtain⟨A,c,rfl,hc,hcell⟩:=hv;have hE:Hid (iO t n coeffs=1):=by
  show iO t n coeffs=1;unfold iO;rw[if_pos hbad]
 clear hcell;by_cases h1:t<2;case pos=>
  clear hbad;go_enter Try.func18,Try.ntmps18
  go_wp2_with fail
  refine bodyPost_ret (v:=.tuple #[.agg #[.int .i64 0,.int .i64 0,.slice none 0 0],.slice none 0 0,.int .i64 1]) (by simp[results,Try.results18,go_sem]) rfl ?_;exact⟨by first|exact bre.alloc nle _|exact(bre.alloc nle _).setCell nle _,.inl ⟨by rw[hE.out];omega,by rw[hE.out]⟩⟩
 by_cases h2:n<t;case pos=>
  clear hbad;go_enter Try.func18,Try.ntmps18
  go_wp2_with fail
  refine bodyPost_ret (v:=.tuple #[.agg #[.int .i64 0,.int .i64 0,.slice none 0 0],.slice none 0 0,.int .i64 1]) (by simp[results,Try.results18,go_sem]) rfl ?_;exact⟨by first|exact bre.alloc nle _|exact(bre.alloc nle _).setCell nle _,.inl ⟨by rw[hE.out];omega,by rw[hE.out]⟩⟩
 by_cases h3:9<n;case pos=>
  clear hbad;go_enter Try.func18,Try.ntmps18
  go_wp2_with fail
  refine bodyPost_ret (v:=.tuple #[.agg #[.int .i64 0,.int .i64 0,.slice none 0 0],.slice none 0 0,.int .i64 1]) (by simp[results,Try.results18,go_sem]) rfl ?_;exact⟨by first|exact bre.alloc nle _|exact(bre.alloc nle _).setCell nle _,.inl ⟨by rw[hE.out];omega,by rw[hE.out]⟩⟩
 have h4:((coeffs.length:Int) != t)=true:=by rw[bne_iff_ne];omega
 clear hbad;go_enter Try.func18,Try.ntmps18
 go_wp2_with fail
 refine bodyPost_ret (v:=.tuple #[.agg #[.int .i64 0,.int .i64 0,.slice none 0 0],.slice none 0 0,.int .i64 1]) (by simp[results,Try.results18,go_sem]) rfl ?_;exact⟨by first|exact bre.alloc nle _|exact(bre.alloc nle _).setCell nle _,.inl ⟨by rw[hE.out];omega,by rw[hE.out]⟩⟩
theorem LF(t n:Int)(coeffs shares:List Int)(v:af)(w:ae)(hv:fW .u64 w w.heap.size v coeffs)(hl:coeffs.length<=65536)
  (hbad:t<2\/n<t\/9<n\/(coeffs.length:Int)≠t):
  Calls dS 19 #[.int .i64 t,.int .i64 n,v] w (oN t n coeffs shares w):=by
 obtain⟨A,c,rfl,hc,hcell⟩:=hv;have hE:Hid (iO t n coeffs=1):=by
  show iO t n coeffs=1;unfold iO;rw[if_pos hbad]
 clear hcell;by_cases h1:t<2;case pos=>
  clear hbad;go_enter Try.func19,Try.ntmps19
  go_wp2_with fail
  refine bodyPost_ret (v:=.tuple #[.agg #[.int .i64 0,.int .i64 0,.slice none 0 0],.slice none 0 0,.int .i64 1]) (by simp[results,Try.results19,go_sem]) rfl ?_;exact⟨by first|exact bre.alloc nle _|exact(bre.alloc nle _).setCell nle _,.inl ⟨by rw[hE.out];omega,by rw[hE.out]⟩⟩
 by_cases h2:n<t;case pos=>
  clear hbad;go_enter Try.func19,Try.ntmps19
  go_wp2_with fail
  refine bodyPost_ret (v:=.tuple #[.agg #[.int .i64 0,.int .i64 0,.slice none 0 0],.slice none 0 0,.int .i64 1]) (by simp[results,Try.results19,go_sem]) rfl ?_;exact⟨by first|exact bre.alloc nle _|exact(bre.alloc nle _).setCell nle _,.inl ⟨by rw[hE.out];omega,by rw[hE.out]⟩⟩
 by_cases h3:9<n;case pos=>
  clear hbad;go_enter Try.func19,Try.ntmps19
  go_wp2_with fail
  refine bodyPost_ret (v:=.tuple #[.agg #[.int .i64 0,.int .i64 0,.slice none 0 0],.slice none 0 0,.int .i64 1]) (by simp[results,Try.results19,go_sem]) rfl ?_;exact⟨by first|exact bre.alloc nle _|exact(bre.alloc nle _).setCell nle _,.inl ⟨by rw[hE.out];omega,by rw[hE.out]⟩⟩
 have h4:((coeffs.length:Int) != t)=true:=by rw[bne_iff_ne];omega
 clear hbad;go_enter Try.func19,Try.ntmps19
 go_wp2_with fail
 refine bodyPost_ret (v:=.tuple #[.agg #[.int .i64 0,.int .i64 0,.slice none 0 0],.slice none 0 0,.int .i64 1]) (by simp[results,Try.results19,go_sem]) rfl ?_;exact⟨by first|exact bre.alloc nle _|exact(bre.alloc nle _).setCell nle _,.inl ⟨by rw[hE.out];omega,by rw[hE.out]⟩⟩
def PF(t n:Int)(coeffs:List Int)(w:ae)(b i:af)(wr:ae):Prop:=
 ∃k:Nat,∃vc:af,k<=coeffs.length/\i=.int .i64 k/\nN coeffs k=true/\(0<k->coeffs.getD 0 0≠0)/\
  wr.ownsRow w.heap.size 76 1 b k ((coeffs.take k).map (bU .u64))/\
  wr.ownsRow w.heap.size 40 1 vc k ((comms coeffs k).map (bU .u64))/\
  ft wr (w.heap.size+1) 31 #[.int .i64 t,.int .i64 n,vc]/\ft wr w.heap.size 31 #[.int .i64 0,.int .i64 0,.slice none 0 0]/\Below w.heap.size w wr
theorem Km{t n:Int}{coeffs:List Int}{w w1 w2:ae}{k:Nat}{x:Int}{v1 vc:af}{A2:Option Addr}{c2 g2 cap2:Nat}{cs:Array af}(hlt:k<coeffs.length)
  (hok:nN coeffs (k+1)=true)(hnz:coeffs.getD 0 0≠0)(hx:coeffs.getD k 0=x)
  (h1:w1.ownsRow w.heap.size 76 1 v1 (k+1) ((coeffs.take k).map (bU .u64)++[.int .u64 x]))
  (h2:w1.ownsRow w.heap.size 40 1 (.slice A2 k c2) k ((comms coeffs k).map (bU .u64)))
  (b1:ft w1 (w.heap.size+1) 31 #[.int .i64 t,.int .i64 n,vc])(b0:ft w1 w.heap.size 31 #[.int .i64 0,.int .i64 0,.slice none 0 0])(hb:Below w.heap.size w w1)
  (h3:w2.ownsRow w.heap.size 40 1 (.slice (some ⟨g2,0,none⟩) (k+1) cap2) (k+1) ((comms coeffs k).map (bU .u64)++[.int .u64 (pw 4 x.toNat 2147483579)]))
  (hg:(w1.drew.alloc (.cells cs 40)).grownBy w2 (Value.slice A2 k c2).ownBlock):
  PF t n coeffs w v1 (.int .i64 ((k:Int)+1)) (w2.setCell ⟨w.heap.size+1,2,none⟩ (.slice (some ⟨g2,0,none⟩) (k+1) cap2)):=by
 have h2':w1.drew.ownsRow w.heap.size 40 1 (.slice A2 k c2) k ((comms coeffs k).map (bU .u64)):=h2;have h1':w1.drew.ownsRow w.heap.size 76 1 v1 (k+1) ((coeffs.take k).map (bU .u64)++[.int .u64 x]):=h1;have g1:=yP h1' h2' (by decide) hg;have q2:=jH (show ft w1.drew _ _ _ from b1) h2' (by decide) hg;have g0:=jH (show ft w1.drew _ _ _ from b0) h2' (by decide) hg;have gb:=jk (show Below w.heap.size w w1.drew from hb.drew) h2' hb.size hg;refine⟨k+1,.slice (some ⟨g2,0,none⟩) (k+1) cap2,by omega,by go_num,hok,fun _=>hnz,?_,?_,?_,?_,gb.setCell (by show w.heap.size<=w.heap.size+1;omega) _⟩
 ·have:=mF g1 q2 (by decide) 2 (.slice (some ⟨g2,0,none⟩) (k+1) cap2)
  rw[EC coeffs hlt,cB,hx];exact this
 ·have:=mF h3 q2 (by decide) 2 (.slice (some ⟨g2,0,none⟩) (k+1) cap2)
  rw[wV coeffs hlt,cB,hx];exact this
 ·exact q2.iM 2 _
 ·exact g0.far (p:=⟨w.heap.size+1,2,none⟩) (by show w.heap.size≠w.heap.size+1;omega) _
theorem Pn{t:Int}{m:Nat}{coeffs shares:List Int}{w wr:ae}{v:af}{A2:Option Addr}{c2 base:Nat}{cs:Array af}{x y z:af}(H0:iO t m coeffs=0)
  (hc:wr.ownsRow w.heap.size 40 1 (.slice A2 coeffs.length c2) coeffs.length ((comms coeffs coeffs.length).map (bU .u64)))
  (hs:wr.ownsRow base 40 1 v m (shares.map (bU .u64)))(hb:ft wr w.heap.size 31 cs)(hw:Below w.heap.size w wr):
  oN t m coeffs shares w (.returned (.tuple #[.agg #[.int .i64 t,.int .i64 (m:Int),.slice A2 coeffs.length c2],v,.int .i64 0]))
   (((wr.setCell ⟨w.heap.size,0,none⟩ x).setCell ⟨w.heap.size,1,none⟩ y).setCell ⟨w.heap.size,2,none⟩ z):=by
 have hb1:=hb.iM 0 x;have hb2:=hb1.iM 1 y;have c3:=mF (mF (mF hc hb (by decide) 0 x) hb1 (by decide) 1 y) hb2 (by decide) 2 z;have s3:=mF (mF (mF hs hb (by decide) 0 x) hb1 (by decide) 1 y) hb2 (by decide) 2 z;have hlen:shares.length=m:=by have:=s3.1;simpa using this
 refine⟨((hw.setCell nle _).setCell nle _).setCell nle _,.inr ⟨H0,_,_,rfl,?_,?_⟩⟩
 ·exact fW.own (by rw[rU coeffs nle];exact c3)
 ·exact fW.own (by rw[hlen];exact s3)
theorem U4(t:Int)(N:Nat)(coeffs:List Int)(v:af)(w:ae)(hv:fW .u64 w w.heap.size v coeffs)(hl:coeffs.length<=65536)
  (hcb:∀i,i<coeffs.length->0<=coeffs.getD i 0/\coeffs.getD i 0<18446744073709551616)(h1:2<=t)(h2:t<=N)(h3:N<=9)(h4:(coeffs.length:Int)=t):
  Calls dS 18 #[.int .i64 t,.int .i64 (N:Int),v] w (oN t N coeffs (ky coeffs N) w):=by
 obtain⟨A,c,rfl,hc,hcell⟩:=hv;have HC:=ay hcell;have Nb:=ay hcb;have H4:=ay h4;have hE:Hid (iO t N coeffs=if coeffs.getD 0 0=0\/nN coeffs coeffs.length=false then 2 else 0):=by
  show iO t N coeffs=_;unfold iO;rw[if_neg (by omega)]
 have hne:((coeffs.length:Int) != t)=false:=by rw[bne_eq_false_iff_eq];exact h4
 have Ht:¬t<2:=by omega
 have hn2:¬(N:Int)<t:=by omega
 have hn3:¬9<(N:Int):=by omega
 have hlp:2<=coeffs.length:=by omega
 have Ad:coeffs.length<=9:=by omega
 clear hcell hcb h4;obtain⟨i0,hi,hz0,hz1,hz2⟩:=info_parts uE;obtain⟨i1,hj,hy0,hy1,hy2⟩:=info_parts Cz;go_enter Try.func18,Try.ntmps18
 go_wp2_with fail
 go_loopw [9,40] (fun b i wr=>PF t N coeffs w b i wr) (fun _ i _=>coeffs.length-(intOf i).toNat)
 case atStart=>
  exact⟨0,.slice none 0 0,by omega,rfl,rfl,fun h=>absurd h (by omega),cy _ _ _ _,cy _ _ _ _,
   by simpa using ft.new (w.alloc (.cells #[.int .i64 0,.int .i64 0,.slice none 0 0] 31)) 31 #[.int .i64 t,.int .i64 (N:Int),.slice none 0 0],
   (ft.new w 31 #[.int .i64 0,.int .i64 0,.slice none 0 0]).alloc _,(bre.alloc nle _).alloc (by simp) _⟩
 case round=>
  obtain⟨k,vc,hk,rfl,hok,hnz,hown,CI,hblk,kI,fM⟩:=hrel;obtain⟨A1,c1,rfl⟩:=kz hown;obtain⟨A2,c2,rfl⟩:=kz CI;have HO:=ay hown;have Y8:=ay CI;have HK:=ay hok;have HNZ:=ay hnz;clear hown CI hok hnz;by_cases hlt:k<coeffs.length
  ·obtain⟨b,off,rfl,hb,hcells⟩:=HC.out (by omega);have Bn:=(fM.cell (p:=⟨b,off+k,none⟩) hb).trans (hcells k hlt);have hxb:=Nb.out k hlt;clear hcells;have hc0:wr.cell? ⟨w.heap.size,0,none⟩=some (.int .i64 0):=kI.cell 0;have hc1:wr.cell? ⟨w.heap.size,1,none⟩=some (.int .i64 0):=kI.cell 1;have hc2:wr.cell? ⟨w.heap.size,2,none⟩=some (.slice none 0 0):=kI.cell 2;have hf0:=kI.frozen 0;have QL:=kI.frozen 1;have hf2:=kI.frozen 2;have hbad:(¬coeffs.getD k 0<1073741789\/(k=0/\coeffs.getD k 0=0))->Hid (iO t N coeffs=2):=by
    intro h;show iO t N coeffs=2;rw[hE.out,if_pos];rcases h with h|⟨rfl,h⟩
    ·exact .inr (IQ coeffs hlt h)
    ·exact .inl h
   have RA:=ay hbad;have hstep:coeffs.getD k 0<1073741789->nN coeffs (k+1)=true:=fun h=>EO coeffs HK.out h;have PE:=ay hstep;have HTK:=ay (EC coeffs hlt);have HCM:=ay (wV coeffs hlt);have ax4:Hid (k=0->coeffs.getD k 0=coeffs.getD 0 0):=by
    show k=0->_;rintro rfl;rfl
   clear hbad hstep;generalize hX:coeffs.getD k 0=x at*;have HX:=ay hX;clear hX;by_cases hxq:x<1073741789;case neg=>
    have Mz:=RA.out (.inl hxq);go_wp2_with (go_at_call 41;refine(vM false x _ (by simp<;>omega)).mono ?_;rintro e w' ⟨rfl,rfl⟩)
    refine bodyPost_ret (v:=.tuple #[.agg #[.int .i64 0,.int .i64 0,.slice none 0 0],.slice none 0 0,.int .i64 2]) (by simp[results,Try.results18,go_sem,World.cell?_setCell_same,bX,hc0,hc1,hc2]) rfl ?_;exact⟨by first|exact fM|exact fM.setCell nle _|exact((fM.setCell nle _).setCell nle _).setCell nle _,.inl ⟨by rw[Mz.out];omega,by rw[Mz.out]⟩⟩
   have hzero:∃bz,(x==0)=bz:=⟨_,rfl⟩;obtain⟨bz,hbz⟩:=hzero;by_cases Yb:k=0;case pos=>
    have hkz:((k:Int)==0)=true:=by rw[beq_iff_eq];omega
    have hx0:=ax4.out Yb;cases bz;case true=>
     have hxz:x=0:=by rwa [beq_iff_eq]at hbz
     have Mz:=RA.out (.inr ⟨Yb,hxz⟩);clear hxz hx0 Yb;go_wp2_with (go_at_call 41;refine(vM true x _ (by simp<;>omega)).mono ?_;rintro e w' ⟨rfl,rfl⟩)
     refine bodyPost_ret (v:=.tuple #[.agg #[.int .i64 0,.int .i64 0,.slice none 0 0],.slice none 0 0,.int .i64 2]) (by simp[results,Try.results18,go_sem,World.cell?_setCell_same,bX,hc0,hc1,hc2]) rfl ?_;exact⟨by first|exact fM|exact fM.setCell nle _|exact((fM.setCell nle _).setCell nle _).setCell nle _,.inl ⟨by rw[Mz.out];omega,by rw[Mz.out]⟩⟩
    case false=>
     have NZ:Hid (coeffs.getD 0 0≠0):=by
      show coeffs.getD 0 0≠0;rw[<-hx0];rw[beq_eq_false_iff_ne]at hbz;exact hbz
     clear hc0 hc1 hc2 hf0 QL hf2 hx0 Yb;go_wp2_with (first|(go_at_call 41;refine(vM true x _ (by simp<;>omega)).mono ?_;rintro e w' ⟨rfl,rfl⟩)|(at_builtin;refine wpList_append_own _ rfl (.tmp 61) (.tmp 63) _ rfl w.heap.size 76 i0 (.int .u64 0) 1 8 Try.underlying75 hi hz0 hz1 hz2 rfl (by decide) _ _ _ rfl (HO.out.alloc _) ⟨wr.heap.size,0,none⟩ 1 1 [.int .u64 x] rfl rfl (cell_one_new _ _ _) (by simp[cw]) (by unfold maxLen;omega) (by omega) (by have:=fM.size;simp<;>omega) ?_;intro v1 w1 hown1 hgrow1 _))
     have wK:=jk fM HO.out fM.size hgrow1;have uG:=jH hblk HO.out (by decide) hgrow1;have Ms:=jH kI HO.out (by decide) hgrow1;have CH:=yP Y8.out HO.out (by decide) hgrow1;clear hgrow1 fM hblk kI;have Ry:=ay hown1;have Na:=ay CH;clear hown1 CH;have hc2:=uG.cell 2;have hf2:=uG.frozen 2;have hsz1:=uG.lt;go_region_law (first|(go_simp;refine(FC x _ hxb.1 hxb.2).mono ?_;rintro e w' ⟨rfl,rfl⟩)|(refine step_append_lies _ (by rfl) (.tmp 66) (.tmp 69) _ (by rfl) w.heap.size 40 i1 (.int .u64 0) 1 8 Try.underlying29 hj hy0 hy1 hy2 rfl (by decide) (.slice A2 k c2) k _ (by rfl) (show(World.alloc w1.drew _).ownsRow _ _ _ _ _ _ from(show w1.drew.ownsRow _ _ _ _ _ _ from Na.out).alloc _) ⟨w1.heap.size,0,none⟩ 1 1 [.int .u64 (pw 4 x.toNat 2147483579)] (by rfl) rfl (cell_one_new _ _ _) (by simp[cw]) (by omega) (by unfold maxLen;omega) (by omega) (by have:=wK.size;simp<;>omega) (w1.heap.size+1) (by simp) ?_;intro g2 cap2 w2 hown2 hgrow2 a03 lU;have nJ:=jH (show ft w1.drew _ _ _ from uG) (show w1.drew.ownsRow _ _ _ _ _ _ from Na.out) (by decide) hgrow2;have aZ9:=nJ.cell 2;have aY9:=nJ.frozen 2))
     all_goals
      go_wp2_with fail
      refine⟨Km hlt (PE.out hxq) NZ.out HX.out Ry.out Na.out uG Ms wK hown2 hgrow2,?_⟩;simp[intOf]<;>omega
   case neg=>
    have hkz:((k:Int)==0)=false:=by rw[beq_eq_false_iff_ne];omega
    have NZ:=ay (HNZ.out (by omega));clear hc0 hc1 hc2 hf0 QL hf2;cases bz;all_goals
     go_wp2_with (first|(go_at_call 41;refine(vM true x _ (by simp<;>omega)).mono ?_;rintro e w' ⟨rfl,rfl⟩)|(at_builtin;refine wpList_append_own _ rfl (.tmp 61) (.tmp 63) _ rfl w.heap.size 76 i0 (.int .u64 0) 1 8 Try.underlying75 hi hz0 hz1 hz2 rfl (by decide) _ _ _ rfl (HO.out.alloc _) ⟨wr.heap.size,0,none⟩ 1 1 [.int .u64 x] rfl rfl (cell_one_new _ _ _) (by simp[cw]) (by unfold maxLen;omega) (by omega) (by have:=fM.size;simp<;>omega) ?_;intro v1 w1 hown1 hgrow1 _))
     have wK:=jk fM HO.out fM.size hgrow1;have uG:=jH hblk HO.out (by decide) hgrow1;have Ms:=jH kI HO.out (by decide) hgrow1;have CH:=yP Y8.out HO.out (by decide) hgrow1;clear hgrow1 fM hblk kI;have Ry:=ay hown1;have Na:=ay CH;clear hown1 CH;have hc2:=uG.cell 2;have hf2:=uG.frozen 2;have hsz1:=uG.lt;go_region_law (first|(go_simp;refine(FC x _ hxb.1 hxb.2).mono ?_;rintro e w' ⟨rfl,rfl⟩)|(refine step_append_lies _ (by rfl) (.tmp 66) (.tmp 69) _ (by rfl) w.heap.size 40 i1 (.int .u64 0) 1 8 Try.underlying29 hj hy0 hy1 hy2 rfl (by decide) (.slice A2 k c2) k _ (by rfl) (show(World.alloc w1.drew _).ownsRow _ _ _ _ _ _ from(show w1.drew.ownsRow _ _ _ _ _ _ from Na.out).alloc _) ⟨w1.heap.size,0,none⟩ 1 1 [.int .u64 (pw 4 x.toNat 2147483579)] (by rfl) rfl (cell_one_new _ _ _) (by simp[cw]) (by omega) (by unfold maxLen;omega) (by omega) (by have:=wK.size;simp<;>omega) (w1.heap.size+1) (by simp) ?_;intro g2 cap2 w2 hown2 hgrow2 a03 lU;have nJ:=jH (show ft w1.drew _ _ _ from uG) (show w1.drew.ownsRow _ _ _ _ _ _ from Na.out) (by decide) hgrow2;have aZ9:=nJ.cell 2;have aY9:=nJ.frozen 2))
     all_goals
      go_wp2_with fail
      refine⟨Km hlt (PE.out hxq) NZ.out HX.out Ry.out Na.out uG Ms wK hown2 hgrow2,?_⟩;simp[intOf]<;>omega
  ·obtain rfl:k=coeffs.length:=by omega
   have hE0:Hid (iO t N coeffs=0):=by
    show iO t N coeffs=0;rw[hE.out,if_neg];rintro (h|h)
    ·exact HNZ.out (by omega) h
    ·rw[HK.out]at h;cases h
   have hnl:=fW.own (k:=.u64) (l:=coeffs.take coeffs.length) (by rw[List.length_take,Nat.min_self];exact HO.out);rw[List.take_length]at hnl;have hnc:=fW.own (k:=.u64) (l:=comms coeffs coeffs.length) (by rw[rU coeffs nle];exact Y8.out);have HNL:=ay hnl;have HNC:=ay hnc;clear hnl hnc;obtain⟨wo,rfl⟩:∃wo:ae,wo=wr:=⟨_,rfl⟩;go_wp2_with fail
   go_loopw [15,16] (fun s i wr=>∃m:Nat,m<=N/\i=.int .i64 ((m:Int)+1)/\wr.ownsRow wo.heap.size 40 1 s m ((ky coeffs m).map (bU .u64))/\Below wo.heap.size wo wr) (fun _ i _=>((N:Int)+1-intOf i).toNat)
   case atStart=>exact⟨0,by omega,rfl,cy _ _ _ _,Below.refl _ _⟩
   case round=>
    obtain⟨m,hm,rfl,hs,mV⟩:=hrel;have HS:=ay hs;clear hs;by_cases hmN:m<N
    ·have hst:=ay (F4 coeffs m);have aE6:=ay (HNL.out.later mV);go_wp2_with (first|(go_at_call 44;refine(FZ _ _ (by omega) (by omega)).mono ?_;rintro e w' ⟨rfl,rfl⟩)|(go_at_call 43;refine(aN9 coeffs _ _ _ aE6.out hl).mono ?_;rintro e w' ⟨rfl,nq,rfl⟩)|(at_builtin;refine wpList_append_own _ rfl (.tmp 78) (.tmp 83) _ rfl wo.heap.size 40 i1 (.int .u64 0) 1 8 Try.underlying29 hj hy0 hy1 hy2 rfl (by decide) _ _ _ rfl ((jT HS.out nq).alloc _) ⟨wr.heap.size,0,none⟩ 1 1 [.int .u64 (rL coeffs ((m:Int)+1))] rfl rfl (cell_one_new _ _ _) (by simp[cw]) (by unfold maxLen;omega) (by omega) (by have:=mV.size;simp<;>omega) ?_;intro v3 w3 JL CO _))
     have Uq:=jk (below_drewN mV nq) (jT HS.out nq) mV.size CO;refine⟨⟨m+1,by omega,by go_num,?_,Uq⟩,?_⟩
     ·rw[hst.out,cB];exact JL
     ·simp[intOf]<;>omega
    ·obtain rfl:m=N:=by omega
     have nJ:=hblk.below mV hblk.lt;have lq:=kI.below mV kI.lt;have d0:wr.cell? ⟨w.heap.size+1,0,none⟩=some (.int .i64 t):=nJ.cell 0;have d1:wr.cell? ⟨w.heap.size+1,1,none⟩=some (.int .i64 (m:Int)):=nJ.cell 1;have d2:wr.cell? ⟨w.heap.size+1,2,none⟩=some (.slice A2 coeffs.length c2):=nJ.cell 2;have hc0:wr.cell? ⟨w.heap.size,0,none⟩=some (.int .i64 0):=lq.cell 0;have hc1:wr.cell? ⟨w.heap.size,1,none⟩=some (.int .i64 0):=lq.cell 1;have hc2:wr.cell? ⟨w.heap.size,2,none⟩=some (.slice none 0 0):=lq.cell 2;have hf0:=lq.frozen 0;have QL:=lq.frozen 1;have hf2:=lq.frozen 2;go_wp2_with fail
     refine bodyPost_ret (v:=.tuple #[.agg #[.int .i64 t,.int .i64 (m:Int),.slice A2 coeffs.length c2],u15,.int .i64 0]) (by simp[results,Try.results18,go_sem,World.cell?_setCell_same,bX,hc0,hc1,hc2]) rfl ?_;have hc':wr.ownsRow w.heap.size 40 1 (.slice A2 coeffs.length c2) coeffs.length ((comms coeffs coeffs.length).map (bU .u64)):=jc Y8.out mV nle;exact Pn (H0:=hE0.out) hc' HS.out lq (fM.trans (mV.mono fM.size))
def KN(t n:Int)(coeffs:List Int)(w:ae)(i:af)(wr:ae):Prop:=
 ∃k:Nat,∃vc:af,k<=coeffs.length/\i=.int .i64 k/\nN coeffs k=true/\
  wr.ownsRow w.heap.size 40 1 vc k ((comms coeffs k).map (bU .u64))/\
  ft wr (w.heap.size+1) 31 #[.int .i64 t,.int .i64 n,vc]/\ft wr w.heap.size 31 #[.int .i64 0,.int .i64 0,.slice none 0 0]/\Below w.heap.size w wr
theorem PZ{t n:Int}{coeffs:List Int}{w w1 w2:ae}{k:Nat}{x:Int}{vc:af}{A2:Option Addr}{c2 g2 cap2:Nat}{cs:Array af}(hlt:k<coeffs.length)
  (hok:nN coeffs (k+1)=true)(hx:coeffs.getD k 0=x)
  (h2:w1.ownsRow w.heap.size 40 1 (.slice A2 k c2) k ((comms coeffs k).map (bU .u64)))
  (b1:ft w1 (w.heap.size+1) 31 #[.int .i64 t,.int .i64 n,vc])(b0:ft w1 w.heap.size 31 #[.int .i64 0,.int .i64 0,.slice none 0 0])(hb:Below w.heap.size w w1)
  (h3:w2.ownsRow w.heap.size 40 1 (.slice (some ⟨g2,0,none⟩) (k+1) cap2) (k+1) ((comms coeffs k).map (bU .u64)++[.int .u64 (pw 4 x.toNat 2147483579)]))
  (hg:(w1.drew.alloc (.cells cs 40)).grownBy w2 (Value.slice A2 k c2).ownBlock):
  KN t n coeffs w (.int .i64 ((k:Int)+1)) (w2.setCell ⟨w.heap.size+1,2,none⟩ (.slice (some ⟨g2,0,none⟩) (k+1) cap2)):=by
 have h2':w1.drew.ownsRow w.heap.size 40 1 (.slice A2 k c2) k ((comms coeffs k).map (bU .u64)):=h2;have q2:=jH (show ft w1.drew _ _ _ from b1) h2' (by decide) hg;have g0:=jH (show ft w1.drew _ _ _ from b0) h2' (by decide) hg;have gb:=jk (show Below w.heap.size w w1.drew from hb.drew) h2' hb.size hg;refine⟨k+1,.slice (some ⟨g2,0,none⟩) (k+1) cap2,by omega,by go_num,hok,?_,?_,?_,gb.setCell (by show w.heap.size<=w.heap.size+1;omega) _⟩
 ·have:=mF h3 q2 (by decide) 2 (.slice (some ⟨g2,0,none⟩) (k+1) cap2)
  rw[wV coeffs hlt,cB,hx];exact this
 ·exact q2.iM 2 _
 ·exact g0.far (p:=⟨w.heap.size+1,2,none⟩) (by show w.heap.size≠w.heap.size+1;omega) _
theorem Iz(t:Int)(N:Nat)(coeffs:List Int)(v:af)(w:ae)(hv:fW .u64 w w.heap.size v coeffs)(hl:coeffs.length<=65536)
  (hcb:∀i,i<coeffs.length->0<=coeffs.getD i 0/\coeffs.getD i 0<18446744073709551616)(h1:2<=t)(h2:t<=N)(h3:N<=9)(h4:(coeffs.length:Int)=t):
  Calls dS 19 #[.int .i64 t,.int .i64 (N:Int),v] w (oN t N coeffs (oV coeffs N) w):=by
 have hv0:=ay hv;obtain⟨A,c,rfl,hc,hcell⟩:=hv;obtain⟨b,off,rfl,hb,hcells⟩:=hcell (by omega);have hcz:=hcells 0 (by omega);rw[Nat.add_zero]at hcz;have Nb:=ay hcb;have hE:Hid (iO t N coeffs=if coeffs.getD 0 0=0\/nN coeffs coeffs.length=false then 2 else 0):=by
  show iO t N coeffs=_;unfold iO;rw[if_neg (by omega)]
 have hne:((coeffs.length:Int) != t)=false:=by rw[bne_eq_false_iff_eq];exact h4
 have Ht:¬t<2:=by omega
 have hn2:¬(N:Int)<t:=by omega
 have hn3:¬9<(N:Int):=by omega
 have hlp:2<=coeffs.length:=by omega
 have Ad:coeffs.length<=9:=by omega
 have HC:=ay hcells;clear hcell hcells hcb h4;obtain⟨i1,hj,hy0,hy1,hy2⟩:=info_parts Cz;obtain⟨bz,hbz⟩:∃bz,(coeffs.getD 0 0==0)=bz:=⟨_,rfl⟩;have HBZ:=ay hbz;generalize Wb:coeffs.getD 0 0=x0 at*;have HX0:=ay Wb;clear Wb;have Ek:=eB w (.cells #[.int .i64 0,.int .i64 0,.slice none 0 0] 31);cases bz;case true=>
  have Mz:Hid (iO t N coeffs=2):=by
   show iO t N coeffs=2;rw[hE.out,if_pos (.inl (by have:=HBZ.out;rwa [beq_iff_eq]at this))]
  go_enter Try.func19,Try.ntmps19
  go_wp2_with fail
  refine bodyPost_ret (v:=.tuple #[.agg #[.int .i64 0,.int .i64 0,.slice none 0 0],.slice none 0 0,.int .i64 2]) (by simp[results,Try.results19,go_sem]) rfl ?_;exact⟨Ek,.inl ⟨by rw[Mz.out];omega,by rw[Mz.out]⟩⟩
 go_enter Try.func19,Try.ntmps19
 go_wp2_with fail
 go_loopw [42] (fun i wr=>KN t N coeffs w i wr) (fun i _=>coeffs.length-(intOf i).toNat)
 case atStart=>
  exact⟨0,.slice none 0 0,by omega,rfl,rfl,cy _ _ _ _,
   by simpa using ft.new (w.alloc (.cells #[.int .i64 0,.int .i64 0,.slice none 0 0] 31)) 31 #[.int .i64 t,.int .i64 (N:Int),.slice none 0 0],
   (ft.new w 31 #[.int .i64 0,.int .i64 0,.slice none 0 0]).alloc _,Ek.alloc (by simp) _⟩
 case round=>
  obtain⟨k,vc,hk,rfl,hok,CI,hblk,kI,fM⟩:=hrel;obtain⟨A2,c2,rfl⟩:=kz CI;have Y8:=ay CI;have HK:=ay hok;clear CI hok;by_cases hlt:k<coeffs.length
  ·have Bn:=(fM.cell (p:=⟨b,off+k,none⟩) hb).trans (HC.out k hlt);have hxb:=Nb.out k hlt;have hc0:wr.cell? ⟨w.heap.size,0,none⟩=some (.int .i64 0):=kI.cell 0;have hc1:wr.cell? ⟨w.heap.size,1,none⟩=some (.int .i64 0):=kI.cell 1;have hc2:wr.cell? ⟨w.heap.size,2,none⟩=some (.slice none 0 0):=kI.cell 2;have hf0:=kI.frozen 0;have QL:=kI.frozen 1;have hf2:=kI.frozen 2;have hbad:¬coeffs.getD k 0<1073741789->Hid (iO t N coeffs=2):=by
    intro h;show iO t N coeffs=2;rw[hE.out,if_pos (.inr (IQ coeffs hlt h))]
   have RA:=ay hbad;have hstep:coeffs.getD k 0<1073741789->nN coeffs (k+1)=true:=fun h=>EO coeffs HK.out h;have PE:=ay hstep;clear hbad hstep hcz;generalize hX:coeffs.getD k 0=x at*;have HX:=ay hX;clear hX;by_cases hxq:x<1073741789;case neg=>
    have Mz:=RA.out hxq;go_wp2_with fail
    refine bodyPost_ret (v:=.tuple #[.agg #[.int .i64 0,.int .i64 0,.slice none 0 0],.slice none 0 0,.int .i64 2]) (by simp[results,Try.results19,go_sem,World.cell?_setCell_same,bX,hc0,hc1,hc2]) rfl ?_;exact⟨by first|exact fM|exact fM.setCell nle _|exact((fM.setCell nle _).setCell nle _).setCell nle _,.inl ⟨by rw[Mz.out];omega,by rw[Mz.out]⟩⟩
   clear hc0 hc1 hc2 hf0 QL hf2;go_wp2_with fail
   have hc2:=hblk.cell 2;have hf2:=hblk.frozen 2;have hsz1:=hblk.lt;go_region_law (first|(go_simp;refine(SN x _ hxb.1 hxb.2).mono ?_;rintro e w' ⟨rfl,rfl⟩)|(refine step_append_lies _ (by rfl) (.tmp 50) (.tmp 53) _ (by rfl) w.heap.size 40 i1 (.int .u64 0) 1 8 Try.underlying29 hj hy0 hy1 hy2 rfl (by decide) (.slice A2 k c2) k _ (by rfl) (show(World.alloc wr.drew _).ownsRow _ _ _ _ _ _ from(show wr.drew.ownsRow _ _ _ _ _ _ from Y8.out).alloc _) ⟨wr.heap.size,0,none⟩ 1 1 [.int .u64 (pw 4 x.toNat 2147483579)] (by rfl) rfl (cell_one_new _ _ _) (by simp[cw]) (by omega) (by unfold maxLen;omega) (by omega) (by have:=fM.size;simp<;>omega) (wr.heap.size+1) (by simp) ?_;intro g2 cap2 w2 hown2 hgrow2 a03 lU;have nJ:=jH (show ft wr.drew _ _ _ from hblk) (show wr.drew.ownsRow _ _ _ _ _ _ from Y8.out) (by decide) hgrow2;have aZ9:=nJ.cell 2;have aY9:=nJ.frozen 2))
   all_goals
    go_wp2_with fail
    refine⟨PZ hlt (PE.out hxq) HX.out Y8.out hblk kI fM hown2 hgrow2,?_⟩;simp[intOf]<;>omega
  ·obtain rfl:k=coeffs.length:=by omega
   have hE0:Hid (iO t N coeffs=0):=by
    show iO t N coeffs=0;rw[hE.out,if_neg];rintro (h|h)
    ·have:=HBZ.out
     rw[beq_eq_false_iff_ne]at this;exact this h
    ·rw[HK.out]at h;cases h
   have hcs:=ay (fun i hi=>(⟨(Nb.out i hi).1,Gj coeffs hi HK.out⟩:0<=coeffs.getD i 0/\coeffs.getD i 0<1073741789));obtain⟨wo,rfl⟩:∃wo:ae,wo=wr:=⟨_,rfl⟩;have HNL:=ay (hv0.out.later fM);clear hcz;go_wp2_with fail
   go_loopw [12,13] (fun s i wr=>∃m:Nat,m<=N/\i=.int .i64 ((m:Int)+1)/\wr.ownsRow wo.heap.size 40 1 s m ((oV coeffs m).map (bU .u64))/\Below wo.heap.size wo wr) (fun _ i _=>((N:Int)+1-intOf i).toNat)
   case atStart=>exact⟨0,by omega,rfl,cy _ _ _ _,Below.refl _ _⟩
   case round=>
    obtain⟨m,hm,rfl,hs,mV⟩:=hrel;have HS:=ay hs;clear hs;by_cases hmN:m<N
    ·have hst:=ay (F3 coeffs m);have aE6:=ay (HNL.out.later mV);go_wp2_with (first|(go_at_call 46;refine(SL coeffs _ _ _ aE6.out hl (by omega) (by omega) hcs.out).mono ?_;rintro e w' ⟨rfl,rfl⟩)|(at_builtin;refine wpList_append_own _ rfl (.tmp 62) (.tmp 67) _ rfl wo.heap.size 40 i1 (.int .u64 0) 1 8 Try.underlying29 hj hy0 hy1 hy2 rfl (by decide) _ _ _ rfl (HS.out.alloc _) ⟨wr.heap.size,0,none⟩ 1 1 [.int .u64 (Ix coeffs ((m:Int)+1) coeffs.length)] rfl rfl (cell_one_new _ _ _) (by simp[cw]) (by unfold maxLen;omega) (by omega) (by have:=mV.size;simp<;>omega) ?_;intro v3 w3 JL CO _))
     have Uq:=jk mV HS.out mV.size CO;refine⟨⟨m+1,by omega,by go_num,?_,Uq⟩,?_⟩
     ·rw[hst.out,cB];exact JL
     ·simp[intOf]<;>omega
    ·obtain rfl:m=N:=by omega
     have nJ:=hblk.below mV hblk.lt;have lq:=kI.below mV kI.lt;have d0:wr.cell? ⟨w.heap.size+1,0,none⟩=some (.int .i64 t):=nJ.cell 0;have d1:wr.cell? ⟨w.heap.size+1,1,none⟩=some (.int .i64 (m:Int)):=nJ.cell 1;have d2:wr.cell? ⟨w.heap.size+1,2,none⟩=some (.slice A2 coeffs.length c2):=nJ.cell 2;have hc0:wr.cell? ⟨w.heap.size,0,none⟩=some (.int .i64 0):=lq.cell 0;have hc1:wr.cell? ⟨w.heap.size,1,none⟩=some (.int .i64 0):=lq.cell 1;have hc2:wr.cell? ⟨w.heap.size,2,none⟩=some (.slice none 0 0):=lq.cell 2;have hf0:=lq.frozen 0;have QL:=lq.frozen 1;have hf2:=lq.frozen 2;go_wp2_with fail
     refine bodyPost_ret (v:=.tuple #[.agg #[.int .i64 t,.int .i64 (m:Int),.slice A2 coeffs.length c2],u12,.int .i64 0]) (by simp[results,Try.results19,go_sem,World.cell?_setCell_same,bX,hc0,hc1,hc2]) rfl ?_;have hc':wr.ownsRow w.heap.size 40 1 (.slice A2 coeffs.length c2) coeffs.length ((comms coeffs coeffs.length).map (bU .u64)):=jc Y8.out mV nle;exact Pn (H0:=hE0.out) hc' HS.out lq (fM.trans (mV.mono fM.size))
end Dea
namespace Lev
open Go.RowKit Go.Conc Pl Mem
section
variable{H:Type}{enc:aj×af->H}
end
def bb7(k:IntKind)(w:ae)(a:Option Addr)(len cap:Nat)(zs:List Int):Prop:=
 (a=none/\len=0/\cap=0/\zs=[])\/
 ∃x,a=some x/\len<=cap/\cap<=maxLen/\zs.length=cap/\(∀i,i<zs.length->w.cell? (x.add i)=some (.int k (zs.getD i 0)))/\∀n∈zs,(Lit.int k n).wf=true
theorem kY{k:IntKind}{w:ae}{B:Nat}{v:af}{l:List Int}(h:fW k w B v l):∃A c,v=.slice A l.length c:=by
 obtain⟨A,c,rfl,_⟩:=h;exact⟨A,c,rfl⟩
theorem wf_u64{n:Int}(h:(Lit.int .u64 n).wf=true):0<=n/\n<18446744073709551616:=by
 have:=bounds_u64 h;omega
theorem wf_i64{n:Int}(h:(Lit.int .i64 n).wf=true): -9223372036854775808<=n/\n<=9223372036854775807:=bounds_i64 h
theorem Yv{k:IntKind}{l:List Int}(h:∀n∈l,(Lit.int k n).wf=true){i:Nat}(hi:i<l.length):(Lit.int k (l.getD i 0)).wf=true:=by
 rw[List.getD_eq_getElem?_getD,aN hi];exact h _ (List.getElem_mem hi)
end Lev
namespace Nf
open Go.RowKit Pl mJ uU Mem Lev ng Dea
theorem EH(l:List Int)(u v:af)(w:ae)(hu:fW .u64 w w.heap.size u l)(hv:fW .u64 w w.heap.size v l)(hl:l.length<=65536):
  Calls dS 20 #[u,v] w fun e w'=>e=.returned (.bool true)/\Below w.heap.size w w':=by
 obtain⟨A,c,rfl,hc,hcell⟩:=hu;obtain⟨A2,c2,rfl,hc2,CU⟩:=hv;have HC:=ay hcell;have HC2:=ay CU;have hne:((l.length:Int) != (l.length:Int))=false:=by rw[bne_eq_false_iff_eq]
 clear hcell CU;go_enter Try.func20,Try.ntmps20
 go_wp2_with fail
 go_loopw [13] (fun i wr=>∃k m:Nat,k<=l.length/\i=.int .i64 k/\wr=w.drewN m) (fun i _=>l.length-(intOf i).toNat)
 case atStart=>exact⟨0,0,by omega,rfl,rfl⟩
 case round=>
  obtain⟨k,m,hk,rfl,rfl⟩:=hrel;by_cases hlt:k<l.length
  ·obtain⟨b,off,rfl,hb,hcells⟩:=HC.out (by omega);obtain⟨b2,IU,rfl,hb2,yi⟩:=HC2.out (by omega);have Bn:=hcells k hlt;have bv7:=yi k hlt;have hxx:(l.getD k 0 != l.getD k 0)=false:=by rw[bne_eq_false_iff_eq]
   clear hcells yi;generalize l.getD k 0=x at*;go_wp2_with fail
   go_quiet (fail)
   go_wp2_with fail
   refine⟨⟨k+1,_,by omega,by go_num,rfl⟩,?_⟩;simp[intOf]<;>omega
  ·obtain rfl:k=l.length:=by omega
   go_wp2_with fail
   go_ret
   exact⟨rfl,below_drewN bre m⟩
theorem U5(t n:Int)(coeffs:List Int)(v:af)(w:ae)(hv:fW .u64 w w.heap.size v coeffs)(hl:coeffs.length<=65536)
  (hcb:∀i,i<coeffs.length->0<=coeffs.getD i 0/\coeffs.getD i 0<18446744073709551616):
  Calls dS 18 #[.int .i64 t,.int .i64 n,v] w (oN t n coeffs (ky coeffs n.toNat) w):=by
 by_cases h:t<2\/n<t\/9<n\/(coeffs.length:Int)≠t
 ·exact YH t n coeffs _ v w hv hl h
 ·obtain⟨N,rfl⟩:=cn (show 0<=n by omega);exact U4 t N coeffs v w hv hl hcb (by omega) (by omega) (by omega) (by omega)
theorem IA(t n:Int)(coeffs:List Int)(v:af)(w:ae)(hv:fW .u64 w w.heap.size v coeffs)(hl:coeffs.length<=65536)
  (hcb:∀i,i<coeffs.length->0<=coeffs.getD i 0/\coeffs.getD i 0<18446744073709551616):
  Calls dS 19 #[.int .i64 t,.int .i64 n,v] w (oN t n coeffs (oV coeffs n.toNat) w):=by
 by_cases h:t<2\/n<t\/9<n\/(coeffs.length:Int)≠t
 ·exact LF t n coeffs _ v w hv hl h
 ·obtain⟨N,rfl⟩:=cn (show 0<=n by omega);exact Iz t N coeffs v w hv hl hcb (by omega) (by omega) (by omega) (by omega)
end Nf
namespace Kn
open Go.RowKit Go.Conc Pl Mem Cc
def jK(y:Nat->af):Array af:=#[y 0,y 1,y 2,y 3,y 4,y 5,y 6,y 7,y 8,y 9,y 10,y 11,y 12,y 13,y 14,y 15,y 16,y 17,y 18,y 19,y 20,y 21,y 22,y 23,y 24,y 25,y 26,y 27,y 28,y 29,y 30,y 31,y 32,y 33,y 34,y 35,y 36,y 37,y 38,y 39,y 40,y 41,y 42,y 43,y 44,y 45,y 46,y 47,y 48,y 49,y 50,y 51,y 52,y 53,y 54,y 55,y 56,y 57,y 58,y 59,y 60,y 61,y 62,y 63,y 64,y 65,y 66,y 67,y 68,y 69,y 70,y 71,y 72,y 73,y 74,y 75,y 76,y 77,y 78,y 79,y 80,y 81,y 82,y 83,y 84,y 85,y 86,y 87,y 88,y 89,y 90,y 91,y 92,y 93,y 94,y 95,y 96,y 97,y 98,y 99,y 100,y 101,y 102,y 103,y 104,y 105,y 106,y 107,y 108,y 109,y 110,y 111,y 112,y 113,y 114,y 115,y 116,y 117,y 118,y 119,y 120,y 121,y 122,y 123,y 124,y 125,y 126,y 127,y 128,y 129,y 130,y 131,y 132,y 133,y 134,y 135,y 136,y 137,y 138,y 139,y 140,y 141,y 142,y 143,y 144,y 145,y 146,y 147,y 148,y 149,y 150,y 151,y 152,y 153,y 154,y 155,y 156,y 157,y 158,y 159,y 160,y 161,y 162,y 163,y 164,y 165,y 166,y 167,y 168,y 169,y 170,y 171,y 172,y 173,y 174,y 175,y 176,y 177,y 178,y 179,y 180,y 181,y 182,y 183,y 184,y 185,y 186,y 187,y 188,y 189,y 190,y 191,y 192,y 193,y 194,y 195,y 196,y 197,y 198,y 199,y 200,y 201,y 202,y 203,y 204,y 205,y 206,y 207,y 208,y 209,y 210,y 211,y 212,y 213,y 214,y 215,y 216,y 217,y 218,y 219,y 220,y 221,y 222,y 223,y 224,y 225,y 226,y 227,y 228,y 229,y 230,y 231,y 232,y 233,y 234,y 235,y 236,y 237,y 238,y 239,y 240,y 241,y 242,y 243,y 244,y 245,y 246,y 247,y 248,y 249,y 250,y 251,y 252,y 253,y 254,y 255,y 256,y 257,y 258,y 259,y 260,y 261,y 262,y 263,y 264,y 265,y 266,y 267,y 268,y 269,y 270]
theorem oa(T:Array af)(h:T.size=271):∃y:Nat->af,T=jK y/\∀i v,T[i]?=some v->y i=v:=by
 refine⟨fun i=>T.getD i av,?_,fun i v hv=>?_⟩
 ·have e:T=((bq 271).map fun i=>T.getD i av).toArray:=by
   refine Array.ext (by simp[h]) fun i h1 h2=>?_;simp[Array.getD,h1]
  exact e.trans rfl
 ·simp only[Array.getD];split
  ·rename_i hlt;rw[Array.getElem?_eq_getElem hlt]at hv;exact Option.some.inj hv
  ·rename_i hlt;rw[Array.getElem?_eq_none (by omega)]at hv;cases hv
noncomputable def iZ:Code:=Try.f9.body.getD .skip
def lay(k:IntKind)(t:aj)(w:ae):List (List Int)->ae
 |[]=>w
 |l::L=>lay k t (w.alloc (.cells (l.map (bU k)).toArray t)) L
theorem Cn(k:IntKind)(t:aj):∀(L:List (List Int)) (w:ae),(lay k t w L).heap.size=w.heap.size+L.length
 |[],w=>rfl
 |l::L,w=>by rw[lay,Cn k t L];simp<;>omega
theorem Lc6(k:IntKind)(t:aj):∀(L:List (List Int)) (w:ae),Below w.heap.size w (lay k t w L)
 |[],w=>Below.refl _ _
 |l::L,w=>by
  have hb:Below w.heap.size w (w.alloc (.cells (l.map (bU k)).toArray t)):=bre.alloc nle _;exact hb.trans ((Lc6 k t L _).mono hb.size)
theorem Co(k:IntKind)(t:aj):∀(L:List (List Int)) (w:ae) (j:Nat) (l:List Int),L[j]?=some l->fW k (lay k t w L) (lay k t w L).heap.size (.slice (some ⟨w.heap.size+j,0,none⟩) l.length l.length) l
 |[],w,j,l,h=>by cases h
 |l0::L,w,0,l,h=>by
  simp at h;subst h;have h1:=fW.lit (k:=k) w l0 t;have h2:fW k (w.alloc (.cells (l0.map (bU k)).toArray t)) (w.alloc (.cells (l0.map (bU k)).toArray t)).heap.size (.slice (some ⟨w.heap.size,0,none⟩) l0.length l0.length) l0:=h1.more (by simp);exact h2.later (Lc6 k t L _)
 |l0::L,w,j+1,l,h=>by
  have h1:=Co k t L (w.alloc (.cells (l0.map (bU k)).toArray t)) j l (by simpa using h);rw[show(w.alloc (.cells (l0.map (bU k)).toArray t)).heap.size+j=w.heap.size+(j+1) by simp<;>omega]at h1;exact h1
end Kn
namespace Kn
open Go.RowKit Go.Conc Pl Mem Cc mJ Nf Dea
def MN:List (Int×Int×List Int×Int):=[(1,3,[5],1),(4,3,[1,2,3,4],1),(2,10,[1,2],1),(2,3,[1],1),(2,3,[1,2,3],1),(2,3,[0,2],2),(2,3,[1073741789,2],2),(2,3,[1,1073741789],2),(2,2,[1073741788,0],0),(9,9,[1,2,3,4,5,6,7,8,9],0)]
def wh:List (List Int):=MN.map fun r=>r.2.2.1
noncomputable def GA:Code:=match(eK 3 iZ).2 with|.seq a _=>a|_=>.skip
def uO(B:Nat):Array af:=#[.int .i64 1,.int .i64 3,.slice (some ⟨B+0,0,none⟩) 1 1,.int .i64 1,.int .i64 4,.int .i64 3,.slice (some ⟨B+1,0,none⟩) 4 4,.int .i64 1,.int .i64 2,.int .i64 10,.slice (some ⟨B+2,0,none⟩) 2 2,.int .i64 1,.int .i64 2,.int .i64 3,.slice (some ⟨B+3,0,none⟩) 1 1,.int .i64 1,.int .i64 2,.int .i64 3,.slice (some ⟨B+4,0,none⟩) 3 3,.int .i64 1,.int .i64 2,.int .i64 3,.slice (some ⟨B+5,0,none⟩) 2 2,.int .i64 2,.int .i64 2,.int .i64 3,.slice (some ⟨B+6,0,none⟩) 2 2,.int .i64 2,.int .i64 2,.int .i64 3,.slice (some ⟨B+7,0,none⟩) 2 2,.int .i64 2,.int .i64 2,.int .i64 2,.slice (some ⟨B+8,0,none⟩) 2 2,.int .i64 0,.int .i64 9,.int .i64 9,.slice (some ⟨B+9,0,none⟩) 9 9,.int .i64 0]
theorem YL:∀r∈MN,iO r.1 r.2.1 r.2.2.1=r.2.2.2/\r.2.2.1.length<=9/\(∀i,i<r.2.2.1.length->0<=r.2.2.1.getD i 0/\r.2.2.1.getD i 0<18446744073709551616)/\0<r.2.1:=by decide+kernel
theorem Q7(B:Nat):∀j r,MN[j]?=some r->(uO B)[j*4]?=some (.int .i64 r.1)/\(uO B)[j*4+1]?=some (.int .i64 r.2.1)/\(uO B)[j*4+2]?=some (.slice (some ⟨B+j,0,none⟩) r.2.2.1.length r.2.2.1.length)/\(uO B)[j*4+3]?=some (.int .i64 r.2.2.2):=by
 intro j r h;have hlt:=(List.getElem?_eq_some_iff.1 h).1;have:j=0\/j=1\/j=2\/j=3\/j=4\/j=5\/j=6\/j=7\/j=8\/j=9:=by
  have:MN.length=10:=rfl
  omega
 rcases this with rfl|rfl|rfl|rfl|rfl|rfl|rfl|rfl|rfl|rfl<;>(cases h;exact⟨rfl,rfl,rfl,rfl⟩)
structure aF8(w:ae)(tb:Nat)(w':ae):Prop where
 bel:Below w.heap.size w w'
 blk:ft w' tb 54 (uO w.heap.size)
 nums:∀j r,MN[j]?=some r->fW .u64 w' w'.heap.size (.slice (some ⟨w.heap.size+j,0,none⟩) r.2.2.1.length r.2.2.1.length) r.2.2.1
theorem bA2(w:ae):aF8 w (w.heap.size+10) ((lay .u64 40 w wh).alloc (.cells (uO w.heap.size) 54)):=by
 have hs:=Cn .u64 40 wh w;have hb:=Lc6 .u64 40 wh w;have hn:Below (lay .u64 40 w wh).heap.size (lay .u64 40 w wh) ((lay .u64 40 w wh).alloc (.cells (uO w.heap.size) 54)):=bre.alloc nle _;refine⟨hb.trans (hn.mono hb.size),?_,fun j r hj=>?_⟩
 ·have:=ft.new (lay .u64 40 w wh) 54 (uO w.heap.size)
  rw[hs]at this;exact this
 ·have jz:wh[j]?=some r.2.2.1:=by unfold wh;rw[List.getElem?_map,hj];rfl
  exact(Co .u64 40 wh w j _ jz).later hn
noncomputable def at7:Code:=match GA with|.seq a _=>a|_=>.skip
noncomputable def au6:Code:=match GA with|.seq _ a=>a|_=>.skip
theorem au3{w:ae}{y:Nat->af}:at7.wp dS (fun e a w'=>e=.normal/\a.defers=[]/\a.tmps.size=271/\a.tmps[1]?=some (y 1)/\a.tmps[2]?=some (y 2)/\a.tmps[88]?=some (.slice (some ⟨w.heap.size+10,0,none⟩) 10 10)/\a.tmps[89]?=some (.int .i64 10)/\a.tmps[90]?=some (.int .i64 0)/\aF8 w (w.heap.size+10) w') ⟨jK y,[]⟩ w:=by
 have HD:=ay (bA2 w);simp only[at7,GA,iZ,eK,Try.f9,Option.getD_some,jK];go_wp2_with fail
 repeat' (first|exact HD.out|exact rfl|refine And.intro ?_ ?_)
theorem XV{w w0:ae}{y:Nat->af}{tb:Nat}(y88:y 88=.slice (some ⟨tb,0,none⟩) 10 10)(y89:y 89=.int .i64 10)(y90:y 90=.int .i64 0)(hD:aF8 w0 tb w):au6.wp dS (fun e a w'=>e=.normal/\a.defers=[]/\a.tmps.size=271/\a.tmps[1]?=some (y 1)/\a.tmps[2]?=some (y 2)/\Below w.heap.size w w') ⟨jK y,[]⟩ w:=by
 have HD:=ay hD;clear hD;simp only[au6,GA,iZ,eK,Try.f9,Option.getD_some,jK,y88,y89,y90];obtain⟨W,rfl⟩:∃W:ae,W=w:=⟨_,rfl⟩;go_wp2_with fail
 go_loopw [90] (fun i wr=>∃j:Nat,j<=10/\i=.int .i64 j/\Below W.heap.size W wr) (fun i _=>10-(intOf i).toNat)
 case atStart=>exact⟨0,by omega,rfl,Below.refl _ _⟩
 case round=>
  obtain⟨j,hj,rfl,fM⟩:=hrel;by_cases hlt:j<10
  ·obtain⟨r,hr⟩:∃r,MN[j]?=some r:=⟨MN[j],aN hlt⟩;obtain⟨c0,c1,c2,c3⟩:=Q7 w0.heap.size j r hr;have hm:=YL r (List.mem_of_getElem? hr);have hblk:=HD.out.blk.below fM HD.out.blk.lt;have iC:=(HD.out.nums j r hr).later fM;have k0:wr.cell? ⟨tb,j*4,none⟩=some (.int .i64 r.1):=by rw[hblk.cell];exact c0
   have k1:wr.cell? ⟨tb,j*4+1,none⟩=some (.int .i64 r.2.1):=by rw[hblk.cell];exact c1
   have k2:wr.cell? ⟨tb,j*4+2,none⟩=some (.slice (some ⟨w0.heap.size+j,0,none⟩) r.2.2.1.length r.2.2.1.length):=by rw[hblk.cell];exact c2
   have k3:wr.cell? ⟨tb,j*4+3,none⟩=some (.int .i64 r.2.2.2):=by rw[hblk.cell];exact c3
   have HM:=ay hm;have Hj:=ay iC;have zz:=ay fM;have q1:(j:Int)<10:=by omega
   have q2:(0:Int)<=(j:Int)/\(j:Int)<10:=by omega
   clear hm iC fM hblk c0 c1 c2 c3 hr;obtain⟨T,N,L,E⟩:=r;simp only at k0 k1 k2 k3 HM Hj;generalize w0.heap.size+j=sb at*;have zL:Below wr.heap.size wr (wr.alloc (.cells #[.int .i64 T,.int .i64 N,.slice (some ⟨sb,0,none⟩) L.length L.length,.int .i64 E] 54)):=bre.alloc nle _;have rC:=ay zL;have tH:=ay (ft.new wr 54 #[.int .i64 T,.int .i64 N,.slice (some ⟨sb,0,none⟩) L.length L.length,.int .i64 E]);clear zL;go_wp2_with fail
   refine(U5 T N L _ _ (Hj.out.later rC.out) (by have:=HM.out.2.1;omega) HM.out.2.2.1).mono ?_;rintro e w2 ⟨kg,hres⟩;rw[HM.out.1]at hres;have hN:=HM.out.2.2.2;have lU:wr.heap.size<(wr.alloc (.cells #[.int .i64 T,.int .i64 N,.slice (some ⟨sb,0,none⟩) L.length L.length,.int .i64 E] 54)).heap.size:=by simp
   have b1:w2.cell? ⟨wr.heap.size,1,none⟩=some (.int .i64 N):=(kg.cell (p:=⟨wr.heap.size,1,none⟩) lU).trans (tH.out.cell 1);have b3:w2.cell? ⟨wr.heap.size,3,none⟩=some (.int .i64 E):=(kg.cell (p:=⟨wr.heap.size,3,none⟩) lU).trans (tH.out.cell 3);have vJ:=ay (zz.out.trans ((rC.out.trans (kg.mono rC.out.size)).mono zz.out.size));have tEE:(E != E)=false:=by rw[bne_eq_false_iff_eq]
   have n1:wr.heap.size<w2.heap.size:=by have:=kg.size;omega
   generalize wr.heap.size=bx at*;clear kg tH rC zz Hj HM;rcases hres with⟨h1,rfl⟩|⟨h1,vc,vs,rfl,h2,h3⟩
   ·have t1:(E==0)=false:=by rw[beq_eq_false_iff_ne];exact h1
    have t2:(E != 0)=true:=by rw[bne_iff_ne];exact h1
    have t3:((0:Int)==N)=false:=by rw[beq_eq_false_iff_ne];omega
    go_wp2_with fail
    exact⟨⟨j+1,by omega,by go_num,vJ.out.alloc vJ.out.size _⟩,by simp[intOf]<;>omega⟩
   ·obtain⟨A2,c2,rfl,-⟩:=h3;obtain⟨A3,c3,rfl,-⟩:=h2;have hl:(ky L N.toNat).length=N.toNat:=tL L _;rw[hl];have t3:(((N.toNat:Nat):Int)==N)=true:=by rw[beq_iff_eq];omega
    subst h1;clear hl;go_wp2_with fail
    exact⟨⟨j+1,by omega,by go_num,vJ.out.alloc vJ.out.size _⟩,by simp[intOf]<;>omega⟩
  ·obtain rfl:j=10:=by omega
   go_wp2_with fail
   repeat' (first|exact fM|exact rfl|refine And.intro ?_ ?_)
end Kn
namespace Chk
open Go.RowKit Pl mJ nG uU Mem ng RB Lc
theorem Vf(t n:Int)(cs:List Int)(v:af)(id share:Int)(w:ae)(hv:fW .u64 w w.heap.size v cs)(hl:cs.length<=65536)(hcb:∀i,i<cs.length->0<=cs.getD i 0)
  (hs:0<=share/\share<18446744073709551616):
  Calls dS 30 #[.agg #[.int .i64 t,.int .i64 n,v],.int .i64 id,.int .u64 share] w fun e w'=>e=.returned (.tuple #[.bool (lW t n cs id share),.int .i64 (iw t n cs id share)])/\Below w.heap.size w w':=by
 have fM:=eB w (.cells #[.int .i64 t,.int .i64 n,v] 31);have hof:=ofC t n cs v _ (hv.later fM) hl hcb;have HOF:=ay hof;have zz:=ay fM;obtain⟨A,c,rfl,-⟩:=hv;clear hof fM;obtain⟨hs0,hs1⟩:=hs;go_enter Try.func30,Try.ntmps30
 go_wp2_with fail
 refine HOF.out.mono ?_;rintro e w1 ⟨wK,⟨hok,rfl⟩|⟨hok,g,vc,rfl,hg,hG,hO⟩⟩
 ·have hE:=ay (GZ (id:=id) (share:=share) hok);have hF:=ay (rW (t:=t) (n:=n) (cs:=cs) (id:=id) (share:=share) (by rw[hE.out];omega));clear hok;go_wp2_with fail
  go_ret2
  exact⟨by rw[hE.out,hF.out];rfl,zz.out.trans (wK.mono (by simp))⟩
 have zf:Below w.heap.size w w1:=zz.out.trans (wK.mono (by simp));have aV2:=kE hok;have hat:=ay (fun j (hj:j<cs.length)=>rS hok hj);obtain⟨s1,s2,s3,s4,s5,s6⟩:=aV2;have hg':w.heap.size<=g:=by simp at hg<;>omega
 obtain⟨c0,c1,c2,c3,c4⟩:=hG.cells;have HG:=ay hG;have HO:=ay hO;have HW:=ay zf;clear hG hO zf wK hg s5 s6 c0 c2 c3 c4;obtain⟨b1,e1⟩:∃b,decide (share<1073741789)=b:=⟨_,rfl⟩;have E1:=ay e1;clear e1;by_cases c1:id<1;case pos=>
  have hE:=ay (Fz (id:=id) (share:=share) hok (.inl c1));have hF:=ay (rW (t:=t) (n:=n) (cs:=cs) (id:=id) (share:=share) (by rw[hE.out];omega));clear hok;cases b1;all_goals
   go_wp2_with (go_at_call 41;refine(vM _ share _ E1.out).mono ?_;rintro e w' ⟨rfl,rfl⟩)
   go_ret2
   exact⟨by rw[hE.out,hF.out];rfl,HW.out⟩
 by_cases c2:n<id;case pos=>
  have hE:=ay (Fz (id:=id) (share:=share) hok (.inr c2));have hF:=ay (rW (t:=t) (n:=n) (cs:=cs) (id:=id) (share:=share) (by rw[hE.out];omega));clear hok;cases b1;all_goals
   go_wp2_with (go_at_call 41;refine(vM _ share _ E1.out).mono ?_;rintro e w' ⟨rfl,rfl⟩)
   go_ret2
   exact⟨by rw[hE.out,hF.out];rfl,HW.out⟩
 cases b1;case false=>
  have hE:=ay (Ra (id:=id) (share:=share) hok (by omega) (by have:=E1.out;rw[decide_eq_false_iff_not]at this;omega));have hF:=ay (rW (t:=t) (n:=n) (cs:=cs) (id:=id) (share:=share) (by rw[hE.out];omega));clear hok;go_wp2_with (go_at_call 41;refine(vM _ share _ E1.out).mono ?_;rintro e w' ⟨rfl,rfl⟩)
  go_ret2
  exact⟨by rw[hE.out,hF.out];rfl,HW.out⟩
 have hE:=ay (Rc (id:=id) (share:=share) hok (by omega) (by have:=E1.out;rw[decide_eq_true_iff]at this;omega));have hF:=ay (Rf hE.out);obtain⟨N,rfl⟩:=cn (show 0<=n by omega);have hsh:=ay (aj5 g t N vc cs _ id w1 HG.out HO.out (by omega) (by omega) (by omega) hat.out (by omega) (by omega));clear hok;go_wp2_with (first|(go_at_call 41;refine(vM _ share _ E1.out).mono ?_;rintro e w' ⟨rfl,rfl⟩)|(go_at_call 42;refine(FC share _ hs0 hs1).mono ?_;rintro e w' ⟨rfl,rfl⟩)|(go_at_call 66;refine hsh.out.mono ?_;rintro e w2 ⟨rfl,hG2,hgr⟩))
 go_ret2
 exact⟨by rw[hE.out,hF.out];rfl,HW.out.trans (En hgr hg' HW.out.size)⟩
end Chk
namespace Odr
open Pl
def sq(odd:Bool)(a m h:Int):Int:=if odd then h*h%m*a%m else h*h%m
def fq(a m:Int):List Bool->Int
 |[]=>1
 |b::l=>sq b a m (fq a m l)
def val:List Bool->Nat
 |[]=>0
 |b::l=>2*val l+(if b then 1 else 0)
theorem ad4(a:Int){m:Int}(hm:1<m)(l:List Bool):fq a m l=pw a (val l) m:=by
 induction l with
 |nil=>exact(Gd a hm).symm
 |cons b l ih=>
  cases b with
  |false=>
   rw[NC a (val (false::l)) m (by simp[val])];have e:val (false::l)/2=val l:=by simp[val]
   rw[e,<-ih];rfl
  |true=>
   rw[SX a (val (true::l)) m (by simp[val])];have e:val (true::l)/2=val l:=by simp[val]<;>omega
   rw[e,<-ih];rfl
def Zz:List Bool:=[true,false,true,true,true,false,true,true,true,true,true,true,true,true,true,true,true,true,true,true,true,true,true,true,true,true,true,true,true,true]
theorem GM:pw 4 qq 2147483579=1:=by
 have h:val Zz=qq:=by decide
 have h2:fq 4 2147483579 Zz=1:=kr
 rw[<-h,<-ad4 4 (by omega)];exact h2
theorem LM(a:Int)(k n:Nat)(m:Int):pw a (k+n) m=pw a k m*pw a n m%m:=(wE a k n m).symm
theorem P7(a:Int)(k n:Nat)(m:Int):pw a (k*n) m=pw (pw a k m) n m:=by
 unfold pw;rw[pow_mod,Int.pow_mul]
theorem al0(n:Nat){m:Int}(h:1<m):pw 1 n m=1:=by unfold pw;rw[Int.one_pow];exact Int.emod_eq_of_lt (by omega) h
theorem EK{a m:Int}{k:Nat}(hm:1<m)(h:pw a k m=1)(n:Nat):pw a n m=pw a (n%k) m:=by
 conv=>lhs;rw[<-Nat.mod_add_div n k]
 rw[LM,P7,h,al0 _ hm,Int.mul_one];unfold pw;exact Int.emod_emod_of_dvd _ (Int.dvd_refl m)
theorem al1{a m:Int}(hm:1<m)(j k:Nat):pw a j m=1->pw a k m=1->pw a (Nat.gcd j k) m=1:=by
 induction j,k using Nat.gcd.induction with
 |H0 n=>intro _ h;rw[Nat.gcd_zero_left];exact h
 |H1 j k hj ih=>
  intro h1 h2;rw[Nat.gcd_rec];exact ih (by rw[<-EK hm h1];exact h2) h1
def NQ(m lo:Nat):Nat->Bool
 |0=>true
 |n+1=>!(Nat.beq (m%(lo+n)) 0)&&NQ m lo n
def Gm(m:Nat):Nat->Bool
 |0=>true
 |b+1=>NQ m (256*b+2) 256&&Gm m b
theorem LW(m lo n:Nat)(h:NQ m lo n=true){d:Nat}(h1:lo<=d)(h2:d<lo+n):m%d≠0:=by
 induction n with
 |zero=>omega
 |succ n ih=>
  rw[NQ,aD]at h;rcases bw d (lo+n)with hlt|hge
  ·exact ih h.2 hlt
  ·obtain rfl:d=lo+n:=by omega
   intro h0;rw[h0]at h;simp at h
theorem zG(m b:Nat)(h:Gm m b=true){d:Nat}(h1:2<=d)(h2:d<256*b+2):m%d≠0:=by
 induction b with
 |zero=>omega
 |succ b ih=>
  rw[Gm,aD]at h;rcases bw d (256*b+2)with hlt|hge
  ·exact ih h.2 hlt
  ·exact LW m _ 256 h.1 hge (by omega)
theorem EJ:Gm qq 128=true:=kr
theorem SV{d:Nat}(h:d ∣ qq):d=1\/d=qq:=by
 obtain⟨e,he⟩:=h;have hq:qq=1073741789:=rfl;have hd0:0<d:=by
  rcases Nat.eq_zero_or_pos d with h0|h0
  ·rw[h0,Nat.zero_mul]at he;omega
  ·exact h0
 have Un:0<e:=by
  rcases Nat.eq_zero_or_pos e with h0|h0
  ·rw[h0,Nat.mul_zero]at he;omega
  ·exact h0
 by_cases h1:d=1
 ·exact .inl h1
 by_cases h2:e=1
 ·right;rw[h2,Nat.mul_one]at he;exact he.symm
 exfalso;rcases Nat.le_total d e with hle|hle
 ·have hs:d<256*128+2:=by
   rcases bw d (256*128+2)with h|h
   ·exact h
   ·have:=Nat.mul_le_mul h (aY h hle)
    omega
  exact zG qq 128 EJ (by omega) hs (by rw[he];exact Nat.mul_mod_right d e)
 ·have hs:e<256*128+2:=by
   rcases bw e (256*128+2)with h|h
   ·exact h
   ·have:=Nat.mul_le_mul (aY h hle) h
    omega
  exact zG qq 128 EJ (by omega) hs (by rw[he];exact Nat.mul_mod_left d e)
theorem ME{n:Nat}(h0:0<n)(h1:n<qq):pw 4 n 2147483579≠1:=by
 intro h;have hg:=al1 (by omega) n qq h GM;rcases SV (Nat.gcd_dvd_right n qq)with h2|h2
 ·rw[h2]at hg;have:pw 4 1 2147483579=4:=by decide
  omega
 ·have:=Nat.le_of_dvd h0 (Nat.gcd_dvd_left n qq)
  omega
theorem zS{a b:Nat}(hab:a<=b)(hb:b<qq)(h:pw 4 a 2147483579=pw 4 b 2147483579):a=b:=by
 rcases bw a b with hlt|hge
 ·exfalso;have h1:pw 4 (b+(qq-a)) 2147483579=1:=by
   rw[LM,<-h,<-LM,show a+(qq-a)=qq by omega];exact GM
  rw[EK (by omega) GM,show b+(qq-a)=(b-a)+qq by omega,Nat.add_mod_right,Nat.mod_eq_of_lt (by omega)]at h1;exact ME (by omega) (by omega) h1
 ·omega
theorem J3{a b:Nat}(ha:a<qq)(hb:b<qq)(h:pw 4 a 2147483579=pw 4 b 2147483579):a=b:=by
 rcases Nat.le_total a b with hle|hle
 ·exact zS hle hb h
 ·exact(zS hle ha h.symm).symm
end Odr
end Go.Proofs.Ytpfpokjaeffbjaa
