/- Part of the proof: SaG, Run, Tail, VrfF, Order, Map, SigPlain, Check, Signer. -/
import Derived.Test.YtpfpokjaeffbjabProg
import Derived.Test.YtpfpokjaeffbjabBb23
import Derived.RowKit
import Derived.Test.YtpfpokjaeffbjabBb20
import Derived.Test.YtpfpokjaeffbjabBb12
import Derived.Test.YtpfpokjaeffbjabBb10
import Derived.Test.YtpfpokjaeffbjabBb11
import Derived.Test.YtpfpokjaeffbjabRows
import Derived.Maps.Keyed
import Derived.DeepKeys4
import Derived.MapKept
import Derived.ChangeMaps5
import Derived.WideLaws
import Derived.WideMake
import Derived.WalkKit
import Derived.BigQuiet
import Derived.Deep.RegionHeld3
import Derived.Deep.DeepCutAuto
import Derived.Defers
import Derived.Deep.RegionLaw
set_option linter.unusedVariables false
set_option linter.unusedSimpArgs false
set_option maxRecDepth 100000
set_option maxHeartbeats 16000000
namespace Go.Proofs.Ytpfpokjaeffbjab
namespace Cc
open Go.Conc Go.RowKit
def aA2:List FuncId:=[11,12,13,14,15,19,21,24,25,26,27,28,29,30,31,32,33,34,35,36,37,38,39,40,41,45,46,47,48,60,61,69,70,71,72,73,74,75,76,77,78,92,93,105,107,108,109,110,115,116,126,128]
def WS:List FuncId:=[94,79,104,106,118,119,120,121,122,123,124,125,127]
def sg:Sg where
 ok:=aA2.contains
 fs:=fun f=>if f==77 then [8,12,13,24,37]else if f==76 then [1,15]else if f==32 then [11,29,30]else if f==47 then [9]else if f==92 then [1,10]else if f==116 then [1,19]else []
 en:=fun f=>if f==105 then 1 else 0
 ext:=WS.contains
 Z8:=80
 Z7:=81
 pure:=[73,74,75,61,48,46].contains
 own:=fun f=>if f==32 then [15,8,16]else if f==74 then [4]else if f==75 then [4]else []
 xQ:=fun f=>if f==32 then [24]else []
 xR:=fun f=>if f==32 then [28]else []
 rowT:=[149]
 np:=fun f=>if f==32 then 3 else 1
theorem bK{g:FuncId}(h:(sg.own g++(sg.xQ g++sg.xR g)).all (fun t=>decide (sg.np g<=t))=true):∀t∈sg.own g++(sg.xQ g++sg.xR g),sg.np g<=t:=fun t ht=>by
 rw[List.all_eq_true]at h
 simpa using h t ht
instance bq1(xs:Array Value):Nm true (Extern.OsHooks.nano xs):=⟨by
 unfold Extern.OsHooks.nano Extern.OsHooks.clock
 repeat' (first|exact Nm.out|(refine NM.bind ?_ fun _=>?_)|split)⟩
theorem ab5(g:FuncId)(hg:sg.ok g=true):∃fn c,Try.prog.funcs[g]?=some fn/\fn.body=some c/\(fn.name== "runtime.NumGoroutine")=false/\Sg.fin (sg.items g (some (sg.en g)) [.code c])=true/\∀t∈sg.own g++(sg.xQ g++sg.xR g),sg.np g<=t:=by
 have hg:aA2.contains g=true:=hg;unfold aA2 at hg;simp only[List.contains_cons,List.contains_nil,Bool.or_false,Bool.or_eq_true,beq_iff_eq]at hg;rcases hg with rfl|rfl|rfl|rfl|rfl|rfl|rfl|rfl|rfl|rfl|rfl|rfl|rfl|rfl|rfl|rfl|rfl|rfl|rfl|rfl|rfl|rfl|rfl|rfl|rfl|rfl|rfl|rfl|rfl|rfl|rfl|rfl|rfl|rfl|rfl|rfl|rfl|rfl|rfl|rfl|rfl|rfl|rfl|rfl|rfl|rfl|rfl|rfl|rfl|rfl|rfl|rfl
 ·exact⟨_,_,Try.func11,rfl,by kernel_rfl,by kernel_rfl,bK (by kernel_rfl)⟩
 ·exact⟨_,_,Try.func12,rfl,by kernel_rfl,by kernel_rfl,bK (by kernel_rfl)⟩
 ·exact⟨_,_,Try.func13,rfl,by kernel_rfl,by kernel_rfl,bK (by kernel_rfl)⟩
 ·exact⟨_,_,Try.func14,rfl,by kernel_rfl,by kernel_rfl,bK (by kernel_rfl)⟩
 ·exact⟨_,_,Try.func15,rfl,by kernel_rfl,by kernel_rfl,bK (by kernel_rfl)⟩
 ·exact⟨_,_,Try.func19,rfl,by kernel_rfl,by kernel_rfl,bK (by kernel_rfl)⟩
 ·exact⟨_,_,Try.func21,rfl,by kernel_rfl,by kernel_rfl,bK (by kernel_rfl)⟩
 ·exact⟨_,_,Try.func24,rfl,by kernel_rfl,by kernel_rfl,bK (by kernel_rfl)⟩
 ·exact⟨_,_,Try.func25,rfl,by kernel_rfl,by kernel_rfl,bK (by kernel_rfl)⟩
 ·exact⟨_,_,Try.func26,rfl,by kernel_rfl,by kernel_rfl,bK (by kernel_rfl)⟩
 ·exact⟨_,_,Try.func27,rfl,by kernel_rfl,by kernel_rfl,bK (by kernel_rfl)⟩
 ·exact⟨_,_,Try.func28,rfl,by kernel_rfl,by kernel_rfl,bK (by kernel_rfl)⟩
 ·exact⟨_,_,Try.func29,rfl,by kernel_rfl,by kernel_rfl,bK (by kernel_rfl)⟩
 ·exact⟨_,_,Try.func30,rfl,by kernel_rfl,by kernel_rfl,bK (by kernel_rfl)⟩
 ·exact⟨_,_,Try.func31,rfl,by kernel_rfl,by kernel_rfl,bK (by kernel_rfl)⟩
 ·exact⟨_,_,Try.func32,rfl,by kernel_rfl,by kernel_rfl,bK (by kernel_rfl)⟩
 ·exact⟨_,_,Try.func33,rfl,by kernel_rfl,by kernel_rfl,bK (by kernel_rfl)⟩
 ·exact⟨_,_,Try.func34,rfl,by kernel_rfl,by kernel_rfl,bK (by kernel_rfl)⟩
 ·exact⟨_,_,Try.func35,rfl,by kernel_rfl,by kernel_rfl,bK (by kernel_rfl)⟩
 ·exact⟨_,_,Try.func36,rfl,by kernel_rfl,by kernel_rfl,bK (by kernel_rfl)⟩
 ·exact⟨_,_,Try.func37,rfl,by kernel_rfl,by kernel_rfl,bK (by kernel_rfl)⟩
 ·exact⟨_,_,Try.func38,rfl,by kernel_rfl,by kernel_rfl,bK (by kernel_rfl)⟩
 ·exact⟨_,_,Try.func39,rfl,by kernel_rfl,by kernel_rfl,bK (by kernel_rfl)⟩
 ·exact⟨_,_,Try.func40,rfl,by kernel_rfl,by kernel_rfl,bK (by kernel_rfl)⟩
 ·exact⟨_,_,Try.func41,rfl,by kernel_rfl,by kernel_rfl,bK (by kernel_rfl)⟩
 ·exact⟨_,_,Try.func45,rfl,by kernel_rfl,by kernel_rfl,bK (by kernel_rfl)⟩
 ·exact⟨_,_,Try.func46,rfl,by kernel_rfl,by kernel_rfl,bK (by kernel_rfl)⟩
 ·exact⟨_,_,Try.func47,rfl,by kernel_rfl,by kernel_rfl,bK (by kernel_rfl)⟩
 ·exact⟨_,_,Try.func48,rfl,by kernel_rfl,by kernel_rfl,bK (by kernel_rfl)⟩
 ·exact⟨_,_,Try.func60,rfl,by kernel_rfl,by kernel_rfl,bK (by kernel_rfl)⟩
 ·exact⟨_,_,Try.func61,rfl,by kernel_rfl,by kernel_rfl,bK (by kernel_rfl)⟩
 ·exact⟨_,_,Try.func69,rfl,by kernel_rfl,by kernel_rfl,bK (by kernel_rfl)⟩
 ·exact⟨_,_,Try.func70,rfl,by kernel_rfl,by kernel_rfl,bK (by kernel_rfl)⟩
 ·exact⟨_,_,Try.func71,rfl,by kernel_rfl,by kernel_rfl,bK (by kernel_rfl)⟩
 ·exact⟨_,_,Try.func72,rfl,by kernel_rfl,by kernel_rfl,bK (by kernel_rfl)⟩
 ·exact⟨_,_,Try.func73,rfl,by kernel_rfl,by kernel_rfl,bK (by kernel_rfl)⟩
 ·exact⟨_,_,Try.func74,rfl,by kernel_rfl,by kernel_rfl,bK (by kernel_rfl)⟩
 ·exact⟨_,_,Try.func75,rfl,by kernel_rfl,by kernel_rfl,bK (by kernel_rfl)⟩
 ·exact⟨_,_,Try.func76,rfl,by kernel_rfl,by kernel_rfl,bK (by kernel_rfl)⟩
 ·exact⟨_,_,Try.func77,rfl,by kernel_rfl,by kernel_rfl,bK (by kernel_rfl)⟩
 ·exact⟨_,_,Try.func78,rfl,by kernel_rfl,by kernel_rfl,bK (by kernel_rfl)⟩
 ·exact⟨_,_,Try.func92,rfl,by kernel_rfl,by kernel_rfl,bK (by kernel_rfl)⟩
 ·exact⟨_,_,Try.func93,rfl,by kernel_rfl,by kernel_rfl,bK (by kernel_rfl)⟩
 ·exact⟨_,_,Try.func105,rfl,by kernel_rfl,by kernel_rfl,bK (by kernel_rfl)⟩
 ·exact⟨_,_,Try.func107,rfl,by kernel_rfl,by kernel_rfl,bK (by kernel_rfl)⟩
 ·exact⟨_,_,Try.func108,rfl,by kernel_rfl,by kernel_rfl,bK (by kernel_rfl)⟩
 ·exact⟨_,_,Try.func109,rfl,by kernel_rfl,by kernel_rfl,bK (by kernel_rfl)⟩
 ·exact⟨_,_,Try.func110,rfl,by kernel_rfl,by kernel_rfl,bK (by kernel_rfl)⟩
 ·exact⟨_,_,Try.func115,rfl,by kernel_rfl,by kernel_rfl,bK (by kernel_rfl)⟩
 ·exact⟨_,_,Try.func116,rfl,by kernel_rfl,by kernel_rfl,bK (by kernel_rfl)⟩
 ·exact⟨_,_,Try.func126,rfl,by kernel_rfl,by kernel_rfl,bK (by kernel_rfl)⟩
 ·exact⟨_,_,Try.func128,rfl,by kernel_rfl,by kernel_rfl,bK (by kernel_rfl)⟩
theorem aA1(g:FuncId)(hg:sg.ext g=true)(xs:Array Value)(d:Nat):Lv Try.prog (callFunc g xs) d d/\∀w nx w2,(callFunc g xs).run Try.prog w=.ok nx w2->∃v,nx=.value v:=by
 have hg:WS.contains g=true:=hg;unfold WS at hg;simp only[List.contains_cons,List.contains_nil,Bool.or_false,Bool.or_eq_true,beq_iff_eq]at hg;rcases hg with rfl|rfl|rfl|rfl|rfl|rfl|rfl|rfl|rfl|rfl|rfl|rfl|rfl
 ·exact gy (e:=Extern.Race.marked .acquire) Try.func94 (by kernel_rfl) (by kernel_rfl) (by kernel_rfl) (by kernel_rfl) xs ((GN _).1.lv _)
 ·exact gy (e:=Extern.Race.marked .releaseMerge) Try.func79 (by kernel_rfl) (by kernel_rfl) (by kernel_rfl) (by kernel_rfl) xs ((GN _).2.lv _)
 ·exact gy (e:=Extern.Atomic.casT (.int .i32)) Try.func104 (by kernel_rfl) (by kernel_rfl) (by kernel_rfl) (by kernel_rfl) xs ((aD7 _ _).lv _)
 ·exact gy (e:=Extern.Atomic.update (Op.intArith .add) .i32 true) Try.func106 (by kernel_rfl) (by kernel_rfl) (by kernel_rfl) (by kernel_rfl) xs ((UK _ _ _).lv _)
 ·exact gy (e:=Extern.Sync.canSpin) Try.func118 (by kernel_rfl) (by kernel_rfl) (by kernel_rfl) (by kernel_rfl) xs ((PL _).lv _)
 ·exact gy (e:=Extern.Sync.nothing) Try.func119 (by kernel_rfl) (by kernel_rfl) (by kernel_rfl) (by kernel_rfl) xs ((UR _).lv _)
 ·exact gy (e:=Extern.Sync.die .throw) Try.func120 (by kernel_rfl) (by kernel_rfl) (by kernel_rfl) (by kernel_rfl) xs ((XD Halt.throw (fun _=>trivial) _).lv _)
 ·exact gy (e:=Extern.OsHooks.nano) Try.func121 (by kernel_rfl) (by kernel_rfl) (by kernel_rfl) (by kernel_rfl) xs ((Nm.out:NM true (Extern.OsHooks.nano _)).lv _)
 ·exact gy (e:=Extern.Sync.semacquire) Try.func122 (by kernel_rfl) (by kernel_rfl) (by kernel_rfl) (by kernel_rfl) xs ((SL _ _).1)
 ·exact gy (e:=Extern.Sync.die .fatal) Try.func123 (by kernel_rfl) (by kernel_rfl) (by kernel_rfl) (by kernel_rfl) xs ((XD Halt.fatal (fun _=>trivial) _).lv _)
 ·exact gy (e:=Extern.Sync.semrelease) Try.func124 (by kernel_rfl) (by kernel_rfl) (by kernel_rfl) (by kernel_rfl) xs ((SL _ _).2)
 ·exact gy (e:=Extern.Atomic.loadT (.int .u32)) Try.func125 (by kernel_rfl) (by kernel_rfl) (by kernel_rfl) (by kernel_rfl) xs ((XB _ _).lv _)
 ·exact gy (e:=Extern.Atomic.storeT) Try.func127 (by kernel_rfl) (by kernel_rfl) (by kernel_rfl) (by kernel_rfl) xs ((UO _).lv _)
theorem WR:xI sg Try.prog where
 body:=ab5
 Z8 xs d:=gy (e:=fun _=>do mark .disable;Pure.pure Extern.Race.none_) Try.func80 (by kernel_rfl) (by kernel_rfl) (by kernel_rfl) (by kernel_rfl) xs (EJ xs d).1
 Z7 xs d:=gy (e:=fun _=>do mark .enable;Pure.pure Extern.Race.none_) Try.func81 (by kernel_rfl) (by kernel_rfl) (by kernel_rfl) (by kernel_rfl) xs (EJ xs d).2
 ext:=aA1
 early:=⟨by kernel_rfl,fun g=>by
  have h:(Try.prog.funcs.all fun f=>(f.body.map readies).all (·.isEmpty))=true:=by kernel_rfl
  unfold Program.stepOf;rw[Array.findIdx?_eq_none_iff];intro f hf;rw[Array.all_eq_true_iff_forall_mem]at h;have:=h f hf;cases hb:f.body with
  |none=>rfl
  |some c=>
   rw[hb]at this;have:readies c=[]:=by simpa using this
   simp[this]⟩
 row ty hty e he i z hi hz:=by
  have hty:ty=149:=by simpa [sg]using hty
  subst hty;have h1:(match Try.prog.underlying 149 with|some (.slice e)=>(Try.prog.info? e).bind (·.zero)|_=>none)=some .nilFunc:=by kernel_rfl
  rw[he]at h1;dsimp only at h1;rw[hi]at h1;have h2:i.zero=some .nilFunc:=h1;rw[hz]at h2;cases h2;intro c hc fn x y e;have:c=.nilFunc:=by simpa [Value.cells]using hc
  rw[this]at e;cases e
end Cc
namespace Zr
open Go.Conc Go.ConcN Go.RowKit Cc qI
open Pl Mem
open Go.ConcM (OsLater)
def Runs(f:FuncId)(args:Array Value)(W:World):Prop:=
 ∃M last o w' t',runNT Try.prog (M+1) (solo (G (Frame.enter Try.prog f args .normal) []) W) #[]=(.ended o w',t')/\runN Try.prog M (solo (G (Frame.enter Try.prog f args .normal) []) W)=.next last/\Go.step Try.prog last=.ended o w'/\Conc.Good Try.prog (fun v W'=>v=.bool true/\Kept W W') last o w' t'
theorem QW{f:FuncId}{args:Array Value}{W w1:World}{g:Goroutine}(hL:LR Try.prog (G (Frame.enter Try.prog f args .normal) []) W g w1)(hb:Below W.heap.size W w1)(hT:∀st,jX 0 1 (Aa w1) st->Inv (prm W) st->TT (cfg (prm W)) 0 (TW (cfg (prm W))) g st):Runs f args W:=by
 obtain⟨n,t,h1,h2,h3,h4⟩:=hL;exact Ut (q:=prm W) (n:=n) (w₁:=w1) (t₁:=t) h1 h2 h3 h4 (by show Try.prog.globals.size<=_;rw[EY];omega) (by show OsLater W.os w1.os;rw[hb.os];exact .refl _) hb.output fun st hw hI hK hex hnd=>hT st (hK _ fun b o h=>jI.1 h) hI
theorem Qu{W w1:World}(hb:Below W.heap.size W w1){b:Nat}{o:Obj}(h:(b,o)∈Aa W):(b,o)∈Aa w1:=by
 have h1:=jI.1 h;exact jI.2 ((hb.block b (lt_of_block h1)).trans h1)
theorem ends{W w1:World}(hb:Below W.heap.size W w1){num:Nat}{K:List (Nat×Obj)}{st:St aJ}(hA:jX 0 num K st)(hs:∀b o,(b,o)∈Aa w1->(b,o)∈K)(hI:Inv (prm W) st):(prm W).Post (.bool true) st.w:=
 ⟨rfl,ag6 hA (fun b o h=>hs b o (Qu hb h)) hI⟩
theorem AQ{k:IntKind}{w:World}{base:Nat}{e:TypeId}{n:Nat}{v:Value}{zs:List Int}(h:w.ownsRow base e 1 v n (zs.map (Value.int k))):∃A c,v=.slice A zs.length c/\kQ (Aa w) k A c zs:=by
 obtain⟨h1,h2⟩:=h;rw[List.length_map,Nat.mul_one]at h1;rcases h2 with⟨rfl,rfl⟩|⟨g,cap,cur,rfl,-,hb,hc,-,hs,ht⟩
 ·exact⟨none,0,by rw[h1],by omega,.inl rfl,fun hp=>absurd hp (by omega)⟩
 ·refine⟨some ⟨g,0,none⟩,cap,by rw[h1],by omega,.inr ⟨g,0,rfl,cur,e,_,jI.2 hb⟩,fun _=>⟨g,0,rfl,cur,e,_,jI.2 hb,fun i hi=>?_⟩⟩;have h3:(cur.toList.take (n*1))[i]?=some (.int k (zs.getD i 0)):=by
   rw[ht,List.getElem?_map,List.getElem?_eq_getElem hi,List.getD_eq_getElem?_getD,List.getElem?_eq_getElem hi];rfl
  rw[List.getElem?_take,if_pos (by omega),Array.getElem?_toList]at h3;rw[Nat.zero_add];exact h3
theorem Hy{w:World}{base:Nat}{e:TypeId}{n:Nat}{v:Value}{l:List Cm}(hn:n=l.length)(h:w.ownsRow base e 3 v n (aU l)):∃A c,v=.slice A l.length c/\Oz (Aa w) A c l:=by
 subst hn;obtain⟨h1,h2⟩:=h;rcases h2 with⟨rfl,h0⟩|⟨g,cap,cur,rfl,-,hb,hc,-,hs,ht⟩
 ·exact⟨none,0,by rw[h0],by omega,.inl rfl,fun hp=>absurd hp (by omega)⟩
 ·refine⟨some ⟨g,0,none⟩,cap,rfl,hc,.inr ⟨g,0,rfl,cur,e,_,jI.2 hb⟩,fun _=>⟨g,0,rfl,cur,e,_,jI.2 hb,fun i u hu=>?_⟩⟩;rw[Nat.zero_add];have hlt:=(List.getElem?_eq_some_iff.1 hu).1;rw[<-ht,List.getElem?_take]at hu;split at hu
  ·rw[Array.getElem?_toList]at hu;exact hu
  ·cases hu
theorem GL{k:IntKind}{W:World}{A:Option Addr}{c n:Nat}{l:List Int}(h:Nums k W W.heap.size (.slice A n c) l)(hp:0<l.length):n=l.length/\kQ (Aa W) k A c l:=by
 have h0:=h;obtain⟨A',c',hv,hc,h⟩:=h;cases hv;obtain⟨b,off,rfl,hb,hcell⟩:=h hp;obtain⟨C,e,fz,h1,-⟩:=yL (hcell 0 hp);exact⟨rfl,Xw h0 (.inr ⟨b,off,rfl,C,e,fz,jI.2 h1⟩)⟩
end Zr
namespace Cc
open Go.Conc Go.ConcN
theorem lT{S:FuncId->Bool}{md:Nat->Option Md}{T:Array Value}{i:Nat}{v:Value}(h:T[i]?=some v)(hv:VR (fun f=>S f=true) (A8 md) v v):(T.map (QT S md))[i]?=some v:=by
 rw[Array.getElem?_map,h,Option.map_some,KC hv]
theorem Sh.aq7{q:ig}{S:FuncId->Bool}{md:Nat->Option Md}{st:St aJ}(h:FQ q md st)(hi:Inv q st){X:Nat->Prop}{Φ:Act->World->Prop}{T:Array Value}(hΦ:Φ ⟨T.map (QT S md),[]⟩ (World.on (jS S st.w md) st.w.tape st.w.drawn)):Sh q S CY (uD md) X st Φ ⟨T,[]⟩ st:=by
 refine Sh.XT (a:=⟨T.map (QT S md),[]⟩) (a':=⟨T,[]⟩) h hi (Qr (by simp) fun i v v' _ e1 e2=>?_) rfl rfl hΦ;rw[Array.getElem?_map,e2,Option.map_some]at e1;cases e1;exact QS S md v'
end Cc
namespace Cc
open Go.Conc Go.RowKit
def aX6:List FuncId:=[22,30,31,39,46,48,61,77,108]
def vS(f:FuncId):Bool:=aX6.contains f
theorem WA:qh Try.prog vS:=by
 intro f hf;unfold vS aX6 at hf;simp only[List.contains_cons,List.contains_nil,Bool.or_false,Bool.or_eq_true,beq_iff_eq]at hf;rcases hf with rfl|rfl|rfl|rfl|rfl|rfl|rfl|rfl|rfl
 ·exact⟨_,_,Try.func22,rfl,by kernel_rfl,by kernel_rfl⟩
 ·exact⟨_,_,Try.func30,rfl,by kernel_rfl,by kernel_rfl⟩
 ·exact⟨_,_,Try.func31,rfl,by kernel_rfl,by kernel_rfl⟩
 ·exact⟨_,_,Try.func39,rfl,by kernel_rfl,by kernel_rfl⟩
 ·exact⟨_,_,Try.func46,rfl,by kernel_rfl,by kernel_rfl⟩
 ·exact⟨_,_,Try.func48,rfl,by kernel_rfl,by kernel_rfl⟩
 ·exact⟨_,_,Try.func61,rfl,by kernel_rfl,by kernel_rfl⟩
 ·exact⟨_,_,Try.func77,rfl,by kernel_rfl,by kernel_rfl⟩
 ·exact⟨_,_,Try.func108,rfl,by kernel_rfl,by kernel_rfl⟩
end Cc
namespace Odr
open Pl
def sq(odd:Bool)(a m h:Int):Int:=if odd then h*h%m*a%m else h*h%m
def fq(a m:Int):List Bool->Int
 |[]=>1
 |b::l=>sq b a m (fq a m l)
def val:List Bool->Nat
 |[]=>0
 |b::l=>2*val l+(if b then 1 else 0)
theorem au6(a:Int){m:Int}(hm:1<m)(l:List Bool):fq a m l=pw a (val l) m:=by
 induction l with
 |nil=>exact(Du a hm).symm
 |cons b l ih=>
  cases b with
  |false=>
   rw[Q8 a (val (false::l)) m (by simp[val])];have e:val (false::l)/2=val l:=by simp[val]
   rw[e,<-ih];rfl
  |true=>
   rw[Xh a (val (true::l)) m (by simp[val])];have e:val (true::l)/2=val l:=by simp[val];omega
   rw[e,<-ih];rfl
def ao6:List Bool:=[true,false,true,true,true,false,true,true,true,true,true,true,true,true,true,true,true,true,true,true,true,true,true,true,true,true,true,true,true,true]
theorem tH:pw 4 qq 2147483579=1:=by
 have h:val ao6=qq:=by decide
 have h2:fq 4 2147483579 ao6=1:=by kernel_rfl
 rw[<-h,<-au6 4 (by omega)];exact h2
theorem AB(a:Int)(k n:Nat)(m:Int):pw a (k+n) m=pw a k m*pw a n m%m:=(yh a k n m).symm
theorem lD(a:Int)(k n:Nat)(m:Int):pw a (k*n) m=pw (pw a k m) n m:=by
 unfold pw;rw[pow_mod,Int.pow_mul]
theorem Xg(n:Nat){m:Int}(h:1<m):pw 1 n m=1:=by unfold pw;rw[Int.one_pow];exact Int.emod_eq_of_lt (by omega) h
theorem rC{a m:Int}{k:Nat}(hm:1<m)(h:pw a k m=1)(n:Nat):pw a n m=pw a (n%k) m:=by
 conv=>lhs;rw[<-Nat.mod_add_div n k]
 rw[AB,lD,h,Xg _ hm,Int.mul_one];unfold pw;exact Int.emod_emod_of_dvd _ (Int.dvd_refl m)
theorem aB2{a m:Int}(hm:1<m)(j k:Nat):pw a j m=1->pw a k m=1->pw a (Nat.gcd j k) m=1:=by
 induction j,k using Nat.gcd.induction with
 |H0 n=>intro _ h;rw[Nat.gcd_zero_left];exact h
 |H1 j k hj ih=>
  intro h1 h2;rw[Nat.gcd_rec];exact ih (by rw[<-rC hm h1];exact h2) h1
def Rj(m lo:Nat):Nat->Bool
 |0=>true
 |n+1=>!(Nat.beq (m%(lo+n)) 0)&&Rj m lo n
def IY(m:Nat):Nat->Bool
 |0=>true
 |b+1=>Rj m (256*b+2) 256&&IY m b
theorem PI(m lo n:Nat)(h:Rj m lo n=true){d:Nat}(h1:lo<=d)(h2:d<lo+n):m%d≠0:=by
 induction n with
 |zero=>omega
 |succ n ih=>
  rw[Rj,Bool.and_eq_true]at h;rcases Nat.lt_or_ge d (lo+n)with hlt|hge
  ·exact ih h.2 hlt
  ·obtain rfl:d=lo+n:=by omega
   intro h0;rw[h0]at h;simp at h
theorem BL(m b:Nat)(h:IY m b=true){d:Nat}(h1:2<=d)(h2:d<256*b+2):m%d≠0:=by
 induction b with
 |zero=>omega
 |succ b ih=>
  rw[IY,Bool.and_eq_true]at h;rcases Nat.lt_or_ge d (256*b+2)with hlt|hge
  ·exact ih h.2 hlt
  ·exact PI m _ 256 h.1 hge (by omega)
theorem Gz:IY qq 128=true:=by kernel_rfl
theorem Xf{d:Nat}(h:d ∣ qq):d=1\/d=qq:=by
 obtain⟨e,he⟩:=h;have hq:qq=1073741789:=rfl;have hd0:0<d:=by
  rcases Nat.eq_zero_or_pos d with h0|h0
  ·rw[h0,Nat.zero_mul]at he;omega
  ·exact h0
 have he0:0<e:=by
  rcases Nat.eq_zero_or_pos e with h0|h0
  ·rw[h0,Nat.mul_zero]at he;omega
  ·exact h0
 by_cases h1:d=1
 ·exact .inl h1
 by_cases h2:e=1
 ·right;rw[h2,Nat.mul_one]at he;exact he.symm
 exfalso;rcases Nat.le_total d e with hle|hle
 ·have hs:d<256*128+2:=by
   rcases Nat.lt_or_ge d (256*128+2)with h|h
   ·exact h
   ·have:=Nat.mul_le_mul h (Nat.le_trans h hle);omega
  exact BL qq 128 Gz (by omega) hs (by rw[he];exact Nat.mul_mod_right d e)
 ·have hs:e<256*128+2:=by
   rcases Nat.lt_or_ge e (256*128+2)with h|h
   ·exact h
   ·have:=Nat.mul_le_mul (Nat.le_trans h hle) h;omega
  exact BL qq 128 Gz (by omega) hs (by rw[he];exact Nat.mul_mod_left d e)
theorem pR{n:Nat}(h0:0<n)(h1:n<qq):pw 4 n 2147483579≠1:=by
 intro h;have hg:=aB2 (by omega) n qq h tH;rcases Xf (Nat.gcd_dvd_right n qq)with h2|h2
 ·rw[h2]at hg;have:pw 4 1 2147483579=4:=by decide
  omega
 ·have:=Nat.le_of_dvd h0 (Nat.gcd_dvd_left n qq);omega
theorem BZ{a b:Nat}(hab:a<=b)(hb:b<qq)(h:pw 4 a 2147483579=pw 4 b 2147483579):a=b:=by
 rcases Nat.lt_or_ge a b with hlt|hge
 ·exfalso;have h1:pw 4 (b+(qq-a)) 2147483579=1:=by
   rw[AB,<-h,<-AB,show a+(qq-a)=qq by omega];exact tH
  rw[rC (by omega) tH,show b+(qq-a)=(b-a)+qq by omega,Nat.add_mod_right,Nat.mod_eq_of_lt (by omega)]at h1;exact pR (by omega) (by omega) h1
 ·omega
theorem E5{a b:Nat}(ha:a<qq)(hb:b<qq)(h:pw 4 a 2147483579=pw 4 b 2147483579):a=b:=by
 rcases Nat.le_total a b with hle|hle
 ·exact BZ hle hb h
 ·exact(BZ hle ha h.symm).symm
end Odr
namespace JO
open Go.RowKit Go.Maps Pl Mem Odr
def pz(c:Cm):Value:=.agg #[.int .i64 c.id,.int .u64 c.d,.int .u64 c.e]
def F5(q:Int×Int):Value:=.agg #[.int .u64 q.1,.int .u64 q.2]
def iw(id:Int)(q:Int×Int):Cm:=⟨id,pw 4 q.1.toNat 2147483579,pw 4 q.2.toNat 2147483579⟩
theorem XY{a b:Cm}(h:pz a=pz b):a=b:=by
 obtain⟨a1,a2,a3⟩:=a;obtain⟨b1,b2,b3⟩:=b;simp only[pz]at h;simp at h;obtain⟨rfl,rfl,rfl⟩:=h;rfl
theorem laidOut:laidOutB Try.prog=true:=by kernel_rfl
theorem keyed:Keyed Try.prog 37:=
 Keyed.of_law (deep_law_laid laidOut (m:=2) (by omega) (of_decide_eq_true (by kernel_rfl)) (by kernel_rfl) (by rw[Try.underlying37]))
theorem H9:Try.prog.cellsOf 37=3:=by kernel_rfl
def Fits(c:Cm):Prop:=(-9223372036854775808<=c.id/\c.id<=9223372036854775807)/\(0<=c.d/\c.d<18446744073709551616)/\(0<=c.e/\c.e<18446744073709551616)
theorem AY{c:Cm}(h:Fits c):∃lk,keyOf Try.prog 37 (pz c)=some lk:=by
 obtain⟨⟨h1,h2⟩,⟨h3,h4⟩,h5,h6⟩:=h;have hk:Try.prog.keyType 37=true:=by kernel_rfl
 have hf:(pz c).formed Try.prog 37=true:=by simp[pz,Value.formed,Try.underlying37,H9]
 have w1:(Lit.int .i64 c.id).wf=true:=WalkArith.wf_i64 ⟨h1,h2⟩;have w2:(Lit.int .u64 c.d).wf=true:=WalkArith.wf_u64 ⟨h3,by omega⟩;have w3:(Lit.int .u64 c.e).wf=true:=WalkArith.wf_u64 ⟨h5,by omega⟩;have k1:Try.prog.cellsOf 3=1:=by kernel_rfl
 have k2:Try.prog.cellsOf 25=1:=by kernel_rfl
 obtain⟨N,hN⟩:∃N,Try.prog.types.size+1=N+1+1:=⟨Try.prog.types.size-1,by
  have:1<=Try.prog.types.size:=of_decide_eq_true (by kernel_rfl);omega⟩
 have hl:Try.prog.keyLits (Try.prog.types.size+1) 37 (pz c).cells.toList=some [.int .i64 c.id,.int .u64 c.d,.int .u64 c.e]:=by
  rw[hN];simp[Program.keyLits,pz,Value.cells,Try.underlying37,H9,Try.underlying3,Try.underlying25,k1,k2,w1,w2,w3]
 refine⟨.string (keyBytes [.int .i64 c.id,.int .u64 c.d,.int .u64 c.e]),?_⟩;unfold keyOf;rw[Try.underlying37];simp only[hk,hf,Bool.and_self,if_true,hl,Option.map_some]
def MapAt(w:World)(M:Nat)(id:Int)(pl:List (Int×Int)):Prop:=
 ∃(es:Array MapEntry) (clock:Nat),w.heap[M]?=some (.map es clock)/\es.toList.map (fun e=>(e.key,e.val))=pl.map fun q=>(pz (iw id q),F5 q)
theorem wU{id:Int}(h:1<=id/\id<=9)(q:Int×Int):Fits (iw id q):=by
 have h1:=og 4 q.1.toNat (m:=2147483579) (by omega);have h2:=og 4 q.2.toNat (m:=2147483579) (by omega);exact⟨⟨by show _<=id;omega,by show id<=_;omega⟩,⟨h1.1,by show pw 4 q.1.toNat 2147483579<_;omega⟩,h2.1,by show pw 4 q.2.toNat 2147483579<_;omega⟩
section
variable{w:World}{M:Nat}{id:Int}{pl:List (Int×Int)}
theorem MapAt.lt(h:MapAt w M id pl):M<w.heap.size:=by
 obtain⟨es,clock,h,_⟩:=h;exact(Array.getElem?_eq_some_iff.1 h).1
theorem MapAt.of_block{w':World}(h:MapAt w M id pl)(hb:w'.heap[M]?=w.heap[M]?):MapAt w' M id pl:=by
 obtain⟨es,clock,h1,h2⟩:=h;exact⟨es,clock,hb.trans h1,h2⟩
theorem MapAt.new(w:World)(id:Int):MapAt (w.alloc (.map #[] 0)) w.heap.size id []:=⟨#[],0,heap_alloc_new w _,rfl⟩
theorem Fb{es:Array MapEntry}(h:es.toList.map (fun e=>(e.key,e.val))=pl.map fun q=>(pz (iw id q),F5 q))(j:Nat):es.toList[j]?.map (fun e=>(e.key,e.val))=pl[j]?.map fun q=>(pz (iw id q),F5 q):=by
 have:=congrArg (fun l=>l[j]?) h
 simpa [List.getElem?_map]using this
theorem DF(hid:1<=id/\id<=9){es:Array MapEntry}(h:es.toList.map (fun e=>(e.key,e.val))=pl.map fun q=>(pz (iw id q),F5 q)){c:Cm}(hc:Fits c)(w:World):
  ((Instr.findKey 37 (pz c) es.toList).run Try.prog w=.ok none w/\∀q∈pl,iw id q≠c)\/
  ∃j q,(Instr.findKey 37 (pz c) es.toList).run Try.prog w=.ok (some (j,F5 q)) w/\pl[j]?=some q/\iw id q=c:=by
 obtain⟨lk,hlk⟩:=AY hc;have hall:∀e∈es.toList,∃l,keyOf Try.prog 37 e.key=some l:=by
  intro e he;obtain⟨j,hj,rfl⟩:=List.mem_iff_getElem.1 he;have:=Fb h j;rw[List.getElem?_eq_getElem hj]at this;cases hq:pl[j]? with
  |none=>rw[hq]at this;cases this
  |some q=>
   rw[hq]at this;simp only[Option.map_some,Option.some.injEq,Prod.mk.injEq]at this;rw[this.1];exact AY (wU hid q)
 rcases keyed.find w hlk es.toList hall with⟨h1,h2⟩|⟨j,e,h1,h2,h3⟩
 ·refine .inl ⟨h1,fun q hq hqc=>?_⟩;obtain⟨j,hj,rfl⟩:=List.mem_iff_getElem.1 hq;have:=Fb h j;rw[List.getElem?_eq_getElem hj]at this;cases he:es.toList[j]? with
  |none=>rw[he]at this;cases this
  |some e=>
   rw[he]at this;simp only[Option.map_some,Option.some.injEq,Prod.mk.injEq]at this;exact h2 e (List.mem_of_getElem? he) (by rw[this.1,hqc])
 ·have:=Fb h j;rw[h2]at this;cases hq:pl[j]? with
  |none=>rw[hq]at this;cases this
  |some q=>
   rw[hq]at this;simp only[Option.map_some,Option.some.injEq,Prod.mk.injEq]at this;exact .inr ⟨j,q,by rw[h1,this.2],hq,XY (by rw[<-this.1,h3])⟩
theorem Dp:Try.prog.underlying 73=some (.map 37 88):=Try.underlying73
theorem Uj:Try.prog.underlying 73=some (.map (Try.prog.mapKeyOf 73) (Try.prog.mapElemOf 73)):=by
 simp[Program.mapKeyOf,Program.mapElemOf]
theorem QX(h:MapAt w M id pl)(ty:TypeId):(Builtin.len_ #[73] ty #[.map (some M)]).run Try.prog w=.ok (goInt pl.length) w:=by
 obtain⟨es,clock,h1,h2⟩:=h;have hl:=congrArg List.length h2;simp at hl;rw[run_len_map w 73 ty M es clock Uj h1,hl]
theorem II(h:MapAt w M id pl)(hid:1<=id/\id<=9)(hinj:∀q∈pl,∀q'∈pl,iw id q=iw id q'->q=q'){c:Cm}(hc:Fits c){q:Int×Int}(hq:q∈pl)(hqc:iw id q=c):
  (Instr.lookup 73 (.map (some M)) (pz c) true).run Try.prog w=.ok (.tuple #[F5 q,.bool true]) w:=by
 obtain⟨es,clock,h1,h2⟩:=h;obtain⟨lk,hlk⟩:=AY hc;have hck:=keyed.check w es.isEmpty hlk;rcases DF hid h2 hc w with⟨h3,h4⟩|⟨j,q',h3,h4,h5⟩
 ·exact absurd hqc (h4 q hq)
 ·have e:q'=q:=hinj q' (List.mem_of_getElem? h4) q hq (h5.trans hqc.symm);rw[e]at h3;simp[Instr.lookup,run_underlying Dp,MapKept.run_getObj_map h1,hck,h3]
theorem KO(h:MapAt w M id pl)(hid:1<=id/\id<=9){c:Cm}(hc:Fits c)(hq:∀q∈pl,iw id q≠c):
  (Instr.lookup 73 (.map (some M)) (pz c) true).run Try.prog w=.ok (.tuple #[F5 (0,0),.bool false]) w:=by
 obtain⟨es,clock,h1,h2⟩:=h;obtain⟨lk,hlk⟩:=AY hc;have hck:=keyed.check w es.isEmpty hlk;rcases DF hid h2 hc w with⟨h3,h4⟩|⟨j,q',h3,h4,h5⟩
 ·simp[Instr.lookup,run_underlying Dp,MapKept.run_getObj_map h1,hck,h3];rfl
 ·exact absurd h5 (hq q' (List.mem_of_getElem? h4))
theorem nZ{α β:Type}(f:α->β):∀(l:List α) (j:Nat),(l.eraseIdx j).map f=(l.map f).eraseIdx j
 |[],j=>by simp
 |a::l,0=>by simp
 |a::l,j+1=>by simp[nZ f l j]
theorem D9{es:Array MapEntry}{clock:Nat}(h:w.heap[M]?=some (.map es clock))(o:Obj):w.grownBy {w with heap:=w.heap.setIfInBounds M o} (some M)/\({w with heap:=w.heap.setIfInBounds M o}:World).heap[M]?=some o:=by
 have hlt:M<w.heap.size:=(Array.getElem?_eq_some_iff.1 h).1;refine⟨⟨rfl,rfl,rfl,by simp,fun k hk hne=>?_⟩,?_⟩
 ·show(w.heap.setIfInBounds M o)[k]?=w.heap[k]?;rw[Array.getElem?_setIfInBounds_ne (fun e=>hne (by rw[e]))]
 ·show(w.heap.setIfInBounds M o)[M]?=some o;rw[Array.getElem?_setIfInBounds_self_of_lt hlt]
theorem F8(h:MapAt w M id pl)(hid:1<=id/\id<=9)(q:Int×Int)(hq:∀q'∈pl,iw id q'≠iw id q):
  ∃w',(Instr.mapUpdate 73 (.map (some M)) (pz (iw id q)) (F5 q)).run Try.prog w=.ok () w'/\MapAt w' M id (pl++[q])/\w.grownBy w' (some M):=by
 obtain⟨es,clock,h1,h2⟩:=h;obtain⟨lk,hlk⟩:=AY (wU hid q);have hck:=keyed.check w false hlk;rcases DF hid h2 (wU hid q) w with⟨h3,h4⟩|⟨j,q',h3,h4,h5⟩
 ·obtain⟨g1,g2⟩:=D9 h1 (.map (es.push {key:=pz (iw id q),val:=F5 q,born:=clock}) (clock+1));refine⟨_,?_,⟨_,_,g2,?_⟩,g1⟩
  ·simp[Instr.mapUpdate,run_underlying Dp,MapKept.run_getObj_map h1,hck,h3,MapKept.run_setObj_map _ h1]
  ·simp[h2]
 ·exact absurd h5 (hq q' (List.mem_of_getElem? h4))
theorem O8(h:MapAt w M id pl)(hid:1<=id/\id<=9){j:Nat}{q:Int×Int}(hj:pl[j]?=some q)(hinj:∀i q',pl[i]?=some q'->iw id q'=iw id q->i=j)(ty:TypeId):
  ∃w',(Builtin.delete_ #[73,37] ty #[.map (some M),pz (iw id q)]).run Try.prog w=.ok (.tuple #[]) w'/\MapAt w' M id (pl.eraseIdx j)/\w.grownBy w' (some M):=by
 obtain⟨es,clock,h1,h2⟩:=h;obtain⟨lk,hlk⟩:=AY (wU hid q);have hck:=keyed.check w es.isEmpty hlk;rcases DF hid h2 (wU hid q) w with⟨h3,h4⟩|⟨i,q',h3,h4,h5⟩
 ·exact absurd rfl (h4 q (List.mem_of_getElem? hj))
 ·have e:i=j:=hinj i q' h4 h5;subst e;obtain⟨g1,g2⟩:=D9 h1 (.map (es.eraseIdxIfInBounds i) clock);refine⟨_,?_,⟨_,_,g2,?_⟩,g1⟩
  ·simp[Builtin.delete_,run_underlying Dp,MapKept.run_getObj_map h1,hck,h3,MapKept.run_setObj_map _ h1]
  ·have hlen:=congrArg List.length h2;simp at hlen;have hi:i<es.size:=by rw[hlen];exact(List.getElem?_eq_some_iff.1 h4).1
   rw[Array.eraseIdxIfInBounds,dif_pos hi,Array.toList_eraseIdx,nZ,h2,nZ]
end
end JO
namespace JI
open Go.RowKit Pl ny oI ni Mem JO Odr oG
def newE(t n:Int)(cs:List Int)(id share:Int):Int:=if iD t n cs id share≠0 then iD t n cs id share else if qQ t n cs id share=false then 8 else 0
theorem PS{t n:Int}{cs:List Int}{id share:Int}(h:iD t n cs id share≠0):newE t n cs id share=iD t n cs id share:=by unfold newE;rw[if_pos h]
theorem PN{t n:Int}{cs:List Int}{id share:Int}(h:iD t n cs id share=0)(h2:qQ t n cs id share=false):newE t n cs id share=8:=by unfold newE;rw[if_neg (fun h'=>h' h),if_pos h2]
theorem Ru{t n:Int}{cs:List Int}{id share:Int}(h:iD t n cs id share=0)(h2:qQ t n cs id share=true):newE t n cs id share=0:=by unfold newE;rw[if_neg (fun h'=>h' h),if_neg (by rw[h2];simp)]
theorem Og{t n:Int}{cs:List Int}{id share:Int}(h:iD t n cs id share=0):dw t n cs=true/\1<=id/\id<=n/\share<1073741789:=by
 unfold iD at h;by_cases h1:dw t n cs=false
 ·rw[if_pos h1]at h;omega
 rw[if_neg h1]at h;by_cases h2:id<1\/n<id
 ·rw[if_pos h2]at h;omega
 rw[if_neg h2]at h;by_cases h3:1073741789<=share
 ·rw[if_pos h3]at h;omega
 ·exact⟨by simpa using h1,by omega,by omega,by omega⟩
structure St where
 t:Int
 n:Int
 cs:List Int
 id:Int
 share:Int
 pl:List (Int×Int)
structure Ok(s:St):Prop where
 grp:dw s.t s.n s.cs=true
 id1:1<=s.id
 idn:s.id<=s.n
 sh0:0<=s.share
 sh1:s.share<1073741789
 few:s.pl.length<=6
 sc:∀q∈s.pl,(0<q.1/\q.1<1073741789)/\(0<q.2/\q.2<1073741789)
 uniq:s.pl.Pairwise (·≠·)
theorem Ok.spec{s:St}(h:Ok s):2<=s.t/\s.t<=s.n/\s.n<=9/\(s.cs.length:Int)=s.t/\s.cs.getD 0 0≠1/\(∀i,i<s.cs.length->jM (s.cs.getD i 0)=true):=by
 have h1:=jG h.grp;exact⟨h1.1,h1.2.1,h1.2.2.1,h1.2.2.2.1,h1.2.2.2.2.1,fun i hi=>sZ h.grp hi⟩
theorem Ok.id9{s:St}(h:Ok s):1<=s.id/\s.id<=9:=by
 have:=h.spec;have:=h.id1;have:=h.idn;omega
theorem Ok.key{s:St}(h:Ok s):0<s.cs.length/\(0<s.cs.getD 0 0/\s.cs.getD 0 0<2147483579):=by
 have h1:=h.spec;exact⟨by omega,sW (h1.2.2.2.2.2 0 (by omega))⟩
theorem Fz{id:Int}{q q':Int×Int}(h1:(0<q.1/\q.1<1073741789)/\(0<q.2/\q.2<1073741789))(h2:(0<q'.1/\q'.1<1073741789)/\(0<q'.2/\q'.2<1073741789))(h:iw id q=iw id q'):q=q':=by
 have e:qq=1073741789:=rfl;simp only[iw,Cm.mk.injEq,true_and]at h;have a1:=E5 (a:=q.1.toNat) (b:=q'.1.toNat) (by omega) (by omega) h.1;have a2:=E5 (a:=q.2.toNat) (b:=q'.2.toNat) (by omega) (by omega) h.2;obtain⟨x,y⟩:=q;obtain⟨x',y'⟩:=q';simp only at h1 h2 a1 a2;rw[Prod.mk.injEq];omega
theorem aa5{pl:List (Int×Int)}(h:pl.Pairwise (·≠·)){i j:Nat}{q:Int×Int}(hi:pl[i]?=some q)(hj:pl[j]?=some q):i=j:=by
 obtain⟨hi',ei⟩:=List.getElem?_eq_some_iff.1 hi;obtain⟨hj',ej⟩:=List.getElem?_eq_some_iff.1 hj;rcases Nat.lt_trichotomy i j with hlt|heq|hgt
 ·exact absurd (ei.trans ej.symm) (List.pairwise_iff_getElem.1 h i j hi' hj' hlt)
 ·exact heq
 ·exact absurd (ej.trans ei.symm) (List.pairwise_iff_getElem.1 h j i hj' hi' hgt)
theorem Ok.aP0{s:St}(h:Ok s){j:Nat}{q:Int×Int}(hj:s.pl[j]?=some q):∀i q',s.pl[i]?=some q'->iw s.id q'=iw s.id q->i=j:=fun i q' hi he=>by
 have e:=Fz (h.sc q' (List.mem_of_getElem? hi)) (h.sc q (List.mem_of_getElem? hj)) he;subst e;exact aa5 h.uniq hi hj
def Bj(s:St)(d e:Int):Int:=if d=0\/e=0\/1073741789<=d\/1073741789<=e then 2 else if(d,e)∈s.pl then 15 else if s.pl.length=6 then 9 else 0
def Oa(s:St)(d e:Int):St:=if Bj s d e=0 then{s with pl:=s.pl++[(d,e)]}else s
def YX(s:St)(d e:Int):Cm:=if Bj s d e=0 then iw s.id (d,e)else .zero
theorem DK{s:St}{d e:Int}(h:d=0\/e=0\/1073741789<=d\/1073741789<=e):Bj s d e=2:=by unfold Bj;rw[if_pos h]
theorem YW{s:St}{d e:Int}(h:¬(d=0\/e=0\/1073741789<=d\/1073741789<=e))(h2:(d,e)∈s.pl):Bj s d e=15:=by unfold Bj;rw[if_neg h,if_pos h2]
theorem Vu{s:St}{d e:Int}(h:¬(d=0\/e=0\/1073741789<=d\/1073741789<=e))(h2:(d,e)∉s.pl)(h3:s.pl.length=6):Bj s d e=9:=by unfold Bj;rw[if_neg h,if_neg h2,if_pos h3]
theorem TM{s:St}{d e:Int}(h:¬(d=0\/e=0\/1073741789<=d\/1073741789<=e))(h2:(d,e)∉s.pl)(h3:s.pl.length≠6):Bj s d e=0:=by unfold Bj;rw[if_neg h,if_neg h2,if_neg h3]
theorem wW{s:St}{d e:Int}(h:Bj s d e≠0):Oa s d e=s/\YX s d e=.zero:=⟨by unfold Oa;rw[if_neg h],by unfold YX;rw[if_neg h]⟩
theorem N9{s:St}{d e:Int}(h:Bj s d e=0):Oa s d e={s with pl:=s.pl++[(d,e)]}/\YX s d e=iw s.id (d,e):=⟨by unfold Oa;rw[if_pos h],by unfold YX;rw[if_pos h]⟩
end JI
namespace Chk
open Go.RowKit Pl ny oI qj Mem oG Ud Gn
theorem aN9(t n:Int)(cs:List Int)(v:Value)(id share:Int)(w:World)(hv:Nums .u64 w w.heap.size v cs)(hl:cs.length<=65536)(hcb:∀i,i<cs.length->0<=cs.getD i 0)
  (hs:0<=share/\share<18446744073709551616):
  Calls Try.prog 26 #[.agg #[.int .i64 t,.int .i64 n,v],.int .i64 id,.int .u64 share] w fun e w'=>e=.returned (.tuple #[.bool (qQ t n cs id share),.int .i64 (iD t n cs id share)])/\Below w.heap.size w w':=by
 have hbw:=aK w (.cells #[.int .i64 t,.int .i64 n,v] 28);have hof:=ofC t n cs v _ (hv.later hbw) hl hcb;have HOF:=Lib.hid hof;have HBW:=Lib.hid hbw;obtain⟨A,c,rfl,-⟩:=hv;clear hof hbw;obtain⟨hs0,hs1⟩:=hs
 go_enter Try.func26,Try.ntmps26
 go_wp2_with fail
 refine HOF.out.mono ?_;rintro e w1 ⟨Ba,⟨hok,rfl⟩|⟨hok,g,vc,rfl,hg,hG,hO⟩⟩
 ·have hE:=Lib.hid (Jy (id:=id) (share:=share) hok);have hF:=Lib.hid (tK (t:=t) (n:=n) (cs:=cs) (id:=id) (share:=share) (by rw[hE.out];omega));clear hok
  go_wp2_with fail
  go_ret2
  exact⟨by rw[hE.out,hF.out];rfl,HBW.out.trans (Ba.mono (by simp))⟩
 have bg0:Below w.heap.size w w1:=HBW.out.trans (Ba.mono (by simp));have hspec:=jG hok;have hat:=Lib.hid (fun j (hj:j<cs.length)=>sZ hok hj);obtain⟨s1,s2,s3,s4,s5,s6⟩:=hspec;have hg':w.heap.size<=g:=by simp at hg;omega
 obtain⟨c0,c1,c2,c3,c4⟩:=hG.cells;have HG:=Lib.hid hG;have HO:=Lib.hid hO;have HW:=Lib.hid bg0;clear hG hO bg0 Ba hg s5 s6 c0 c2 c3 c4;obtain⟨b1,e1⟩:∃b,decide (share<1073741789)=b:=⟨_,rfl⟩;have E1:=Lib.hid e1;clear e1;by_cases c1:id<1
 case pos=>
  have hE:=Lib.hid (H6 (id:=id) (share:=share) hok (.inl c1));have hF:=Lib.hid (tK (t:=t) (n:=n) (cs:=cs) (id:=id) (share:=share) (by rw[hE.out];omega));clear hok;cases b1
  all_goals
   go_wp2_with (go_at_call 30;refine(xB _ share _ E1.out).mono ?_;rintro e w' ⟨rfl,rfl⟩)
   go_ret2
   exact⟨by rw[hE.out,hF.out];rfl,HW.out⟩
 by_cases c2:n<id
 case pos=>
  have hE:=Lib.hid (H6 (id:=id) (share:=share) hok (.inr c2));have hF:=Lib.hid (tK (t:=t) (n:=n) (cs:=cs) (id:=id) (share:=share) (by rw[hE.out];omega));clear hok;cases b1
  all_goals
   go_wp2_with (go_at_call 30;refine(xB _ share _ E1.out).mono ?_;rintro e w' ⟨rfl,rfl⟩)
   go_ret2
   exact⟨by rw[hE.out,hF.out];rfl,HW.out⟩
 cases b1
 case false=>
  have hE:=Lib.hid (Vy (id:=id) (share:=share) hok (by omega) (by have:=E1.out;rw[decide_eq_false_iff_not]at this;omega));have hF:=Lib.hid (tK (t:=t) (n:=n) (cs:=cs) (id:=id) (share:=share) (by rw[hE.out];omega));clear hok
  go_wp2_with (go_at_call 30;refine(xB _ share _ E1.out).mono ?_;rintro e w' ⟨rfl,rfl⟩)
  go_ret2
  exact⟨by rw[hE.out,hF.out];rfl,HW.out⟩
 have hE:=Lib.hid (Hz (id:=id) (share:=share) hok (by omega) (by have:=E1.out;rw[decide_eq_true_iff]at this;omega));have hF:=Lib.hid (H7 hE.out);obtain⟨N,rfl⟩:=Int.eq_ofNat_of_zero_le (show 0<=n by omega);have hsh:=Lib.hid (az8 g t N vc cs _ id w1 HG.out HO.out (by omega) (by omega) (by omega) hat.out (by omega) (by omega));clear hok
 go_wp2_with (first|(go_at_call 30;refine(xB _ share _ E1.out).mono ?_;rintro e w' ⟨rfl,rfl⟩)|(go_at_call 31;refine(Ib share _ hs0 hs1).mono ?_;rintro e w' ⟨rfl,rfl⟩)|(go_at_call 47;refine hsh.out.mono ?_;rintro e w2 ⟨rfl,hG2,hgr⟩))
 go_ret2
 exact⟨by rw[hE.out,hF.out];rfl,HW.out.trans (grownBy_below hgr hg' HW.out.size)⟩
end Chk
namespace uz
open Go.RowKit Go.MuLone Go.Conc.Locks Pl ny oI ni qj Mem JO JI oG Ud Gn Chk Lck
structure Only(X:List Nat)(w w':World):Prop where
 os:w'.os=w.os
 tape:w'.tape=w.tape
 output:w'.output=w.output
 size:w.heap.size<=w'.heap.size
 block:∀k,k<w.heap.size->k∉X->w'.heap[k]?=w.heap[k]?
theorem Only.refl(X:List Nat)(w:World):Only X w w:=⟨rfl,rfl,rfl,Nat.le_refl _,fun _ _ _=>rfl⟩
theorem Only.trans{X:List Nat}{a b c:World}(h:Only X a b)(k:Only X b c):Only X a c:=
 ⟨k.os.trans h.os,k.tape.trans h.tape,k.output.trans h.output,Nat.le_trans h.size k.size,fun i hi hx=>(k.block i (Nat.lt_of_lt_of_le hi h.size) hx).trans (h.block i hi hx)⟩
theorem Only.of_below{X:List Nat}{a b:World}(h:Below a.heap.size a b):Only X a b:=⟨h.os,h.tape,h.output,h.size,fun i hi _=>h.block i hi⟩
theorem Only.then_{X:List Nat}{a b c:World}(h:Only X a b)(k:Below b.heap.size b c):Only X a c:=h.trans (.of_below k)
theorem Only.gK{X:List Nat}{a b:World}(h:Only X a b){g:Nat}(hg:g∈X)(i:Nat)(u:Value):Only X a (b.setCell ⟨g,i,none⟩ u):=
 h.trans ⟨rfl,rfl,rfl,by simp,fun k hk hx=>Below.heap_setCell b ⟨g,i,none⟩ u k (fun e=>hx (by rw[e];exact hg))⟩
theorem Only.qN{X:List Nat}{a b:World}(h:Only X a b){g:Nat}(hg:a.heap.size<=g)(i:Nat)(u:Value):Only X a (b.setCell ⟨g,i,none⟩ u):=
 ⟨h.os,h.tape,h.output,by have:=h.size;simpa using this,fun k hk hx=>(Below.heap_setCell b ⟨g,i,none⟩ u k (fun e=>by rw[e]at hk;exact absurd hk (by show¬g<_;omega))).trans (h.block k hk hx)⟩
theorem Only.grown{X:List Nat}{a b c:World}(h:Only X a b){g:Nat}(hg:g∈X)(k:b.grownBy c (some g)):Only X a c:=
 h.trans ⟨k.os,k.tape,k.output,k.size,fun i hi hx=>k.block i hi (fun e=>hx (by injection e with e;rw[e];exact hg))⟩
theorem Only.alloc{X:List Nat}{a b:World}(h:Only X a b)(o:Obj):Only X a (b.alloc o):=h.then_ (aK _ _)
theorem Only.drew{X:List Nat}{a b:World}(h:Only X a b):Only X a b.drew:=⟨h.os,h.tape,h.output,h.size,h.block⟩
theorem Only.blk{X:List Nat}{a b:World}(h:Only X a b){g:Nat}{t:TypeId}{cs:Array Value}(hb:bZ a g t cs)(hg:g∉X):bZ b g t cs:=(h.block g hb.lt hg).trans hb
def sG(l:Int)(g:Nat)(id share:Int)(M:Nat):Array Value:=#[.int .i32 l,.int .u32 0,.pointer (some ⟨g,0,none⟩),.int .i64 id,.int .u64 share,.map (some M)]
structure Loc where
 S:Nat
 g:Nat
 gc:Nat
 cap:Nat
 M:Nat
 base:Nat
def Loc.foot(a:Loc):List Nat:=[a.S,a.g,a.gc,a.M]
structure jq(w:World)(a:Loc)(s:St):Prop where
 sg:bZ w a.S 82 (sG 0 a.g s.id s.share a.M)
 grp:fB w a.g s.t s.n (.slice (some ⟨a.gc,0,none⟩) s.cs.length a.cap) 0 0 s.cs 1
 own:mD w a.base (.slice (some ⟨a.gc,0,none⟩) s.cs.length a.cap) s.cs
 map:MapAt w a.M s.id s.pl
theorem rE{w w':World}{base:Nat}{e:TypeId}{size n gc cap:Nat}{xs:List Value}(h:w.ownsRow base e size (.slice (some ⟨gc,0,none⟩) n cap) n xs)(hb:w'.heap[gc]?=w.heap[gc]?):w'.ownsRow base e size (.slice (some ⟨gc,0,none⟩) n cap) n xs:=by
 refine⟨h.1,?_⟩;rcases h.2 with h2|⟨g,cp,cur,hv,hbg,hh,r⟩
 ·exact .inl h2
 ·simp only[Value.slice.injEq,Option.some.injEq,Addr.mk.injEq,and_true,true_and]at hv;obtain⟨rfl,rfl⟩:=hv;exact .inr ⟨gc,cap,cur,rfl,hbg,hb.trans hh,r⟩
theorem aB7{w:World}{base:Nat}{e:TypeId}{size n gc cap:Nat}{xs:List Value}(h:w.ownsRow base e size (.slice (some ⟨gc,0,none⟩) n cap) n xs):base<=gc/\gc<w.heap.size:=h.lt gc rfl
theorem jq.keep{w w':World}{a:Loc}{s:St}(h:jq w a s)(hb:∀k∈a.foot,w'.heap[k]?=w.heap[k]?):jq w' a s:=by
 refine⟨(hb a.S (by simp[Loc.foot])).trans h.sg,?_,rE h.own (hb a.gc (by simp[Loc.foot])),h.map.of_block (hb a.M (by simp[Loc.foot]))⟩;obtain⟨C,hC,r⟩:=h.grp;exact⟨C,(hb a.g (by simp[Loc.foot])).trans hC,r⟩
theorem jq.lt{w:World}{a:Loc}{s:St}(h:jq w a s):∀k∈a.foot,k<w.heap.size:=by
 intro k hk;simp[Loc.foot]at hk;rcases hk with rfl|rfl|rfl|rfl
 ·exact h.sg.lt
 ·exact h.grp.lt
 ·exact(aB7 h.own).2
 ·exact h.map.lt
theorem jq.apart{w:World}{a:Loc}{s:St}(h:jq w a s):a.S≠a.g/\a.S≠a.gc/\a.S≠a.M/\a.g≠a.M/\a.gc≠a.M:=by
 obtain⟨C,hC,-⟩:=h.grp;obtain⟨es,cl,hM,-⟩:=h.map;have hS:=h.sg;have hne:∀{g t cs},bZ w g t cs->g≠a.M:=fun{g t cs} hg e=>by
  subst e;unfold bZ at hg;rw[hM]at hg;cases hg
 refine⟨bZ.ne_ hS hC (by decide),?_,hne hS,hne hC,?_⟩
 ·intro e;exact jD h.own hS (by decide) (by rw[e];rfl)
 ·rcases h.own.2 with⟨hv,-⟩|⟨g,cp,cur,hv,_,hh,_⟩
  ·cases hv
  ·simp only[Value.slice.injEq,Option.some.injEq,Addr.mk.injEq,and_true,true_and]at hv;obtain⟨rfl,rfl⟩:=hv;exact hne (t:=85) (cs:=cur) hh
def JM(t n:Int)(cs:List Int)(id share:Int)(w:World)(e:Ending)(w':World):Prop:=
 Below w.heap.size w w'/\
 ((newE t n cs id share≠0/\e=.returned (.tuple #[.pointer none,.int .i64 (newE t n cs id share)]))\/
  (newE t n cs id share=0/\∃a:Loc,e=.returned (.tuple #[.pointer (some ⟨a.S,0,none⟩),.int .i64 0])/\jq w' a ⟨t,n,cs,id,share,[]⟩/\∀k∈a.foot,w.heap.size<=k))
theorem yu(t n:Int)(cs:List Int)(v:Value)(id share:Int)(w:World)(hv:Nums .u64 w w.heap.size v cs)(hl:cs.length<=65536)(hcb:∀i,i<cs.length->0<=cs.getD i 0)
  (hs:0<=share/\share<18446744073709551616):
  Calls Try.prog 12 #[.agg #[.int .i64 t,.int .i64 n,v],.int .i64 id,.int .u64 share] w (JM t n cs id share w):=by
 have hbw:=aK w (.cells #[.int .i64 t,.int .i64 n,v] 28);have hck:=Lib.hid (aN9 t n cs v id share _ (hv.later hbw) hl hcb hs);have HBW:=Lib.hid hbw;have HV:=Lib.hid hv;have HCB:=Lib.hid hcb;obtain⟨A,c,rfl,-⟩:=hv;have VQ:=Lib.hid (bZ.new w 28 #[.int .i64 t,.int .i64 n,.slice A cs.length c]);clear hbw hcb hs;obtain⟨bC,hbC⟩:∃b,qQ t n cs id share=b:=⟨_,rfl⟩;rw[hbC]at hck;have HBC:=Lib.hid hbC;clear hbC;by_cases h0:iD t n cs id share=0
 case neg=>
  have hE:=Lib.hid (PS h0);have HNZ:=Lib.hid h0;have hne:(iD t n cs id share != 0)=true:=by rw[bne_iff_ne];exact h0
  generalize iD t n cs id share=x at*;clear h0
  go_enter Try.func12,Try.ntmps12
  go_wp2_with fail
  refine hck.out.mono ?_;rintro e w1 ⟨rfl,hb1⟩
  go_wp2_with fail
  go_ret2
  exact⟨HBW.out.trans (hb1.mono (by simp)),.inl ⟨by rw[hE.out];exact HNZ.out,by rw[hE.out];rfl⟩⟩
 rw[h0]at hck;have H0:=Lib.hid h0;clear h0;have m0:((0:Int) != 0)=false:=rfl;cases bC
 case false=>
  have hE:=Lib.hid (PN H0.out HBC.out)
  go_enter Try.func12,Try.ntmps12
  go_wp2_with fail
  refine hck.out.mono ?_;rintro e w1 ⟨rfl,hb1⟩
  go_wp2_with fail
  go_ret2
  exact⟨HBW.out.trans (hb1.mono (by simp)),.inl ⟨by rw[hE.out];omega,by rw[hE.out];rfl⟩⟩
 have hE:=Lib.hid (Ru H0.out HBC.out);have hgo:=(Og H0.out).1;have hgs:=jG hgo;have HGO:=Lib.hid hgo;have hcl:0<cs.length:=by omega
 clear hgo hgs;have hmm:= @run_makeMap Try.prog
 go_enter Try.func12,Try.ntmps12
 go_wp2_with fail
 refine hck.out.mono ?_;rintro e w1 ⟨rfl,hb1⟩;have ai3:=VQ.out.below hb1 VQ.out.lt;have c0:w1.cell? ⟨w.heap.size,0,none⟩=some (.int .i64 t):=ai3.cell 0;have c1:w1.cell? ⟨w.heap.size,1,none⟩=some (.int .i64 n):=ai3.cell 1;have c2:w1.cell? ⟨w.heap.size,2,none⟩=some (.slice A cs.length c):=ai3.cell 2;have Ba:=HBW.out.trans (hb1.mono (by simp));have hof:=Lib.hid (ofC t n cs _ w1 (HV.out.later Ba) hl HCB.out);have HW1:=Lib.hid Ba;clear Ba hb1 ai3 hck
 go_wp2_with fail
 refine hof.out.mono ?_;rintro e w2 ⟨hb2,⟨hbad,rfl⟩|⟨hok,g,vc,rfl,hg,hG,hO⟩⟩
 ·rw[HGO.out]at hbad;cases hbad
 have hbw2:=HW1.out.trans (hb2.mono HW1.out.size);obtain⟨gc,cap,rfl,hgb,-,-,-⟩:=hO.form hcl;have HG:=Lib.hid hG;have HO:=Lib.hid hO;have HW2:=Lib.hid hbw2;have bF8:=Lib.hid HW1.out.size;clear hG hO hbw2 hb2 hok
 go_wp2_with fail
 go_ret2
 have ha:Below w2.heap.size w2 (w2.alloc (.map #[] 0)):=aK _ _;have hb:Below w2.heap.size w2 ((w2.alloc (.map #[] 0)).alloc (.cells (sG 0 g id share w2.heap.size) 82)):=ha.alloc (by simp) _;refine⟨HW2.out.trans (hb.mono HW2.out.size),.inr ⟨hE.out,⟨w2.heap.size+1,g,gc,cap,w2.heap.size,w1.heap.size⟩,rfl,⟨jc _ _ (by simp),HG.out.below hb HG.out.lt,own_below HO.out hb (Nat.le_refl _),(MapAt.new w2 id).of_block (heap_alloc_old _ _ (by simp))⟩,?_⟩⟩;have h1:=HW2.out.size;have h2:=bF8.out;intro k hk;simp[Loc.foot]at hk;omega
theorem ab3{w:World}{S g M:Nat}{id share:Int}(h:bZ w S 82 (sG 0 g id share M)):bZ (w.setCell ⟨S,0,none⟩ (.int .i32 1)) S 82 (sG 1 g id share M):=h.gK 0 _
theorem ab4{w:World}{S g M:Nat}{id share:Int}(h:bZ w S 82 (sG 1 g id share M)):bZ (w.setCell ⟨S,0,none⟩ (.int .i32 0)) S 82 (sG 0 g id share M):=h.gK 0 _
structure qU(w:World)(a:Loc)(s:St):Prop where
 sg:bZ w a.S 82 (sG 1 a.g s.id s.share a.M)
 grp:fB w a.g s.t s.n (.slice (some ⟨a.gc,0,none⟩) s.cs.length a.cap) 0 0 s.cs 1
 own:mD w a.base (.slice (some ⟨a.gc,0,none⟩) s.cs.length a.cap) s.cs
 map:MapAt w a.M s.id s.pl
theorem qU.later{w w':World}{a:Loc}{s:St}(h:qU w a s)(hb:Below w.heap.size w w'):qU w' a s:=
 ⟨h.sg.below hb h.sg.lt,h.grp.below hb h.grp.lt,own_below h.own hb (Nat.le_refl _),h.map.of_block (hb.block _ h.map.lt)⟩
theorem jq.enter{w:World}{a:Loc}{s:St}(h:jq w a s):qU (w.setCell ⟨a.S,0,none⟩ (.int .i32 1)) a s:=by
 obtain⟨n1,n2,n3,-,-⟩:=h.apart;have hb:∀k,k≠a.S->(w.setCell ⟨a.S,0,none⟩ (.int .i32 1)).heap[k]?=w.heap[k]?:=fun k hk=>Below.heap_setCell _ ⟨a.S,0,none⟩ _ k hk
 refine⟨ab3 h.sg,?_,rE h.own (hb _ (Ne.symm n2)),h.map.of_block (hb _ (Ne.symm n3))⟩;obtain⟨C,hC,r⟩:=h.grp;exact⟨C,(hb _ (Ne.symm n1)).trans hC,r⟩
theorem qU.apart{w:World}{a:Loc}{s:St}(h:qU w a s):a.S≠a.g/\a.S≠a.gc/\a.S≠a.M:=by
 obtain⟨C,hC,-⟩:=h.grp;obtain⟨es,cl,hM,-⟩:=h.map;refine⟨bZ.ne_ h.sg hC (by decide),fun e=>jD h.own h.sg (by decide) (by rw[e];rfl),fun e=>?_⟩;have hS:=h.sg;unfold bZ at hS;rw[e,hM]at hS;cases hS
theorem qU.leave{w:World}{a:Loc}{s:St}(h:qU w a s):jq (w.setCell ⟨a.S,0,none⟩ (.int .i32 0)) a s:=by
 obtain⟨n1,n2,n3⟩:=h.apart;have hb:∀k,k≠a.S->(w.setCell ⟨a.S,0,none⟩ (.int .i32 0)).heap[k]?=w.heap[k]?:=fun k hk=>Below.heap_setCell _ ⟨a.S,0,none⟩ _ k hk
 refine⟨ab4 h.sg,?_,rE h.own (hb _ (Ne.symm n2)),h.map.of_block (hb _ (Ne.symm n3))⟩;obtain⟨C,hC,r⟩:=h.grp;exact⟨C,(hb _ (Ne.symm n1)).trans hC,r⟩
theorem qU.cells{w:World}{a:Loc}{s:St}(h:qU w a s):w.cell? ⟨a.S,0,none⟩=some (.int .i32 1)/\w.cell? ⟨a.S,2,none⟩=some (.pointer (some ⟨a.g,0,none⟩))/\w.cell? ⟨a.S,3,none⟩=some (.int .i64 s.id)/\
  w.cell? ⟨a.S,4,none⟩=some (.int .u64 s.share)/\w.cell? ⟨a.S,5,none⟩=some (.map (some a.M)):=⟨h.sg.cell 0,h.sg.cell 2,h.sg.cell 3,h.sg.cell 4,h.sg.cell 5⟩
theorem nM(a:Loc):a.S∈a.foot:=by simp[Loc.foot]
theorem Ov(a:Loc):a.M∈a.foot:=by simp[Loc.foot]
theorem SV(w:World)(a:Loc)(s:St)(h:jq w a s):
  Calls Try.prog 15 #[.pointer (some ⟨a.S,0,none⟩)] w fun e w'=>e=.returned (.int .i64 s.pl.length)/\jq w' a s/\Only a.foot w w':=by
 have h0:w.cell? ⟨a.S,0,none⟩=some (.int .i32 0):=h.sg.cell 0;have hz:=h.sg.frozen 0;have hI:=h.enter;have hlk:=lock_free muLib ⟨a.S,0,none⟩ w h0 hz;have HO:=Lib.hid (((Only.refl a.foot w).gK (nM a) 0 (.int .i32 1)).gK (nM a) 0 (.int .i32 0));obtain⟨c0,c2,c3,c4,c5⟩:=hI.cells;have HI:=Lib.hid hI;have hln:=QX hI.map 3;have hz1:=hI.sg.frozen 0;have HLK:=Lib.hid hlk;clear h h0 hz hI hlk;generalize w.setCell ⟨a.S,0,none⟩ (.int .i32 1)=w1 at*
 go_enter_defers Try.func15,Try.ntmps15
 go_wp2_with (go_at_call 28;refine HLK.out.mono ?_;rintro e w' ⟨rfl,rfl⟩)
 refine leaves_cons (f:=29) (args:=#[.pointer (some ⟨a.S,0,none⟩)]) (by simp) (by simp[go_sem]) ?_;refine(unlock_deferred muLib ⟨a.S,0,none⟩ .returning _ c0 hz1).mono ?_;rintro e u' w'' ⟨rfl,rfl,rfl⟩;exact⟨_,results_tmp rfl _ _ _,rfl,HI.out.leave,HO.out⟩
theorem MK{M:Nat}{id:Int}{pl:List (Int×Int)}(hid:1<=id/\id<=9)(hinj:∀q∈pl,∀q'∈pl,iw id q=iw id q'->q=q'){c:Cm}(hc:Fits c):
  ∃q b,(∀w:World,MapAt w M id pl->(Instr.lookup 73 (.map (some M)) (pz c) true).run Try.prog w=.ok (.tuple #[F5 q,.bool b]) w)/\(b=true↔∃q'∈pl,iw id q'=c)/\(b=true->q∈pl/\iw id q=c):=by
 by_cases hq:∃q'∈pl,iw id q'=c
 ·obtain⟨q,hq1,hq2⟩:=hq;exact⟨q,true,fun w h=>II h hid hinj hc hq1 hq2,by simp;exact⟨q.1,q.2,hq1,hq2⟩,fun _=>⟨hq1,hq2⟩⟩
 ·exact⟨(0,0),false,fun w h=>KO h hid hc (fun q h1 h2=>hq ⟨q,h1,h2⟩),by simp;intro x y h1 h2;exact hq ⟨(x,y),h1,h2⟩,fun h=>by cases h⟩
theorem Qo{w:World}{g:Nat}{T:TypeId}{x y z:Value}(h:bZ w g T #[x,y,z])(x' y' z':Value):bZ (((w.setCell ⟨g,0,none⟩ x').setCell ⟨g,1,none⟩ y').setCell ⟨g,2,none⟩ z') g T #[x',y',z']:=((h.gK 0 x').gK 1 y').gK 2 z'
theorem mJ{w:World}{a:Loc}{s:St}(h:qU w a s){g:Nat}(hg:g∉a.foot)(x y z:Value):qU (((w.setCell ⟨g,0,none⟩ x).setCell ⟨g,1,none⟩ y).setCell ⟨g,2,none⟩ z) a s:=by
 have hb:∀k∈a.foot,(((w.setCell ⟨g,0,none⟩ x).setCell ⟨g,1,none⟩ y).setCell ⟨g,2,none⟩ z).heap[k]?=w.heap[k]?:=fun k hk=>by
  have hne:k≠g:=fun e=>hg (e ▸ hk)
  exact((Below.heap_setCell _ ⟨g,2,none⟩ z k hne).trans (Below.heap_setCell _ ⟨g,1,none⟩ y k hne)).trans (Below.heap_setCell _ ⟨g,0,none⟩ x k hne)
 refine⟨(hb a.S (by simp[Loc.foot])).trans h.sg,?_,rE h.own (hb a.gc (by simp[Loc.foot])),h.map.of_block (hb a.M (by simp[Loc.foot]))⟩;obtain⟨C,hC,r⟩:=h.grp;exact⟨C,(hb a.g (by simp[Loc.foot])).trans hC,r⟩
end uz
end Go.Proofs.Ytpfpokjaeffbjab
