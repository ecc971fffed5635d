/- Part of the proof: Cmp, Nm, Sa1, Sa2. -/
import Derived.Test.YtpfpokjaeffbjaaHh0
import Derived.Test.YtpfpokjaeffbjaaHh10
import Derived.Test.YtpfpokjaeffbjaaHh5
import Derived.Test.YtpfpokjaeffbjaaHh7
import Derived.Test.YtpfpokjaeffbjaaHh9
import Derived.Test.YtpfpokjaeffbjaaHh6
import Derived.Test.YtpfpokjaeffbjaaHh2
import Derived.Conc.Deaf
import Derived.Conc.DeferLaws
set_option linter.unusedVariables false
set_option linter.unusedSimpArgs false
set_option maxRecDepth 100000
set_option maxHeartbeats 16000000
open List renaming range→bq,mem_cons_self→dh,cons_append→bM
open Bool renaming and_eq_true→aD,or_eq_true→bf
open Go.Instr renaming loadAt→aT,alloc→dw,storeAt→bJ,sureAddr→dM
open Go.Proofs.Try renaming prog→dS
open Go.World renaming cell?→bN
open Array renaming getElem?_eq_getElem→aI,getD_eq_getD_getElem?→bF
open Go.Sem renaming run→cC,run_bind→aO
open Go.Deferred renaming ofValue→cI
namespace Go.Proofs.Ytpfpokjaeffbjaa
open Go renaming World→ae,Value→af,Goroutine→ah,Frame→ai,TypeId→aj,FuncId→ak,Program→au,undef→av,execOp→ax
open Go.Lib renaming hid→ay
namespace Rag
open Go.RowKit Go.Conc Cc Pl ni oa ng nU Mem nO KT Hw
def sumTo(rt:Nat->Bool)(zs:List Int):Nat->Int
 |0=>0
 |k+1=>if rt k then(sumTo rt zs k+zs.getD k 0)%1073741789 else sumTo rt zs k
theorem BX(rt:Nat->Bool)(zs:List Int)(hz:∀k,k<zs.length->0<=zs.getD k 0):∀k,0<=sumTo rt zs k/\sumTo rt zs k<1073741789
 |0=>by simp[sumTo]
 |k+1=>by
  rw[sumTo];split
  ·omega
  ·exact BX rt zs hz k
theorem yO(rt:Nat->Bool)(zs:List Int)(hz:∀k,k<zs.length->0<=zs.getD k 0/\zs.getD k 0<1073741789):∀k,k<=zs.length->(∀j,j<k->rt j=true)->sumTo rt zs k=vO 0 zs k
 |0,_,_=>rfl
 |k+1,hk,h=>by
  have b:=BX rt zs (fun k hk=>(hz k hk).1) k;have z:=hz k (by omega);rw[sumTo,if_pos (h k (by omega)),vO,<-yO rt zs hz k (by omega) fun j hj=>h j (by omega)];unfold mE;rw[kU (by omega) (by omega)]
theorem Sc(xs:List Int):∀n,0<=pg 1 xs n/\pg 1 xs n<2147483579
 |0=>by simp[pg]
 |n+1=>by rw[pg];exact BF _ _
theorem Yd(l:List Cm)(key:Int)(msg:ByteArray):0<=gI l key msg/\gI l key msg<2147483579:=Sc _ _
structure VN where
 r:Int
 z:Int
 ids:List Int
 e:Int
def rF(t n:Int)(cs:List Int)(l:List Cm)(msg:ByteArray)(zs:List Int)(rt:Nat->Bool):VN:=
 if ml t n cs l msg zs.length≠0 then⟨0,0,[],ml t n cs l msg zs.length⟩else if fT rt l l.length=[]then⟨gI l (cs.getD 0 0) msg,sumTo rt zs l.length,[],0⟩else⟨0,0,fT rt l l.length,14⟩
def VN.val(a:VN)(W:af):af:=.tuple #[.agg #[.int .u64 a.r,.int .u64 a.z],W,.int .i64 a.e]
end Rag
namespace Cc
open Go.Conc Go.ConcN Go.RowKit
open Pl ni oa ng Mem nO Au yL Hw KT ED Rag
open nU hiding base
theorem TT.YN{q:iU}{P:au}(hP:q.P=P){Ch:Nat->ah->St eH->Prop}{st:St eH}{b:ai}{a:Act}{kk:List Item}{cs:List ai}{ops:Array Oper}{i:Nat}{rest:List Nat}{o:Oper}{f:ak}{args:Array af}(ho:ops[i]?=some o)(hw:Region.wanted o (yielded ops a.tmps)=true)(hk:b.kind≠ .early)
  (hr:∀w:ae,(ax a.eval o).run P w=.ok (.enter f args) w)(he:∀w:ae,(ax a.eval o).events P w #[]=#[])
  (h:TT (cfg q) 0 Ch (G (Frame.enter P f args .normal) (b.at a (.inRegion ops (i::rest)::kk)::cs)) st):TT (cfg q) 0 Ch (G (b.at a (.inRegion ops (i::rest)::kk)) cs) st:=by
 subst hP;refine TT.oX rfl 4 fun w₀ hF=>Goes.step rfl fun w₁ bz4=>?_;show(stepG q.P (0==0) (G (b.at a (.inRegion ops (i::rest)::kk)) cs) w₁).goes _;rw[stepG_enter ho hw hk (hr w₁)];unfold listed;rw[he,seen_none];exact⟨⟨rfl,rfl⟩,Goes.stop fun w₂ _=>⟨rfl,h⟩⟩
theorem DG{t n:Int}{cs zs:List Int}{l:List Cm}{msg:ByteArray}{num:Nat}{K:List (Nat×Obj)}{v:af}{st:St eH}(hz:∀k,k<zs.length->0<=zs.getD k 0)(h:Vk t n cs l msg zs.length (fun k=>zs.getD k 0) num K v st):
  ∃(A:Option Addr) (c num':Nat) (K':List (Nat×Obj)),v=(rF t n cs l msg zs (fun k=>iB (zs.getD k 0) (jR (gI l (cs.getD 0 0) msg) (cs.getD 0 0) msg) cs l msg k)).val (.slice A (rF t n cs l msg zs (fun k=>iB (zs.getD k 0) (jR (gI l (cs.getD 0 0) msg) (cs.getD 0 0) msg) cs l msg k)).ids.length c)/\
   kH 0 num' K' st/\(∀b o,(b,o)∈K->(b,o)∈K')/\lO K' .i64 A c (rF t n cs l msg zs (fun k=>iB (zs.getD k 0) (jR (gI l (cs.getD 0 0) msg) (cs.getD 0 0) msg) cs l msg k)).ids:=by
 generalize hrt:(fun k=>iB (zs.getD k 0) (jR (gI l (cs.getD 0 0) msg) (cs.getD 0 0) msg) cs l msg k)=rt at h ⊢;have hnil:lO K .i64 none 0 []:=⟨Nat.le_refl _,.inl rfl,fun h=>absurd h (by simp)⟩;rcases h with⟨h1,rfl,h2⟩|⟨h1,h2⟩
 ·refine⟨none,0,num,K,?_,h2,fun _ _ h=>h,?_⟩
  ·unfold rF;rw[if_pos h1];rfl
  ·unfold rF;rw[if_pos h1];exact hnil
 ·rw[hrt]at h2;have hns:=Z9 h1;rcases h2 with⟨h3,rfl,h4⟩|⟨h3,c,cap,C,rfl,h4,h7,h5,h6⟩
  ·refine⟨none,0,num+l.length,K,?_,h4,fun _ _ h=>h,?_⟩
   ·unfold rF;rw[if_neg (by simpa using h1),if_pos h3];have hall:=(EF rt l l.length).1 h3;have e1:(bq l.length).map (fun k=>zs.getD k 0)=zs:=by
     refine List.ext_getElem (by simp[hns]) fun i i1 i2=>?_;simp[List.getD_eq_getElem?_getD,i2]
    have e2:=yO rt zs (fun k hk=>⟨hz k hk,by
     have:=hall k (by omega)
     rw[<-hrt]at this;simp only[iB,aD,decide_eq_true_eq]at this;exact this.1⟩) l.length (by omega) hall
    rw[e1,e2,hns];rfl
   ·unfold rF;rw[if_neg (by simpa using h1),if_pos h3];exact hnil
  ·refine⟨some ⟨c,0,none⟩,cap,num+l.length,_,?_,h4,fun _ _ h=>List.mem_cons_of_mem _ h,?_⟩
   ·unfold rF;rw[if_neg (by simpa using h1),if_neg h3];rfl
   ·unfold rF;rw[if_neg (by simpa using h1),if_neg h3];exact⟨h7,.inr ⟨c,0,rfl,C,_,_,dh ..⟩,fun _=>⟨c,0,rfl,C,_,_,dh ..,fun i hi=>by rw[Nat.zero_add];exact h6 i hi⟩⟩
theorem xJ{P:au}{b:ai}{a:Act}{w w':ae}{fn:Func}{todo:List Item}{v:af}(hn:b.kind=.normal)(hd:a.defers=[])(hf:P.funcs[b.fn]?=some fn)(hi:P.inits.idxOf? b.fn=none)(hr:(results fn a.tmps).run P w=.ok v w')(he:(results fn a.tmps).events P w #[]=#[]):
  stepG P true (G {b.at a todo with mode:=.returning} []) w=.ended (.done v) w' #[]:=by
 have hs:seen P b.fn #[]=#[]:=seen_none ..;simp[G,stepG,unwind,doReturn,Frame.at,hn,hd,hf,hr,he,hs,hi,GStep.after]
theorem TT.bottom{q:iU}{P:au}(hP:q.P=P){S:ak->Bool}{Ds:Nat->Bool}{ro:Nat->Md}{X:Nat->Prop}{fK st:St eH}{num t:Nat}{K:List (Nat×Obj)}{Ch:Nat->ah->St eH->Prop}{fn:Func}{b:ai}{a':Act}{todo:List Item}(hk:b.kind=.normal)(hfn:P.funcs[b.fn]?=some fn)(hin:P.inits.idxOf? b.fn=none)(hres:fn.results=#[.tmp t])(hD:Ds t=false)
  (hs:Sh q S Ds ro X fK (fun a w=>a.tmps[t]?=some (.bool true)) a' st)(hA:kH 0 num K fK)(hKX:∀b o,(b,o)∈K->¬X b)(fin:∀dV,kH 0 num K dV->Inv q dV->q.Post (.bool true) dV.w):
  TT (cfg q) 0 Ch (G {b.at a' todo with mode:=.returning} []) st:=by
 obtain⟨ρ,a,s,ha,hd,hd',hH,hV,hro,τ,d,hp⟩:=hs;have h1:(nH Ds a.tmps)[t]?=some (.bool true):=by rw[Gx Ds _ hD];exact hp
 obtain⟨v',h2,h3⟩:=ha.get h1;rw[Gx Ds _ hD]at h2;cases h3;have hA2:kH 0 num K st:=hA.mn hV.2.2.2.1 hKX;refine TT.ends hP hA2 fun dV hr dY hi=>⟨.bool true,dV.w,xJ hk hd' hfn hin ?_ ?_,fin dV dY hi⟩
 ·unfold results;rw[hres];simp[go_sem,h2]
 ·unfold results;rw[hres];simp[go_sem,h2]
theorem N4(t n:Int)(x:af)(hx:(∀a,x≠ .agg a)/\∀a,x≠ .tuple a){bl:Nat}(w:ae)(h:w.heap[bl]?=some (.cells #[.int .i64 t,.int .i64 n,x] 31 (0,0))):
  (aT 31 (.pointer (some ⟨bl,0,none⟩))).run dS w=.ok (.agg #[.int .i64 t,.int .i64 n,x]) w/\∀e∈(aT 31 (.pointer (some ⟨bl,0,none⟩))).events dS w #[],∃off',e=⟨.cell ⟨bl,off',none⟩,false,false⟩:=by
 have c0:w.cell? ⟨bl,0,none⟩=some (.int .i64 t):=by simp[bN,h]
 have c1:w.cell? ⟨bl,1,none⟩=some (.int .i64 n):=by simp[bN,h]
 have c2:w.cell? ⟨bl,2,none⟩=some x:=by simp[bN,h]
 constructor
 ·simp[go_sem,c0,c1,c2]
 ·intro e he;simp[go_sem,c0,c1,c2]at he;rcases he with rfl|rfl|rfl<;>exact⟨_,rfl⟩
theorem OT(w:ae):(dw 47 true (.tuple #[])).run dS w=.ok (.pointer (some ⟨w.heap.size,0,none⟩)) (w.alloc (.cells #[.int .u64 0,.int .u64 0] 47))/\(dw 47 true (.tuple #[])).events dS w #[]=#[]:=by
 constructor<;>simp[go_sem]
theorem MF(r z:Int){bl:Nat}(w:ae)(h:w.heap[bl]?=some (.cells #[.int .u64 0,.int .u64 0] 47 (0,0))):
  ∃w',((bJ 47 (.pointer (some ⟨bl,0,none⟩)) (.agg #[.int .u64 r,.int .u64 z])).run dS w=.ok () w'/\∀e∈(bJ 47 (.pointer (some ⟨bl,0,none⟩)) (.agg #[.int .u64 r,.int .u64 z])).events dS w #[],∃off' x,e=⟨.cell ⟨bl,off',none⟩,x,false⟩)/\w'.heap.size=w.heap.size/\w'.os=w.os/\w'.output=w.output/\(∀b,b≠bl->w'.heap[b]?=w.heap[b]?)/\w'.heap[bl]?=some (.cells #[.int .u64 r,.int .u64 z] 47 (0,0)):=by
 have B:fF w bl 47 #[.int .u64 0,.int .u64 0]:=h;have e0:=B.cell 0;have e1:=B.cell 1;have f0:=B.frozen 0;have f1:=B.frozen 1;have B2:=((B.iK 0 (.int .u64 r)).iK 1 (.int .u64 z));refine⟨(w.setCell ⟨bl,0,none⟩ (.int .u64 r)).setCell ⟨bl,1,none⟩ (.int .u64 z),⟨?_,?_⟩,by simp[World.setCell],rfl,rfl,fun b hb=>?_,B2⟩
 ·simp[go_sem,e0,e1,f0,f1]
 ·intro e he;simp[go_sem,e0,e1,f0,f1]at he;rcases he with rfl|rfl<;>exact⟨_,_,rfl⟩
 ·exact(Below.heap_setCell _ ⟨bl,1,none⟩ _ b hb).trans (Below.heap_setCell w ⟨bl,0,none⟩ _ b hb)
theorem lO.sh{K:List (Nat×Obj)}{A:Option Addr}{c:Nat}{zs:List Int}{dm num:Nat}{st:St eH}(h:lO K .u64 A c zs)(hA:kH dm num K st):0<zs.length->∃bS oS nmd,A=some ⟨bS,oS,none⟩/\Cc.vh K bS=some (.read nmd)/\∃ob,(bS,ob)∈K/\∀(w:ae) (k:Nat),w.heap[bS]?=some ob->k<zs.length->w.cell? ⟨bS,oS+k,none⟩=some (.int .u64 (zs.getD k 0)):=fun hl=>by
 obtain⟨b,off,e1,C,e,fz,h4,h5⟩:=h.2.2 hl;exact⟨b,off,C.size,e1,hA.vh h4,_,h4,fun w k hw hk=>by simp only[bN,hw];simpa using h5 k hk⟩
section
variable{q:iU}{t n:Int}{cs zs:List Int}{l:List Cm}{msg:ByteArray}{A1 A2 A3:Option Addr}{c1 c2 c3:Nat}
theorem S7{S:ak->Bool}{dm num:Nat}{K:List (Nat×Obj)}{st:St eH}(hA:kH dm num K st)(hs1:U5 K A1)(hs2:U5 K A2)(hs3:U5 K A3):AR (fun f=>S f=true) (zi (Cc.vh K)) #[.agg #[.int .i64 t,.int .i64 n,.slice A1 cs.length c1],.string msg,.slice A2 l.length c2,.slice A3 zs.length c3] #[.agg #[.int .i64 t,.int .i64 n,.slice A1 cs.length c1],.string msg,.slice A2 l.length c2,.slice A3 zs.length c3]:=by
 refine⟨rfl,fun i v v' e1 e2=>?_⟩;rw[e1]at e2;cases e2;match i,e1 with
 |0,e1=>
  cases e1;refine .agg rfl fun j u u' f1 f2=>?_;rw[f1]at f2;cases f2;match j,f1 with
  |0,f1=>cases f1;exact .int _ _
  |1,f1=>cases f1;exact .int _ _
  |2,f1=>cases f1;exact hs1.vr hA _ _
  |j+3,f1=>simp at f1
 |1,e1=>cases e1;exact .string _
 |2,e1=>cases e1;exact hs2.vr hA _ _
 |3,e1=>cases e1;exact hs3.vr hA _ _
 |i+4,e1=>simp at e1
end
end Cc
namespace pH
open Go.Conc Go.ConcN Go.RowKit Cc
open Pl Mem
open Go.ConcM (OsLater)
def yE(W:ae):List (Nat×Obj):=(bq W.heap.size).filterMap fun b=>(W.heap[b]?).map fun o=>(b,o)
theorem kg{W:ae}{b:Nat}{o:Obj}:(b,o)∈yE W↔W.heap[b]?=some o:=by
 unfold yE;rw[List.mem_filterMap];constructor
 ·rintro ⟨b',hb,h⟩;rw[Option.map_eq_some_iff]at h;obtain⟨o',h1,h2⟩:=h;cases h2;exact h1
 ·intro h;exact⟨b,List.mem_range.2 (lt_of_block h),by rw[h];rfl⟩
structure Kept(W W':ae):Prop where
 os:OsLater W.os W'.os
 output:W'.output=W.output
 size:W.heap.size<=W'.heap.size
 block:∀b,b<W.heap.size->W'.heap[b]?=W.heap[b]?
noncomputable def prm(W:ae):iU:={P:=dS,tG:=137,tZ:=76,tR:=4,tW:=116,os0:=W.os,Wn:=W.output,Post:=fun v W'=>v=.bool true/\Kept W W'}
theorem Dc:Try.prog.globals.size=0:=by kernel_rfl
theorem Xd{W:ae}{num:Nat}{K:List (Nat×Obj)}{st:St eH}(hA:kH 0 num K st)(hs:∀b o,(b,o)∈yE W->(b,o)∈K)(hI:Inv (prm W) st):Kept W st.w:=by
 have hblk:∀b,b<W.heap.size->st.w.heap[b]?=W.heap[b]?:=fun b hb=>by
  have h1:W.heap[b]?=some W.heap[b]:=aI hb;rw[h1];exact(hA.fz _ _ (hs b _ (kg.2 h1))).1
 refine⟨hI.base.os,hI.base.out,?_,hblk⟩;rcases Nat.lt_or_ge st.w.heap.size W.heap.size with h|h
 ·have h1:=hblk st.w.heap.size h;rw[Array.getElem?_eq_none nle,aI h]at h1;cases h1
 ·exact h
theorem xn{w:ae}{b off:Nat}{v:af}(h:w.cell? ⟨b,off,none⟩=some v):∃C e fz,w.heap[b]?=some (.cells C e fz)/\C[off]?=some v:=by
 have hlt:=World.block_lt_of_cell? w _ h;have hb:w.heap[b]?=some w.heap[b]:=aI hlt;unfold bN at h;rw[hb]at h;generalize w.heap[b]=ob at hb h;cases ob with
 |cells C e fz=>exact⟨C,e,fz,hb,by simpa using h⟩
 |_=>simp at h
theorem Sr{k:IntKind}{W:ae}{A:Option Addr}{c:Nat}{l:List Int}(h:gA k W W.heap.size (.slice A l.length c) l)(hs:U5 (yE W) A):lO (yE W) k A c l:=by
 obtain⟨A',c',hv,hc,h⟩:=h;cases hv;refine⟨hc,hs,fun hl=>?_⟩;obtain⟨b,off,rfl,hb,hcell⟩:=h hl;obtain⟨C,e,fz,h1,h2⟩:=xn (hcell 0 hl);refine⟨b,off,rfl,C,e,fz,kg.2 h1,fun i hi=>?_⟩;obtain⟨C',e',Oo,h3,h4⟩:=xn (hcell i hi);rw[h1]at h3;cases h3;exact h4
end pH
namespace Cc
open Go.Conc
def OkM(m:Mark):Prop:=m≠ .disable/\m≠ .enable
def Yo:Halt->Prop
 |.goexit|.waiting=>False
 |_=>True
def NM{α:Type}(wr:Bool):Sem α->Prop
 |.pure _=>True
 |.load _ _ k=>∀v,NM wr (k v)
 |.store _ _ _ k=>wr=true/\NM wr k
 |.new _ k=>∀r,NM wr (k r)
 |.shape _ k=>∀s,NM wr (k s)
 |.freeze _ _ k=>wr=true/\NM wr k
 |.frozen _ k=>∀b,NM wr (k b)
 |.getObj _ k=>∀o,NM wr (k o)
 |.setObj _ _ k=>wr=true/\NM wr k
 |.choose _ k=>∀n,NM wr (k n)
 |.sys _ k=>∀r,NM wr (k r)
 |.program k=>∀p,NM wr (k p)
 |.mark m k=>OkM m/\NM wr k
 |.halt h=>Yo h
theorem NM.pure{α:Type}{wr:Bool}(a:α):NM wr (Pure.pure a:Sem α):=trivial
class Nm{α:Type}(wr:Bool)(x:Sem α):Prop where
 out:NM wr x
instance{α:Type}(wr:Bool)(a:α):Nm wr (Pure.pure a:Sem α):=⟨trivial⟩
instance{α:Type}(wr:Bool)(h:String):Nm wr (stuck h:Sem α):=⟨trivial⟩
instance{α:Type}(wr:Bool)(h:Unsupported):Nm wr (unsupported h:Sem α):=⟨trivial⟩
instance{α:Type}(wr:Bool)(h:af):Nm wr (goPanic h:Sem α):=⟨trivial⟩
theorem NM.bind{α β:Type}{wr:Bool}{x:Sem α}{f:α->Sem β}(h:NM wr x)(k:∀a,NM wr (f a)):NM wr (x>>=f):=by
 show NM wr (Sem.bind x f);induction x with
 |pure a=>exact k a
 |load m a c ih=>exact fun v=>ih v (h v)
 |store m a v c ih=>exact⟨h.1,ih h.2⟩
 |new o c ih=>exact fun v=>ih v (h v)
 |shape r c ih=>exact fun v=>ih v (h v)
 |freeze a n c ih=>exact⟨h.1,ih h.2⟩
 |frozen a c ih=>exact fun v=>ih v (h v)
 |getObj r c ih=>exact fun v=>ih v (h v)
 |setObj r o c ih=>exact⟨h.1,ih h.2⟩
 |choose q c ih=>exact fun v=>ih v (h v)
 |sys q c ih=>exact fun v=>ih v (h v)
 |program c ih=>exact fun v=>ih v (h v)
 |mark m c ih=>exact⟨h.1,ih h.2⟩
 |halt h'=>exact h
theorem NM.ite{α:Type}{wr:Bool}{c:Prop} [Decidable c]{a b:Sem α}(h1:NM wr a)(h2:NM wr b):NM wr (if c then a else b):=by
 by_cases h:c
 ·rw[if_pos h];exact h1
 ·rw[if_neg h];exact h2
theorem J2{P:au}{w:ae}{a:Addr}{b:Bool}{h:Halt}(e:w.farLoad P a b=.error h\/∃v,w.farStore P a v b=.error h):Yo h:=by
 have nc:∀s,Yo (w.noCell a s):=fun s=>by unfold World.noCell;split<;>trivial
 rcases e with e|⟨v,e⟩
 ·unfold World.farLoad at e;split at e
  ·split at e
   ·cases e
   ·cases e;trivial
  ·cases e;exact nc _
 ·unfold World.farStore at e;split at e
  ·split at e
   ·cases e
   ·cases e;trivial
  ·cases e;exact nc _
def Lv{α:Type}(P:au):Sem α->Nat->Nat->Prop
 |.pure _,d,d'=>d=d'
 |.load _ _ k,d,d'=>∀v,Lv P (k v) d d'
 |.store _ _ _ k,d,d'=>Lv P k d d'
 |.new _ k,d,d'=>∀r,Lv P (k r) d d'
 |.shape _ k,d,d'=>∀s,Lv P (k s) d d'
 |.freeze _ _ k,d,d'=>Lv P k d d'
 |.frozen _ k,d,d'=>∀b,Lv P (k b) d d'
 |.getObj _ k,d,d'=>∀o,Lv P (k o) d d'
 |.setObj _ _ k,d,d'=>Lv P k d d'
 |.choose _ k,d,d'=>∀n,Lv P (k n) d d'
 |.sys _ k,d,d'=>∀r,Lv P (k r) d d'
 |.program k,d,d'=>Lv P (k P) d d'
 |.mark .disable k,d,d'=>Lv P k (d+1) d'
 |.mark .enable k,d,d'=>Lv P k (d-1) d'
 |.mark _ k,d,d'=>Lv P k d d'
 |.halt h,_,_=>Yo h
theorem NM.lv{α:Type}{P:au}{wr:Bool}{x:Sem α}(h:NM wr x)(d:Nat):Lv P x d d:=by
 induction x with
 |pure a=>exact(rfl:d=d)
 |load m a c ih=>exact fun v=>ih v (h v)
 |store m a v c ih=>exact ih h.2
 |new o c ih=>exact fun v=>ih v (h v)
 |shape r c ih=>exact fun v=>ih v (h v)
 |freeze a n c ih=>exact ih h.2
 |frozen a c ih=>exact fun v=>ih v (h v)
 |getObj r c ih=>exact fun v=>ih v (h v)
 |setObj r o c ih=>exact ih h.2
 |choose q c ih=>exact fun v=>ih v (h v)
 |sys q c ih=>exact fun v=>ih v (h v)
 |program c ih=>exact ih P (h P)
 |mark m c ih=>
  have:=ih h.2
  cases m<;>first
   |exact this
   |exact absurd rfl h.1.1
   |exact absurd rfl h.1.2
 |halt h'=>exact h
theorem Lv.bind{α β:Type}{P:au}{x:Sem α}{f:α->Sem β}{d₁ d₂:Nat}:∀{d:Nat},Lv P x d d₁->(∀a,Lv P (f a) d₁ d₂)->Lv P (x>>=f) d d₂:=by
 show∀{d:Nat},Lv P x d d₁->(∀a,Lv P (f a) d₁ d₂)->Lv P (Sem.bind x f) d d₂;induction x with
 |pure a=>intro d h k;cases h;exact k a
 |load m a c ih=>exact fun h k v=>ih v (h v) k
 |store m a v c ih=>exact fun h k=>ih h k
 |new o c ih=>exact fun h k v=>ih v (h v) k
 |shape r c ih=>exact fun h k v=>ih v (h v) k
 |freeze a n c ih=>exact fun h k=>ih h k
 |frozen a c ih=>exact fun h k v=>ih v (h v) k
 |getObj r c ih=>exact fun h k v=>ih v (h v) k
 |setObj r o c ih=>exact fun h k=>ih h k
 |choose q c ih=>exact fun h k v=>ih v (h v) k
 |sys q c ih=>exact fun h k v=>ih v (h v) k
 |program c ih=>exact fun h k=>ih P h k
 |mark m c ih=>intro d h k;cases m<;>exact ih h k
 |halt h'=>exact fun h _=>h
def U4(e:Event):Prop:=e.sync=true\/∀m,e.loc≠ .mark m
theorem deaf_push(d:Nat)(es:Array Event)(e:Event):deafBehind d (es.push e)=deafBehind (deafBehind d es) #[e]:=by
 unfold deafBehind;simp
theorem sj(d:Nat){e:Event}(h:∀m,e.loc≠ .mark m):deafBehind d #[e]=d:=by
 obtain⟨l,w,s⟩:=e;cases l<;>first|rfl|exact absurd rfl (h _)
theorem Lv.run{α:Type}{P:au}{x:Sem α}{Ez d':Nat}:∀{d:Nat} {w:ae} {es:Array Event},Lv P x d d'->deafBehind Ez es=d->(∀e∈es,U4 e)->
  (∀a w',(x.runT P w es).1=.ok a w'->deafBehind Ez (x.runT P w es).2=d'/\∀e∈(x.runT P w es).2,U4 e)/\(∀h w',(x.runT P w es).1=.halt h w'->Yo h):=by
 have pu:∀{es:Array Event} {e0:Event},U4 e0->(∀e∈es,U4 e)->∀e∈es.push e0,U4 e:=fun h0 h e he=>by
  rcases Array.mem_push.1 he with h1|rfl
  ·exact h e h1
  ·exact h0
 have ap:∀{es:Array Event} {l:List Addr} {b c:Bool},(∀e∈es,U4 e)->∀e∈es++l.toArray.map (fun a=>(⟨.cell a,b,c⟩:Event)),U4 e:=fun h e he=>by
  rcases Array.mem_append.1 he with h1|h1
  ·exact h e h1
  ·obtain⟨a,_,rfl⟩:=Array.mem_map.1 h1;exact .inr fun m=>by simp
 have apd:∀{es:Array Event} {l:List Addr} {b c:Bool} {d:Nat},deafBehind Ez es=d->deafBehind Ez (es++l.toArray.map (fun a=>(⟨.cell a,b,c⟩:Event)))=d:=fun{es l b c d} h=>by
  subst h;induction l generalizing es with
  |nil=>simp
  |cons a l ih=>
   have e:es++(a::l).toArray.map (fun a=>(⟨.cell a,b,c⟩:Event))=es.push ⟨.cell a,b,c⟩++l.toArray.map (fun a=>(⟨.cell a,b,c⟩:Event)):=by simp
   rw[e,ih,deaf_push,sj _ (fun m=>by simp)]
 have pd:∀{es:Array Event} {e0:Event} {d:Nat},(∀m,e0.loc≠ .mark m)->deafBehind Ez es=d->deafBehind Ez (es.push e0)=d:=fun h hd=>by rw[deaf_push,sj _ h,hd]
 induction x with
 |pure a=>intro d w es h hd hes;exact⟨fun a1 w1 _=>⟨hd.trans h,hes⟩,fun h1 w1 e=>by cases e⟩
 |load m a c ih=>
  intro d w es h hd hes;cases hc:w.cell? a with
  |some v=>simp only[Sem.runT,hc];exact ih _ (h _) (pd (fun m=>by simp) hd) (pu (.inr fun m=>by simp) hes)
  |none=>
   cases hf:w.farLoad P a (m== .atomic)with
   |error e=>
    simp only[Sem.runT,hc,hf];refine⟨fun _ _ e=>(by cases e),fun h' w' e=>?_⟩;cases e;exact J2 (.inl hf)
   |ok p=>obtain⟨v,t⟩:=p;simp only[Sem.runT,hc,hf];exact ih _ (h _) (apd hd) (ap hes)
 |store m a v c ih=>
  intro d w es h hd hes;have main:∀v:af,(Sem.store m a v c).runT P w es=(match w.cell? a with
    |some _=>if w.frozen? a then(Result.halt (.unsupported (.unsafePointer "a write to bytes that a string shares")) w,es)else c.runT P (w.setCell a v) (es.push ⟨.cell a,true,m== .atomic⟩)
    |none=>match w.farStore P a v (m== .atomic)with
     |.ok (w,VT)=>c.runT P w (es++VT.toArray.map (⟨.cell ·,true,m== .atomic⟩))
     |.error h=>(.halt h w,es))->(∀x w',((Sem.store m a v c).runT P w es).1=.ok x w'->deafBehind Ez ((Sem.store m a v c).runT P w es).2=d'/\∀e∈((Sem.store m a v c).runT P w es).2,U4 e)/\(∀h w',((Sem.store m a v c).runT P w es).1=.halt h w'->Yo h):=fun v e=>by
   rw[e];cases hc:w.cell? a with
   |some x=>
    dsimp only;split
    ·exact⟨fun _ _ e=>(by cases e),fun h' w' e=>by cases e;trivial⟩
    ·exact ih h (pd (fun m=>by simp) hd) (pu (.inr fun m=>by simp) hes)
   |none=>
    dsimp only;cases hf:w.farStore P a v (m== .atomic)with
    |error e=>exact⟨fun _ _ e=>(by cases e),fun h' w' e=>by cases e;exact J2 (.inr ⟨_,hf⟩)⟩
    |ok p=>obtain⟨v,t⟩:=p;exact ih h (apd hd) (ap hes)
  cases v<;>first
   |(simp only[Sem.runT];exact⟨fun _ _ e=>(by cases e),fun h' w' e=>by cases e;trivial⟩)
   |exact main _ rfl
 |new o c ih=>intro d w es h hd hes;exact ih _ (h _) hd hes
 |shape r c ih=>intro d w es h hd hes;exact ih _ (h _) hd hes
 |freeze a n c ih=>intro d w es h hd hes;exact ih h hd hes
 |frozen a c ih=>intro d w es h hd hes;exact ih _ (h _) hd hes
 |getObj r c ih=>
  intro d w es h hd hes;cases ho:w.heap[r]? with
  |none=>simp only[Sem.runT,ho];exact⟨fun _ _ e=>(by cases e),fun h' w' e=>by cases e;trivial⟩
  |some o=>cases o<;>(simp only[Sem.runT,ho];first|exact⟨fun _ _ e=>(by cases e),fun h' w' e=>by cases e;trivial⟩|exact ih _ (h _) (pd (fun m=>by simp) hd) (pu (.inr fun m=>by simp) hes))
 |setObj r o c ih=>
  intro d w es h hd hes;cases ho:w.heap[r]? with
  |none=>simp only[Sem.runT,ho];exact⟨fun _ _ e=>(by cases e),fun h' w' e=>by cases e;trivial⟩
  |some o=>cases o<;>(simp only[Sem.runT,ho];first|exact⟨fun _ _ e=>(by cases e),fun h' w' e=>by cases e;trivial⟩|exact ih h (pd (fun m=>by simp) hd) (pu (.inr fun m=>by simp) hes))
 |choose q c ih=>
  intro d w es h hd hes;unfold Sem.runT;split
  ·exact ih _ (h _) hd hes
  ·exact ih _ (h _) hd hes
 |sys q c ih=>intro d w es h hd hes;exact ih _ (h _) (pd (fun m=>by simp) hd) (pu (.inr fun m=>by simp) hes)
 |program c ih=>intro d w es h hd hes;exact ih P h hd hes
 |mark m c ih=>
  intro d w es h hd hes;cases m with
  |disable=>exact ih h (by rw[deaf_push,hd];rfl) (pu (.inl rfl) hes)
  |enable=>exact ih h (by rw[deaf_push,hd];rfl) (pu (.inl rfl) hes)
  |_=>exact ih h (by rw[deaf_push,hd];rfl) (pu (.inl rfl) hes)
 |halt h=>
  intro d w es hh hd hes;exact⟨fun _ _ e=>(by cases e),fun h' w' e=>by cases e;exact hh⟩
theorem Fy{P:au}{fn:ak}{es:Array Event}(h:∀e∈es,U4 e)(d:Nat):deafBehind d (seen P fn es)=deafBehind d es:=by
 obtain⟨l⟩:=es;have h:∀e∈l,U4 e:=fun e he=>h e (by simpa using he);have key:∀(quiet:ak->Bool) (l:List Event) (q:Bool) (kept:Array Event) (d₁:Nat),(∀e∈l,U4 e)->deafBehind d kept=d₁->
   deafBehind d (l.foldl (seenStep quiet) (q,kept)).2=deafBehind d₁ l.toArray:=by
  intro quiet l;induction l with
  |nil=>intro q kept d₁ _ hk;simpa [deafBehind]using hk
  |cons e l ih=>
   intro q kept d₁ hl hk;have e1:deafBehind d₁ (e::l).toArray=deafBehind (deafBehind d₁ #[e]) l.toArray:=by simp[deafBehind]
   rw[List.foldl_cons,e1];have hx:(deafBehind d₁ #[e]=d₁/\∃b,seenStep quiet (q,kept) e=(b,kept))\/seenStep quiet (q,kept) e=(q,if q&& !e.sync then kept else kept.push e):=by
    unfold seenStep;dsimp only;split
    ·rename_i hf;exact .inl ⟨by simp[deafBehind,hf],_,rfl⟩
    ·exact .inr rfl
   rcases hx with⟨this,b,st⟩|st
   ·rw[this,st];exact ih _ _ _ (fun x hx=>hl x (by simp[hx])) hk
   ·rw[st];refine ih _ _ _ (fun x hx=>hl x (by simp[hx])) ?_;rcases hl e (by simp)with hs|hm
    ·rw[hs];simp only[Bool.not_true,Bool.and_false];rw[if_neg (by simp),deaf_push,hk]
    ·rw[sj _ hm];split
     ·exact hk
     ·rw[deaf_push,hk,sj _ hm]
 rw[seen_def];exact key _ l _ #[] d h rfl
def nV(w w':ae):Prop:=w.heap.size<=w'.heap.size/\∀b,b<w.heap.size->w'.heap[b]?=w.heap[b]?
theorem nV.refl(w:ae):nV w w:=⟨Nat.le_refl _,fun _ _=>rfl⟩
theorem nV.trans{a b c:ae}(h:nV a b)(k:nV b c):nV a c:=⟨Nat.le_trans h.1 k.1,fun i hi=>(k.2 i (Nat.lt_of_lt_of_le hi h.1)).trans (h.2 i hi)⟩
theorem nV.new(w:ae)(o:Obj):nV w {w with heap:=w.heap.push o}:=⟨by simp,fun b hb=>by
 show(w.heap.push o)[b]?=_;rw[Array.getElem?_push,if_neg (by omega)]⟩
theorem NM.ext{α:Type}{P:au}{x:Sem α}:∀{w:ae} {a:α} {w':ae},NM false x->x.run P w=.ok a w'->nV w w':=by
 induction x with
 |pure a=>intro w a' w' _ e;cases e;exact .refl _
 |load m a c ih=>
  intro w a' w' h e;simp only[cC]at e;split at e
  ·exact ih _ (h _) e
  ·split at e
   ·exact ih _ (h _) e
   ·cases e
 |store m a v c ih=>intro w a' w' h e;exact absurd h.1 (by simp)
 |new o c ih=>intro w a' w' h e;exact(nV.new w o).trans (ih _ (h _) e)
 |shape r c ih=>intro w a' w' h e;exact ih _ (h _) e
 |freeze a n c ih=>intro w a' w' h e;exact absurd h.1 (by simp)
 |frozen a c ih=>intro w a' w' h e;exact ih _ (h _) e
 |getObj r c ih=>
  intro w a' w' h e;cases ho:w.heap[r]? with
  |none=>simp only[cC,ho]at e;cases e
  |some o=>cases o<;>(simp only[cC,ho]at e;first|(cases e;done)|exact ih _ (h _) e)
 |setObj r o c ih=>intro w a' w' h e;exact absurd h.1 (by simp)
 |choose q c ih=>
  intro w a' w' h e;simp only[cC]at e;split at e
  ·exact ih _ (h _) e
  ·have:=ih _ (h _) e
   exact this
 |sys q c ih=>
  intro w a' w' h e;have hh:(w.sys q).2.heap=w.heap:=by
   unfold World.sys;have key:∀{β:Type} (x:Ask β) (w:ae),(w.ask x).2.heap=w.heap:=by
    intro β x;induction x with
    |done a=>intro w;rfl
    |ask what range k ih=>intro w;unfold World.ask;dsimp only;split<;>exact ih _ _
   have:=key (Kernel.perform q w.os) w
   split
   ·rfl
   ·rename_i h1;rw[h1]at this;exact this
  have:=ih _ (h _) e
  unfold nV at this ⊢;rw[hh]at this;exact this
 |program c ih=>intro w a' w' h e;exact ih _ (h _) e
 |mark m c ih=>intro w a' w' h e;exact ih h.2 e
 |halt h'=>intro w a' w' h e;cases e
theorem Gq{α β:Type}{wr:Bool}{f:α->β->Sem (ForInStep β)}(h:∀a b,NM wr (f a b)):∀(l:List α) (b:β),NM wr (forIn l b f)
 |[],b=>by simp only[List.forIn_nil];exact NM.pure b
 |a::l,b=>by
  simp only[List.forIn_cons];refine NM.bind (h a b) fun s=>?_;cases s with
  |done b=>exact NM.pure b
  |yield b=>exact Gq h l b
theorem ug{α β:Type}{wr:Bool}{f:α->β->Sem (ForInStep β)}(h:∀a b,NM wr (f a b))(l:Array α)(b:β):NM wr (forIn l b f):=by
 rw[<-Array.forIn_toList];exact Gq h _ b
theorem Cw{β:Type}{wr:Bool}{f:Nat->β->Sem (ForInStep β)}(h:∀a b,NM wr (f a b))(l:Std.Legacy.Range)(b:β):NM wr (forIn l b f):=by
 rw[Std.Legacy.Range.forIn_eq_forIn_range'];exact Gq h _ b
theorem Nb{α β:Type}{wr:Bool}{f:α->Sem β}(h:∀a,NM wr (f a)):∀l:List α,NM wr (l.mapM f)
 |[]=>by simp only[List.mapM_nil];exact NM.pure _
 |a::l=>by
  simp only[List.mapM_cons];exact NM.bind (h a) fun _=>NM.bind (Nb h l) fun _=>NM.pure _
theorem Nc{α β:Type}{wr:Bool}{f:α->Sem β}(h:∀a,NM wr (f a))(l:Array α):NM wr (l.mapM f):=by
 rw[Array.mapM_eq_mapM_toList];exact NM.bind (Nb h _) fun _=>NM.pure _
theorem ah1{α β:Type}{wr:Bool}{x:Sem α}{f:α->β}(h:NM wr x):NM wr (Functor.map f x):=NM.bind h fun _=>NM.pure _
section
instance a60(wr:Bool)(a:Addr)(m:Mode):Nm wr (load a m):=⟨fun _=>trivial⟩
instance aI6(a:Addr)(v:af)(m:Mode):Nm true (store a v m):=⟨⟨rfl,trivial⟩⟩
instance aB0(wr:Bool)(o:Obj):Nm wr (newObj o):=⟨fun _=>trivial⟩
instance aI8(wr:Bool)(r:Nat):Nm wr (shape r):=⟨fun _=>trivial⟩
instance aB7(a:Addr)(n:Nat):Nm true (freeze a n):=⟨⟨rfl,trivial⟩⟩
instance aB6(wr:Bool)(a:Addr):Nm wr (frozen a):=⟨fun _=>trivial⟩
instance aB5(wr:Bool)(r:Nat):Nm wr (getObj r):=⟨fun _=>trivial⟩
instance aA4(r:Nat)(o:Obj):Nm true (setObj r o):=⟨⟨rfl,trivial⟩⟩
instance aB9(wr:Bool)(q:Question):Nm wr (choose q):=⟨fun _=>trivial⟩
instance bg8(wr:Bool)(q:Sys):Nm wr (sys q):=⟨fun _=>trivial⟩
instance ag9(wr:Bool):Nm wr program:=⟨fun _=>trivial⟩
instance aA7(wr:Bool):Nm wr (mark .noRoom):=⟨⟨⟨by simp,by simp⟩,trivial⟩⟩
instance ai4(wr:Bool)(n:Nat):Nm wr (askRoom n):=⟨by
 unfold askRoom;repeat' first|exact Nm.out|assumption|refine NM.bind ?_ fun _=>?_|refine NM.ite ?_ ?_|split|(intro _)|dsimp only⟩
instance aA2(wr:Bool)(r:Nat):Nm wr (viewAt r):=⟨by
 unfold viewAt;repeat' first|exact Nm.out|assumption|refine NM.bind ?_ fun _=>?_|refine NM.ite ?_ ?_|split|(intro _)|dsimp only⟩
instance YZ(wr:Bool)(r:Nat):Nm wr (numberAt r):=⟨by
 unfold numberAt;repeat' first|exact Nm.out|assumption|refine NM.bind ?_ fun _=>?_|refine NM.ite ?_ ?_|split|(intro _)|dsimp only⟩
instance ai2(wr:Bool)(r:Nat):Nm wr (cellsIn r):=⟨by
 unfold cellsIn;repeat' first|exact Nm.out|assumption|refine NM.bind ?_ fun _=>?_|refine NM.ite ?_ ?_|split|(intro _)|dsimp only⟩
instance Y5(wr:Bool)(a:Addr)(b:Bool):Nm wr (asNumber a b):=⟨by
 unfold asNumber;repeat' first|exact Nm.out|assumption|refine NM.bind ?_ fun _=>?_|refine NM.ite ?_ ?_|split|(intro _)|dsimp only⟩
instance Q8(wr:Bool)(a:Addr):Nm wr (behindNumber a):=⟨by
 unfold behindNumber;repeat' first|exact Nm.out|assumption|refine NM.bind ?_ fun _=>?_|refine NM.ite ?_ ?_|split|(intro _)|dsimp only⟩
instance aA6(wr:Bool)(a:Addr):Nm wr (noView a):=⟨by
 unfold noView;repeat' first|exact Nm.out|assumption|refine NM.bind ?_ fun _=>?_|refine NM.ite ?_ ?_|split|(intro _)|dsimp only⟩
instance PT(a:Addr):Nm true (markStringish a):=⟨by
 unfold markStringish;repeat' first|exact Nm.out|assumption|refine NM.bind ?_ fun _=>?_|refine NM.ite ?_ ?_|split|(intro _)|dsimp only⟩
instance Wv(wr:Bool)(a:Addr):Nm wr (stringish a):=⟨by
 unfold stringish;repeat' first|exact Nm.out|assumption|refine NM.bind ?_ fun _=>?_|refine NM.ite ?_ ?_|split|(intro _)|dsimp only⟩
instance Y1(wr:Bool)(a b:Addr):Nm wr (mayBeOne a b):=⟨by
 unfold mayBeOne;repeat' first|exact Nm.out|assumption|refine NM.bind ?_ fun _=>?_|refine NM.ite ?_ ?_|split|(intro _)|dsimp only⟩
instance YW(wr:Bool)(a b:Addr):Nm wr (sameAddr a b):=⟨by
 unfold sameAddr;repeat' first|exact Nm.out|assumption|refine NM.bind ?_ fun _=>?_|refine NM.ite ?_ ?_|split|(intro _)|dsimp only⟩
instance Sy(wr:Bool)(a b:Option Addr):Nm wr (samePointer a b):=⟨by
 unfold samePointer;repeat' first|exact Nm.out|assumption|refine NM.bind ?_ fun _=>?_|refine NM.ite ?_ ?_|split|(intro _)|dsimp only⟩
instance YS(wr:Bool)(t:aj):Nm wr (typeInfo t):=⟨by
 unfold typeInfo;repeat' first|exact Nm.out|assumption|refine NM.bind ?_ fun _=>?_|refine NM.ite ?_ ?_|split|(intro _)|dsimp only⟩
instance Vo(wr:Bool)(t:aj):Nm wr (underlying t):=⟨by
 unfold underlying;repeat' first|exact Nm.out|assumption|refine NM.bind ?_ fun _=>?_|refine NM.ite ?_ ?_|split|(intro _)|dsimp only⟩
instance ag5(wr:Bool)(t:aj):Nm wr (typeStr t):=⟨by
 unfold typeStr;repeat' first|exact Nm.out|assumption|refine NM.bind ?_ fun _=>?_|refine NM.ite ?_ ?_|split|(intro _)|dsimp only⟩
instance Wq(wr:Bool)(t:aj):Nm wr (zeroValue t):=⟨by
 unfold zeroValue;repeat' first|exact Nm.out|assumption|refine NM.bind ?_ fun _=>?_|refine NM.ite ?_ ?_|split|(intro _)|dsimp only⟩
instance aA3(wr:Bool)(t:aj):Nm wr (sizeOf t):=⟨by
 unfold sizeOf;repeat' first|exact Nm.out|assumption|refine NM.bind ?_ fun _=>?_|refine NM.ite ?_ ?_|split|(intro _)|dsimp only⟩
instance aJ0(wr:Bool)(t:aj):Nm wr (isAgg t):=⟨by
 unfold isAgg;repeat' first|exact Nm.out|assumption|refine NM.bind ?_ fun _=>?_|refine NM.ite ?_ ?_|split|(intro _)|dsimp only⟩
theorem po{wr:Bool}(a:Addr):∀(n i:Nat) (acc:Array af),NM wr (loadCellsFrom a i n acc)
 |0,i,acc=>by unfold loadCellsFrom;exact NM.pure _
 |n+1,i,acc=>by unfold loadCellsFrom;exact NM.bind Nm.out fun _=>po a n _ _
instance(wr:Bool)(a:Addr)(n i:Nat)(acc:Array af):Nm wr (loadCellsFrom a i n acc):=⟨po a n i acc⟩
theorem ub(a:Addr):∀(vs:List af) (i:Nat),NM true (storeCells a vs i)
 |[],i=>by unfold storeCells;exact NM.pure _
 |v::vs,i=>by unfold storeCells;exact NM.bind Nm.out fun _=>ub a vs _
instance(a:Addr)(vs:List af)(i:Nat):Nm true (storeCells a vs i):=⟨ub a vs i⟩
instance Wy(wr:Bool)(a:Addr)(n:Nat):Nm wr (loadCells a n):=⟨by
 unfold loadCells;repeat' first|exact Nm.out|assumption|refine NM.bind ?_ fun _=>?_|refine NM.ite ?_ ?_|split|(intro _)|dsimp only⟩
instance ah3(wr:Bool)(t:aj)(a:Addr):Nm wr (loadVar t a):=⟨by
 unfold loadVar;repeat' first|exact Nm.out|assumption|refine NM.bind ?_ fun _=>?_|refine NM.ite ?_ ?_|split|(intro _)|dsimp only⟩
instance YV(t:aj)(a:Addr)(v:af):Nm true (storeVar t a v):=⟨by
 unfold storeVar;repeat' first|exact Nm.out|assumption|refine NM.bind ?_ fun _=>?_|refine NM.ite ?_ ?_|split|(intro _)|dsimp only⟩
instance aA9(wr:Bool)(t:aj)(c:Array af):Nm wr (newRow t c):=⟨by
 unfold newRow;repeat' first|exact Nm.out|assumption|refine NM.bind ?_ fun _=>?_|refine NM.ite ?_ ?_|split|(intro _)|dsimp only⟩
instance aA8(wr:Bool)(t:aj)(v:af):Nm wr (newVar t v):=⟨by
 unfold newVar;repeat' first|exact Nm.out|assumption|refine NM.bind ?_ fun _=>?_|refine NM.ite ?_ ?_|split|(intro _)|dsimp only⟩
instance aB8(wr:Bool)(t:aj):Nm wr (elemOf t):=⟨by
 unfold elemOf;repeat' first|exact Nm.out|assumption|refine NM.bind ?_ fun _=>?_|refine NM.ite ?_ ?_|split|(intro _)|dsimp only⟩
instance a58(wr:Bool)(t:aj)(c:Array af)(n:Nat):Nm wr (part t c n):=⟨by
 unfold part;repeat' first|exact Nm.out|assumption|refine NM.bind ?_ fun _=>?_|refine NM.ite ?_ ?_|split|(intro _)|dsimp only⟩
instance{α:Type}(wr:Bool)(e:RuntimeError):Nm wr (runtimePanic e:Sem α):=⟨by
 unfold runtimePanic;repeat' first|exact Nm.out|assumption|refine NM.bind ?_ fun _=>?_|refine NM.ite ?_ ?_|split|(intro _)|dsimp only⟩
instance{α:Type}(wr:Bool)(k:IntKind)(x y:Int)(c:BoundsCode):Nm wr (boundsPanic k x y c:Sem α):=⟨by
 unfold boundsPanic;repeat' (first|exact Nm.out|assumption|exact ah1 Nm.out|(refine NM.bind ?_ fun _=>?_)|(refine NM.ite ?_ ?_)|split|(intro _)|dsimp only)⟩
instance ai5(wr:Bool)(v:af):Nm wr (asIntOf v):=⟨by
 unfold asIntOf;repeat' first|exact Nm.out|assumption|refine NM.bind ?_ fun _=>?_|refine NM.ite ?_ ?_|split|(intro _)|dsimp only⟩
instance aJ7(wr:Bool)(v:af):Nm wr (asInt v):=⟨by
 unfold asInt;repeat' first|exact Nm.out|assumption|refine NM.bind ?_ fun _=>?_|refine NM.ite ?_ ?_|split|(intro _)|dsimp only⟩
instance aC1(wr:Bool)(v:af):Nm wr (asBool v):=⟨by
 unfold asBool;repeat' first|exact Nm.out|assumption|refine NM.bind ?_ fun _=>?_|refine NM.ite ?_ ?_|split|(intro _)|dsimp only⟩
instance aJ8(wr:Bool)(v:af):Nm wr (asAgg v):=⟨by
 unfold asAgg;repeat' first|exact Nm.out|assumption|refine NM.bind ?_ fun _=>?_|refine NM.ite ?_ ?_|split|(intro _)|dsimp only⟩
instance aC2(wr:Bool)(v:af):Nm wr (asAddr v):=⟨by
 unfold asAddr;repeat' first|exact Nm.out|assumption|refine NM.bind ?_ fun _=>?_|refine NM.ite ?_ ?_|split|(intro _)|dsimp only⟩
instance YT(wr:Bool)(v:af):Nm wr (dM v):=⟨by
 unfold dM;repeat' first|exact Nm.out|assumption|refine NM.bind ?_ fun _=>?_|refine NM.ite ?_ ?_|split|(intro _)|dsimp only⟩
instance aC0(wr:Bool)(a:Addr):Nm wr (byteOf a):=⟨by
 unfold byteOf;repeat' first|exact Nm.out|assumption|refine NM.bind ?_ fun _=>?_|refine NM.ite ?_ ?_|split|(intro _)|dsimp only⟩
instance Vu(wr:Bool)(a:Addr)(f:Field):Nm wr (fieldPlace a f):=⟨by
 unfold fieldPlace;repeat' first|exact Nm.out|assumption|refine NM.bind ?_ fun _=>?_|refine NM.ite ?_ ?_|split|(intro _)|dsimp only⟩
instance Sw(wr:Bool)(a:Addr)(u:aj)(n:Nat):Nm wr (variablesAt a u n):=⟨by
 unfold variablesAt;repeat' first|exact Nm.out|assumption|refine NM.bind ?_ fun _=>?_|refine NM.ite ?_ ?_|split|(intro _)|dsimp only⟩
instance aK0(wr:Bool)(t:aj)(v:af):Nm wr (dw t true v):=⟨by
 unfold dw;repeat' first|exact Nm.out|assumption|refine NM.bind ?_ fun _=>?_|refine NM.ite ?_ ?_|split|(intro _)|dsimp only⟩
instance aB2(wr:Bool)(t:aj)(v:af):Nm wr (aT t v):=⟨by
 unfold aT;repeat' first|exact Nm.out|assumption|refine NM.bind ?_ fun _=>?_|refine NM.ite ?_ ?_|split|(intro _)|dsimp only⟩
instance ag7(t:aj)(v x:af):Nm true (bJ t v x):=⟨by
 unfold bJ;repeat' first|exact Nm.out|assumption|refine NM.bind ?_ fun _=>?_|refine NM.ite ?_ ?_|split|(intro _)|dsimp only⟩
instance ah7(wr:Bool)(t:aj)(v:af)(n:Nat):Nm wr (Instr.fieldAt t v n):=⟨by
 unfold Instr.fieldAt;repeat' first|exact Nm.out|assumption|refine NM.bind ?_ fun _=>?_|refine NM.ite ?_ ?_|split|(intro _)|dsimp only⟩
instance ah5(wr:Bool)(t:aj)(v x:af):Nm wr (Instr.indexAt t v x):=⟨by
 unfold Instr.indexAt;repeat' first|exact Nm.out|assumption|refine NM.bind ?_ fun _=>?_|refine NM.ite ?_ ?_|split|(intro _)|dsimp only⟩
instance bh0(wr:Bool)(t:aj)(v:af):Nm wr (Instr.box t v):=⟨by
 unfold Instr.box;repeat' first|exact Nm.out|assumption|refine NM.bind ?_ fun _=>?_|refine NM.ite ?_ ?_|split|(intro _)|dsimp only⟩
instance aJ5(wr:Bool)(t:aj)(p:Array (Nat×af)):Nm wr (Instr.build t p):=⟨by
 unfold Instr.build;repeat' (first|exact Nm.out|assumption|exact Nc (fun f=>NM.bind Nm.out fun _=>Nm.out) _|(refine NM.bind ?_ fun _=>?_)|(refine NM.ite ?_ ?_)|split|(intro _)|dsimp only)⟩
instance Vv(wr:Bool)(t:aj)(n:Nat)(p:Array (Nat×af)):Nm wr (Instr.buildSlice t n p):=⟨by
 unfold Instr.buildSlice;repeat' first|exact Nm.out|assumption|refine NM.bind ?_ fun _=>?_|refine NM.ite ?_ ?_|split|(intro _)|dsimp only⟩
instance ah2(wr:Bool)(t:aj)(r:Option af):Nm wr (Instr.makeMap t r):=⟨by
 unfold Instr.makeMap;repeat' first|exact Nm.out|assumption|refine NM.bind ?_ fun _=>?_|refine NM.ite ?_ ?_|split|(intro _)|dsimp only⟩
instance Wx(wr:Bool)(t:aj)(x y:af):Nm wr (Instr.makeSlice t x y):=⟨by
 unfold Instr.makeSlice;repeat' first|exact Nm.out|assumption|refine NM.bind ?_ fun _=>?_|refine NM.ite ?_ ?_|split|(intro _)|dsimp only⟩
instance aJ2(wr:Bool)(t:aj)(x:af)(n:Nat):Nm wr (Instr.field t x n):=⟨by
 unfold Instr.field;repeat' first|exact Nm.out|assumption|refine NM.bind ?_ fun _=>?_|refine NM.ite ?_ ?_|split|(intro _)|dsimp only⟩
instance aJ1(wr:Bool)(t:aj)(x y:af):Nm wr (Instr.index t x y):=⟨by
 unfold Instr.index;repeat' first|exact Nm.out|assumption|refine NM.bind ?_ fun _=>?_|refine NM.ite ?_ ?_|split|(intro _)|dsimp only⟩
instance ah8(wr:Bool)(x:af)(n:Nat):Nm wr (Instr.extract x n):=⟨by
 unfold Instr.extract;repeat' first|exact Nm.out|assumption|refine NM.bind ?_ fun _=>?_|refine NM.ite ?_ ?_|split|(intro _)|dsimp only⟩
theorem Cx{wr:Bool}:∀(d:Nat) (t:aj) (x y:af),NM wr (Op.equalIn d t x y)
 |0,t,x,y=>by unfold Op.equalIn;exact Nm.out
 |d+1,t,x,y=>by
  unfold Op.equalIn;repeat' (first|exact Nm.out|assumption|exact Cx d _ _ _|(refine ug (fun _ _=>?_) _ _)|(refine Cw (fun _ _=>?_) _ _)|(refine NM.bind ?_ fun _=>?_)|(refine NM.ite ?_ ?_)|split|(intro _)|dsimp only)
theorem xU{wr:Bool}:∀(d:Nat) (t:aj) (x y:af),NM wr (Op.eqGuardIn d t x y)
 |0,t,x,y=>by unfold Op.eqGuardIn;exact Nm.out
 |d+1,t,x,y=>by
  unfold Op.eqGuardIn;repeat' (first|exact Nm.out|assumption|exact xU d _ _ _|(refine ug (fun _ _=>?_) _ _)|(refine Cw (fun _ _=>?_) _ _)|(refine NM.bind ?_ fun _=>?_)|(refine NM.ite ?_ ?_)|split|(intro _)|dsimp only)
instance(wr:Bool)(d:Nat)(t:aj)(x y:af):Nm wr (Op.equalIn d t x y):=⟨Cx d t x y⟩
instance(wr:Bool)(d:Nat)(t:aj)(x y:af):Nm wr (Op.eqGuardIn d t x y):=⟨xU d t x y⟩
instance aJ3(wr:Bool)(t:aj)(x y:af):Nm wr (Op.equal t x y):=⟨by
 unfold Op.equal;repeat' first|exact Nm.out|assumption|refine NM.bind ?_ fun _=>?_|refine NM.ite ?_ ?_|split|(intro _)|dsimp only⟩
instance Vs(wr:Bool)(o:BinOp)(k:FloatKind)(x y:Nat):Nm wr (Op.floatArith o k x y):=⟨by
 unfold Op.floatArith;repeat' first|exact Nm.out|assumption|refine NM.bind ?_ fun _=>?_|refine NM.ite ?_ ?_|split|(intro _)|dsimp only⟩
instance Y4(wr:Bool)(o:BinOp)(k:FloatKind)(x y:Nat):Nm wr (Op.floatCmp o k x y):=⟨by
 unfold Op.floatCmp;repeat' first|exact Nm.out|assumption|refine NM.bind ?_ fun _=>?_|refine NM.ite ?_ ?_|split|(intro _)|dsimp only⟩
instance Q7(wr:Bool)(s:FloatKind)(b:Nat)(d:FloatKind):Nm wr (Conv.floatToFloat s b d):=⟨by
 unfold Conv.floatToFloat;repeat' first|exact Nm.out|assumption|refine NM.bind ?_ fun _=>?_|refine NM.ite ?_ ?_|split|(intro _)|dsimp only⟩
instance aJ9(wr:Bool)(o:BinOp)(k:FloatKind)(x y:Nat):Nm wr (Op.Complex.arith o k x y):=⟨by
 unfold Op.Complex.arith;repeat' first|exact Nm.out|assumption|refine NM.bind ?_ fun _=>?_|refine NM.ite ?_ ?_|split|(intro _)|dsimp only⟩
instance bg9(wr:Bool)(o:BinOp)(k:FloatKind)(x y:Nat):Nm wr (Op.Complex.cmp o k x y):=⟨by
 unfold Op.Complex.cmp;repeat' first|exact Nm.out|assumption|refine NM.bind ?_ fun _=>?_|refine NM.ite ?_ ?_|split|(intro _)|dsimp only⟩
instance a65(wr:Bool)(s:FloatKind)(b:Nat)(d:FloatKind):Nm wr (Op.Complex.conv s b d):=⟨by
 unfold Op.Complex.conv;repeat' first|exact Nm.out|assumption|refine NM.bind ?_ fun _=>?_|refine NM.ite ?_ ?_|split|(intro _)|dsimp only⟩
instance a68(wr:Bool)(x y:Nat):Nm wr (Op.Complex.add x y):=⟨by
 unfold Op.Complex.add;repeat' first|exact Nm.out|assumption|refine NM.bind ?_ fun _=>?_|refine NM.ite ?_ ?_|split|(intro _)|dsimp only⟩
instance a62(wr:Bool)(x y:Nat):Nm wr (Op.Complex.sub x y):=⟨by
 unfold Op.Complex.sub;repeat' first|exact Nm.out|assumption|refine NM.bind ?_ fun _=>?_|refine NM.ite ?_ ?_|split|(intro _)|dsimp only⟩
instance a66(wr:Bool)(x y:Nat):Nm wr (Op.Complex.mul x y):=⟨by
 unfold Op.Complex.mul;repeat' first|exact Nm.out|assumption|refine NM.bind ?_ fun _=>?_|refine NM.ite ?_ ?_|split|(intro _)|dsimp only⟩
instance a63(wr:Bool)(x y:Nat):Nm wr (Op.Complex.quo x y):=⟨by
 unfold Op.Complex.quo;repeat' first|exact Nm.out|assumption|refine NM.bind ?_ fun _=>?_|refine NM.ite ?_ ?_|split|(intro _)|dsimp only⟩
instance ah0(wr:Bool)(a b c d:Nat):Nm wr (Op.Complex.product a b c d):=⟨by
 unfold Op.Complex.product;repeat' first|exact Nm.out|assumption|refine NM.bind ?_ fun _=>?_|refine NM.ite ?_ ?_|split|(intro _)|dsimp only⟩
instance Wz(wr:Bool)(s a b c d:Nat):Nm wr (Op.Complex.corrected s a b c d):=⟨by
 unfold Op.Complex.corrected;repeat' first|exact Nm.out|assumption|refine NM.bind ?_ fun _=>?_|refine NM.ite ?_ ?_|split|(intro _)|dsimp only⟩
instance YY(wr:Bool)(a b c d:Nat):Nm wr (Op.Complex.quotient a b c d):=⟨by
 unfold Op.Complex.quotient;repeat' first|exact Nm.out|assumption|refine NM.bind ?_ fun _=>?_|refine NM.ite ?_ ?_|split|(intro _)|dsimp only⟩
instance WA(wr:Bool)(o:BinOp)(k:FloatKind)(x y z u:Nat):Nm wr (Op.complexOp o k x y z u):=⟨by
 unfold Op.complexOp;repeat' first|exact Nm.out|assumption|refine NM.bind ?_ fun _=>?_|refine NM.ite ?_ ?_|split|(intro _)|dsimp only⟩
instance Y3(wr:Bool)(o:BinOp)(k:IntKind)(x y:Int):Nm wr (Op.intArith o k x y):=⟨by
 unfold Op.intArith;repeat' first|exact Nm.out|assumption|refine NM.bind ?_ fun _=>?_|refine NM.ite ?_ ?_|split|(intro _)|dsimp only⟩
instance aB3(wr:Bool)(o:BinOp)(k:IntKind)(x y:Int):Nm wr (Op.intDiv o k x y):=⟨by
 unfold Op.intDiv;repeat' first|exact Nm.out|assumption|refine NM.bind ?_ fun _=>?_|refine NM.ite ?_ ?_|split|(intro _)|dsimp only⟩
instance ah4(wr:Bool)(o:BinOp)(k:IntKind)(x y:Int):Nm wr (Op.intBits o k x y):=⟨by
 unfold Op.intBits;repeat' first|exact Nm.out|assumption|refine NM.bind ?_ fun _=>?_|refine NM.ite ?_ ?_|split|(intro _)|dsimp only⟩
instance aB4(wr:Bool)(o:BinOp)(x y:Int):Nm wr (Op.intCmp o x y):=⟨by
 unfold Op.intCmp;repeat' first|exact Nm.out|assumption|refine NM.bind ?_ fun _=>?_|refine NM.ite ?_ ?_|split|(intro _)|dsimp only⟩
instance aI7(wr:Bool)(o:BinOp)(k:IntKind)(x:Int)(k2:IntKind)(y:Int):Nm wr (Op.shift o k x k2 y):=⟨by
 unfold Op.shift;repeat' first|exact Nm.out|assumption|refine NM.bind ?_ fun _=>?_|refine NM.ite ?_ ?_|split|(intro _)|dsimp only⟩
instance YU(wr:Bool)(o:BinOp)(x y:ByteArray):Nm wr (Op.stringOp o x y):=⟨by
 unfold Op.stringOp;repeat' first|exact Nm.out|assumption|refine NM.bind ?_ fun _=>?_|refine NM.ite ?_ ?_|split|(intro _)|dsimp only⟩
instance aI5(wr:Bool)(o:UnOp)(x:af):Nm wr (Op.unary o x):=⟨by
 unfold Op.unary;repeat' first|exact Nm.out|assumption|refine NM.bind ?_ fun _=>?_|refine NM.ite ?_ ?_|split|(intro _)|dsimp only⟩
instance Wu(wr:Bool)(a b:Addr):Nm wr (Op.twoPlaces a b):=⟨by
 unfold Op.twoPlaces;repeat' first|exact Nm.out|assumption|refine NM.bind ?_ fun _=>?_|refine NM.ite ?_ ?_|split|(intro _)|dsimp only⟩
instance ai7(wr:Bool)(k:IntKind)(a b:Addr):Nm wr (Op.addrSub k a b):=⟨by
 unfold Op.addrSub;repeat' first|exact Nm.out|assumption|refine NM.bind ?_ fun _=>?_|refine NM.ite ?_ ?_|split|(intro _)|dsimp only⟩
instance ai9(wr:Bool)(o:BinOp)(a b:Addr):Nm wr (Op.addrCmp o a b):=⟨by
 unfold Op.addrCmp;repeat' first|exact Nm.out|assumption|refine NM.bind ?_ fun _=>?_|refine NM.ite ?_ ?_|split|(intro _)|dsimp only⟩
instance ai8(wr:Bool)(k:IntKind)(a:Addr)(n:Int):Nm wr (Op.addrMod k a n):=⟨by
 unfold Op.addrMod;repeat' first|exact Nm.out|assumption|refine NM.bind ?_ fun _=>?_|refine NM.ite ?_ ?_|split|(intro _)|dsimp only⟩
instance Ws(wr:Bool)(a:Array aj)(t:aj)(x y:af):Nm wr (Builtin.unsafeAdd_ a t #[x,y]):=⟨by
 cases x<;>unfold Builtin.unsafeAdd_<;>first
  |exact trivial
  |(refine NM.bind (x:=asInt y) Nm.out fun n=>?_
    repeat' first|exact Nm.out|assumption|refine NM.bind ?_ fun _=>?_|refine NM.ite ?_ ?_|split|(intro _)|dsimp only)⟩
instance Sz(wr:Bool)(t:aj)(x y:af):Nm wr (movedNumber t x y):=⟨by
 unfold movedNumber;repeat' first|exact Nm.out|assumption|refine NM.bind ?_ fun _=>?_|refine NM.ite ?_ ?_|split|(intro _)|dsimp only⟩
instance Q5(wr:Bool)(t:aj)(x y:af):Nm wr (movedPointer t x y):=⟨by
 unfold movedPointer;repeat' first|exact Nm.out|assumption|refine NM.bind ?_ fun _=>?_|refine NM.ite ?_ ?_|split|(intro _)|dsimp only⟩
instance ah9(wr:Bool)(o:BinOp)(t:aj)(x y:Operand)(a b:af):Nm wr (eqGuard o t x y a b):=⟨by
 unfold eqGuard;repeat' first|exact Nm.out|assumption|refine NM.bind ?_ fun _=>?_|refine NM.ite ?_ ?_|split|(intro _)|dsimp only⟩
instance aJ6(wr:Bool)(o:BinOp)(t:aj)(x y:af):Nm wr (binOp o t x y):=⟨by
 unfold binOp;repeat' first|exact Nm.out|assumption|refine NM.bind ?_ fun _=>?_|refine NM.ite ?_ ?_|split|(intro _)|dsimp only⟩
instance Y2(wr:Bool)(k:IntKind)(n:Int):Nm wr (Conv.intToInt k n):=⟨by
 unfold Conv.intToInt;repeat' first|exact Nm.out|assumption|refine NM.bind ?_ fun _=>?_|refine NM.ite ?_ ?_|split|(intro _)|dsimp only⟩
instance Vp(wr:Bool)(k:FloatKind)(n:Int):Nm wr (Conv.intToFloat k n):=⟨by
 unfold Conv.intToFloat;repeat' first|exact Nm.out|assumption|refine NM.bind ?_ fun _=>?_|refine NM.ite ?_ ?_|split|(intro _)|dsimp only⟩
instance Vr(wr:Bool)(s:FloatKind)(b:Nat)(k:IntKind):Nm wr (Conv.floatToInt s b k):=⟨by
 unfold Conv.floatToInt;repeat' first|exact Nm.out|assumption|refine NM.bind ?_ fun _=>?_|refine NM.ite ?_ ?_|split|(intro _)|dsimp only⟩
instance KL(wr:Bool)(s:FloatKind)(a b:Nat)(d:FloatKind):Nm wr (Conv.complexToComplex s a b d):=⟨by
 unfold Conv.complexToComplex;repeat' first|exact Nm.out|assumption|refine NM.bind ?_ fun _=>?_|refine NM.ite ?_ ?_|split|(intro _)|dsimp only⟩
instance SD(wr:Bool)(n:Int):Nm wr (Conv.intToString n):=⟨by
 unfold Conv.intToString;repeat' first|exact Nm.out|assumption|refine NM.bind ?_ fun _=>?_|refine NM.ite ?_ ?_|split|(intro _)|dsimp only⟩
instance PR(e:aj)(s:ByteArray):Nm true (Conv.stringToBytes e s):=⟨by
 unfold Conv.stringToBytes;repeat' first|exact Nm.out|assumption|refine NM.bind ?_ fun _=>?_|refine NM.ite ?_ ?_|split|(intro _)|dsimp only⟩
instance PQ(wr:Bool)(e:aj)(s:ByteArray):Nm wr (Conv.stringToRunes e s):=⟨by
 unfold Conv.stringToRunes;repeat' first|exact Nm.out|assumption|refine NM.bind ?_ fun _=>?_|refine NM.ite ?_ ?_|split|(intro _)|dsimp only⟩
instance(wr:Bool)(x:af):Nm wr (Conv.bytesToString x):=⟨by
 unfold Conv.bytesToString;repeat' (first|exact Nm.out|assumption|(refine ug (fun _ _=>?_) _ _)|(refine NM.bind ?_ fun _=>?_)|(refine NM.ite ?_ ?_)|split|(intro _)|dsimp only)⟩
instance(wr:Bool)(x:af):Nm wr (Conv.runesToString x):=⟨by
 unfold Conv.runesToString;repeat' (first|exact Nm.out|assumption|(refine ug (fun _ _=>?_) _ _)|(refine NM.bind ?_ fun _=>?_)|(refine NM.ite ?_ ?_)|split|(intro _)|dsimp only)⟩
instance aA5(wr:Bool)(a:Addr):Nm wr (Conv.seenAt a):=⟨by
 unfold Conv.seenAt;repeat' first|exact Nm.out|assumption|refine NM.bind ?_ fun _=>?_|refine NM.ite ?_ ?_|split|(intro _)|dsimp only⟩
instance PN(wr:Bool)(s d:aj)(x:af):Nm wr (Conv.unsafePointer s d x):=⟨by
 unfold Conv.unsafePointer;repeat' first|exact Nm.out|assumption|refine NM.bind ?_ fun _=>?_|refine NM.ite ?_ ?_|split|(intro _)|dsimp only⟩
instance ai1(s d:aj)(x:af):Nm true (convert s d x):=⟨by
 unfold convert;repeat' first|exact Nm.out|assumption|refine NM.bind ?_ fun _=>?_|refine NM.ite ?_ ?_|split|(intro _)|dsimp only⟩
theorem zN{wr:Bool}(b:Bool):∀(d:Nat) (t:aj) (x:af),NM wr (Instr.checkKey b d t x)
 |0,t,x=>by unfold Instr.checkKey;exact Nm.out
 |d+1,t,x=>by
  unfold Instr.checkKey;repeat' (first|exact Nm.out|assumption|exact zN b d _ _|(refine ug (fun _ _=>?_) _ _)|(refine Cw (fun _ _=>?_) _ _)|(refine NM.bind ?_ fun _=>?_)|(refine NM.ite ?_ ?_)|split|(intro _)|dsimp only)
theorem wD{wr:Bool}(t:aj)(x:af):∀(l:List MapEntry) (i:Nat),NM wr (Instr.findAsking t x l i)
 |[],i=>by unfold Instr.findAsking;exact NM.pure _
 |e::l,i=>by
  unfold Instr.findAsking;repeat' (first|exact Nm.out|assumption|exact wD t x l _|(refine NM.bind ?_ fun _=>?_)|(refine NM.ite ?_ ?_)|split|(intro _)|dsimp only)
instance(wr:Bool)(b:Bool)(d:Nat)(t:aj)(x:af):Nm wr (Instr.checkKey b d t x):=⟨zN b d t x⟩
instance(wr:Bool)(t:aj)(x:af)(l:List MapEntry)(i:Nat):Nm wr (Instr.findAsking t x l i):=⟨wD t x l i⟩
instance ah6(wr:Bool)(t:aj)(x:af)(l:List MapEntry):Nm wr (Instr.findKey t x l):=⟨by
 unfold Instr.findKey;repeat' first|exact Nm.out|assumption|refine NM.bind ?_ fun _=>?_|refine NM.ite ?_ ?_|split|(intro _)|dsimp only⟩
instance aB1(wr:Bool)(t:aj)(x y:af)(b:Bool):Nm wr (Instr.lookup t x y b):=⟨by
 unfold Instr.lookup;repeat' first|exact Nm.out|assumption|refine NM.bind ?_ fun _=>?_|refine NM.ite ?_ ?_|split|(intro _)|dsimp only⟩
instance Q6(wr:Bool)(x y:af):Nm wr (Instr.keyThatStays x y):=⟨by
 unfold Instr.keyThatStays;repeat' first|exact Nm.out|assumption|refine NM.bind ?_ fun _=>?_|refine NM.ite ?_ ?_|split|(intro _)|dsimp only⟩
instance Ww(t:aj)(x y z:af):Nm true (Instr.mapUpdate t x y z):=⟨by
 unfold Instr.mapUpdate;repeat' first|exact Nm.out|assumption|refine NM.bind ?_ fun _=>?_|refine NM.ite ?_ ?_|split|(intro _)|dsimp only⟩
instance Vq(wr:Bool)(a:Addr)(n:Nat):Nm wr (Builtin.holdsCells a n):=⟨by
 unfold Builtin.holdsCells;repeat' first|exact Nm.out|assumption|refine NM.bind ?_ fun _=>?_|refine NM.ite ?_ ?_|split|(intro _)|dsimp only⟩
instance Y0(wr:Bool)(a b c:Nat)(o:Option Addr)(x:af):Nm wr (Builtin.mayShare a b c o x):=⟨by
 unfold Builtin.mayShare;repeat' first|exact Nm.out|assumption|refine NM.bind ?_ fun _=>?_|refine NM.ite ?_ ?_|split|(intro _)|dsimp only⟩
instance aI9(wr:Bool)(x:af):Nm wr (Builtin.lenOf x):=⟨by
 unfold Builtin.lenOf;repeat' first|exact Nm.out|assumption|refine NM.bind ?_ fun _=>?_|refine NM.ite ?_ ?_|split|(intro _)|dsimp only⟩
instance Vt(wr:Bool)(a b:Nat)(x:af):Nm wr (Builtin.firstCells a b x):=⟨by
 unfold Builtin.firstCells;repeat' first|exact Nm.out|assumption|refine NM.bind ?_ fun _=>?_|refine NM.ite ?_ ?_|split|(intro _)|dsimp only⟩
instance ai6(x:Array aj)(t:aj)(y:Array af):Nm true (Builtin.append_ x t y):=⟨by
 unfold Builtin.append_;repeat' first|exact Nm.out|assumption|refine NM.bind ?_ fun _=>?_|refine NM.ite ?_ ?_|split|(intro _)|dsimp only⟩
instance aJ4(x:Array aj)(t:aj)(y:Array af):Nm true (Builtin.copy_ x t y):=⟨by
 unfold Builtin.copy_;repeat' first|exact Nm.out|assumption|refine NM.bind ?_ fun _=>?_|refine NM.ite ?_ ?_|split|(intro _)|dsimp only⟩
instance ai0(x:Array aj)(t:aj)(y:Array af):Nm true (Builtin.delete_ x t y):=⟨by
 unfold Builtin.delete_;repeat' first|exact Nm.out|assumption|refine NM.bind ?_ fun _=>?_|refine NM.ite ?_ ?_|split|(intro _)|dsimp only⟩
instance a61(wr:Bool)(x:Array aj)(t:aj)(y:Array af):Nm wr (Builtin.len_ x t y):=⟨by
 unfold Builtin.len_;repeat' first|exact Nm.out|assumption|refine NM.bind ?_ fun _=>?_|refine NM.ite ?_ ?_|split|(intro _)|dsimp only⟩
theorem uf{wr:Bool}:∀(l:List FieldStep) (t:aj) (x:Option af),NM wr (followBlind l t x)
 |[],t,x=>by unfold followBlind;exact Nm.out
 |s::l,t,x=>by
  unfold followBlind;repeat' (first|exact Nm.out|assumption|exact uf l _ _|(refine NM.bind ?_ fun _=>?_)|(refine NM.ite ?_ ?_)|split|(intro _)|dsimp only)
instance(wr:Bool)(l:List FieldStep)(t:aj)(x:Option af):Nm wr (followBlind l t x):=⟨uf l t x⟩
theorem zM{wr:Bool}:∀(n:Nat) (t:aj) (x:af) (name:String),NM wr (nilAhead n t x name)
 |0,t,x,_=>by unfold nilAhead;exact Nm.out
 |n+1,t,x,name=>by
  unfold nilAhead;repeat' (first|exact Nm.out|assumption|exact zM n _ _ _|(refine NM.bind ?_ fun _=>?_)|(refine NM.ite ?_ ?_)|split|(intro _)|dsimp only)
instance(wr:Bool)(n:Nat)(t:aj)(x:af)(name:String):Nm wr (nilAhead n t x name):=⟨zM n t x name⟩
end
section
structure Sg where
 ok:ak->Bool
 fs:ak->List Nat
 en:ak->Nat
 ext:ak->Bool
 VK:ak
 VJ:ak
 pure:ak->Bool
 own:ak->List Nat
 wF:ak->List Nat
 wG:ak->List Nat
 Wa:List aj
 np:ak->Nat
section
variable(s:Sg)(f:ak)
def Sg.clean(g:ak):Bool:=s.ok g&&(s.fs g).isEmpty&&s.en g==0
def Sg.vX:Bool:=s.pure f|| !(s.own f).isEmpty|| !(s.wF f).isEmpty|| !(s.wG f).isEmpty
def Sg.Cu(g:ak):Bool:=(s.own g).isEmpty&&(s.wF g).isEmpty&&(s.wG g).isEmpty
def Sg.cl(g:ak):Bool:=s.clean g&&(if s.vX f then s.pure g&&1<=s.np g else s.Cu g)
def Sg.op?(g:ak):Operand->Bool
 |.func k=>s.cl g k
 |.tmp t=>(s.fs f).contains t&&s.vX g==s.vX f
 |_=>false
def Sg.gop(o:Oper):Bool:=match o.op with
 |.pick .. |.load .. |.nilCheck _|.binOp .. |.unOp .. |.fieldAddr .. |.field .. |.indexAddr .. |.index .. |.extract .. |.move _|.assign _|.build .. |.alloc _|.box .. |.makeSlice .. |.buildSlice .. =>true
 |.store _ (.tmp t) _=>(s.own f).contains t
 |.call c=>match c.callee with
  |.builtin .len=>true
  |.builtin .copy=>match(c.args[0]?:Option Operand)with
   |some (.tmp t)=>(s.own f).contains t
   |_=>false
  |.value (.func g)=>s.pure g&& !s.ext g&&g != s.VK&&g != s.VJ
  |.value (.tmp _)=>true
  |_=>false
 |_=>false
def Sg.oM(o:Oper):Bool:=match o.dst with
 |none=>true
 |some t=>
  (!(s.fs f).contains t||match o.op with
   |.move x|.assign x=>s.op? f f x
   |.makeFunc (.func g) _ _=>s.cl f g
   |.load _ (.tmp u)=>(s.wG f).contains u
   |_=>false)&&
  (!(s.own f).contains t||match o.op with
   |.alloc _|.box .. |.makeSlice .. =>true
   |.move (.tmp u)|.assign (.tmp u)=>(s.own f).contains u
   |_=>false)&&
  (!(s.wF f).contains t||match o.op with
   |.buildSlice ty _ ps=>s.Wa.contains ty&&ps.all (fun p=>match p.2 with
    |.func g=>s.cl f g
    |_=>false)
   |_=>false)&&
  (!(s.wG f).contains t||match o.op with
   |.indexAddr _ (.tmp u) _=>(s.wF f).contains u
   |_=>false)
def Sg.Kc(o:Oper)(d:Nat):Option Nat:=
 if !s.oM f o||(s.vX f&& !s.gop f o)then none else
 match o.op with
 |.call c=>
  match c.callee with
  |.builtin b=>match b with
   |.append|.copy|.delete|.len=>some d
   |_=>none
  |.value (.func g)=>
   if g==s.VK then(if o.guard.isNone then some (d+1)else none)
   else if g==s.VJ then(if o.guard.isNone&&0<d then some (d-1)else none)
   else if s.ext g then some d
   else if s.ok g&&(s.fs g).all (fun i=>(c.args[i]?).all (s.op? f g))&&s.en g<=d&&(s.en g==0||o.guard.isNone)&&(s.Cu g||c.args.size<=s.np g)then some (d-s.en g)
   else none
  |.value (.tmp t)=>if(s.fs f).contains t&&(!s.vX f||c.args.size<=1)then some d else none
  |_=>none
 |.defer c=>match c.callee with
  |.value (.func g)=>if s.clean g&&s.Cu g then some d else none
  |_=>none
 |.makeFunc (.func _) _ _=>some d
 |.move _|.assign _|.pick .. |.alloc _|.box .. |.build .. |.buildSlice .. |.load .. |.store .. |.nilCheck _|.binOp .. |.unOp .. |.convert .. |.makeMap .. |.makeSlice .. |.fieldAddr .. |.field .. |.indexAddr .. |.index .. |.lookup .. |.mapUpdate .. |.extract .. =>some d
 |_=>none
def Sg.Ey(ops:Array Oper):List Nat->Nat->Option Nat
 |[],d=>some d
 |i::r,d=>match ops[i]? with
  |none=>Sg.Ey ops r d
  |some o=>match s.Kc f o d with
   |some d'=>Sg.Ey ops r d'
   |none=>none
def uL:Option (Option Nat)->Option (Option Nat)->Option (Option Nat)
 |some none,some y=>some y
 |some x,some none=>some x
 |some (some x),some (some y)=>if x==y then some (some x)else none
 |_,_=>none
def OJ(st:Option (Option Nat))(e:Nat):Bool:=match st with
 |some none=>true
 |some (some d')=>d'==e
 |none=>false
def Sg.code:Code->Nat->Option (Option Nat)
 |.skip,d|.label _,d=>some (some d)
 |.ret,d=>if d==0 then some none else none
 |.exit _,d=>if d==s.en f then some none else none
 |.seq a b,d=>match Sg.code a d with
  |some (some d')=>Sg.code b d'
  |r=>r
 |.cond (.const (.bool t)) a b,d=>if t then Sg.code a d else Sg.code b d
 |.cond _ a b,d=>uL (Sg.code a d) (Sg.code b d)
 |.block _ a,d=>match Sg.code a d with
  |some none=>some (some (s.en f))
  |some (some d')=>if d'==s.en f then some (some (s.en f))else none
  |none=>none
 |.loop a,d=>if d==s.en f&&OJ (Sg.code a (s.en f)) (s.en f)then some none else none
 |.region _ ops draw,d=>
  if draw then(if ops.all (fun o=>s.Kc f o d==some d)then some (some d)else none)
  else(s.Ey f ops (bq ops.size) d).map some
 |_,_=>none
def Sg.items:Option Nat->List Item->Option (Option Nat)
 |st,[]=>some st
 |none,.code _::k=>Sg.items none k
 |some d,.code c::k=>match s.code f c d with
  |some st=>Sg.items st k
  |none=>none
 |st,.inBlock _::k=>if st==none||st==some (s.en f)then Sg.items (some (s.en f)) k else none
 |st,.inLoop c::k=>if(st==none||st==some (s.en f))&&OJ (s.code f c (s.en f)) (s.en f)then Sg.items none k else none
 |none,.inRegion _ _::k=>Sg.items none k
 |some d,.inRegion ops todo::k=>match s.Ey f ops todo d with
  |some d'=>Sg.items (some d') k
  |none=>none
 |_,_=>none
def Sg.fin:Option (Option Nat)->Bool
 |some none=>true
 |some (some d)=>d==0
 |none=>false
end
section
variable{s:Sg}{f:ak}
theorem Sg.yw:∀(X:List Item) (st:Option Nat),Sg.fin (s.items f st X)=true->Sg.fin (s.items f none X)=true
 |[],st,h=>rfl
 |x::X,none,h=>h
 |x::X,some d,h=>by
  cases x with
  |code c=>
   simp only[Sg.items]at h ⊢;split at h
   ·exact yw X _ h
   ·cases h
  |inBlock id=>
   simp only[Sg.items]at h ⊢;split at h
   ·simpa using h
   ·cases h
  |inLoop c=>
   simp only[Sg.items]at h ⊢;split at h
   ·rename_i hc;simp only[aD]at hc;rw[if_pos (by simp[hc.2])];exact h
   ·cases h
  |inRegion ops todo=>
   simp only[Sg.items]at h ⊢;split at h
   ·exact yw X _ h
   ·cases h
  |_=>simp[Sg.items,Sg.fin]at h
theorem Sg.J1{id:Nat}{Ks:List Item}(hK:Ks=[]\/Ks=[fM]):∀(X:List Item) (st:Option Nat),Sg.fin (s.items f st X)=true->∀{k'},exitTo id (X++Ks)=some k'->
  ∃Y,k'=Y++Ks/\(∀K,exitTo id (X++K)=some (Y++K))/\Sg.fin (s.items f (some (s.en f)) Y)=true
 |[],st,hf,k',h=>by rcases hK with rfl|rfl<;>simp[exitTo,fM]at h
 |x::X,st,hf,k',h=>by
  have skip:∀st',Sg.fin (s.items f st' X)=true->exitTo id (x::X++Ks)=exitTo id (X++Ks)->(∀K,exitTo id (x::X++K)=exitTo id (X++K))->∃Y,k'=Y++Ks/\(∀K,exitTo id (x::X++K)=some (Y++K))/\Sg.fin (s.items f (some (s.en f)) Y)=true:=fun st' h1 h2 h3=>by
   rw[h2]at h;obtain⟨Y,e1,e2,e3⟩:=J1 hK X st' h1 h;exact⟨Y,e1,fun K=>by rw[h3];exact e2 K,e3⟩
  cases x with
  |inBlock i=>
   have hf2:Sg.fin (s.items f (some (s.en f)) X)=true:=by
    cases st<;>(simp only[Sg.items]at hf;split at hf)<;>first|exact hf|cases hf
   by_cases hi:(i==id)=true
   ·simp only[bM,exitTo]at h;rw[if_pos hi]at h;cases h;exact⟨X,rfl,fun K=>by simp only[bM,exitTo];rw[if_pos hi],hf2⟩
   ·exact skip _ hf2 (by simp only[bM,exitTo];rw[if_neg hi]) fun K=>by simp only[bM,exitTo];rw[if_neg hi]
  |code c=>
   cases st with
   |none=>exact skip none (by simpa only[Sg.items]using hf) (by simp only[bM,exitTo]) fun K=>by simp only[bM,exitTo]
   |some d=>
    simp only[Sg.items]at hf;split at hf
    ·exact skip _ hf (by simp only[bM,exitTo]) fun K=>by simp only[bM,exitTo]
    ·cases hf
  |inLoop c=>
   have hf2:Sg.fin (s.items f none X)=true:=by
    cases st<;>(simp only[Sg.items]at hf;split at hf)<;>first|exact hf|cases hf
   exact skip _ hf2 (by simp only[bM,exitTo]) fun K=>by simp only[bM,exitTo]
  |inRegion ops todo=>
   cases st with
   |none=>exact skip none (by simpa only[Sg.items]using hf) (by simp only[bM,exitTo]) fun K=>by simp only[bM,exitTo]
   |some d=>
    simp only[Sg.items]at hf;split at hf
    ·exact skip _ hf (by simp only[bM,exitTo]) fun K=>by simp only[bM,exitTo]
    ·cases hf
  |_=>cases st<;>simp[Sg.items,Sg.fin]at hf
theorem LJ{x y:Option (Option Nat)}{f:ak}{X:List Item}(h:Sg.fin ((uL x y).bind fun st=>s.items f st X)=true):Sg.fin (x.bind fun st=>s.items f st X)=true:=by
 cases x with
 |none=>exact h
 |some x=>cases y with
  |none=>cases x<;>simp[uL,Sg.fin]at h
  |some y=>cases x with
   |none=>cases y with
    |none=>exact h
    |some y=>exact Sg.yw X _ h
   |some x=>cases y with
    |none=>exact h
    |some y=>
     by_cases e:(x==y)=true
     ·simpa [uL,e]using h
     ·simp[uL,e,Sg.fin]at h
theorem Jw{x y:Option (Option Nat)}{f:ak}{X:List Item}(h:Sg.fin ((uL x y).bind fun st=>s.items f st X)=true):Sg.fin (y.bind fun st=>s.items f st X)=true:=by
 cases x with
 |none=>simp[uL,Sg.fin]at h
 |some x=>cases y with
  |none=>cases x<;>simp[uL,Sg.fin]at h
  |some y=>cases x with
   |none=>exact h
   |some x=>cases y with
    |none=>exact Sg.yw X _ h
    |some y=>
     by_cases e:(x==y)=true
     ·have e':x=y:=by simpa using e
      subst e';simpa [uL]using h
     ·simp[uL,e,Sg.fin]at h
theorem Sg.jY{X:List Item}{c:Code}{d:Nat}:s.items f (some d) (.code c::X)=(s.code f c d).bind fun st=>s.items f st X:=by
 simp only[Sg.items];cases s.code f c d<;>rfl
theorem Sg.Dl{ops:Array Oper}{d:Nat}(h:(ops.all fun o=>s.Kc f o d==some d)=true):∀l:List Nat,s.Ey f ops l d=some d
 |[]=>rfl
 |i::l=>by
  unfold Sg.Ey;cases ho:ops[i]? with
  |none=>exact Dl h l
  |some o=>
   have h':=h;rw[Array.all_eq_true_iff_forall_mem]at h';have:s.Kc f o d=some d:=by simpa using h' o (Array.mem_of_getElem? ho)
   simp only[this];exact Dl h l
end
end
section
section
variable(s:Sg)
def CV(f:ak)(v:af):Prop:=∀fn x y,v=.func fn x y->∃g,fn=.func g/\s.cl f g=true/\(s.vX f=true->x=#[]/\y=#[])
def CD(d:Deferred):Prop:=∃g iy,d=dcall g iy/\s.clean g=true/\s.Cu g=true
structure wh(P:au):Prop where
 body:∀g,s.ok g=true->∃fn c,P.funcs[g]?=some fn/\fn.body=some c/\(fn.name== "runtime.NumGoroutine")=false/\Sg.fin (s.items g (some (s.en g)) [.code c])=true/\∀t∈s.own g++(s.wF g++s.wG g),s.np g<=t
 VK:∀iy d,Lv P (callFunc s.VK iy) d (d+1)/\∀w nx w',(callFunc s.VK iy).run P w=.ok nx w'->∃v,nx=.value v
 VJ:∀iy d,Lv P (callFunc s.VJ iy) d (d-1)/\∀w nx w',(callFunc s.VJ iy).run P w=.ok nx w'->∃v,nx=.value v
 ext:∀g,s.ext g=true->∀iy d,Lv P (callFunc g iy) d d/\∀w nx w',(callFunc g iy).run P w=.ok nx w'->∃v,nx=.value v
 early:P.follows .staticDataAhead=true/\∀g,P.stepOf g=none
 row:∀ty,s.Wa.contains ty=true->∀e,P.underlying ty=some (.slice e)->∀i z,P.info? e=some i->i.zero=some z->∀c∈z.cells,∀fn x y,c≠ .func fn x y
inductive Out(f:ak)(o:Oper)(d d1 d':Nat)(w w':ae):Next->Prop
 |value (v:af) (h:d1=d'):Out f o d d1 d' w w' (.value v)
 |skip (h:d1=d'):Out f o d d1 d' w w' .skip
 |defer (dd:Deferred) (h:d1=d') (hd:CD s dd) (hg:s.vX f=false):Out f o d d1 d' w w' (.defer dd)
 |enter (g:ak) (iy:Array af) (hg:s.ok g=true) (h1:d1=d) (h2:d'+s.en g=d) (ha:∀t,(s.fs g).contains t=true->CV s g (iy.getD t av)) (hp:s.vX f=true->s.pure g=true) (hz:∀t∈s.own g++(s.wF g++s.wG g),iy.size<=t) (hw:w'=w):Out f o d d1 d' w w' (.enter g iy)
end
section
variable{s:Sg}{P:au}{f g:ak}{o:Oper}{a:Act}{d d':Nat}
theorem CV.undef:CV s f av:=fun fn x y h=>by cases h
theorem CV.func{x y:Array af}(h:s.cl f g=true)(k:s.vX f=true->x=#[]/\y=#[]):CV s f (.func (.func g) x y):=fun fn x' y' e=>by cases e;exact⟨g,rfl,h,k⟩
theorem pG(h:s.clean g=true):s.ok g=true/\s.fs g=[]/\s.en g=0:=by
 simp only[Sg.clean,aD]at h;exact⟨h.1.1,by simpa using h.1.2,by simpa using h.2⟩
theorem yD(h:s.cl f g=true):s.clean g=true/\(s.vX f=true->s.pure g=true/\1<=s.np g)/\(s.vX f=false->s.Cu g=true):=by
 simp only[Sg.cl,aD]at h;refine⟨h.1,fun e=>?_,fun e=>?_⟩
 ·have:=h.2
  rw[if_pos e,aD,decide_eq_true_eq]at this;exact this
 ·have:=h.2
  rw[if_neg (by rw[e];simp)]at this;exact this
theorem rR(h:s.Cu g=true):s.own g=[]/\s.wF g=[]/\s.wG g=[]:=by
 simp only[Sg.Cu,aD,List.isEmpty_iff]at h;exact⟨h.1.1,h.1.2,h.2⟩
theorem Cn(H:wh s P){g:ak}(h:s.ok g=true)(iy:Array af)(w:ae):(callFunc g iy).run P w=.ok (.enter g iy) w:=by
 obtain⟨fn,c,h1,h2,h3,-,-⟩:=H.body g h;have h3:¬fn.name= "runtime.NumGoroutine" :=by simpa using h3
 simp[callFunc,h1,h2,h3]
theorem NV(H:wh s P){g:ak}(h:s.ok g=true)(iy:Array af)(d:Nat):Lv P (callFunc g iy) d d:=by
 obtain⟨fn,c,h1,h2,h3,-,-⟩:=H.body g h;have h3:¬fn.name= "runtime.NumGoroutine" :=by simpa using h3
 unfold callFunc;show Lv P (match P.funcs[g]? with
  |none=>_
  |some fn=>_) d d
 simp only[h1,h2];rw[if_neg (by simpa using h3)];exact(rfl:d=d)
theorem oV{x:Sem af}{w:ae}{nx:Next}{w':ae}(h:((do pure (.value (<-x))):Sem Next).run P w=.ok nx w'):∃v,nx=.value v/\x.run P w=.ok v w':=by
 rw[aO]at h;cases hx:x.run P w with
 |halt e w1=>rw[hx]at h;cases h
 |ok v w1=>rw[hx]at h;simp at h<;>exact⟨v,h.1.symm,by rw[h.2]⟩
theorem Ca{x:Sem Unit}{w:ae}{nx:Next}{w':ae}(h:((do x;pure .skip):Sem Next).run P w=.ok nx w'):nx=.skip/\x.run P w=.ok () w':=by
 rw[aO]at h;cases hx:x.run P w with
 |halt e w1=>rw[hx]at h;cases h
 |ok v w1=>rw[hx]at h;simp at h<;>exact⟨h.1.symm,by rw[h.2]⟩
theorem M7(hs:∀t,(s.fs f).contains t=true->CV s f (a.tmps.getD t av)){x:Operand}(h:s.op? f g x=true):CV s g (a.eval x):=by
 cases x with
 |func k=>exact CV.func h fun _=>⟨rfl,rfl⟩
 |tmp t=>
  simp only[Sg.op?,aD,beq_iff_eq]at h;intro fn x y e;obtain⟨k,h1,h2,h3⟩:=hs t h.1 fn x y e;refine⟨k,h1,?_,fun e=>h3 (by rw[<-h.2];exact e)⟩;simp only[Sg.cl]at h2 ⊢;rw[h.2];exact h2
 |_=>cases h
theorem Ox(H:wh s P){v:af}(hv:CV s f v)(iy:Array af)(hsz:s.vX f=true->iy.size<=1)(d:Nat):
  Lv P (do let d<-cI v iy;invoke d.target d.args) d d/\∀w nx w',(do let d<-cI v iy;invoke d.target d.args:Sem Next).run P w=.ok nx w'->w'=w/\∃g bs,nx=.enter g bs/\s.cl f g=true/\∀t∈s.own g++(s.wF g++s.wG g),bs.size<=t:=by
 cases v with
 |func fn x y=>
  obtain⟨g,rfl,hg,hxy⟩:=hv _ _ _ rfl;have hok:=(pG (yD hg).1).1;refine⟨?_,fun w nx w' h=>?_⟩
  ·show Lv P (callFunc g (x++iy++y)) d d;exact NV H hok _ d
  ·have h:(callFunc g (x++iy++y)).run P w=.ok nx w':=h;rw[Cn H hok]at h;cases h;refine⟨rfl,g,_,rfl,hg,fun t ht=>?_⟩;by_cases e:s.vX f=true
   ·obtain⟨rfl,rfl⟩:=hxy e;obtain⟨-,-,-,-,-,-,hl⟩:=H.body g hok;have h1:=hl t ht;have h2:=((yD hg).2.1 e).2;have h3:=hsz e;simp<;>omega
   ·obtain⟨n1,n2,n3⟩:=rR ((yD hg).2.2 (by simpa using e));rw[n1,n2,n3]at ht;simp at ht
 |nilFunc=>exact⟨NM.lv (wr:=true) (x:=(runtimePanic .nilDeref:Sem Next)) Nm.out d,fun w nx w2 h=>by cases h⟩
 |_=>exact⟨trivial,fun w nx w' h=>by cases h⟩
theorem uT(he:s.Kc f o d=some d'):s.oM f o=true/\(s.vX f=true->s.gop f o=true):=by
 unfold Sg.Kc at he;split at he
 ·cases he
 ·rename_i h;simp only[bf,aD,not_or,not_and,Bool.not_eq_true']at h;refine⟨by simpa using h.1,fun e=>?_⟩;have:=h.2 e
  simpa using this
theorem Gr{wr:Bool}{x:Operand}(hop:o.op=.nilCheck x):NM wr (ax a.eval o)/\∀w nx w',(ax a.eval o).run P w=.ok nx w'->∃v,nx=.value v:=by
 have e:ax a.eval o=(match a.eval x with
  |.pointer none|.nilIface|.nilFunc=>runtimePanic .nilDeref
  |.func (.method name) first captured=>
   match(first[0]?:Option af)with
   |some .nilIface=>runtimePanic .nilDeref
   |some (.iface t w)=>do
    if(<-nilAhead ((<-program).types.size+Made.depth) t w name) != some false then
     unsupported (.noEntry "op/nilCheck.the method's receiver behind this interface value is a nil pointer, or cannot be seen to be none, and the arguments act or may panic (ledger 612)")
    pure (.value (.func (.method name) first captured))
   |_=>pure (.value (.func (.method name) first captured))
  |x=>pure (.value x)):=by unfold ax;rw[hop];rfl
 rw[e];refine⟨?_,fun w nx w' h=>?_⟩
 ·repeat' (first|exact Nm.out|(refine NM.bind ?_ fun _=>?_)|(refine NM.ite ?_ ?_)|split|(intro _)|dsimp only)
 ·generalize a.eval x=z at h;have hp:∀{w:ae} {nx:Next} {w':ae},(runtimePanic .nilDeref:Sem Next).run P w=.ok nx w'->False:=fun h=>by simp[runtimePanic,goPanic]at h
  split at h
  ·exact(hp h).elim
  ·exact(hp h).elim
  ·exact(hp h).elim
  ·split at h
   ·exact(hp h).elim
   ·rw[aO]at h;generalize(nilAhead _ _ _ _:Sem _)=na at h;revert h
    simp only[aO];intro h;cases hn:(program:Sem au).run P w with
    |halt e w1=>rw[hn]at h;cases h
    |ok p w1=>
     rw[hn]at h;simp at h;cases hq:(nilAhead (p.types.size+Made.depth) _ _ _).run P w1 with
     |halt e w2=>rw[hq]at h;cases h
     |ok r w2=>
      rw[hq]at h;simp at h;split at h<;>simp[unsupported]at h
      exact⟨_,h.1.symm⟩
   ·cases h;exact⟨_,rfl⟩
  ·cases h;exact⟨_,rfl⟩
theorem J5(H:wh s P)(hs:∀t,(s.fs f).contains t=true->CV s f (a.tmps.getD t av))(he:s.Kc f o d=some d')(R:Nat):∃d1,Lv P (ax a.eval o) (d+R) (d1+R)/\∀w nx w',(ax a.eval o).run P w=.ok nx w'->Out s f o d d1 d' w w' nx:=by
 obtain⟨-,hgo⟩:=uT he;have val:∀{x:Sem af},Nm true x->ax a.eval o=(do pure (.value (<-x)))->d=d'->∃d1,Lv P (ax a.eval o) (d+R) (d1+R)/\∀w nx w',(ax a.eval o).run P w=.ok nx w'->Out s f o d d1 d' w w' nx:=fun{x} hx e hd=>by
  refine⟨d,?_,fun w nx w' h=>?_⟩
  ·rw[e];exact(NM.bind hx.out fun _=>Nm.out).lv (d+R)
  ·rw[e]at h;obtain⟨v,rfl,-⟩:=oV h;exact .value v hd
 have skp:∀{x:Sem Unit},Nm true x->ax a.eval o=(do x;pure .skip)->d=d'->∃d1,Lv P (ax a.eval o) (d+R) (d1+R)/\∀w nx w',(ax a.eval o).run P w=.ok nx w'->Out s f o d d1 d' w w' nx:=fun{x} hx e hd=>by
  refine⟨d,?_,fun w nx w' h=>?_⟩
  ·rw[e];exact(NM.bind hx.out fun _=>Nm.out).lv (d+R)
  ·rw[e]at h;obtain⟨rfl,-⟩:=Ca h;exact .skip hd
 have now:∀{v:af},ax a.eval o=(Pure.pure (.value v):Sem Next)->d=d'->∃d1,Lv P (ax a.eval o) (d+R) (d1+R)/\∀w nx w',(ax a.eval o).run P w=.ok nx w'->Out s f o d d1 d' w w' nx:=fun{v} e hd=>by
  refine⟨d,by rw[e];exact(rfl:d+R=d+R),fun w nx w' h=>?_⟩;rw[e]at h;cases h;exact .value _ hd
 unfold Sg.Kc at he;split at he
 ·cases he
 cases hop:o.op<;>rw[hop]at he<;>(try dsimp only at he)<;>try(cases he;done)
 case move x=>cases he;exact now (by unfold ax;rw[hop]) rfl
 case assign x=>cases he;exact now (by unfold ax;rw[hop]) rfl
 case makeFunc fn x y=>
  cases fn with
  |func g=>cases he;exact now (by unfold ax;rw[hop];rfl) rfl
  |_=>cases he
 case defer c=>
  cases hc:c.callee with
  |value x=>
   rw[hc]at he;cases x with
   |func g=>
    dsimp only at he;split at he
    ·rename_i hx;cases he;have hg:s.vX f=false:=by
      by_cases e:s.vX f=true
      ·have:=hgo e
       simp[Sg.gop,hop]at this
      ·simpa using e
     have e:ax a.eval o=(Pure.pure (.defer {target:=.fn (.func g) #[],args:=#[]++c.args.map a.eval}):Sem Next):=by
      obtain⟨ce,iy,ats⟩:=c;subst hc;unfold ax;rw[hop];rfl
     refine⟨d,by rw[e];exact(rfl:d+R=d+R),fun w nx w' h=>?_⟩;rw[e]at h;cases h;rw[aD]at hx;exact .defer _ rfl ⟨g,#[]++c.args.map a.eval,rfl,hx.1,hx.2⟩ hg
    ·cases he
   |_=>cases he
  |_=>rw[hc]at he;cases he
 case call c=>
  cases hc:c.callee with
  |invoke r n=>rw[hc]at he;cases he
  |builtin b=>
   rw[hc]at he;have e:ax a.eval o=Go.builtin b c.argTypes o.type (c.args.map fun|.const _=>true|_=>false) (c.args.map a.eval):=by
    obtain⟨ce,iy,ats⟩:=c;subst hc;unfold ax;rw[hop];rfl
   cases b<;>first
    |(cases he;done)
    |(cases he;exact val inferInstance (e.trans rfl) rfl)
  |value x=>
   rw[hc]at he;cases x with
   |func g=>
    have e:ax a.eval o=callFunc g (c.args.map a.eval):=by
     obtain⟨ce,iy,ats⟩:=c;have hc:ce=.value (.func g):=hc;subst hc;exact execOp_call_func hop
    dsimp only at he;split at he
    ·rename_i hg;have hg:g=s.VK:=by simpa using hg
     subst hg;split at he
     ·cases he;refine⟨d+1,by rw[e];exact(by have:=(H.VK (c.args.map a.eval) (d+R)).1;rwa [show d+R+1=d+1+R by omega]at this),fun w nx w' h=>?_⟩;rw[e]at h;obtain⟨v,rfl⟩:=(H.VK _ 0).2 _ _ _ h;exact .value v rfl
     ·cases he
    ·split at he
     ·rename_i hg;have hg:g=s.VJ:=by simpa using hg
      subst hg;split at he
      ·rename_i hpos;have hpos:0<d:=by simp only[aD,decide_eq_true_eq]at hpos;exact hpos.2
       cases he;refine⟨d-1,by rw[e];exact(by have:=(H.VJ (c.args.map a.eval) (d+R)).1;rwa [show d+R-1=d-1+R by omega]at this),fun w nx w' h=>?_⟩;rw[e]at h;obtain⟨v,rfl⟩:=(H.VJ _ 0).2 _ _ _ h;exact .value v rfl
      ·cases he
     ·split at he
      ·rename_i hx;cases he;refine⟨d,by rw[e];exact(H.ext g hx _ (d+R)).1,fun w nx w' h=>?_⟩;rw[e]at h;obtain⟨v,rfl⟩:=(H.ext g hx _ (d+R)).2 _ _ _ h;exact .value v rfl
      ·split at he
       ·rename_i hx;simp only[aD,decide_eq_true_eq]at hx;obtain⟨⟨⟨⟨h1,h2⟩,h3⟩,h4⟩,h5⟩:=hx;cases he;refine⟨d,by rw[e];exact NV H h1 _ (d+R),fun w nx w' h=>?_⟩;rw[e,Cn H h1]at h;cases h;refine .enter g _ h1 rfl (by omega) (fun t ht=>?_) (fun eg=>?_) (fun t ht=>?_) rfl
        ·rw[List.all_eq_true]at h2;have h2:=h2 t (by simpa using ht);cases hx:c.args[t]? with
         |none=>
          have e2:(c.args.map a.eval).getD t av=av:=by simp[bF,hx]
          rw[e2];exact CV.undef
         |some x=>
          rw[hx]at h2;have e2:(c.args.map a.eval).getD t av=a.eval x:=by simp[bF,hx]
          rw[e2];exact M7 hs (by simpa using h2)
        ·have:=hgo eg
         simp only[Sg.gop,hop,hc,aD]at this;exact this.1.1.1
        ·simp only[bf,decide_eq_true_eq]at h5;rcases h5 with h5|h5
         ·obtain⟨n1,n2,n3⟩:=rR h5;rw[n1,n2,n3]at ht;simp at ht
         ·obtain⟨-,-,-,-,-,-,hl⟩:=H.body g h1;have:=hl t ht
          simp<;>omega
       ·cases he
   |tmp t=>
    dsimp only at he;split at he
    ·rename_i ht;cases he;have e:ax a.eval o=(do let d<-cI (a.eval (.tmp t)) (c.args.map a.eval);invoke d.target d.args):=by
      obtain⟨ce,iy,ats⟩:=c;subst hc;unfold ax;rw[hop];rfl
     rw[aD,bf,decide_eq_true_eq]at ht;obtain⟨ht,hsz⟩:=ht;obtain⟨k1,k2⟩:=Ox H (hs t ht) (c.args.map a.eval) (fun e=>by
      rcases hsz with h|h;· rw[e]at h;cases h
      ·simpa using h) (d+R)
     refine⟨d,by rw[e];exact k1,fun w nx w' h=>?_⟩;rw[e]at h;obtain⟨hw,g,bs,rfl,hg,hbz⟩:=k2 _ _ _ h;obtain⟨c0,c4,-⟩:=yD hg;obtain⟨c1,c2,c3⟩:=pG c0;exact .enter g bs c1 rfl (by rw[c3];rfl) (fun t ht=>by rw[c2]at ht;simp at ht) (fun e=>(c4 e).1) hbz hw
    ·cases he
   |_=>cases he
 case store t x y=>cases he;exact skp (x:=bJ t (a.eval x) (a.eval y)) inferInstance (by unfold ax;rw[hop]) rfl
 case mapUpdate t m k x=>cases he;exact skp (x:=Instr.mapUpdate t (a.eval m) (a.eval k) (a.eval x)) inferInstance (by unfold ax;rw[hop]) rfl
 case nilCheck x=>
  cases he;obtain⟨k1,k2⟩:=Gr (P:=P) hop (a:=a) (wr:=true);exact⟨d,k1.lv (d+R),fun w nx w' h=>by obtain⟨v,rfl⟩:=k2 w nx w' h;exact .value v rfl⟩
 case pick c x y=>
  cases he;have e:ax a.eval o=(do pure (.value (if<-asBool (a.eval c)then a.eval x else a.eval y))):=by unfold ax;rw[hop]
  refine⟨d,by rw[e];exact(NM.bind (wr:=true) Nm.out fun _=>Nm.out).lv (d+R),fun w nx w' h=>?_⟩;rw[e,aO]at h;have:∃v,nx=.value v:=by
   cases hx:(asBool (a.eval c)).run P w with
   |halt e w1=>rw[hx]at h;cases h
   |ok v w1=>rw[hx]at h;simp at h<;>exact⟨_,h.1.symm⟩
  obtain⟨v,rfl⟩:=this;exact .value v rfl
 all_goals
  cases he;first
   |exact val (x:=dw _ true (.tuple #[])) inferInstance (by unfold ax;rw[hop]) rfl
   |exact val (x:=Instr.box _ _) inferInstance (by unfold ax;rw[hop]) rfl
   |exact val (x:=Instr.build _ _) inferInstance (by unfold ax;rw[hop]) rfl
   |exact val (x:=Instr.buildSlice _ _ _) inferInstance (by unfold ax;rw[hop]) rfl
   |exact val (x:=aT _ _) inferInstance (by unfold ax;rw[hop]) rfl
   |exact val (x:=Op.unary _ _) inferInstance (by unfold ax;rw[hop]) rfl
   |exact val (x:=Go.convert _ _ _) inferInstance (by unfold ax;rw[hop]) rfl
   |exact val (x:=Instr.makeMap _ _) inferInstance (by unfold ax;rw[hop]) rfl
   |exact val (x:=Instr.makeSlice _ _ _) inferInstance (by unfold ax;rw[hop]) rfl
   |exact val (x:=Instr.fieldAt _ _ _) inferInstance (by unfold ax;rw[hop]) rfl
   |exact val (x:=Instr.field _ _ _) inferInstance (by unfold ax;rw[hop]) rfl
   |exact val (x:=Instr.indexAt _ _ _) inferInstance (by unfold ax;rw[hop]) rfl
   |exact val (x:=Instr.index _ _ _) inferInstance (by unfold ax;rw[hop]) rfl
   |exact val (x:=Instr.lookup _ _ _ _) inferInstance (by unfold ax;rw[hop]) rfl
   |exact val (x:=Instr.extract _ _) inferInstance (by unfold ax;rw[hop]) rfl
   |exact val (x:=(do eqGuard ..;Go.binOp _ _ _ _)) ⟨NM.bind Nm.out fun _=>Nm.out⟩ (by unfold ax;rw[hop]) rfl
end
end
end Cc
end Go.Proofs.Ytpfpokjaeffbjaa
