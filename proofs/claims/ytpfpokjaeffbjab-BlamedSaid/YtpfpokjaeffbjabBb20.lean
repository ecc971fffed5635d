/- Part of the proof: ShQ, Cmp, Nm. -/
import Derived.Test.YtpfpokjaeffbjabBb19
import Derived.Test.YtpfpokjaeffbjabBb10
import Derived.Test.YtpfpokjaeffbjabBb11
import Derived.Test.YtpfpokjaeffbjabBb9
import Derived.Test.YtpfpokjaeffbjabBb18
import Derived.Test.YtpfpokjaeffbjabBb12
import Derived.Test.YtpfpokjaeffbjabBb16
import Derived.Test.YtpfpokjaeffbjabBb4
import Derived.Conc.Deaf
set_option linter.unusedVariables false
set_option linter.unusedSimpArgs false
set_option maxRecDepth 100000
set_option maxHeartbeats 16000000
namespace Go.Proofs.Ytpfpokjaeffbjab
namespace Cc
open Go.Conc Go.ConcN Mem
open Classical in
noncomputable def wO(K:List (Nat×Obj))(b:Nat):Option Md:=if h:∃(C:Array Value) (e:TypeId) (fz:Nat×Nat),(b,Obj.cells C e fz)∈K then some (.read (Classical.choose h).size)else none
section
variable{q:ig}{dm num:Nat}{K:List (Nat×Obj)}{st:St aJ}{S:FuncId->Bool}{A:Option Addr}
theorem jX.wO(hA:jX dm num K st){b:Nat}{C:Array Value}{e:TypeId}{fz:Nat×Nat}(h:(b,Obj.cells C e fz)∈K):wO K b=some (.read C.size):=by
 unfold Cc.wO;have hex:∃(C:Array Value) (e:TypeId) (fz:Nat×Nat),(b,Obj.cells C e fz)∈K:=⟨C,e,fz,h⟩;rw[dif_pos hex];obtain⟨e',fz',h'⟩:=Classical.choose_spec hex;have h1:=(hA.fz _ _ h).1;have h2:=(hA.fz _ _ h').1;rw[h1]at h2;cases h2;rfl
theorem af2{b:Nat}{m:Md}(h:wO K b=some m):∃(C:Array Value) (e:TypeId) (fz:Nat×Nat),(b,Obj.cells C e fz)∈K/\m=.read C.size:=by
 unfold wO at h;split at h
 ·rename_i hex;obtain⟨e',fz',h'⟩:=Classical.choose_spec hex;cases h;exact⟨_,e',fz',h',rfl⟩
 ·cases h
theorem jX.QU(hA:jX dm num K st)(hg:q.P.globals.size=0):FQ q (Cc.wO K) st:=fun b m hm=>by
 obtain⟨C,e,fz,h,rfl⟩:=af2 hm;obtain⟨h1,h2⟩:=hA.fz _ _ h;exact⟨by omega,hA.nd _ _ h,C,e,fz,C.size,h1,rfl,Nat.le_refl _,h2.symm⟩
theorem jX.Cj(hA:jX dm num K st){b off:Nat}{C:Array Value}{e:TypeId}{fz:Nat×Nat}{v:Value}(h:(b,Obj.cells C e fz)∈K)(hc:C[off]?=some v)(hv:VR (fun f=>S f=true) (A8 (Cc.wO K)) v v):(jS S st.w (Cc.wO K)).cell? ⟨b,off,none⟩=some v:=by
 refine O7 (hA.wO h) (Array.getElem?_eq_some_iff.1 hc).1 ?_ hv;simp only[World.cell?,(hA.fz _ _ h).1]
 simpa using hc
def Zp(K:List (Nat×Obj))(A:Option Addr):Prop:=A=none\/∃b off,A=some ⟨b,off,none⟩/\∃(C:Array Value) (e:TypeId) (fz:Nat×Nat),(b,Obj.cells C e fz)∈K
theorem Zp.vr(h:Zp K A)(hA:jX dm num K st)(L c:Nat):VR (fun f=>S f=true) (A8 (Cc.wO K)) (.slice A L c) (.slice A L c):=by
 rcases h with rfl|⟨b,off,rfl,C,e,fz,h⟩
 ·exact .gQ _ _
 ·exact .slice _ _ _ _ (gX (hA.wO h))
theorem Zp.mono{K':List (Nat×Obj)}(h:Zp K A)(hs:∀b o,(b,o)∈K->(b,o)∈K'):Zp K' A:=by
 rcases h with rfl|⟨b,off,rfl,C,e,fz,h⟩
 ·exact .inl rfl
 ·exact .inr ⟨b,off,rfl,C,e,fz,hs _ _ h⟩
def kQ(K:List (Nat×Obj))(k:IntKind)(A:Option Addr)(c:Nat)(l:List Int):Prop:=l.length<=c/\Zp K A/\(0<l.length->∃b off,A=some ⟨b,off,none⟩/\∃(C:Array Value) (e:TypeId) (fz:Nat×Nat),(b,Obj.cells C e fz)∈K/\∀i,i<l.length->C[off+i]?=some (.int k (l.getD i 0)))
theorem kQ.mono{K':List (Nat×Obj)}{k:IntKind}{c:Nat}{l:List Int}(h:kQ K k A c l)(hs:∀b o,(b,o)∈K->(b,o)∈K'):kQ K' k A c l:=by
 obtain⟨h1,h2,h3⟩:=h;refine⟨h1,h2.mono hs,fun hl=>?_⟩;obtain⟨b,off,e1,C,e,fz,h4,h5⟩:=h3 hl;exact⟨b,off,e1,C,e,fz,hs _ _ h4,h5⟩
theorem kQ.nums{k:IntKind}{c:Nat}{l:List Int}(h:kQ K k A c l)(hA:jX dm num K st):Nums k (jS S st.w (Cc.wO K)) (jS S st.w (Cc.wO K)).heap.size (.slice A l.length c) l:=by
 obtain⟨h1,h2,h3⟩:=h;refine⟨A,c,rfl,h1,fun hl=>?_⟩;obtain⟨b,off,e1,C,e,fz,h4,h5⟩:=h3 hl;exact⟨b,off,e1,by rw[mG];exact lt_of_block (hA.fz _ _ h4).1,fun i hi=>hA.Cj h4 (h5 i hi) (.int _ _)⟩
def Oz(K:List (Nat×Obj))(A:Option Addr)(c:Nat)(l:List Cm):Prop:=l.length<=c/\Zp K A/\(0<l.length->∃b off,A=some ⟨b,off,none⟩/\∃(C:Array Value) (e:TypeId) (fz:Nat×Nat),(b,Obj.cells C e fz)∈K/\∀j u,(aU l)[j]?=some u->C[off+j]?=some u)
theorem aN7{ρ:Nat->Option Nat}{l:List Cm}{j:Nat}{u:Value}(hu:(aU l)[j]?=some u):VR (fun f=>S f=true) ρ u u:=by
 have hm:=List.mem_of_getElem? hu;simp only[aU,List.mem_flatMap]at hm;obtain⟨cm,_,hm⟩:=hm;simp only[Cm.cells,List.mem_cons,List.not_mem_nil,or_false]at hm;rcases hm with rfl|rfl|rfl<;>exact .int _ _
theorem Oz.iJ{c:Nat}{l:List Cm}(h:Oz K A c l)(hA:jX dm num K st):oK (jS S st.w (Cc.wO K)) (jS S st.w (Cc.wO K)).heap.size (.slice A l.length c) l:=by
 obtain⟨h1,h2,h3⟩:=h;refine⟨dL l,A,c,rfl,h1,fun hl=>?_⟩;obtain⟨b,off,e1,C,e,fz,h4,h5⟩:=h3 hl;exact⟨b,off,e1,by rw[mG];exact lt_of_block (hA.fz _ _ h4).1,fun j u hu=>hA.Cj h4 (h5 j u hu) (aN7 hu)⟩
end
end Cc
namespace Rag
open Go.RowKit Go.Conc Cc Pl ny oI ni qj Mem oG OO J5
def sumTo(rt:Nat->Bool)(zs:List Int):Nat->Int
 |0=>0
 |k+1=>if rt k then(sumTo rt zs k+zs.getD k 0)%1073741789 else sumTo rt zs k
theorem Eb(rt:Nat->Bool)(zs:List Int)(hz:∀k,k<zs.length->0<=zs.getD k 0):∀k,0<=sumTo rt zs k/\sumTo rt zs k<1073741789
 |0=>by simp[sumTo]
 |k+1=>by
  rw[sumTo];split
  ·omega
  ·exact Eb rt zs hz k
theorem Am(rt:Nat->Bool)(zs:List Int)(hz:∀k,k<zs.length->0<=zs.getD k 0/\zs.getD k 0<1073741789):∀k,k<=zs.length->(∀j,j<k->rt j=true)->sumTo rt zs k=xA 0 zs k
 |0,_,_=>rfl
 |k+1,hk,h=>by
  have b:=Eb rt zs (fun k hk=>(hz k hk).1) k;have z:=hz k (by omega);rw[sumTo,if_pos (h k (by omega)),xA,<-Am rt zs hz k (by omega) fun j hj=>h j (by omega)];unfold mM;rw[lN (by omega) (by omega)]
theorem Xj(xs:List Int):∀n,0<=qy 1 xs n/\qy 1 xs n<2147483579
 |0=>by simp[qy]
 |n+1=>by rw[qy];exact DJ _ _
theorem al7(l:List Cm)(key:Int)(msg:ByteArray):0<=dM l key msg/\dM l key msg<2147483579:=Xj _ _
structure Ans where
 r:Int
 z:Int
 ids:List Int
 e:Int
def rX(t n:Int)(cs:List Int)(l:List Cm)(msg:ByteArray)(zs:List Int)(rt:Nat->Bool):Ans:=
 if lZ t n cs l msg zs.length≠0 then⟨0,0,[],lZ t n cs l msg zs.length⟩else if cZ rt l l.length=[]then⟨dM l (cs.getD 0 0) msg,sumTo rt zs l.length,[],0⟩else⟨0,0,cZ rt l l.length,14⟩
def Ans.val(a:Ans)(W:Value):Value:=.tuple #[.agg #[.int .u64 a.r,.int .u64 a.z],W,.int .i64 a.e]
end Rag
namespace Cc
open Go.Conc Go.ConcN Go.RowKit
open Pl ny oI ni Mem oG Dl Ad J5 OO Gn Rag
open qj hiding base
theorem TT.ao3{q:ig}{P:Program}(hP:q.P=P){Ch:Nat->Goroutine->St aJ->Prop}{st:St aJ}{b:Frame}{a:Act}{kk:List Item}{cs:List Frame}{ops:Array Oper}{i:Nat}{rest:List Nat}{o:Oper}{f:FuncId}{args:Array Value}(ho:ops[i]?=some o)(hw:Region.wanted o (yielded ops a.tmps)=true)(hk:b.kind≠ .early)
  (hr:∀w:World,(execOp a.eval o).run P w=.ok (.enter f args) w)(he:∀w:World,(execOp a.eval o).events P w #[]=#[])
  (h:TT (cfg q) 0 Ch (G (Frame.enter P f args .normal) (b.at a (.inRegion ops (i::rest)::kk)::cs)) st):TT (cfg q) 0 Ch (G (b.at a (.inRegion ops (i::rest)::kk)) cs) st:=by
 subst hP;refine TT.qw rfl 4 fun w₀ hF=>Goes.step rfl fun w₁ bL0=>?_
 show(stepG q.P (0==0) (G (b.at a (.inRegion ops (i::rest)::kk)) cs) w₁).goes _;rw[stepG_enter ho hw hk (hr w₁)];unfold listed;rw[he,seen_none];exact⟨⟨rfl,rfl⟩,Goes.stop fun w₂ _=>⟨rfl,h⟩⟩
theorem FN{t n:Int}{cs zs:List Int}{l:List Cm}{msg:ByteArray}{num:Nat}{K:List (Nat×Obj)}{v:Value}{st:St aJ}(hz:∀k,k<zs.length->0<=zs.getD k 0)(h:ZH t n cs l msg zs.length (fun k=>zs.getD k 0) num K v st):
  ∃(A:Option Addr) (c num':Nat) (K':List (Nat×Obj)),v=(rX t n cs l msg zs (fun k=>fQ (zs.getD k 0) (jB (dM l (cs.getD 0 0) msg) (cs.getD 0 0) msg) cs l msg k)).val (.slice A (rX t n cs l msg zs (fun k=>fQ (zs.getD k 0) (jB (dM l (cs.getD 0 0) msg) (cs.getD 0 0) msg) cs l msg k)).ids.length c)/\
   jX 0 num' K' st/\(∀b o,(b,o)∈K->(b,o)∈K')/\kQ K' .i64 A c (rX t n cs l msg zs (fun k=>fQ (zs.getD k 0) (jB (dM l (cs.getD 0 0) msg) (cs.getD 0 0) msg) cs l msg k)).ids:=by
 generalize hrt:(fun k=>fQ (zs.getD k 0) (jB (dM l (cs.getD 0 0) msg) (cs.getD 0 0) msg) cs l msg k)=rt at h ⊢;have hnil:kQ K .i64 none 0 []:=⟨Nat.le_refl _,.inl rfl,fun h=>absurd h (by simp)⟩;rcases h with⟨h1,rfl,h2⟩|⟨h1,h2⟩
 ·refine⟨none,0,num,K,?_,h2,fun _ _ h=>h,?_⟩
  ·unfold rX;rw[if_pos h1];rfl
  ·unfold rX;rw[if_pos h1];exact hnil
 ·rw[hrt]at h2;have hns:=aw3 h1;rcases h2 with⟨h3,rfl,h4⟩|⟨h3,c,cap,C,rfl,h4,h7,h5,h6⟩
  ·refine⟨none,0,num+l.length,K,?_,h4,fun _ _ h=>h,?_⟩
   ·unfold rX;rw[if_neg (by simpa using h1),if_pos h3];have hall:=(Gq rt l l.length).1 h3;have e1:(List.range l.length).map (fun k=>zs.getD k 0)=zs:=by
     refine List.ext_getElem (by simp[hns]) fun i i1 i2=>?_
     simp[List.getD_eq_getElem?_getD,i2]
    have e2:=Am rt zs (fun k hk=>⟨hz k hk,by
     have:=hall k (by omega);rw[<-hrt]at this;simp only[fQ,Bool.and_eq_true,decide_eq_true_eq]at this;exact this.1⟩) l.length (by omega) hall
    rw[e1,e2,hns];rfl
   ·unfold rX;rw[if_neg (by simpa using h1),if_pos h3];exact hnil
  ·refine⟨some ⟨c,0,none⟩,cap,num+l.length,_,?_,h4,fun _ _ h=>List.mem_cons_of_mem _ h,?_⟩
   ·unfold rX;rw[if_neg (by simpa using h1),if_neg h3];rfl
   ·unfold rX;rw[if_neg (by simpa using h1),if_neg h3];exact⟨h7,.inr ⟨c,0,rfl,C,_,_,List.mem_cons_self ..⟩,fun _=>⟨c,0,rfl,C,_,_,List.mem_cons_self ..,fun i hi=>by rw[Nat.zero_add];exact h6 i hi⟩⟩
theorem yX{P:Program}{b:Frame}{a:Act}{w w':World}{fn:Func}{todo:List Item}{v:Value}(hn:b.kind=.normal)(hd:a.defers=[])(hf:P.funcs[b.fn]?=some fn)(hi:P.inits.idxOf? b.fn=none)(hr:(results fn a.tmps).run P w=.ok v w')(he:(results fn a.tmps).events P w #[]=#[]):
  stepG P true (G {b.at a todo with mode:=.returning} []) w=.ended (.done v) w' #[]:=by
 have hs:seen P b.fn #[]=#[]:=seen_none ..;simp[G,stepG,unwind,doReturn,Frame.at,hn,hd,hf,hr,he,hs,hi,GStep.after]
theorem TT.bottom{q:ig}{P:Program}(hP:q.P=P){S:FuncId->Bool}{Ds:Nat->Bool}{ro:Nat->Md}{X:Nat->Prop}{bU st:St aJ}{num t:Nat}{K:List (Nat×Obj)}{Ch:Nat->Goroutine->St aJ->Prop}{fn:Func}{b:Frame}{a':Act}{todo:List Item}(hk:b.kind=.normal)(hfn:P.funcs[b.fn]?=some fn)(hin:P.inits.idxOf? b.fn=none)(hres:fn.results=#[.tmp t])(hD:Ds t=false)
  (hs:Sh q S Ds ro X bU (fun a w=>a.tmps[t]?=some (.bool true)) a' st)(hA:jX 0 num K bU)(hKX:∀b o,(b,o)∈K->¬X b)(fin:∀ah,jX 0 num K ah->Inv q ah->q.Post (.bool true) ah.w):
  TT (cfg q) 0 Ch (G {b.at a' todo with mode:=.returning} []) st:=by
 obtain⟨ρ,a,s,ha,hd,hd',hH,hV,hro,τ,d,hp⟩:=hs;have h1:(nV Ds a.tmps)[t]?=some (.bool true):=by rw[Jb Ds _ hD];exact hp
 obtain⟨v',h2,h3⟩:=ha.get h1;rw[Jb Ds _ hD]at h2;cases h3;have hA2:jX 0 num K st:=hA.mn hV.2.2.2.1 hKX;refine TT.ends hP hA2 fun ah hr au hi=>⟨.bool true,ah.w,yX hk hd' hfn hin ?_ ?_,fin ah au hi⟩
 ·unfold results;rw[hres];simp[go_sem,h2]
 ·unfold results;rw[hres];simp[go_sem,h2]
theorem SY(t n:Int)(x:Value)(hx:(∀a,x≠ .agg a)/\∀a,x≠ .tuple a){bl:Nat}(w:World)(h:w.heap[bl]?=some (.cells #[.int .i64 t,.int .i64 n,x] 28 (0,0))):
  (Instr.loadAt 28 (.pointer (some ⟨bl,0,none⟩))).run Try.prog w=.ok (.agg #[.int .i64 t,.int .i64 n,x]) w/\∀e∈(Instr.loadAt 28 (.pointer (some ⟨bl,0,none⟩))).events Try.prog w #[],∃off',e=⟨.cell ⟨bl,off',none⟩,false,false⟩:=by
 have c0:w.cell? ⟨bl,0,none⟩=some (.int .i64 t):=by simp[World.cell?,h]
 have c1:w.cell? ⟨bl,1,none⟩=some (.int .i64 n):=by simp[World.cell?,h]
 have c2:w.cell? ⟨bl,2,none⟩=some x:=by simp[World.cell?,h]
 constructor
 ·simp[go_sem,c0,c1,c2]
 ·intro e he;simp[go_sem,c0,c1,c2]at he;rcases he with rfl|rfl|rfl<;>exact⟨_,rfl⟩
theorem TY(w:World):(Instr.alloc 46 true (.tuple #[])).run Try.prog w=.ok (.pointer (some ⟨w.heap.size,0,none⟩)) (w.alloc (.cells #[.int .u64 0,.int .u64 0] 46))/\(Instr.alloc 46 true (.tuple #[])).events Try.prog w #[]=#[]:=by
 constructor<;>simp[go_sem]
theorem QJ(r z:Int){bl:Nat}(w:World)(h:w.heap[bl]?=some (.cells #[.int .u64 0,.int .u64 0] 46 (0,0))):
  ∃w',((Instr.storeAt 46 (.pointer (some ⟨bl,0,none⟩)) (.agg #[.int .u64 r,.int .u64 z])).run Try.prog w=.ok () w'/\∀e∈(Instr.storeAt 46 (.pointer (some ⟨bl,0,none⟩)) (.agg #[.int .u64 r,.int .u64 z])).events Try.prog w #[],∃off' x,e=⟨.cell ⟨bl,off',none⟩,x,false⟩)/\w'.heap.size=w.heap.size/\w'.os=w.os/\w'.output=w.output/\(∀b,b≠bl->w'.heap[b]?=w.heap[b]?)/\w'.heap[bl]?=some (.cells #[.int .u64 r,.int .u64 z] 46 (0,0)):=by
 have B:bZ w bl 46 #[.int .u64 0,.int .u64 0]:=h;have e0:=B.cell 0;have e1:=B.cell 1;have f0:=B.frozen 0;have f1:=B.frozen 1;have B2:=((B.gK 0 (.int .u64 r)).gK 1 (.int .u64 z));refine⟨(w.setCell ⟨bl,0,none⟩ (.int .u64 r)).setCell ⟨bl,1,none⟩ (.int .u64 z),⟨?_,?_⟩,by simp[World.setCell],rfl,rfl,fun b hb=>?_,B2⟩
 ·simp[go_sem,e0,e1,f0,f1]
 ·intro e he;simp[go_sem,e0,e1,f0,f1]at he;rcases he with rfl|rfl<;>exact⟨_,_,rfl⟩
 ·exact(Below.heap_setCell _ ⟨bl,1,none⟩ _ b hb).trans (Below.heap_setCell w ⟨bl,0,none⟩ _ b hb)
theorem kQ.sh{K:List (Nat×Obj)}{A:Option Addr}{c:Nat}{zs:List Int}{dm num:Nat}{st:St aJ}(h:kQ K .u64 A c zs)(hA:jX dm num K st):0<zs.length->∃bS oS nmd,A=some ⟨bS,oS,none⟩/\Cc.wO K bS=some (.read nmd)/\∃ob,(bS,ob)∈K/\∀(w:World) (k:Nat),w.heap[bS]?=some ob->k<zs.length->w.cell? ⟨bS,oS+k,none⟩=some (.int .u64 (zs.getD k 0)):=fun hl=>by
 obtain⟨b,off,e1,C,e,fz,h4,h5⟩:=h.2.2 hl;exact⟨b,off,C.size,e1,hA.wO h4,_,h4,fun w k hw hk=>by simp only[World.cell?,hw];simpa using h5 k hk⟩
section
variable{q:ig}{t n:Int}{cs zs:List Int}{l:List Cm}{msg:ByteArray}{A1 A2 A3:Option Addr}{c1 c2 c3:Nat}
theorem XV{S:FuncId->Bool}{dm num:Nat}{K:List (Nat×Obj)}{st:St aJ}(hA:jX dm num K st)(hs1:Zp K A1)(hs2:Zp K A2)(hs3:Zp K A3):AR (fun f=>S f=true) (A8 (Cc.wO K)) #[.agg #[.int .i64 t,.int .i64 n,.slice A1 cs.length c1],.string msg,.slice A2 l.length c2,.slice A3 zs.length c3] #[.agg #[.int .i64 t,.int .i64 n,.slice A1 cs.length c1],.string msg,.slice A2 l.length c2,.slice A3 zs.length c3]:=by
 refine⟨rfl,fun i v v' e1 e2=>?_⟩;rw[e1]at e2;cases e2
 match i,e1 with
 |0,e1=>
  cases e1;refine .agg rfl fun j u u' f1 f2=>?_
  rw[f1]at f2;cases f2
  match j,f1 with
  |0,f1=>cases f1;exact .int _ _
  |1,f1=>cases f1;exact .int _ _
  |2,f1=>cases f1;exact hs1.vr hA _ _
  |j+3,f1=>simp at f1
 |1,e1=>cases e1;exact .string _
 |2,e1=>cases e1;exact hs2.vr hA _ _
 |3,e1=>cases e1;exact hs3.vr hA _ _
 |i+4,e1=>simp at e1
end
end Cc
namespace qI
open Go.Conc Go.ConcN Go.RowKit Cc
open Pl Mem
open Go.ConcM (OsLater)
def Aa(W:World):List (Nat×Obj):=(List.range W.heap.size).filterMap fun b=>(W.heap[b]?).map fun o=>(b,o)
theorem jI{W:World}{b:Nat}{o:Obj}:(b,o)∈Aa W↔W.heap[b]?=some o:=by
 unfold Aa;rw[List.mem_filterMap];constructor
 ·rintro ⟨b',hb,h⟩;rw[Option.map_eq_some_iff]at h;obtain⟨o',h1,h2⟩:=h;cases h2;exact h1
 ·intro h;exact⟨b,List.mem_range.2 (lt_of_block h),by rw[h];rfl⟩
structure Kept(W W':World):Prop where
 os:OsLater W.os W'.os
 output:W'.output=W.output
 size:W.heap.size<=W'.heap.size
 block:∀b,b<W.heap.size->W'.heap[b]?=W.heap[b]?
noncomputable def prm(W:World):ig:={P:=Try.prog,tG:=143,tZ:=72,tR:=4,tW:=107,os0:=W.os,ac8:=W.output,Post:=fun v W'=>v=.bool true/\Kept W W'}
theorem EY:Try.prog.globals.size=0:=by kernel_rfl
theorem ag6{W:World}{num:Nat}{K:List (Nat×Obj)}{st:St aJ}(hA:jX 0 num K st)(hs:∀b o,(b,o)∈Aa W->(b,o)∈K)(hI:Inv (prm W) st):Kept W st.w:=by
 have hblk:∀b,b<W.heap.size->st.w.heap[b]?=W.heap[b]?:=fun b hb=>by
  have h1:W.heap[b]?=some W.heap[b]:=Array.getElem?_eq_getElem hb;rw[h1];exact(hA.fz _ _ (hs b _ (jI.2 h1))).1
 refine⟨hI.base.os,hI.base.out,?_,hblk⟩;rcases Nat.lt_or_ge st.w.heap.size W.heap.size with h|h
 ·have h1:=hblk st.w.heap.size h;rw[Array.getElem?_eq_none (Nat.le_refl _),Array.getElem?_eq_getElem h]at h1;cases h1
 ·exact h
theorem yL{w:World}{b off:Nat}{v:Value}(h:w.cell? ⟨b,off,none⟩=some v):∃C e fz,w.heap[b]?=some (.cells C e fz)/\C[off]?=some v:=by
 have hlt:=World.block_lt_of_cell? w _ h;have hb:w.heap[b]?=some w.heap[b]:=Array.getElem?_eq_getElem hlt;unfold World.cell? at h;rw[hb]at h;generalize w.heap[b]=ob at hb h;cases ob with
 |cells C e fz=>exact⟨C,e,fz,hb,by simpa using h⟩
 |_=>simp at h
theorem Xw{k:IntKind}{W:World}{A:Option Addr}{c:Nat}{l:List Int}(h:Nums k W W.heap.size (.slice A l.length c) l)(hs:Zp (Aa W) A):kQ (Aa W) k A c l:=by
 obtain⟨A',c',hv,hc,h⟩:=h;cases hv;refine⟨hc,hs,fun hl=>?_⟩;obtain⟨b,off,rfl,hb,hcell⟩:=h hl;obtain⟨C,e,fz,h1,h2⟩:=yL (hcell 0 hl);refine⟨b,off,rfl,C,e,fz,jI.2 h1,fun i hi=>?_⟩;obtain⟨C',e',fz',h3,h4⟩:=yL (hcell i hi);rw[h1]at h3;cases h3;exact h4
end qI
namespace Cc
open Go.Conc
def OkM(m:Mark):Prop:=m≠ .disable/\m≠ .enable
def OkH:Halt->Prop
 |.goexit|.waiting=>False
 |_=>True
def NM{α:Type}(wr:Bool):Sem α->Prop
 |.pure _=>True
 |.load _ _ k=>∀v,NM wr (k v)
 |.store _ _ _ k=>wr=true/\NM wr k
 |.new _ k=>∀r,NM wr (k r)
 |.shape _ k=>∀s,NM wr (k s)
 |.freeze _ _ k=>wr=true/\NM wr k
 |.frozen _ k=>∀b,NM wr (k b)
 |.getObj _ k=>∀o,NM wr (k o)
 |.setObj _ _ k=>wr=true/\NM wr k
 |.choose _ k=>∀n,NM wr (k n)
 |.sys _ k=>∀r,NM wr (k r)
 |.program k=>∀p,NM wr (k p)
 |.mark m k=>OkM m/\NM wr k
 |.halt h=>OkH h
theorem NM.pure{α:Type}{wr:Bool}(a:α):NM wr (Pure.pure a:Sem α):=trivial
class Nm{α:Type}(wr:Bool)(x:Sem α):Prop where
 out:NM wr x
instance{α:Type}(wr:Bool)(a:α):Nm wr (Pure.pure a:Sem α):=⟨trivial⟩
instance{α:Type}(wr:Bool)(h:String):Nm wr (stuck h:Sem α):=⟨trivial⟩
instance{α:Type}(wr:Bool)(h:Unsupported):Nm wr (unsupported h:Sem α):=⟨trivial⟩
instance{α:Type}(wr:Bool)(h:Value):Nm wr (goPanic h:Sem α):=⟨trivial⟩
theorem NM.bind{α β:Type}{wr:Bool}{x:Sem α}{f:α->Sem β}(h:NM wr x)(k:∀a,NM wr (f a)):NM wr (x>>=f):=by
 show NM wr (Sem.bind x f)
 induction x with
 |pure a=>exact k a
 |load m a c ih=>exact fun v=>ih v (h v)
 |store m a v c ih=>exact⟨h.1,ih h.2⟩
 |new o c ih=>exact fun v=>ih v (h v)
 |shape r c ih=>exact fun v=>ih v (h v)
 |freeze a n c ih=>exact⟨h.1,ih h.2⟩
 |frozen a c ih=>exact fun v=>ih v (h v)
 |getObj r c ih=>exact fun v=>ih v (h v)
 |setObj r o c ih=>exact⟨h.1,ih h.2⟩
 |choose q c ih=>exact fun v=>ih v (h v)
 |sys q c ih=>exact fun v=>ih v (h v)
 |program c ih=>exact fun v=>ih v (h v)
 |mark m c ih=>exact⟨h.1,ih h.2⟩
 |halt h'=>exact h
theorem NM.ite{α:Type}{wr:Bool}{c:Prop} [Decidable c]{a b:Sem α}(h1:NM wr a)(h2:NM wr b):NM wr (if c then a else b):=by
 by_cases h:c
 ·rw[if_pos h];exact h1
 ·rw[if_neg h];exact h2
theorem NG{P:Program}{w:World}{a:Addr}{b:Bool}{h:Halt}(e:w.farLoad P a b=.error h\/∃v,w.farStore P a v b=.error h):OkH h:=by
 have nc:∀s,OkH (w.noCell a s):=fun s=>by unfold World.noCell;split<;>trivial
 rcases e with e|⟨v,e⟩
 ·unfold World.farLoad at e;split at e
  ·split at e
   ·cases e
   ·cases e;trivial
  ·cases e;exact nc _
 ·unfold World.farStore at e;split at e
  ·split at e
   ·cases e
   ·cases e;trivial
  ·cases e;exact nc _
def Lv{α:Type}(P:Program):Sem α->Nat->Nat->Prop
 |.pure _,d,d'=>d=d'
 |.load _ _ k,d,d'=>∀v,Lv P (k v) d d'
 |.store _ _ _ k,d,d'=>Lv P k d d'
 |.new _ k,d,d'=>∀r,Lv P (k r) d d'
 |.shape _ k,d,d'=>∀s,Lv P (k s) d d'
 |.freeze _ _ k,d,d'=>Lv P k d d'
 |.frozen _ k,d,d'=>∀b,Lv P (k b) d d'
 |.getObj _ k,d,d'=>∀o,Lv P (k o) d d'
 |.setObj _ _ k,d,d'=>Lv P k d d'
 |.choose _ k,d,d'=>∀n,Lv P (k n) d d'
 |.sys _ k,d,d'=>∀r,Lv P (k r) d d'
 |.program k,d,d'=>Lv P (k P) d d'
 |.mark .disable k,d,d'=>Lv P k (d+1) d'
 |.mark .enable k,d,d'=>Lv P k (d-1) d'
 |.mark _ k,d,d'=>Lv P k d d'
 |.halt h,_,_=>OkH h
theorem NM.lv{α:Type}{P:Program}{wr:Bool}{x:Sem α}(h:NM wr x)(d:Nat):Lv P x d d:=by
 induction x with
 |pure a=>exact(rfl:d=d)
 |load m a c ih=>exact fun v=>ih v (h v)
 |store m a v c ih=>exact ih h.2
 |new o c ih=>exact fun v=>ih v (h v)
 |shape r c ih=>exact fun v=>ih v (h v)
 |freeze a n c ih=>exact ih h.2
 |frozen a c ih=>exact fun v=>ih v (h v)
 |getObj r c ih=>exact fun v=>ih v (h v)
 |setObj r o c ih=>exact ih h.2
 |choose q c ih=>exact fun v=>ih v (h v)
 |sys q c ih=>exact fun v=>ih v (h v)
 |program c ih=>exact ih P (h P)
 |mark m c ih=>
  have:=ih h.2;cases m<;>first
   |exact this
   |exact absurd rfl h.1.1
   |exact absurd rfl h.1.2
 |halt h'=>exact h
theorem Lv.bind{α β:Type}{P:Program}{x:Sem α}{f:α->Sem β}{d₁ d₂:Nat}:∀{d:Nat},Lv P x d d₁->(∀a,Lv P (f a) d₁ d₂)->Lv P (x>>=f) d d₂:=by
 show∀{d:Nat},Lv P x d d₁->(∀a,Lv P (f a) d₁ d₂)->Lv P (Sem.bind x f) d d₂
 induction x with
 |pure a=>intro d h k;cases h;exact k a
 |load m a c ih=>exact fun h k v=>ih v (h v) k
 |store m a v c ih=>exact fun h k=>ih h k
 |new o c ih=>exact fun h k v=>ih v (h v) k
 |shape r c ih=>exact fun h k v=>ih v (h v) k
 |freeze a n c ih=>exact fun h k=>ih h k
 |frozen a c ih=>exact fun h k v=>ih v (h v) k
 |getObj r c ih=>exact fun h k v=>ih v (h v) k
 |setObj r o c ih=>exact fun h k=>ih h k
 |choose q c ih=>exact fun h k v=>ih v (h v) k
 |sys q c ih=>exact fun h k v=>ih v (h v) k
 |program c ih=>exact fun h k=>ih P h k
 |mark m c ih=>intro d h k;cases m<;>exact ih h k
 |halt h'=>exact fun h _=>h
def Zo(e:Event):Prop:=e.sync=true\/∀m,e.loc≠ .mark m
theorem deaf_push(d:Nat)(es:Array Event)(e:Event):deafBehind d (es.push e)=deafBehind (deafBehind d es) #[e]:=by
 unfold deafBehind;simp
theorem tJ(d:Nat){e:Event}(h:∀m,e.loc≠ .mark m):deafBehind d #[e]=d:=by
 obtain⟨l,w,s⟩:=e;cases l<;>first|rfl|exact absurd rfl (h _)
theorem Lv.run{α:Type}{P:Program}{x:Sem α}{d₀ d':Nat}:∀{d:Nat} {w:World} {es:Array Event},Lv P x d d'->deafBehind d₀ es=d->(∀e∈es,Zo e)->
  (∀a w',(x.runT P w es).1=.ok a w'->deafBehind d₀ (x.runT P w es).2=d'/\∀e∈(x.runT P w es).2,Zo e)/\(∀h w',(x.runT P w es).1=.halt h w'->OkH h):=by
 have pu:∀{es:Array Event} {e0:Event},Zo e0->(∀e∈es,Zo e)->∀e∈es.push e0,Zo e:=fun h0 h e he=>by
  rcases Array.mem_push.1 he with h1|rfl
  ·exact h e h1
  ·exact h0
 have ap:∀{es:Array Event} {l:List Addr} {b c:Bool},(∀e∈es,Zo e)->∀e∈es++l.toArray.map (fun a=>(⟨.cell a,b,c⟩:Event)),Zo e:=fun h e he=>by
  rcases Array.mem_append.1 he with h1|h1
  ·exact h e h1
  ·obtain⟨a,_,rfl⟩:=Array.mem_map.1 h1;exact .inr fun m=>by simp
 have apd:∀{es:Array Event} {l:List Addr} {b c:Bool} {d:Nat},deafBehind d₀ es=d->deafBehind d₀ (es++l.toArray.map (fun a=>(⟨.cell a,b,c⟩:Event)))=d:=fun{es l b c d} h=>by
  subst h
  induction l generalizing es with
  |nil=>simp
  |cons a l ih=>
   have e:es++(a::l).toArray.map (fun a=>(⟨.cell a,b,c⟩:Event))=es.push ⟨.cell a,b,c⟩++l.toArray.map (fun a=>(⟨.cell a,b,c⟩:Event)):=by simp
   rw[e,ih,deaf_push,tJ _ (fun m=>by simp)]
 have pd:∀{es:Array Event} {e0:Event} {d:Nat},(∀m,e0.loc≠ .mark m)->deafBehind d₀ es=d->deafBehind d₀ (es.push e0)=d:=fun h hd=>by rw[deaf_push,tJ _ h,hd]
 induction x with
 |pure a=>intro d w es h hd hes;exact⟨fun a1 w1 _=>⟨hd.trans h,hes⟩,fun h1 w1 e=>by cases e⟩
 |load m a c ih=>
  intro d w es h hd hes;cases hc:w.cell? a with
  |some v=>simp only[Sem.runT,hc];exact ih _ (h _) (pd (fun m=>by simp) hd) (pu (.inr fun m=>by simp) hes)
  |none=>
   cases hf:w.farLoad P a (m== .atomic)with
   |error e=>
    simp only[Sem.runT,hc,hf];refine⟨fun _ _ e=>(by cases e),fun h' w' e=>?_⟩;cases e;exact NG (.inl hf)
   |ok p=>obtain⟨v,t⟩:=p;simp only[Sem.runT,hc,hf];exact ih _ (h _) (apd hd) (ap hes)
 |store m a v c ih=>
  intro d w es h hd hes;have main:∀v:Value,(Sem.store m a v c).runT P w es=(match w.cell? a with
    |some _=>if w.frozen? a then(Result.halt (.unsupported (.unsafePointer "a write to bytes that a string shares")) w,es)else c.runT P (w.setCell a v) (es.push ⟨.cell a,true,m== .atomic⟩)
    |none=>match w.farStore P a v (m== .atomic)with
     |.ok (w,touched)=>c.runT P w (es++touched.toArray.map (⟨.cell ·,true,m== .atomic⟩))
     |.error h=>(.halt h w,es))->(∀x w',((Sem.store m a v c).runT P w es).1=.ok x w'->deafBehind d₀ ((Sem.store m a v c).runT P w es).2=d'/\∀e∈((Sem.store m a v c).runT P w es).2,Zo e)/\(∀h w',((Sem.store m a v c).runT P w es).1=.halt h w'->OkH h):=fun v e=>by
   rw[e];cases hc:w.cell? a with
   |some x=>
    dsimp only;split
    ·exact⟨fun _ _ e=>(by cases e),fun h' w' e=>by cases e;trivial⟩
    ·exact ih h (pd (fun m=>by simp) hd) (pu (.inr fun m=>by simp) hes)
   |none=>
    dsimp only;cases hf:w.farStore P a v (m== .atomic)with
    |error e=>exact⟨fun _ _ e=>(by cases e),fun h' w' e=>by cases e;exact NG (.inr ⟨_,hf⟩)⟩
    |ok p=>obtain⟨v,t⟩:=p;exact ih h (apd hd) (ap hes)
  cases v<;>first
   |(simp only[Sem.runT];exact⟨fun _ _ e=>(by cases e),fun h' w' e=>by cases e;trivial⟩)
   |exact main _ rfl
 |new o c ih=>intro d w es h hd hes;exact ih _ (h _) hd hes
 |shape r c ih=>intro d w es h hd hes;exact ih _ (h _) hd hes
 |freeze a n c ih=>intro d w es h hd hes;exact ih h hd hes
 |frozen a c ih=>intro d w es h hd hes;exact ih _ (h _) hd hes
 |getObj r c ih=>
  intro d w es h hd hes;cases ho:w.heap[r]? with
  |none=>simp only[Sem.runT,ho];exact⟨fun _ _ e=>(by cases e),fun h' w' e=>by cases e;trivial⟩
  |some o=>cases o<;>(simp only[Sem.runT,ho];first|exact⟨fun _ _ e=>(by cases e),fun h' w' e=>by cases e;trivial⟩|exact ih _ (h _) (pd (fun m=>by simp) hd) (pu (.inr fun m=>by simp) hes))
 |setObj r o c ih=>
  intro d w es h hd hes;cases ho:w.heap[r]? with
  |none=>simp only[Sem.runT,ho];exact⟨fun _ _ e=>(by cases e),fun h' w' e=>by cases e;trivial⟩
  |some o=>cases o<;>(simp only[Sem.runT,ho];first|exact⟨fun _ _ e=>(by cases e),fun h' w' e=>by cases e;trivial⟩|exact ih h (pd (fun m=>by simp) hd) (pu (.inr fun m=>by simp) hes))
 |choose q c ih=>
  intro d w es h hd hes;unfold Sem.runT;split
  ·exact ih _ (h _) hd hes
  ·exact ih _ (h _) hd hes
 |sys q c ih=>intro d w es h hd hes;exact ih _ (h _) (pd (fun m=>by simp) hd) (pu (.inr fun m=>by simp) hes)
 |program c ih=>intro d w es h hd hes;exact ih P h hd hes
 |mark m c ih=>
  intro d w es h hd hes;cases m with
  |disable=>exact ih h (by rw[deaf_push,hd];rfl) (pu (.inl rfl) hes)
  |enable=>exact ih h (by rw[deaf_push,hd];rfl) (pu (.inl rfl) hes)
  |_=>exact ih h (by rw[deaf_push,hd];rfl) (pu (.inl rfl) hes)
 |halt h=>
  intro d w es hh hd hes;exact⟨fun _ _ e=>(by cases e),fun h' w' e=>by cases e;exact hh⟩
theorem Hw{P:Program}{fn:FuncId}{es:Array Event}(h:∀e∈es,Zo e)(d:Nat):deafBehind d (seen P fn es)=deafBehind d es:=by
 obtain⟨l⟩:=es;have h:∀e∈l,Zo e:=fun e he=>h e (by simpa using he)
 have key:∀(quiet:FuncId->Bool) (l:List Event) (q:Bool) (kept:Array Event) (d₁:Nat),(∀e∈l,Zo e)->deafBehind d kept=d₁->
   deafBehind d (l.foldl (seenStep quiet) (q,kept)).2=deafBehind d₁ l.toArray:=by
  intro quiet l
  induction l with
  |nil=>intro q kept d₁ _ hk;simpa [deafBehind]using hk
  |cons e l ih=>
   intro q kept d₁ hl hk;have e1:deafBehind d₁ (e::l).toArray=deafBehind (deafBehind d₁ #[e]) l.toArray:=by simp[deafBehind]
   rw[List.foldl_cons,e1];have hx:(deafBehind d₁ #[e]=d₁/\∃b,seenStep quiet (q,kept) e=(b,kept))\/seenStep quiet (q,kept) e=(q,if q&& !e.sync then kept else kept.push e):=by
    unfold seenStep;dsimp only;split
    ·rename_i hf;exact .inl ⟨by simp[deafBehind,hf],_,rfl⟩
    ·exact .inr rfl
   rcases hx with⟨this,b,st⟩|st
   ·rw[this,st];exact ih _ _ _ (fun x hx=>hl x (by simp[hx])) hk
   ·rw[st];refine ih _ _ _ (fun x hx=>hl x (by simp[hx])) ?_;rcases hl e (by simp)with hs|hm
    ·rw[hs];simp only[Bool.not_true,Bool.and_false];rw[if_neg (by simp),deaf_push,hk]
    ·rw[tJ _ hm];split
     ·exact hk
     ·rw[deaf_push,hk,tJ _ hm]
 rw[seen_def];exact key _ l _ #[] d h rfl
def oJ(w w':World):Prop:=w.heap.size<=w'.heap.size/\∀b,b<w.heap.size->w'.heap[b]?=w.heap[b]?
theorem oJ.refl(w:World):oJ w w:=⟨Nat.le_refl _,fun _ _=>rfl⟩
theorem oJ.trans{a b c:World}(h:oJ a b)(k:oJ b c):oJ a c:=⟨Nat.le_trans h.1 k.1,fun i hi=>(k.2 i (Nat.lt_of_lt_of_le hi h.1)).trans (h.2 i hi)⟩
theorem oJ.new(w:World)(o:Obj):oJ w {w with heap:=w.heap.push o}:=⟨by simp,fun b hb=>by
 show(w.heap.push o)[b]?=_;rw[Array.getElem?_push,if_neg (by omega)]⟩
theorem NM.ext{α:Type}{P:Program}{x:Sem α}:∀{w:World} {a:α} {w':World},NM false x->x.run P w=.ok a w'->oJ w w':=by
 induction x with
 |pure a=>intro w a' w' _ e;cases e;exact .refl _
 |load m a c ih=>
  intro w a' w' h e;simp only[Sem.run]at e;split at e
  ·exact ih _ (h _) e
  ·split at e
   ·exact ih _ (h _) e
   ·cases e
 |store m a v c ih=>intro w a' w' h e;exact absurd h.1 (by simp)
 |new o c ih=>intro w a' w' h e;exact(oJ.new w o).trans (ih _ (h _) e)
 |shape r c ih=>intro w a' w' h e;exact ih _ (h _) e
 |freeze a n c ih=>intro w a' w' h e;exact absurd h.1 (by simp)
 |frozen a c ih=>intro w a' w' h e;exact ih _ (h _) e
 |getObj r c ih=>
  intro w a' w' h e;cases ho:w.heap[r]? with
  |none=>simp only[Sem.run,ho]at e;cases e
  |some o=>cases o<;>(simp only[Sem.run,ho]at e;first|(cases e;done)|exact ih _ (h _) e)
 |setObj r o c ih=>intro w a' w' h e;exact absurd h.1 (by simp)
 |choose q c ih=>
  intro w a' w' h e;simp only[Sem.run]at e;split at e
  ·exact ih _ (h _) e
  ·have:=ih _ (h _) e;exact this
 |sys q c ih=>
  intro w a' w' h e;have hh:(w.sys q).2.heap=w.heap:=by
   unfold World.sys;have key:∀{β:Type} (x:Ask β) (w:World),(w.ask x).2.heap=w.heap:=by
    intro β x
    induction x with
    |done a=>intro w;rfl
    |ask what range k ih=>intro w;unfold World.ask;dsimp only;split<;>exact ih _ _
   have:=key (Kernel.perform q w.os) w;split
   ·rfl
   ·rename_i h1;rw[h1]at this;exact this
  have:=ih _ (h _) e;unfold oJ at this ⊢;rw[hh]at this;exact this
 |program c ih=>intro w a' w' h e;exact ih _ (h _) e
 |mark m c ih=>intro w a' w' h e;exact ih h.2 e
 |halt h'=>intro w a' w' h e;cases e
theorem IZ{α β:Type}{wr:Bool}{f:α->β->Sem (ForInStep β)}(h:∀a b,NM wr (f a b)):∀(l:List α) (b:β),NM wr (forIn l b f)
 |[],b=>by simp only[List.forIn_nil];exact NM.pure b
 |a::l,b=>by
  simp only[List.forIn_cons];refine NM.bind (h a b) fun s=>?_
  cases s with
  |done b=>exact NM.pure b
  |yield b=>exact IZ h l b
theorem ED{α β:Type}{wr:Bool}{f:α->β->Sem (ForInStep β)}(h:∀a b,NM wr (f a b))(l:Array α)(b:β):NM wr (forIn l b f):=by
 rw[<-Array.forIn_toList];exact IZ h _ b
theorem Ez{β:Type}{wr:Bool}{f:Nat->β->Sem (ForInStep β)}(h:∀a b,NM wr (f a b))(l:Std.Legacy.Range)(b:β):NM wr (forIn l b f):=by
 rw[Std.Legacy.Range.forIn_eq_forIn_range'];exact IZ h _ b
theorem Rn{α β:Type}{wr:Bool}{f:α->Sem β}(h:∀a,NM wr (f a)):∀l:List α,NM wr (l.mapM f)
 |[]=>by simp only[List.mapM_nil];exact NM.pure _
 |a::l=>by
  simp only[List.mapM_cons];exact NM.bind (h a) fun _=>NM.bind (Rn h l) fun _=>NM.pure _
theorem Ro{α β:Type}{wr:Bool}{f:α->Sem β}(h:∀a,NM wr (f a))(l:Array α):NM wr (l.mapM f):=by
 rw[Array.mapM_eq_mapM_toList];exact NM.bind (Rn h _) fun _=>NM.pure _
theorem bx2{α β:Type}{wr:Bool}{x:Sem α}{f:α->β}(h:NM wr x):NM wr (Functor.map f x):=NM.bind h fun _=>NM.pure _
section
instance bq2(wr:Bool)(a:Addr)(m:Mode):Nm wr (load a m):=⟨fun _=>trivial⟩
instance aZ9(a:Addr)(v:Value)(m:Mode):Nm true (store a v m):=⟨⟨rfl,trivial⟩⟩
instance aT7(wr:Bool)(o:Obj):Nm wr (newObj o):=⟨fun _=>trivial⟩
instance a01(wr:Bool)(r:Nat):Nm wr (shape r):=⟨fun _=>trivial⟩
instance aU4(a:Addr)(n:Nat):Nm true (freeze a n):=⟨⟨rfl,trivial⟩⟩
instance aU3(wr:Bool)(a:Addr):Nm wr (frozen a):=⟨fun _=>trivial⟩
instance aU2(wr:Bool)(r:Nat):Nm wr (getObj r):=⟨fun _=>trivial⟩
instance aT1(r:Nat)(o:Obj):Nm true (setObj r o):=⟨⟨rfl,trivial⟩⟩
instance aU6(wr:Bool)(q:Question):Nm wr (choose q):=⟨fun _=>trivial⟩
instance bw9(wr:Bool)(q:Sys):Nm wr (sys q):=⟨fun _=>trivial⟩
instance aC4(wr:Bool):Nm wr program:=⟨fun _=>trivial⟩
instance aT4(wr:Bool):Nm wr (mark .noRoom):=⟨⟨⟨by simp,by simp⟩,trivial⟩⟩
instance aD8(wr:Bool)(n:Nat):Nm wr (askRoom n):=⟨by
 unfold askRoom
 repeat' (first|exact Nm.out|assumption|(refine NM.bind ?_ fun _=>?_)|(refine NM.ite ?_ ?_)|split|(intro _)|dsimp only)⟩
instance aS9(wr:Bool)(r:Nat):Nm wr (viewAt r):=⟨by
 unfold viewAt
 repeat' (first|exact Nm.out|assumption|(refine NM.bind ?_ fun _=>?_)|(refine NM.ite ?_ ?_)|split|(intro _)|dsimp only)⟩
instance ap5(wr:Bool)(r:Nat):Nm wr (numberAt r):=⟨by
 unfold numberAt
 repeat' (first|exact Nm.out|assumption|(refine NM.bind ?_ fun _=>?_)|(refine NM.ite ?_ ?_)|split|(intro _)|dsimp only)⟩
instance aD6(wr:Bool)(r:Nat):Nm wr (cellsIn r):=⟨by
 unfold cellsIn
 repeat' (first|exact Nm.out|assumption|(refine NM.bind ?_ fun _=>?_)|(refine NM.ite ?_ ?_)|split|(intro _)|dsimp only)⟩
instance aq1(wr:Bool)(a:Addr)(b:Bool):Nm wr (asNumber a b):=⟨by
 unfold asNumber
 repeat' (first|exact Nm.out|assumption|(refine NM.bind ?_ fun _=>?_)|(refine NM.ite ?_ ?_)|split|(intro _)|dsimp only)⟩
instance V4(wr:Bool)(a:Addr):Nm wr (behindNumber a):=⟨by
 unfold behindNumber
 repeat' (first|exact Nm.out|assumption|(refine NM.bind ?_ fun _=>?_)|(refine NM.ite ?_ ?_)|split|(intro _)|dsimp only)⟩
instance aT3(wr:Bool)(a:Addr):Nm wr (noView a):=⟨by
 unfold noView
 repeat' (first|exact Nm.out|assumption|(refine NM.bind ?_ fun _=>?_)|(refine NM.ite ?_ ?_)|split|(intro _)|dsimp only)⟩
instance UQ(a:Addr):Nm true (markStringish a):=⟨by
 unfold markStringish
 repeat' (first|exact Nm.out|assumption|(refine NM.bind ?_ fun _=>?_)|(refine NM.ite ?_ ?_)|split|(intro _)|dsimp only)⟩
instance ad6(wr:Bool)(a:Addr):Nm wr (stringish a):=⟨by
 unfold stringish
 repeat' (first|exact Nm.out|assumption|(refine NM.bind ?_ fun _=>?_)|(refine NM.ite ?_ ?_)|split|(intro _)|dsimp only)⟩
instance ap7(wr:Bool)(a b:Addr):Nm wr (mayBeOne a b):=⟨by
 unfold mayBeOne
 repeat' (first|exact Nm.out|assumption|(refine NM.bind ?_ fun _=>?_)|(refine NM.ite ?_ ?_)|split|(intro _)|dsimp only)⟩
instance ap2(wr:Bool)(a b:Addr):Nm wr (sameAddr a b):=⟨by
 unfold sameAddr
 repeat' (first|exact Nm.out|assumption|(refine NM.bind ?_ fun _=>?_)|(refine NM.ite ?_ ?_)|split|(intro _)|dsimp only)⟩
instance Xz(wr:Bool)(a b:Option Addr):Nm wr (samePointer a b):=⟨by
 unfold samePointer
 repeat' (first|exact Nm.out|assumption|(refine NM.bind ?_ fun _=>?_)|(refine NM.ite ?_ ?_)|split|(intro _)|dsimp only)⟩
instance ao8(wr:Bool)(t:TypeId):Nm wr (typeInfo t):=⟨by
 unfold typeInfo
 repeat' (first|exact Nm.out|assumption|(refine NM.bind ?_ fun _=>?_)|(refine NM.ite ?_ ?_)|split|(intro _)|dsimp only)⟩
instance ZM(wr:Bool)(t:TypeId):Nm wr (underlying t):=⟨by
 unfold underlying
 repeat' (first|exact Nm.out|assumption|(refine NM.bind ?_ fun _=>?_)|(refine NM.ite ?_ ?_)|split|(intro _)|dsimp only)⟩
instance aC0(wr:Bool)(t:TypeId):Nm wr (typeStr t):=⟨by
 unfold typeStr
 repeat' (first|exact Nm.out|assumption|(refine NM.bind ?_ fun _=>?_)|(refine NM.ite ?_ ?_)|split|(intro _)|dsimp only)⟩
instance ad3(wr:Bool)(t:TypeId):Nm wr (zeroValue t):=⟨by
 unfold zeroValue
 repeat' (first|exact Nm.out|assumption|(refine NM.bind ?_ fun _=>?_)|(refine NM.ite ?_ ?_)|split|(intro _)|dsimp only)⟩
instance aT0(wr:Bool)(t:TypeId):Nm wr (sizeOf t):=⟨by
 unfold sizeOf
 repeat' (first|exact Nm.out|assumption|(refine NM.bind ?_ fun _=>?_)|(refine NM.ite ?_ ?_)|split|(intro _)|dsimp only)⟩
instance a03(wr:Bool)(t:TypeId):Nm wr (isAgg t):=⟨by
 unfold isAgg
 repeat' (first|exact Nm.out|assumption|(refine NM.bind ?_ fun _=>?_)|(refine NM.ite ?_ ?_)|split|(intro _)|dsimp only)⟩
theorem zn{wr:Bool}(a:Addr):∀(n i:Nat) (acc:Array Value),NM wr (loadCellsFrom a i n acc)
 |0,i,acc=>by unfold loadCellsFrom;exact NM.pure _
 |n+1,i,acc=>by unfold loadCellsFrom;exact NM.bind Nm.out fun _=>zn a n _ _
instance(wr:Bool)(a:Addr)(n i:Nat)(acc:Array Value):Nm wr (loadCellsFrom a i n acc):=⟨zn a n i acc⟩
theorem Ey(a:Addr):∀(vs:List Value) (i:Nat),NM true (storeCells a vs i)
 |[],i=>by unfold storeCells;exact NM.pure _
 |v::vs,i=>by unfold storeCells;exact NM.bind Nm.out fun _=>Ey a vs _
instance(a:Addr)(vs:List Value)(i:Nat):Nm true (storeCells a vs i):=⟨Ey a vs i⟩
instance ad9(wr:Bool)(a:Addr)(n:Nat):Nm wr (loadCells a n):=⟨by
 unfold loadCells
 repeat' (first|exact Nm.out|assumption|(refine NM.bind ?_ fun _=>?_)|(refine NM.ite ?_ ?_)|split|(intro _)|dsimp only)⟩
instance aC7(wr:Bool)(t:TypeId)(a:Addr):Nm wr (loadVar t a):=⟨by
 unfold loadVar
 repeat' (first|exact Nm.out|assumption|(refine NM.bind ?_ fun _=>?_)|(refine NM.ite ?_ ?_)|split|(intro _)|dsimp only)⟩
instance ap1(t:TypeId)(a:Addr)(v:Value):Nm true (storeVar t a v):=⟨by
 unfold storeVar
 repeat' (first|exact Nm.out|assumption|(refine NM.bind ?_ fun _=>?_)|(refine NM.ite ?_ ?_)|split|(intro _)|dsimp only)⟩
instance aT6(wr:Bool)(t:TypeId)(c:Array Value):Nm wr (newRow t c):=⟨by
 unfold newRow
 repeat' (first|exact Nm.out|assumption|(refine NM.bind ?_ fun _=>?_)|(refine NM.ite ?_ ?_)|split|(intro _)|dsimp only)⟩
instance aT5(wr:Bool)(t:TypeId)(v:Value):Nm wr (newVar t v):=⟨by
 unfold newVar
 repeat' (first|exact Nm.out|assumption|(refine NM.bind ?_ fun _=>?_)|(refine NM.ite ?_ ?_)|split|(intro _)|dsimp only)⟩
instance aU5(wr:Bool)(t:TypeId):Nm wr (elemOf t):=⟨by
 unfold elemOf
 repeat' (first|exact Nm.out|assumption|(refine NM.bind ?_ fun _=>?_)|(refine NM.ite ?_ ?_)|split|(intro _)|dsimp only)⟩
instance bq0(wr:Bool)(t:TypeId)(c:Array Value)(n:Nat):Nm wr (part t c n):=⟨by
 unfold part
 repeat' (first|exact Nm.out|assumption|(refine NM.bind ?_ fun _=>?_)|(refine NM.ite ?_ ?_)|split|(intro _)|dsimp only)⟩
instance{α:Type}(wr:Bool)(e:RuntimeError):Nm wr (runtimePanic e:Sem α):=⟨by
 unfold runtimePanic;repeat' (first|exact Nm.out|assumption|(refine NM.bind ?_ fun _=>?_)|(refine NM.ite ?_ ?_)|split|(intro _)|dsimp only)⟩
instance{α:Type}(wr:Bool)(k:IntKind)(x y:Int)(c:BoundsCode):Nm wr (boundsPanic k x y c:Sem α):=⟨by
 unfold boundsPanic;repeat' (first|exact Nm.out|assumption|exact bx2 Nm.out|(refine NM.bind ?_ fun _=>?_)|(refine NM.ite ?_ ?_)|split|(intro _)|dsimp only)⟩
instance aD9(wr:Bool)(v:Value):Nm wr (asIntOf v):=⟨by
 unfold asIntOf
 repeat' (first|exact Nm.out|assumption|(refine NM.bind ?_ fun _=>?_)|(refine NM.ite ?_ ?_)|split|(intro _)|dsimp only)⟩
instance a13(wr:Bool)(v:Value):Nm wr (asInt v):=⟨by
 unfold asInt
 repeat' (first|exact Nm.out|assumption|(refine NM.bind ?_ fun _=>?_)|(refine NM.ite ?_ ?_)|split|(intro _)|dsimp only)⟩
instance aU8(wr:Bool)(v:Value):Nm wr (asBool v):=⟨by
 unfold asBool
 repeat' (first|exact Nm.out|assumption|(refine NM.bind ?_ fun _=>?_)|(refine NM.ite ?_ ?_)|split|(intro _)|dsimp only)⟩
instance a14(wr:Bool)(v:Value):Nm wr (asAgg v):=⟨by
 unfold asAgg
 repeat' (first|exact Nm.out|assumption|(refine NM.bind ?_ fun _=>?_)|(refine NM.ite ?_ ?_)|split|(intro _)|dsimp only)⟩
instance aU9(wr:Bool)(v:Value):Nm wr (asAddr v):=⟨by
 unfold asAddr
 repeat' (first|exact Nm.out|assumption|(refine NM.bind ?_ fun _=>?_)|(refine NM.ite ?_ ?_)|split|(intro _)|dsimp only)⟩
instance ao9(wr:Bool)(v:Value):Nm wr (Instr.sureAddr v):=⟨by
 unfold Instr.sureAddr
 repeat' (first|exact Nm.out|assumption|(refine NM.bind ?_ fun _=>?_)|(refine NM.ite ?_ ?_)|split|(intro _)|dsimp only)⟩
instance aU7(wr:Bool)(a:Addr):Nm wr (byteOf a):=⟨by
 unfold byteOf
 repeat' (first|exact Nm.out|assumption|(refine NM.bind ?_ fun _=>?_)|(refine NM.ite ?_ ?_)|split|(intro _)|dsimp only)⟩
instance ZT(wr:Bool)(a:Addr)(f:Field):Nm wr (fieldPlace a f):=⟨by
 unfold fieldPlace
 repeat' (first|exact Nm.out|assumption|(refine NM.bind ?_ fun _=>?_)|(refine NM.ite ?_ ?_)|split|(intro _)|dsimp only)⟩
instance Xy(wr:Bool)(a:Addr)(u:TypeId)(n:Nat):Nm wr (variablesAt a u n):=⟨by
 unfold variablesAt
 repeat' (first|exact Nm.out|assumption|(refine NM.bind ?_ fun _=>?_)|(refine NM.ite ?_ ?_)|split|(intro _)|dsimp only)⟩
instance a18(wr:Bool)(t:TypeId)(v:Value):Nm wr (Instr.alloc t true v):=⟨by
 unfold Instr.alloc
 repeat' (first|exact Nm.out|assumption|(refine NM.bind ?_ fun _=>?_)|(refine NM.ite ?_ ?_)|split|(intro _)|dsimp only)⟩
instance aT9(wr:Bool)(t:TypeId)(v:Value):Nm wr (Instr.loadAt t v):=⟨by
 unfold Instr.loadAt
 repeat' (first|exact Nm.out|assumption|(refine NM.bind ?_ fun _=>?_)|(refine NM.ite ?_ ?_)|split|(intro _)|dsimp only)⟩
instance aC2(t:TypeId)(v x:Value):Nm true (Instr.storeAt t v x):=⟨by
 unfold Instr.storeAt
 repeat' (first|exact Nm.out|assumption|(refine NM.bind ?_ fun _=>?_)|(refine NM.ite ?_ ?_)|split|(intro _)|dsimp only)⟩
instance aD1(wr:Bool)(t:TypeId)(v:Value)(n:Nat):Nm wr (Instr.fieldAt t v n):=⟨by
 unfold Instr.fieldAt
 repeat' (first|exact Nm.out|assumption|(refine NM.bind ?_ fun _=>?_)|(refine NM.ite ?_ ?_)|split|(intro _)|dsimp only)⟩
instance aC9(wr:Bool)(t:TypeId)(v x:Value):Nm wr (Instr.indexAt t v x):=⟨by
 unfold Instr.indexAt
 repeat' (first|exact Nm.out|assumption|(refine NM.bind ?_ fun _=>?_)|(refine NM.ite ?_ ?_)|split|(intro _)|dsimp only)⟩
instance bx4(wr:Bool)(t:TypeId)(v:Value):Nm wr (Instr.box t v):=⟨by
 unfold Instr.box
 repeat' (first|exact Nm.out|assumption|(refine NM.bind ?_ fun _=>?_)|(refine NM.ite ?_ ?_)|split|(intro _)|dsimp only)⟩
instance a08(wr:Bool)(t:TypeId)(p:Array (Nat×Value)):Nm wr (Instr.build t p):=⟨by
 unfold Instr.build
 repeat' (first|exact Nm.out|assumption|exact Ro (fun f=>NM.bind Nm.out fun _=>Nm.out) _|(refine NM.bind ?_ fun _=>?_)|(refine NM.ite ?_ ?_)|split|(intro _)|dsimp only)⟩
instance ZU(wr:Bool)(t:TypeId)(n:Nat)(p:Array (Nat×Value)):Nm wr (Instr.buildSlice t n p):=⟨by
 unfold Instr.buildSlice
 repeat' (first|exact Nm.out|assumption|(refine NM.bind ?_ fun _=>?_)|(refine NM.ite ?_ ?_)|split|(intro _)|dsimp only)⟩
instance aC6(wr:Bool)(t:TypeId)(r:Option Value):Nm wr (Instr.makeMap t r):=⟨by
 unfold Instr.makeMap
 repeat' (first|exact Nm.out|assumption|(refine NM.bind ?_ fun _=>?_)|(refine NM.ite ?_ ?_)|split|(intro _)|dsimp only)⟩
instance ad8(wr:Bool)(t:TypeId)(x y:Value):Nm wr (Instr.makeSlice t x y):=⟨by
 unfold Instr.makeSlice
 repeat' (first|exact Nm.out|assumption|(refine NM.bind ?_ fun _=>?_)|(refine NM.ite ?_ ?_)|split|(intro _)|dsimp only)⟩
instance a05(wr:Bool)(t:TypeId)(x:Value)(n:Nat):Nm wr (Instr.field t x n):=⟨by
 unfold Instr.field
 repeat' (first|exact Nm.out|assumption|(refine NM.bind ?_ fun _=>?_)|(refine NM.ite ?_ ?_)|split|(intro _)|dsimp only)⟩
instance a04(wr:Bool)(t:TypeId)(x y:Value):Nm wr (Instr.index t x y):=⟨by
 unfold Instr.index
 repeat' (first|exact Nm.out|assumption|(refine NM.bind ?_ fun _=>?_)|(refine NM.ite ?_ ?_)|split|(intro _)|dsimp only)⟩
instance aD2(wr:Bool)(x:Value)(n:Nat):Nm wr (Instr.extract x n):=⟨by
 unfold Instr.extract
 repeat' (first|exact Nm.out|assumption|(refine NM.bind ?_ fun _=>?_)|(refine NM.ite ?_ ?_)|split|(intro _)|dsimp only)⟩
theorem PK{wr:Bool}:∀(d:Nat) (t:TypeId) (x y:Value),NM wr (Op.equalIn d t x y)
 |0,t,x,y=>by unfold Op.equalIn;exact Nm.out
 |d+1,t,x,y=>by
  unfold Op.equalIn
  repeat' (first|exact Nm.out|assumption|exact PK d _ _ _|(refine ED (fun _ _=>?_) _ _)|(refine Ez (fun _ _=>?_) _ _)|(refine NM.bind ?_ fun _=>?_)|(refine NM.ite ?_ ?_)|split|(intro _)|dsimp only)
theorem I4{wr:Bool}:∀(d:Nat) (t:TypeId) (x y:Value),NM wr (Op.eqGuardIn d t x y)
 |0,t,x,y=>by unfold Op.eqGuardIn;exact Nm.out
 |d+1,t,x,y=>by
  unfold Op.eqGuardIn
  repeat' (first|exact Nm.out|assumption|exact I4 d _ _ _|(refine ED (fun _ _=>?_) _ _)|(refine Ez (fun _ _=>?_) _ _)|(refine NM.bind ?_ fun _=>?_)|(refine NM.ite ?_ ?_)|split|(intro _)|dsimp only)
instance(wr:Bool)(d:Nat)(t:TypeId)(x y:Value):Nm wr (Op.equalIn d t x y):=⟨PK d t x y⟩
instance(wr:Bool)(d:Nat)(t:TypeId)(x y:Value):Nm wr (Op.eqGuardIn d t x y):=⟨I4 d t x y⟩
instance a06(wr:Bool)(t:TypeId)(x y:Value):Nm wr (Op.equal t x y):=⟨by
 unfold Op.equal
 repeat' (first|exact Nm.out|assumption|(refine NM.bind ?_ fun _=>?_)|(refine NM.ite ?_ ?_)|split|(intro _)|dsimp only)⟩
instance ZQ(wr:Bool)(o:BinOp)(k:FloatKind)(x y:Nat):Nm wr (Op.floatArith o k x y):=⟨by
 unfold Op.floatArith
 repeat' (first|exact Nm.out|assumption|(refine NM.bind ?_ fun _=>?_)|(refine NM.ite ?_ ?_)|split|(intro _)|dsimp only)⟩
instance aq0(wr:Bool)(o:BinOp)(k:FloatKind)(x y:Nat):Nm wr (Op.floatCmp o k x y):=⟨by
 unfold Op.floatCmp
 repeat' (first|exact Nm.out|assumption|(refine NM.bind ?_ fun _=>?_)|(refine NM.ite ?_ ?_)|split|(intro _)|dsimp only)⟩
instance VZ(wr:Bool)(s:FloatKind)(b:Nat)(d:FloatKind):Nm wr (Conv.floatToFloat s b d):=⟨by
 unfold Conv.floatToFloat
 repeat' (first|exact Nm.out|assumption|(refine NM.bind ?_ fun _=>?_)|(refine NM.ite ?_ ?_)|split|(intro _)|dsimp only)⟩
instance a15(wr:Bool)(o:BinOp)(k:FloatKind)(x y:Nat):Nm wr (Op.Complex.arith o k x y):=⟨by
 unfold Op.Complex.arith
 repeat' (first|exact Nm.out|assumption|(refine NM.bind ?_ fun _=>?_)|(refine NM.ite ?_ ?_)|split|(intro _)|dsimp only)⟩
instance bx3(wr:Bool)(o:BinOp)(k:FloatKind)(x y:Nat):Nm wr (Op.Complex.cmp o k x y):=⟨by
 unfold Op.Complex.cmp
 repeat' (first|exact Nm.out|assumption|(refine NM.bind ?_ fun _=>?_)|(refine NM.ite ?_ ?_)|split|(intro _)|dsimp only)⟩
instance bq6(wr:Bool)(s:FloatKind)(b:Nat)(d:FloatKind):Nm wr (Op.Complex.conv s b d):=⟨by
 unfold Op.Complex.conv
 repeat' (first|exact Nm.out|assumption|(refine NM.bind ?_ fun _=>?_)|(refine NM.ite ?_ ?_)|split|(intro _)|dsimp only)⟩
instance bq8(wr:Bool)(x y:Nat):Nm wr (Op.Complex.add x y):=⟨by
 unfold Op.Complex.add
 repeat' (first|exact Nm.out|assumption|(refine NM.bind ?_ fun _=>?_)|(refine NM.ite ?_ ?_)|split|(intro _)|dsimp only)⟩
instance bq4(wr:Bool)(x y:Nat):Nm wr (Op.Complex.sub x y):=⟨by
 unfold Op.Complex.sub
 repeat' (first|exact Nm.out|assumption|(refine NM.bind ?_ fun _=>?_)|(refine NM.ite ?_ ?_)|split|(intro _)|dsimp only)⟩
instance bq7(wr:Bool)(x y:Nat):Nm wr (Op.Complex.mul x y):=⟨by
 unfold Op.Complex.mul
 repeat' (first|exact Nm.out|assumption|(refine NM.bind ?_ fun _=>?_)|(refine NM.ite ?_ ?_)|split|(intro _)|dsimp only)⟩
instance bq5(wr:Bool)(x y:Nat):Nm wr (Op.Complex.quo x y):=⟨by
 unfold Op.Complex.quo
 repeat' (first|exact Nm.out|assumption|(refine NM.bind ?_ fun _=>?_)|(refine NM.ite ?_ ?_)|split|(intro _)|dsimp only)⟩
instance aC5(wr:Bool)(a b c d:Nat):Nm wr (Op.Complex.product a b c d):=⟨by
 unfold Op.Complex.product
 repeat' (first|exact Nm.out|assumption|(refine NM.bind ?_ fun _=>?_)|(refine NM.ite ?_ ?_)|split|(intro _)|dsimp only)⟩
instance ae0(wr:Bool)(s a b c d:Nat):Nm wr (Op.Complex.corrected s a b c d):=⟨by
 unfold Op.Complex.corrected
 repeat' (first|exact Nm.out|assumption|(refine NM.bind ?_ fun _=>?_)|(refine NM.ite ?_ ?_)|split|(intro _)|dsimp only)⟩
instance ap4(wr:Bool)(a b c d:Nat):Nm wr (Op.Complex.quotient a b c d):=⟨by
 unfold Op.Complex.quotient
 repeat' (first|exact Nm.out|assumption|(refine NM.bind ?_ fun _=>?_)|(refine NM.ite ?_ ?_)|split|(intro _)|dsimp only)⟩
instance ae1(wr:Bool)(o:BinOp)(k:FloatKind)(x y z u:Nat):Nm wr (Op.complexOp o k x y z u):=⟨by
 unfold Op.complexOp
 repeat' (first|exact Nm.out|assumption|(refine NM.bind ?_ fun _=>?_)|(refine NM.ite ?_ ?_)|split|(intro _)|dsimp only)⟩
instance ap9(wr:Bool)(o:BinOp)(k:IntKind)(x y:Int):Nm wr (Op.intArith o k x y):=⟨by
 unfold Op.intArith
 repeat' (first|exact Nm.out|assumption|(refine NM.bind ?_ fun _=>?_)|(refine NM.ite ?_ ?_)|split|(intro _)|dsimp only)⟩
instance aU0(wr:Bool)(o:BinOp)(k:IntKind)(x y:Int):Nm wr (Op.intDiv o k x y):=⟨by
 unfold Op.intDiv
 repeat' (first|exact Nm.out|assumption|(refine NM.bind ?_ fun _=>?_)|(refine NM.ite ?_ ?_)|split|(intro _)|dsimp only)⟩
instance aC8(wr:Bool)(o:BinOp)(k:IntKind)(x y:Int):Nm wr (Op.intBits o k x y):=⟨by
 unfold Op.intBits
 repeat' (first|exact Nm.out|assumption|(refine NM.bind ?_ fun _=>?_)|(refine NM.ite ?_ ?_)|split|(intro _)|dsimp only)⟩
instance aU1(wr:Bool)(o:BinOp)(x y:Int):Nm wr (Op.intCmp o x y):=⟨by
 unfold Op.intCmp
 repeat' (first|exact Nm.out|assumption|(refine NM.bind ?_ fun _=>?_)|(refine NM.ite ?_ ?_)|split|(intro _)|dsimp only)⟩
instance a00(wr:Bool)(o:BinOp)(k:IntKind)(x:Int)(k2:IntKind)(y:Int):Nm wr (Op.shift o k x k2 y):=⟨by
 unfold Op.shift
 repeat' (first|exact Nm.out|assumption|(refine NM.bind ?_ fun _=>?_)|(refine NM.ite ?_ ?_)|split|(intro _)|dsimp only)⟩
instance ap0(wr:Bool)(o:BinOp)(x y:ByteArray):Nm wr (Op.stringOp o x y):=⟨by
 unfold Op.stringOp
 repeat' (first|exact Nm.out|assumption|(refine NM.bind ?_ fun _=>?_)|(refine NM.ite ?_ ?_)|split|(intro _)|dsimp only)⟩
instance aZ8(wr:Bool)(o:UnOp)(x:Value):Nm wr (Op.unary o x):=⟨by
 unfold Op.unary
 repeat' (first|exact Nm.out|assumption|(refine NM.bind ?_ fun _=>?_)|(refine NM.ite ?_ ?_)|split|(intro _)|dsimp only)⟩
instance ad5(wr:Bool)(a b:Addr):Nm wr (Op.twoPlaces a b):=⟨by
 unfold Op.twoPlaces
 repeat' (first|exact Nm.out|assumption|(refine NM.bind ?_ fun _=>?_)|(refine NM.ite ?_ ?_)|split|(intro _)|dsimp only)⟩
instance aE1(wr:Bool)(k:IntKind)(a b:Addr):Nm wr (Op.addrSub k a b):=⟨by
 unfold Op.addrSub
 repeat' (first|exact Nm.out|assumption|(refine NM.bind ?_ fun _=>?_)|(refine NM.ite ?_ ?_)|split|(intro _)|dsimp only)⟩
instance aE3(wr:Bool)(o:BinOp)(a b:Addr):Nm wr (Op.addrCmp o a b):=⟨by
 unfold Op.addrCmp
 repeat' (first|exact Nm.out|assumption|(refine NM.bind ?_ fun _=>?_)|(refine NM.ite ?_ ?_)|split|(intro _)|dsimp only)⟩
instance aE2(wr:Bool)(k:IntKind)(a:Addr)(n:Int):Nm wr (Op.addrMod k a n):=⟨by
 unfold Op.addrMod
 repeat' (first|exact Nm.out|assumption|(refine NM.bind ?_ fun _=>?_)|(refine NM.ite ?_ ?_)|split|(intro _)|dsimp only)⟩
instance ad4(wr:Bool)(a:Array TypeId)(t:TypeId)(x y:Value):Nm wr (Builtin.unsafeAdd_ a t #[x,y]):=⟨by
 cases x<;>unfold Builtin.unsafeAdd_<;>first
  |exact trivial
  |(refine NM.bind (x:=asInt y) Nm.out fun n=>?_
    repeat' (first|exact Nm.out|assumption|(refine NM.bind ?_ fun _=>?_)|(refine NM.ite ?_ ?_)|split|(intro _)|dsimp only))⟩
instance XA(wr:Bool)(t:TypeId)(x y:Value):Nm wr (movedNumber t x y):=⟨by
 unfold movedNumber
 repeat' (first|exact Nm.out|assumption|(refine NM.bind ?_ fun _=>?_)|(refine NM.ite ?_ ?_)|split|(intro _)|dsimp only)⟩
instance VX(wr:Bool)(t:TypeId)(x y:Value):Nm wr (movedPointer t x y):=⟨by
 unfold movedPointer
 repeat' (first|exact Nm.out|assumption|(refine NM.bind ?_ fun _=>?_)|(refine NM.ite ?_ ?_)|split|(intro _)|dsimp only)⟩
instance aD3(wr:Bool)(o:BinOp)(t:TypeId)(x y:Operand)(a b:Value):Nm wr (eqGuard o t x y a b):=⟨by
 unfold eqGuard
 repeat' (first|exact Nm.out|assumption|(refine NM.bind ?_ fun _=>?_)|(refine NM.ite ?_ ?_)|split|(intro _)|dsimp only)⟩
instance a09(wr:Bool)(o:BinOp)(t:TypeId)(x y:Value):Nm wr (binOp o t x y):=⟨by
 unfold binOp
 repeat' (first|exact Nm.out|assumption|(refine NM.bind ?_ fun _=>?_)|(refine NM.ite ?_ ?_)|split|(intro _)|dsimp only)⟩
instance ap8(wr:Bool)(k:IntKind)(n:Int):Nm wr (Conv.intToInt k n):=⟨by
 unfold Conv.intToInt
 repeat' (first|exact Nm.out|assumption|(refine NM.bind ?_ fun _=>?_)|(refine NM.ite ?_ ?_)|split|(intro _)|dsimp only)⟩
instance ZN(wr:Bool)(k:FloatKind)(n:Int):Nm wr (Conv.intToFloat k n):=⟨by
 unfold Conv.intToFloat
 repeat' (first|exact Nm.out|assumption|(refine NM.bind ?_ fun _=>?_)|(refine NM.ite ?_ ?_)|split|(intro _)|dsimp only)⟩
instance ZP(wr:Bool)(s:FloatKind)(b:Nat)(k:IntKind):Nm wr (Conv.floatToInt s b k):=⟨by
 unfold Conv.floatToInt
 repeat' (first|exact Nm.out|assumption|(refine NM.bind ?_ fun _=>?_)|(refine NM.ite ?_ ?_)|split|(intro _)|dsimp only)⟩
instance OH(wr:Bool)(s:FloatKind)(a b:Nat)(d:FloatKind):Nm wr (Conv.complexToComplex s a b d):=⟨by
 unfold Conv.complexToComplex
 repeat' (first|exact Nm.out|assumption|(refine NM.bind ?_ fun _=>?_)|(refine NM.ite ?_ ?_)|split|(intro _)|dsimp only)⟩
instance XC(wr:Bool)(n:Int):Nm wr (Conv.intToString n):=⟨by
 unfold Conv.intToString
 repeat' (first|exact Nm.out|assumption|(refine NM.bind ?_ fun _=>?_)|(refine NM.ite ?_ ?_)|split|(intro _)|dsimp only)⟩
instance UN(e:TypeId)(s:ByteArray):Nm true (Conv.stringToBytes e s):=⟨by
 unfold Conv.stringToBytes
 repeat' (first|exact Nm.out|assumption|(refine NM.bind ?_ fun _=>?_)|(refine NM.ite ?_ ?_)|split|(intro _)|dsimp only)⟩
instance UM(wr:Bool)(e:TypeId)(s:ByteArray):Nm wr (Conv.stringToRunes e s):=⟨by
 unfold Conv.stringToRunes
 repeat' (first|exact Nm.out|assumption|(refine NM.bind ?_ fun _=>?_)|(refine NM.ite ?_ ?_)|split|(intro _)|dsimp only)⟩
instance(wr:Bool)(x:Value):Nm wr (Conv.bytesToString x):=⟨by
 unfold Conv.bytesToString;repeat' (first|exact Nm.out|assumption|(refine ED (fun _ _=>?_) _ _)|(refine NM.bind ?_ fun _=>?_)|(refine NM.ite ?_ ?_)|split|(intro _)|dsimp only)⟩
instance(wr:Bool)(x:Value):Nm wr (Conv.runesToString x):=⟨by
 unfold Conv.runesToString;repeat' (first|exact Nm.out|assumption|(refine ED (fun _ _=>?_) _ _)|(refine NM.bind ?_ fun _=>?_)|(refine NM.ite ?_ ?_)|split|(intro _)|dsimp only)⟩
instance aT2(wr:Bool)(a:Addr):Nm wr (Conv.seenAt a):=⟨by
 unfold Conv.seenAt
 repeat' (first|exact Nm.out|assumption|(refine NM.bind ?_ fun _=>?_)|(refine NM.ite ?_ ?_)|split|(intro _)|dsimp only)⟩
instance UL(wr:Bool)(s d:TypeId)(x:Value):Nm wr (Conv.unsafePointer s d x):=⟨by
 unfold Conv.unsafePointer
 repeat' (first|exact Nm.out|assumption|(refine NM.bind ?_ fun _=>?_)|(refine NM.ite ?_ ?_)|split|(intro _)|dsimp only)⟩
instance aD5(s d:TypeId)(x:Value):Nm true (convert s d x):=⟨by
 unfold convert
 repeat' (first|exact Nm.out|assumption|(refine NM.bind ?_ fun _=>?_)|(refine NM.ite ?_ ?_)|split|(intro _)|dsimp only)⟩
theorem Lr{wr:Bool}(b:Bool):∀(d:Nat) (t:TypeId) (x:Value),NM wr (Instr.checkKey b d t x)
 |0,t,x=>by unfold Instr.checkKey;exact Nm.out
 |d+1,t,x=>by
  unfold Instr.checkKey
  repeat' (first|exact Nm.out|assumption|exact Lr b d _ _|(refine ED (fun _ _=>?_) _ _)|(refine Ez (fun _ _=>?_) _ _)|(refine NM.bind ?_ fun _=>?_)|(refine NM.ite ?_ ?_)|split|(intro _)|dsimp only)
theorem Gf{wr:Bool}(t:TypeId)(x:Value):∀(l:List MapEntry) (i:Nat),NM wr (Instr.findAsking t x l i)
 |[],i=>by unfold Instr.findAsking;exact NM.pure _
 |e::l,i=>by
  unfold Instr.findAsking
  repeat' (first|exact Nm.out|assumption|exact Gf t x l _|(refine NM.bind ?_ fun _=>?_)|(refine NM.ite ?_ ?_)|split|(intro _)|dsimp only)
instance(wr:Bool)(b:Bool)(d:Nat)(t:TypeId)(x:Value):Nm wr (Instr.checkKey b d t x):=⟨Lr b d t x⟩
instance(wr:Bool)(t:TypeId)(x:Value)(l:List MapEntry)(i:Nat):Nm wr (Instr.findAsking t x l i):=⟨Gf t x l i⟩
instance aD0(wr:Bool)(t:TypeId)(x:Value)(l:List MapEntry):Nm wr (Instr.findKey t x l):=⟨by
 unfold Instr.findKey
 repeat' (first|exact Nm.out|assumption|(refine NM.bind ?_ fun _=>?_)|(refine NM.ite ?_ ?_)|split|(intro _)|dsimp only)⟩
instance aT8(wr:Bool)(t:TypeId)(x y:Value)(b:Bool):Nm wr (Instr.lookup t x y b):=⟨by
 unfold Instr.lookup
 repeat' (first|exact Nm.out|assumption|(refine NM.bind ?_ fun _=>?_)|(refine NM.ite ?_ ?_)|split|(intro _)|dsimp only)⟩
instance VY(wr:Bool)(x y:Value):Nm wr (Instr.keyThatStays x y):=⟨by
 unfold Instr.keyThatStays
 repeat' (first|exact Nm.out|assumption|(refine NM.bind ?_ fun _=>?_)|(refine NM.ite ?_ ?_)|split|(intro _)|dsimp only)⟩
instance ad7(t:TypeId)(x y z:Value):Nm true (Instr.mapUpdate t x y z):=⟨by
 unfold Instr.mapUpdate
 repeat' (first|exact Nm.out|assumption|(refine NM.bind ?_ fun _=>?_)|(refine NM.ite ?_ ?_)|split|(intro _)|dsimp only)⟩
instance ZO(wr:Bool)(a:Addr)(n:Nat):Nm wr (Builtin.holdsCells a n):=⟨by
 unfold Builtin.holdsCells
 repeat' (first|exact Nm.out|assumption|(refine NM.bind ?_ fun _=>?_)|(refine NM.ite ?_ ?_)|split|(intro _)|dsimp only)⟩
instance ap6(wr:Bool)(a b c:Nat)(o:Option Addr)(x:Value):Nm wr (Builtin.mayShare a b c o x):=⟨by
 unfold Builtin.mayShare
 repeat' (first|exact Nm.out|assumption|(refine NM.bind ?_ fun _=>?_)|(refine NM.ite ?_ ?_)|split|(intro _)|dsimp only)⟩
instance a02(wr:Bool)(x:Value):Nm wr (Builtin.lenOf x):=⟨by
 unfold Builtin.lenOf
 repeat' (first|exact Nm.out|assumption|(refine NM.bind ?_ fun _=>?_)|(refine NM.ite ?_ ?_)|split|(intro _)|dsimp only)⟩
instance ZR(wr:Bool)(a b:Nat)(x:Value):Nm wr (Builtin.firstCells a b x):=⟨by
 unfold Builtin.firstCells
 repeat' (first|exact Nm.out|assumption|(refine NM.bind ?_ fun _=>?_)|(refine NM.ite ?_ ?_)|split|(intro _)|dsimp only)⟩
instance aE0(x:Array TypeId)(t:TypeId)(y:Array Value):Nm true (Builtin.append_ x t y):=⟨by
 unfold Builtin.append_
 repeat' (first|exact Nm.out|assumption|(refine NM.bind ?_ fun _=>?_)|(refine NM.ite ?_ ?_)|split|(intro _)|dsimp only)⟩
instance a07(x:Array TypeId)(t:TypeId)(y:Array Value):Nm true (Builtin.copy_ x t y):=⟨by
 unfold Builtin.copy_
 repeat' (first|exact Nm.out|assumption|(refine NM.bind ?_ fun _=>?_)|(refine NM.ite ?_ ?_)|split|(intro _)|dsimp only)⟩
instance aD4(x:Array TypeId)(t:TypeId)(y:Array Value):Nm true (Builtin.delete_ x t y):=⟨by
 unfold Builtin.delete_
 repeat' (first|exact Nm.out|assumption|(refine NM.bind ?_ fun _=>?_)|(refine NM.ite ?_ ?_)|split|(intro _)|dsimp only)⟩
instance bq3(wr:Bool)(x:Array TypeId)(t:TypeId)(y:Array Value):Nm wr (Builtin.len_ x t y):=⟨by
 unfold Builtin.len_
 repeat' (first|exact Nm.out|assumption|(refine NM.bind ?_ fun _=>?_)|(refine NM.ite ?_ ?_)|split|(intro _)|dsimp only)⟩
theorem EC{wr:Bool}:∀(l:List FieldStep) (t:TypeId) (x:Option Value),NM wr (followBlind l t x)
 |[],t,x=>by unfold followBlind;exact Nm.out
 |s::l,t,x=>by
  unfold followBlind
  repeat' (first|exact Nm.out|assumption|exact EC l _ _|(refine NM.bind ?_ fun _=>?_)|(refine NM.ite ?_ ?_)|split|(intro _)|dsimp only)
instance(wr:Bool)(l:List FieldStep)(t:TypeId)(x:Option Value):Nm wr (followBlind l t x):=⟨EC l t x⟩
theorem Lm{wr:Bool}:∀(n:Nat) (t:TypeId) (x:Value) (name:String),NM wr (nilAhead n t x name)
 |0,t,x,_=>by unfold nilAhead;exact Nm.out
 |n+1,t,x,name=>by
  unfold nilAhead
  repeat' (first|exact Nm.out|assumption|exact Lm n _ _ _|(refine NM.bind ?_ fun _=>?_)|(refine NM.ite ?_ ?_)|split|(intro _)|dsimp only)
instance(wr:Bool)(n:Nat)(t:TypeId)(x:Value)(name:String):Nm wr (nilAhead n t x name):=⟨Lm n t x name⟩
end
end Cc
end Go.Proofs.Ytpfpokjaeffbjab
