/- Part of the proof: KnSgS, KnBs, KnSgT, KnSgU, KnSgP, KnSgQ, KnOwn, VrfF, KnSgV, KnGo. -/
import Derived.Test.YtpfpokjaeffbjaaKk0
import Derived.Test.YtpfpokjaeffbjaaKk14
import Derived.Test.YtpfpokjaeffbjaaKk10
import Derived.Conc.EventLaws
import Derived.Great.BuildSlice
import Derived.Test.YtpfpokjaeffbjaaKk9
import Derived.Test.YtpfpokjaeffbjaaKk6
import Derived.Test.YtpfpokjaeffbjaaKk13
import Derived.Test.YtpfpokjaeffbjaaKk7
import Derived.Test.YtpfpokjaeffbjaaKk12
set_option linter.unusedVariables false
set_option linter.unusedSimpArgs false
set_option maxRecDepth 100000
set_option maxHeartbeats 16000000
open Go.Instr renaming loadAt→aT
open Go.Proofs.Try renaming prog→dS
open Array renaming getElem?_push→cY
open Option renaming getD_some→aJ
open List renaming mem_of_getElem?→b7,mem_cons_of_mem→aR,mem_cons_self→dh
open Go.Deferred renaming ofValue→cG
open Go.Act renaming eval→aU
open Go.Frame renaming finish_at→dI,enter→bO
open Go renaming results→bR
namespace Go.Proofs.Ytpfpokjaeffbjaa
open Go renaming World→ae,Value→af,Goroutine→ah,Frame→ai,TypeId→aj,FuncId→ak,Program→au,undef→av,execOp→ax
open Go.Lib renaming hid→ay
namespace Kn
open Go.Conc Go.ConcN Go.ConcM Go.RowKit Go.Conc.Lib Go.ConcR.Gen
open Go.ConcR (KK wgBlock WgAt stA smA rd wr mk DC0)
open Cc lF
open Pl Mem mJ nG mI DI Ey ng La
open Hr (gH ja ru)
open r7 (Only iH l6)
noncomputable def Z5:Code:=match uz with|.seq a _=>a|_=>.skip
noncomputable def aa1:Code:=match uz with|.seq _ (.seq a _)=>a|_=>.skip
noncomputable def Z1:Code:=match uz with|.seq _ (.seq _ (.seq _ a))=>a|_=>.skip
noncomputable def Z4:Code:=match E7 with|.seq (.seq a _) _=>a|_=>.skip
noncomputable def aa0:Code:=match E7 with|.seq (.seq _ a) _=>a|_=>.skip
noncomputable def Z2:Code:=match Cv with|.seq a _=>a|_=>.skip
theorem Cu:vV.uI 33=false:=kr
theorem Jw:vV.fs 33=[]:=kr
theorem Jy:(eK 2 Aa).1.all (fun c=>Sg.fin (vV.items 33 (some 0) [.code c]))=true:=kr
theorem QE:Sg.fin (vV.items 33 (some 0) [.code Jz])=true:=kr
theorem LR.slots{P:au}{g₀:ah}{w₀ w:ae}{f:ak}{T:Array af}{k:List Item}{cst:List ai}{X:Prop}(h:LR P g₀ w₀ (G ((base f).at ⟨T,[]⟩ k) cst) w)(hs:T.size=341)(fin:∀z:Nat->af,(∀i v,T[i]?=some v->z i=v)->LR P g₀ w₀ (G ((base f).at ⟨fy z,[]⟩ k) cst) w->X):X:=by
 obtain⟨z,rfl,hz⟩:=jP T hs;exact fin z hz h
theorem OE{w:ae}{bx:Nat}{V:af}{E:Int}(h:ft w bx 144 #[V,.int .i64 E]):(aT 22 (.pointer (some ⟨bx,1,none⟩))).run dS w=.ok (.int .i64 E) w/\(aT 26 (.pointer (some ⟨bx,0,none⟩))).run dS w=.ok V w:=by
 have d0:=h.cell 0;have d1:=h.cell 1;simp only[List.getElem?_toArray,List.getElem?_cons_zero,List.getElem?_cons_succ]at d0 d1;constructor
 ·simp[go_sem,d1]
 ·simp[go_sem,d0]
structure Kp(v2 v9 v11 v17 v18 bn0 bm9 bm8:af)(y:Nat->af):Prop where
 a2:y 2=v2
 a9:y 9=v9
 Vw:y 11=v11
 Y1:y 17=v17
 Y0:y 18=v18
 Hc:y 199=bn0
 KJ:y 200=bm9
 KI:y 201=bm8
theorem yG{w w5:ae}{ob:Obj}(q1:w5.heap.size=(w.alloc ob).heap.size)(q2:w5.os=(w.alloc ob).os)(q3:w5.output=(w.alloc ob).output)(q4:∀b,b≠w.heap.size->w5.heap[b]?=(w.alloc ob).heap[b]?):gH w.heap.size w w5:=by
 refine⟨?_,fun b hb=>(q4 b (by omega)).trans ((cY ..).trans (if_neg (by omega))),q2,q3⟩;have:(w.alloc ob).heap.size=w.heap.size+1:=Array.size_push ..
 omega
section
variable{g₀:ah}{w₀:ae}{X:Prop}{cst:List ai}{W:ae}{tb GB k1 b1 b2 b3:Nat}{A1:Option Addr}{a b:r7.Loc}{C:Code}{v2 v9 v11 v17 v18:af}
theorem JA(y2:v2=.pointer (some ⟨GB,0,none⟩))(y9:v9=.pointer (some ⟨a.S,0,none⟩))
  (fin:∀(y:Nat->af) (w:ae),Kp v2 v9 v11 v17 v18 (.slice (some ⟨tb,0,none⟩) 13 13) (.int .i64 13) (.int .i64 13) y->L4 W GB A1 k1 a b b1 b2 b3 tb w->LR dS g₀ w₀ (G ((base 33).at ⟨fy y,[]⟩ [.code C]) cst) w->X):
  ∀(m j:Nat) (B:Code) (y:Nat->af) (w:ae),B=uz->m+j=13->Kp v2 v9 v11 v17 v18 (.slice (some ⟨tb,0,none⟩) 13 13) (.int .i64 13) (.int .i64 j) y->L4 W GB A1 k1 a b b1 b2 b3 tb w->
   LR dS g₀ w₀ (G ((base 33).at ⟨fy y,[]⟩ [.code uz,.inLoop B,.inBlock 4,.code C]) cst) w->X
 |0,j,B,y,w,hB,hm,K,hL4,hL=>by
  obtain rfl:j=13:=by omega
  have UZ:=K.KJ;have UY:y 201=.int .i64 13:=K.KI;simp only[uz,JB,Gx,fV,eK,Try.f33,aJ,fy,UZ,UY]at hL;clear UZ UY;refine LR.road 60 hL fun w₁ hF=>?_;repeat w_go eQ
  refine Goes.stop (fun w₃ r₁=>⟨rfl,fun hL2=>?_⟩);clear hF r₁ w₃ w₁ hL;refine LR.slots hL2 rfl fun z hz hL3=>?_;exact fin z w ⟨(hz 2 _ rfl).trans K.a2,(hz 9 _ rfl).trans K.a9,(hz 11 _ rfl).trans K.Vw,(hz 17 _ rfl).trans K.Y1,(hz 18 _ rfl).trans K.Y0,(hz 199 _ rfl).trans K.Hc,hz 200 _ rfl,hz 201 _ rfl⟩ hL4 hL3
 |m+1,j,B,y,w,hB,hm,K,hL4,hL=>by
  have hj:j<13:=by omega
  obtain⟨r,hr⟩:∃r,F6[j]?=some r:=⟨F6[j],List.getElem?_eq_getElem hj⟩;obtain⟨l,E⟩:=r;have k0:(j:Int)<13:=by omega
  have k0':(0:Int)<=(j:Int):=by omega
  have k1':decide ((j:Int)<13)=true:=by simpa using k0
  have w1:IntKind.i64.wrap ((j:Int)+1)=((j+1:Nat):Int):=by rw[IntKind.wrap_i64];omega
  have IH:=ay (JA y2 y9 fin m (j+1));obtain⟨AT,C6⟩:∃AT,AT=Aa:=⟨_,rfl⟩;have e5:uz=.seq Z5 (.seq aa1 (.seq (.block 5 Aa) Z1)):=rfl;rw[e5,<-C6]at hL;have KS:=ay C6;have HB:=ay hB;have HR:=ay hr;have Lb:=ay hL4;have UZ:=K.KJ;have UY:=K.KI;simp only[Z5,aa1,Z1,uz,JB,Gx,fV,eK,Try.f33,aJ,fy,UZ,UY]at hL;clear C6 e5 hB hr hL4 UZ UY;refine LR.road 60 hL fun w₁ hF=>?_;repeat w_go eQ
  refine Goes.stop (fun w₃ r₁=>⟨rfl,fun hL2=>?_⟩);clear hF r₁ w₃ w₁ hL;refine LR.slots hL2 rfl fun z hz hL3=>?_;have K2:Kp v2 v9 v11 v17 v18 (.slice (some ⟨tb,0,none⟩) 13 13) (.int .i64 13) (.int .i64 j) z:=⟨(hz 2 _ rfl).trans K.a2,(hz 9 _ rfl).trans K.a9,(hz 11 _ rfl).trans K.Vw,(hz 17 _ rfl).trans K.Y1,(hz 18 _ rfl).trans K.Y0,(hz 199 _ rfl).trans K.Hc,hz 200 _ rfl,hz 201 _ rfl⟩;clear hz hL2 K;rw[KS.out,<-kj 2 Aa]at hL3;refine LR.pieces tO rfl Cu Jw (fun a2 w2 hd hN hL=>?_) (fun _ _ _ _ h _=>h.elim) (eK 2 Aa).1 (fun c hc=>List.all_eq_true.1 Jy c hc) _ _ rfl hL3 (aT2 (K2.a9.trans y9) K2.Hc K2.KI HR.out Lb.out);clear hL3 KS Lb;obtain⟨T,df⟩:=a2;obtain rfl:df=[]:=hd;obtain⟨hs,t2,t9,t11,t17,t18,t199,t200,t201,hL4,bx,A,t21,Hv,hrow⟩:=hN;obtain⟨u,rfl,hu⟩:=jP T hs;have u21:=hu _ _ t21;have K3:Kp v2 v9 v11 v17 v18 (.slice (some ⟨tb,0,none⟩) 13 13) (.int .i64 13) (.int .i64 j) u:=⟨(hu _ _ t2).trans K2.a2,(hu _ _ t9).trans K2.a9,(hu _ _ t11).trans K2.Vw,(hu _ _ t17).trans K2.Y1,(hu _ _ t18).trans K2.Y0,(hu _ _ t199).trans K2.Hc,(hu _ _ t200).trans K2.KJ,(hu _ _ t201).trans K2.KI⟩;clear hu hs t2 t9 t11 t17 t18 t199 t200 t201 t21 K2;obtain⟨DT,hDT⟩:∃DT,DT=Cv:=⟨_,rfl⟩;have e27:(eK 2 Aa).2=.seq (.seq Z4 aa0) Cv:=rfl;rw[e27,<-hDT]at hL;have HDT:=ay hDT;have tH:=ay Hv;have Rx:=ay hrow;have Lb:=ay hL4;have aM8:=K3.KI;simp only[Z4,aa0,E7,Aa,uz,JB,Gx,fV,eK,Try.f33,aJ,fy,u21,aM8]at hL;clear hDT e27 Hv hrow hL4 aM8;refine LR.road 60 hL fun w₁ hF=>?_;repeat w_go eQ
  refine Goes.stop (fun w₃ r₁=>⟨rfl,fun hL2=>?_⟩);clear hF r₁ w₃ w₁ hL;have hL3:=LR.load (v:=.int .i64 E) hL2 rfl rfl (by k_ne) rfl (OE tH.out).1;clear hL2;by_cases h10:E=10
  ·subst h10;clear u21;refine LR.road 80 hL3 fun w₁ hF=>?_;walk_nrm;repeat w_nl eQ
   u_c stepG_inLoop eQ hF
   refine Goes.stop (fun w₃ r₁=>⟨rfl,fun hL2=>?_⟩);clear hF r₁ w₃ w₁ hL3;rw[HB.out]at hL2;refine LR.slots hL2 rfl fun z hz hL4=>?_;exact IH.out uz z w2 rfl (by omega) ⟨(hz 2 _ rfl).trans K3.a2,(hz 9 _ rfl).trans K3.a9,(hz 11 _ rfl).trans K3.Vw,(hz 17 _ rfl).trans K3.Y1,(hz 18 _ rfl).trans K3.Y0,(hz 199 _ rfl).trans K3.Hc,(hz 200 _ rfl).trans K3.KJ,hz 201 _ rfl⟩ Lb.out hL4
  ·have t10:(E==10)=false:=by rw[beq_eq_false_iff_ne];exact h10
   clear u21;refine LR.road 80 hL3 fun w₁ hF=>?_;walk_nrm;repeat w_go eQ
   refine Goes.stop (fun w₃ r₁=>⟨rfl,fun hL2=>?_⟩);clear hF r₁ w₃ w₁ hL3;refine LR.slots hL2 rfl fun z hz hL3=>?_;have K4:Kp v2 v9 v11 v17 v18 (.slice (some ⟨tb,0,none⟩) 13 13) (.int .i64 13) (.int .i64 j) z:=⟨(hz 2 _ rfl).trans K3.a2,(hz 9 _ rfl).trans K3.a9,(hz 11 _ rfl).trans K3.Vw,(hz 17 _ rfl).trans K3.Y1,(hz 18 _ rfl).trans K3.Y0,(hz 199 _ rfl).trans K3.Hc,(hz 200 _ rfl).trans K3.KJ,hz 201 _ rfl⟩;have z21:=hz 21 _ rfl;have z2:=K4.a2.trans y2;clear hz hL2 K3;have hok:=Am _ (b7 HR.out);have hagg:ja 2 3 kG l mK 0=E:=Sy (r:=(l,E)) (b7 HR.out) h10;have hE0:E≠0:=(hok.1 h10).2;have HLN:=ay (show l.length<=4/\∀c∈l,0<=c.d/\0<=c.e from hok.2.2);have HAG:=ay hagg;have HE0:=ay hE0;clear hok hagg hE0;obtain⟨ET,hET⟩:∃ET,ET=Jz:=⟨_,rfl⟩;have e31:Cv=.seq Z2 Jz:=rfl;rw[HDT.out,e31,<-hET]at hL3;have HET:=ay hET;simp only[Z2,Cv,E7,Aa,uz,JB,Gx,fV,eK,Try.f33,aJ,fy,z2,z21]at hL3;clear hET e31 HDT z2;refine LR.road 60 hL3 fun w₁ hF=>?_;repeat w_go eQ
   refine Goes.stop (fun w₃ r₁=>⟨rfl,fun hL2=>?_⟩);clear hF r₁ w₃ w₁ hL3;have hd2:(∀a,Value.slice A1 2 k1≠ .agg a)/\∀a,Value.slice A1 2 k1≠ .tuple a:=⟨fun a e=>(by cases e),fun a e=>(by cases e)⟩;have hL3:=LR.load (v:=.agg #[.int .i64 2,.int .i64 3,.slice A1 2 k1]) hL2 rfl rfl (by k_ne) rfl (yf 2 3 _ hd2 w2 Lb.out.tw.g.kP).1;clear hL2 hd2;refine LR.road 60 hL3 fun w₁ hF=>?_;walk_nrm;repeat w_go eQ
   refine Goes.stop (fun w₃ r₁=>⟨rfl,fun hL2=>?_⟩);clear hF r₁ w₃ w₁ hL3;have hL3:=LR.load (v:=.slice A l.length l.length) hL2 rfl rfl (by k_ne) rfl (OE tH.out).2;clear hL2;refine LR.road 60 hL3 fun w₁ hF=>?_;walk_nrm;refine Goes.stop (fun w₃ r₁=>⟨rfl,fun hL2=>?_⟩);clear hF r₁ w₃ w₁ hL3;refine LR.M5 (LR.call hL2 (f:=27) (args:=#[.agg #[.int .i64 2,.int .i64 3,.slice A1 2 k1],.string mK,.slice A l.length l.length,.slice none 0 0]) rfl rfl (by k_ne) (fun w=>?_) (fun w=>?_)) Lb.out.tw.g.nums JD (by decide) (Rx.out.iJ Lb.out.tw.sA) (by have:=HLN.out.1;omega) (vC HLN.out.2) (by omega) (by decide) HAG.out HE0.out fun w3 hst hL3=>?_
   ·unfold ax;simp[resolve,cG,invoke,callFunc,Try.func27,Try.f27,aU,mK]
   ·unfold ax;simp[resolve,cG,invoke,callFunc,Try.func27,Try.f27,aU,mK]
   have HL5:=ay (Lb.out.stand hst);have be2:=ay (nV hst tH.out);clear hst hL2 Lb tH Rx;refine LR.road 60 hL3 fun w₁ hF=>?_;rw[dI];simp only[ru];walk_nrm;repeat w_go eQ
   refine Goes.stop (fun w₃ r₁=>⟨rfl,fun hL2=>?_⟩);clear hF r₁ w₃ w₁ hL3;have hL3:=LR.alloc hL2 rfl rfl (by k_ne) rfl (Bv w3).1;clear hL2;refine LR.road 60 hL3 fun w₁ hF=>?_;walk_nrm;refine Goes.stop (fun w₃ r₁=>⟨rfl,fun hL2=>?_⟩);clear hF r₁ w₃ w₁ hL3;have hnew:=ft.new w3 47 #[.int .u64 0,.int .u64 0];obtain⟨w5,⟨JH,-⟩,q1,q2,q3,q4,q5⟩:=Al 0 0 _ hnew;have hL3:=LR.store hL2 rfl rfl (by k_ne) rfl JH;clear hL2 JH;have hs5:gH w3.heap.size w3 w5:=yG q1 q2 q3 q4;have HL6:=ay (HL5.out.stand hs5);have HB6:=ay (nV hs5 be2.out);have H24:=ay (show ft w5 w3.heap.size 47 #[.int .u64 0,.int .u64 0]from q5);clear q1 q2 q3 q4 q5 hs5 hnew HL5 be2;generalize w3.heap.size=b24 at*;refine LR.road 60 hL3 fun w₁ hF=>?_;walk_nrm;repeat w_go eQ
   refine Goes.stop (fun w₃ r₁=>⟨rfl,fun hL2=>?_⟩);clear hF r₁ w₃ w₁ hL3;refine LR.slots hL2 rfl fun u hu hL3=>?_;have K5:Kp v2 v9 v11 v17 v18 (.slice (some ⟨tb,0,none⟩) 13 13) (.int .i64 13) (.int .i64 j) u:=⟨(hu 2 _ rfl).trans y2.symm,(hu 9 _ rfl).trans K4.a9,(hu 11 _ rfl).trans K4.Vw,(hu 17 _ rfl).trans K4.Y1,(hu 18 _ rfl).trans K4.Y0,(hu 199 _ rfl).trans K4.Hc,(hu 200 _ rfl).trans K4.KJ,(hu 201 _ rfl).trans K4.KI⟩;have u21:=(hu 21 _ rfl);have u24:=hu 24 _ rfl;have u25:=hu 25 _ rfl;have u26:=hu 26 _ rfl;clear hu hL2 K4 z21;rw[HET.out]at hL3;obtain⟨a6,w6,h6|⟨_,h6,_⟩⟩:=LR.code tO (fun e a w h=>.inl h.1) hL3 rfl rfl QE Cu Jw (aT6 u21 u24 u25 u26 HB6.out H24.out)
   ·obtain⟨⟨-,hd,hs,t2,t9,t11,t17,t18,t199,t200,t201,rfl⟩,hL2⟩:=h6;obtain⟨T,df⟩:=a6;obtain rfl:df=[]:=hd;obtain⟨z,rfl,hz⟩:=jP T hs;have K6:Kp v2 v9 v11 v17 v18 (.slice (some ⟨tb,0,none⟩) 13 13) (.int .i64 13) (.int .i64 j) z:=⟨(hz _ _ t2).trans K5.a2,(hz _ _ t9).trans K5.a9,(hz _ _ t11).trans K5.Vw,(hz _ _ t17).trans K5.Y1,(hz _ _ t18).trans K5.Y0,(hz _ _ t199).trans K5.Hc,(hz _ _ t200).trans K5.KJ,(hz _ _ t201).trans K5.KI⟩;have aL5:=K6.KI;simp only[fy,aL5]at hL2;clear hz hs t2 t9 t11 t17 t18 t199 t200 t201 hL3 K5 u21 u24 u25 u26 aL5;refine LR.road 60 hL2 fun w₁ hF=>?_;repeat w_nl eQ
    u_c stepG_inLoop eQ hF
    refine Goes.stop (fun w₃ r₁=>⟨rfl,fun hL3=>?_⟩);clear hF r₁ w₃ w₁ hL2;rw[HB.out]at hL3;refine LR.slots hL3 rfl fun u hu hL2=>?_;exact IH.out uz u w6 rfl (by omega) ⟨(hu 2 _ rfl).trans K6.a2,(hu 9 _ rfl).trans K6.a9,(hu 11 _ rfl).trans K6.Vw,(hu 17 _ rfl).trans K6.Y1,(hu 18 _ rfl).trans K6.Y0,(hu 199 _ rfl).trans K6.Hc,(hu 200 _ rfl).trans K6.KJ,hu 201 _ rfl⟩ HL6.out hL2
   ·cases h6.1
end
end Kn
namespace Kn
open Go.RowKit Cc
noncomputable def zK:Code:=(eK 17 fV).2
structure Kq(v2 v27 v28 v29:af)(y:Nat->af):Prop where
 a2:y 2=v2
 a27:y 27=v27
 a28:y 28=v28
 a29:y 29=v29
theorem YS:(Try.prog.info? 40).map (fun i=>(i.zero,i.size))=some (some (.int .u64 0),1):=kr
theorem MQ(x y:Int)(w:ae):(Instr.buildSlice 29 2 #[(0,.int .u64 x),(1,.int .u64 y)]).run dS w=.ok (.slice (some ⟨w.heap.size,0,none⟩) 2 2) (w.alloc (.cells #[.int .u64 x,.int .u64 y] 40))/\(Instr.buildSlice 29 2 #[(0,.int .u64 x),(1,.int .u64 y)]).events dS w #[]=#[]:=by
 have hi:=YS;cases h:Try.prog.info? 40 with
 |none=>rw[h]at hi;cases hi
 |some i=>
  rw[h]at hi;simp only[Option.map_some,Option.some.injEq,Prod.mk.injEq]at hi;constructor
  ·simp[go_sem]
  ·simp[Instr.buildSlice,run_underlying Try.underlying29,events_underlying,sizeOf,typeInfo,h,hi.1,hi.2,zeroValue,newRow,newObj];split<;>first|rfl|simp[stuck]
theorem aC2(x:Int)(w:ae):(Instr.buildSlice 29 1 #[(0,.int .u64 x)]).run dS w=.ok (.slice (some ⟨w.heap.size,0,none⟩) 1 1) (w.alloc (.cells #[.int .u64 x] 40)):=by
 simp[go_sem]
end Kn
namespace Kn
open Go.Conc Go.ConcN Go.ConcM Go.RowKit Go.Conc.Lib Go.ConcR.Gen
open Cc lF
open Pl Mem mJ nG mI DI Ey ng La
open Hr (gH ja ru)
open r7 (Only iH l6)
section
open Go.ConcR (KK wgBlock WgAt stA smA rd wr mk DC0)
noncomputable def OI:Code:=(eK 15 fV).2
noncomputable def Cw:Code:=(eK 16 fV).2
noncomputable def Z9:Code:=match OI with|.seq a _=>a|_=>.skip
noncomputable def Z8:Code:=match Cw with|.seq a _=>a|_=>.skip
section
variable{g₀:ah}{w₀ w:ae}{X:Prop}{cst:List ai}{W:ae}{GB k1 lb:Nat}{A1:Option Addr}{v29:af}{y:Nat->af}
theorem as6(K:Kq (.pointer (some ⟨GB,0,none⟩)) (.slice (some ⟨lb,0,none⟩) 2 2) (.int .u64 xK) v29 y)(hP:P5 W GB A1 k1 lb w)
  (hL:LR dS g₀ w₀ (G ((base 33).at ⟨fy y,[]⟩ [.code OI]) cst) w)
  (fin:∀(z:Nat->af) (w':ae),Kq (.pointer (some ⟨GB,0,none⟩)) (.slice (some ⟨lb,0,none⟩) 2 2) (.int .u64 xK) v29 z->P5 W GB A1 k1 lb w'->LR dS g₀ w₀ (G ((base 33).at ⟨fy z,[]⟩ [.code Cw]) cst) w'->X):X:=by
 have HP:=ay hP;have hA:=ba0;generalize xK=x at*;obtain⟨AT,C6⟩:∃AT,AT=Cw:=⟨_,rfl⟩;have e15:OI=.seq Z9 Cw:=rfl;rw[e15,<-C6]at hL;have KS:=ay C6;have y2:=K.a2;have y27:=K.a27;have y28:=K.a28;simp only[Z9,OI,fV,eK,Try.f33,aJ,fy,y2,y27,y28]at hL;clear C6 e15 hP y2 y27 y28;refine LR.road 60 hL fun w₁ hF=>?_;repeat w_go eQ
 refine Goes.stop (fun w₃ r₁=>⟨rfl,fun hL2=>?_⟩);clear hF r₁ w₃ w₁ hL;have hd2:(∀a,Value.slice A1 2 k1≠ .agg a)/\∀a,Value.slice A1 2 k1≠ .tuple a:=⟨fun a e=>(by cases e),fun a e=>(by cases e)⟩;have hL3:=LR.load (v:=.agg #[.int .i64 2,.int .i64 3,.slice A1 2 k1]) hL2 rfl rfl (by k_ne) rfl (yf 2 3 _ hd2 w HP.out.g.kP).1;clear hL2 hd2;refine LR.road 60 hL3 fun w₁ hF=>?_;walk_nrm;repeat w_go eQ
 refine Goes.stop (fun w₃ r₁=>⟨rfl,fun hL2=>?_⟩);clear hF r₁ w₃ w₁ hL3;have hL3:=LR.Vj hL2 rfl rfl (by k_ne) rfl (by simpa [aU]using aC2 x w);have VG:=ay (HP.out.later (eB w (.cells #[.int .u64 x] 40)));clear hL2 HP;refine LR.road 60 hL3 fun w₁ hF=>?_;walk_nrm;refine Goes.stop (fun w₃ r₁=>⟨rfl,fun hL2=>?_⟩);clear hF r₁ w₃ w₁ hL3;refine LR.M5 (LR.call hL2 (f:=27) (args:=#[.agg #[.int .i64 2,.int .i64 3,.slice A1 2 k1],.string mK,.slice (some ⟨lb,0,none⟩) 2 2,.slice (some ⟨w.heap.size,0,none⟩) 1 1]) rfl rfl (by k_ne) (fun w=>?_) (fun w=>?_)) VG.out.g.nums JD (by decide) VG.out.iJ (by decide) (vC OG) (by omega) (by decide) hA (by decide) fun w2 hst hL3=>?_
 ·unfold ax;simp[resolve,cG,invoke,callFunc,Try.func27,Try.f27,aU,mK]
 ·unfold ax;simp[resolve,cG,invoke,callFunc,Try.func27,Try.f27,aU,mK]
 have HP2:=ay (VG.out.stand hst);clear hst hL2 VG;refine LR.road 60 hL3 fun w₁ hF=>?_;rw[dI];simp only[ru];walk_nrm;repeat w_go eQ
 refine Goes.stop (fun w₃ r₁=>⟨rfl,fun hL2=>?_⟩);clear hF r₁ w₃ w₁ hL3;have hL3:=LR.alloc hL2 rfl rfl (by k_ne) rfl (Bv w2).1;clear hL2;refine LR.road 60 hL3 fun w₁ hF=>?_;walk_nrm;refine Goes.stop (fun w₃ r₁=>⟨rfl,fun hL2=>?_⟩);clear hF r₁ w₃ w₁ hL3;have hnew:=ft.new w2 47 #[.int .u64 0,.int .u64 0];obtain⟨w2',⟨JH,-⟩,q1,q2,q3,q4,q5⟩:=Al 0 0 _ hnew;have hL3:=LR.store hL2 rfl rfl (by k_ne) rfl JH;clear hL2 JH;have aE3:=ay (HP2.out.stand (yG q1 q2 q3 q4));clear q1 q2 q3 q4 q5 hnew HP2;generalize w2.heap.size=bB4 at*;refine LR.road 60 hL3 fun w₁ hF=>?_;walk_nrm;repeat w_go eQ
 refine Goes.stop (fun w₃ r₁=>⟨rfl,fun hL2=>?_⟩);clear hF r₁ w₃ w₁ hL3;refine LR.slots hL2 rfl fun z hz hL3=>?_;rw[KS.out]at hL3;exact fin z w2' ⟨hz 2 _ rfl,hz 27 _ rfl,hz 28 _ rfl,(hz 29 _ rfl).trans K.a29⟩ aE3.out hL3
theorem as5{v2 v27 v28:af}(K:Kq v2 v27 v28 v29 y)(hP:P5 W GB A1 k1 lb w)
  (hL:LR dS g₀ w₀ (G ((base 33).at ⟨fy y,[]⟩ [.code Cw]) cst) w)
  (fin:∀(z:Nat->af) (w':ae),Kq v2 v27 v28 v29 z->P5 W GB A1 k1 lb w'->LR dS g₀ w₀ (G ((base 33).at ⟨fy z,[]⟩ [.code zK]) cst) w'->X):X:=by
 have HP:=ay hP;obtain⟨AT,C6⟩:∃AT,AT=zK:=⟨_,rfl⟩;have e16:Cw=.seq Z8 zK:=rfl;rw[e16,<-C6]at hL;have KS:=ay C6;simp only[Z8,Cw,fV,eK,Try.f33,aJ,fy]at hL;clear C6 e16 hP;refine LR.road 60 hL fun w₁ hF=>?_;repeat w_go eQ
 refine Goes.stop (fun w₃ r₁=>⟨rfl,fun hL2=>?_⟩);clear hF r₁ w₃ w₁ hL;have hL3:=LR.Vj hL2 rfl rfl (by k_ne) rfl (by simpa [aU]using (MQ 1 4 w).1);have HN:=ay (Tb (k:=.u64) (l:=[1,4]) (n:=2) (ft.new w 40 #[.int .u64 1,.int .u64 4]) rfl (fun i hi=>by
  have:i=0\/i=1:=by simp at hi<;>omega
  rcases this with rfl|rfl<;>rfl))
 have VG:=ay (HP.out.later (eB w (.cells #[.int .u64 1,.int .u64 4] 40)));clear hL2 HP;refine LR.road 60 hL3 fun w₁ hF=>?_;walk_nrm;repeat w_go eQ
 refine Goes.stop (fun w₃ r₁=>⟨rfl,fun hL2=>?_⟩);clear hF r₁ w₃ w₁ hL3;refine LR.M5 (LR.call hL2 (f:=27) (args:=#[.agg #[.int .i64 2,.int .i64 3,.slice (some ⟨w.heap.size,0,none⟩) 2 2],.string mK,.slice none 0 0,.slice none 0 0]) rfl rfl (by k_ne) (fun w=>?_) (fun w=>?_)) HN.out (by decide) (by decide) ⟨rfl,none,0,rfl,Nat.le_refl _,fun h=>absurd h (by simp)⟩ (by decide) (fun i hi=>absurd hi (by simp)) (by omega) (by decide) bC1 (by decide) fun w2 hst hL3=>?_
 ·unfold ax;simp[resolve,cG,invoke,callFunc,Try.func27,Try.f27,aU,mK]
 ·unfold ax;simp[resolve,cG,invoke,callFunc,Try.func27,Try.f27,aU,mK]
 have HP2:=ay (VG.out.stand hst);clear hst hL2 VG;refine LR.road 60 hL3 fun w₁ hF=>?_;rw[dI];simp only[ru];walk_nrm;repeat w_go eQ
 refine Goes.stop (fun w₃ r₁=>⟨rfl,fun hL2=>?_⟩);clear hF r₁ w₃ w₁ hL3;have hL3:=LR.alloc hL2 rfl rfl (by k_ne) rfl (Bv w2).1;clear hL2;refine LR.road 60 hL3 fun w₁ hF=>?_;walk_nrm;refine Goes.stop (fun w₃ r₁=>⟨rfl,fun hL2=>?_⟩);clear hF r₁ w₃ w₁ hL3;have hnew:=ft.new w2 47 #[.int .u64 0,.int .u64 0];obtain⟨w2',⟨JH,-⟩,q1,q2,q3,q4,q5⟩:=Al 0 0 _ hnew;have hL3:=LR.store hL2 rfl rfl (by k_ne) rfl JH;clear hL2 JH;have aE3:=ay (HP2.out.stand (yG q1 q2 q3 q4));clear q1 q2 q3 q4 q5 hnew HP2;generalize w2.heap.size=bB4 at*;refine LR.road 60 hL3 fun w₁ hF=>?_;walk_nrm;repeat w_go eQ
 refine Goes.stop (fun w₃ r₁=>⟨rfl,fun hL2=>?_⟩);clear hF r₁ w₃ w₁ hL3;refine LR.slots hL2 rfl fun z hz hL3=>?_;rw[KS.out]at hL3;exact fin z w2' ⟨(hz 2 _ rfl).trans K.a2,(hz 27 _ rfl).trans K.a27,(hz 28 _ rfl).trans K.a28,(hz 29 _ rfl).trans K.a29⟩ aE3.out hL3
end
end
section
noncomputable def Z0:Code:=(eK 10 fV).2
theorem Mj:(eK 10 fV).1.all (fun c=>Sg.fin (vV.items 33 (some 0) [.code c]))=true:=kr
theorem Mi:(eK 4 Cx).1.all (fun c=>Sg.fin (vV.items 33 (some 0) [.code c]))=true:=kr
theorem Mh:Sg.fin (vV.items 33 (some 0) [.code XP])=true:=kr
def aT4(u v:af):Nat->af
 |0=>u
 |1=>v
 |_=>av
theorem aT1(u v:af):#[u,v]++Array.replicate 339 av=fy (aT4 u v):=kr
section
variable{P:au}{g₀:ah}{w₀ w:ae}{b:ai}{a:Act}{k:List Item}{cs:List ai}
theorem LR.seq{c d:Code}(h:LR P g₀ w₀ (G (b.at a (.code (.seq c d)::k)) cs) w):LR P g₀ w₀ (G (b.at a (.code c:: .code d::k)) cs) w:=h.step stepG_seq rfl
theorem LR.Rj{c:Code}{id:Nat}(h:LR P g₀ w₀ (G (b.at a (.code (.block id (.loop c))::k)) cs) w):LR P g₀ w₀ (G (b.at a (.code c:: .inLoop c:: .inBlock id::k)) cs) w:=(h.step stepG_block rfl).step stepG_loop rfl
end
theorem as7{g₀:ah}{w₀ w:ae}{X:Prop}{cst:List ai}{k1 k2:Nat}{A1 A2:Option Addr}(hc:fW .u64 w w.heap.size (.slice A1 2 k1) kG)(hsh:fW .u64 w w.heap.size (.slice A2 3 k2) [12,19,26])
  (hL:LR dS g₀ w₀ (G (bO dS 33 #[.agg #[.int .i64 2,.int .i64 3,.slice A1 2 k1],.slice A2 3 k2] .normal) cst) w)
  (fin:∀(z:Nat->af) (lb:Nat) (w':ae),Kq (.pointer (some ⟨w.heap.size,0,none⟩)) (.slice (some ⟨lb,0,none⟩) 2 2) (.int .u64 xK) (.int .u64 yK) z->P5 w w.heap.size A1 k1 lb w'->LR dS g₀ w₀ (G ((base 33).at ⟨fy z,[]⟩ [.code zK]) cst) w'->X):X:=by
 have e0:bO dS 33 #[.agg #[.int .i64 2,.int .i64 3,.slice A1 2 k1],.slice A2 3 k2] .normal=(base 33).at ⟨fy (aT4 (.agg #[.int .i64 2,.int .i64 3,.slice A1 2 k1]) (.slice A2 3 k2)),[]⟩ [.code (xH (eK 10 fV).1 Z0)]:=by
  rw[show xH (eK 10 fV).1 Z0=fV from kj 10 fV,enter_at (P:=dS) (c:=fV) _ Try.func33 rfl,<-aT1];rfl
 rw[e0]at hL;refine LR.pieces tO rfl Cu Jw (fun a2 w2 hd hN hL=>?_) (fun _ _ _ _ h _=>h.elim) (eK 10 fV).1 (fun c hc=>List.all_eq_true.1 Mj c hc) _ _ rfl hL (as3 rfl rfl hc hsh);obtain⟨hs,a,b,b1,b2,b3,t2,t9,t11,t17,t18,t19,hT,hC⟩:=hN;obtain⟨T,df⟩:=a2;obtain rfl:df=[]:=hd;obtain⟨y,rfl,hy⟩:=jP T hs;have y2:=hy _ _ t2;have y9:=hy _ _ t9;have y11:=hy _ _ t11;have Zi:=hy _ _ t17;have Zh:=hy _ _ t18;have y19:=hy _ _ t19;have hL2:=LR.seq (show LR dS g₀ w₀ (G ((base 33).at ⟨fy y,[]⟩ [.code (.seq (.seq XP JB) Cx)]) cst) w2 from hL);have hL3:=LR.seq hL2;obtain⟨a4,w4,h4|⟨_,h4,_⟩⟩:=LR.code tO (fun e a w h=>.inl h.1) hL3 rfl rfl Mh Cu Jw (as8 (y:=y) Zi Zh y19 hC)
 ·obtain⟨⟨-,hd,hs,t2,t9,t11,t17,t18,t199,t200,t201,hb4,bs1⟩,hL4⟩:=h4;obtain⟨T,df⟩:=a4;obtain rfl:df=[]:=hd;obtain⟨z,rfl,hz⟩:=jP T hs;have hL5:=LR.Rj (show LR dS g₀ w₀ (G ((base 33).at ⟨fy z,[]⟩ [.code (.block 4 (.loop uz)),.code Cx]) cst) w4 from hL4);refine JA (W:=w) (GB:=w.heap.size) (A1:=A1) (k1:=k1) (a:=a) (b:=b) (b1:=b1) (b2:=b2) (b3:=b3) (v2:=y 2) (v9:=y 9) (v11:=y 11) (v17:=y 17) (v18:=y 18) y2 y9 (fun u w5 K hL4 hL6=>?_) 13 0 uz z w4 rfl rfl ⟨hz _ _ t2,hz _ _ t9,hz _ _ t11,hz _ _ t17,hz _ _ t18,hz _ _ t199,hz _ _ t200,hz _ _ t201⟩ ⟨hT.later hb4,bs1,hC.later hb4⟩ hL5;rw[<-kj 4 Cx]at hL6;refine LR.pieces tO rfl Cu Jw (fun a7 w7 hd hN hL=>?_) (fun _ _ _ _ h _=>h.elim) (eK 4 Cx).1 (fun c hc=>List.all_eq_true.1 Mi c hc) _ _ rfl hL6 (as4 (W:=w) (K.a2.trans y2) (K.a9.trans y9) (K.Vw.trans y11) (K.Y1.trans Zi) (K.Y0.trans Zh) hL4);obtain⟨hs,t2,t28,t29,lb,t27,hP⟩:=hN;obtain⟨T,df⟩:=a7;obtain rfl:df=[]:=hd;obtain⟨z,rfl,hz⟩:=jP T hs;exact as6 ⟨(hz _ _ t2).trans (K.a2.trans y2),hz _ _ t27,hz _ _ t28,hz _ _ t29⟩ hP hL fun z w8 K8 hP8 hL8=>as5 K8 hP8 hL8 fun z w9 K9 hP9 hL9=>fin z lb w9 K9 hP9 hL9
 ·cases h4.1
end
end Kn
namespace Kn
open Go.RowKit Pl Mem Cc mJ nG mI DI Ey ng La
def F5(s:St)(msg:ByteArray)(l:List Cm)(k:Nat)(q:Int×Int):Int:=
 Zt q.1 q.2 (mh l (s.cs.getD 0 0) msg k) (QC (kM l l.length) k) s.share (l5 (KC l (s.cs.getD 0 0) msg l.length) (s.cs.getD 0 0) msg)
theorem BM(s:St)(msg:ByteArray)(l:List Cm)(k:Nat)(q:Int×Int):tM s msg l k q=F5 s msg l k q:=by
 unfold tM F5;rw[Cs,yx]
def xF:Int:=F5 Iq mK lK 0 (1,2)
def yF:Int:=F5 WI mK lK 1 (3,4)
theorem Lg:xK=xF:=BM _ _ _ _ _
theorem Le:yK=yF:=BM _ _ _ _ _
theorem xy:xK≠yK/\(0<=xK/\xK<1073741789)/\0<=yK/\yK<1073741789:=by
 have h:xF≠yF/\(0<=xF/\xF<1073741789)/\0<=yF/\yF<1073741789:=by decide+kernel
 rw[Lg,Le];exact h
theorem ah4:nM 1024 mK (iT lK 1024 mK) (kW xK yK)=true:=by
 have h:Ic 1024 mK (KC lK 1024 mK lK.length) (kW xF yF)=true:=by decide+kernel
 rw[qO,yx,Lg,Le];exact h
def yJ(nv cv:Int)(cs:List Int)(l:List Cm)(msg:ByteArray)(k:Nat):Bool:=
 decide (nv<1073741789)&&decide (WT 4 nv.toNat 2147483579=mY (NI l (cs.getD 0 0) msg k) (WT (EM cs (l.getD k .zero).id) (smul cv (QC (kM l l.length) k)).toNat 2147483579))
theorem rH(nv cv:Int)(cs:List Int)(l:List Cm)(msg:ByteArray)(k:Nat):iE nv cv cs l msg k=yJ nv cv cs l msg k:=by
 unfold iE yJ;rw[EN,Cs];by_cases h:nv<1073741789
 ·have hb:=uX cv (QC (kM l l.length) k);rw[rK 4 (m:=2147483579) (by decide) (by omega),rK (EM cs (l.getD k .zero).id) (m:=2147483579) (by decide) (by omega)]
 ·rw[decide_eq_false h,Bool.false_and,Bool.false_and]
def cK:Int:=l5 (iT lK 1024 mK) 1024 mK
def cF:Int:=l5 (KC lK 1024 mK lK.length) 1024 mK
theorem rights:(iE xK cK kG lK mK 0=true/\iE yK cK kG lK mK 1=true)/\iE yK cK kG lK mK 0=false/\iE xK cK kG lK mK 1=false:=by
 have h:(yJ xF cF kG lK mK 0=true/\yJ yF cF kG lK mK 1=true)/\yJ yF cF kG lK mK 0=false/\yJ xF cF kG lK mK 1=false:=by decide+kernel
 have hc:cK=cF:=by unfold cK cF;rw[yx]
 rw[rH,rH,rH,rH,Lg,Le,hc];exact h
section
open Hr (ja)
open Rag (mj sumTo)
theorem ba1:ja 2 3 kG lK mK 2=0:=by
 unfold ja;rw[if_neg (by rw[T4];simp),if_neg (by rw[Ct.1];simp),if_neg (by decide)];exact if_neg Ct.2
theorem bB9{rt:Nat->Bool}(h0:rt 0=true)(h1:rt 1=true):mj 2 3 kG lK mK [xK,yK] rt=⟨iT lK 1024 mK,kW xK yK,[],0⟩:=by
 have hw:PG.fS rt lK 2=[]:=by simp[PG.fS,h0,h1]
 have hs:sumTo rt [xK,yK] 2=kW xK yK:=by
  have hx:=xy.2.1;have hy:=xy.2.2;generalize xK=x at*;generalize yK=z at*;simp only[sumTo,h0,h1,if_true,List.getD_cons_zero,List.getD_cons_succ,Int.zero_add];rw[Int.emod_eq_of_lt hx.1 hx.2];unfold kW;rw[show IntKind.u64.wrap (x+z)=x+z from by rw[IntKind.wrap_u64];omega]
 unfold mj;rw[show([xK,yK]:List Int).length=2 from rfl,ba1,if_neg (by simp),show lK.length=2 from rfl,hw,if_pos rfl,hs];rfl
theorem bB8{rt:Nat->Bool}(h0:rt 0=false)(h1:rt 1=false):mj 2 3 kG lK mK [yK,xK] rt=⟨0,0,[1,3],14⟩:=by
 have hw:PG.fS rt lK 2=[1,3]:=by simp[PG.fS,h0,h1,lK,c1,c2]
 unfold mj;rw[show([yK,xK]:List Int).length=2 from rfl,ba1,if_neg (by simp),show lK.length=2 from rfl,hw,if_neg (by simp)]
end
end Kn
namespace Cc
open Go.Conc Go.ConcN
open Go.ConcM (OsLater)
theorem Qx{P:au}{main:Bool}{b:ai}{a:Act}{kk:List Item}{cs:List ai}{w:ae}{ops:Array Oper}{i:Nat}{rest:List Nat}{o:Oper}{v:af}{ob:Obj}(ho:ops[i]?=some o)(hw:Region.wanted o (yielded ops a.tmps)=true)(hk:b.kind≠ .early)
  (h:(ax a.eval o).run P w=.ok (.value v) (w.alloc ob)/\(ax a.eval o).events P w #[]=#[]):
  stepG P main (G (b.at a (.inRegion ops (i::rest)::kk)) cs) w=.go (G (b.at (a.put o.dst v) (.inRegion ops rest::kk)) cs) (w.alloc ob) #[]:=by
 rw[stepG_value ho hw hk h.1];unfold listed;rw[h.2,seen_none]
section
variable{q:iK}{dm num:Nat}{K:List (Nat×Obj)}{Ch:Nat->ah->St eD->Prop}{P:au}(hP:q.P=P){b:ai}{a:Act}{kk:List Item}{cs:List ai}{ops:Array Oper}{j:Nat}{rest:List Nat}{o:Oper}
include hP
theorem TT.aN5{st:St eD}(hA:kv dm num K st){V:Nat->af}{ob:Obj}(ho:ops[j]?=some o)(hw:Region.wanted o (yielded ops a.tmps)=true)(hk:b.kind≠ .early)
  (hf:∀w:ae,(ax a.eval o).run P w=.ok (.value (V w.heap.size)) (w.alloc ob)/\(ax a.eval o).events P w #[]=#[])
  (h:∀dY bl,kv dm num ((bl,ob)::K) dY->Inv q dY->(∀l,st.γ.ex 0 l->dY.γ.ex 0 l)->(∀off,dY.γ.ex 0 (ca bl off))->(∀b o,(b,o)∈K->b≠bl)->TT (cfg q) 0 Ch (G (b.at (a.put o.dst (V bl)) (.inRegion ops rest::kk)) cs) dY):TT (cfg q) 0 Ch (G (b.at a (.inRegion ops (j::rest)::kk)) cs) st:=by
 refine TT.Wy hP hA fun dV hr dX hi=>?_;have hsz:(dV.w.alloc ob).heap.size=dV.w.heap.size+1:=Array.size_push ..;have hold:∀b,b<dV.w.heap.size->(dV.w.alloc ob).heap[b]?=dV.w.heap[b]?:=fun b hb=>(cY ..).trans (if_neg (by omega));have hnew:(dV.w.alloc ob).heap[dV.w.heap.size]?=some ob:=(cY ..).trans (if_pos rfl);refine⟨_,_,_,(dV.w.heap.size,ob)::K,Qx ho hw hk (hf dV.w),rfl,⟨by omega,fun e he=>by simp at he,rfl,rfl,fun b hb=>.inl (hold b hb)⟩,fun b o' hb=>?_,fun dY _ eo eN hex zL=>h dY _ eo eN (fun l hl=>hex l (hr.ex (.inl rfl) l hl)) (fun off=>zL _ off nle (by omega)) (fun b o' hb e=>?_)⟩
 ·rcases List.mem_cons.1 hb with e|hb
  ·cases e;exact⟨hnew,.inr (.inr nle),fun hd=>by have:=hi.base.dead _ hd;omega⟩
  ·exact(dX.keeps hold) b o' hb
 ·have:=lt_of_block (dX.fz _ _ hb).1
  omega
theorem TT.aS3{S:ak->Bool}(F:nL P S){f:ak}(hS:S f=true){st:St eD}(hA:kv 0 num K st)(hI:Inv q st)(hg0:q.P.globals.size=0){args:Array af}{v:af}(ha:AR (fun f=>S f=true) (ze (Cc.DG K)) args args)(hv:fI 4 v=true/\iV 4 v=true)
  (hC:∀w,Calls P f args w fun e w'=>e=.returned v){c:ai}{cs:List ai}(fin:∀st',kv 0 num K st'->Inv q st'->TT (cfg q) 0 Ch (G (c.finish v) cs) st'):TT (cfg q) 0 Ch (G (bO P f args .normal) (c::cs)) st:=by
 obtain⟨ρ,a,s,h1,h2,h3,hH,hV,hro,τ,d,rfl⟩:=Sh.ZX (S:=S) (X:=fun _=>False) (Ds:=ES) (Φ:=fun a _=>a=⟨args,[]⟩) (a:=⟨args,[]⟩) (a':=⟨args,[]⟩) (hA.Zx hg0) hI (by rw[pL];exact ha) rfl rfl rfl;rw[pL]at h1;subst hP;refine E5 (C:=cfg q) F (BX S (uY (Cc.DG K)) st hI) (R:=fun v' _=>v'=v) hS h1 hH hV hro (fun τ d=>(hC _).mono fun e w' h=>⟨v,h,rfl⟩) ?_;rintro ρ' v1 v' s' st' he hvr ⟨_,_,hv1⟩ RP QP;have hv1:v1=v:=hv1;subst hv1;obtain rfl:=kL hvr hv;exact fin st' (hA.mn QP.2.2.2.1 fun _ _ _ h=>h) QP.2.1
end
end Cc
namespace Cc
open Go.Conc Go.RowKit
def aM6:List ak:=[28,41,42,59,65,68,47,89,121]
def vS(f:ak):Bool:=aM6.contains f
theorem aM7:nL dS vS:=Ap (L:=aM6) kr
end Cc
namespace Kn
open Go.Conc Go.ConcN Go.ConcM Go.RowKit Go.Conc.Lib Go.ConcR.Gen
open Go.ConcR (KK wgBlock WgAt stA smA rd wr mk DC0)
open Cc
open Pl Mem mJ nG mI DI Ey ng La
open Hr (gH ja ru)
open Rag (mj sumTo Ans Ans.val)
noncomputable def Jx:Code:=(eK 18 fV).2
noncomputable def OH:Code:=(eK 19 fV).2
noncomputable def Z7:Code:=match zK with|.seq a _=>a|_=>.skip
noncomputable def Z6:Code:=match Jx with|.seq a _=>a|_=>.skip
theorem XN(r z:Int){bl:Nat}(w:ae)(h:w.heap[bl]?=some (.cells #[.int .u64 r,.int .u64 z] 47 (0,0))):
  (aT 47 (.pointer (some ⟨bl,0,none⟩))).run dS w=.ok (.agg #[.int .u64 r,.int .u64 z]) w/\∀e∈(aT 47 (.pointer (some ⟨bl,0,none⟩))).events dS w #[],∃off',e=⟨.cell ⟨bl,off',none⟩,false,false⟩:=by
 have c0:w.cell? ⟨bl,0,none⟩=some (.int .u64 r):=by simp[World.cell?,h]
 have c1:w.cell? ⟨bl,1,none⟩=some (.int .u64 z):=by simp[World.cell?,h]
 constructor
 ·simp[go_sem,c0,c1]
 ·intro e he;simp[go_sem,c0,c1]at he;rcases he with rfl|rfl<;>exact⟨_,rfl⟩
theorem PQ{S:ak->Bool}{ρ:Nat->Option Nat}(R Z:Int):AR (fun f=>S f=true) ρ #[.int .u64 1024,.string mK,.agg #[.int .u64 R,.int .u64 Z]] #[.int .u64 1024,.string mK,.agg #[.int .u64 R,.int .u64 Z]]:=by
 refine⟨rfl,fun i v v' e1 e2=>?_⟩;rw[e1]at e2;cases e2;match i,e1 with
 |0,e1=>cases e1;exact .int _ _
 |1,e1=>cases e1;exact .string _
 |2,e1=>
  cases e1;refine .agg rfl fun j u u' f1 f2=>?_;rw[f1]at f2;cases f2;match j,f1 with
  |0,f1=>cases f1;exact .int _ _
  |1,f1=>cases f1;exact .int _ _
  |j+2,f1=>simp at f1
 |i+3,e1=>simp at e1
theorem TP:Try.f33.results=#[.tmp 4]:=kr
theorem TT.aN7{q:iK}{P:au}(hP:q.P=P){Ch:Nat->ah->St eD->Prop}{st:St eD}{b c:ai}{a:Act}{todo:List Item}{bs:List ai}{fn:Func}{v:af}(hk:b.kind=.normal)(hd:a.defers=[])(hf:P.funcs[b.fn]?=some fn)(hr:∀w,(bR fn a.tmps).run P w=.ok v w)(he:∀w,(bR fn a.tmps).events P w #[]=#[])
  (h:TT (cfg q) 0 Ch (G (c.finish v) bs) st):TT (cfg q) 0 Ch (G {b.at a todo with mode:=.returning} (c::bs)) st:=by
 subst hP;refine TT.lO rfl 4 fun w₀ hF=>Goes.step rfl fun w₁ aU4=>?_;show(stepG q.P (0==0) (G {b.at a todo with mode:=.returning} (c::bs)) w₁).goes _;rw[mq (.inl hk) hd hf (hr w₁),if_pos hk,he,seen_none];exact⟨⟨rfl,rfl⟩,Goes.stop fun w₂ _=>⟨rfl,h⟩⟩
section
variable{q:iK}(hP:q.P=dS){num:Nat}{K:List (Nat×Obj)}{A1:Option Addr}{k1 lb GB:Nat}{cc:ai}{bs:List ai}
include hP
theorem TT.Nt{st:St eD}{Ch:Nat->ah->St eD->Prop}(hA:kv 0 num K st){b:ai}{a:Act}{kk:List Item}{cs:List ai}{ops:Array Oper}{j:Nat}{rest:List Nat}{o:Oper}{t:aj}{n:Nat}{ps:Array (Nat×Operand)}{ob:Obj}(ho:ops[j]?=some o)(hw:Region.wanted o (yielded ops a.tmps)=true)(hk:b.kind≠ .early)(hop:o.op=.buildSlice t n ps)
  (hf:∀w:ae,(Instr.buildSlice t n (ps.map fun p=>(p.1,a.eval p.2))).run dS w=.ok (.slice (some ⟨w.heap.size,0,none⟩) 2 2) (w.alloc ob)/\(Instr.buildSlice t n (ps.map fun p=>(p.1,a.eval p.2))).events dS w #[]=#[])
  (h:∀dY bl,kv 0 num ((bl,ob)::K) dY->Inv q dY->(∀l,st.γ.ex 0 l->dY.γ.ex 0 l)->(∀off,dY.γ.ex 0 (ca bl off))->(∀b o,(b,o)∈K->b≠bl)->TT (cfg q) 0 Ch (G (b.at (a.put o.dst (.slice (some ⟨bl,0,none⟩) 2 2)) (.inRegion ops rest::kk)) cs) dY):TT (cfg q) 0 Ch (G (b.at a (.inRegion ops (j::rest)::kk)) cs) st:=by
 refine TT.aN5 hP hA (V:=fun n=>.slice (some ⟨n,0,none⟩) 2 2) (ob:=ob) ho hw hk (fun w=>?_) h;have e:ax a.eval o=(do pure (.value (<-Instr.buildSlice t n (ps.map fun p=>(p.1,a.eval p.2))))):=by unfold ax;rw[hop]
 obtain⟨f1,f2⟩:=hf w;rw[e];constructor
 ·simp[f1]
 ·simp[f1,f2]
theorem a99{st:St eD}(hA:kv 0 num K st)(hI:Inv q st)(hg0:q.P.globals.size=0)(hG:q.tG=137)(hZ:q.tZ=76)(hR:q.tR=4)(hW:q.tW=116)(h1:oM K .u64 A1 k1 kG)(h2:z7 K (some ⟨lb,0,none⟩) 2 lK)(x y:Int)(bl:Nat)(hb:(bl,Obj.cells #[.int .u64 x,.int .u64 y] 40 (0,0))∈K)(hx:0<=x/\x<18446744073709551616)(hy:0<=y/\y<18446744073709551616)
  {an:Ans}(han:mj 2 3 kG lK mK [x,y] (fun k=>iE (([x,y]:List Int).getD k 0) (l5 (iT lK (kG.getD 0 0) mK) (kG.getD 0 0) mK) kG lK mK k)=an)
  (fin:∀(A:Option Addr) (c:Nat) dV Xc K2,kv 0 Xc K2 dV->Inv q dV->(∀b o,(b,o)∈K->(b,o)∈K2)->oM K2 .i64 A c an.ids->TT (cfg q) 0 (TW (cfg q)) (G (cc.finish (an.val (.slice A an.ids.length c))) bs) dV):
  TT (cfg q) 0 (TW (cfg q)) (G (bO dS 27 #[.agg #[.int .i64 2,.int .i64 3,.slice A1 2 k1],.string mK,.slice (some ⟨lb,0,none⟩) 2 2,.slice (some ⟨bl,0,none⟩) 2 2] .normal) (cc::bs)) st:=by
 have h3:oM K .u64 (some ⟨bl,0,none⟩) 2 [x,y]:=⟨Nat.le_refl _,.inr ⟨bl,0,rfl,_,_,_,hb⟩,fun _=>⟨bl,0,rfl,_,_,_,hb,fun i hi=>by
  have:i=0\/i=1:=by simp at hi<;>omega
  rcases this with rfl|rfl<;>rfl⟩⟩
 have Ua:=hA.Zx hg0;have hzb:∀k,k<([x,y]:List Int).length->0<=([x,y]:List Int).getD k 0/\([x,y]:List Int).getD k 0<18446744073709551616:=fun k hk=>by
  have:k=0\/k=1:=by simp at hk<;>omega
  rcases this with rfl|rfl
  ·exact hx
  ·exact hy
 refine a98 hP hA hI hG hZ hR hW (ns:=([x,y]:List Int).length) (md:=Cc.DG K) (sw:=l7 aS st.w (Cc.DG K)) (og ..) Ua.lt (fun k1 k2 k3 k4=>Sh.ZX Ua hI k1 k2 k3 k4) (ar3 (cs:=kG) (l:=lK) (zs:=[x,y]) hA h1.2.1 h2.2.1 h3.2.1) (h1.nums hA) JD (by decide) (h2.iJ hA) (by decide) (vC OG) (by simp) (by decide) (h3.sh hA) h3.1 hzb fun v fx bw1 fw=>?_;obtain⟨A,c,num',K',rfl,eJ,aU8,hnk⟩:=M6 (fun k hk=>(hzb k hk).1) bw1;rw[han]at hnk ⊢;exact fin A c fx num' K' eJ fw aU8 hnk
theorem aT5{st:St eD}(hA:kv 0 num K st)(hI:Inv q st)(hg0:q.P.globals.size=0)(hG:q.tG=137)(hZ:q.tZ=76)(hR:q.tR=4)(hW:q.tW=116)(h1:oM K .u64 A1 k1 kG)(h2:z7 K (some ⟨lb,0,none⟩) 2 lK)(hK4:(GB,.cells #[.int .i64 2,.int .i64 3,.slice A1 2 k1] 31 (0,0))∈K)
  {z:Nat->af}(Kz:Kq (.pointer (some ⟨GB,0,none⟩)) (.slice (some ⟨lb,0,none⟩) 2 2) (.int .u64 xK) (.int .u64 yK) z)
  (fin:∀dV Xc K2,kv 0 Xc K2 dV->(∀b o,(b,o)∈K->(b,o)∈K2)->Inv q dV->TT (cfg q) 0 (TW (cfg q)) (G (cc.finish (.bool true)) bs) dV):
  TT (cfg q) 0 (TW (cfg q)) (G ((base 33).at ⟨fy z,[]⟩ [.code zK]) (cc::bs)) st:=by
 have HA1:=ay (show mj 2 3 kG lK mK [xK,yK] (fun k=>iE (([xK,yK]:List Int).getD k 0) (l5 (iT lK (kG.getD 0 0) mK) (kG.getD 0 0) mK) kG lK mK k)=⟨iT lK 1024 mK,kW xK yK,[],0⟩from bB9 rights.1.1 rights.1.2);have HA2:=ay (show mj 2 3 kG lK mK [yK,xK] (fun k=>iE (([yK,xK]:List Int).getD k 0) (l5 (iT lK (kG.getD 0 0) mK) (kG.getD 0 0) mK) kG lK mK k)=⟨0,0,[1,3],14⟩from bB8 rights.2.1 rights.2.2);have tH:Hid ((0<=xK/\xK<18446744073709551616)/\(0<=yK/\yK<18446744073709551616)):=ay (by have:=xy.2;omega);have HRB:=ay (Rag.YZ lK 1024 mK);have HZB:Hid (0<=kW xK yK/\kW xK yK<1073741789):=ay (Nu xK yK);have HV:=ay ah4;generalize xK=x at*;generalize yK=y at*;generalize iT lK 1024 mK=R at*;generalize kW x y=Z at*;have hd2:∀A c,(∀a,Value.slice A 2 c≠ .agg a)/\∀a,Value.slice A 2 c≠ .tuple a:=fun A c=>⟨fun a e=>(by cases e),fun a e=>(by cases e)⟩;have HS0:=ay (fun(b:Nat) (o:Obj) (h:(b,o)∈K)=>h);have hA0:=hA;have hI0:=hI;obtain⟨AT,C6⟩:∃AT,AT=Jx:=⟨_,rfl⟩;have e17:zK=.seq Z7 Jx:=rfl;rw[e17,<-C6];have KS:=ay C6;have z2:=Kz.a2;have z27:=Kz.a27;have z28:=Kz.a28;have z29:=Kz.a29;clear hA hI C6 e17;simp only[Z7,zK,fV,eK,Try.f33,aJ,fy,z2,z27,z28,z29];clear z2 z27 z28 z29 Kz;refine TT.lO hP 60 fun w₀ hF=>?_;repeat w_go eQ
 refine stp rfl ?_;clear hF w₀;refine TT.Ls hP hA0 (bl:=GB) (off:=0) (v:=.agg #[.int .i64 2,.int .i64 3,.slice A1 2 k1]) rfl rfl (by k_ne) rfl (by simp[aU]) (HS0.out _ _ hK4) (fun w hw=>yf 2 3 _ (hd2 A1 k1) w hw) fun b33 a43 bx6 _=>?_;walk_nrm;refine TT.lO hP 60 fun w₀ hF=>?_;repeat w_go eQ
 refine stp rfl ?_;clear hF w₀;refine TT.Nt hP a43 (ob:=.cells #[.int .u64 x,.int .u64 y] 40 (0,0)) rfl rfl (by k_ne) rfl (fun w=>by simpa [aU]using MQ x y w) fun b31 bl0 a42 a30 hx0 bv3 bt5=>?_;walk_nrm;refine TT.lO hP 60 fun w₀ hF=>?_;refine stp rfl ?_;clear hF w₀;have Y7:=ay (fun b o (h:(b,o)∈K)=>(aR (bl0,Obj.cells #[.int .u64 x,.int .u64 y] 40 (0,0)) (HS0.out b o h)));clear hA0 hI0 a43 bx6 hx0 bv3 bt5 HS0;refine TT.Sr hP (f:=27) (args:=#[.agg #[.int .i64 2,.int .i64 3,.slice A1 2 k1],.string mK,.slice (some ⟨lb,0,none⟩) 2 2,.slice (some ⟨bl0,0,none⟩) 2 2]) rfl rfl (by k_ne) (fun w=>?_) (fun w=>?_) ?_
 ·unfold ax;simp[resolve,cG,invoke,callFunc,Try.func27,Try.f27,aU,mK]
 ·unfold ax;simp[resolve,cG,invoke,callFunc,Try.func27,Try.f27,aU,mK]
 refine a99 hP a42 a30 hg0 hG hZ hR hW (h1.mono Y7.out) (h2.mono Y7.out) x y bl0 (dh ..) tH.out.1 tH.out.2 HA1.out fun A0 c0 b30 b62 K0 a41 bx5 hs0 hn0=>?_;have bb9:=ay (fun b o (h:(b,o)∈K)=>hs0 b o (Y7.out b o h));clear a42 a30 hs0 Y7;simp only[Ans.val];have HN0:=ay hn0;clear hn0;rw[dI];walk_nrm;refine TT.lO hP 60 fun w₀ hF=>?_;repeat w_go eQ
 refine stp rfl ?_;clear hF w₀;refine TT.aj6 hP a41 rfl rfl (by k_ne) rfl (fun w=>Bv w) fun fJ b9 eF fN OQ CS CK _=>?_;walk_nrm;refine TT.Wx hP eF (K':=(b9,.cells #[.int .u64 R,.int .u64 Z] 47 (0,0))::K0) (bl:=b9) (off:=0) (v:=.agg #[.int .u64 R,.int .u64 Z]) (ob:=.cells #[.int .u64 0,.int .u64 0] 47 (0,0)) (ob':=.cells #[.int .u64 R,.int .u64 Z] 47 (0,0)) rfl rfl (by k_ne) rfl (by simp[aU]) (by simp[aU]) (dh ..) CS (fun b o hb=>?_) (fun w hw=>Al R Z w hw) fun eT fh gB _=>?_
 ·rcases List.mem_cons.1 hb with e|hb
  ·cases e;exact .inl ⟨rfl,rfl⟩
  ·exact .inr ⟨CK b o hb,aR _ hb⟩
 clear eF fN OQ CS CK a41 bx5;have HS5:=ay (fun b o (h:(b,o)∈K)=>(aR (b9,Obj.cells #[.int .u64 R,.int .u64 Z] 47 (0,0)) (bb9.out b o h)));clear bb9;walk_nrm;refine TT.lO hP 60 fun w₀ hF=>?_;repeat w_go eQ
 refine stp rfl ?_;clear hF w₀;obtain rfl:=KS.out;obtain⟨BT,hBT⟩:∃BT,BT=OH:=⟨_,rfl⟩;have e18:Jx=.seq Z6 OH:=rfl;rw[e18,<-hBT];have HBT:=ay hBT;clear hBT e18 KS;simp only[Z6,Jx,fV,eK,Try.f33,aJ];refine TT.lO hP 60 fun w₀ hF=>?_;repeat w_go eQ
 refine stp rfl ?_;clear hF w₀;refine TT.Ls hP fh (bl:=b9) (off:=0) (v:=.agg #[.int .u64 R,.int .u64 Z]) rfl rfl (by k_ne) rfl (by simp[aU]) (dh ..) (fun w hw=>XN R Z w hw) fun gN eY gu _=>?_;clear fh gB;walk_nrm;refine TT.lO hP 60 fun w₀ hF=>?_;refine stp rfl ?_;clear hF w₀;refine TT.Sr hP (f:=28) (args:=#[.int .u64 1024,.string mK,.agg #[.int .u64 R,.int .u64 Z]]) rfl rfl (by k_ne) (fun w=>?_) (fun w=>?_) ?_
 ·unfold ax;simp[resolve,cG,invoke,callFunc,Try.func28,Try.f28,aU,mK]
 ·unfold ax;simp[resolve,cG,invoke,callFunc,Try.func28,Try.f28,aU,mK]
 refine TT.aS3 hP aM7 (by decide) eY gu hg0 (v:=.bool true) (PQ R Z) (by simp[fI,iV]) (fun w=>(uV 1024 mK R Z w (by decide) (by omega) (by have:=HRB.out;omega) (by have:=HZB.out;omega)).mono fun e w' h=>by rw[h.1,HV.out]) fun gM iA lV=>?_;clear eY gu;rw[dI];walk_nrm;refine TT.lO hP 60 fun w₀ hF=>?_;repeat w_go eQ
 refine stp rfl ?_;clear hF w₀;obtain rfl:=HBT.out;clear HBT;have e19:OH=(eK 19 fV).2:=rfl;simp only[OH,fV,eK,Try.f33,aJ];clear e19;refine TT.lO hP 60 fun w₀ hF=>?_;repeat w_go eQ
 refine stp rfl ?_;clear hF w₀;refine TT.Ls hP iA (bl:=GB) (off:=0) (v:=.agg #[.int .i64 2,.int .i64 3,.slice A1 2 k1]) rfl rfl (by k_ne) rfl (by simp[aU]) (HS5.out _ _ hK4) (fun w hw=>yf 2 3 _ (hd2 A1 k1) w hw) fun b29 a38 bx4 _=>?_;walk_nrm;refine TT.lO hP 60 fun w₀ hF=>?_;repeat w_go eQ
 refine stp rfl ?_;clear hF w₀;refine TT.Nt hP a38 (ob:=.cells #[.int .u64 y,.int .u64 x] 40 (0,0)) rfl rfl (by k_ne) rfl (fun w=>by simpa [aU]using MQ y x w) fun b28 bl7 a35 a19 hx7 bv2 bt4=>?_;walk_nrm;refine TT.lO hP 60 fun w₀ hF=>?_;refine stp rfl ?_;clear hF w₀;have Y6:=ay (fun b o (h:(b,o)∈K)=>(aR (bl7,Obj.cells #[.int .u64 y,.int .u64 x] 40 (0,0)) (HS5.out b o h)));clear iA lV a38 bx4 hx7 bv2 bt4 HS5;refine TT.Sr hP (f:=27) (args:=#[.agg #[.int .i64 2,.int .i64 3,.slice A1 2 k1],.string mK,.slice (some ⟨lb,0,none⟩) 2 2,.slice (some ⟨bl7,0,none⟩) 2 2]) rfl rfl (by k_ne) (fun w=>?_) (fun w=>?_) ?_
 ·unfold ax;simp[resolve,cG,invoke,callFunc,Try.func27,Try.f27,aU,mK]
 ·unfold ax;simp[resolve,cG,invoke,callFunc,Try.func27,Try.f27,aU,mK]
 refine a99 hP a35 a19 hg0 hG hZ hR hW (h1.mono Y6.out) (h2.mono Y6.out) y x bl7 (dh ..) tH.out.2 tH.out.1 HA2.out fun A7 c7 bn5 bp6 K7 by3 bx3 hs7 hn7=>?_;have bD5:=ay (fun b o (h:(b,o)∈K)=>hs7 b o (Y6.out b o h));clear a35 a19 hs7 Y6;simp only[Ans.val];clear hn7;rw[dI];walk_nrm;refine TT.lO hP 60 fun w₀ hF=>?_;repeat w_go eQ
 refine stp rfl ?_;clear hF w₀;exact TT.aN7 hP rfl rfl Try.func33 (fun w=>by unfold bR;rw[TP];simp[go_sem]) (fun w=>by unfold bR;rw[TP];simp[go_sem]) (fin bn5 bp6 K7 by3 bD5.out bx3)
end
end Kn
namespace aD5
open Go.Conc Go.ConcN Go.ConcM Go.RowKit Go.Conc.Lib Go.ConcR.Gen
open Go.ConcR (KK wgBlock WgAt stA smA rd wr mk DC0)
open Cc lF
open Pl Mem mJ nG mI ng
open Hr (gH)
open Kn
open Go.ConcM (OsLater)
theorem Sz{f:ak}{args:Array af}{W w1:ae}{g:ah}(hL:LR dS (G (bO dS f args .normal) []) W g w1)(hb:gH W.heap.size W w1)(hT:∀st,kv 0 1 (Ai w1) st->Inv (WU W) st->TT (cfg (WU W)) 0 (TW (cfg (WU W))) g st):Runs f args W:=by
 obtain⟨n,t,h1,h2,h3,h4⟩:=hL;exact PW (q:=WU W) (n:=n) (w₁:=w1) (t₁:=t) h1 h2 h3 h4 (by show Try.prog.globals.size<=_;rw[J1];omega) (by show OsLater W.os w1.os;rw[hb.2.2.1];exact .refl _) hb.2.2.2 fun st hw hI hK hex hnd=>hT st (hK _ fun b o h=>jR.1 h) hI
theorem a83{W w1:ae}(hb:gH W.heap.size W w1){num:Nat}{K:List (Nat×Obj)}{st:St eD}(hA:kv 0 num K st)(hs:∀b o,(b,o)∈Ai w1->(b,o)∈K)(hI:Inv (WU W) st):(WU W).Post (.bool true) st.w:=
 ⟨rfl,OJ hA (fun b o h=>hs b o (jR.2 ((hb.2.1 b (lt_of_block (jR.1 h))).trans (jR.1 h)))) hI⟩
theorem TQ:(eK 6 iZ).1.all (fun c=>Sg.fin (vV.items 9 (some 0) [.code c]))=true:=kr
theorem at6:vV.uI 9=false:=kr
theorem aT7:vV.fs 9=[]:=kr
theorem T3:Sg.fin (vV.items 32 (some 0) [.code lS])=true:=kr
theorem au8:vV.uI 32=false:=kr
theorem aT8:vV.fs 32=[]:=kr
theorem at4:Try.f9.results=#[.tmp 0]:=kr
theorem at5:bO dS 9 #[] .normal=(base 9).at ⟨jK fun _=>av,[]⟩ [.code (xH (eK 6 iZ).1 knT)]:=by
 rw[show xH (eK 6 iZ).1 knT=iZ from kj 6 iZ,enter_at (P:=dS) (c:=iZ) _ Try.func9 rfl];kernel_rfl
theorem av2{g₀:ah}{w₀ w:ae}{X:Prop}{c:ai}{bs:List ai}(hL:LR dS g₀ w₀ (G (bO dS 32 #[] .normal) (c::bs)) w)(fin:∀w',Below w.heap.size w w'->LR dS g₀ w₀ (G (c.finish (.bool true)) bs) w'->X):X:=by
 have e0:bO dS 32 #[] .normal=(base 32).at ⟨kS fun _=>av,[]⟩ [.code lS]:=by
  rw[enter_at (P:=dS) (c:=lS) _ Try.func32 rfl];rfl
 rw[e0]at hL;have hw:lS.wp dS (fun e a w'=>(e=.normal\/e=.ret)/\a.defers=[]/\(bR Try.f32 a.tmps).run dS w'=.ok (.bool true) w'/\Below w.heap.size w w') ⟨kS fun _=>av,[]⟩ w:=by
  refine Code.wp_mono (fun e a w' h=>?_) (br2 w);cases e with
  |normal=>
   obtain⟨h1,v,h2,h3,h4⟩:=h;cases h3;exact⟨.inl rfl,h1,h2,h4⟩
  |ret=>
   obtain⟨h1,v,h2,h3,h4⟩:=h;cases h3;exact⟨.inr rfl,h1,h2,h4⟩
  |panic c=>exact absurd h.2.1 (by simp)
  |outgrown=>exact absurd h.1 (by simp)
  |_=>exact h.elim
 obtain⟨a2,w2,⟨⟨-,h1,h2,h3⟩,h4⟩|⟨todo,⟨-,h1,h2,h3⟩,h4⟩⟩:=LR.code tO (fun e a w h=>h.1) hL rfl rfl T3 au8 aT8 hw
 ·exact fin w2 h3 (LR.back (h4.step stepG_end rfl) rfl h1 Try.func32 h2)
 ·exact fin w2 h3 (LR.back h4 rfl h1 Try.func32 h2)
theorem ca1{W:ae}:Runs 9 #[] W:=by
 have hL2:=Ma (W:=W) at5;refine LR.pieces tO rfl at6 aT7 (fun a2 w2 hd hN hL=>?_) (fun _ _ _ _ h _=>h.elim) (eK 6 iZ).1 (fun c hc=>List.all_eq_true.1 TQ c hc) _ _ rfl hL2 au0;clear hL2;obtain⟨gb,A1,k1,A2,k2,hK⟩:=hN;obtain⟨T,df⟩:=a2;obtain rfl:df=[]:=hd;obtain⟨y,rfl,hy⟩:=oa T hK.size;have y1:=hy _ _ hK.s1;have y2:=hy _ _ hK.s2;have HK:=ay hK;clear hK hy;simp only[knT,iZ,eK,Try.f9,aJ,jK,y1,y2]at hL;clear y1 y2;refine LR.road 40 hL fun w₀ hF=>?_;repeat w_go eQ
 refine Goes.stop (fun w₁ r₁=>⟨rfl,fun hL2=>?_⟩);clear hF w₀ hL;refine av2 (LR.call hL2 (f:=32) (args:=#[]) rfl rfl (by k_ne) (fun w=>?_) (fun w=>?_)) fun w3 hb3 hL3=>?_
 ·unfold ax;simp[resolve,cG,invoke,callFunc,Try.func32,Try.f32,aU]
 ·unfold ax;simp[resolve,cG,invoke,callFunc,Try.func32,Try.f32,aU]
 have hG3:=HK.out.kP.below hb3 HK.out.kP.lt;have hc3:=HK.out.cs.later hb3;have hs3:=HK.out.sh.later hb3;have Wf:=HK.out.bel.trans (hb3.mono HK.out.bel.size);clear hL2 hb3 HK;refine LR.road 40 hL3 fun w₀ hF=>?_;rw[dI];walk_nrm;repeat w_go eQ
 refine Goes.stop (fun w₁ r₁=>⟨rfl,fun hL2=>?_⟩);clear hF w₀ hL3;have hd2:(∀a,Value.slice A1 2 k1≠ .agg a)/\∀a,Value.slice A1 2 k1≠ .tuple a:=⟨fun a e=>(by cases e),fun a e=>(by cases e)⟩;have hL3:=LR.load (v:=.agg #[.int .i64 2,.int .i64 3,.slice A1 2 k1]) hL2 rfl rfl (by k_ne) rfl (yf 2 3 _ hd2 w3 hG3).1;clear hL2 hd2;refine LR.road 40 hL3 fun w₀ hF=>?_;walk_nrm;repeat w_go eQ
 refine Goes.stop (fun w₁ r₁=>⟨rfl,fun hL2=>?_⟩);clear hF w₀ hL3;refine as7 hc3 hs3 (LR.call hL2 (f:=33) (args:=#[.agg #[.int .i64 2,.int .i64 3,.slice A1 2 k1],.slice A2 3 k2]) rfl rfl (by k_ne) (fun w=>?_) (fun w=>?_)) fun z lb w4 Kz hP hL3=>?_
 ·unfold ax;simp[resolve,cG,invoke,callFunc,Try.func33,Try.f33,aU]
 ·unfold ax;simp[resolve,cG,invoke,callFunc,Try.func33,Try.f33,aU]
 have hb4:gH W.heap.size W w4:=⟨Nat.le_trans Wf.size hP.g.bel.1,fun b hb=>(hP.g.bel.2.1 b (Nat.lt_of_lt_of_le hb Wf.size)).trans (Wf.block b hb),hP.g.bel.2.2.1.trans Wf.os,hP.g.bel.2.2.2.trans Wf.output⟩;clear hL2 hG3 hc3 hs3 Wf;refine Sz hL3 hb4 fun st hA hI=>?_;obtain⟨-,q1⟩:=Qf hP.g.nums (by decide);have q2:z7 (Ai w4) (some ⟨lb,0,none⟩) 2 lK:=⟨Nat.le_refl _,.inr ⟨lb,0,rfl,_,_,_,jR.2 hP.l⟩,fun _=>⟨lb,0,rfl,_,_,_,jR.2 hP.l,fun j u hu=>by rw[Nat.zero_add,show yX=(eX lK).toArray from rfl,List.getElem?_toArray];exact hu⟩⟩;refine aT5 rfl hA hI J1 rfl rfl rfl rfl q1 q2 (jR.2 hP.g.kP) Kz fun dV Xc K2 dX OS eO=>?_;rw[dI];walk_nrm;refine TT.lO rfl 40 fun w₀ hF=>?_;repeat w_go eQ
 refine stp rfl ?_;exact YT rfl rfl rfl Try.func9 kr at4 rfl dX fun dY k1 k2=>a83 hb4 k1 OS k2
end aD5
end Go.Proofs.Ytpfpokjaeffbjaa
