/- Part of the proof: BlaLoop, BlaRest, BlaTail, BlaGo. -/
import Derived.Test.YtpfpokjaeffbjabBb27
import Derived.Test.YtpfpokjaeffbjabBb10
import Derived.Deep.RegionLaw
import Derived.Test.YtpfpokjaeffbjabBb24
import Derived.Test.YtpfpokjaeffbjabBb20
set_option linter.unusedVariables false
set_option linter.unusedSimpArgs false
set_option maxRecDepth 100000
set_option maxHeartbeats 16000000
namespace Go.Proofs.Ytpfpokjaeffbjab
namespace Bla
open Go.RowKit Pl ny oI ni JO JI Qy Qx qj Mem Ad oG mY Dlt Qz Cc
def lJ(y:Nat->Value):Array Value:=#[y 0,y 1,y 2,y 3,y 4,y 5,y 6,y 7,y 8,y 9,y 10,y 11,y 12,y 13,y 14,y 15,y 16,y 17,y 18,y 19,y 20,y 21,y 22,y 23,y 24,y 25,y 26,y 27,y 28,y 29,y 30,y 31,y 32,y 33,y 34,y 35,y 36,y 37,y 38,y 39,y 40,y 41,y 42,y 43,y 44,y 45,y 46,y 47,y 48,y 49,y 50,y 51,y 52,y 53,y 54,y 55,y 56,y 57,y 58,y 59,y 60,y 61,y 62,y 63,y 64,y 65,y 66,y 67,y 68,y 69,y 70,y 71,y 72,y 73,y 74,y 75,y 76,y 77,y 78,y 79,y 80,y 81,y 82,y 83,y 84,y 85,y 86,y 87,y 88,y 89,y 90,y 91,y 92,y 93,y 94,y 95,y 96,y 97,y 98,y 99,y 100,y 101,y 102,y 103,y 104,y 105,y 106,y 107,y 108,y 109,y 110,y 111,y 112,y 113,y 114,y 115,y 116,y 117,y 118,y 119,y 120,y 121,y 122,y 123,y 124,y 125,y 126,y 127,y 128,y 129,y 130,y 131,y 132,y 133,y 134,y 135,y 136,y 137,y 138,y 139,y 140,y 141,y 142,y 143,y 144,y 145,y 146]
theorem y7(T:Array Value)(h:T.size=147):∃y:Nat->Value,T=lJ y/\∀i v,T[i]?=some v->y i=v:=by
 refine⟨fun i=>T.getD i undef,?_,fun i v hv=>?_⟩
 ·have e:T=((List.range 147).map fun i=>T.getD i undef).toArray:=by
   refine Array.ext (by simp[h]) fun i h1 h2=>?_
   simp[Array.getD,h1]
  exact e.trans rfl
 ·simp only[Array.getD];split
  ·rename_i hlt;rw[Array.getElem?_eq_getElem hlt]at hv;exact Option.some.inj hv
  ·rename_i hlt;rw[Array.getElem?_eq_none (by omega)]at hv;cases hv
theorem ac6{w:World}{base:Nat}{e:TypeId}{size n g cap:Nat}{xs:List Value}(h:w.ownsRow base e size (.slice (some ⟨g,0,none⟩) n cap) n xs)(j:Nat)(u:Value):(w.setCell ⟨g,j,none⟩ u).ownsRow base e size (.slice (some ⟨g,0,none⟩) n cap) n (xs.set j u):=by
 refine⟨by rw[List.length_set];exact h.1,?_⟩;rcases h.2 with⟨hv,_⟩|⟨g',cap',cur,hv,hb,hh,hc,hm,hs,ht⟩
 ·cases hv
 ·simp only[Value.slice.injEq,Option.some.injEq,Addr.mk.injEq,and_true,true_and]at hv;obtain⟨rfl,rfl⟩:=hv;refine .inr ⟨g,cap,cur.setIfInBounds j u,rfl,hb,(show bZ w g e cur from hh).gK j u,hc,hm,by rw[Array.size_setIfInBounds];exact hs,?_⟩;rw[Array.toList_setIfInBounds,List.take_set,ht]
theorem Es{w:World}{base n g cap:Nat}{e:TypeId}{xs:List Value}(h:w.ownsRow base e 1 (.slice (some ⟨g,0,none⟩) n cap) n xs):(∀j u,xs[j]?=some u->w.cell? ⟨g,j,none⟩=some u)/\(∀i,w.frozen? ⟨g,i,none⟩=false)/\base<=g/\∃cur,bZ w g e cur:=by
 rcases h.2 with⟨hv,_⟩|⟨g',cap',cur,hv,hb,hh,hc,hm,hs,ht⟩
 ·cases hv
 ·simp only[Value.slice.injEq,Option.some.injEq,Addr.mk.injEq,and_true,true_and]at hv;obtain⟨rfl,rfl⟩:=hv;have hB:bZ w g e cur:=hh;refine⟨fun j u hu=>?_,fun i=>hB.frozen i,hb,cur,hB⟩;rw[hB.cell,<-Array.getElem?_toList];have hl:j<xs.length:=(List.getElem?_eq_some_iff.1 hu).1;rw[h.1]at hl;rw[<-ht,List.getElem?_take,if_pos hl]at hu;exact hu
structure ZL(w2:World)(B:Nat)(vC:Value)(bz kz len:Nat)(l:List Cm)(vW:Value)(want:List Int)(zs:List Value)(wr:World):Prop where
 bw:Below B w2 wr
 sz:B<=w2.heap.size
 ow:wr.ownsRow B 3 1 vW want.length (want.map (Value.int .i64))
 oc:wr.ownsRow B 37 3 vC len (aU l)
 oz:wr.ownsRow B 25 1 (.slice (some ⟨bz,0,none⟩) len kz) len zs
section
variable{w2 wr w':World}{B bz kz len:Nat}{vC vW:Value}{l:List Cm}{want:List Int}{zs:List Value}
theorem ZL.later(h:ZL w2 B vC bz kz len l vW want zs wr)(hb:Below wr.heap.size wr w'):ZL w2 B vC bz kz len l vW want zs w':=
 ⟨h.bw.trans (hb.mono (Nat.le_trans h.sz h.bw.size)),h.sz,own_below h.ow hb (Nat.le_refl _),own_below h.oc hb (Nat.le_refl _),own_below h.oz hb (Nat.le_refl _)⟩
theorem ZL.drew(h:ZL w2 B vC bz kz len l vW want zs wr):ZL w2 B vC bz kz len l vW want zs wr.drew:=h.later (Below.refl _ _).drew
theorem ZL.app(h:ZL w2 B vC bz kz len l vW want zs wr){cs:Array Value}{v':Value}{x:Int}(hg:(wr.alloc (.cells cs 3)).grownBy w' vW.ownBlock)(hown:w'.ownsRow B 3 1 v' (want.length+1) (want.map (Value.int .i64)++[.int .i64 x])):ZL w2 B vC bz kz len l v' (want++[x]) zs w':=
 ⟨below_grown h.bw h.ow (Nat.le_trans h.sz h.bw.size) hg,h.sz,by rw[List.length_append,List.map_append];exact hown,kJ h.oc h.ow (by decide) hg,kJ h.oz h.ow (by decide) hg⟩
theorem ZL.gK(h:ZL w2 B vC bz kz len l vW want zs wr)(j:Nat)(u:Value):ZL w2 B vC bz kz len l vW want (zs.set j u) (wr.setCell ⟨bz,j,none⟩ u):=by
 obtain⟨-,-,hb,cur,hB⟩:=Es h.oz;exact⟨h.bw.setCell hb u,h.sz,jT h.ow hB (by decide) j u,jT h.oc hB (by decide) j u,ac6 h.oz j u⟩
end
theorem Gy{len j:Nat}{F F':Nat->Value}{u:Value}(hj:j<len)(h1:F' j=u)(h2:∀k,k≠j->F' k=F k):((List.range len).map F).set j u=(List.range len).map F':=by
 refine List.ext_getElem (by simp) fun i i1 i2=>?_
 rw[List.getElem_set];simp only[List.getElem_map,List.getElem_range];split
 ·rename_i e;subst e;exact h1.symm
 ·rename_i e;exact(h2 i fun e'=>e e'.symm).symm
theorem KY{len j:Nat}{F:Nat->Value}(hj:j<len):((List.range len).map F)[j]?=some (F j):=by
 rw[List.getElem?_map,List.getElem?_range hj];rfl
theorem vO:(Try.prog.info? 3).map (fun i=>(i.zero,i.size,i.bytes))=some (some (.int .i64 0),1,8):=by kernel_rfl
theorem Kr(bd:Nat->Bool)(is:List Nat):∀k,(iq bd is k).length<=k
 |0=>Nat.le_refl _
 |k+1=>by
  have:=Kr bd is k;rw[iq];split
  ·rw[List.length_append,List.length_singleton];omega
  ·omega
structure PZ(T N:Nat)(cf:List Int)(is:List Nat)(ak:Int)(msg:ByteArray)(kF:Int)(bd:Nat->Bool)(w w3:World)(gb:Nat)(A1:Option Addr)(k1:Nat)(vC vW vZ:Value):Prop where
 bel:Below w.heap.size w w3
 grp:bZ w3 gb 28 #[.int .i64 T,.int .i64 N,.slice A1 T k1]
 cs:Nums .u64 w3 w3.heap.size (.slice A1 T k1) (comms cf cf.length)
 oc:w3.ownsRow w.heap.size 37 3 vC is.length (aU (bQ ak is))
 oz:w3.ownsRow w.heap.size 25 1 vZ is.length ((List.range is.length).map fun k=>.int .u64 (DL kF (bd k) (shr cf ak is msg k)))
 ow:w3.ownsRow w.heap.size 3 1 vW (iq bd is is.length).length ((iq bd is is.length).map (Value.int .i64))
noncomputable def Dk:Code:=(dP 4 lu).2
noncomputable def wF:Code:=match Dk with|.seq _ b=>b|_=>.skip
def BlM(T N:Nat)(cf:List Int)(is:List Nat)(ak:Int)(msg:ByteArray)(kF:Int)(bd:Nat->Bool)(w:World)(gb:Nat)(A1:Option Addr)(k1:Nat)(a:Act)(w3:World):Prop:=
 ∃vC vW vZ,PZ T N cf is ak msg kF bd w w3 gb A1 k1 vC vW vZ/\a.tmps.size=147/\a.tmps[15]?=some (.pointer (some ⟨gb,0,none⟩))/\a.tmps[19]?=some vC/\a.tmps[20]?=some vZ/\a.tmps[22]?=some vW
theorem En{w:World}{base base':Nat}{e:TypeId}{size n:Nat}{v:Value}{xs:List Value}(h:w.ownsRow base e size v n xs)(hb:base'<=base):w.ownsRow base' e size v n xs:=by
 obtain⟨h1,h2⟩:=h;refine⟨h1,?_⟩;rcases h2 with h2|⟨g,cap,cur,hv,hg,r⟩
 ·exact .inl h2
 ·exact .inr ⟨g,cap,cur,hv,Nat.le_trans hb hg,r⟩
theorem al1{w w2:World}(T N:Nat)(cf:List Int)(is:List Nat)(ak:Int)(msg:ByteArray)(bad kF:Int)(B gb:Nat)(A1:Option Addr)(k1:Nat)(vi vC vZ:Value){y:Nat->Value}(y5:y 5=.int .i64 bad)(y6:y 6=.int .u64 kF)(y15:y 15=.pointer (some ⟨gb,0,none⟩))(y17:y 17=vi)(y18:y 18=.bool true)(y19:y 19=vC)(y20:y 20=vZ)(y21:y 21=.bool false)
  (Dz:PO T N cf is ak msg w w2 B gb A1 k1 vi vC vZ false)(hsel:JJ T N is)(hT:0<T)(hb:0<=kF/\kF<18446744073709551616):
  wpL Try.prog (BlM T N cf is ak msg kF (mY.iH bad) w gb A1 k1) (fun _ _=>False) (dP 2 wF).1 ⟨lJ y,[]⟩ w2:=by
 obtain⟨ha,hoc,hoz⟩:dM (bQ ak is) ((comms cf cf.length).getD 0 0) msg≠1/\w2.ownsRow B 37 3 vC is.length (aU (bQ ak is))/\w2.ownsRow B 25 1 vZ is.length ((List.range is.length).map fun k=>.int .u64 (shr cf ak is msg k)):=by
  rcases Dz.out with⟨h,-⟩|⟨-,h1,h2,h3,-⟩
  ·cases h
  ·exact⟨h1,h2,h3⟩
 have hn9:=hsel.n9;have hb0:=hb.1;have hfew:=hsel.few;have be3:=hsel.many;have Nk:0<is.length:=by omega
 have Yc:(ints is).length=is.length:=by simp[ints]
 obtain⟨bz,kz,hv,hbz,hbl⟩:=hoz.form Nk;subst hv;obtain⟨A3,k3,hv3⟩:=Z9.ku Dz.ids;subst hv3;obtain⟨bi,oi,rfl,hbi,hci⟩:=Zq.wL Dz.ids (by omega);rw[Yc]at hci y17;have hsh:∀k,0<=shr cf ak is msg k/\shr cf ak is msg k<1073741789:=fun k=>Au cf ak is msg k
 have hZ0:ZL w2 B vC bz kz is.length (bQ ak is) (.slice none 0 0) (iq (mY.iH bad) is 0) ((List.range is.length).map fun k=>.int .u64 (DL kF (decide (k<0)&&mY.iH bad k) (shr cf ak is msg k))) w2:=
  ⟨Below.refl _ _,Dz.Bw,World.ownsRow_nil _ _ _ _,hoc,by
   have e:((List.range is.length).map fun k=>Value.int .u64 (DL kF (decide (k<0)&&mY.iH bad k) (shr cf ak is msg k)))=(List.range is.length).map fun k=>Value.int .u64 (shr cf ak is msg k):=by
    congr 1
   rw[e];exact hoz⟩
 have HP:=Lib.hid Dz;have HZ0:=Lib.hid hZ0;have HCI:=Lib.hid hci;have HSH:=Lib.hid hsh;clear Dz hZ0 hci hoc hoz hsel hbl hsh;obtain⟨i0,hi0,hz0,hz1,hz2⟩:=info_parts vO;simp only[wF,Dk,lu,dP,Try.f8,Option.getD_some,lJ,y5,y6,y15,y17,y18,y19,y20,y21];refine jY ?_
 go_wp2_with fail
 refine jY ?_;obtain⟨W2,rfl⟩:∃W2:World,W2=w2:=⟨_,rfl⟩
 go_wp2_with fail
 go_loopw [22,62] (fun vw i wr=>∃(j:Nat) (VW:Value),VW=vw/\j<=is.length/\i=.int .i64 j/\ZL W2 B vC bz kz is.length (bQ ak is) VW (iq (mY.iH bad) is j) ((List.range is.length).map fun k=>.int .u64 (DL kF (decide (k<j)&&mY.iH bad k) (shr cf ak is msg k))) wr) (fun _ i _=>is.length-(intOf i).toNat)
 case atStart=>exact⟨0,_,rfl,by omega,rfl,HZ0.out⟩
 case round=>
  obtain⟨j,VW,rfl,hj,rfl,hzl⟩:=hrel;have HZ:=Lib.hid hzl;clear hzl HZ0;by_cases hlt:j<is.length
  ·have hcI:wr.cell? ⟨bi,oi+j,none⟩=some (.int .i64 (is.getD j 0:Nat)):=by
    have h1:=HCI.out j hlt;have e:(ints is).getD j 0=((is.getD j 0:Nat):Int):=by simp[ints,List.getD_eq_getElem?_getD,hlt]
    rw[e]at h1;exact(HZ.out.bw.cell (p:=⟨bi,oi+j,none⟩) hbi).trans h1
   obtain⟨bb,hbb⟩:∃bb,(bits BinOp.and IntKind.i64 (bad/2^j) 1==1)=bb:=⟨_,rfl⟩;have hba:mY.iH bad j=bb:=hbb;have hwn:iq (mY.iH bad) is (j+1)=if bb then iq (mY.iH bad) is j++[((is.getD j 0:Nat):Int)]else iq (mY.iH bad) is j:=by rw[iq,hba]
   have hwl:(iq (mY.iH bad) is j).length<=j:=Kr _ _ _;have hzc:=(Es HZ.out.oz).1 j _ (KY hlt);rw[show(decide (j<j)&&mY.iH bad j)=false by simp]at hzc;have HBA:=Lib.hid hba;have bA7:=trivial;have HWN:=Lib.hid hwn;clear hba hwn;cases bb
   case false=>
    go_wp2_with fail
    refine⟨⟨j+1,_,rfl,by omega,by go_num,?_⟩,by simp[intOf];omega⟩;have h1:=HWN.out;rw[if_neg (by decide)]at h1;rw[h1];have e:((List.range is.length).map fun k=>Value.int .u64 (DL kF (decide (k<j+1)&&mY.iH bad k) (shr cf ak is msg k)))=(List.range is.length).map fun k=>Value.int .u64 (DL kF (decide (k<j)&&mY.iH bad k) (shr cf ak is msg k)):=by
     refine List.map_congr_left fun k _=>?_
     by_cases hk:k=j
     ·subst hk;rw[HBA.out,Bool.and_false,Bool.and_false]
     ·rw[show decide (k<j+1)=decide (k<j)from decide_eq_decide.2 (by omega)]
    rw[e];exact HZ.out
   case true=>
    have h1:=HWN.out;rw[if_pos rfl]at h1;have HW1:=Lib.hid h1;clear h1 HWN;generalize hID:is.getD j 0=ID at*;obtain⟨W,hW⟩:∃W,iq (mY.iH bad) is j=W:=⟨_,rfl⟩;rw[hW]at HZ HW1 hwl;obtain⟨S,hS⟩:∃S,shr cf ak is msg j=S:=⟨_,rfl⟩;have hSb:=HSH.out j;rw[hS]at hSb hzc;rw[show DL kF false S=S from rfl]at hzc;obtain⟨hS0,hS1⟩:=hSb;have HSE:=Lib.hid hS;clear hW hS hID bA7;have hzb:=(Es HZ.out.oz).2.2.1;have hsw:=HZ.out.sz;have bZ1:=HZ.out.bw.size
    go_upto_region 12 with fail
    go_upto_region 13 with(at_builtin;refine wpList_append_own _ rfl (.tmp 72) (.tmp 74) _ rfl B 3 i0 (.int .i64 0) 1 8 Try.underlying29 hi0 hz0 hz1 hz2 rfl (by decide) _ _ _ rfl (HZ.out.ow.alloc _) ⟨wr.heap.size,0,none⟩ 1 1 [.int .i64 (ID:Int)] rfl rfl (cell_one_new _ _ _) (by simp[Value.oneCell']) (by unfold maxLen;omega) (by omega) (by simp;omega) ?_;intro v1 w1 hown1 hgrow1 _)
    have hz1:=HZ.out.app hgrow1 hown1;rw[<-HW1.out]at hz1;have by5:=(Es hz1.oz).1 j _ (KY hlt);rw[show(decide (j<j)&&mY.iH bad j)=false by simp,HSE.out,show DL kF false S=S from rfl]at by5;have bY5:=(Es hz1.oz).2.1 j;have HZ1:=Lib.hid hz1;have HCH:=Lib.hid (show DL kF true S=(if kF%5=0 then S+1073741789 else(S+iV kF)%1073741789)from by unfold DL;rw[if_pos rfl]);clear hz1 hown1 hgrow1 HZ HW1 hzc hcI;by_cases hb5:kF%5=0
    ·have t5:(kF%5==0)=true:=by rw[beq_iff_eq];exact hb5
     have hwr:IntKind.u64.wrap (S+1073741789)=S+1073741789:=lN (by omega) (by omega)
     go_wp2_with fail
     refine⟨⟨j+1,_,rfl,by omega,by go_num,?_⟩,by simp[intOf];omega⟩;have hch:=HCH.out;rw[if_pos hb5]at hch;have hst:=HZ1.out.gK j (.int .u64 (S+1073741789));rw[Gy (F':=fun k=>.int .u64 (DL kF (decide (k<j+1)&&mY.iH bad k) (shr cf ak is msg k))) hlt (by simp only[decide_eq_true (show j<j+1 by omega),HBA.out,Bool.and_true];rw[HSE.out,hch]) (fun k hk=>by rw[show decide (k<j+1)=decide (k<j)from decide_eq_decide.2 (by omega)])]at hst;exact hst
    ·have t5:(kF%5==0)=false:=by rw[beq_eq_false_iff_ne];exact hb5
     have hkb:=jf (x:=kF);have hwr:IntKind.u64.wrap (S+iV kF)=S+iV kF:=lN (by omega) (by omega);have q1:(j:Int)<(is.length:Int):=by omega
     have q2:(0:Int)<=(j:Int):=by omega
     have q3:(0:Int)<=(j:Int)/\(j:Int)<(is.length:Int):=⟨q2,q1⟩
     go_upto_region 15 with fail
     go_region_law (first|(go_simp;go_at_call 21;refine(yB _ _ hb0).mono ?_;rintro e w' ⟨rfl,rfl⟩))
     all_goals
      have hst:=HZ1.out.gK j (.int .u64 ((S+iV kF)%1073741789));rw[show(S+iV kF).tmod 1073741789=(S+iV kF)%1073741789 from Int.tmod_eq_emod_of_nonneg (by omega)];have hch:=HCH.out;rw[if_neg hb5]at hch;rw[Gy (F':=fun k=>.int .u64 (DL kF (decide (k<j+1)&&mY.iH bad k) (shr cf ak is msg k))) hlt (by simp only[decide_eq_true (show j<j+1 by omega),HBA.out,Bool.and_true];rw[HSE.out,hch]) (fun k hk=>by rw[show decide (k<j+1)=decide (k<j)from decide_eq_decide.2 (by omega)])]at hst;have HST:=Lib.hid hst.drew;clear hst hch
      go_wp2_with fail
      exact⟨⟨j+1,_,rfl,by omega,by go_num,HST.out⟩,by simp[intOf];omega⟩
  ·obtain rfl:j=is.length:=by omega
   go_wp2_with fail
   have hz:=HZ.out;have e:((List.range is.length).map fun k=>Value.int .u64 (DL kF (decide (k<is.length)&&mY.iH bad k) (shr cf ak is msg k)))=(List.range is.length).map fun k=>Value.int .u64 (DL kF (mY.iH bad k) (shr cf ak is msg k)):=by
    refine List.map_congr_left fun k hk=>?_
    rw[decide_eq_true (List.mem_range.1 hk),Bool.true_and]
   rw[e]at hz;have hB:=HP.out.wB;have hBw:=HP.out.Bw;refine⟨vC,VW,_,⟨HP.out.bel.trans (hz.bw.mono hB),HP.out.grp.below hz.bw HP.out.gbB,(HP.out.cs.below hz.bw).more (Nat.le_trans hBw hz.bw.size),En hz.oc hB,En hz.oz hB,En hz.ow hB⟩,rfl,rfl,rfl,rfl,rfl⟩
end Bla
namespace Bla
open Go.RowKit Pl ny oI ni qj Mem Ad oG Cc
noncomputable def Bq:Code:=match(dP 3 Dk).2 with|.seq _ b=>b|_=>.skip
def bp7(t:Nat)(e:Exit)(a:Act)(w:World):Prop:=match e with|.ret=>a.defers=[]/\a.tmps[t]?=some (.bool true)|_=>False
theorem Xv{k:IntKind}{w:World}{B:Nat}{v:Value}{l:List Int}(h:Nums k w B v l):∃A c,v=.slice A l.length c/\(0<l.length->∃b off,A=some ⟨b,off,none⟩/\b<B/\∀i,i<l.length->w.cell? ⟨b,off+i,none⟩=some (.int k (l.getD i 0))):=by
 obtain⟨A,c,rfl,hc,h⟩:=h;exact⟨A,c,rfl,h⟩
theorem al0{w:World}{cs want ids:List Int}{A1 A:Option Addr}{c1 c gb b9:Nat}{vW:Value}{R Z E:Int}{z:Nat->Value}(z15:z 15=.pointer (some ⟨gb,0,none⟩))(z22:z 22=vW)(z25:z 25=.pointer (some ⟨b9,0,none⟩))(z26:z 26=.slice A ids.length c)(z27:z 27=.int .i64 E)
  (g2:w.cell? ⟨gb,2,none⟩=some (.slice A1 cs.length c1))(hv:Nums .u64 w w.heap.size (.slice A1 cs.length c1) cs)(hcl:0<cs.length)(hk:0<=cs.getD 0 0/\cs.getD 0 0<18446744073709551616)(s0:w.cell? ⟨b9,0,none⟩=some (.int .u64 R))(s1:w.cell? ⟨b9,1,none⟩=some (.int .u64 Z))(hR:0<=R/\R<18446744073709551616)(hZ:0<=Z/\Z<18446744073709551616)
  (hW:Nums .i64 w w.heap.size vW want)(hI:Nums .i64 w w.heap.size (.slice A ids.length c) ids)(hwl:want.length<=65536)
  (hc0:want=[]->E=0/\nS (cs.getD 0 0) ⟨#[109]⟩ R Z=true)(hc1:want≠[]->E=14/\R=0/\Z=0/\ids=want):
  Bq.wp Try.prog (fun e a w=>match e with|.ret=>a.defers=[]/\a.tmps[14]?=some (.bool true)|_=>False) ⟨lJ z,[]⟩ w:=by
 obtain⟨Aw,cw,hvw,hwc⟩:=Xv hW;subst hvw;simp only[Bq,Dk,lu,dP,Try.f8,Option.getD_some,lJ,z15,z22,z25,z26,z27];by_cases hw0:want=[]
 ·obtain⟨rfl,Jg⟩:=hc0 hw0;subst hw0;obtain⟨bk,ok,rfl,hbk,hck⟩:=Zq.wL hv hcl;have hk0:=hck 0 hcl;rw[Nat.add_zero]at hk0;have hkl:(0:Int)<(cs.length:Int):=by omega
  have HVF:=Lib.hid fun W=>QI (cs.getD 0 0) ⟨#[109]⟩ R Z W (by decide) hk hR hZ
  rw[Jg]at HVF;clear hv hck hW hI hc0 hc1 hwc hk hR hZ Jg;generalize cs.getD 0 0=KEY at*
  go_upto_region 19 with fail
  go_region_law (first|(go_simp;go_at_call 22;refine(HVF.out _).mono ?_;rintro e w' ⟨rfl,hb'⟩))
  all_goals go_wp2_with fail
 ·obtain⟨rfl,rfl,rfl,rfl⟩:=hc1 hw0;have hw1:0<ids.length:=List.length_pos_iff.2 hw0;obtain⟨bw,ow,rfl,hbw,hcw⟩:=hwc hw1;obtain⟨bi,oi,rfl,hbi,hci⟩:=Zq.wL hI hw1;have tne:((ids.length:Int)==0)=false:=by rw[beq_eq_false_iff_ne];omega
  have tll:((ids.length:Int) != (ids.length:Int))=false:=by rw[bne_eq_false_iff_eq]
  have HCW:=Lib.hid hcw;have HCI:=Lib.hid hci;clear hcw hci hwc hW hI hc0 hc1
  go_wp2_with fail
  go_loopw [134] (fun i wr=>∃j:Nat,j<=ids.length/\i=.int .i64 j/\(∀i,i<ids.length->wr.cell? ⟨bw,ow+i,none⟩=some (.int .i64 (ids.getD i 0)))/\(∀i,i<ids.length->wr.cell? ⟨bi,oi+i,none⟩=some (.int .i64 (ids.getD i 0)))) (fun i _=>ids.length-(intOf i).toNat)
  case atStart=>exact⟨0,by omega,rfl,HCW.out,HCI.out⟩
  case round=>
   obtain⟨j,hj,rfl,hcw,hci⟩:=hrel;clear HCW HCI;by_cases hlt:j<ids.length
   ·have k1:=hcw j hlt;have k2:=hci j hlt;have q1:(j:Int)<(ids.length:Int):=by omega
    have q2:(0:Int)<=(j:Int):=by omega
    have q3:(0:Int)<=(j:Int)/\(j:Int)<(ids.length:Int):=⟨q2,q1⟩;have HCW:=Lib.hid hcw;have HCI:=Lib.hid hci;clear hcw hci;generalize ids.getD j 0=X at*;have tx:(X != X)=false:=by rw[bne_eq_false_iff_eq]
    go_upto_region 25 with fail
    go_region
    all_goals go_wp2_with fail
    all_goals exact⟨⟨j+1,by omega,by go_num,HCW.out,HCI.out⟩,by simp[intOf];omega⟩
   ·obtain rfl:j=ids.length:=by omega
    clear hcw hci
    go_wp2_with fail
end Bla
namespace Cc
open Go.Conc Go.ConcN Go.ConcM Go.RowKit Go.Conc.Lib Go.ConcR.Gen
open Go.ConcR (KK wgBlock WgAt stA smA rd wr mk DC0)
open Pl ny oI ni Mem oG Dl Ad J5 OO Gn Rag
open qj hiding base
open Bla
noncomputable def VD:Code:=(dP 3 Dk).2
noncomputable def bl4:Code:=match VD with|.seq a _=>a|_=>.skip
theorem VE:codeOk Try.prog vS CY Bq=true:=by kernel_rfl
theorem Y8:Try.f8.results=#[.tmp 14]:=by kernel_rfl
section
variable{q:ig}(hP:q.P=Try.prog){t n:Int}{cs zs want:List Int}{l:List Cm}{A1 A2 A3 A4:Option Addr}{c1 c2 c3 c4:Nat}
include hP
theorem al2{st:St aJ}{num gb b9:Nat}{K:List (Nat×Obj)}(hA:jX 0 num K st)(hI:Inv q st)(hg0:q.P.globals.size=0)(h1:kQ K .u64 A1 c1 cs)(h4:kQ K .i64 A4 c4 want)(hcl:0<cs.length)(hk:0<=cs.getD 0 0/\cs.getD 0 0<18446744073709551616)
  (hK4:(gb,.cells #[.int .i64 t,.int .i64 n,.slice A1 cs.length c1] 28 (0,0))∈K){A:Option Addr}{c:Nat}{an:Ans}(hK9:(b9,.cells #[.int .u64 an.r,.int .u64 an.z] 46 (0,0))∈K)(hnk:kQ K .i64 A c an.ids)(hR:0<=an.r/\an.r<18446744073709551616)(hZ:0<=an.z/\an.z<18446744073709551616)
  (hwl:want.length<=65536)(hc0:want=[]->an.e=0/\nS (cs.getD 0 0) ⟨#[109]⟩ an.r an.z=true)(hc1:want≠[]->an.e=14/\an.r=0/\an.z=0/\an.ids=want)
  {T:Array Value}(hT:T.size=147)(t15:T[15]?=some (.pointer (some ⟨gb,0,none⟩)))(t22:T[22]?=some (.slice A4 want.length c4))(t25:T[25]?=some (.pointer (some ⟨b9,0,none⟩)))(t26:T[26]?=some (.slice A an.ids.length c))(t27:T[27]?=some (.int .i64 an.e))
  (fin:∀ah,jX 0 num K ah->Inv q ah->q.Post (.bool true) ah.w):
  TT (cfg q) 0 (TW (cfg q)) (G ((base 8).at ⟨T,[]⟩ [.code Bq]) []) st:=by
 have zT:=hA.QU hg0;have hfn:Try.prog.funcs[(base 8).fn]?=some Try.f8:=Try.func8;refine TT.piece (S:=vS) (Ds:=CY) (X:=fun _=>False) (N:=fun _ _=>False) (R:=fun a w=>a.tmps[14]?=some (.bool true)) hP WA hI VE rfl (fun fn h=>yg fn h) (Φ:=fun a w=>(∃z,a=⟨lJ z,[]⟩/\z 15=.pointer (some ⟨gb,0,none⟩)/\z 22=.slice A4 want.length c4/\z 25=.pointer (some ⟨b9,0,none⟩)/\z 26=.slice A an.ids.length c/\z 27=.int .i64 an.e)/\∃τ d,w=World.on (jS vS st.w (Cc.wO K)) τ d) (ro:=uD (Cc.wO K)) (bU:=st)
  (Sh.aq7 zT hI ⟨?_,st.w.tape,st.w.drawn,rfl⟩) ?_ ?_ ?_
 ·obtain⟨z,hz1,hz2⟩:=y7 (T.map (QT vS (Cc.wO K))) (by rw[Array.size_map];exact hT);refine⟨z,by rw[hz1],hz2 _ _ (lT t15 (.ptr _ _ (gX (hA.wO hK4)))),hz2 _ _ (lT t22 (h4.2.1.vr hA _ _)),hz2 _ _ (lT t25 (.ptr _ _ (gX (hA.wO hK9)))),hz2 _ _ (lT t26 (hnk.2.1.vr hA _ _)),hz2 _ _ (lT t27 (.int _ _))⟩
 ·rintro a w τ d ⟨⟨z,rfl,z15,z22,z25,z26,z27⟩,Ih,d',rfl⟩;refine Code.wp_mono ?_ (al0 (w:=World.on (jS vS st.w (Cc.wO K)) τ d) (want:=want) (ids:=an.ids) z15 z22 z25 z26 z27 (hA.Cj hK4 rfl (h1.2.1.vr hA _ _)) (h1.nums hA) hcl hk (hA.Cj hK9 rfl (.int _ _)) (hA.Cj hK9 rfl (.int _ _)) hR hZ (h4.nums hA) (hnk.nums hA) hwl hc0 hc1);intro e a w h;cases e with
  |ret=>exact .inr ⟨rfl,h.1,h.2⟩
  |_=>exact h.elim
 ·rintro a2 st' ⟨_,_,_,_,_,_,_,_,_,_,_,hF⟩;exact hF.elim
 ·intro a2 st' todo hs;exact TT.bottom (Ds:=CY) hP rfl hfn (by kernel_rfl) Y8 rfl hs hA (fun _ _ _ h=>h) fun ah k1 k2=>fin ah k1 k2
theorem aO5{st:St aJ}{num gb:Nat}{K:List (Nat×Obj)}(hA:jX 0 num K st)(hI:Inv q st)(hg0:q.P.globals.size=0)(hG:q.tG=143)(hZ:q.tZ=72)(hR:q.tR=4)(hW:q.tW=107)
  (h1:kQ K .u64 A1 c1 cs)(h2:Oz K A2 c2 l)(h3:kQ K .u64 A3 c3 zs)(h4:kQ K .i64 A4 c4 want)(hcb:∀i,i<cs.length->0<=cs.getD i 0)(hb:∀i,i<l.length->0<=(l.getD i .zero).d/\0<=(l.getD i .zero).e)(hzb:∀k,k<zs.length->0<=zs.getD k 0/\zs.getD k 0<18446744073709551616)
  (hcl0:0<cs.length)(hk:0<=cs.getD 0 0/\cs.getD 0 0<18446744073709551616)(hcl:cs.length<=65536)(hll:l.length<=65536)(hzl:zs.length<=65536)(hK4:(gb,.cells #[.int .i64 t,.int .i64 n,.slice A1 cs.length c1] 28 (0,0))∈K)
  {an:Ans}(han:rX t n cs l ⟨#[109]⟩ zs (fun k=>fQ (zs.getD k 0) (jB (dM l (cs.getD 0 0) ⟨#[109]⟩) (cs.getD 0 0) ⟨#[109]⟩) cs l ⟨#[109]⟩ k)=an)(hRb:0<=an.r/\an.r<18446744073709551616)(Yk:0<=an.z/\an.z<18446744073709551616)
  (hwl:want.length<=65536)(hc0:want=[]->an.e=0/\nS (cs.getD 0 0) ⟨#[109]⟩ an.r an.z=true)(hc1:want≠[]->an.e=14/\an.r=0/\an.z=0/\an.ids=want)
  {y:Nat->Value}(y15:y 15=.pointer (some ⟨gb,0,none⟩))(y22:y 22=.slice A4 want.length c4)(y19:y 19=.slice A2 l.length c2)(y20:y 20=.slice A3 zs.length c3)
  (fin:∀ah PE K2,jX 0 PE K2 ah->(∀b o,(b,o)∈K->(b,o)∈K2)->Inv q ah->q.Post (.bool true) ah.w):
  TT (cfg q) 0 (TW (cfg q)) (G ((base 8).at ⟨lJ y,[]⟩ [.code VD]) []) st:=by
 have e2:VD=.seq bl4 Bq:=rfl;obtain⟨AT,Jk⟩:∃AT,AT=Bq:=⟨_,rfl⟩;rw[e2,<-Jk];have HAT:=Lib.hid Jk;have hd2:∀L c A,(∀a,Value.slice A L c≠ .agg a)/\∀a,Value.slice A L c≠ .tuple a:=fun L c A=>⟨fun a e=>(by cases e),fun a e=>(by cases e)⟩
 clear Jk e2;simp only[bl4,VD,Dk,lu,dP,Try.f8,Option.getD_some,lJ,y15,y22,y19,y20];refine TT.qw hP 40 fun w₀ hF=>?_
 repeat w_go eY
 refine Goes.stop (fun w₁ r₁=>⟨rfl,?_⟩);clear hF w₀;refine TT.WQ hP hA (bl:=gb) (off:=0) (v:=.agg #[.int .i64 t,.int .i64 n,.slice A1 cs.length c1]) rfl rfl (by k_ne) rfl (by simp[Act.eval]) hK4 (fun w hw=>SY t n _ (hd2 _ _ _) w hw) fun ay aC aT _=>?_
 clear hA hI hd2;walk_nrm;refine TT.qw hP 40 fun w₀ hF=>?_
 repeat w_go eY
 refine Goes.stop (fun w₁ r₁=>⟨rfl,?_⟩);clear hF w₀;refine TT.ao3 hP (f:=16) (args:=#[.agg #[.int .i64 t,.int .i64 n,.slice A1 cs.length c1],.string ⟨#[109]⟩,.slice A2 l.length c2,.slice A3 zs.length c3]) rfl rfl (by k_ne) (fun w=>?_) (fun w=>?_) ?_
 ·unfold execOp;simp[resolve,Deferred.ofValue,invoke,callFunc,Try.func16,Try.f16,Act.eval]
 ·unfold execOp;simp[resolve,Deferred.ofValue,invoke,callFunc,Try.func16,Try.f16,Act.eval]
 have zT:=aC.QU hg0;refine aw4 hP aC aT hG hZ hR hW (md:=Cc.wO K) (sw:=jS aS ay.w (Cc.wO K)) (mG ..) zT.lt (fun k1 k2 k3 k4=>Sh.XT zT aT k1 k2 k3 k4) (XV aC h1.2.1 h2.2.1 h3.2.1) (h1.nums aC) hcb hcl (h2.iJ aC) hll hb hzl (by decide) (h3.sh aC) h3.1 hzb fun v bH hans bF=>?_
 obtain⟨A,c,num',K',rfl,aQ,X6,hnk⟩:=FN (fun k hk=>(hzb k hk).1) hans;rw[han]at hnk ⊢;have HAN:=Lib.hid han;clear hans han zT aC aT;simp only[Ans.val];have HNK:=Lib.hid hnk;clear hnk;obtain⟨R,hRe⟩:∃R,R=an.r:=⟨_,rfl⟩;obtain⟨Z,hZe⟩:∃Z,Z=an.z:=⟨_,rfl⟩;obtain⟨E,hEe⟩:∃E,E=an.e:=⟨_,rfl⟩;obtain⟨I,hIe⟩:∃I,I=an.ids.length:=⟨_,rfl⟩;rw[<-hRe,<-hZe,<-hEe,<-hIe];have HRe:=Lib.hid hRe;have HZe:=Lib.hid hZe;have HEe:=Lib.hid hEe;have HIe:=Lib.hid hIe;clear hRe hZe hEe hIe;rw[Frame.finish_at];walk_nrm;refine TT.qw hP 60 fun w₀ hF=>?_
 repeat w_go eY
 refine Goes.stop (fun w₁ r₁=>⟨rfl,?_⟩);clear hF w₀;refine TT.WT hP aQ rfl rfl (by k_ne) rfl (fun w=>TY w) fun bM b9 aI bY G6 vV vT _=>?_
 walk_nrm;refine TT.QK hP aI (K':=(b9,.cells #[.int .u64 R,.int .u64 Z] 46 (0,0))::K') (bl:=b9) (off:=0) (v:=.agg #[.int .u64 R,.int .u64 Z]) (ob:=.cells #[.int .u64 0,.int .u64 0] 46 (0,0)) (ob':=.cells #[.int .u64 R,.int .u64 Z] 46 (0,0)) rfl rfl (by k_ne) rfl (by simp[Act.eval]) (by simp[Act.eval]) (List.mem_cons_self ..) vV (fun b o hb=>?_) (fun w hw=>QJ R Z w hw) fun aV bg dD _=>?_
 ·rcases List.mem_cons.1 hb with e|hb
  ·cases e;exact .inl ⟨rfl,rfl⟩
  ·exact .inr ⟨vT b o hb,List.mem_cons_of_mem _ hb⟩
 clear aI bY G6 vV vT aQ bF;walk_nrm;refine TT.qw hP 60 fun w₀ hF=>?_
 repeat w_go eY
 refine Goes.stop (fun w₁ r₁=>⟨rfl,?_⟩);clear hF w₀;obtain rfl:=HAT.out;have hsub:∀b o,(b,o)∈K->(b,o)∈(b9,Obj.cells #[.int .u64 R,.int .u64 Z] 46 (0,0))::K':=fun b o h=>List.mem_cons_of_mem _ (X6 b o h)
 have aI9:=HNK.out.mono (K':=(b9,Obj.cells #[.int .u64 R,.int .u64 Z] 46 (0,0))::K') fun b o h=>List.mem_cons_of_mem _ h
 have hK9:(b9,Obj.cells #[.int .u64 R,.int .u64 Z] 46 (0,0))∈(b9,Obj.cells #[.int .u64 R,.int .u64 Z] 46 (0,0))::K':=List.mem_cons_self ..;rw[HRe.out,HZe.out]at hK9;refine al2 (c:=c) (an:=an) (b9:=b9) hP bg dD hg0 (h1.mono hsub) (h4.mono hsub) hcl0 hk (hsub _ _ hK4) (by rw[HRe.out,HZe.out];exact List.mem_cons_self ..) aI9 hRb Yk hwl hc0 hc1 rfl rfl rfl rfl (by rw[HIe.out];rfl) (by rw[HEe.out];rfl) fun ah k1 k2=>fin ah _ _ k1 hsub k2
end
end Cc
namespace Zr
open Go.Conc Go.ConcN Go.ConcM Go.RowKit Go.Conc.Lib Go.ConcR.Gen
open Go.ConcR (KK wgBlock WgAt stA smA rd wr mk DC0)
open Cc qI
open Pl ny oI ni Mem oG Dl Ad J5 OO Gn Rag mY Qz Qy Qx
open Bla
open qj hiding base
noncomputable def aO6:Code:=match Dk with|.seq a _=>a|_=>.skip
theorem VB:(dP 4 lu).1.all (fun c=>Sg.fin (sg.items 8 (some 0) [.code c]))=true:=by kernel_rfl
theorem VA:(dP 2 wF).1.all (fun c=>Sg.fin (sg.items 8 (some 0) [.code c]))=true:=by kernel_rfl
theorem Y9:sg.grd 8=false:=by kernel_rfl
theorem av5:sg.fs 8=[]:=by kernel_rfl
theorem aO2(t n seed mask ak bad kF:Int):Frame.enter Try.prog 8 #[.int .i64 t,.int .i64 n,.int .u64 seed,.int .i64 mask,.int .u64 ak,.int .i64 bad,.int .u64 kF] .normal=(base 8).at ⟨#[.int .i64 t,.int .i64 n,.int .u64 seed,.int .i64 mask,.int .u64 ak,.int .i64 bad,.int .u64 kF,undef,undef,undef,undef,undef,undef,undef,undef,undef,undef,undef,undef,undef,undef,undef,undef,undef,undef,undef,undef,undef,undef,undef,undef,undef,undef,undef,undef,undef,undef,undef,undef,undef,undef,undef,undef,undef,undef,undef,undef,undef,undef,undef,undef,undef,undef,undef,undef,undef,undef,undef,undef,undef,undef,undef,undef,undef,undef,undef,undef,undef,undef,undef,undef,undef,undef,undef,undef,undef,undef,undef,undef,undef,undef,undef,undef,undef,undef,undef,undef,undef,undef,undef,undef,undef,undef,undef,undef,undef,undef,undef,undef,undef,undef,undef,undef,undef,undef,undef,undef,undef,undef,undef,undef,undef,undef,undef,undef,undef,undef,undef,undef,undef,undef,undef,undef,undef,undef,undef,undef,undef,undef,undef,undef,undef,undef,undef,undef,undef,undef,undef,undef,undef,undef,undef,undef,undef,undef,undef,undef],[]⟩ [.code (y8 (dP 4 lu).1 Dk)]:=by
 rw[show y8 (dP 4 lu).1 Dk=lu from oW 4 lu,enter_at (P:=Try.prog) (c:=lu) _ Try.func8 rfl]
 kernel_rfl
theorem aO4{Yz:Array Value}{W w2:World}{t n seed mask ak bad kF:Int}{B gb:Nat}{A1:Option Addr}{k1:Nat}{vi vC vZ:Value}{bl2:Nat->Bool}{T:Array Value}(Dz:PO (dY t n) (jU n) (jO seed (dY t n)) (mY.ids mask (dY t n) (jU n)) ak ⟨#[109]⟩ W w2 B gb A1 k1 vi vC vZ false)(Yg:mY.ids mask (dY t n) (jU n)=sel bl2 (jU n))(Yo:JJ (dY t n) (jU n) (mY.ids mask (dY t n) (jU n)))(hb:0<=kF/\kF<18446744073709551616)
  (hsz:T.size=147)(s5:T[5]?=some (.int .i64 bad))(s6:T[6]?=some (.int .u64 kF))(s15:T[15]?=some (.pointer (some ⟨gb,0,none⟩)))(OD:T[17]?=some vi)(ZK:T[18]?=some (.bool true))(s19:T[19]?=some vC)(s20:T[20]?=some vZ)(s21:T[21]?=some (.bool false))
  (hL:LR Try.prog (G (Frame.enter Try.prog 8 Yz .normal) []) W (G ((base 8).at ⟨T,[]⟩ [.code wF]) []) w2):Runs 8 Yz W:=by
 have hT:=Ak t n;have hNb:=yw n;have hcl:=gB seed (dY t n);have hlen:(comms (jO seed (dY t n)) (jO seed (dY t n)).length).length=dY t n:=by rw[fH _ (Nat.le_refl _),hcl]
 have ha:dM (bQ ak (mY.ids mask (dY t n) (jU n))) ((comms (jO seed (dY t n)) (jO seed (dY t n)).length).getD 0 0) ⟨#[109]⟩≠1:=by
  rcases Dz.out with⟨h,-⟩|⟨-,h1,-⟩
  ·cases h
  ·exact h1
 obtain⟨y,rfl,hy⟩:=y7 T hsz;replace s5:=hy _ _ s5;replace s6:=hy _ _ s6;replace s15:=hy _ _ s15;replace OD:=hy _ _ OD;replace ZK:=hy _ _ ZK;replace s19:=hy _ _ s19;replace s20:=hy _ _ s20;replace s21:=hy _ _ s21;have hL1:LR Try.prog (G (Frame.enter Try.prog 8 Yz .normal) []) W (G ((base 8).at ⟨lJ y,[]⟩ [.code (y8 (dP 2 wF).1 VD)]) []) w2:=by
  rw[show y8 (dP 2 wF).1 VD=wF from oW 2 wF];exact hL
 refine LR.pieces WR rfl Y9 av5 (fun a3 w3 hd hM hL3=>?_) (fun _ _ _ _ h=>h.elim) (dP 2 wF).1 (fun c hc=>List.all_eq_true.1 VA c hc) _ _ rfl hL1 (al1 (dY t n) (jU n) (jO seed (dY t n)) (mY.ids mask (dY t n) (jU n)) ak ⟨#[109]⟩ bad kF B gb A1 k1 vi vC vZ s5 s6 s15 OD ZK s19 s20 s21 Dz Yo (by omega) hb);obtain⟨vC,vW,vZ,hPZ,hsz3,u15,u19,u20,u22⟩:=hM;obtain⟨T3,df⟩:=a3;obtain rfl:df=[]:=hd;obtain⟨y3,rfl,hy3⟩:=y7 T3 hsz3;have pK:bZ w3 gb 28 #[.int .i64 (dY t n),.int .i64 (jU n),.slice A1 (comms (jO seed (dY t n)) (jO seed (dY t n)).length).length k1]:=by rw[hlen];exact hPZ.grp
 obtain⟨-,q1⟩:=GL hPZ.cs (by omega);obtain⟨A2,c2,rfl,q2⟩:=Hy (bV (ak:=ak)).symm hPZ.oc;have aI8:w3.ownsRow W.heap.size 25 1 vZ (mY.ids mask (dY t n) (jU n)).length (((List.range (mY.ids mask (dY t n) (jU n)).length).map fun k=>DL kF (mY.iH bad k) (shr (jO seed (dY t n)) ak (mY.ids mask (dY t n) (jU n)) ⟨#[109]⟩ k)).map (Value.int .u64)):=by rw[List.map_map];exact hPZ.oz
 obtain⟨A3,c3,rfl,q3⟩:=AQ aI8;obtain⟨A4,c4,rfl,q4⟩:=AQ hPZ.ow;have hfew:=Yo.few;have h0:(jO seed (dY t n)).getD 0 0=mY.cf seed 0:=FB seed (by omega);have hgood:=Oi (ak:=ak) Yg hcl (by omega) (Bl seed _) (by rw[h0];exact jf.1) Yo (Fp t n seed) ⟨#[109]⟩ ha kF (mY.iH bad) ((List.range (mY.ids mask (dY t n) (jU n)).length).map fun k=>DL kF (mY.iH bad k) (shr (jO seed (dY t n)) ak (mY.ids mask (dY t n) (jU n)) ⟨#[109]⟩ k)) (by rw[List.length_map,List.length_range]) (fun k hk=>tC hk);refine QW hL3 hPZ.bel fun st hA hI=>?_
 refine aO5 rfl hA hI EY rfl rfl rfl rfl q1 q2 q3 q4 (fun i hi=>(zW _ i hi).1) zY (fun k hk=>?_) (by omega) (zW _ 0 (by omega)) (by omega) (by rw[bV];omega) (by rw[List.length_map,List.length_range];omega) (jI.2 pK) rfl hgood.r hgood.z ?_ (fun h=>⟨(hgood.none h).1,(hgood.none h).2.2⟩) hgood.some (hy3 _ _ u15) (hy3 _ _ u22) (hy3 _ _ u19) (hy3 _ _ u20) fun ah PE K2 k1 k2 k3=>ends hPZ.bel k1 k2 k3
 ·rw[List.length_map,List.length_range]at hk;rw[tC hk];have:=Y2 (kF:=kF) (b:=mY.iH bad k) (Au (jO seed (dY t n)) ak (mY.ids mask (dY t n) (jU n)) ⟨#[109]⟩ k);omega
 ·have:=D5 (mY.iH bad) (mY.ids mask (dY t n) (jU n)) (mY.ids mask (dY t n) (jU n)).length;omega
theorem b71{W:World}(t n seed mask ak bad kF:Int)(ht: -9223372036854775808<=t/\t<=9223372036854775807)(hn: -9223372036854775808<=n/\n<=9223372036854775807)(hs:0<=seed/\seed<18446744073709551616)(hN:0<=ak/\ak<18446744073709551616)(hb:0<=kF/\kF<18446744073709551616):
  Runs 8 #[.int .i64 t,.int .i64 n,.int .u64 seed,.int .i64 mask,.int .u64 ak,.int .i64 bad,.int .u64 kF] W:=by
 have hT:=Ak t n;have hNb:=yw n;have hcl:=gB seed (dY t n);have hlen:(comms (jO seed (dY t n)) (jO seed (dY t n)).length).length=dY t n:=by rw[fH _ (Nat.le_refl _),hcl]
 obtain⟨bl2,Yg⟩:=Ht t n mask;have Yo:=Hu t n mask;have hL2:=PW (W:=W) (aO2 t n seed mask ak bad kF);refine LR.pieces WR rfl Y9 av5 (fun a2 w2 hd hN2 hL=>?_) (fun _ _ _ _ h=>h.elim) (dP 4 lu).1 (fun c hc=>List.all_eq_true.1 VB c hc) _ _ rfl hL2 (aO3 t n seed mask ak bad kF ht hn hs hN);obtain⟨B,gb,A1,k1,vi,vC,vZ,zero,Dz,hsz,s5,s6,s15,OD,ZK,s19,s20,s21⟩:=hN2;obtain⟨T,df⟩:=a2;obtain rfl:df=[]:=hd;obtain⟨y,rfl,hy⟩:=y7 T hsz;replace s5:=hy _ _ s5;replace s6:=hy _ _ s6;replace s15:=hy _ _ s15;replace OD:=hy _ _ OD;replace ZK:=hy _ _ ZK;replace s19:=hy _ _ s19;replace s20:=hy _ _ s20;replace s21:=hy _ _ s21;have e1:Dk=.seq aO6 wF:=rfl;obtain⟨AT,Jk⟩:∃AT,AT=wF:=⟨_,rfl⟩;rw[e1,<-Jk]at hL;have HAT:=Lib.hid Jk;have HPO:=Lib.hid Dz;have Gl:=Lib.hid Yo;clear Jk e1 Dz hL2 hy hsz;cases zero
 case false=>
  simp only[aO6,Dk,lu,dP,Try.f8,Option.getD_some,lJ,s5,s6,s15,OD,ZK,s19,s20,s21]at hL;refine LR.road 60 hL fun w₀ hF=>?_
  repeat w_go eY
  refine Goes.stop (fun w₁ r₁=>⟨rfl,fun hL2=>?_⟩);clear hF w₀ hL;obtain rfl:=HAT.out;refine aO4 (bad:=bad) HPO.out Yg Gl.out hb ?_ ?_ ?_ ?_ ?_ ?_ ?_ ?_ ?_ hL2<;>rfl
 case true=>
  simp only[aO6,Dk,lu,dP,Try.f8,Option.getD_some,lJ,s5,s6,s15,OD,ZK,s19,s20,s21]at hL;refine LR.road 60 hL fun w₀ hF=>?_
  repeat w_go eY
  refine Goes.stop (fun w₁ r₁=>⟨rfl,fun hL2=>?_⟩);clear hF w₀ hL;refine am4 (LR.call hL2 (f:=20) (args:=#[]) rfl rfl (by k_ne) (fun w=>?_) (fun w=>?_)) fun a2 w3 hd hM hL3=>?_
  ·unfold execOp;simp[resolve,Deferred.ofValue,invoke,callFunc,Try.func20,Try.f20,Act.eval]
  ·unfold execOp;simp[resolve,Deferred.ofValue,invoke,callFunc,Try.func20,Try.f20,Act.eval]
  have hb3:Below W.heap.size W w3:=by
   obtain⟨_,_,_,_,_,_,_,h,_⟩:=hM;exact HPO.out.bel.trans (h.bel.mono HPO.out.bel.size)
  refine QW hL3 hb3 fun st hA hI=>?_
  refine aP4 rfl EY rfl rfl rfl rfl hM hd hA hI fun ah PE K2 au hs₁ hI₁=>?_
  rw[Frame.finish_at];walk_nrm;refine TT.qw rfl 40 fun w₀ hF=>?_
  repeat w_go eY
  refine Goes.stop (fun w₁ r₁=>⟨rfl,?_⟩);exact ak8 rfl rfl rfl Try.func8 (by kernel_rfl) Y8 rfl au fun ay k1 k2=>ends hb3 k1 hs₁ k2
end Zr
end Go.Proofs.Ytpfpokjaeffbjab
