/- Part of the proof: SgdWalk, SgdPO, BlaP3, AliPre, AliTail, BlaP4, AliGo, BlaPre. -/
import Derived.Test.YtpfpokjaeffbjabBb26
import Derived.Deep.RegionHeld3
import Derived.Deep.DeepCutAuto
import Derived.StillTailTactics
import Derived.Outline
import Derived.Test.YtpfpokjaeffbjabBb11
import Derived.Test.YtpfpokjaeffbjabBb23
import Derived.Test.YtpfpokjaeffbjabBb10
import Derived.Test.YtpfpokjaeffbjabBb24
import Derived.Test.YtpfpokjaeffbjabBb20
set_option linter.unusedVariables false
set_option linter.unusedSimpArgs false
set_option maxRecDepth 100000
set_option maxHeartbeats 16000000
namespace Go.Proofs.Ytpfpokjaeffbjab
namespace Zq
open Go.RowKit Pl ny oI ni JO JI Qy Qx qj Mem Ad oG mY Dlt Qz Bla
open uz (Only jq qU xq yu JM Jv SV)
theorem ah2:(Try.prog.info? 37).map (fun i=>(i.zero,i.size,i.bytes))=some (some (.agg #[.int .i64 0,.int .u64 0,.int .u64 0]),3,24):=by kernel_rfl
theorem zS:(Try.prog.info? 25).map (fun i=>(i.zero,i.size,i.bytes))=some (some (.int .u64 0),1,8):=by kernel_rfl
theorem X0:(Try.prog.info? 32).map (fun i=>(i.zero,i.size,i.bytes))=some (some (.pointer none),1,8):=by kernel_rfl
theorem wL{k:IntKind}{w:World}{B:Nat}{A:Option Addr}{n c:Nat}{l:List Int}(h:Nums k w B (.slice A n c) l)(hp:0<l.length):
  ∃b off,A=some ⟨b,off,none⟩/\b<B/\∀i,i<l.length->w.cell? ⟨b,off+i,none⟩=some (.int k (l.getD i 0)):=by
 obtain⟨A',c',hv,_,h⟩:=h;obtain⟨b,off,hA,r⟩:=h hp;have:A=A':=by injection hv
 exact⟨b,off,this.trans hA,r⟩
theorem bx5{t n:Int}{cs:List Int}{v:Value}{id share:Int}(w:World)(hv:Nums .u64 w w.heap.size v cs)(hl:cs.length<=65536)(hcb:∀i,i<cs.length->0<=cs.getD i 0)(hs:0<=share/\share<18446744073709551616)(h0:newE t n cs id share=0):
  Calls Try.prog 12 #[.agg #[.int .i64 t,.int .i64 n,v],.int .i64 id,.int .u64 share] w fun e w'=>
   ∃a:uz.Loc,e=.returned (.tuple #[.pointer (some ⟨a.S,0,none⟩),.int .i64 0])/\jq w' a ⟨t,n,cs,id,share,[]⟩/\(∀k∈a.foot,w.heap.size<=k)/\Below w.heap.size w w':=
 (yu t n cs v id share w hv hl hcb hs).mono fun e w' ⟨hb,h⟩=>by
  rcases h with⟨h1,_⟩|⟨_,a,h1,h2,h3⟩
  ·exact absurd h0 h1
  ·exact⟨a,h1,h2,h3,hb⟩
theorem bv9(x:Int)(hx:0<=x/\x<18446744073709551616)(w:World):Calls Try.prog 60 #[.int .u64 x] w fun e w'=>e=.returned (.int .u64 (pw 4 x.toNat 2147483579))/\w=w':=by
 have:=U7 x.toNat w (by omega);rw[Int.toNat_of_nonneg hx.1]at this;exact this
theorem signedC(t n:Nat)(cf:List Int)(is:List Nat)(ak:Int)(msg:ByteArray)(w:World)(vc vs vi:Value)(hg:dw t n (comms cf cf.length)=true)(hcf:∀i,i<cf.length->0<=cf.getD i 0/\cf.getD i 0<1073741789)(hcl:cf.length=t)(hsel:JJ t n is)(hN:0<=ak/\ak<18446744073709551616)(hms:msg.size<=1000000)
  (hc:Nums .u64 w w.heap.size vc (comms cf cf.length))(hs:Nums .u64 w w.heap.size vs (jR cf n))(hi:Nums .i64 w w.heap.size vi (ints is)):
  Calls Try.prog 19 #[.agg #[.int .i64 t,.int .i64 n,vc],vs,vi,.int .u64 ak,.string msg] w fun e w'=>Below w.heap.size w w'/\
   ((dM (bQ ak is) ((comms cf cf.length).getD 0 0) msg=1/\e=.returned (.tuple #[.slice none 0 0,.slice none 0 0,.bool true,.bool true]))\/
    (dM (bQ ak is) ((comms cf cf.length).getD 0 0) msg≠1/\∃vC vZ,e=.returned (.tuple #[vC,vZ,.bool false,.bool true])/\w'.ownsRow w.heap.size 37 3 vC is.length (aU (bQ ak is))/\w'.ownsRow w.heap.size 25 1 vZ is.length ((List.range is.length).map fun k=>.int .u64 (shr cf ak is msg k))/\vZ.ownBlock≠vC.ownBlock)):=by
 have hn9:=hsel.n9;have hfew:=hsel.few;have be3:=hsel.many;have as2:(comms cf cf.length).length=t:=by rw[fH _ (Nat.le_refl _),hcl]
 have bd0:=uI cf n;have Yc:(ints is).length=is.length:=by simp[ints]
 have bf8:∀i,i<(comms cf cf.length).length->0<=(comms cf cf.length).getD i 0:=fun i hi=>by
  rw[as2]at hi;rw[rQ _ (by omega)];exact(og 4 _ (by omega)).1
 have hgs:=jG hg;have Nk:0<is.length:=by have:=hsel.many;omega
 have hnew:∀k,k<is.length->newE t n (comms cf cf.length) (is.getD k 0) (poly cf (is.getD k 0))=0:=fun k hk=>by
  have h1:=hsel.at_ hk;have c1:=Vx hg hcf (id:=(is.getD k 0:Nat)) (by omega) (by omega) (by omega);exact Ru c1.1 c1.2
 have hok:∀k,k<is.length->Ok (F6 t n cf ak is k):=fun k hk=>by
  have h1:=hsel.at_ hk;have p:=sK cf (is.getD k 0);have b1:=Fq (ak:=ak) (is.getD k 0);have b2:=E8 (ak:=ak) (is.getD k 0);exact⟨hg,by show(1:Int)<=((is.getD k 0:Nat):Int);omega,by show((is.getD k 0:Nat):Int)<=(n:Int);omega,p.1,p.2,by simp[F6],fun q hq=>by rw[List.mem_singleton.1 hq];exact⟨b1,b2⟩,List.pairwise_singleton _ _⟩
 have hok0:∀k,k<is.length->Ok ⟨t,n,comms cf cf.length,is.getD k 0,poly cf (is.getD k 0),[]⟩:=fun k hk=>by
  have h1:=hsel.at_ hk;have p:=sK cf (is.getD k 0);exact⟨hg,by show(1:Int)<=((is.getD k 0:Nat):Int);omega,by show((is.getD k 0:Nat):Int)<=(n:Int);omega,p.1,p.2,by simp,fun q hq=>absurd hq List.not_mem_nil,List.Pairwise.nil⟩
 obtain⟨A1,k1,rfl⟩:=Z9.ku hc;obtain⟨A2,k2,rfl⟩:=Z9.ku hs;obtain⟨A3,k3,rfl⟩:=Z9.ku hi;obtain⟨bs,os,rfl,hbs,hcs⟩:=wL hs (by omega);obtain⟨bi,oi,rfl,hbi,hci⟩:=wL hi (by omega);rw[as2]at hc ⊢;rw[bd0]at hcs ⊢;rw[Yc]at hci ⊢;have HC:=Lib.hid hc;have bG6:=Lib.hid hnew;have VP:=Lib.hid hok;have bn6:=Lib.hid hok0;have HCN:=Lib.hid bf8;have HCS:=Lib.hid hcs;have HCI:=Lib.hid hci;have Gl:=Lib.hid hsel;clear hc hs hi hnew hok hok0 bf8 hcs hci hg hcf hsel hgs;obtain⟨hN0,hN1⟩:=hN
 go_enter Try.func19,Try.ntmps19
 go_wp2_with fail
 go_loopw [10,11,14,30] (fun v2 v3 v1 i wr=>∃(j:Nat) (L:List uz.Loc) (V1 V2:Value),V1=v1/\V2=v2/\Value.slice none 0 0=v3/\j<=is.length/\i=.int .i64 j/\L.length=j/\SW w w.heap.size #[.int .i64 t,.int .i64 n,.slice A1 t k1] wr L (F6 t n cf ak is) j v1 v2 j (bQ ak (is.take j))) (fun _ _ _ i _=>is.length-(intOf i).toNat)
 case atStart=>exact⟨0,[],_,_,rfl,rfl,rfl,by omega,rfl,rfl,⟨World.ownsRow_nil _ _ _ _,World.ownsRow_nil _ _ _ _,bZ.new _ _ _,aK _ _,fun k a h=>by simp at h,fun a h=>by simp at h,fun i j a b h=>by simp at h⟩⟩
 case round=>
  obtain⟨j,L,V1,V2,rfl,rfl,rfl,hj,rfl,hL,hsw⟩:=hrel;have VO:=Lib.hid hsw;clear hsw;by_cases hlt:j<is.length
  ·have hid:=Gl.out.at_ hlt;have hcI:wr.cell? ⟨bi,oi+j,none⟩=some (.int .i64 (is.getD j 0:Nat)):=by
    have h1:=HCI.out j hlt;have e:(ints is).getD j 0=((is.getD j 0:Nat):Int):=by simp[ints,List.getD_eq_getElem?_getD,hlt]
    rw[e]at h1;exact(VO.out.bw.cell (p:=⟨bi,oi+j,none⟩) hbi).trans h1
   have hcS:wr.cell? ⟨bs,os+(is.getD j 0-1),none⟩=some (.int .u64 (poly cf (is.getD j 0))):=by
    have h1:=HCS.out (is.getD j 0-1) (by omega);rw[O4 _ (by omega)]at h1;have e:(((is.getD j 0-1:Nat):Int)+1)=((is.getD j 0:Nat):Int):=by omega
    rw[e]at h1;exact(VO.out.bw.cell (p:=⟨bs,os+(is.getD j 0-1),none⟩) hbs).trans h1
   have hp:=sK cf (is.getD j 0);have hnw:=bG6.out j hlt;have ho0:=bn6.out j hlt;have hcj:cmt ak (is.getD j 0)=iw ((is.getD j 0:Nat):Int) (dN ak (is.getD j 0),fN ak (is.getD j 0)):=rfl;have hst:F6 t n cf ak is j=⟨t,n,comms cf cf.length,is.getD j 0,poly cf (is.getD j 0),[(dN ak (is.getD j 0),fN ak (is.getD j 0))]⟩:=rfl;have htk:bQ ak (is.take (j+1))=bQ ak (is.take j)++[cmt ak (is.getD j 0)]:=by
    unfold bQ;rw[List.take_add_one,List.map_append];simp[List.getD_eq_getElem?_getD,hlt]
   have hbd:=Fq (ak:=ak) (is.getD j 0);have hbf:=E8 (ak:=ak) (is.getD j 0);have hdd:dN ak (is.getD j 0)=iV (IntKind.u64.wrap (IntKind.u64.wrap (ak*((is.getD j 0:Nat):Int))+1)):=rfl;have hff:fN ak (is.getD j 0)=iV (IntKind.u64.wrap (ak+((is.getD j 0:Nat):Int)*7919)):=rfl;generalize hID:is.getD j 0=ID at*;generalize poly cf (ID:Int)=SH at*;obtain⟨aJ6,aJ5⟩:=hid;have gl:=VO.out.gb.lt;have g0:wr.cell? ⟨w.heap.size,0,none⟩=some (.int .i64 t):=VO.out.gb.cell 0;have g1:wr.cell? ⟨w.heap.size,1,none⟩=some (.int .i64 n):=VO.out.gb.cell 1;have g2:wr.cell? ⟨w.heap.size,2,none⟩=some (.slice A1 t k1):=VO.out.gb.cell 2;have bd9:=HC.out.later VO.out.bw.drew;have bg1:bs<wr.heap.size:=Nat.lt_of_lt_of_le hbs VO.out.bw.size;have HND:=Lib.hid bd9;have HO0:=Lib.hid ho0;have HCJ:=Lib.hid hcj;have HST:=Lib.hid hst;have HTK:=Lib.hid htk;have HNW:=Lib.hid hnw;have HDD:=Lib.hid hdd;have HFF:=Lib.hid hff;have t2:((ID:Int)-1).toNat=ID-1:=by omega
   have hb1:(0:Int)<=(ID:Int)-1:=by omega
   have hb2:(ID:Int)-1<(n:Int):=by omega
   have hb3:0<ID:=by omega
   have hb4:(1:Int)<=(ID:Int):=by omega
   have hb5:(0:Int)<=(ID:Int)-1/\(ID:Int)-1<(n:Int):=by omega
   have hwrap:IntKind.i64.wrap ((ID:Int)-1)=(ID:Int)-1:=by rw[IntKind.wrap_i64];omega
   clear bd9 hnw hdd hff ho0 hcj hst htk
   go_wp2_with fail
   go_region_held3 (fun w'=>(w'.cell? ⟨w.heap.size,0,none⟩=some (.int .i64 t)/\w'.cell? ⟨w.heap.size,1,none⟩=some (.int .i64 n)/\w'.cell? ⟨w.heap.size,2,none⟩=some (.slice A1 t k1))/\w'.cell? ⟨bs,os+(ID-1),none⟩=some (.int .u64 SH))
    (first|go_keep|(exact⟨⟨(hbk.cell (p:=⟨w.heap.size,0,none⟩) gl).trans g0,(hbk.cell (p:=⟨w.heap.size,1,none⟩) gl).trans g1,(hbk.cell (p:=⟨w.heap.size,2,none⟩) gl).trans g2⟩,(hbk.cell (p:=⟨bs,os+(ID-1),none⟩) bg1).trans hcS⟩))
    (first|(go_at_call 12;refine(bx5 _ HND.out (by omega) HCN.out (by omega) HNW.out).mono ?_;rintro e w3 ⟨a,rfl,hsa,hfa,hbk⟩))
   all_goals
    have aI0:=VO.out.new (by omega) (((Below.refl _ _).drew).trans hbk) hsa hfa;rw[hL]at aI0;have hLa:(L++[a])[j]?=some a:=by rw[List.getElem?_append,if_neg (by omega),hL];simp
    have bn2:=Lib.hid aI0;have Zy:=Lib.hid hLa;clear aI0 hLa hfa hbk VO g0 g1 g2 gl bg1 hcI hcS HND HNW hwrap hb1 hb2 hb3 hb4 hb5 t2;have hcm:=uz.Jv w3 a _ (dN ak ID) (fN ak ID) hsa HO0.out (by omega) (by omega);have hce:=TM (s:=⟨t,n,comms cf cf.length,ID,SH,[]⟩) (d:=dN ak ID) (e:=fN ak ID) (by omega) (by simp) (by simp);obtain⟨e1,e2⟩:=N9 hce;rw[e1,e2,hce]at hcm;clear hce e1 e2 hsa;rw[show pz (iw (⟨t,n,comms cf cf.length,ID,SH,[]⟩:St).id (dN ak ID,fN ak ID))=.agg #[.int .i64 ID,.int .u64 (pw 4 (dN ak ID).toNat 2147483579),.int .u64 (pw 4 (fN ak ID).toNat 2147483579)]from rfl]at hcm;have HCM:=Lib.hid hcm;clear hcm
    go_upto_region 10 with(first|(go_at_call 21;refine(yB _ _ (u64_nonneg _)).mono ?_;rintro e w' ⟨rfl,rfl⟩))
    rw[<-HDD.out,<-HFF.out];generalize hDV:dN ak ID=DV at*;generalize hFV:fN ak ID=FV at*
    go_wp2_with fail
    refine HCM.out.mono ?_;rintro e w5 ⟨rfl,hs5,ho5⟩;have bc7:=bn2.out.only Zy.out ho5 hs5;have hOB:=bZ.new w5 37 #[.int .i64 ID,.int .u64 (pw 4 DV.toNat 2147483579),.int .u64 (pw 4 FV.toNat 2147483579)];have bc6:=bc7.alloc (.cells #[.int .i64 ID,.int .u64 (pw 4 DV.toNat 2147483579),.int .u64 (pw 4 FV.toNat 2147483579)] 37);have aQ5:=Lib.hid bc6;have HOB:=Lib.hid hOB;clear bc7 bc6 hOB hs5 ho5 HCM bn2
    go_wp2_with fail
    generalize w5.alloc (.cells #[.int .i64 ID,.int .u64 (pw 4 DV.toNat 2147483579),.int .u64 (pw 4 FV.toNat 2147483579)] 37)=w6 at*;generalize bB6:w5.heap.size=OB at*;clear bB6;have b0:w6.cell? ⟨OB,0,none⟩=some (.int .i64 ID):=HOB.out.cell 0;have b1:w6.cell? ⟨OB,1,none⟩=some (.int .u64 (pw 4 DV.toNat 2147483579)):=HOB.out.cell 1;have b2:w6.cell? ⟨OB,2,none⟩=some (.int .u64 (pw 4 FV.toNat 2147483579)):=HOB.out.cell 2;have ah5:=aQ5.out.sg j a Zy.out;rw[if_pos rfl]at ah5;have hlf:=SV w6.drew a _ (KE ah5 (Below.refl _ _).drew);simp only[List.nil_append,List.length_singleton]at hlf;have hob:=NC ah5 HOB.out (by decide) (by decide) (by decide);have HLF:=Lib.hid hlf;clear ah5 hlf
    go_region_law (first|(go_simp;go_at_call 60;refine(bv9 _ (by omega) _).mono ?_;rintro e w' ⟨rfl,rfl⟩)|(go_simp;go_at_call 15;refine HLF.out.mono ?_;rintro e w7 ⟨rfl,hs7,ho7⟩))
    all_goals
     have aH9:=aQ5.out.drew.only Zy.out ho7 hs7;have bd8:=ho7.blk (show bZ w6.drew OB _ _ from HOB.out) hob;have an0:=Lib.hid aH9;have bn7:=Lib.hid bd8;have hz8:=aH9.bw.size;obtain⟨i1,hj1,hy0,hy1,hy2⟩:=info_parts X0;obtain⟨i0,hi0,hz0,hz1,hz2⟩:=info_parts ah2;clear aH9 bd8 hob ho7 hs7 b0 b1 b2 HLF HOB aQ5
     go_upto_region 14 with(at_builtin;refine wpList_append_own _ rfl (.tmp 87) (.tmp 89) _ rfl w.heap.size 32 i1 (.pointer none) 1 8 Try.underlying125 hj1 hy0 hy1 hy2 rfl (by decide) _ _ _ rfl (an0.out.yt.alloc _) ⟨w7.heap.size,0,none⟩ 1 1 [CW a] rfl rfl (cell_one_new _ _ _) (by simp[Value.oneCell',CW]) (by unfold maxLen;omega) (by omega) (by simp;omega) ?_;intro v1 w9 hown1 hgrow1 _)
     have aH8:=an0.out.app1 hgrow1 Zy.out hown1;have Yb:=gI bn7.out an0.out.yt (by decide) hgrow1;have b0:w9.cell? ⟨OB,0,none⟩=some (.int .i64 ID):=Yb.cell 0;have b1:w9.cell? ⟨OB,1,none⟩=some (.int .u64 (pw 4 DV.toNat 2147483579)):=Yb.cell 1;have b2:w9.cell? ⟨OB,2,none⟩=some (.int .u64 (pw 4 FV.toNat 2147483579)):=Yb.cell 2;have Dh:OB<w9.heap.size:=Yb.lt;have bn1:=Lib.hid aH8;have hz9:=aH8.bw.size;clear aH8 Yb bn7 an0 hown1 hgrow1 hz8
     go_wp2_with (at_builtin;refine wpList_append_own _ rfl (.tmp 91) (.tmp 93) _ rfl w.heap.size 37 i0 (.agg #[.int .i64 0,.int .u64 0,.int .u64 0]) 3 24 Try.underlying40 hi0 hz0 hz1 hz2 rfl (by decide) _ _ _ rfl (bn1.out.xE.alloc _) ⟨w9.heap.size,0,none⟩ 1 1 [.int .i64 ID,.int .u64 (pw 4 DV.toNat 2147483579),.int .u64 (pw 4 FV.toNat 2147483579)] rfl rfl (World.news_of_block (Gn.jc _ _ (by simp))) (by simp[Value.oneCell']) (by unfold maxLen;omega) (by omega) (by simp;omega) ?_;intro v2 w10 hown2 hgrow2 _)
     have hl':aU (bQ ak (is.take (j+1)))=aU (bQ ak (is.take j))++[.int .i64 ID,.int .u64 (pw 4 DV.toNat 2147483579),.int .u64 (pw 4 FV.toNat 2147483579)]:=by
      rw[HTK.out,HCJ.out,Dj,Jw];rfl
     have bc8:=bn1.out.bF1 (l':=bQ ak (is.take (j+1))) (n':=j+1) hgrow2 (by rw[hl'];exact hown2);refine⟨⟨j+1,L++[a],_,_,rfl,rfl,rfl,by omega,by go_num,by simp[hL],bc8.congr fun k hk=>?_⟩,by simp[intOf];omega⟩;simp only[List.length_append,List.length_singleton,hL]at hk;by_cases hkj:k=j
     ·subst hkj;rw[if_pos rfl,HST.out]
     ·rw[if_neg hkj,if_neg hkj,if_neg hkj]
  ·have hje:j=is.length:=by omega
   subst hje;have hL':L.take is.length=L:=by rw[<-hL,List.take_length]
   have hSX:SX w w.heap.size #[.int .i64 t,.int .i64 n,.slice A1 t k1] wr L (fun k=>if k<0 then Um t n cf is k else F6 t n cf ak is k) V1 V2 (.slice none 0 0) 0 is.length (bQ ak is) ((List.range 0).map fun k=>.int .u64 (shr cf ak is msg k)):=by
    have h1:=VO.out;rw[List.take_length]at h1;exact⟨h1.congr (Iz:=fun k=>if k<0 then Um t n cf is k else F6 t n cf ak is k) fun k _=>by rw[if_neg (Nat.not_lt_zero _)],World.ownsRow_nil _ _ _ _⟩
   obtain⟨bk,kc,hv,hbk,hbl⟩:=VO.out.yt.form Nk;subst hv;obtain⟨wo,rfl⟩:∃wo:World,wo=wr:=⟨_,rfl⟩;have Ox:=Lib.hid hSX;clear hSX VO hbl
   go_wp2_with fail
   go_loopw [10,11,98] (fun v2 v3 i wr=>∃(m:Nat) (V3:Value),V2=v2/\V3=v3/\m<=is.length/\i=.int .i64 m/\(m=0\/dM (bQ ak is) ((comms cf cf.length).getD 0 0) msg≠1)/\SX w w.heap.size #[.int .i64 t,.int .i64 n,.slice A1 t k1] wr L (fun k=>if k<m then Um t n cf is k else F6 t n cf ak is k) (.slice (some ⟨bk,0,none⟩) is.length kc) V2 V3 m is.length (bQ ak is) ((List.range m).map fun k=>.int .u64 (shr cf ak is msg k))) (fun _ _ i _=>is.length-(intOf i).toNat)
   case atStart=>exact⟨0,_,rfl,rfl,by omega,rfl,.inl rfl,Ox.out⟩
   case round=>
    clear Ox;obtain⟨m,V3,rfl,rfl,hm,rfl,hne,hsx⟩:=hrel;have Ox:=Lib.hid hsx;clear hsx;by_cases hml:m<is.length
    ·have hLl:m<L.length:=by omega
     obtain⟨a,ha⟩:∃a,L[m]?=some a:=⟨_,List.getElem?_eq_getElem hLl⟩;have hca:=aA0 Ox.out.sw.yt (by rw[List.take_of_length_le (by omega)];exact ha) Nk;have hsg:=Ox.out.sw.sg m a ha;rw[if_neg (Nat.lt_irrefl _)]at hsg;have hS1:=aY3 Gl.out hml (VP.out m hml) hsg Ox.out.sw.xE hms;have HS1:=Lib.hid hS1;have Zy:=Lib.hid ha;clear hS1 hsg ha;unfold CW at hca
     go_upto_region 19 with fail
     go_wp2_with fail
     refine HS1.out.mono ?_;rintro e w1 ⟨ho1,hr1⟩;rcases hr1 with⟨hone,rfl⟩|⟨hno,rfl,hs1⟩
     ·go_wp2_with fail
      refine bodyPost_ret (v:=.tuple #[.slice none 0 0,.slice none 0 0,.bool true,.bool true]) (by simp[results,Try.results19,go_sem]) rfl ?_;exact⟨Ox.out.sw.bw.trans (FH ho1 (Ox.out.sw.ft a (List.mem_of_getElem? Zy.out)) Ox.out.sw.bw.size),.inl ⟨hone,rfl⟩⟩
     ·have bc5:=Ox.out.only Zy.out ho1 hs1;have bc4:=bc5.congr (Iz:=fun k=>if k<m+1 then Um t n cf is k else F6 t n cf ak is k) fun k _=>by
       by_cases hkm:k=m
       ·subst hkm;rw[if_pos rfl,if_pos (by omega)]
       ·rw[if_neg hkm];by_cases hlt2:k<m
        ·rw[if_pos hlt2,if_pos (by omega)]
        ·rw[if_neg hlt2,if_neg (by omega)]
      have am9:=Lib.hid bc4;have HOE:=Lib.hid (bn6.out m hml);clear bc5 bc4 Ox hs1 ho1 hca;have aI3:=am9.out.sw.sg m a Zy.out;rw[if_pos (by omega)]at aI3;have hS2:=aY2 Gl.out hml HOE.out aI3 am9.out.sw.xE hms;have HS2:=Lib.hid hS2;clear hS2 aI3 HS1
      go_upto_region 22 with fail
      go_wp2_with fail
      refine HS2.out.mono ?_;rintro e w2 ⟨rfl,ho2,hs2⟩;have bb9:=(am9.out.only Zy.out ho2 hs2).congr (Iz:=fun k=>if k<m+1 then Um t n cf is k else F6 t n cf ak is k) fun k _=>by
       by_cases hkm:k=m
       ·subst hkm;rw[if_pos rfl,if_pos (by omega)]
       ·rw[if_neg hkm]
      have aQ4:=Lib.hid bb9;clear bb9 ho2 hs2 am9 HS2;have aI2:=aQ4.out.sw.sg m a Zy.out;rw[if_pos (by omega)]at aI2;have HL3:=Lib.hid (left0 aI2);clear aI2
      go_upto_region 23 with fail
      go_wp2_with fail
      refine HL3.out.mono ?_;rintro e w3 ⟨rfl,ho3,hs3⟩;have aH7:=(aQ4.out.only Zy.out ho3 hs3).congr (Iz:=fun k=>if k<m+1 then Um t n cf is k else F6 t n cf ak is k) fun k _=>by
       by_cases hkm:k=m
       ·subst hkm;rw[if_pos rfl,if_pos (by omega)]
       ·rw[if_neg hkm]
      have bn0:=Lib.hid aH7;obtain⟨i0,hi0,hz0,hz1,hz2⟩:=info_parts zS;have hz4:=aH7.sw.bw.size;clear aH7 ho3 hs3 aQ4 HL3
      go_wp2_with (at_builtin;refine wpList_append_own _ rfl (.tmp 129) (.tmp 131) _ rfl w.heap.size 25 i0 (.int .u64 0) 1 8 Try.underlying26 hi0 hz0 hz1 hz2 rfl (by decide) _ _ _ rfl (bn0.out.CX.alloc _) ⟨w3.heap.size,0,none⟩ 1 1 [.int .u64 (shr cf ak is msg m)] rfl rfl (cell_one_new _ _ _) (by simp[Value.oneCell']) (by unfold maxLen;omega) (by omega) (by simp;omega) ?_;intro v3 w4 hown3 hgrow3 _)
      have bz1:=bn0.out.bF0 (m':=m+1) (zs':=(List.range (m+1)).map fun k=>.int .u64 (shr cf ak is msg k)) hgrow3 (by rw[List.range_succ,List.map_append];exact hown3);exact⟨⟨m+1,_,rfl,rfl,by omega,by go_num,.inr hno,bz1⟩,by simp[intOf];omega⟩
    ·have hme:m=is.length:=by omega
     subst hme
     go_wp2_with fail
     have hno:=hne.resolve_left (by omega);refine bodyPost_ret (v:=.tuple #[V2,V3,.bool false,.bool true]) (by simp[results,Try.results19,go_sem]) rfl ?_;refine⟨Ox.out.sw.bw,.inr ⟨hno,V2,V3,rfl,Ox.out.sw.xE,Ox.out.CX,?_⟩⟩;rcases yj Ox.out.CX Ox.out.sw.xE (by decide)with h|h
     ·obtain⟨b3,c3,rfl,-⟩:=Ox.out.CX.form Nk;cases h
     ·exact h
end Zq
namespace Bla
open Go.RowKit Pl ny oI ni JO JI Qy Qx qj Mem Ad oG mY Dlt Qz Cc
open Zq (signedC)
theorem Ht(t n mask:Int):∃c,ids mask (dY t n) (jU n)=sel c (jU n):=⟨_,Va mask (dY t n) (jU n) (jU n)⟩
theorem Hu(t n mask:Int):JJ (dY t n) (jU n) (ids mask (dY t n) (jU n)):=by
 have hN:=yw n;have hT:=Ak t n;obtain⟨c,hc⟩:=Ht t n mask;have h1:=Jf mask (dY t n) (jU n) (jU n) hT.2.1 (Nat.le_refl _);have h2:=Na mask (dY t n) (jU n) (jU n);exact⟨fun x hx=>by rw[hc]at hx;exact Dq _ _ x hx,by rw[hc];exact KI _ _,by show _<=(gU mask (dY t n) (jU n) (jU n)).length;omega,h2,by omega⟩
theorem Fp(t n seed:Int):dw (dY t n) (jU n) (comms (jO seed (dY t n)) (jO seed (dY t n)).length)=true:=by
 have hN:=yw n;have hT:=Ak t n;have h0:(jO seed (dY t n)).getD 0 0=mY.cf seed 0:=FB seed (by omega);exact Nv (by omega) (by omega) (by omega) (by rw[gB]) (by rw[h0];exact jf.1) (by rw[h0];exact jf.2)
structure PO(T N:Nat)(cf:List Int)(is:List Nat)(ak:Int)(msg:ByteArray)(w w2:World)(B gb:Nat)(A1:Option Addr)(k1:Nat)(vi vC vZ:Value)(zero:Bool):Prop where
 bel:Below w.heap.size w w2
 wB:w.heap.size<=B
 Bw:B<=w2.heap.size
 gb1:w.heap.size<=gb
 gbB:gb<B
 grp:bZ w2 gb 28 #[.int .i64 T,.int .i64 N,.slice A1 T k1]
 cs:Nums .u64 w2 B (.slice A1 T k1) (comms cf cf.length)
 ids:Nums .i64 w2 B vi (ints is)
 out:(zero=true/\dM (bQ ak is) ((comms cf cf.length).getD 0 0) msg=1)\/(zero=false/\dM (bQ ak is) ((comms cf cf.length).getD 0 0) msg≠1/\w2.ownsRow B 37 3 vC is.length (aU (bQ ak is))/\w2.ownsRow B 25 1 vZ is.length ((List.range is.length).map fun k=>.int .u64 (shr cf ak is msg k))/\vZ.ownBlock≠vC.ownBlock)
theorem KA(t n seed mask ak:Int)(msg:ByteArray)(w w1:World)(gb:Nat)(A1:Option Addr)(k1:Nat)(vs vi:Value)(hN:0<=ak/\ak<18446744073709551616)(hms:msg.size<=1000000)(hb:Below w.heap.size w w1)(be9:w.heap.size<=gb)(ah8:gb<w1.heap.size)
  (hg:bZ w1 gb 28 #[.int .i64 (dY t n),.int .i64 (jU n),.slice A1 (dY t n) k1])(hc:Nums .u64 w1 w1.heap.size (.slice A1 (dY t n) k1) (comms (jO seed (dY t n)) (jO seed (dY t n)).length))(hs:Nums .u64 w1 w1.heap.size vs (jR (jO seed (dY t n)) (jU n))){is:List Nat}(hsel:JJ (dY t n) (jU n) is)(hi:Nums .i64 w1 w1.heap.size vi (ints is)):
  Calls Try.prog 19 #[.agg #[.int .i64 (dY t n),.int .i64 (jU n),.slice A1 (dY t n) k1],vs,vi,.int .u64 ak,.string msg] w1 fun e w2=>∃zero vC vZ,e=.returned (.tuple #[vC,vZ,.bool zero,.bool true])/\PO (dY t n) (jU n) (jO seed (dY t n)) is ak msg w w2 w1.heap.size gb A1 k1 vi vC vZ zero:=by
 refine(signedC (dY t n) (jU n) (jO seed (dY t n)) is ak msg w1 _ vs vi (Fp t n seed) (Bl seed _) (gB seed _) hsel hN hms hc hs hi).mono ?_;rintro e w2 ⟨hbel,⟨h1,rfl⟩|⟨h1,vC,vZ,rfl,h2,h3,h4⟩⟩
 ·exact⟨true,_,_,rfl,hb.trans (hbel.mono hb.size),hb.size,hbel.size,be9,ah8,hg.below hbel ah8,hc.below hbel,hi.below hbel,.inl ⟨rfl,h1⟩⟩
 ·exact⟨false,vC,vZ,rfl,hb.trans (hbel.mono hb.size),hb.size,hbel.size,be9,ah8,hg.below hbel ah8,hc.below hbel,hi.below hbel,.inr ⟨rfl,h1,h2,h3,h4⟩⟩
end Bla
namespace Bla
open Go.RowKit Pl ny oI ni Mem oG Odr JI Qx J5 OO Cc JO Qz Qy mY qj Cpl
section
variable{t n:Nat}{is:List Nat}{ak:Int}
theorem rZ{F:Nat->Int}:∀{k:Nat},(∀j,j<k->0<=F j)->0<=tot F k
 |0,_=>Int.le_refl _
 |k+1,h=>by rw[tot];have:=rZ (k:=k) fun j hj=>h j (by omega);have:=h k (by omega);omega
theorem Kv(F G:Nat->Int):∀k,tot (fun j=>F j+G j) k=tot F k+tot G k
 |0=>rfl
 |k+1=>by rw[tot,tot,tot,Kv F G k];omega
theorem Ku(c:Int)(F:Nat->Int):∀k,tot (fun j=>c*F j) k=c*tot F k
 |0=>by simp[tot]
 |k+1=>by rw[tot,tot,Ku c F k,Int.mul_add]
theorem Ky{zs:List Int}(hz:∀k,k<zs.length->0<=zs.getD k 0/\zs.getD k 0<1073741789):∀k,k<=zs.length->xA 0 zs k=tot (fun j=>zs.getD j 0) k%1073741789
 |0,_=>rfl
 |k+1,hk=>by
  have b:=hz k (by omega);have ih:=Ky hz k (by omega);rw[xA,tot,ih];have h1:0<=tot (fun j=>zs.getD j 0) k%1073741789/\tot (fun j=>zs.getD j 0) k%1073741789<1073741789:=by omega
  unfold mM;rw[lN (by omega) (by omega)];omega
def xP(ak:Int)(is:List Nat)(key:Int)(msg:ByteArray)(k:Nat):Int:=dN ak (is.getD k 0)+fN ak (is.getD k 0)*lH (bQ ak is) key msg k
theorem QG(key:Int)(msg:ByteArray)(k:Nat):0<=xP ak is key msg k:=by
 have b1:=Fq (ak:=ak) (is.getD k 0);have b2:=E8 (ak:=ak) (is.getD k 0);have b3:=rV (bQ ak is) key msg k;have:=Int.mul_nonneg (Int.le_of_lt b2.1) b3.1;unfold xP;omega
theorem Xo(key:Int)(msg:ByteArray){k:Nat}(hk:k<is.length):lV (bQ ak is) key msg k=pw 4 (xP ak is key msg k).toNat 2147483579:=by
 have b1:=Fq (ak:=ak) (is.getD k 0);have b2:=E8 (ak:=ak) (is.getD k 0);have b3:=rV (bQ ak is) key msg k;unfold lV xP;rw[kW hk,oQ (by omega) (Int.mul_nonneg (by omega) b3.1),Dv,sD (by omega) b3.1,lD];rfl
theorem JD(key:Int)(msg:ByteArray):∀k,k<=is.length->JE (bQ ak is) key msg k=pw 4 (tot (xP ak is key msg) k).toNat 2147483579
 |0,_=>by show(1:Int)=pw 4 0 2147483579;decide
 |k+1,hk=>by
  rw[JE,JD key msg k (by omega),Xo key msg (by omega),tot,oQ (rZ fun j _=>QG key msg j) (QG key msg k),Dv]
theorem P6:gV (bQ ak is) is.length=ints is:=by
 refine List.ext_getElem (by simp[gV,ints]) fun i h1 h2=>?_
 have hi:i<is.length:=by simpa [gV]using h1
 have:(gV (bQ ak is) is.length).getD i 0=((is.getD i 0:Nat):Int):=by rw[X5 _ hi,kW hi];rfl
 have e1:(gV (bQ ak is) is.length).getD i 0=(gV (bQ ak is) is.length)[i]:=by simp[List.getD_eq_getElem?_getD,h1]
 rw[<-e1,this];simp[ints,List.getD_eq_getElem?_getD,hi]
theorem Uo{c:Nat->Bool}(hsel:is=sel c n){cf:List Int}(hcl:cf.length=t)(ht:0<t)(hcf:∀i,i<cf.length->0<=cf.getD i 0/\cf.getD i 0<1073741789)(h0:0<cf.getD 0 0)(h:JJ t n is)(msg:ByteArray)(ha:dM (bQ ak is) ((comms cf cf.length).getD 0 0) msg≠1)(zs:List Int)(hl:zs.length=is.length)(hz:∀k,k<is.length->zs.getD k 0=shr cf ak is msg k):
  nS ((comms cf cf.length).getD 0 0) msg (dM (bQ ak is) ((comms cf cf.length).getD 0 0) msg) (xA 0 zs zs.length)=true:=by
 have hkey:(comms cf cf.length).getD 0 0=pw 4 (cf.getD 0 0).toNat 2147483579:=rQ cf (by omega);have hR:=JD (ak:=ak) (is:=is) ((comms cf cf.length).getD 0 0) msg is.length (Nat.le_refl _);have hR2:dM (bQ ak is) ((comms cf cf.length).getD 0 0) msg=pw 4 (tot (xP ak is ((comms cf cf.length).getD 0 0) msg) is.length).toNat 2147483579:=by rw[DU,bV];exact hR
 have hcb:=DN (dM (bQ ak is) ((comms cf cf.length).getD 0 0) msg) ((comms cf cf.length).getD 0 0) msg;have hc0:=hcf 0 (by omega);have zb:∀k,k<zs.length->0<=zs.getD k 0/\zs.getD k 0<1073741789:=fun k hk=>by rw[hz k (by omega)];exact Au _ _ _ _ _
 have hsum:=Ky zb zs.length (Nat.le_refl _);have hsb:0<=xA 0 zs zs.length/\xA 0 zs zs.length<1073741789:=by rw[hsum];omega
 have hexp:tot (fun j=>zs.getD j 0) zs.length%1073741789=(tot (xP ak is ((comms cf cf.length).getD 0 0) msg) is.length+jB (dM (bQ ak is) ((comms cf cf.length).getD 0 0) msg) ((comms cf cf.length).getD 0 0) msg*cf.getD 0 0)%1073741789:=by
  have hrec:=Uy (c:=c) (n:=n) h.n9 cf (ints is |>.map fun i=>poly cf i) (by omega) (by rw[<-hsel];have:=h.many;omega) hcf (fun k hk=>by
   rw[<-hsel]at hk ⊢;simp[ints,List.getD_eq_getElem?_getD,hk])
  rw[<-hsel,KQ]at hrec;have hw:∀k,k<is.length->fF (gV (bQ ak is) is.length) k=weight (ints is) k:=fun k hk=>by
   rw[P6];refine C9 (ints is) k (fun i hi=>?_) (by simpa [ints]using hk);have hi':i<is.length:=by simpa [ints]using hi
   have:=h.at_ hi';have h9:=h.n9;have e:(ints is).getD i 0=((is.getD i 0:Nat):Int):=by simp[ints,List.getD_eq_getElem?_getD,hi']
   rw[e];omega
  rw[hl];have bf7:tot (fun j=>zs.getD j 0) is.length%1073741789=tot (fun j=>xP ak is ((comms cf cf.length).getD 0 0) msg j+jB (dM (bQ ak is) ((comms cf cf.length).getD 0 0) msg) ((comms cf cf.length).getD 0 0) msg*((ints is |>.map fun i=>poly cf i).getD j 0*weight (ints is) j)) is.length%1073741789:=by
   refine Gt fun k hk=>?_
   have hp:(ints is |>.map fun i=>poly cf i).getD k 0=poly cf (is.getD k 0):=by simp[ints,List.getD_eq_getElem?_getD,hk]
   rw[hz k hk,hp];have b1:=Fq (ak:=ak) (is.getD k 0);have b2:=E8 (ak:=ak) (is.getD k 0);have b3:=rV (bQ ak is) ((comms cf cf.length).getD 0 0) msg k;have b4:0<=fF (gV (bQ ak is) is.length) k/\fF (gV (bQ ak is) is.length) k<1073741789:=lS _ _;have b5:=sK cf (is.getD k 0);unfold shr;rw[sign_eq ⟨by omega,b1.2⟩ ⟨by omega,b2.2⟩ b3 b4 b5 hcb];unfold QO xP;rw[hw k hk];have x1:∀w s c:Int,w*s%1073741789*c%1073741789=(w*s*c)%1073741789:=fun w s c=>by rw[Int.mul_emod,Int.emod_emod_of_dvd _ (Int.dvd_refl _),<-Int.mul_emod]
   rw[x1];have x2:weight (ints is) k*poly cf (is.getD k 0)*jB (dM (bQ ak is) ((comms cf cf.length).getD 0 0) msg) ((comms cf cf.length).getD 0 0) msg=jB (dM (bQ ak is) ((comms cf cf.length).getD 0 0) msg) ((comms cf cf.length).getD 0 0) msg*(poly cf (is.getD k 0)*weight (ints is) k):=by
    rw[Int.mul_comm (weight _ _),Int.mul_comm]
   rw[x2];generalize jB _ _ _*(_*_)=y;generalize fN _ _*_=z;omega
  rw[bf7,Kv,Ku];have e3:jB (dM (bQ ak is) ((comms cf cf.length).getD 0 0) msg) ((comms cf cf.length).getD 0 0) msg*tot (fun j=>(ints is |>.map fun i=>poly cf i).getD j 0*weight (ints is) j) is.length%1073741789=jB (dM (bQ ak is) ((comms cf cf.length).getD 0 0) msg) ((comms cf cf.length).getD 0 0) msg*cf.getD 0 0%1073741789:=by
   rw[Int.mul_emod,hrec]
   conv=>rhs;rw[Int.mul_emod,Int.emod_eq_of_lt hc0.1 hc0.2]
  rw[Int.add_emod,e3,<-Int.add_emod]
 unfold nS;simp only[Bool.and_eq_true,decide_eq_true_eq];refine⟨⟨⟨⟨⟨?_,?_⟩,hsb.2⟩,?_⟩,ha⟩,?_⟩
 ·rw[hkey];exact DC _
 ·rw[hR2];exact DC _
 ·rw[hkey];exact pR (by omega) (by show(cf.getD 0 0).toNat<1073741789;omega)
 ·have hcx:=Int.mul_nonneg hcb.1 hc0.1;have hxn:0<=tot (xP ak is ((comms cf cf.length).getD 0 0) msg) is.length:=rZ fun j _=>QG _ msg j
  have e1:pw ((comms cf cf.length).getD 0 0) (jB (dM (bQ ak is) ((comms cf cf.length).getD 0 0) msg) ((comms cf cf.length).getD 0 0) msg).toNat 2147483579=pw 4 (jB (dM (bQ ak is) ((comms cf cf.length).getD 0 0) msg) ((comms cf cf.length).getD 0 0) msg*cf.getD 0 0).toNat 2147483579:=by
   generalize jB (dM (bQ ak is) ((comms cf cf.length).getD 0 0) msg) ((comms cf cf.length).getD 0 0) msg=ch at*;rw[hkey,<-lD,sD hcb.1 hc0.1,Nat.mul_comm]
  rw[e1,hsum,hexp,<-zi (by omega),oQ hxn hcx,AB];rw[<-hR2]
end
end Bla
namespace Bla
open Go.RowKit Odr Pl ny oI ni JO JI Qy Qx qj Mem Ad oG mY Dlt Qz Cc
def hello:ByteArray:=⟨#[104,101,108,108,111]⟩
def Ai(y:Nat->Value):Array Value:=#[y 0,y 1,y 2,y 3,y 4,y 5,y 6,y 7,y 8,y 9,y 10,y 11,y 12,y 13,y 14,y 15,y 16,y 17,y 18,y 19,y 20,y 21,y 22,y 23,y 24,y 25,y 26,y 27,y 28,y 29,y 30,y 31,y 32,y 33,y 34,y 35,y 36,y 37,y 38,y 39,y 40,y 41,y 42,y 43,y 44,y 45,y 46,y 47,y 48,y 49,y 50,y 51,y 52,y 53,y 54,y 55]
theorem QN(T:Array Value)(h:T.size=56):∃y:Nat->Value,T=Ai y/\∀i v,T[i]?=some v->y i=v:=by
 refine⟨fun i=>T.getD i undef,?_,fun i v hv=>?_⟩
 ·have e:T=((List.range 56).map fun i=>T.getD i undef).toArray:=by
   refine Array.ext (by simp[h]) fun i h1 h2=>?_
   simp[Array.getD,h1]
  exact e.trans rfl
 ·simp only[Array.getD];split
  ·rename_i hlt;rw[Array.getElem?_eq_getElem hlt]at hv;exact Option.some.inj hv
  ·rename_i hlt;rw[Array.getElem?_eq_none (by omega)]at hv;cases hv
theorem aw1:jU 1=3:=by decide
theorem aw0:dY 0 1=2:=by decide
theorem TV:JJ (dY 0 1) (jU 1) [1,3]:=by
 rw[aw0,aw1];exact⟨fun x hx=>by simp at hx;omega,by simp,by decide,by decide,by decide⟩
theorem am1:0<(tot (xP 9 [1,3] ((comms (jO 5 (dY 0 1)) (jO 5 (dY 0 1)).length).getD 0 0) hello) 2%1073741789).toNat/\(tot (xP 9 [1,3] ((comms (jO 5 (dY 0 1)) (jO 5 (dY 0 1)).length).getD 0 0) hello) 2%1073741789).toNat<1073741789:=by decide+kernel
theorem am2:dM (bQ 9 [1,3]) ((comms (jO 5 (dY 0 1)) (jO 5 (dY 0 1)).length).getD 0 0) hello≠1:=by
 have h:=am1;have e:=JD (ak:=9) (is:=[1,3]) ((comms (jO 5 (dY 0 1)) (jO 5 (dY 0 1)).length).getD 0 0) hello 2 (by decide);have h0:0<=tot (xP 9 [1,3] ((comms (jO 5 (dY 0 1)) (jO 5 (dY 0 1)).length).getD 0 0) hello) 2:=rZ fun j _=>QG _ hello j
 rw[DU,bV,show [1,3].length=2 from rfl,e];generalize tot (xP 9 [1,3] ((comms (jO 5 (dY 0 1)) (jO 5 (dY 0 1)).length).getD 0 0) hello) 2=X at*;rw[zi (x:=X) h0];exact pR h.1 (by have e:qq=1073741789:=rfl;rw[e];exact h.2)
noncomputable def kY:Code:=Try.f20.body.getD .skip
noncomputable def xW:Code:=(dP 5 kY).2
noncomputable def xg:Code:=match xW with|.seq _ b=>b|_=>.skip
def aS2(w:World)(a:Act)(w3:World):Prop:=
 ∃B gb A1 k1 vi vC vZ,PO (dY 0 1) (jU 1) (jO 5 (dY 0 1)) [1,3] 9 hello w w3 B gb A1 k1 vi vC vZ false/\a.tmps.size=56/\a.tmps[1]?=some (.pointer (some ⟨gb,0,none⟩))/\a.tmps[5]?=some vC/\a.tmps[6]?=some vZ
theorem am3{w:World}:wpL Try.prog (aS2 w) (fun _ _=>False) (dP 5 kY).1 ⟨#[undef,undef,undef,undef,undef,undef,undef,undef,undef,undef,undef,undef,undef,undef,undef,undef,undef,undef,undef,undef,undef,undef,undef,undef,undef,undef,undef,undef,undef,undef,undef,undef,undef,undef,undef,undef,undef,undef,undef,undef,undef,undef,undef,undef,undef,undef,undef,undef,undef,undef,undef,undef,undef,undef,undef,undef],[]⟩ w:=by
 have HD:=Lib.hid (YS 0 1 5 0 w (by omega) (by omega) (by omega));have Gl:=Lib.hid TV;have hneg:=am2;simp only[kY,dP,Try.f20,Option.getD_some];refine jY ?_
 go_wp2_with fail
 refine jY ?_
 go_wp2_with fail
 refine HD.out.mono ?_;rintro e w1 ⟨vc,vs,vi,rfl,h1,h2,h3,hb⟩;obtain⟨A1,k1,e1⟩:=Z9.ku h1;rw[show(comms (jO 5 (dY 0 1)) (jO 5 (dY 0 1)).length).length=dY 0 1 by rw[fH _ (Nat.le_refl _),gB]]at e1;subst e1;have hnb:=aK w1 (.cells #[.int .i64 (dY 0 1),.int .i64 (jU 1),.slice A1 (dY 0 1) k1] 28);have pK:=bZ.new w1 28 #[.int .i64 (dY 0 1),.int .i64 (jU 1),.slice A1 (dY 0 1) k1];have g0:(w1.alloc (.cells #[.int .i64 (dY 0 1),.int .i64 (jU 1),.slice A1 (dY 0 1) k1] 28)).cell? ⟨w1.heap.size,0,none⟩=some (.int .i64 (dY 0 1)):=pK.cell 0;have g1:(w1.alloc (.cells #[.int .i64 (dY 0 1),.int .i64 (jU 1),.slice A1 (dY 0 1) k1] 28)).cell? ⟨w1.heap.size,1,none⟩=some (.int .i64 (jU 1)):=pK.cell 1;have g2:(w1.alloc (.cells #[.int .i64 (dY 0 1),.int .i64 (jU 1),.slice A1 (dY 0 1) k1] 28)).cell? ⟨w1.heap.size,2,none⟩=some (.slice A1 (dY 0 1) k1):=pK.cell 2;have HB:=Lib.hid hb;have HGB:=Lib.hid (hb.trans (hnb.mono hb.size));have HGR:=Lib.hid pK;have HC:=Lib.hid (h1.later hnb);have HS:=Lib.hid (h2.later hnb);have hgs:w.heap.size<=w1.heap.size:=hb.size;have hgl:w1.heap.size<(w1.alloc (.cells #[.int .i64 (dY 0 1),.int .i64 (jU 1),.slice A1 (dY 0 1) k1] 28)).heap.size:=by simp
 clear HD h1 h2 h3 hb hnb pK HB
 go_wp2_with fail
 generalize w1.alloc (.cells #[.int .i64 (dY 0 1),.int .i64 (jU 1),.slice A1 (dY 0 1) k1] 28)=w2 at*;generalize w1.heap.size=gb at*;refine jY ?_
 go_wp2_with fail
 refine jY ?_;have hnb:=aK w2 (.cells #[.int .i64 1,.int .i64 3] 3);have hlit:Nums .i64 (w2.alloc (.cells #[.int .i64 1,.int .i64 3] 3)) (w2.alloc (.cells #[.int .i64 1,.int .i64 3] 3)).heap.size (.slice (some ⟨w2.heap.size,0,none⟩) 2 2) (ints [1,3]):=by
  have:=Nums.lit (k:=.i64) w2 [1,3] 3
  simpa [ints]using this
 have hS:=KA 0 1 5 0 9 hello w (w2.alloc (.cells #[.int .i64 1,.int .i64 3] 3)) gb A1 k1 vs _ (by omega) (by decide) (HGB.out.trans (hnb.mono HGB.out.size)) hgs (Nat.lt_of_lt_of_le hgl hnb.size) (HGR.out.below hnb hgl) (HC.out.later hnb) (HS.out.later hnb) Gl.out hlit;have HS2:=Lib.hid hS;unfold hello at HS2;clear hS hlit hnb
 go_wp2_with fail
 refine HS2.out.mono ?_;rintro e w3 ⟨zero,vC,vZ,rfl,Dz⟩;have hz:zero=false:=by
  rcases Dz.out with⟨-,h⟩|⟨h,-⟩
  ·exact absurd h hneg
  ·exact h
 subst hz;have HPO:=Lib.hid Dz;clear Dz HS2 hneg
 go_wp2_with fail
 refine jY ?_
 go_wp2_with fail
 exact⟨_,_,_,_,_,_,_,HPO.out,rfl,rfl,rfl,rfl⟩
theorem Zi{w:World}{cs:List Int}{A1:Option Addr}{c1 c gb b9:Nat}{A:Option Addr}{R Z:Int}{z:Nat->Value}(z1:z 1=.pointer (some ⟨gb,0,none⟩))(z8:z 8=.pointer (some ⟨b9,0,none⟩))(z9:z 9=.slice A 0 c)(z10:z 10=.int .i64 0)
  (g2:w.cell? ⟨gb,2,none⟩=some (.slice A1 cs.length c1))(hv:Nums .u64 w w.heap.size (.slice A1 cs.length c1) cs)(hcl:0<cs.length)(hk:0<=cs.getD 0 0/\cs.getD 0 0<18446744073709551616)(s0:w.cell? ⟨b9,0,none⟩=some (.int .u64 R))(s1:w.cell? ⟨b9,1,none⟩=some (.int .u64 Z))(hR:0<=R/\R<18446744073709551616)(hZ:0<=Z/\Z<18446744073709551616)
  (Jg:nS (cs.getD 0 0) hello R Z=true):
  xg.wp Try.prog (fun e a w=>match e with|.ret=>a.defers=[]/\a.tmps[0]?=some (.bool true)|_=>False) ⟨Ai z,[]⟩ w:=by
 obtain⟨bk,ok,rfl,hbk,hck⟩:=Zq.wL hv hcl;have hk0:=hck 0 hcl;rw[Nat.add_zero]at hk0;have hkl:(0:Int)<(cs.length:Int):=by omega
 have HVF:=Lib.hid fun W=>QI (cs.getD 0 0) hello R Z W (by decide) hk hR hZ
 rw[Jg]at HVF;unfold hello at HVF;clear hv hck hk hR hZ Jg;generalize cs.getD 0 0=KEY at*;simp only[xg,xW,kY,dP,Try.f20,Option.getD_some,Ai,z1,z8,z9,z10];have lg:=World.block_lt_of_cell? w _ g2;have lb:=World.block_lt_of_cell? w _ hk0;have l9:=World.block_lt_of_cell? w _ s0;have l9':=World.block_lt_of_cell? w _ s1
 go_upto_region 8 with fail
 go_region_held3 (fun w'=>(w'.cell? ⟨gb,2,none⟩=some (.slice (some ⟨bk,ok,none⟩) cs.length c1)/\w'.cell? ⟨bk,ok,none⟩=some (.int .u64 KEY))/\(w'.cell? ⟨b9,0,none⟩=some (.int .u64 R)/\w'.cell? ⟨b9,1,none⟩=some (.int .u64 Z)))
  (first|go_keep|(exact⟨⟨(hb'.cell (p:=⟨gb,2,none⟩) lg).trans g2,(hb'.cell (p:=⟨bk,ok,none⟩) lb).trans hk0⟩,(hb'.cell (p:=⟨b9,0,none⟩) l9).trans s0,(hb'.cell (p:=⟨b9,1,none⟩) l9').trans s1⟩))
  (first|(go_at_call 22;refine(HVF.out _).mono ?_;rintro e w' ⟨rfl,hb'⟩))
 all_goals go_wp2_with fail
end Bla
namespace Cc
open Go.Conc Go.ConcN Go.ConcM Go.RowKit Go.Conc.Lib Go.ConcR.Gen
open Go.ConcR (KK wgBlock WgAt stA smA rd wr mk DC0)
open Pl ny oI ni Mem oG Dl Ad J5 OO Gn Rag
open qj hiding base
open Bla
noncomputable def aw2:Code:=match xW with|.seq a _=>a|_=>.skip
theorem Qv:codeOk Try.prog vS CY xg=true:=by kernel_rfl
theorem al8:Try.f20.results=#[.tmp 0]:=by kernel_rfl
section
variable{q:ig}(hP:q.P=Try.prog){t n:Int}{cs zs:List Int}{l:List Cm}{A1 A2 A3:Option Addr}{c1 c2 c3:Nat}
include hP
theorem Zj{st:St aJ}{num gb b9:Nat}{K:List (Nat×Obj)}(hA:jX 0 num K st)(hI:Inv q st)(hg0:q.P.globals.size=0)(h1:kQ K .u64 A1 c1 cs)(hcl:0<cs.length)(hk:0<=cs.getD 0 0/\cs.getD 0 0<18446744073709551616)
  (hK4:(gb,.cells #[.int .i64 t,.int .i64 n,.slice A1 cs.length c1] 28 (0,0))∈K){A:Option Addr}{c:Nat}{an:Ans}(hK9:(b9,.cells #[.int .u64 an.r,.int .u64 an.z] 46 (0,0))∈K)(hnk:kQ K .i64 A c an.ids)(hR:0<=an.r/\an.r<18446744073709551616)(hZ:0<=an.z/\an.z<18446744073709551616)
  (he:an.e=0)(aJ4:an.ids=[])(Jg:nS (cs.getD 0 0) hello an.r an.z=true)
  {T:Array Value}(hT:T.size=56)(t1:T[1]?=some (.pointer (some ⟨gb,0,none⟩)))(t8:T[8]?=some (.pointer (some ⟨b9,0,none⟩)))(t9:T[9]?=some (.slice A an.ids.length c))(t10:T[10]?=some (.int .i64 an.e))
  {cc:Frame}{bs:List Frame}(fin:∀ah,jX 0 num K ah->Inv q ah->TT (cfg q) 0 (TW (cfg q)) (G (cc.finish (.bool true)) bs) ah):
  TT (cfg q) 0 (TW (cfg q)) (G ((base 20).at ⟨T,[]⟩ [.code xg]) (cc::bs)) st:=by
 have zT:=hA.QU hg0;have hfn:Try.prog.funcs[(base 20).fn]?=some Try.f20:=Try.func20;have hil:an.ids.length=0:=by rw[aJ4];rfl
 refine TT.piece (S:=vS) (Ds:=CY) (X:=fun _=>False) (N:=fun _ _=>False) (R:=fun a w=>a.tmps[0]?=some (.bool true)) hP WA hI Qv rfl (fun fn h=>yg fn h) (Φ:=fun a w=>(∃z,a=⟨Ai z,[]⟩/\z 1=.pointer (some ⟨gb,0,none⟩)/\z 8=.pointer (some ⟨b9,0,none⟩)/\z 9=.slice A an.ids.length c/\z 10=.int .i64 an.e)/\∃τ d,w=World.on (jS vS st.w (Cc.wO K)) τ d) (ro:=uD (Cc.wO K)) (bU:=st)
  (Sh.aq7 zT hI ⟨?_,st.w.tape,st.w.drawn,rfl⟩) ?_ ?_ ?_
 ·obtain⟨z,hz1,hz2⟩:=QN (T.map (QT vS (Cc.wO K))) (by rw[Array.size_map];exact hT);refine⟨z,by rw[hz1],hz2 _ _ (lT t1 (.ptr _ _ (gX (hA.wO hK4)))),hz2 _ _ (lT t8 (.ptr _ _ (gX (hA.wO hK9)))),hz2 _ _ (lT t9 (hnk.2.1.vr hA _ _)),hz2 _ _ (lT t10 (.int _ _))⟩
 ·rintro a w τ d ⟨⟨z,rfl,z1,z8,z9,z10⟩,Ih,d',rfl⟩;rw[he]at z10;rw[hil]at z9;refine Code.wp_mono ?_ (Zi (w:=World.on (jS vS st.w (Cc.wO K)) τ d) z1 z8 z9 z10 (hA.Cj hK4 rfl (h1.2.1.vr hA _ _)) (h1.nums hA) hcl hk (hA.Cj hK9 rfl (.int _ _)) (hA.Cj hK9 rfl (.int _ _)) hR hZ Jg);intro e a w h;cases e with
  |ret=>exact .inr ⟨rfl,h.1,h.2⟩
  |_=>exact h.elim
 ·rintro a2 st' ⟨_,_,_,_,_,_,_,_,_,_,_,hF⟩;exact hF.elim
 ·intro a2 st' todo hs;refine TT.ret (R:=fun v w=>v=.bool true) hP WA hI rfl hfn (yg _ hfn) (hs.mono fun a w h=>⟨.bool true,by unfold Go.results;rw[al8];simp[go_sem,h],rfl⟩) fun v v' ρ s st2 hH hV hv hR=>?_
  obtain⟨τ,d,rfl⟩:=hR;obtain rfl:=kS hv (by simp[bT,iQ]);exact fin st2 (hA.mn hV.2.2.2.1 fun _ _ _ h=>h) hV.2.1
theorem am5{st:St aJ}{num gb:Nat}{K:List (Nat×Obj)}(hA:jX 0 num K st)(hI:Inv q st)(hg0:q.P.globals.size=0)(hG:q.tG=143)(hZ:q.tZ=72)(hR:q.tR=4)(hW:q.tW=107)
  (h1:kQ K .u64 A1 c1 cs)(h2:Oz K A2 c2 l)(h3:kQ K .u64 A3 c3 zs)(hcb:∀i,i<cs.length->0<=cs.getD i 0)(hb:∀i,i<l.length->0<=(l.getD i .zero).d/\0<=(l.getD i .zero).e)(hzb:∀k,k<zs.length->0<=zs.getD k 0/\zs.getD k 0<18446744073709551616)
  (hcl0:0<cs.length)(hk:0<=cs.getD 0 0/\cs.getD 0 0<18446744073709551616)(hcl:cs.length<=65536)(hll:l.length<=65536)(hzl:zs.length<=65536)(hK4:(gb,.cells #[.int .i64 t,.int .i64 n,.slice A1 cs.length c1] 28 (0,0))∈K)
  {an:Ans}(han:rX t n cs l hello zs (fun k=>fQ (zs.getD k 0) (jB (dM l (cs.getD 0 0) hello) (cs.getD 0 0) hello) cs l hello k)=an)(hRb:0<=an.r/\an.r<18446744073709551616)(Yk:0<=an.z/\an.z<18446744073709551616)
  (he:an.e=0)(aJ4:an.ids=[])(Jg:nS (cs.getD 0 0) hello an.r an.z=true)
  {y:Nat->Value}(y1:y 1=.pointer (some ⟨gb,0,none⟩))(y5:y 5=.slice A2 l.length c2)(y6:y 6=.slice A3 zs.length c3)
  {cc:Frame}{bs:List Frame}(fin:∀ah PE K2,jX 0 PE K2 ah->(∀b o,(b,o)∈K->(b,o)∈K2)->Inv q ah->TT (cfg q) 0 (TW (cfg q)) (G (cc.finish (.bool true)) bs) ah):
  TT (cfg q) 0 (TW (cfg q)) (G ((base 20).at ⟨Ai y,[]⟩ [.code xW]) (cc::bs)) st:=by
 have e2:xW=.seq aw2 xg:=rfl;obtain⟨AT,Jk⟩:∃AT,AT=xg:=⟨_,rfl⟩;rw[e2,<-Jk];have HAT:=Lib.hid Jk;have hd2:∀L c A,(∀a,Value.slice A L c≠ .agg a)/\∀a,Value.slice A L c≠ .tuple a:=fun L c A=>⟨fun a e=>(by cases e),fun a e=>(by cases e)⟩
 have HHE:=Lib.hid (show hello=⟨#[104,101,108,108,111]⟩from rfl);clear Jk e2;simp only[aw2,xW,kY,dP,Try.f20,Option.getD_some,Ai,y1,y5,y6];refine TT.qw hP 40 fun w₀ hF=>?_
 repeat w_go eY
 refine Goes.stop (fun w₁ r₁=>⟨rfl,?_⟩);clear hF w₀;refine TT.WQ hP hA (bl:=gb) (off:=0) (v:=.agg #[.int .i64 t,.int .i64 n,.slice A1 cs.length c1]) rfl rfl (by k_ne) rfl (by simp[Act.eval]) hK4 (fun w hw=>SY t n _ (hd2 _ _ _) w hw) fun ay aC aT _=>?_
 clear hA hI hd2;walk_nrm;refine TT.qw hP 40 fun w₀ hF=>?_
 repeat w_go eY
 refine Goes.stop (fun w₁ r₁=>⟨rfl,?_⟩);clear hF w₀;refine TT.ao3 hP (f:=16) (args:=#[.agg #[.int .i64 t,.int .i64 n,.slice A1 cs.length c1],.string ⟨#[104,101,108,108,111]⟩,.slice A2 l.length c2,.slice A3 zs.length c3]) rfl rfl (by k_ne) (fun w=>?_) (fun w=>?_) ?_
 ·unfold execOp;simp[resolve,Deferred.ofValue,invoke,callFunc,Try.func16,Try.f16,Act.eval]
 ·unfold execOp;simp[resolve,Deferred.ofValue,invoke,callFunc,Try.func16,Try.f16,Act.eval]
 rw[<-HHE.out];have zT:=aC.QU hg0;refine aw4 hP aC aT hG hZ hR hW (md:=Cc.wO K) (sw:=jS aS ay.w (Cc.wO K)) (mG ..) zT.lt (fun k1 k2 k3 k4=>Sh.XT zT aT k1 k2 k3 k4) (XV aC h1.2.1 h2.2.1 h3.2.1) (h1.nums aC) hcb hcl (h2.iJ aC) hll hb hzl (by decide) (h3.sh aC) h3.1 hzb fun v bH hans bF=>?_
 obtain⟨A,c,num',K',rfl,aQ,X6,hnk⟩:=FN (fun k hk=>(hzb k hk).1) hans;rw[han]at hnk ⊢;have HAN:=Lib.hid han;clear hans han zT aC aT;simp only[Ans.val];have HNK:=Lib.hid hnk;clear hnk;obtain⟨R,hRe⟩:∃R,R=an.r:=⟨_,rfl⟩;obtain⟨Z,hZe⟩:∃Z,Z=an.z:=⟨_,rfl⟩;obtain⟨E,hEe⟩:∃E,E=an.e:=⟨_,rfl⟩;obtain⟨I,hIe⟩:∃I,I=an.ids.length:=⟨_,rfl⟩;rw[<-hRe,<-hZe,<-hEe,<-hIe];have HRe:=Lib.hid hRe;have HZe:=Lib.hid hZe;have HEe:=Lib.hid hEe;have HIe:=Lib.hid hIe;clear hRe hZe hEe hIe;rw[Frame.finish_at];walk_nrm;refine TT.qw hP 60 fun w₀ hF=>?_
 repeat w_go eY
 refine Goes.stop (fun w₁ r₁=>⟨rfl,?_⟩);clear hF w₀;refine TT.WT hP aQ rfl rfl (by k_ne) rfl (fun w=>TY w) fun bM b9 aI bY G6 vV vT _=>?_
 walk_nrm;refine TT.QK hP aI (K':=(b9,.cells #[.int .u64 R,.int .u64 Z] 46 (0,0))::K') (bl:=b9) (off:=0) (v:=.agg #[.int .u64 R,.int .u64 Z]) (ob:=.cells #[.int .u64 0,.int .u64 0] 46 (0,0)) (ob':=.cells #[.int .u64 R,.int .u64 Z] 46 (0,0)) rfl rfl (by k_ne) rfl (by simp[Act.eval]) (by simp[Act.eval]) (List.mem_cons_self ..) vV (fun b o hb=>?_) (fun w hw=>QJ R Z w hw) fun aV bg dD _=>?_
 ·rcases List.mem_cons.1 hb with e|hb
  ·cases e;exact .inl ⟨rfl,rfl⟩
  ·exact .inr ⟨vT b o hb,List.mem_cons_of_mem _ hb⟩
 clear aI bY G6 vV vT aQ bF;walk_nrm;refine TT.qw hP 60 fun w₀ hF=>?_
 repeat w_go eY
 refine Goes.stop (fun w₁ r₁=>⟨rfl,?_⟩);clear hF w₀;obtain rfl:=HAT.out;have hsub:∀b o,(b,o)∈K->(b,o)∈(b9,Obj.cells #[.int .u64 R,.int .u64 Z] 46 (0,0))::K':=fun b o h=>List.mem_cons_of_mem _ (X6 b o h)
 have aI9:=HNK.out.mono (K':=(b9,Obj.cells #[.int .u64 R,.int .u64 Z] 46 (0,0))::K') fun b o h=>List.mem_cons_of_mem _ h
 refine Zj (c:=c) (an:=an) (b9:=b9) hP bg dD hg0 (h1.mono hsub) hcl0 hk (hsub _ _ hK4) (by rw[HRe.out,HZe.out];exact List.mem_cons_self ..) aI9 hRb Yk he aJ4 Jg rfl rfl rfl (by rw[HIe.out];rfl) (by rw[HEe.out];rfl) fun ah k1 k2=>fin ah _ _ k1 hsub k2
end
end Cc
namespace Bla
open Go.RowKit Pl ny oI ni Mem oG Odr JI Qx J5 OO Cc JO Qz Qy mY qj Cpl Rag
theorem Gs{bd:Nat->Bool}{is:List Nat}:∀{k:Nat},iq bd is k=[]->∀j,j<k->bd j=false
 |0,_,_,hj=>absurd hj (by omega)
 |k+1,h,j,hj=>by
  rw[iq]at h;cases hb:bd k with
  |true=>rw[hb,if_pos rfl]at h;exact absurd h (by simp)
  |false=>
   rw[hb,if_neg (by decide)]at h;rcases Nat.lt_or_ge j k with h1|h1
   ·exact Gs h j h1
   ·obtain rfl:j=k:=by omega
    exact hb
theorem Kt{bd:Nat->Bool}{is:List Nat}(h:∀j,bd j=false):∀k,iq bd is k=[]
 |0=>rfl
 |k+1=>by rw[iq,h k,if_neg (by decide)];exact Kt h k
theorem D5(bd:Nat->Bool)(is:List Nat):∀k,(iq bd is k).length<=k
 |0=>Nat.le_refl _
 |k+1=>by
  have:=D5 bd is k;rw[iq];split
  ·rw[List.length_append,List.length_singleton];omega
  ·omega
section
variable{t n:Nat}{is:List Nat}{ak:Int}
structure bp3(cs:List Int)(msg:ByteArray)(want:List Int)(an:Ans):Prop where
 none:want=[]->an.e=0/\an.ids=[]/\nS (cs.getD 0 0) msg an.r an.z=true
 some:want≠[]->an.e=14/\an.r=0/\an.z=0/\an.ids=want
 r:0<=an.r/\an.r<18446744073709551616
 z:0<=an.z/\an.z<18446744073709551616
theorem Oi{c:Nat->Bool}(hsel:is=sel c n){cf:List Int}(hcl:cf.length=t)(ht:0<t)(hcf:∀i,i<cf.length->0<=cf.getD i 0/\cf.getD i 0<1073741789)(h0:0<cf.getD 0 0)(h:JJ t n is)(hg:dw t n (comms cf cf.length)=true)(msg:ByteArray)(ha:dM (bQ ak is) ((comms cf cf.length).getD 0 0) msg≠1)
  (kF:Int)(bd:Nat->Bool)(zs:List Int)(hl:zs.length=is.length)(hz:∀k,k<is.length->zs.getD k 0=DL kF (bd k) (shr cf ak is msg k)):
  bp3 (comms cf cf.length) msg (iq bd is is.length) (rX t n (comms cf cf.length) (bQ ak is) msg zs (fun k=>fQ (zs.getD k 0) (jB (dM (bQ ak is) ((comms cf cf.length).getD 0 0) msg) ((comms cf cf.length).getD 0 0) msg) (comms cf cf.length) (bQ ak is) msg k)):=by
 have hb:=blame (ak:=ak) hcf h msg kF bd (fun k=>zs.getD k 0) hz;have he:=aP7 (ak:=ak) hg h msg ha;have hall:=al7 (bQ ak is) ((comms cf cf.length).getD 0 0) msg;unfold rX;rw[hl,he,if_neg (by simp),hb];by_cases hw:iq bd is is.length=[]
 ·rw[if_pos hw];have hno:=Gs hw;have hz2:∀k,k<is.length->zs.getD k 0=shr cf ak is msg k:=fun k hk=>by
   rw[hz k hk,hno k hk];rfl
  have hzb:∀k,k<zs.length->0<=zs.getD k 0/\zs.getD k 0<1073741789:=fun k hk=>by rw[hz2 k (by omega)];exact Au _ _ _ _ _
  have hright:=(Gq _ (bQ ak is) (bQ ak is).length).1 (hb.trans hw);have hsum:=Am (fun k=>fQ (zs.getD k 0) (jB (dM (bQ ak is) ((comms cf cf.length).getD 0 0) msg) ((comms cf cf.length).getD 0 0) msg) (comms cf cf.length) (bQ ak is) msg k) zs hzb zs.length (Nat.le_refl _) (fun j hj=>hright j (by rw[bV];omega));have hsig:=Uo (ak:=ak) hsel hcl ht hcf h0 h msg ha zs hl hz2;have hsb:=Eb (fun k=>fQ (zs.getD k 0) (jB (dM (bQ ak is) ((comms cf cf.length).getD 0 0) msg) ((comms cf cf.length).getD 0 0) msg) (comms cf cf.length) (bQ ak is) msg k) zs (fun k hk=>(hzb k hk).1) zs.length;rw[show(bQ ak is).length=zs.length by rw[bV,hl]];refine⟨fun _=>⟨rfl,rfl,?_⟩,fun hn=>absurd hw hn,?_,?_⟩
  ·rw[<-hsum]at hsig;exact hsig
  ·show 0<=dM _ _ _/\dM _ _ _<_;omega
  ·show 0<=sumTo _ _ _/\sumTo _ _ _<_;omega
 ·rw[if_neg hw];exact⟨fun h=>absurd h hw,fun _=>⟨rfl,rfl,rfl,rfl⟩,⟨Int.le_refl _,by show(0:Int)<_;decide⟩,⟨Int.le_refl _,by show(0:Int)<_;decide⟩⟩
end
end Bla
namespace Zr
open Go.Conc Go.ConcN Go.ConcM Go.RowKit Go.Conc.Lib Go.ConcR.Gen
open Go.ConcR (KK wgBlock WgAt stA smA rd wr mk DC0)
open Cc qI
open Pl ny oI ni Mem oG Dl Ad J5 OO Gn Rag mY Qz Qy Qx
open Bla
open qj hiding base
theorem ak8{q:ig}{P:Program}(hP:q.P=P){st:St aJ}{num t:Nat}{K:List (Nat×Obj)}{Ch:Nat->Goroutine->St aJ->Prop}{fn:Func}{b:Frame}{a':Act}{todo:List Item}(hk:b.kind=.normal)(hd:a'.defers=[])(hfn:P.funcs[b.fn]?=some fn)(hin:P.inits.idxOf? b.fn=none)(hres:fn.results=#[.tmp t])(ht:a'.tmps[t]?=some (.bool true))
  (hA:jX 0 num K st)(fin:∀ah,jX 0 num K ah->Inv q ah->q.Post (.bool true) ah.w):TT (cfg q) 0 Ch (G {b.at a' todo with mode:=.returning} []) st:=by
 refine TT.ends hP hA fun ah hr au hi=>⟨.bool true,ah.w,yX hk hd hfn hin ?_ ?_,fin ah au hi⟩
 ·unfold Go.results;rw[hres];simp[go_sem,ht]
 ·unfold Go.results;rw[hres];simp[go_sem,ht]
theorem zW(cf:List Int):∀i,i<(comms cf cf.length).length->0<=(comms cf cf.length).getD i 0/\(comms cf cf.length).getD i 0<18446744073709551616:=fun i hi=>by
 rw[fH _ (Nat.le_refl _)]at hi;rw[rQ _ hi];have:=og 4 (cf.getD i 0).toNat (m:=2147483579) (by omega);omega
theorem zY{ak:Int}{is:List Nat}:∀i,i<(bQ ak is).length->0<=((bQ ak is).getD i .zero).d/\0<=((bQ ak is).getD i .zero).e:=fun i hi=>by
 rw[bV]at hi;rw[kW hi];exact⟨(og 4 _ (m:=2147483579) (by omega)).1,(og 4 _ (m:=2147483579) (by omega)).1⟩
theorem tC{F:Nat->Int}{n k:Nat}(hk:k<n):((List.range n).map F).getD k 0=F k:=by
 rw[List.getD_eq_getElem?_getD,List.getElem?_map,List.getElem?_range hk];rfl
theorem VI:(dP 5 kY).1.all (fun c=>Sg.fin (sg.items 20 (some 0) [.code c]))=true:=by kernel_rfl
theorem am0:sg.grd 20=false:=by kernel_rfl
theorem aP3:sg.fs 20=[]:=by kernel_rfl
section
variable{q:ig}(hP:q.P=Try.prog)
include hP
theorem aP4(hg0:q.P.globals.size=0)(hG:q.tG=143)(hZ:q.tZ=72)(hR:q.tR=4)(hW:q.tW=107){w w3:World}{a2:Act}(hM:aS2 w a2 w3)(hd:a2.defers=[]){st:St aJ}(hA:jX 0 1 (Aa w3) st)(hI:Inv q st)
  {cc:Frame}{bs:List Frame}(fin:∀ah PE K2,jX 0 PE K2 ah->(∀b o,(b,o)∈Aa w3->(b,o)∈K2)->Inv q ah->TT (cfg q) 0 (TW (cfg q)) (G (cc.finish (.bool true)) bs) ah):
  TT (cfg q) 0 (TW (cfg q)) (G ((base 20).at a2 [.code xW]) (cc::bs)) st:=by
 obtain⟨B,gb,A1,k1,vi,vC,vZ,Dz,hsz,s1,s5,s6⟩:=hM;obtain⟨ha,hoc,hoz⟩:dM (bQ 9 [1,3]) ((comms (jO 5 (dY 0 1)) (jO 5 (dY 0 1)).length).getD 0 0) hello≠1/\w3.ownsRow B 37 3 vC [1,3].length (aU (bQ 9 [1,3]))/\w3.ownsRow B 25 1 vZ [1,3].length ((List.range [1,3].length).map fun k=>.int .u64 (shr (jO 5 (dY 0 1)) 9 [1,3] hello k)):=by
  rcases Dz.out with⟨h,-⟩|⟨-,h1,h2,h3,-⟩
  ·cases h
  ·exact⟨h1,h2,h3⟩
 have hT:=aw0;have hcl:=gB 5 (dY 0 1);have hlen:(comms (jO 5 (dY 0 1)) (jO 5 (dY 0 1)).length).length=dY 0 1:=by rw[fH _ (Nat.le_refl _),hcl]
 have pK:bZ w3 gb 28 #[.int .i64 (dY 0 1),.int .i64 (jU 1),.slice A1 (comms (jO 5 (dY 0 1)) (jO 5 (dY 0 1)).length).length k1]:=by rw[hlen];exact Dz.grp
 obtain⟨-,q1⟩:=GL (Dz.cs.more Dz.Bw) (by rw[hlen,hT];omega);obtain⟨A2,c2,rfl,q2⟩:=Hy (bV (ak:=9) (is:=[1,3])).symm hoc;have aI8:w3.ownsRow B 25 1 vZ [1,3].length (((List.range [1,3].length).map fun k=>shr (jO 5 (dY 0 1)) 9 [1,3] hello k).map (Value.int .u64)):=by rw[List.map_map];exact hoz
 obtain⟨A3,c3,rfl,q3⟩:=AQ aI8;obtain⟨T,df⟩:=a2;obtain rfl:df=[]:=hd;obtain⟨y,rfl,hy⟩:=QN T hsz;have bd1:[1,3]=sel (fun k=>k==0||k==2) (jU 1):=by rw[aw1];rfl
 have h0:(jO 5 (dY 0 1)).getD 0 0=mY.cf 5 0:=FB 5 (by rw[hT];omega);have h00:0<(jO 5 (dY 0 1)).getD 0 0:=by rw[h0];exact jf.1
 have hgood:=Oi (ak:=9) bd1 hcl (by rw[hT];omega) (Bl 5 _) h00 TV (Fp 0 1 5) hello ha 0 (fun _=>false) ((List.range [1,3].length).map fun k=>shr (jO 5 (dY 0 1)) 9 [1,3] hello k) (by rw[List.length_map,List.length_range]) (fun k hk=>by rw[tC hk];rfl);obtain⟨g1,g2,g3⟩:=hgood.none (Kt (fun _=>rfl) _);refine am5 hP hA hI hg0 hG hZ hR hW q1 q2 q3 (fun i hi=>(zW _ i hi).1) zY (fun k hk=>?_) (by rw[hlen,hT];omega) (zW _ 0 (by rw[hlen,hT];omega)) (by rw[hlen,hT];omega) (by rw[bV];decide) (by rw[List.length_map,List.length_range];decide) (jI.2 pK) rfl hgood.r hgood.z g1 g2 g3 (hy _ _ s1) (hy _ _ s5) (hy _ _ s6) fin;rw[List.length_map,List.length_range]at hk;rw[tC hk];have:=Au (jO 5 (dY 0 1)) 9 [1,3] hello k;omega
end
theorem PW{P:Program}{f:FuncId}{args:Array Value}{fr:Frame}{W:World}(h:Frame.enter P f args .normal=fr):LR P (G (Frame.enter P f args .normal) []) W (G fr []) W:=by
 rw[h];exact LR.start (by rw[<-h];rfl)
theorem al9:Frame.enter Try.prog 20 #[] .normal=(base 20).at ⟨#[undef,undef,undef,undef,undef,undef,undef,undef,undef,undef,undef,undef,undef,undef,undef,undef,undef,undef,undef,undef,undef,undef,undef,undef,undef,undef,undef,undef,undef,undef,undef,undef,undef,undef,undef,undef,undef,undef,undef,undef,undef,undef,undef,undef,undef,undef,undef,undef,undef,undef,undef,undef,undef,undef,undef,undef],[]⟩ [.code (y8 (dP 5 kY).1 xW)]:=by
 rw[show y8 (dP 5 kY).1 xW=kY from oW 5 kY,enter_at (P:=Try.prog) (c:=kY) _ Try.func20 rfl]
 kernel_rfl
theorem am4{g₀:Goroutine}{w₀ w:World}{cst:List Frame}{X:Prop}(hL:LR Try.prog g₀ w₀ (G (Frame.enter Try.prog 20 #[] .normal) cst) w)
  (fin:∀a2 w3,a2.defers=[]->aS2 w a2 w3->LR Try.prog g₀ w₀ (G ((base 20).at a2 [.code xW]) cst) w3->X):X:=by
 rw[al9]at hL;exact LR.pieces WR rfl am0 aP3 fin (fun _ _ _ _ h=>h.elim) (dP 5 kY).1 (fun c hc=>List.all_eq_true.1 VI c hc) _ _ rfl hL am3
end Zr
namespace Bla
open Go.RowKit Pl ny oI ni JO JI Qy Qx qj Mem Ad oG mY Dlt Qz Cc
open Zq (signedC)
noncomputable def lu:Code:=Try.f8.body.getD .skip
def BlN(t n seed mask ak bad kF:Int)(w:World)(a:Act)(w2:World):Prop:=
 ∃B gb A1 k1 vi vC vZ zero,PO (dY t n) (jU n) (jO seed (dY t n)) (mY.ids mask (dY t n) (jU n)) ak ⟨#[109]⟩ w w2 B gb A1 k1 vi vC vZ zero/\a.tmps.size=147/\a.tmps[5]?=some (.int .i64 bad)/\a.tmps[6]?=some (.int .u64 kF)/\a.tmps[15]?=some (.pointer (some ⟨gb,0,none⟩))/\a.tmps[17]?=some vi/\a.tmps[18]?=some (.bool true)/\a.tmps[19]?=some vC/\a.tmps[20]?=some vZ/\a.tmps[21]?=some (.bool zero)
theorem aO3{w:World}(t n seed mask ak bad kF:Int)(ht: -9223372036854775808<=t/\t<=9223372036854775807)(hn: -9223372036854775808<=n/\n<=9223372036854775807)(hs:0<=seed/\seed<18446744073709551616)(hN:0<=ak/\ak<18446744073709551616):
  wpL Try.prog (BlN t n seed mask ak bad kF w) (fun _ _=>False) (dP 4 lu).1 ⟨#[.int .i64 t,.int .i64 n,.int .u64 seed,.int .i64 mask,.int .u64 ak,.int .i64 bad,.int .u64 kF,undef,undef,undef,undef,undef,undef,undef,undef,undef,undef,undef,undef,undef,undef,undef,undef,undef,undef,undef,undef,undef,undef,undef,undef,undef,undef,undef,undef,undef,undef,undef,undef,undef,undef,undef,undef,undef,undef,undef,undef,undef,undef,undef,undef,undef,undef,undef,undef,undef,undef,undef,undef,undef,undef,undef,undef,undef,undef,undef,undef,undef,undef,undef,undef,undef,undef,undef,undef,undef,undef,undef,undef,undef,undef,undef,undef,undef,undef,undef,undef,undef,undef,undef,undef,undef,undef,undef,undef,undef,undef,undef,undef,undef,undef,undef,undef,undef,undef,undef,undef,undef,undef,undef,undef,undef,undef,undef,undef,undef,undef,undef,undef,undef,undef,undef,undef,undef,undef,undef,undef,undef,undef,undef,undef,undef,undef,undef,undef,undef,undef,undef,undef,undef,undef,undef,undef,undef,undef,undef,undef],[]⟩ w:=by
 have HD:=Lib.hid (YS t n seed mask w ht hn hs);have HN:=Lib.hid hN;have Gl:=Lib.hid (Hu t n mask);clear ht hn hs hN;simp only[lu,dP,Try.f8,Option.getD_some];refine jY ?_
 go_wp2_with fail
 refine jY ?_
 go_wp2_with fail
 refine HD.out.mono ?_;rintro e w1 ⟨vc,vs,vi,rfl,h1,h2,h3,hb⟩;obtain⟨A1,k1,e1⟩:=Z9.ku h1;rw[show(comms (jO seed (dY t n)) (jO seed (dY t n)).length).length=dY t n by rw[fH _ (Nat.le_refl _),gB]]at e1;subst e1;have hnb:=aK w1 (.cells #[.int .i64 (dY t n),.int .i64 (jU n),.slice A1 (dY t n) k1] 28);have pK:=bZ.new w1 28 #[.int .i64 (dY t n),.int .i64 (jU n),.slice A1 (dY t n) k1];have hS:=KA t n seed mask ak ⟨#[109]⟩ w (w1.alloc (.cells #[.int .i64 (dY t n),.int .i64 (jU n),.slice A1 (dY t n) k1] 28)) w1.heap.size A1 k1 vs vi HN.out (by decide) (hb.trans (hnb.mono hb.size)) hb.size (by simp) pK (h1.later hnb) (h2.later hnb) Gl.out (h3.later hnb);have HS:=Lib.hid hS;have g0:(w1.alloc (.cells #[.int .i64 (dY t n),.int .i64 (jU n),.slice A1 (dY t n) k1] 28)).cell? ⟨w1.heap.size,0,none⟩=some (.int .i64 (dY t n)):=pK.cell 0;have g1:(w1.alloc (.cells #[.int .i64 (dY t n),.int .i64 (jU n),.slice A1 (dY t n) k1] 28)).cell? ⟨w1.heap.size,1,none⟩=some (.int .i64 (jU n)):=pK.cell 1;have g2:(w1.alloc (.cells #[.int .i64 (dY t n),.int .i64 (jU n),.slice A1 (dY t n) k1] 28)).cell? ⟨w1.heap.size,2,none⟩=some (.slice A1 (dY t n) k1):=pK.cell 2;clear hS HD HN Gl h1 h2 h3 hb hnb pK
 go_wp2_with fail
 generalize w1.alloc (.cells #[.int .i64 (dY t n),.int .i64 (jU n),.slice A1 (dY t n) k1] 28)=w2 at*;generalize w1.heap.size=gb at*;refine jY ?_
 go_wp2_with fail
 refine jY ?_
 go_wp2_with fail
 refine HS.out.mono ?_;rintro e w3 ⟨zero,vC,vZ,rfl,Dz⟩;have HPO:=Lib.hid Dz;clear Dz HS
 go_wp2_with fail
 exact⟨_,_,_,_,_,_,_,_,HPO.out,rfl,rfl,rfl,rfl,rfl,rfl,rfl,rfl,rfl⟩
end Bla
end Go.Proofs.Ytpfpokjaeffbjab
