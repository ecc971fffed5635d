/- Part of the proof: PackageNums, PkgW, AgT, WrkF, Own, AgF, AgC, AgE, LkF, LkH, LkR, LkA, LkB, LkC, LkE. -/
import Derived.Test.YtpfpokjaeffbjaaHh0
import Derived.Test.YtpfpokjaeffbjaaHh6
import Derived.Deep.RegionHeld3
import Derived.Deep.RegionLaw
import Derived.Test.YtpfpokjaeffbjaaHh5
import Derived.Test.YtpfpokjaeffbjaaProg
import Derived.RowKit
import Derived.Test.YtpfpokjaeffbjaaHh3
import Derived.Conc.MuWords
set_option linter.unusedVariables false
set_option linter.unusedSimpArgs false
set_option maxRecDepth 100000
set_option maxHeartbeats 16000000
open Go.Proofs.Try renaming prog→dS
open Go.Value renaming int→bV,oneCell'→cA
open List renaming map_append→cD,mem_cons→aM,not_mem_nil→bB,getElem?_eq_getElem→aN
open Go.World renaming ownsRow_nil→cB,block_lt_of_cell?→bZ
open Nat renaming lt_of_lt_of_le→bU,le_of_eq→cP,zero_add→cZ,le_refl→aH
open Go renaming results→bT
open Option renaming getD_some→aJ
open Array renaming getElem?_eq_getElem→aI
open Go.Extern renaming findNext→bR,find→cW
open Go.BinOp renaming and→aZ
open Go.IntKind renaming i32→aK,wrap_i32→dJ
namespace Go.Proofs.Ytpfpokjaeffbjaa
open Go renaming World→ae,Value→af,Goroutine→ah,Frame→ai,TypeId→aj,FuncId→ak,Program→au,undef→av,execOp→ax
open Go.Lib renaming hid→ay
namespace Au
open Go.RowKit Pl ni oa ng nU Mem nO yL Hsh O2 ED
section
section
variable{w:ae}{p g:Nat}{vc lv:af}{t n:Int}{cs:List Int}{l:List Cm}{msg:ByteArray}{base:Nat}
theorem aL8(h:Pk w p g vc lv t n cs l msg base):
  Calls dS 57 #[.pointer (some ⟨p,0,none⟩)] w fun e w'=>e=.returned (.int .i64 l.length)/\w=w':=by
 obtain⟨p0,p1,p2⟩:=h.cells;obtain⟨A,c,rfl⟩:=h.ja.shape;clear h;go_enter Try.func57,Try.ntmps57
 go_wp2_with fail
 go_ret
 exact⟨rfl,rfl⟩
theorem am4(hG:ig w g t n vc 0 0 cs 1)(hO:mA w base vc cs)(hl:0<cs.length):
  Calls dS 60 #[.pointer (some ⟨g,0,none⟩)] w fun e w'=>e=.returned (.int .u64 (cs.getD 0 0))/\w=w':=by
 obtain⟨g0,g1,g2,g3,g4⟩:=hG.cells;obtain⟨gc,cap,rfl,-,-,hc,-⟩:=hO.form hl;have hc0:=hc 0 hl;have hl':(0:Int)<(cs.length:Int):=by omega
 clear hG hO hc;generalize cs.getD 0 0=X at*;go_enter Try.func60,Try.ntmps60
 go_wp2_with fail
 go_ret
 exact⟨rfl,rfl⟩
theorem E7:(Try.prog.info? 40).map (fun i=>(i.zero,i.size,i.bytes))=some (some (.int .u64 0),1,8):=by kernel_rfl
theorem Z1(h:Pk w p g vc lv t n cs l msg base)(hgd:ng.Good n l)(hn:n<=9)(wE:l.length<=9)(hcl:0<cs.length)(hc0:0<=cs.getD 0 0/\cs.getD 0 0<18446744073709551616)(rH:msg.size<=1000000){k:Nat}(hk:k<l.length):
  Calls dS 84 #[.pointer (some ⟨p,0,none⟩),.int .i64 k] w fun e w'=>e=.returned (.int .u64 (lN l (cs.getD 0 0) msg k))/\Below w.heap.size w w':=by
 obtain⟨p0,p1,p2⟩:=h.cells;obtain⟨A,c,rfl⟩:=h.ja.shape;obtain⟨b,off,rfl,hb,hc⟩:=h.ja.at_ (by omega);obtain⟨x0,x1,x2⟩:=hc k hk;have hp:=h.pk.lt;have hgk:=hgd k hk;have H:=ay h;have HC:=ay hc;have HG:=ay hgd;have HBD:=ay (Ad hgd hn hc0 hk);have hnm:Hid (fY l (cs.getD 0 0) k 0=[(l.getD k .zero).id,cs.getD 0 0]):=by
  show _=_;simp[fY,flat]
 have wX:IntKind.u64.wrap (l.getD k .zero).id=(l.getD k .zero).id:=kU (by omega) (by omega);have k1:(0:Int)<=(k:Int):=by omega
 have k2:(k:Int)<(l.length:Int):=by omega
 obtain⟨i0,hi,hz0,hz1,hz2⟩:=info_parts E7;have hbP:Hid (lN l (cs.getD 0 0) msg k=uR 1 msg (fY l (cs.getD 0 0) k l.length)):=by
  show lN l (cs.getD 0 0) msg k=_;rfl
 have hkc:=ay (am4 (w:=w.drew) (show ig w.drew g t n vc 0 0 cs 1 from h.rY) (show mA w.drew base vc cs from h.own) hcl);clear h hc hgd hgk hc0 x1 x2;generalize(l.getD k .zero).id=X at*;generalize cs.getD 0 0=K at*;go_enter Try.func84,Try.ntmps84
 go_wp2_with fail
 go_region_held3 (fun w'=>(w'.cell? ⟨p,0,none⟩=some (.pointer (some ⟨g,0,none⟩))/\w'.cell? ⟨p,1,none⟩=some (.slice (some ⟨b,off,none⟩) l.length c))/\w'.cell? ⟨b,off+k*3,none⟩=some (.int .i64 X)) (go_keep)
  (first|(go_at_call 60;refine hkc.out.mono ?_;rintro e w' ⟨rfl,rfl⟩))
 all_goals
  have hown0:((w.alloc (.cells #[.int .u64 X,.int .u64 K] 40)).drew).ownsRow w.heap.size 40 1 (.slice (some ⟨w.heap.size,0,none⟩) 2 2) (2+3*0) ((fY l K k 0).map (bV .u64)):=by
   rw[hnm.out];exact World.ownsRow_lit w #[.int .u64 X,.int .u64 K] 2 nle (by unfold maxLen;omega) rfl
  have Ep:Below w.heap.size w (w.alloc (.cells #[.int .u64 X,.int .u64 K] 40)).drew:=(eD _ _).drew;generalize(w.alloc (.cells #[.int .u64 X,.int .u64 K] 40)).drew=w1 at*;have HP1:=ay (H.out.later Ep);obtain⟨r0,r1,r2⟩:=HP1.out.cells;have HO0:=ay hown0;have HB0:=ay Ep;clear hown0 Ep p0 p1 p2;go_wp2_with fail
  go_loopw [5,28] (fun v i wr=>∃j:Nat,j<=l.length/\i=.int .i64 j/\wr.ownsRow w.heap.size 40 1 v (2+3*j) ((fY l K k j).map (bV .u64))/\Below w.heap.size w wr) (fun _ i _=>l.length-(intOf i).toNat)
  case atStart=>exact⟨0,by omega,rfl,HO0.out,HB0.out⟩
  case round=>
   obtain⟨j,hj,rfl,hown,gy⟩:=hrel;have HO:=ay hown;clear hown r0 r1 r2;by_cases hlt:j<l.length
   ·obtain⟨y0,y1,y2⟩:=HC.out j hlt;replace y0:=(gy.cell (p:=⟨b,off+j*3,none⟩) hb).trans y0;replace y1:=(gy.cell (p:=⟨b,off+j*3+1,none⟩) hb).trans y1;replace y2:=(gy.cell (p:=⟨b,off+j*3+2,none⟩) hb).trans y2;have hgj:=HG.out j hlt;have wY:IntKind.u64.wrap (l.getD j .zero).id=(l.getD j .zero).id:=kU (by omega) (by omega);have hst:=ay (wH l K k j);have hlen:wr.heap.size<(wr.alloc (.cells #[.int .i64 (l.getD j .zero).id,.int .u64 (l.getD j .zero).d,.int .u64 (l.getD j .zero).e] 52)).heap.size:=by simp
    obtain⟨⟨gj1,gj2⟩,-⟩:=hgj;generalize(l.getD j .zero).id=Y at*;generalize(l.getD j .zero).d=D at*;generalize(l.getD j .zero).e=E at*;go_wp2_with (at_builtin;refine wpList_append_own _ rfl (.tmp 32) (.tmp 40) _ rfl w.heap.size 40 i0 (.int .u64 0) 1 8 Try.underlying29 hi hz0 hz1 hz2 rfl (by decide) _ _ _ rfl ((HO.out.alloc _).alloc _) ⟨wr.heap.size+1,0,none⟩ 3 3 [.int .u64 Y,.int .u64 D,.int .u64 E] rfl rfl (World.news_of_block (jx _ _ (by simp))) (by simp[cA]) (by unfold maxLen;omega) (by omega) (by have:=gy.size;simp<;>omega) ?_;intro v1 w2 hown1 hgrow1 _)
    have lT:=(((gy.alloc gy.size (.cells #[.int .i64 Y,.int .u64 D,.int .u64 E] 52)).alloc (by have:=gy.size;simp<;>omega) (.cells #[.int .u64 Y,.int .u64 D,.int .u64 E] 40)).grown hgrow1 (by have:=gy.size;simp<;>omega) fun k hk=>(((HO.out.alloc (.cells #[.int .i64 Y,.int .u64 D,.int .u64 E] 52)).alloc (.cells #[.int .u64 Y,.int .u64 D,.int .u64 E] 40)).lt k hk).1);refine⟨⟨j+1,by omega,by go_num,by rw[hst.out,cD,show 2+3*(j+1)=2+3*j+3 by omega];exact hown1,lT⟩,by simp[intOf];omega⟩
   ·obtain rfl:j=l.length:=by omega
    have HPf:=ay (H.out.later gy);obtain⟨r0,r1,r2⟩:=HPf.out.cells;have KN:=gA.own (l:=fY l K k l.length) (by rw[ly];exact HO.out);have hh:=ay (TM 1 msg (fY l K k l.length) _ wr KN (by rw[ly];omega) rH (by omega) (by omega) HBD.out);obtain⟨A5,c5,rfl⟩:=ko HO.out;rw[<-hbP.out]at hh;clear KN;go_wp2_with fail
    refine hh.out.mono ?_;rintro e w' ⟨rfl,x,rfl⟩;go_wp2_with fail
    go_ret
    exact⟨rfl,gy.alloc gy.size _⟩
theorem aH5(h:Pk w p g vc lv t n cs l msg base)(hgd:ng.Good n l)(hn:n<=9)(wE:l.length<=9)(hcl:0<cs.length)(hc0:0<=cs.getD 0 0/\cs.getD 0 0<18446744073709551616)(rH:msg.size<=1000000){k:Nat}(hk:k<l.length):
  Calls dS 64 #[.pointer (some ⟨p,0,none⟩),.int .i64 k] w fun e w'=>e=.returned (.int .u64 (l6 l (cs.getD 0 0) msg k))/\Below w.heap.size w w':=by
 obtain⟨p0,p1,p2⟩:=h.cells;obtain⟨A,c,rfl⟩:=h.ja.shape;obtain⟨b,off,rfl,hb,hc⟩:=h.ja.at_ (by omega);obtain⟨x0,x1,x2⟩:=hc k hk;obtain⟨-,-,⟨d0,d1⟩,e0,e1⟩:=hgd k hk;have hP:Hid (l6 l (cs.getD 0 0) msg k=mI (l.getD k .zero).d (pw (l.getD k .zero).e (lN l (cs.getD 0 0) msg k).toNat 2147483579)):=by
  show l6 l (cs.getD 0 0) msg k=_;rfl
 have TJ:=eD w (.cells #[.int .i64 (l.getD k .zero).id,.int .u64 (l.getD k .zero).d,.int .u64 (l.getD k .zero).e] 52);have Zw:=ay (Z1 (h.later TJ.drew) hgd hn wE hcl hc0 rH hk);have hbb:=rD l (cs.getD 0 0) msg k;have k1:(0:Int)<=(k:Int):=by omega
 have k2:(k:Int)<(l.length:Int):=by omega
 have HBX:=ay TJ;obtain⟨bb0,bb1⟩:=hbb;have b0:(w.alloc (.cells #[.int .i64 (l.getD k .zero).id,.int .u64 (l.getD k .zero).d,.int .u64 (l.getD k .zero).e] 52)).cell? ⟨w.heap.size,1,none⟩=some (.int .u64 (l.getD k .zero).d):=by simp
 have b1:(w.alloc (.cells #[.int .i64 (l.getD k .zero).id,.int .u64 (l.getD k .zero).d,.int .u64 (l.getD k .zero).e] 52)).cell? ⟨w.heap.size,2,none⟩=some (.int .u64 (l.getD k .zero).e):=by simp
 have hsz:w.heap.size<(w.alloc (.cells #[.int .i64 (l.getD k .zero).id,.int .u64 (l.getD k .zero).d,.int .u64 (l.getD k .zero).e] 52)).heap.size:=by simp
 clear h hc hgd hc0 TJ;generalize(l.getD k .zero).id=X at*;generalize(l.getD k .zero).d=D at*;generalize(l.getD k .zero).e=E at*;generalize lN l (cs.getD 0 0) msg k=Bd at*;generalize l6 l (cs.getD 0 0) msg k=R at*;go_enter Try.func64,Try.ntmps64
 go_wp2_with fail
 generalize w.alloc (.cells #[.int .i64 X,.int .u64 D,.int .u64 E] 52)=wb at*;go_region_held3 (fun w'=>w'.cell? ⟨w.heap.size,1,none⟩=some (.int .u64 D)/\w'.cell? ⟨w.heap.size,2,none⟩=some (.int .u64 E))
  (first|go_keep|(exact⟨(hb1.cell (p:=⟨w.heap.size,1,none⟩) hsz).trans b0,(hb1.cell (p:=⟨w.heap.size,2,none⟩) hsz).trans b1⟩))
  (first|(go_at_call 84;refine Zw.out.mono ?_;rintro e w1 ⟨rfl,hb1⟩)|(go_at_call 68;refine(yV E Bd _ (by omega) e1 bb0 (by omega)).mono ?_;rintro e w' ⟨rfl,rfl⟩)|(go_at_call 65;refine(qK _ _ _).mono ?_;rintro e w' ⟨rfl,rfl⟩))
 all_goals
  go_wp2_with fail
  go_ret
  exact⟨by rw[hP.out];rfl,HBX.out.trans ((bre.drew).trans (hb1.mono (Nat.le_of_lt hsz)))⟩
theorem Tc:(Try.prog.info? 79).map (fun i=>(i.zero,i.size,i.bytes))=some (some (.int .u64 0),1,8):=by kernel_rfl
theorem E8:(Try.prog.info? 3).map (fun i=>(i.zero,i.size,i.bytes))=some (some (.int .i64 0),1,8):=by kernel_rfl
theorem aZ6(h:Pk w p g vc lv t n cs l msg base)(hgd:ng.Good n l)(hn:n<=9)(wE:l.length<=9)(hcl:0<cs.length)(hc0:0<=cs.getD 0 0/\cs.getD 0 0<18446744073709551616)(rH:msg.size<=1000000)
  (r x:Int)(hx:(gI l (cs.getD 0 0) msg=1/\r=0/\x=11)\/(gI l (cs.getD 0 0) msg≠1/\r=gI l (cs.getD 0 0) msg/\x=0)):
  Calls dS 58 #[.pointer (some ⟨p,0,none⟩)] w fun e w'=>e=.returned (.tuple #[.int .u64 r,.int .i64 x])/\Below w.heap.size w w':=by
 obtain⟨p0,p1,p2⟩:=h.cells;obtain⟨A,c,rfl⟩:=h.ja.shape;have H:=ay h;have HG:=ay hgd;have HC0:=ay hc0;have HX:=ay hx;obtain⟨i0,hi,hz0,hz1,hz2⟩:=info_parts Tc;clear h hgd hc0 hx;have hAP:Hid (gI l (cs.getD 0 0) msg=pg 1 (mG l (cs.getD 0 0) msg l.length) l.length):=by
  show gI l (cs.getD 0 0) msg=_;rfl
 go_enter Try.func58,Try.ntmps58
 go_wp2_with fail
 go_loopw [4,12] (fun v i wr=>∃k:Nat,k<=l.length/\i=.int .i64 k/\wr.ownsRow w.heap.size 79 1 v k ((mG l (cs.getD 0 0) msg k).map (bV .u64))/\Below w.heap.size w wr) (fun _ i _=>l.length-(intOf i).toNat)
 case atStart=>exact⟨0,by omega,rfl,cB _ _ _ _,Below.refl _ _⟩
 case round=>
  obtain⟨k,hk,rfl,hown,gy⟩:=hrel;have HO:=ay hown;clear hown p0 p1 p2;by_cases hlt:k<l.length
  ·have hpt:=ay (aH5 (H.out.later gy) HG.out hn wE hcl HC0.out rH hlt);have hst:=ay (IP l (cs.getD 0 0) msg k);generalize l6 l (cs.getD 0 0) msg k=R at*;go_wp2_with (first|(go_at_call 64;refine hpt.out.mono ?_;rintro e w2 ⟨rfl,hb2⟩;have hown2:=iR HO.out hb2 nle;have lT:=gy.trans (hb2.mono gy.size))|(at_builtin;refine wpList_append_own _ rfl (.tmp 15) (.tmp 19) _ rfl w.heap.size 79 i0 (.int .u64 0) 1 8 Try.underlying126 hi hz0 hz1 hz2 rfl (by decide) _ _ _ rfl (hown2.alloc _) ⟨w2.heap.size,0,none⟩ 1 1 [.int .u64 R] rfl rfl (cell_one_new _ _ _) (by simp[cA]) (by unfold maxLen;omega) (by omega) (by have:=lT.size;simp<;>omega) ?_;intro v3 w3 C5 xa _))
   refine⟨⟨k+1,by omega,by go_num,by rw[hst.out,cD];exact C5,gV lT hown2 lT.size xa⟩,by simp[intOf];omega⟩
  ·obtain rfl:k=l.length:=by omega
   have KN:=gA.own (l:=mG l (cs.getD 0 0) msg l.length) (by rw[pL];exact HO.out);obtain⟨A5,c5,rfl⟩:=ko HO.out;have hfo:=aW5 1 (mG l (cs.getD 0 0) msg l.length) _ wr KN (by rw[pL];omega);rw[pL,<-hAP.out]at hfo;have HF:=ay hfo;clear KN hfo;generalize gI l (cs.getD 0 0) msg=R at*;rcases HX.out with⟨hr1,hr2,hr3⟩|⟨hr1,hr2,hr3⟩
   ·have t1:(R==1)=true:=by rw[beq_iff_eq];exact hr1
    subst hr2 hr3;clear hr1;go_wp2_with fail
    refine HF.out.mono ?_;rintro e w' ⟨rfl,rfl⟩;go_wp2_with fail
    go_ret2
    exact⟨rfl,gy⟩
   ·have t1:(R==1)=false:=by rw[beq_eq_false_iff_ne];exact hr1
    subst hr2 hr3;clear hr1;go_wp2_with fail
    refine HF.out.mono ?_;rintro e w' ⟨rfl,rfl⟩;go_wp2_with fail
    go_ret2
    exact⟨rfl,gy⟩
theorem Ll(h:Pk w p g vc lv t n cs l msg base)(wE:l.length<=9){k:Nat}(hk:k<l.length):
  Calls dS 70 #[.pointer (some ⟨p,0,none⟩),.int .i64 k] w fun e w'=>e=.returned (.int .u64 (iq (iO l l.length) k))/\Below w.heap.size w w':=by
 obtain⟨p0,p1,p2⟩:=h.cells;obtain⟨A,c,rfl⟩:=h.ja.shape;obtain⟨b,off,rfl,hb,hc⟩:=h.ja.at_ (by omega);have H:=ay h;have HC:=ay hc;obtain⟨i0,hi,hz0,hz1,hz2⟩:=info_parts E8;clear h hc;go_enter Try.func70,Try.ntmps70
 go_wp2_with fail
 go_loopw [5,13] (fun v i wr=>∃j:Nat,j<=l.length/\i=.int .i64 j/\wr.ownsRow w.heap.size 3 1 v j ((iO l j).map (bV .i64))/\Below w.heap.size w wr) (fun _ i _=>l.length-(intOf i).toNat)
 case atStart=>exact⟨0,by omega,rfl,cB _ _ _ _,Below.refl _ _⟩
 case round=>
  obtain⟨j,hj,rfl,hown,gy⟩:=hrel;have HO:=ay hown;clear hown p0 p1 p2;by_cases hlt:j<l.length
  ·obtain⟨y0,y1,y2⟩:=HC.out j hlt;replace y0:=(gy.cell (p:=⟨b,off+j*3,none⟩) hb).trans y0;replace y1:=(gy.cell (p:=⟨b,off+j*3+1,none⟩) hb).trans y1;replace y2:=(gy.cell (p:=⟨b,off+j*3+2,none⟩) hb).trans y2;have hst:=ay (CY l j);generalize(l.getD j .zero).id=Y at*;generalize(l.getD j .zero).d=D at*;generalize(l.getD j .zero).e=E at*;go_wp2_with (at_builtin;refine wpList_append_own _ rfl (.tmp 17) (.tmp 20) _ rfl w.heap.size 3 i0 (.int .i64 0) 1 8 Try.underlying41 hi hz0 hz1 hz2 rfl (by decide) _ _ _ rfl ((HO.out.alloc _).alloc _) ⟨wr.heap.size+1,0,none⟩ 1 1 [.int .i64 Y] rfl rfl (World.news_of_block (jx _ _ (by simp))) (by simp[cA]) (by unfold maxLen;omega) (by omega) (by have:=gy.size;simp<;>omega) ?_;intro v1 w2 hown1 hgrow1 _)
   have lT:=(((gy.alloc gy.size (.cells #[.int .i64 Y,.int .u64 D,.int .u64 E] 52)).alloc (by have:=gy.size;simp<;>omega) (.cells #[.int .i64 Y] 3)).grown hgrow1 (by have:=gy.size;simp<;>omega) fun k hk=>(((HO.out.alloc (.cells #[.int .i64 Y,.int .u64 D,.int .u64 E] 52)).alloc (.cells #[.int .i64 Y] 3)).lt k hk).1);refine⟨⟨j+1,by omega,by go_num,by rw[hst.out,cD];exact hown1,lT⟩,by simp[intOf];omega⟩
  ·obtain rfl:j=l.length:=by omega
   have KN:=gA.own (l:=iO l l.length) (by rw[kN];exact HO.out);obtain⟨A5,c5,rfl⟩:=ko HO.out;have hlg:=ay (E6 (iO l l.length) k _ wr KN (by rw[kN];omega) (by rw[kN];exact hk));clear KN;go_wp2_with fail
   refine hlg.out.mono ?_;rintro e w' ⟨rfl,nq,rfl⟩;go_wp2_with fail
   go_ret
   exact⟨rfl,below_drewN gy _⟩
end
end
section
def FK(w:ae)(g:Nat)(cs:List Int):Prop:=∃gc cap,w.cell? ⟨g,2,none⟩=some (.slice (some ⟨gc,0,none⟩) cs.length cap)/\g<w.heap.size/\gc<w.heap.size/\(0<cs.length->w.cell? ⟨gc,0,none⟩=some (.int .u64 (cs.getD 0 0)))
theorem FK.later{w w':ae}{g:Nat}{cs:List Int}(h:FK w g cs)(hb:Below w.heap.size w w'):FK w' g cs:=by
 obtain⟨gc,cap,h1,h2,h3,h4⟩:=h;exact⟨gc,cap,(hb.cell (p:=⟨g,2,none⟩) h2).trans h1,bU h2 hb.size,bU h3 hb.size,fun hl=>(hb.cell (p:=⟨gc,0,none⟩) h3).trans (h4 hl)⟩
structure Rf(w:ae)(p g:Nat)(lv:af)(cs:List Int)(l:List Cm)(msg:ByteArray):Prop where
 cells:w.cell? ⟨p,0,none⟩=some (.pointer (some ⟨g,0,none⟩))/\w.cell? ⟨p,1,none⟩=some lv/\w.cell? ⟨p,2,none⟩=some (.string msg)
 lt:p<w.heap.size
 ja:lU w w.heap.size lv l
 key:FK w g cs
theorem Rf.later{w w':ae}{p g:Nat}{lv:af}{cs:List Int}{l:List Cm}{msg:ByteArray}(h:Rf w p g lv cs l msg)(hb:Below w.heap.size w w'):Rf w' p g lv cs l msg:=by
 obtain⟨c0,c1,c2⟩:=h.cells;exact⟨⟨(hb.cell (p:=⟨p,0,none⟩) h.lt).trans c0,(hb.cell (p:=⟨p,1,none⟩) h.lt).trans c1,(hb.cell (p:=⟨p,2,none⟩) h.lt).trans c2⟩,bU h.lt hb.size,h.ja.later hb,h.key.later hb⟩
section
variable{w:ae}{p g:Nat}{lv:af}{n:Int}{cs:List Int}{l:List Cm}{msg:ByteArray}
theorem bi0(hK:FK w g cs)(hl:0<cs.length):
  Calls dS 60 #[.pointer (some ⟨g,0,none⟩)] w fun e w'=>e=.returned (.int .u64 (cs.getD 0 0))/\w=w':=by
 obtain⟨gc,cap,g2,-,-,hc⟩:=hK;have hc0:=hc hl;have hl':(0:Int)<(cs.length:Int):=by omega
 clear hc;generalize cs.getD 0 0=X at*;go_enter Try.func60,Try.ntmps60
 go_wp2_with fail
 go_ret
 exact⟨rfl,rfl⟩
theorem atW(h:Rf w p g lv cs l msg){k:Nat}(hk:k<l.length):
  Calls dS 67 #[.pointer (some ⟨p,0,none⟩),.int .i64 k] w fun e w'=>e=.returned (.agg #[.int .i64 (l.getD k .zero).id,.int .u64 (l.getD k .zero).d,.int .u64 (l.getD k .zero).e])/\Below w.heap.size w w':=by
 obtain⟨p0,p1,p2⟩:=h.cells;obtain⟨A,c,rfl⟩:=h.ja.shape;obtain⟨b,off,rfl,hb,hc⟩:=h.ja.at_ (by omega);obtain⟨x0,x1,x2⟩:=hc k hk;have hp:=h.lt;clear h hc;generalize(l.getD k .zero).id=X at*;generalize(l.getD k .zero).d=D at*;generalize(l.getD k .zero).e=E at*;have k1:(0:Int)<=(k:Int):=by omega
 have k2:(k:Int)<(l.length:Int):=by omega
 go_enter Try.func67,Try.ntmps67
 go_wp2_with fail
 refine bodyPost_ret (v:=.agg #[.int .i64 X,.int .u64 D,.int .u64 E]) (by simp[results,Try.results67,go_sem]) rfl ?_;exact⟨rfl,by first|exact eD _ _|exact(((eD _ _).setCell nle _).setCell nle _).setCell nle _⟩
theorem aY9(h:Rf w p g lv cs l msg)(hgd:ng.Good n l)(hn:n<=9)(wE:l.length<=9)(hcl:0<cs.length)(hc0:0<=cs.getD 0 0/\cs.getD 0 0<18446744073709551616)(rH:msg.size<=1000000){k:Nat}(hk:k<l.length):
  Calls dS 84 #[.pointer (some ⟨p,0,none⟩),.int .i64 k] w fun e w'=>e=.returned (.int .u64 (lN l (cs.getD 0 0) msg k))/\Below w.heap.size w w':=by
 obtain⟨p0,p1,p2⟩:=h.cells;obtain⟨A,c,rfl⟩:=h.ja.shape;obtain⟨b,off,rfl,hb,hc⟩:=h.ja.at_ (by omega);obtain⟨x0,x1,x2⟩:=hc k hk;have hp:=h.lt;have hgk:=hgd k hk;have H:=ay h;have HC:=ay hc;have HG:=ay hgd;have HBD:=ay (Ad hgd hn hc0 hk);have hnm:Hid (fY l (cs.getD 0 0) k 0=[(l.getD k .zero).id,cs.getD 0 0]):=by
  show _=_;simp[fY,flat]
 have wX:IntKind.u64.wrap (l.getD k .zero).id=(l.getD k .zero).id:=kU (by omega) (by omega);have k1:(0:Int)<=(k:Int):=by omega
 have k2:(k:Int)<(l.length:Int):=by omega
 obtain⟨i0,hi,hz0,hz1,hz2⟩:=info_parts E7;have hbP:Hid (lN l (cs.getD 0 0) msg k=uR 1 msg (fY l (cs.getD 0 0) k l.length)):=by
  show lN l (cs.getD 0 0) msg k=_;rfl
 have hkc:=ay (bi0 (w:=w.drew) (show FK w.drew g cs from h.key) hcl);clear h hc hgd hgk hc0 x1 x2;generalize(l.getD k .zero).id=X at*;generalize cs.getD 0 0=K at*;go_enter Try.func84,Try.ntmps84
 go_wp2_with fail
 go_region_held3 (fun w'=>(w'.cell? ⟨p,0,none⟩=some (.pointer (some ⟨g,0,none⟩))/\w'.cell? ⟨p,1,none⟩=some (.slice (some ⟨b,off,none⟩) l.length c))/\w'.cell? ⟨b,off+k*3,none⟩=some (.int .i64 X)) (go_keep)
  (first|(go_at_call 60;refine hkc.out.mono ?_;rintro e w' ⟨rfl,rfl⟩))
 all_goals
  have hown0:((w.alloc (.cells #[.int .u64 X,.int .u64 K] 40)).drew).ownsRow w.heap.size 40 1 (.slice (some ⟨w.heap.size,0,none⟩) 2 2) (2+3*0) ((fY l K k 0).map (bV .u64)):=by
   rw[hnm.out];exact World.ownsRow_lit w #[.int .u64 X,.int .u64 K] 2 nle (by unfold maxLen;omega) rfl
  have Ep:Below w.heap.size w (w.alloc (.cells #[.int .u64 X,.int .u64 K] 40)).drew:=(eD _ _).drew;generalize(w.alloc (.cells #[.int .u64 X,.int .u64 K] 40)).drew=w1 at*;have HP1:=ay (H.out.later Ep);obtain⟨r0,r1,r2⟩:=HP1.out.cells;have HO0:=ay hown0;have HB0:=ay Ep;clear hown0 Ep p0 p1 p2;go_wp2_with fail
  go_loopw [5,28] (fun v i wr=>∃j:Nat,j<=l.length/\i=.int .i64 j/\wr.ownsRow w.heap.size 40 1 v (2+3*j) ((fY l K k j).map (bV .u64))/\Below w.heap.size w wr) (fun _ i _=>l.length-(intOf i).toNat)
  case atStart=>exact⟨0,by omega,rfl,HO0.out,HB0.out⟩
  case round=>
   obtain⟨j,hj,rfl,hown,gy⟩:=hrel;have HO:=ay hown;clear hown r0 r1 r2;by_cases hlt:j<l.length
   ·obtain⟨y0,y1,y2⟩:=HC.out j hlt;replace y0:=(gy.cell (p:=⟨b,off+j*3,none⟩) hb).trans y0;replace y1:=(gy.cell (p:=⟨b,off+j*3+1,none⟩) hb).trans y1;replace y2:=(gy.cell (p:=⟨b,off+j*3+2,none⟩) hb).trans y2;have hgj:=HG.out j hlt;have wY:IntKind.u64.wrap (l.getD j .zero).id=(l.getD j .zero).id:=kU (by omega) (by omega);have hst:=ay (wH l K k j);have hlen:wr.heap.size<(wr.alloc (.cells #[.int .i64 (l.getD j .zero).id,.int .u64 (l.getD j .zero).d,.int .u64 (l.getD j .zero).e] 52)).heap.size:=by simp
    obtain⟨⟨gj1,gj2⟩,-⟩:=hgj;generalize(l.getD j .zero).id=Y at*;generalize(l.getD j .zero).d=D at*;generalize(l.getD j .zero).e=E at*;go_wp2_with (at_builtin;refine wpList_append_own _ rfl (.tmp 32) (.tmp 40) _ rfl w.heap.size 40 i0 (.int .u64 0) 1 8 Try.underlying29 hi hz0 hz1 hz2 rfl (by decide) _ _ _ rfl ((HO.out.alloc _).alloc _) ⟨wr.heap.size+1,0,none⟩ 3 3 [.int .u64 Y,.int .u64 D,.int .u64 E] rfl rfl (World.news_of_block (jx _ _ (by simp))) (by simp[cA]) (by unfold maxLen;omega) (by omega) (by have:=gy.size;simp<;>omega) ?_;intro v1 w2 hown1 hgrow1 _)
    have lT:=(((gy.alloc gy.size (.cells #[.int .i64 Y,.int .u64 D,.int .u64 E] 52)).alloc (by have:=gy.size;simp<;>omega) (.cells #[.int .u64 Y,.int .u64 D,.int .u64 E] 40)).grown hgrow1 (by have:=gy.size;simp<;>omega) fun k hk=>(((HO.out.alloc (.cells #[.int .i64 Y,.int .u64 D,.int .u64 E] 52)).alloc (.cells #[.int .u64 Y,.int .u64 D,.int .u64 E] 40)).lt k hk).1);refine⟨⟨j+1,by omega,by go_num,by rw[hst.out,cD,show 2+3*(j+1)=2+3*j+3 by omega];exact hown1,lT⟩,by simp[intOf];omega⟩
   ·obtain rfl:j=l.length:=by omega
    have HPf:=ay (H.out.later gy);obtain⟨r0,r1,r2⟩:=HPf.out.cells;have KN:=gA.own (l:=fY l K k l.length) (by rw[ly];exact HO.out);have hh:=ay (TM 1 msg (fY l K k l.length) _ wr KN (by rw[ly];omega) rH (by omega) (by omega) HBD.out);obtain⟨A5,c5,rfl⟩:=ko HO.out;rw[<-hbP.out]at hh;clear KN;go_wp2_with fail
    refine hh.out.mono ?_;rintro e w' ⟨rfl,x,rfl⟩;go_wp2_with fail
    go_ret
    exact⟨rfl,gy.alloc gy.size _⟩
theorem aH4(h:Rf w p g lv cs l msg)(hgd:ng.Good n l)(hn:n<=9)(wE:l.length<=9)(hcl:0<cs.length)(hc0:0<=cs.getD 0 0/\cs.getD 0 0<18446744073709551616)(rH:msg.size<=1000000){k:Nat}(hk:k<l.length):
  Calls dS 64 #[.pointer (some ⟨p,0,none⟩),.int .i64 k] w fun e w'=>e=.returned (.int .u64 (l6 l (cs.getD 0 0) msg k))/\Below w.heap.size w w':=by
 obtain⟨p0,p1,p2⟩:=h.cells;obtain⟨A,c,rfl⟩:=h.ja.shape;obtain⟨b,off,rfl,hb,hc⟩:=h.ja.at_ (by omega);obtain⟨x0,x1,x2⟩:=hc k hk;obtain⟨-,-,⟨d0,d1⟩,e0,e1⟩:=hgd k hk;have hP:Hid (l6 l (cs.getD 0 0) msg k=mI (l.getD k .zero).d (pw (l.getD k .zero).e (lN l (cs.getD 0 0) msg k).toNat 2147483579)):=by
  show l6 l (cs.getD 0 0) msg k=_;rfl
 have TJ:=eD w (.cells #[.int .i64 (l.getD k .zero).id,.int .u64 (l.getD k .zero).d,.int .u64 (l.getD k .zero).e] 52);have Zw:=ay (aY9 (h.later TJ.drew) hgd hn wE hcl hc0 rH hk);have hbb:=rD l (cs.getD 0 0) msg k;have k1:(0:Int)<=(k:Int):=by omega
 have k2:(k:Int)<(l.length:Int):=by omega
 have HBX:=ay TJ;obtain⟨bb0,bb1⟩:=hbb;have b0:(w.alloc (.cells #[.int .i64 (l.getD k .zero).id,.int .u64 (l.getD k .zero).d,.int .u64 (l.getD k .zero).e] 52)).cell? ⟨w.heap.size,1,none⟩=some (.int .u64 (l.getD k .zero).d):=by simp
 have b1:(w.alloc (.cells #[.int .i64 (l.getD k .zero).id,.int .u64 (l.getD k .zero).d,.int .u64 (l.getD k .zero).e] 52)).cell? ⟨w.heap.size,2,none⟩=some (.int .u64 (l.getD k .zero).e):=by simp
 have hsz:w.heap.size<(w.alloc (.cells #[.int .i64 (l.getD k .zero).id,.int .u64 (l.getD k .zero).d,.int .u64 (l.getD k .zero).e] 52)).heap.size:=by simp
 clear h hc hgd hc0 TJ;generalize(l.getD k .zero).id=X at*;generalize(l.getD k .zero).d=D at*;generalize(l.getD k .zero).e=E at*;generalize lN l (cs.getD 0 0) msg k=Bd at*;generalize l6 l (cs.getD 0 0) msg k=R at*;go_enter Try.func64,Try.ntmps64
 go_wp2_with fail
 generalize w.alloc (.cells #[.int .i64 X,.int .u64 D,.int .u64 E] 52)=wb at*;go_region_held3 (fun w'=>w'.cell? ⟨w.heap.size,1,none⟩=some (.int .u64 D)/\w'.cell? ⟨w.heap.size,2,none⟩=some (.int .u64 E))
  (first|go_keep|(exact⟨(hb1.cell (p:=⟨w.heap.size,1,none⟩) hsz).trans b0,(hb1.cell (p:=⟨w.heap.size,2,none⟩) hsz).trans b1⟩))
  (first|(go_at_call 84;refine Zw.out.mono ?_;rintro e w1 ⟨rfl,hb1⟩)|(go_at_call 68;refine(yV E Bd _ (by omega) e1 bb0 (by omega)).mono ?_;rintro e w' ⟨rfl,rfl⟩)|(go_at_call 65;refine(qK _ _ _).mono ?_;rintro e w' ⟨rfl,rfl⟩))
 all_goals
  go_wp2_with fail
  go_ret
  exact⟨by rw[hP.out];rfl,HBX.out.trans ((bre.drew).trans (hb1.mono (Nat.le_of_lt hsz)))⟩
theorem Lj(h:Rf w p g lv cs l msg)(wE:l.length<=9){k:Nat}(hk:k<l.length):
  Calls dS 70 #[.pointer (some ⟨p,0,none⟩),.int .i64 k] w fun e w'=>e=.returned (.int .u64 (iq (iO l l.length) k))/\Below w.heap.size w w':=by
 obtain⟨p0,p1,p2⟩:=h.cells;obtain⟨A,c,rfl⟩:=h.ja.shape;obtain⟨b,off,rfl,hb,hc⟩:=h.ja.at_ (by omega);have H:=ay h;have HC:=ay hc;obtain⟨i0,hi,hz0,hz1,hz2⟩:=info_parts E8;clear h hc;go_enter Try.func70,Try.ntmps70
 go_wp2_with fail
 go_loopw [5,13] (fun v i wr=>∃j:Nat,j<=l.length/\i=.int .i64 j/\wr.ownsRow w.heap.size 3 1 v j ((iO l j).map (bV .i64))/\Below w.heap.size w wr) (fun _ i _=>l.length-(intOf i).toNat)
 case atStart=>exact⟨0,by omega,rfl,cB _ _ _ _,Below.refl _ _⟩
 case round=>
  obtain⟨j,hj,rfl,hown,gy⟩:=hrel;have HO:=ay hown;clear hown p0 p1 p2;by_cases hlt:j<l.length
  ·obtain⟨y0,y1,y2⟩:=HC.out j hlt;replace y0:=(gy.cell (p:=⟨b,off+j*3,none⟩) hb).trans y0;replace y1:=(gy.cell (p:=⟨b,off+j*3+1,none⟩) hb).trans y1;replace y2:=(gy.cell (p:=⟨b,off+j*3+2,none⟩) hb).trans y2;have hst:=ay (CY l j);generalize(l.getD j .zero).id=Y at*;generalize(l.getD j .zero).d=D at*;generalize(l.getD j .zero).e=E at*;go_wp2_with (at_builtin;refine wpList_append_own _ rfl (.tmp 17) (.tmp 20) _ rfl w.heap.size 3 i0 (.int .i64 0) 1 8 Try.underlying41 hi hz0 hz1 hz2 rfl (by decide) _ _ _ rfl ((HO.out.alloc _).alloc _) ⟨wr.heap.size+1,0,none⟩ 1 1 [.int .i64 Y] rfl rfl (World.news_of_block (jx _ _ (by simp))) (by simp[cA]) (by unfold maxLen;omega) (by omega) (by have:=gy.size;simp<;>omega) ?_;intro v1 w2 hown1 hgrow1 _)
   have lT:=(((gy.alloc gy.size (.cells #[.int .i64 Y,.int .u64 D,.int .u64 E] 52)).alloc (by have:=gy.size;simp<;>omega) (.cells #[.int .i64 Y] 3)).grown hgrow1 (by have:=gy.size;simp<;>omega) fun k hk=>(((HO.out.alloc (.cells #[.int .i64 Y,.int .u64 D,.int .u64 E] 52)).alloc (.cells #[.int .i64 Y] 3)).lt k hk).1);refine⟨⟨j+1,by omega,by go_num,by rw[hst.out,cD];exact hown1,lT⟩,by simp[intOf];omega⟩
  ·obtain rfl:j=l.length:=by omega
   have KN:=gA.own (l:=iO l l.length) (by rw[kN];exact HO.out);obtain⟨A5,c5,rfl⟩:=ko HO.out;have hlg:=ay (E6 (iO l l.length) k _ wr KN (by rw[kN];omega) (by rw[kN];exact hk));clear KN;go_wp2_with fail
   refine hlg.out.mono ?_;rintro e w' ⟨rfl,nq,rfl⟩;go_wp2_with fail
   go_ret
   exact⟨rfl,below_drewN gy _⟩
end
end
end Au
namespace Hw
open Go.RowKit Go.Conc Cc Pl ni oa ng Mem nO Au yL O2
open nU hiding base
def fT(rt:Nat->Bool)(l:List Cm):Nat->List Int
 |0=>[]
 |k+1=>if rt k then fT rt l k else fT rt l k++[(l.getD k .zero).id]
theorem H6(rt:Nat->Bool)(l:List Cm)(k:Nat):(fT rt l k).length<=k:=by
 induction k with
 |zero=>simp[fT]
 |succ k ih=>
  rw[fT];split
  ·omega
  ·simp<;>omega
theorem O5{rt:Nat->Bool}{l:List Cm}{k:Nat}{b:Bool}(e:rt k=b)(hb:b=true):fT rt l (k+1)=fT rt l k:=by rw[fT,e,hb];rfl
theorem Rs{rt:Nat->Bool}{l:List Cm}{k:Nat}{b:Bool}(e:rt k=b)(hb:b=false):fT rt l (k+1)=fT rt l k++[(l.getD k .zero).id]:=by rw[fT,e,hb];rfl
theorem EF(rt:Nat->Bool)(l:List Cm)(k:Nat):fT rt l k=[]↔∀j,j<k->rt j=true:=by
 induction k with
 |zero=>exact⟨fun _ j hj=>by omega,fun _=>rfl⟩
 |succ k ih=>
  rw[fT];split
  ·rename_i h;rw[ih];exact⟨fun h1 j hj=>(by by_cases e:j=k;(subst e;exact h);exact h1 j (by omega)),fun h1 j hj=>h1 j (by omega)⟩
  ·rename_i h;exact⟨fun h1=>by simp at h1,fun h1=>absurd (h1 k (by omega)) h⟩
def agU(b8 fR b16 fV:Nat)(r:Int):Array af:=#[av,av,av,av,av,av,av,av,.pointer (some ⟨b8,0,none⟩),.slice none 0 0,.int .i64 0,av,av,.pointer (some ⟨fR,0,none⟩),.int .u64 r,av,.pointer (some ⟨b16,0,none⟩),.pointer (some ⟨fV,0,none⟩),av,av,av,av,av,av,av,av,av,av,av,av,av,av,av,av,av,av,av,av,av,av,av,av,av,av,av,av,av,av,av,av,av,av,av,av,av,av,av,av,av,av,av,av,av,av,av,av,av,av,av,av,av,av,av,av,av,av,av,av,av,av,av,av,av,av,av,av,av,av,av,av,av,av,av,av,av,av,av,av,av,av,av,av,av,av,av,av,av]
def KA(r:Int)(zt wr:List Int)(w:ae)(v:af)(w':ae):Prop:=
 (wr=[]/\v=.tuple #[.agg #[.int .u64 r,.int .u64 (vO 0 zt zt.length)],.slice none 0 0,.int .i64 0])\/
 (wr≠[]/\∃W,v=.tuple #[.agg #[.int .u64 0,.int .u64 0],W,.int .i64 14]/\w'.ownsRow w.heap.size 3 1 W wr.length (wr.map (bV .i64)))
def U3(r:Int)(zt wr:List Int)(w:ae):Exit->Act->ae->Prop:=fun e a w'=>e=.ret/\a.defers=[]/\∃v,(bT Try.f27 a.tmps).run dS w'=.ok v w'/\KA r zt wr w v w'
theorem CW:(Try.prog.info? 3).map (fun i=>(i.zero,i.size,i.bytes))=some (some (.int .i64 0),1,8):=by kernel_rfl
theorem as6{r S:Int}{zt wr:List Int}{w wq:ae}{b8:Nat}{T:Array af}(h0:wr=[])(hS:S=vO 0 zt zt.length)(h8:fF wq b8 47 #[.int .u64 0,.int .u64 0])(t8:T[8]?=some (.pointer (some ⟨b8,0,none⟩)):=by rfl)(t9:T[9]?=some (.slice none 0 0):=by rfl)(t10:T[10]?=some (.int .i64 0):=by rfl):
  U3 r zt wr w Exit.ret ⟨T,[]⟩ ((wq.setCell ⟨b8,0,none⟩ (.int .u64 r)).setCell ⟨b8,1,none⟩ (.int .u64 S)):=by
 have B:=((h8.iK 0 (.int .u64 r)).iK 1 (.int .u64 S));have c0:=B.cell 0;have c1:=B.cell 1;refine⟨rfl,rfl,_,?_,.inl ⟨h0,rfl⟩⟩;subst hS;simp[bT,Try.results27,t8,t9,t10,go_sem,c0,c1]
theorem XR{r:Int}{zt wr:List Int}{w wq:ae}{b8:Nat}{T:Array af}{W:af}(h0:¬wr=[])(hW:wq.ownsRow w.heap.size 3 1 W wr.length (wr.map (bV .i64)))(hlt:b8<w.heap.size)(h8:fF wq b8 47 #[.int .u64 0,.int .u64 0])(t8:T[8]?=some (.pointer (some ⟨b8,0,none⟩)):=by rfl)(t9:T[9]?=some W:=by rfl)(t10:T[10]?=some (.int .i64 14):=by rfl):
  U3 r zt wr w Exit.ret ⟨T,[]⟩ ((wq.setCell ⟨b8,0,none⟩ (.int .u64 0)).setCell ⟨b8,1,none⟩ (.int .u64 0)):=by
 have B:=((h8.iK 0 (.int .u64 0)).iK 1 (.int .u64 0));have c0:=B.cell 0;have c1:=B.cell 1;refine⟨rfl,rfl,.tuple #[.agg #[.int .u64 0,.int .u64 0],W,.int .i64 14],?_,.inr ⟨h0,W,rfl,?_⟩⟩
 ·simp[bT,Try.results27,t8,t9,t10,go_sem,c0,c1]
 ·refine hW.kept (row:=some b8) (grownBy_set (grownBy_set (World.grownBy.refl _ _) _ _) _ _) ?_;cases hk:W.ownBlock with
  |none=>exact .inl rfl
  |some k=>
   have:=(hW.lt k hk).1
   exact .inr fun e=>by cases e;omega
theorem Ck(x d e:Int)(w:ae):(Instr.field 52 (.agg #[.int .i64 x,.int .u64 d,.int .u64 e]) 0).run dS w=.ok (.int .i64 x) w:=by kernel_rfl
theorem aG2{w:ae}{b8 fR b16 fV Rb Zb Pb Gb:Nat}{lv:af}{cs:List Int}{l:List Cm}{msg:ByteArray}{n vY sD:Nat}{rt:Nat->Bool}{zt:List Int}{r:Int}(hP:Rf w Pb Gb lv cs l msg)(hl:l.length=n)(hn:n<=9)(hz:zt.length=n)
  (h8:fF w b8 47 #[.int .u64 0,.int .u64 0])(h13:w.cell? ⟨fR,0,none⟩=some (.pointer (some ⟨Pb,0,none⟩)))(h16:w.cell? ⟨b16,0,none⟩=some (.slice (some ⟨Rb,0,none⟩) n vY))(h17:w.cell? ⟨fV,0,none⟩=some (.slice (some ⟨Zb,0,none⟩) n sD))
  (hR:∀k,k<n->w.cell? ⟨Rb,k,none⟩=some (.bool (rt k)))(hZ:gA .u64 w w.heap.size (.slice (some ⟨Zb,0,none⟩) n sD) zt):
  xq.wp dS (U3 r zt (fT rt l n) w) ⟨agU b8 fR b16 fV r,[]⟩ w:=by
 simp only[xq,sF,ky,iw,Try.f27,aJ,agU];obtain⟨i0,hi,hz0,hz1,hz2⟩:=info_parts CW;have HP:=ay hP;have HR:=ay hR;have HZ:=ay hZ;have H8:=ay h8;clear hP hR hZ h8;go_wp2_with fail
 go_loopw [21,83] (fun v i wr=>∃k:Nat,k<=n/\i=.int .i64 k/\wr.ownsRow w.heap.size 3 1 v (fT rt l k).length ((fT rt l k).map (bV .i64))/\Below w.heap.size w wr) (fun _ i _=>n-(intOf i).toNat)
 case atStart=>exact⟨0,by omega,rfl,cB _ _ _ _,Below.refl _ _⟩
 case round=>
  obtain⟨k,hk,rfl,hown,gy⟩:=hrel;obtain⟨A1,c1,rfl⟩:=ko hown;have HO:=ay hown;have c13:=(gy.cell (bZ w _ h13)).trans h13;clear hown;by_cases hlt:k<n
  ·have hc:=HR.out k hlt;have hc':=(gy.cell (bZ w _ hc)).trans hc;have JC:=fun(hb:rt k=true)=>ay (O5 (l:=l) rfl hb);have hno:=fun(hb:rt k=false)=>ay (Rs (l:=l) rfl hb);have hwl:=H6 rt l k;have QV:=ay (atW (HP.out.later gy) (k:=k) (by omega));clear hc;generalize rt k=bb at*;cases bb;case true=>
    have hst:=JC rfl;clear JC hno;go_wp2_with fail
    exact⟨⟨k+1,by omega,by go_num,by rw[hst.out];exact HO.out,gy⟩,by simp[intOf];omega⟩
   case false=>
    have hst:=hno rfl;clear JC hno;generalize(l.getD k .zero).id=X at*;generalize(l.getD k .zero).d=Y at*;generalize(l.getD k .zero).e=Z at*;have Q9:=Ck X Y Z;go_wp2_with (first|(go_at_call 67;refine QV.out.mono ?_;rintro e w2 ⟨rfl,hb2⟩;have HO2:=ay (iR HO.out hb2 nle);have lT:=gy.trans (hb2.mono gy.size))|(at_builtin;refine wpList_append_own _ rfl (.tmp 90) (.tmp 95) _ rfl w.heap.size 3 i0 (.int .i64 0) 1 8 Try.underlying41 hi hz0 hz1 hz2 rfl (by decide) _ _ _ rfl (HO2.out.alloc _) ⟨w2.heap.size,0,none⟩ 1 1 [.int .i64 X] rfl rfl (cell_one_new _ _ _) (by simp[cA]) (by unfold maxLen;omega) (by omega) (by have:=lT.size;simp<;>omega) ?_;intro v1 w1 hown1 hgrow1 _))
    refine⟨⟨k+1,by omega,by go_num,?_,gV lT HO2.out lT.size hgrow1⟩,by simp[intOf];omega⟩;rw[hst.out,List.length_append,cD];exact hown1
  ·obtain rfl:k=n:=by omega
   have b8':=H8.out.below gy H8.out.lt;have e80:=b8'.cell 0;have e81:=b8'.cell 1;have f80:=b8'.frozen 0;have f81:=b8'.frozen 1;have B8:=ay b8';by_cases h0:fT rt l k=[]
   ·have g0:((fT rt l k).length:Int)=0:=by rw[h0];rfl
    have g1:¬(0:Int)<((fT rt l k).length:Int):=by omega
    have c17:=(gy.cell (bZ w _ h17)).trans h17;have hF:=ay (aW4 0 zt _ wr (HZ.out.later gy) (by omega));clear b8';go_wp2_with (go_at_call 72;refine hF.out.mono ?_;rintro e w2 ⟨rfl,rfl⟩)
    exact as6 h0 (by rw[hz]) B8.out
   ·have g0:(0:Int)<((fT rt l k).length:Int):=by
     have:(fT rt l k).length≠0:=fun e=>h0 (List.length_eq_zero_iff.1 e)
     omega
    clear b8';go_wp2_with fail
    exact XR h0 HO.out H8.out.lt B8.out
end Hw
namespace Cc
open Go.Conc Go.ConcN Go.RowKit
def aF7:List ak:=[41,42,64,67,70,69,65,68,44,84,77,60,89,121,111,112]
def wS(f:ak):Bool:=aF7.contains f
theorem sL:nP dS wS:=by
 intro f hf;unfold wS aF7 at hf;simp only[List.contains_cons,List.contains_nil,Bool.or_false,Bool.or_eq_true,beq_iff_eq]at hf;rcases hf with rfl|rfl|rfl|rfl|rfl|rfl|rfl|rfl|rfl|rfl|rfl|rfl|rfl|rfl|rfl|rfl
 ·exact⟨_,_,Try.func41,rfl,by kernel_rfl,by kernel_rfl⟩
 ·exact⟨_,_,Try.func42,rfl,by kernel_rfl,by kernel_rfl⟩
 ·exact⟨_,_,Try.func64,rfl,by kernel_rfl,by kernel_rfl⟩
 ·exact⟨_,_,Try.func67,rfl,by kernel_rfl,by kernel_rfl⟩
 ·exact⟨_,_,Try.func70,rfl,by kernel_rfl,by kernel_rfl⟩
 ·exact⟨_,_,Try.func69,rfl,by kernel_rfl,by kernel_rfl⟩
 ·exact⟨_,_,Try.func65,rfl,by kernel_rfl,by kernel_rfl⟩
 ·exact⟨_,_,Try.func68,rfl,by kernel_rfl,by kernel_rfl⟩
 ·exact⟨_,_,Try.func44,rfl,by kernel_rfl,by kernel_rfl⟩
 ·exact⟨_,_,Try.func84,rfl,by kernel_rfl,by kernel_rfl⟩
 ·exact⟨_,_,Try.func77,rfl,by kernel_rfl,by kernel_rfl⟩
 ·exact⟨_,_,Try.func60,rfl,by kernel_rfl,by kernel_rfl⟩
 ·exact⟨_,_,Try.func89,rfl,by kernel_rfl,by kernel_rfl⟩
 ·exact⟨_,_,Try.func121,rfl,by kernel_rfl,by kernel_rfl⟩
 ·exact⟨_,_,Try.func111,rfl,by kernel_rfl,by kernel_rfl⟩
 ·exact⟨_,_,Try.func112,rfl,by kernel_rfl,by kernel_rfl⟩
end Cc
namespace Cc
open Go.Conc Go.ConcN
open Go.ConcM (OsLater)
structure He(st:St eH)(w':ae)(es:Array Event):Prop where
 size:st.w.heap.size<=w'.heap.size
 evs:∀e∈es,∃b off x,e=⟨ca b off,x,false⟩/\b<w'.heap.size/\(∀s,st.γ.sc=some s->b≠s.Gb)/\(st.γ.ex 0 (ca b off)\/(x=false/\st.γ.rd 0 (ca b off))\/st.w.heap.size<=b)
 os:w'.os=st.w.os
 out:w'.output=st.w.output
 blk:∀b,b<st.w.heap.size->w'.heap[b]?=st.w.heap[b]?\/∀off,st.γ.ex 0 (ca b off)
section
variable{q:iU}{s:eJ}{mw:MW}{dm num:Nat}{K:List (Nat×Obj)}{Ch:Nat->ah->St eH->Prop}
theorem Inv.aH6{st:St eH}(h:Inv q st){w':ae}{es:Array Event}(H:He st w' es)(fn:ak)(pos:String):
  Inv q ⟨w',st.t++MemOp.ofEvents 0 fn pos es,st.γ.grow 0 st.w.heap.size w'.heap.size⟩/\∀j,j≠0->Rl j st ⟨w',st.t++MemOp.ofEvents 0 fn pos es,st.γ.grow 0 st.w.heap.size w'.heap.size⟩:=by
 have wL:∀e∈es,∀x,(MemAct.ofEvent e).touch?=some x->∃b off y,x=⟨ca b off,y,.plain⟩/\b<w'.heap.size/\(∀s,st.γ.sc=some s->b≠s.Gb)/\(st.γ.ex 0 (ca b off)\/(y=false/\st.γ.rd 0 (ca b off))\/st.w.heap.size<=b):=fun e he x hx=>by
  obtain⟨b,off,y,rfl,h1,h2,h3⟩:=H.evs e he;cases hx;exact⟨b,off,y,rfl,h1,h2,h3⟩
 refine h.own (i:=0) h.base.pos (.inl rfl) (fun e=>absurd rfl e) H.size (fun e he x hx=>?_) (fun e he=>?_) (fun e=>absurd rfl e) (by rw[H.os];exact .refl _) H.out H.blk fun s hs e he x hx=>?_
 ·obtain⟨b,off,y,rfl,h1,h2,h3⟩:=wL e he x hx;refine⟨?_,fun b' hb'=>by cases hb';exact h1⟩;rcases h3 with h3|⟨rfl,h3⟩|h3
  ·exact .inr (.inl h3)
  ·exact .inr (.inr (.inl ⟨h3,rfl⟩))
  ·exact .inr (.inr (.inr (.inr ⟨b,rfl,h3⟩)))
 ·obtain⟨b,off,y,rfl,h1,h2,h3⟩:=H.evs e he;refine⟨by simp[ca],by simp[ca],fun a=>by simp[ca]⟩
 ·obtain⟨b,off,y,rfl,h1,h2,h3⟩:=wL e he x hx;refine⟨fun o o1 o2 e=>h2 s hs (iC e).1,fun e=>absurd (iC e).1 (h2 s hs)⟩
def DL(st:St eH)(w':ae)(K':List (Nat×Obj)):Prop:=∀b o,(b,o)∈K'->w'.heap[b]?=some o/\((∀off,st.γ.ex 0 (ca b off))\/(∀off,st.γ.rd 0 (ca b off))\/st.w.heap.size<=b)/\¬st.γ.dead b
theorem N5{st:St eH}{w':ae}{K':List (Nat×Obj)}{t:Trace}(hK:DL st w' K'):∀b o,(b,o)∈K'->w'.heap[b]?=some o/\((∀off,(st.γ.grow 0 st.w.heap.size w'.heap.size).ex 0 (ca b off))\/∀off,(st.γ.grow 0 st.w.heap.size w'.heap.size).rd 0 (ca b off)):=fun b o hb=>by
 obtain⟨h1,h2|h2|h2,_⟩:=hK b o hb
 ·exact⟨h1,.inl fun off=>.inl (h2 off)⟩
 ·exact⟨h1,.inr h2⟩
 ·exact⟨h1,.inl fun off=>.inr ⟨rfl,b,rfl,h2,lt_of_block h1⟩⟩
theorem TT.ak4{P:au}(hP:q.P=P){g:ah}{st:St eH}(hA:nu s mw dm num K st)
  (h:∀dV,Rl 0 st dV->nu s mw dm num K dV->Inv q dV->∃g' w' es K',stepG P (0==0) g dV.w=.go g' w' es/\g'.status=.running/\He dV w' es/\DL dV w' K'/\
   ∀dZ,dZ.w=w'->nu s mw dm num K' dZ->Inv q dZ->(∀l,dV.γ.ex 0 l->dZ.γ.ex 0 l)->(∀b off,dV.w.heap.size<=b->b<w'.heap.size->dZ.γ.ex 0 (ca b off))->TT (cfg q) 0 Ch g' dZ):TT (cfg q) 0 Ch g st:=by
 subst hP;refine TT.act fun dV hr hi=>?_;have dY:=hA.rely hr;obtain⟨g',w',es,K',h1,h2,h3,h4,h5⟩:=h dV hr dY hi;obtain⟨k1,k2⟩:=hi.aH6 h3 g.frame.fn g.frame.place;exact⟨fun hl=>hl.1 rfl,g',w',es,dV.γ.grow 0 dV.w.heap.size w'.heap.size,h1,h2,rfl,⟨k1,k2⟩,.inr fun k hk hw=>hw,
  h5 _ rfl ⟨dY.sc,dY.mw,dY.dm,dY.num,N5 (t:=dV.t) h4,fun b o hb=>(h4 b o hb).2.2⟩ k1 (fun l hl=>.inl hl) fun b off b1 b2=>.inr ⟨rfl,b,rfl,b1,b2⟩⟩
theorem TT.ad6{P:au}(hP:q.P=P){g:ah}{st:St eH}(hA:kH dm num K st)
  (h:∀dV,Rl 0 st dV->kH dm num K dV->Inv q dV->∃g' w' es K',stepG P (0==0) g dV.w=.go g' w' es/\g'.status=.running/\He dV w' es/\DL dV w' K'/\
   ∀dZ,dZ.w=w'->kH dm num K' dZ->Inv q dZ->(∀l,dV.γ.ex 0 l->dZ.γ.ex 0 l)->(∀b off,dV.w.heap.size<=b->b<w'.heap.size->dZ.γ.ex 0 (ca b off))->TT (cfg q) 0 Ch g' dZ):TT (cfg q) 0 Ch g st:=by
 subst hP;refine TT.act fun dV hr hi=>?_;have dY:=hA.rely hr;obtain⟨g',w',es,K',h1,h2,h3,h4,h5⟩:=h dV hr dY hi;obtain⟨k1,k2⟩:=hi.aH6 h3 g.frame.fn g.frame.place;exact⟨fun hl=>hl.1 rfl,g',w',es,dV.γ.grow 0 dV.w.heap.size w'.heap.size,h1,h2,rfl,⟨k1,k2⟩,.inr fun k hk hw=>hw,
  h5 _ rfl ⟨dY.sc,dY.mw,dY.dm,dY.num,N5 (t:=dV.t) h4,fun b o hb=>(h4 b o hb).2.2⟩ k1 (fun l hl=>.inl hl) fun b off b1 b2=>.inr ⟨rfl,b,rfl,b1,b2⟩⟩
end
end Cc
namespace Cc
open Go.Conc Go.RowKit
def aZ7:List ak:=[55,47,68,65,56,87,86,85,58,88,64,84,89,60,121,59,57,67,72,73]
def aS(f:ak):Bool:=aZ7.contains f
theorem OW:nP dS aS:=by
 intro f hf;unfold aS aZ7 at hf;simp only[List.contains_cons,List.contains_nil,Bool.or_false,Bool.or_eq_true,beq_iff_eq]at hf;rcases hf with rfl|rfl|rfl|rfl|rfl|rfl|rfl|rfl|rfl|rfl|rfl|rfl|rfl|rfl|rfl|rfl|rfl|rfl|rfl|rfl
 ·exact⟨_,_,Try.func55,rfl,by kernel_rfl,by kernel_rfl⟩
 ·exact⟨_,_,Try.func47,rfl,by kernel_rfl,by kernel_rfl⟩
 ·exact⟨_,_,Try.func68,rfl,by kernel_rfl,by kernel_rfl⟩
 ·exact⟨_,_,Try.func65,rfl,by kernel_rfl,by kernel_rfl⟩
 ·exact⟨_,_,Try.func56,rfl,by kernel_rfl,by kernel_rfl⟩
 ·exact⟨_,_,Try.func87,rfl,by kernel_rfl,by kernel_rfl⟩
 ·exact⟨_,_,Try.func86,rfl,by kernel_rfl,by kernel_rfl⟩
 ·exact⟨_,_,Try.func85,rfl,by kernel_rfl,by kernel_rfl⟩
 ·exact⟨_,_,Try.func58,rfl,by kernel_rfl,by kernel_rfl⟩
 ·exact⟨_,_,Try.func88,rfl,by kernel_rfl,by kernel_rfl⟩
 ·exact⟨_,_,Try.func64,rfl,by kernel_rfl,by kernel_rfl⟩
 ·exact⟨_,_,Try.func84,rfl,by kernel_rfl,by kernel_rfl⟩
 ·exact⟨_,_,Try.func89,rfl,by kernel_rfl,by kernel_rfl⟩
 ·exact⟨_,_,Try.func60,rfl,by kernel_rfl,by kernel_rfl⟩
 ·exact⟨_,_,Try.func121,rfl,by kernel_rfl,by kernel_rfl⟩
 ·exact⟨_,_,Try.func59,rfl,by kernel_rfl,by kernel_rfl⟩
 ·exact⟨_,_,Try.func57,rfl,by kernel_rfl,by kernel_rfl⟩
 ·exact⟨_,_,Try.func67,rfl,by kernel_rfl,by kernel_rfl⟩
 ·exact⟨_,_,Try.func72,rfl,by kernel_rfl,by kernel_rfl⟩
 ·exact⟨_,_,Try.func73,rfl,by kernel_rfl,by kernel_rfl⟩
end Cc
namespace Cc
open Go.Conc Go.ConcN Go.RowKit
open Pl ni oa ng Mem nO Au yL Hw
open nU hiding base
section
theorem ey{w:ae}{a b:Nat}{C C':Array af}{e e':aj}{f f':Nat×Nat}(h:w.heap[a]?=some (.cells C e f))(h':w.heap[b]?=some (.cells C' e' f'))(hne:e≠e'):a≠b:=by
 rintro rfl;rw[h]at h';cases h';exact hne rfl
def Ha:Nat->Bool:=fun i=>!([8,9,10,13,14,16,17,21,22,23,81,82,83,84,85,86,87,88,89,90,91,92,93,94,95,96,97,98,99,100,101,102,103,104,105,106].contains i)
theorem QK:codeOk dS aS Ha xq=true:=by kernel_rfl
theorem Kw(fn:Func)(h:Try.prog.funcs[(base 27).fn]?=some fn):fn.results.all (yT Ha)=true:=by
 have e:Try.prog.funcs[(base 27).fn]?=some Try.f27:=Try.func27;rw[e]at h;cases h;show(Try.f27).results.all (yT Ha)=true;kernel_rfl
def gK(b8 fR b16 fV Gb Pb gc lb Rb Zb nc nl:Nat):Nat->Option Md:=fun b=>if b=b8 then some .all else if b=Pb then some (.read 3)else if b=Gb then some (.read 3)else if b=gc then some (.read nc)else if b=lb then some (.read (3*nl))else if b=fR then some (.read 1)else if b=b16 then some (.read 1)else if b=fV then some (.read 1)else if b=Rb then some (.read nl)else if b=Zb then some (.read nl)else none
structure tM(q:iU)(st:St eH)(cs:List Int)(l:List Cm)(msg:ByteArray)(r:Int)(rt:Nat->Bool)(zt:List Int)(T:Array af)(b8 fR b16 fV Gb Pb gc lb Rb Zb ji vY sD:Nat)(CG Cg CP Cl CR CZ:Array af)(g0 g1:af)(eL:aj):Prop where
 sz:T.size=107
 s8:T[8]?=some (.pointer (some ⟨b8,0,none⟩))
 s9:T[9]?=some (.slice none 0 0)
 YO:T[10]?=some (.int .i64 0)
 Q3:T[13]?=some (.pointer (some ⟨fR,0,none⟩))
 s14:T[14]?=some (.int .u64 r)
 Q0:T[16]?=some (.pointer (some ⟨b16,0,none⟩))
 QZ:T[17]?=some (.pointer (some ⟨fV,0,none⟩))
 su:∀i,(21<=i/\i<24)\/(81<=i/\i<107)->T[i]?=some av
 sN:st.w.heap[b8]?=some (.cells #[.int .u64 0,.int .u64 0] 47 (0,0))
 ow:st.w.heap[Pb]?=some (.cells CP 164 (0,0))
 mV:st.w.heap[Gb]?=some (.cells CG 137 (0,0))
 oQ:st.w.heap[gc]?=some (.cells Cg 79 (0,0))
 Vx:st.w.heap[lb]?=some (.cells Cl eL (0,0))
 jO:st.w.heap[fR]?=some (.cells #[.pointer (some ⟨Pb,0,none⟩)] 100 (0,0))
 jN:st.w.heap[b16]?=some (.cells #[.slice (some ⟨Rb,0,none⟩) l.length vY] 107 (0,0))
 jM:st.w.heap[fV]?=some (.cells #[.slice (some ⟨Zb,0,none⟩) l.length sD] 75 (0,0))
 nj:st.w.heap[Rb]?=some (.cells CR 4 (0,0))
 nI:st.w.heap[Zb]?=some (.cells CZ 76 (0,0))
 ZP:3<=CG.size/\CG[0]?=some g0/\CG[1]?=some g1/\CG[2]?=some (.slice (some ⟨gc,0,none⟩) cs.length ji)/\(∃k x,g0=.int k x)/\∃k x,g1=.int k x
 gcl:cs.length<=Cg.size/\∀j,j<cs.length->Cg[j]?=some (.int .u64 (cs.getD j 0))
 IM:CP.size=3/\CP[0]?=some (.pointer (some ⟨Gb,0,none⟩))/\CP[1]?=some (.slice (some ⟨lb,0,none⟩) l.length l.length)/\CP[2]?=some (.string msg)
 CJ:3*l.length<=Cl.size/\∀j u,j<3*l.length->(eO l)[j]?=some u->Cl[j]?=some u
 M0:CR.size=l.length/\∀k,k<l.length->CR[k]?=some (.bool (rt k))
 Mu:CZ.size=l.length/\∀k,k<l.length->CZ[k]?=some (.int .u64 (zt.getD k 0))
 zl:zt.length=l.length
 cz:l.length<=sD
 l9:l.length<=9
 low:∀b∈[b8,Pb,Gb,gc,lb,fR,b16,fV,Rb,Zb],q.P.globals.size<=b
 pO:∀b∈[b8,Pb,Gb,gc,fR,b16,fV,Rb,Zb],lb≠b
 nd:∀b∈[b8,Pb,Gb,gc,lb,fR,b16,fV,Rb,Zb],¬st.γ.dead b
 bg1:a03 st b8
 ex:∀b∈[b8,Pb,Gb,gc,lb,fR,b16,fV,Rb,Zb],∀off,st.γ.ex 0 (ca b off)
def yK(r:Int)(zt wr:List Int)(num:Nat)(K:List (Nat×Obj))(v:af)(st:St eH):Prop:=
 (wr=[]/\v=.tuple #[.agg #[.int .u64 r,.int .u64 (vO 0 zt zt.length)],.slice none 0 0,.int .i64 0]/\kH 0 num K st)\/
 (wr≠[]/\∃(c cap:Nat) (C:Array af),v=.tuple #[.agg #[.int .u64 0,.int .u64 0],.slice (some ⟨c,0,none⟩) wr.length cap,.int .i64 14]/\kH 0 num ((c,.cells C 3 (0,0))::K) st/\wr.length<=cap/\wr.length<=C.size/\∀j,j<wr.length->C[j]?=some (.int .i64 (wr.getD j 0)))
section
variable{q:iU}{st:St eH}{cs:List Int}{l:List Cm}{msg:ByteArray}{r:Int}{rt:Nat->Bool}{zt:List Int}{T:Array af}{b8 fR b16 fV Gb Pb gc lb Rb Zb ji vY sD:Nat}{CG Cg CP Cl CR CZ:Array af}{g0 g1:af}{eL:aj}
theorem tM.sees(h:tM q st cs l msg r rt zt T b8 fR b16 fV Gb Pb gc lb Rb Zb ji vY sD CG Cg CP Cl CR CZ g0 g1 eL):yH q aS (gK b8 fR b16 fV Gb Pb gc lb Rb Zb cs.length l.length) st:=by
 have yf:Pb≠b8:=ey h.ow h.sN (by decide);have yg:Gb≠b8:=ey h.mV h.sN (by decide);have yh:Gb≠Pb:=ey h.mV h.ow (by decide);have xX:gc≠b8:=ey h.oQ h.sN (by decide);have rU:gc≠Pb:=ey h.oQ h.ow (by decide);have pA:gc≠Gb:=ey h.oQ h.mV (by decide);have xW:lb≠b8:=h.pO b8 (by simp);have rT:lb≠Pb:=h.pO Pb (by simp);have pz:lb≠Gb:=h.pO Gb (by simp);have rS:lb≠gc:=h.pO gc (by simp);have uy:fR≠b8:=ey h.jO h.sN (by decide);have uz:fR≠Pb:=ey h.jO h.ow (by decide);have mU:fR≠Gb:=ey h.jO h.mV (by decide);have uw:fR≠gc:=ey h.jO h.oQ (by decide);have uv:fR≠lb:=(h.pO fR (by simp)).symm;have uq:b16≠b8:=ey h.jN h.sN (by decide);have uu:b16≠Pb:=ey h.jN h.ow (by decide);have mS:b16≠Gb:=ey h.jN h.mV (by decide);have uo:b16≠gc:=ey h.jN h.oQ (by decide);have um:b16≠lb:=(h.pO b16 (by simp)).symm;have rq:b16≠fR:=ey h.jN h.jO (by decide);have uj:fV≠b8:=ey h.jM h.sN (by decide);have uk:fV≠Pb:=ey h.jM h.ow (by decide);have mR:fV≠Gb:=ey h.jM h.mV (by decide);have ui:fV≠gc:=ey h.jM h.oQ (by decide);have uh:fV≠lb:=(h.pO fV (by simp)).symm;have rf:fV≠fR:=ey h.jM h.jO (by decide);have ra:fV≠b16:=ey h.jM h.jN (by decide);have yb:Rb≠b8:=ey h.nj h.sN (by decide);have yc:Rb≠Pb:=ey h.nj h.ow (by decide);have ye:Rb≠Gb:=ey h.nj h.mV (by decide);have ya:Rb≠gc:=ey h.nj h.oQ (by decide);have x9:Rb≠lb:=(h.pO Rb (by simp)).symm;have uI:Rb≠fR:=ey h.nj h.jO (by decide);have uH:Rb≠b16:=ey h.nj h.jN (by decide);have uG:Rb≠fV:=ey h.nj h.jM (by decide);have x6:Zb≠b8:=ey h.nI h.sN (by decide);have x7:Zb≠Pb:=ey h.nI h.ow (by decide);have x8:Zb≠Gb:=ey h.nI h.mV (by decide);have xZ:Zb≠gc:=ey h.nI h.oQ (by decide);have xY:Zb≠lb:=(h.pO Zb (by simp)).symm;have uF:Zb≠fR:=ey h.nI h.jO (by decide);have uE:Zb≠b16:=ey h.nI h.jN (by decide);have uD:Zb≠fV:=ey h.nI h.jM (by decide);have pB:Zb≠Rb:=ey h.nI h.nj (by decide);have WS:gK b8 fR b16 fV Gb Pb gc lb Rb Zb cs.length l.length b8=some .all:=by unfold gK;simp[]
 have P5:gK b8 fR b16 fV Gb Pb gc lb Rb Zb cs.length l.length Pb=some (.read 3):=by unfold gK;simp[yf]
 have WV:gK b8 fR b16 fV Gb Pb gc lb Rb Zb cs.length l.length Gb=some (.read 3):=by unfold gK;simp[yg,yh]
 have WR:gK b8 fR b16 fV Gb Pb gc lb Rb Zb cs.length l.length gc=some (.read cs.length):=by unfold gK;simp[xX,rU,pA]
 have WQ:gK b8 fR b16 fV Gb Pb gc lb Rb Zb cs.length l.length lb=some (.read (3*l.length)):=by unfold gK;simp[xW,rT,pz,rS]
 have NT:gK b8 fR b16 fV Gb Pb gc lb Rb Zb cs.length l.length fR=some (.read 1):=by unfold gK;simp[uy,uz,mU,uw,uv]
 have NS:gK b8 fR b16 fV Gb Pb gc lb Rb Zb cs.length l.length b16=some (.read 1):=by unfold gK;simp[uq,uu,mS,uo,um,rq]
 have NQ:gK b8 fR b16 fV Gb Pb gc lb Rb Zb cs.length l.length fV=some (.read 1):=by unfold gK;simp[uj,uk,mR,ui,uh,rf,ra]
 have WU:gK b8 fR b16 fV Gb Pb gc lb Rb Zb cs.length l.length Rb=some (.read l.length):=by unfold gK;simp[yb,yc,ye,ya,x9,uI,uH,uG]
 have WT:gK b8 fR b16 fV Gb Pb gc lb Rb Zb cs.length l.length Zb=some (.read l.length):=by unfold gK;simp[x6,x7,x8,xZ,xY,uF,uE,uD,pB]
 have low:=h.low;have nd:=h.nd;have ex:=h.ex;simp only[aM,bB,or_false,forall_eq_or_imp,forall_eq]at low nd ex;obtain⟨al1,al4,al5,al0,ak9,WZ,WY,WX,al3,al2⟩:=low;obtain⟨aK4,aK7,aK8,aK3,aK2,aj3,aj2,aj1,aK6,aK5⟩:=nd;obtain⟨bI6,aX7,aX8,aX4,aX3,at1,at0,as9,aX6,aX5⟩:=ex;intro b m hm;unfold gK at hm;split at hm
 ·rename_i e;subst e;cases hm;exact⟨al1,aK4,_,_,_,h.sN,rfl,h.bg1,fun k v hv=>by match k,hv with|0,hv=>(simp at hv;subst hv;exact .int _ _)|1,hv=>(simp at hv;subst hv;exact .int _ _)|k+2,hv=>simp at hv⟩
 split at hm
 ·rename_i e;subst e;cases hm;refine⟨al4,aK7,_,_,_,h.ow,by have:=h.IM.1;omega,.inr aX7,fun k v hk hv=>?_⟩;match k,hk with
  |0,_=>rw[h.IM.2.1]at hv;cases hv;exact .ptr _ _ (iP WV)
  |1,_=>rw[h.IM.2.2.1]at hv;cases hv;exact .slice _ _ _ _ (iP WQ)
  |2,_=>rw[h.IM.2.2.2]at hv;cases hv;exact .string _
  |k+3,hk=>omega
 split at hm
 ·rename_i e;subst e;cases hm;obtain⟨g1,g2,g3,g4,⟨k0,x0,rfl⟩,k1,x1,rfl⟩:=h.ZP;refine⟨al5,aK8,_,_,_,h.mV,g1,.inr aX8,fun k v hk hv=>?_⟩;match k,hk with
  |0,_=>rw[g2]at hv;cases hv;exact .int _ _
  |1,_=>rw[g3]at hv;cases hv;exact .int _ _
  |2,_=>rw[g4]at hv;cases hv;exact .slice _ _ _ _ (iP WR)
  |k+3,hk=>omega
 split at hm
 ·rename_i e;subst e;cases hm;exact⟨al0,aK3,_,_,_,h.oQ,h.gcl.1,.inr aX4,fun k v hk hv=>by rw[h.gcl.2 k hk]at hv;cases hv;exact .int _ _⟩
 split at hm
 ·rename_i e;subst e;cases hm;refine⟨ak9,aK2,_,_,_,h.Vx,h.CJ.1,.inr aX3,fun k v hk hv=>?_⟩;have hlen:k<(eO l).length:=by rw[gF];omega
  have:=h.CJ.2 k _ hk (aN hlen)
  rw[this]at hv;cases hv;have hm:=List.getElem_mem hlen;generalize(eO l)[k]=u at hm ⊢;simp only[eO,List.mem_flatMap]at hm;obtain⟨c,_,hu⟩:=hm;simp only[Cm.cells,aM,bB,or_false]at hu;rcases hu with rfl|rfl|rfl<;>exact .int _ _
 split at hm
 ·rename_i e;subst e;cases hm;exact⟨WZ,aj3,_,_,_,h.jO,by simp,.inr at1,fun k v hk hv=>by match k,hk with|0,_=>(simp at hv;subst hv;exact .ptr _ _ (iP P5))⟩
 split at hm
 ·rename_i e;subst e;cases hm;exact⟨WY,aj2,_,_,_,h.jN,by simp,.inr at0,fun k v hk hv=>by match k,hk with|0,_=>(simp at hv;subst hv;exact .slice _ _ _ _ (iP WU))⟩
 split at hm
 ·rename_i e;subst e;cases hm;exact⟨WX,aj1,_,_,_,h.jM,by simp,.inr as9,fun k v hk hv=>by match k,hk with|0,_=>(simp at hv;subst hv;exact .slice _ _ _ _ (iP WT))⟩
 split at hm
 ·rename_i e;subst e;cases hm;exact⟨al3,aK6,_,_,_,h.nj,cP h.M0.1.symm,.inr aX6,fun k v hk hv=>by rw[h.M0.2 k hk]at hv;cases hv;exact .bool _⟩
 split at hm
 ·rename_i e;subst e;cases hm;exact⟨al2,aK5,_,_,_,h.nI,cP h.Mu.1.symm,.inr aX5,fun k v hk hv=>by rw[h.Mu.2 k hk]at hv;cases hv;exact .int _ _⟩
 cases hm
theorem tM.cell(h:tM q st cs l msg r rt zt T b8 fR b16 fV Gb Pb gc lb Rb Zb ji vY sD CG Cg CP Cl CR CZ g0 g1 eL){md:Nat->Option Md}{b n:Nat}{C:Array af}{e:aj}{fz:Nat×Nat}(hm:md b=some (.read n))(hb:st.w.heap[b]?=some (.cells C e fz)){o:Nat}(ho:o<n)(hn:n<=C.size):(iJ st.w md).cell? ⟨b,o,none⟩=C[o]?:=by
 simp only[World.cell?,Ci hm hb];have:(C.extract 0 n)[o]?=C[o]?:=by
  rw[Array.getElem?_extract];simp only[cZ];by_cases h:o<n-0
  ·simp<;>omega
  ·omega
 exact this
end
end
section
section
variable{q:iU}{st:St eH}{cs:List Int}{l:List Cm}{msg:ByteArray}{r:Int}{rt:Nat->Bool}{zt:List Int}{T:Array af}{b8 fR b16 fV Gb Pb gc lb Rb Zb ji vY sD:Nat}{CG Cg CP Cl CR CZ:Array af}{g0 g1:af}{eL:aj}
theorem tM.ar(h:tM q st cs l msg r rt zt T b8 fR b16 fV Gb Pb gc lb Rb Zb ji vY sD CG Cg CP Cl CR CZ g0 g1 eL):AR (fun f=>aS f=true) (zi (gK b8 fR b16 fV Gb Pb gc lb Rb Zb cs.length l.length)) (nH Ha (agU b8 fR b16 fV r)) (nH Ha T):=by
 have yf:Pb≠b8:=ey h.ow h.sN (by decide);have yg:Gb≠b8:=ey h.mV h.sN (by decide);have yh:Gb≠Pb:=ey h.mV h.ow (by decide);have xX:gc≠b8:=ey h.oQ h.sN (by decide);have rU:gc≠Pb:=ey h.oQ h.ow (by decide);have pA:gc≠Gb:=ey h.oQ h.mV (by decide);have xW:lb≠b8:=h.pO b8 (by simp);have rT:lb≠Pb:=h.pO Pb (by simp);have pz:lb≠Gb:=h.pO Gb (by simp);have rS:lb≠gc:=h.pO gc (by simp);have uy:fR≠b8:=ey h.jO h.sN (by decide);have uz:fR≠Pb:=ey h.jO h.ow (by decide);have mU:fR≠Gb:=ey h.jO h.mV (by decide);have uw:fR≠gc:=ey h.jO h.oQ (by decide);have uv:fR≠lb:=(h.pO fR (by simp)).symm;have uq:b16≠b8:=ey h.jN h.sN (by decide);have uu:b16≠Pb:=ey h.jN h.ow (by decide);have mS:b16≠Gb:=ey h.jN h.mV (by decide);have uo:b16≠gc:=ey h.jN h.oQ (by decide);have um:b16≠lb:=(h.pO b16 (by simp)).symm;have rq:b16≠fR:=ey h.jN h.jO (by decide);have uj:fV≠b8:=ey h.jM h.sN (by decide);have uk:fV≠Pb:=ey h.jM h.ow (by decide);have mR:fV≠Gb:=ey h.jM h.mV (by decide);have ui:fV≠gc:=ey h.jM h.oQ (by decide);have uh:fV≠lb:=(h.pO fV (by simp)).symm;have rf:fV≠fR:=ey h.jM h.jO (by decide);have ra:fV≠b16:=ey h.jM h.jN (by decide);have yb:Rb≠b8:=ey h.nj h.sN (by decide);have yc:Rb≠Pb:=ey h.nj h.ow (by decide);have ye:Rb≠Gb:=ey h.nj h.mV (by decide);have ya:Rb≠gc:=ey h.nj h.oQ (by decide);have x9:Rb≠lb:=(h.pO Rb (by simp)).symm;have uI:Rb≠fR:=ey h.nj h.jO (by decide);have uH:Rb≠b16:=ey h.nj h.jN (by decide);have uG:Rb≠fV:=ey h.nj h.jM (by decide);have x6:Zb≠b8:=ey h.nI h.sN (by decide);have x7:Zb≠Pb:=ey h.nI h.ow (by decide);have x8:Zb≠Gb:=ey h.nI h.mV (by decide);have xZ:Zb≠gc:=ey h.nI h.oQ (by decide);have xY:Zb≠lb:=(h.pO Zb (by simp)).symm;have uF:Zb≠fR:=ey h.nI h.jO (by decide);have uE:Zb≠b16:=ey h.nI h.jN (by decide);have uD:Zb≠fV:=ey h.nI h.jM (by decide);have pB:Zb≠Rb:=ey h.nI h.nj (by decide);have WS:gK b8 fR b16 fV Gb Pb gc lb Rb Zb cs.length l.length b8=some .all:=by unfold gK;simp[]
 have P5:gK b8 fR b16 fV Gb Pb gc lb Rb Zb cs.length l.length Pb=some (.read 3):=by unfold gK;simp[yf]
 have WV:gK b8 fR b16 fV Gb Pb gc lb Rb Zb cs.length l.length Gb=some (.read 3):=by unfold gK;simp[yg,yh]
 have WR:gK b8 fR b16 fV Gb Pb gc lb Rb Zb cs.length l.length gc=some (.read cs.length):=by unfold gK;simp[xX,rU,pA]
 have WQ:gK b8 fR b16 fV Gb Pb gc lb Rb Zb cs.length l.length lb=some (.read (3*l.length)):=by unfold gK;simp[xW,rT,pz,rS]
 have NT:gK b8 fR b16 fV Gb Pb gc lb Rb Zb cs.length l.length fR=some (.read 1):=by unfold gK;simp[uy,uz,mU,uw,uv]
 have NS:gK b8 fR b16 fV Gb Pb gc lb Rb Zb cs.length l.length b16=some (.read 1):=by unfold gK;simp[uq,uu,mS,uo,um,rq]
 have NQ:gK b8 fR b16 fV Gb Pb gc lb Rb Zb cs.length l.length fV=some (.read 1):=by unfold gK;simp[uj,uk,mR,ui,uh,rf,ra]
 have WU:gK b8 fR b16 fV Gb Pb gc lb Rb Zb cs.length l.length Rb=some (.read l.length):=by unfold gK;simp[yb,yc,ye,ya,x9,uI,uH,uG]
 have WT:gK b8 fR b16 fV Gb Pb gc lb Rb Zb cs.length l.length Zb=some (.read l.length):=by unfold gK;simp[x6,x7,x8,xZ,xY,uF,uE,uD,pB]
 refine Mi (by rw[h.sz];rfl) fun i v v' hd e1 e2=>?_;have hi:i∈[8,9,10,13,14,16,17,21,22,23,81,82,83,84,85,86,87,88,89,90,91,92,93,94,95,96,97,98,99,100,101,102,103,104,105,106]:=by simpa only[Ha,Bool.not_eq_false',List.contains_iff_mem]using hd
 simp only[aM,bB,or_false]at hi;rcases hi with rfl|rfl|rfl|rfl|rfl|rfl|rfl|rfl|rfl|rfl|rfl|rfl|rfl|rfl|rfl|rfl|rfl|rfl|rfl|rfl|rfl|rfl|rfl|rfl|rfl|rfl|rfl|rfl|rfl|rfl|rfl|rfl|rfl|rfl|rfl|rfl
 ·rw[h.s8]at e2;cases e1;cases e2;exact .ptr _ _ (iP WS)
 ·rw[h.s9]at e2;cases e1;cases e2;exact .il _ _
 ·rw[h.YO]at e2;cases e1;cases e2;exact .int _ _
 ·rw[h.Q3]at e2;cases e1;cases e2;exact .ptr _ _ (iP NT)
 ·rw[h.s14]at e2;cases e1;cases e2;exact .int _ _
 ·rw[h.Q0]at e2;cases e1;cases e2;exact .ptr _ _ (iP NS)
 ·rw[h.QZ]at e2;cases e1;cases e2;exact .ptr _ _ (iP NQ)
 ·rw[h.su 21 (by omega)]at e2;cases e1;cases e2;exact VR.undef
 ·rw[h.su 22 (by omega)]at e2;cases e1;cases e2;exact VR.undef
 ·rw[h.su 23 (by omega)]at e2;cases e1;cases e2;exact VR.undef
 ·rw[h.su 81 (by omega)]at e2;cases e1;cases e2;exact VR.undef
 ·rw[h.su 82 (by omega)]at e2;cases e1;cases e2;exact VR.undef
 ·rw[h.su 83 (by omega)]at e2;cases e1;cases e2;exact VR.undef
 ·rw[h.su 84 (by omega)]at e2;cases e1;cases e2;exact VR.undef
 ·rw[h.su 85 (by omega)]at e2;cases e1;cases e2;exact VR.undef
 ·rw[h.su 86 (by omega)]at e2;cases e1;cases e2;exact VR.undef
 ·rw[h.su 87 (by omega)]at e2;cases e1;cases e2;exact VR.undef
 ·rw[h.su 88 (by omega)]at e2;cases e1;cases e2;exact VR.undef
 ·rw[h.su 89 (by omega)]at e2;cases e1;cases e2;exact VR.undef
 ·rw[h.su 90 (by omega)]at e2;cases e1;cases e2;exact VR.undef
 ·rw[h.su 91 (by omega)]at e2;cases e1;cases e2;exact VR.undef
 ·rw[h.su 92 (by omega)]at e2;cases e1;cases e2;exact VR.undef
 ·rw[h.su 93 (by omega)]at e2;cases e1;cases e2;exact VR.undef
 ·rw[h.su 94 (by omega)]at e2;cases e1;cases e2;exact VR.undef
 ·rw[h.su 95 (by omega)]at e2;cases e1;cases e2;exact VR.undef
 ·rw[h.su 96 (by omega)]at e2;cases e1;cases e2;exact VR.undef
 ·rw[h.su 97 (by omega)]at e2;cases e1;cases e2;exact VR.undef
 ·rw[h.su 98 (by omega)]at e2;cases e1;cases e2;exact VR.undef
 ·rw[h.su 99 (by omega)]at e2;cases e1;cases e2;exact VR.undef
 ·rw[h.su 100 (by omega)]at e2;cases e1;cases e2;exact VR.undef
 ·rw[h.su 101 (by omega)]at e2;cases e1;cases e2;exact VR.undef
 ·rw[h.su 102 (by omega)]at e2;cases e1;cases e2;exact VR.undef
 ·rw[h.su 103 (by omega)]at e2;cases e1;cases e2;exact VR.undef
 ·rw[h.su 104 (by omega)]at e2;cases e1;cases e2;exact VR.undef
 ·rw[h.su 105 (by omega)]at e2;cases e1;cases e2;exact VR.undef
 ·rw[h.su 106 (by omega)]at e2;cases e1;cases e2;exact VR.undef
theorem tM.pkw(h:tM q st cs l msg r rt zt T b8 fR b16 fV Gb Pb gc lb Rb Zb ji vY sD CG Cg CP Cl CR CZ g0 g1 eL):
  Rf (iJ st.w (gK b8 fR b16 fV Gb Pb gc lb Rb Zb cs.length l.length)) Pb Gb (.slice (some ⟨lb,0,none⟩) l.length l.length) cs l msg/\
  fF (iJ st.w (gK b8 fR b16 fV Gb Pb gc lb Rb Zb cs.length l.length)) b8 47 #[.int .u64 0,.int .u64 0]/\
  (iJ st.w (gK b8 fR b16 fV Gb Pb gc lb Rb Zb cs.length l.length)).cell? ⟨fR,0,none⟩=some (.pointer (some ⟨Pb,0,none⟩))/\
  (iJ st.w (gK b8 fR b16 fV Gb Pb gc lb Rb Zb cs.length l.length)).cell? ⟨b16,0,none⟩=some (.slice (some ⟨Rb,0,none⟩) l.length vY)/\
  (iJ st.w (gK b8 fR b16 fV Gb Pb gc lb Rb Zb cs.length l.length)).cell? ⟨fV,0,none⟩=some (.slice (some ⟨Zb,0,none⟩) l.length sD)/\
  (∀k,k<l.length->(iJ st.w (gK b8 fR b16 fV Gb Pb gc lb Rb Zb cs.length l.length)).cell? ⟨Rb,k,none⟩=some (.bool (rt k)))/\
  (∀k,k<l.length->(iJ st.w (gK b8 fR b16 fV Gb Pb gc lb Rb Zb cs.length l.length)).cell? ⟨Zb,k,none⟩=some (.int .u64 (zt.getD k 0))):=by
 have yf:Pb≠b8:=ey h.ow h.sN (by decide);have yg:Gb≠b8:=ey h.mV h.sN (by decide);have yh:Gb≠Pb:=ey h.mV h.ow (by decide);have xX:gc≠b8:=ey h.oQ h.sN (by decide);have rU:gc≠Pb:=ey h.oQ h.ow (by decide);have pA:gc≠Gb:=ey h.oQ h.mV (by decide);have xW:lb≠b8:=h.pO b8 (by simp);have rT:lb≠Pb:=h.pO Pb (by simp);have pz:lb≠Gb:=h.pO Gb (by simp);have rS:lb≠gc:=h.pO gc (by simp);have uy:fR≠b8:=ey h.jO h.sN (by decide);have uz:fR≠Pb:=ey h.jO h.ow (by decide);have mU:fR≠Gb:=ey h.jO h.mV (by decide);have uw:fR≠gc:=ey h.jO h.oQ (by decide);have uv:fR≠lb:=(h.pO fR (by simp)).symm;have uq:b16≠b8:=ey h.jN h.sN (by decide);have uu:b16≠Pb:=ey h.jN h.ow (by decide);have mS:b16≠Gb:=ey h.jN h.mV (by decide);have uo:b16≠gc:=ey h.jN h.oQ (by decide);have um:b16≠lb:=(h.pO b16 (by simp)).symm;have rq:b16≠fR:=ey h.jN h.jO (by decide);have uj:fV≠b8:=ey h.jM h.sN (by decide);have uk:fV≠Pb:=ey h.jM h.ow (by decide);have mR:fV≠Gb:=ey h.jM h.mV (by decide);have ui:fV≠gc:=ey h.jM h.oQ (by decide);have uh:fV≠lb:=(h.pO fV (by simp)).symm;have rf:fV≠fR:=ey h.jM h.jO (by decide);have ra:fV≠b16:=ey h.jM h.jN (by decide);have yb:Rb≠b8:=ey h.nj h.sN (by decide);have yc:Rb≠Pb:=ey h.nj h.ow (by decide);have ye:Rb≠Gb:=ey h.nj h.mV (by decide);have ya:Rb≠gc:=ey h.nj h.oQ (by decide);have x9:Rb≠lb:=(h.pO Rb (by simp)).symm;have uI:Rb≠fR:=ey h.nj h.jO (by decide);have uH:Rb≠b16:=ey h.nj h.jN (by decide);have uG:Rb≠fV:=ey h.nj h.jM (by decide);have x6:Zb≠b8:=ey h.nI h.sN (by decide);have x7:Zb≠Pb:=ey h.nI h.ow (by decide);have x8:Zb≠Gb:=ey h.nI h.mV (by decide);have xZ:Zb≠gc:=ey h.nI h.oQ (by decide);have xY:Zb≠lb:=(h.pO Zb (by simp)).symm;have uF:Zb≠fR:=ey h.nI h.jO (by decide);have uE:Zb≠b16:=ey h.nI h.jN (by decide);have uD:Zb≠fV:=ey h.nI h.jM (by decide);have pB:Zb≠Rb:=ey h.nI h.nj (by decide);have WS:gK b8 fR b16 fV Gb Pb gc lb Rb Zb cs.length l.length b8=some .all:=by unfold gK;simp[]
 have P5:gK b8 fR b16 fV Gb Pb gc lb Rb Zb cs.length l.length Pb=some (.read 3):=by unfold gK;simp[yf]
 have WV:gK b8 fR b16 fV Gb Pb gc lb Rb Zb cs.length l.length Gb=some (.read 3):=by unfold gK;simp[yg,yh]
 have WR:gK b8 fR b16 fV Gb Pb gc lb Rb Zb cs.length l.length gc=some (.read cs.length):=by unfold gK;simp[xX,rU,pA]
 have WQ:gK b8 fR b16 fV Gb Pb gc lb Rb Zb cs.length l.length lb=some (.read (3*l.length)):=by unfold gK;simp[xW,rT,pz,rS]
 have NT:gK b8 fR b16 fV Gb Pb gc lb Rb Zb cs.length l.length fR=some (.read 1):=by unfold gK;simp[uy,uz,mU,uw,uv]
 have NS:gK b8 fR b16 fV Gb Pb gc lb Rb Zb cs.length l.length b16=some (.read 1):=by unfold gK;simp[uq,uu,mS,uo,um,rq]
 have NQ:gK b8 fR b16 fV Gb Pb gc lb Rb Zb cs.length l.length fV=some (.read 1):=by unfold gK;simp[uj,uk,mR,ui,uh,rf,ra]
 have WU:gK b8 fR b16 fV Gb Pb gc lb Rb Zb cs.length l.length Rb=some (.read l.length):=by unfold gK;simp[yb,yc,ye,ya,x9,uI,uH,uG]
 have WT:gK b8 fR b16 fV Gb Pb gc lb Rb Zb cs.length l.length Zb=some (.read l.length):=by unfold gK;simp[x6,x7,x8,xZ,xY,uF,uE,uD,pB]
 have lt:∀{b:Nat} {o:Obj},st.w.heap[b]?=some o->b<(iJ st.w (gK b8 fR b16 fV Gb Pb gc lb Rb Zb cs.length l.length)).heap.size:=fun hb=>by rw[om];exact lt_of_block hb
 obtain⟨p1,p2,p3,p4⟩:=h.IM;obtain⟨G1,G2,G3,G4,-,-⟩:=h.ZP;refine⟨⟨⟨?_,?_,?_⟩,lt h.ow,⟨gF l,some ⟨lb,0,none⟩,l.length,rfl,aH _,fun hl=>⟨lb,0,rfl,lt h.Vx,fun i u hu=>?_⟩⟩,⟨gc,ji,?_,lt h.mV,lt h.oQ,fun hc=>?_⟩⟩,EL WS h.sN,?_,?_,?_,fun k hk=>?_,fun k hk=>?_⟩
 ·rw[h.cell P5 h.ow (by omega) (by omega)];exact p2
 ·rw[h.cell P5 h.ow (by omega) (by omega)];exact p3
 ·rw[h.cell P5 h.ow (by omega) (by omega)];exact p4
 ·have:i<3*l.length:=by have:=gF l;have:=(List.getElem?_eq_some_iff.1 hu).1;omega
  rw[cZ,h.cell WQ h.Vx this h.CJ.1];exact h.CJ.2 i u this hu
 ·rw[h.cell WV h.mV (by omega) G1];exact G4
 ·rw[h.cell WR h.oQ hc h.gcl.1];exact h.gcl.2 0 hc
 ·rw[h.cell NT h.jO (by omega) (by simp)];rfl
 ·rw[h.cell NS h.jN (by omega) (by simp)];rfl
 ·rw[h.cell NQ h.jM (by omega) (by simp)];rfl
 ·rw[h.cell WU h.nj hk (cP h.M0.1.symm)];exact h.M0.2 k hk
 ·rw[h.cell WT h.nI hk (cP h.Mu.1.symm)];exact h.Mu.2 k hk
theorem U0{b:Nat}(h:gK b8 fR b16 fV Gb Pb gc lb Rb Zb cs.length l.length b=some .all):b=b8:=by
 unfold gK at h;repeat' split at h
 all_goals first|assumption|(cases h;done)|skip
structure a00(md:Nat->Option Md)(st:St eH)(l:List Cm)(cs:List Int)(msg:ByteArray)(rt:Nat->Bool)(zt:List Int)(b8 fR b16 fV Gb Pb lb Rb Zb vY sD:Nat):Prop where
 pk:Rf (iJ st.w md) Pb Gb (.slice (some ⟨lb,0,none⟩) l.length l.length) cs l msg
 b8:fF (iJ st.w md) b8 47 #[.int .u64 0,.int .u64 0]
 fR:(iJ st.w md).cell? ⟨fR,0,none⟩=some (.pointer (some ⟨Pb,0,none⟩))
 b16:(iJ st.w md).cell? ⟨b16,0,none⟩=some (.slice (some ⟨Rb,0,none⟩) l.length vY)
 fV:(iJ st.w md).cell? ⟨fV,0,none⟩=some (.slice (some ⟨Zb,0,none⟩) l.length sD)
 rb:∀k,k<l.length->(iJ st.w md).cell? ⟨Rb,k,none⟩=some (.bool (rt k))
 zb:∀k,k<l.length->(iJ st.w md).cell? ⟨Zb,k,none⟩=some (.int .u64 (zt.getD k 0))
theorem tM.md(h:tM q st cs l msg r rt zt T b8 fR b16 fV Gb Pb gc lb Rb Zb ji vY sD CG Cg CP Cl CR CZ g0 g1 eL):∃md,AR (fun f=>aS f=true) (zi md) (nH Ha (agU b8 fR b16 fV r)) (nH Ha T)/\yH q aS md st/\a00 md st l cs msg rt zt b8 fR b16 fV Gb Pb lb Rb Zb vY sD/\∀b,md b=some .all->b=b8:=
 let⟨p1,p2,p3,p4,p5,p6,p7⟩:=h.pkw
 ⟨_,h.ar,h.sees,⟨p1,p2,p3,p4,p5,p6,p7⟩,fun b hb=>U0 hb⟩
end
section
variable{q:iU}(hP:q.P=dS){num:Nat}{K:List (Nat×Obj)}{cs:List Int}{l:List Cm}{msg:ByteArray}{r:Int}{rt:Nat->Bool}{zt:List Int}{T:Array af}{b8 fR b16 fV Gb Pb gc lb Rb Zb ji vY sD:Nat}{CG Cg CP Cl CR CZ:Array af}{g0 g1:af}{eL:aj}
include hP
theorem ac9{st:St eH}(hA:kH 0 num K st)(hI:Inv q st)(h:tM q st cs l msg r rt zt T b8 fR b16 fV Gb Pb gc lb Rb Zb ji vY sD CG Cg CP Cl CR CZ g0 g1 eL)(hK:∀b o,(b,o)∈K->b≠b8){c:ai}{bs:List ai}{Ch:Nat->ah->St eH->Prop}
  (fin:∀v st',yK r zt (fT rt l l.length) num K v st'->Inv q st'->TT (cfg q) 0 Ch (G (c.finish v) bs) st'):
  TT (cfg q) 0 Ch (G ((base 27).at ⟨T,[]⟩ [.code xq]) (c::bs)) st:=by
 have hfn:Try.prog.funcs[(base 27).fn]?=some Try.f27:=Try.func27;obtain⟨md,har,yq,bj4,hall⟩:=h.md;have hmk:Sh q aS Ha (tQ md) (·=b8) st (fun a w=>a=⟨agU b8 fR b16 fV r,[]⟩/\∃τ d,w=World.on (iJ st.w md) τ d) ⟨T,[]⟩ st:=Sh.make (a:=⟨agU b8 fR b16 fV r,[]⟩) (a':=⟨T,[]⟩) yq hI hall har rfl rfl ⟨rfl,st.w.tape,st.w.drawn,rfl⟩;refine TT.piece (N:=fun _ _=>False) (R:=fun a w=>∃v,(bT Try.f27 a.tmps).run dS w=.ok v w/\KA r zt (fT rt l l.length) (iJ st.w md) v w) hP OW hI QK rfl Kw hmk ?_ ?_ ?_
 ·rintro a w τ d ⟨rfl,FM,d',rfl⟩;obtain⟨q1,q2,q3,q4,q5,q6,q7⟩:=bj4;have q0:Rf (World.on (iJ st.w md) τ d) Pb Gb (.slice (some ⟨lb,0,none⟩) l.length l.length) cs l msg:=⟨q1.cells,q1.lt,q1.ja,q1.key⟩;refine Code.wp_mono ?_ (aG2 (w:=World.on (iJ st.w md) τ d) (n:=l.length) (zt:=zt) (rt:=rt) (r:=r) q0 rfl h.l9 h.zl q2 q3 q4 q5 q6 ⟨some ⟨Zb,0,none⟩,sD,?_,?_,fun hl=>⟨Zb,0,rfl,?_,fun i hi=>?_⟩⟩)
  ·rintro e a w' ⟨h1,h2,v,h3,h4⟩;exact .inr ⟨h1,h2,v,h3,h4⟩
  ·rw[h.zl]
  ·rw[h.zl];exact h.cz
  ·show Zb<(iJ st.w md).heap.size;rw[om];exact lt_of_block h.nI
  ·rw[cZ];exact q7 i (by rw[<-h.zl];exact hi)
 ·rintro a2 st' ⟨_,_,_,_,_,_,_,_,_,_,_,hF⟩;exact hF.elim
 ·intro a2 st' todo hs;refine TT.ret hP OW hI rfl hfn (Kw _ hfn) hs fun v v' ρ s Vn hH hV hv hR=>?_;obtain⟨τ,d,hR⟩:=hR;have hA2:kH 0 num K Vn:=hA.mn hV.2.2.2.1 hK;rcases hR with⟨h0,rfl⟩|⟨h0,W,rfl,hown⟩
  ·have hv':=VR.same (ρ:=fun _=>none) (ρ':=ρ) (fun b c x=>by cases x) (fun b c x=>by cases x) (og 4 _ (by simp[jk])) (mF 4 _ (by simp[fJ])) hv;subst hv';exact fin _ Vn (.inl ⟨h0,rfl,hA2⟩) hV.2.1
  ·obtain⟨o1,o2⟩:=hown;rcases o2 with⟨-,o2⟩|⟨g,cap,cur,rfl,o3,o4,o5,o6,o7,o8⟩
   ·exact absurd (List.length_eq_zero_iff.1 o2) h0
   have hsz:st.w.heap.size<=g:=by rw[om]at o3;exact o3
   have hrg:tQ md g=.all:=by
    unfold tQ;cases hm:md g with
    |none=>rfl
    |some m=>
     obtain⟨-,-,C,e,fz,hb,-⟩:=yq g m hm;have:=lt_of_block hb
     omega
   obtain⟨c',C',e1,e2,e3⟩:=hH.mK hrg o4;obtain⟨f1,f2,f3⟩:=jv hV e1 hrg hsz;have hv2:v'=.tuple #[.agg #[.int .u64 0,.int .u64 0],.slice (some ⟨c',0,none⟩) (fT rt l l.length).length cap,.int .i64 14]:=by
    cases hv with
    | @tuple _ x' hx h1=>
     have hz:x'.size=3:=by simpa using hx.symm
     have x0:=h1 0 _ (x'[0]'(by omega)) rfl (aI (by omega));have x1:=h1 1 _ (x'[1]'(by omega)) rfl (aI (by omega));have x2:=h1 2 _ (x'[2]'(by omega)) rfl (aI (by omega));have y0:=VR.same (ρ:=fun _=>none) (ρ':=ρ) (fun b c x=>by cases x) (fun b c x=>by cases x) (og 4 _ (by simp[jk])) (mF 4 _ (by simp[fJ])) x0;have y2:=VR.same (ρ:=fun _=>none) (ρ':=ρ) (fun b c x=>by cases x) (fun b c x=>by cases x) (og 4 _ (by simp[jk])) (mF 4 _ (by simp[fJ])) x2;obtain⟨c2,z1,z2⟩:=x1.yQ;rw[e1]at z1;cases z1;refine congrArg Value.tuple (Array.ext hz fun i i1 i2=>?_);have:i<3:=by simpa using i2
     match i,this with
     |0,_=>exact y0
     |1,_=>exact z2
     |2,_=>exact y2
   subst hv2;have hnew:kH 0 num ((c',.cells C' 3 (0,0))::K) Vn:=hA2.more e2 (.inl fun off=>f2 _ rfl rfl) f3;refine fin _ Vn (.inr ⟨h0,c',cap,C',rfl,hnew,o5,?_,fun j hj=>?_⟩) hV.2.1
   ·rw[<-e3.1,o7];omega
   ·have GJ:cur[j]?=some (.int .i64 ((fT rt l l.length).getD j 0)):=by
     have h1:(cur.toList.take ((fT rt l l.length).length*1))[j]?=cur[j]?:=by
      rw[List.getElem?_take,if_pos (by omega),Array.getElem?_toList]
     rw[o8]at h1;rw[<-h1,List.getElem?_map,aN hj];simp[List.getD_eq_getElem?_getD,hj]
    obtain⟨v2,h1,h2⟩:=e3.get GJ;rw[h1];cases h2;rfl
end
end
end Cc
namespace Cc
open Go.Conc Go.ConcN Go.ConcM Go.RowKit Go.Conc.Lib Go.ConcR.Gen
open Go.ConcR (KK wgBlock WgAt stA smA rd wr mk DC0)
section
theorem qZ:(Try.f91.name== "runtime.NumGoroutine")=false:=by kernel_rfl
theorem rE:Try.f91.body.isNone=true:=by kernel_rfl
theorem qQ:bR Try.f91=none:=by kernel_rfl
theorem f_disable:cW Try.f91=some (fun _=>do mark .disable;pure Extern.Race.none_):=by kernel_rfl
theorem jq:(Try.f92.name== "runtime.NumGoroutine")=false:=by kernel_rfl
theorem jy:Try.f92.body.isNone=true:=by kernel_rfl
theorem jm:bR Try.f92=none:=by kernel_rfl
theorem f_enable:cW Try.f92=some (fun _=>do mark .enable;pure Extern.Race.none_):=by kernel_rfl
theorem Nz:(Try.f105.name== "runtime.NumGoroutine")=false:=by kernel_rfl
theorem OO:Try.f105.body.isNone=true:=by kernel_rfl
theorem Mx:bR Try.f105=none:=by kernel_rfl
theorem Ot:cW Try.f105=some (Extern.Race.marked .acquire):=by kernel_rfl
theorem Y7:(Try.f90.name== "runtime.NumGoroutine")=false:=by kernel_rfl
theorem Z4:Try.f90.body.isNone=true:=by kernel_rfl
theorem YD:bR Try.f90=none:=by kernel_rfl
theorem ZT:cW Try.f90=some (Extern.Race.marked .releaseMerge):=by kernel_rfl
theorem jD:(Try.f132.name== "runtime.NumGoroutine")=false:=by kernel_rfl
theorem jF:Try.f132.body.isNone=true:=by kernel_rfl
theorem jC:bR Try.f132=none:=by kernel_rfl
theorem jE:cW Try.f132=some (Extern.Atomic.casT (.int .i32)):=by kernel_rfl
theorem Cz:(Try.f134.name== "runtime.NumGoroutine")=false:=by kernel_rfl
theorem Dz:Try.f134.body.isNone=true:=by kernel_rfl
theorem BN:bR Try.f134=none:=by kernel_rfl
theorem f_add:cW Try.f134=some (Extern.Atomic.update (Op.intArith .add) .i32 true):=by kernel_rfl
theorem y7:(Try.f139.name== "runtime.NumGoroutine")=false:=by kernel_rfl
theorem zB:Try.f139.body.isNone=true:=by kernel_rfl
theorem yN:bR Try.f139=none:=by kernel_rfl
theorem zq:cW Try.f139=some (Extern.Sync.canSpin):=by kernel_rfl
theorem PY:(Try.f140.name== "runtime.NumGoroutine")=false:=by kernel_rfl
theorem QG:Try.f140.body.isNone=true:=by kernel_rfl
theorem O4:bR Try.f140=none:=by kernel_rfl
theorem Qp:cW Try.f140=some (fun _=>pure (.tuple #[])):=by kernel_rfl
theorem LD:(Try.f142.name== "runtime.NumGoroutine")=false:=by kernel_rfl
theorem Mg:Try.f142.body.isNone=true:=by kernel_rfl
theorem KU:bR Try.f142=none:=by kernel_rfl
theorem L4:cW Try.f142=some (Extern.OsHooks.nano):=by kernel_rfl
theorem Lg:Try.f142.norace=true:=by kernel_rfl
theorem Y6:(Try.f143.name== "runtime.NumGoroutine")=false:=by kernel_rfl
theorem Z2:Try.f143.body.isNone=true:=by kernel_rfl
theorem YC:bR Try.f143=none:=by kernel_rfl
theorem ZR:cW Try.f143=some (Extern.Sync.semacquire):=by kernel_rfl
theorem SS:(Try.f145.name== "runtime.NumGoroutine")=false:=by kernel_rfl
theorem G0:Try.f145.body.isNone=true:=by kernel_rfl
theorem Rm:bR Try.f145=none:=by kernel_rfl
theorem Ul:cW Try.f145=some (Extern.Sync.semrelease):=by kernel_rfl
theorem aj8:(Try.f133.name== "runtime.NumGoroutine")=false:=by kernel_rfl
theorem Nj:(Try.f135.name== "runtime.NumGoroutine")=false:=by kernel_rfl
theorem WL:(Try.f119.name== "runtime.NumGoroutine")=false:=by kernel_rfl
theorem PX:(Try.f120.name== "runtime.NumGoroutine")=false:=by kernel_rfl
theorem jz:(Try.prog.funcs[(base 133).fn]?).any (·.norace)=true:=by kernel_rfl
theorem Wi:(Try.prog.funcs[(base 135).fn]?).any (·.norace)=true:=by kernel_rfl
theorem Py:(Try.prog.funcs[(base 120).fn]?).any (·.norace)=true:=by kernel_rfl
theorem Rz:Try.prog.underlying 215=some (.pointer 130):=by kernel_rfl
theorem ab1:(Try.prog.info? 130).map (fun i=>decide (i.size=0))=some false:=by kernel_rfl
section
variable{main:Bool}{b:ai}{a:Act}{kk:List Item}{cs:List ai}{w:ae}{ops:Array Oper}{i:Nat}{rest:List Nat}{o:Oper}
theorem fD{x:Operand}(ho:ops[i]?=some o)(hw:Region.wanted o (yielded ops a.tmps)=true)(hk:b.kind≠ .early)(hop:o.op=.load 21 x)
  {ad:Addr}{v:Int}(hx:a.eval x=.pointer (some ad))(hc:w.cell? ad=some (.int .i32 v))(hq:(Try.prog.funcs[b.fn]?).any (·.norace)=true):
  stepG dS main (G (b.at a (.inRegion ops (i::rest)::kk)) cs) w=.go (G (b.at (a.put o.dst (.int .i32 v)) (.inRegion ops rest::kk)) cs) w #[]:=by
 have hr:(ax a.eval o).run dS w=.ok (.value (.int .i32 v)) w:=by
  unfold ax;simp only[hop,hx];simp[go_sem,hc]
 have he:(ax a.eval o).events dS w #[]=#[⟨.cell ad,false,false⟩]:=by
  unfold ax;simp only[hop,hx];simp[go_sem,hc]
 rw[stepG_value ho hw hk hr];unfold listed;rw[he,seen_def,hq];simp[seenStep]
end
end
section
def iX:Code->Option Code
 |.loop c=>some c
 |.seq x y=>match iX x with|some c=>some c|none=>iX y
 |.block _ c=>iX c
 |_=>none
def mZ:Code->Option Code
 |.seq (.block _ _) r=>some r
 |.seq _ y=>mZ y
 |_=>none
def Fh(t:Nat):Code->Option Code
 |.cond (.tmp u) a b=>if u=t then some a else(match Fh t a with|some c=>some c|none=>Fh t b)
 |.cond _ a b=>match Fh t a with|some c=>some c|none=>Fh t b
 |.seq a b=>match Fh t a with|some c=>some c|none=>Fh t b
 |.loop a=>Fh t a
 |.block _ a=>Fh t a
 |_=>none
def rL:Code->Code
 |.seq _ b=>b
 |c=>c
noncomputable def iz:Code:=Try.f133.body.getD .skip
noncomputable def ia:Code:=(iX iz).getD .skip
noncomputable def gY:Code:=(mZ iz).getD .skip
noncomputable def xL:Code:=rL ((Fh 80 iz).getD .skip)
noncomputable def xK:Code:=rL (rL xL)
noncomputable def wj:Code:=rL xK
noncomputable def zI:Code:=rL wj
section
variable{q:iU}{i:Nat}{s:eJ}{x:Wk}{Ch:Nat->ah->St eH->Prop}
variable{b₁:ai}{a₁:Act}{eB:Array Oper}{fE:Nat}{ez:List Nat}{k₁:List Item}{cs₁:List ai}
structure Rd(s:eJ)(st:St eH)(pr l w z N:Nat):Prop where
 le:phi st.γ s<=pr
 eq:phi st.γ s=pr->st.γ.L=l/\st.γ.W=w/\st.γ.S=z/\st.γ.N=N
 l1:l<=1
 w1:w<=1
 z1:z<=1
 n9:N<=9
theorem Rd.later{s:eJ}{st dV:St eH}{pr l w z N:Nat}(h:Rd s st pr l w z N)(h1:phi dV.γ s<=phi st.γ s)(h2:phi dV.γ s=phi st.γ s->dV.γ.L=st.γ.L/\dV.γ.W=st.γ.W/\dV.γ.S=st.γ.S/\dV.γ.N=st.γ.N):Rd s dV pr l w z N:=by
 refine⟨Nat.le_trans h1 h.le,fun e=>?_,h.l1,h.w1,h.z1,h.n9⟩;have hle:=h.le;obtain⟨a,b,c,d⟩:=h2 (by omega);obtain⟨a',b',c',d'⟩:=h.eq (by omega);exact⟨a.trans a',b.trans b',c.trans c',d.trans d'⟩
theorem jS.nine{m:Nat->MX}{a n L W S N tn th:Nat}(h:jS m a n L W S N tn th)(hn:n<=9):N<=9/\tn+th<=10:=by
 have hq:=h.que;have hb:=h.bd;have hw:=h.wok;have hs:=h.st;have:cnt MX.vB m a n+cnt MX.jA m a n<=n:=by
  unfold cnt;have e1:∀l:List Nat,l.countP (fun k=>MX.vB (m (a+k)))+l.countP (fun k=>MX.jA (m (a+k)))<=l.length:=by
   intro l;induction l with
   |nil=>simp
   |cons k l ih=>
    rw[List.countP_cons,List.countP_cons,List.length_cons];have hd:¬(MX.vB (m (a+k))=true/\MX.jA (m (a+k))=true):=by cases m (a+k)<;>simp[MX.vB,MX.jA]
    generalize List.countP (fun k=>MX.vB (m (a+k))) l=u at ih ⊢;generalize List.countP (fun k=>MX.jA (m (a+k))) l=v at ih ⊢;rcases Bool.eq_false_or_eq_true (MX.vB (m (a+k)))with c1|c1<;>rcases Bool.eq_false_or_eq_true (MX.jA (m (a+k)))with c2|c2
    ·exact absurd ⟨c1,c2⟩ hd
    all_goals simp only[c1,c2,Bool.false_eq_true,↓reduceIte];omega
  have:=e1 (List.range n)
  simpa using this
 omega
theorem Rd.now{st:St eH}(h:gL q s st):Rd s st (phi st.γ s) st.γ.L st.γ.W st.γ.S st.γ.N:=
 ⟨aH _,fun _=>⟨rfl,rfl,rfl,rfl⟩,h.mu.bd.1,h.mu.bd.2.1,h.mu.bd.2.2,(h.mu.nine h.n0.2.2.2).1⟩
def Hi(q:iU)(i:Nat)(Ch:Nat->ah->St eH->Prop)(s:eJ)(b₁:ai)(a₁:Act)(eB:Array Oper)(fE:Nat)(ez:List Nat)(k₁:List Item)(cs₁:List ai)(aw sv:Bool)(it nW old:Int)(st:St eH):Prop:=
 ∀(j1 j7 j8 j9 j10 j11 j12 j13 tI tH tF tE vA pE pD tD tC tB tA tz tv tq tj s7 sZ sY sX sW sV sU sS sQ sP sO zg zf ze Bx Bv Bu Bt Br Bq Bp Bo Bn Bl Bj Bi Bh Bg Bf Be Bc Bb Ba A9 A8 A7 A6 A0 AZ AY AX AW AV AU vz vw vv vt vq vp vo AQ AP AO AL Eo En Em El Ek Ej Ei Eh Eg Ef Ee Ed Ec Eb Ea D9 qJ qI qH qG qF qE qD qC qB qA qz qy qx qw qu qp qo qm ql qj qi qh qg qf qd qc qb p9 pZ pY pX pW pV pU pT pS pR pQ pP:af),TT (cfg q) i Ch (G ((base 133).at ⟨#[.pointer (some ⟨s.Gb,4,none⟩),j1,.int .i64 nW,.bool sv,.bool aw,.int .i64 it,.int .i32 old,j7,j8,j9,j10,j11,j12,j13,tI,tH,tF,tE,vA,pE,pD,tD,tC,tB,tA,tz,tv,tq,tj,s7,sZ,sY,sX,sW,sV,sU,sS,sQ,sP,sO,zg,zf,ze,Bx,Bv,Bu,Bt,Br,Bq,Bp,Bo,Bn,Bl,Bj,Bi,Bh,Bg,Bf,Be,Bc,Bb,Ba,A9,A8,A7,A6,A0,AZ,AY,AX,AW,AV,AU,vz,vw,vv,vt,vq,vp,vo,AQ,AP,AO,AL,Eo,En,Em,El,Ek,Ej,Ei,Eh,Eg,Ef,Ee,Ed,Ec,Eb,Ea,D9,qJ,qI,qH,qG,qF,qE,qD,qC,qB,qA,qz,qy,qx,qw,qu,qp,qo,qm,ql,qj,qi,qh,qg,qf,qd,qc,qb,p9,pZ,pY,pX,pW,pV,pU,pT,pS,pR,pQ,pP],[]⟩ [.code ia,.inLoop ia,.inBlock 0,.code gY]) (b₁.at a₁ (.inRegion eB (fE::ez)::k₁)::cs₁)) st
def Rh(q:iU)(i:Nat)(Ch:Nat->ah->St eH->Prop)(s:eJ)(x:Wk)(b₁:ai)(a₁:Act)(eB:Array Oper)(fE:Nat)(ez:List Nat)(k₁:List Item)(cs₁:List ai)(μ:Nat):Prop:=
 ∀(pr:Nat) (it:Int) (aw sv:Bool) (nW:Int) (l w z N:Nat) (st:St eH),5*pr+(4-it).toNat=μ->0<=it->it<=4->At s i {x with mx:=.cont aw,df:=1} st->Inv q st->Rd s st pr l w z N->(aw=true->w=1/\z=0)->(aw=false->sv=false)->Hi q i Ch s b₁ a₁ eB fE ez k₁ cs₁ aw sv it nW (enc l w z N) st
def KG(q:iU)(i:Nat)(Ch:Nat->ah->St eH->Prop)(s:eJ)(x:Wk)(b₁:ai)(a₁:Act)(eB:Array Oper)(fE:Nat)(ez:List Nat)(k₁:List Item)(cs₁:List ai):Prop:=
 ∀st:St eH,At s i {x with mx:=.own .xC,df:=0} st->Inv q st->TT (cfg q) i Ch (G (b₁.at (a₁.put ((eB[fE]?).bind (·.dst)) (.tuple #[])) (.inRegion eB ez::k₁)) cs₁) st
end
end
section
section
variable{q:iU}(hP:q.P=dS){i:Nat}{s:eJ}{x:Wk}{Ch:Nat->ah->St eH->Prop}
variable{b₁:ai}{a₁:Act}{eB:Array Oper}{fE:Nat}{ez:List Nat}{k₁:List Item}{cs₁:List ai}
include hP
theorem ot(hx:x.wg=.work)(hT:KG q i Ch s x b₁ a₁ eB fE ez k₁ cs₁){st:St eH}(eu:At s i {x with mx:=.own .xC,df:=1} st)(j1 j2 j3 j4 j5 j6 j7 j8 j9 j10 j11 j12 j13 tI tH tF tE vA pE pD tD tC tB tA tz tv tq tj s7 sZ sY sX sW sV sU sS sQ sP sO zg zf ze Bx Bv Bu Bt Br Bq Bp Bo Bn Bl Bj Bi Bh Bg Bf Be Bc Bb Ba A9 A8 A7 A6 A0 AZ AY AX AW AV AU vz vw vv vt vq vp vo AQ AP AO AL Eo En Em El Ek Ej Ei Eh Eg Ef Ee Ed Ec Eb Ea D9 qJ qI qH qG qF qE qD qC qB qA qz qy qx qw qu qp qo qm ql qj qi qh qg qf qd qc qb p9 pZ pY pX pW pV pU pT pS pR pQ pP:af):
  TT (cfg q) i Ch (G ((base 133).at ⟨#[.pointer (some ⟨s.Gb,4,none⟩),j1,j2,j3,j4,j5,j6,j7,j8,j9,j10,j11,j12,j13,tI,tH,tF,tE,vA,pE,pD,tD,tC,tB,tA,tz,tv,tq,tj,s7,sZ,sY,sX,sW,sV,sU,sS,sQ,sP,sO,zg,zf,ze,Bx,Bv,Bu,Bt,Br,Bq,Bp,Bo,Bn,Bl,Bj,Bi,Bh,Bg,Bf,Be,Bc,Bb,Ba,A9,A8,A7,A6,A0,AZ,AY,AX,AW,AV,AU,vz,vw,vv,vt,vq,vp,vo,AQ,AP,AO,AL,Eo,En,Em,El,Ek,Ej,Ei,Eh,Eg,Ef,Ee,Ed,Ec,Eb,Ea,D9,qJ,qI,qH,qG,qF,qE,qD,qC,qB,qA,qz,qy,qx,qw,qu,qp,qo,qm,ql,qj,qi,qh,qg,qf,qd,qc,qb,p9,pZ,pY,pX,pW,pV,pU,pT,pS,pR,pQ,pP],[]⟩ [.code gY]) (b₁.at a₁ (.inRegion eB (fE::ez)::k₁)::cs₁)) st:=by
 simp only[xL,xK,wj,zI,rL,Fh,ia,gY,iz,iX,mZ,Try.f133,aJ,Nat.reduceEqDiff,↓reduceIte];refine TT.road hP eu (by simp[hx]) 60 fun w₀ hF=>?_;repeat w_go dW
 refine stp rfl ?_;clear hF w₀;refine TT.lR hP eu hx rfl (by simp) fun fw eK fu eV=>⟨_,_,_,0,stepG_mark0 .enable (by simp) rfl rfl (by k_ne) rfl Try.func92 jq jy jm f_enable,rfl,Fv 0,rfl,eW.refl _,oK .enable (by simp),fun fI eF fO _ _ _ _=>?_⟩;clear eV eK fu;refine TT.road hP eF (by simp[hx]) 60 fun w₀ hF=>?_;walk_nrm;repeat w_go dW
 m_convG dS Try.underlying174 Rz ab1 hF.choose_spec dW hF
 refine stp rfl ?_;clear hF w₀;refine TT.lR hP eF hx rfl (by simp) fun eT fe gg fx=>⟨_,_,_,0,stepG_markAt .acquire (by simp) rfl rfl (by k_ne) rfl Try.func105 Nz OO Mx Ot (by simp[Act.eval];rfl),rfl,Uz _ _ (by simp),rfl,eW.refl _,oK _ (by simp),fun gU eZ gD _ _ _ _=>?_⟩;clear fx fe gg;refine TT.road hP eZ (by simp[hx]) 60 fun w₀ hF=>?_;walk_nrm;repeat w_go dW
 u_leave0 Try.func133 dW hF
 refine stp rfl ?_;exact hT gU eZ gD
end
end
section
section
variable{q:iU}(hP:q.P=dS){i:Nat}{s:eJ}{x:Wk}{Ch:Nat->ah->St eH->Prop}
variable{b₁:ai}{a₁:Act}{eB:Array Oper}{fE:Nat}{ez:List Nat}{k₁:List Item}{cs₁:List ai}
include hP
theorem aW3(hx:x.wg=.work)(hT:KG q i Ch s x b₁ a₁ eB fE ez k₁ cs₁){μ:Nat}(ih:∀nA,nA<μ->Rh q i Ch s x b₁ a₁ eB fE ez k₁ cs₁ nA){pr:Nat}{it nW:Int}{w N:Nat}{st:St eH}(h0:0<=it)(h4':it<=4)(hμ:5*pr+(4-it).toNat=μ)(hA:At s i {x with mx:=.cont false,df:=1} st)(hI:Inv q st)(hR:Rd s st pr 0 w 0 N):
  Hi q i Ch s b₁ a₁ eB fE ez k₁ cs₁ false false it nW (enc 0 w 0 N) st:=by
 have h5:bits aZ aK (enc 0 w 0 N) 5=0:=uU 0 w 0 N (by omega) hR.w1 (by omega) (by have:=hR.n9;omega);have h4:bits aZ aK (enc 0 w 0 N) 4=0:=mJ 0 w 0 N (by omega) hR.w1 (by omega) (by have:=hR.n9;omega);have o1:bits BinOp.or aK (enc 0 w 0 N) 1=enc 1 w 0 N:=Fl 0 w 0 N (by omega) hR.w1 (by omega) (by have:=hR.n9;omega);intro j1 j7 j8 j9 j10 j11 j12 j13 tI tH tF tE vA pE pD tD tC tB tA tz tv tq tj s7 sZ sY sX sW sV sU sS sQ sP sO zg zf ze Bx Bv Bu Bt Br Bq Bp Bo Bn Bl Bj Bi Bh Bg Bf Be Bc Bb Ba A9 A8 A7 A6 A0 AZ AY AX AW AV AU vz vw vv vt vq vp vo AQ AP AO AL Eo En Em El Ek Ej Ei Eh Eg Ef Ee Ed Ec Eb Ea D9 qJ qI qH qG qF qE qD qC qB qA qz qy qx qw qu qp qo qm ql qj qi qh qg qf qd qc qb p9 pZ pY pX pW pV pU pT pS pR pQ pP;simp only[ia,gY,iz,iX,mZ,Try.f133,aJ];refine TT.road hP hA (by simp[hx]) 140 fun w₀ hF=>?_;repeat w_go dW
 refine stp rfl ?_;clear hF w₀;refine TT.mu hP hA hx (mx:=.cont false) rfl (by simp) fun dV dY eQ eo p1 p2 p3 p4=>?_;have fB:=hR.later p1 p2;by_cases hit:enc dV.γ.L dV.γ.W dV.γ.S dV.γ.N=enc 0 w 0 N
 ·obtain⟨e1,e2,e3,e4⟩:=kE hit eo.mu.bd ⟨by omega,hR.w1,by omega⟩;refine⟨_,_,_,.own .xC,1,1,dV.γ.W-Bool.toNat false,dV.γ.S,dV.γ.N,dV.γ.tn,dV.γ.th,stepG_cas_hit rfl rfl (by k_ne) rfl Try.func132 jD jF jC .i32 jE rfl rfl rfl (hit ▸ eo.gb.cell.2.1) (eo.gb.cell.2.2.2 4),rfl,lq _ _,by simp,by simp,eo.mu.take dY.lo (dY.hi eQ) false (fX dY) ⟨e1,e3⟩,eo.gb.swap rfl (by rw[e2,e3,e4];rfl),eW.set _ 4 _ (by omega),.inl (by simp[kP]),.inl nle,jB 4 (.inl rfl),.inr nle,fun dZ eu eN _ _ _ _=>?_⟩;clear hit fB eo dY eQ;refine TT.road hP eu (by simp[hx]) 60 fun w₀ hF=>?_;walk_nrm;repeat w_but "code.exit" dW
  w_go dW
  refine stp rfl ?_;exact ot hP hx hT eu ..
 ·refine⟨_,_,_,.cont false,1,dV.γ.L,dV.γ.W,dV.γ.S,dV.γ.N,dV.γ.tn,dV.γ.th,stepG_cas_miss rfl rfl (by k_ne) rfl Try.func132 jD jF jC .i32 jE rfl rfl rfl eo.gb.cell.2.1 (eo.gb.cell.2.2.2 4) hit,rfl,uV _ _,by simp,by simp,jS.still eo dY rfl,eo.gb.stay rfl rfl,eW.refl _,.inr ⟨rfl,rfl,rfl,rfl,rfl⟩,.inl nle,oJ 4 (by omega),.inr nle,fun dZ eu eN _ w₂ _ f₂=>?_⟩;have hlt:phi dZ.γ s<pr:=by
   refine Nat.lt_of_le_of_ne (by have:=fB.le;omega) fun e=>hit ?_;obtain⟨a,b,c,d⟩:=fB.eq (by omega);rw[a,b,c,d]
  clear hit fB eo dY eQ;refine TT.road hP eu (by simp[hx]) 60 fun w₀ hF=>?_;walk_nrm;repeat w_go dW
  refine stp rfl ?_;clear hF w₀;refine TT.lR hP eu hx rfl (by simp) fun fw eK fu eV=>⟨_,_,_,1,fD rfl rfl (by k_ne) rfl rfl eV.gb.cell.2.1 jz,rfl,rfl,rfl,eW.refl _,gj,fun fI eF fO _ w₄ jH _=>?_⟩;have jd:=Rd.now (fO.eX s eF.sc).c;rw[w₄.1,w₄.2.1,w₄.2.2.1,w₄.2.2.2]at jd;clear eV eK fu;refine TT.road hP eF (by simp[hx]) 60 fun w₀ hF=>?_;walk_nrm;repeat w_nl dW
  u_c stepG_inLoop dW hF
  refine stp rfl ?_;exact ih _ (by omega) _ it false false nW _ _ _ _ fI rfl h0 h4' eF fO jd (by simp) (by simp) ..
end
end
section
section
variable{q:iU}(hP:q.P=dS){i:Nat}{s:eJ}{x:Wk}{Ch:Nat->ah->St eH->Prop}
variable{b₁:ai}{a₁:Act}{eB:Array Oper}{fE:Nat}{ez:List Nat}{k₁:List Item}{cs₁:List ai}
include hP
theorem aF3(hx:x.wg=.work)(hT:KG q i Ch s x b₁ a₁ eB fE ez k₁ cs₁){pr:Nat}(ih:∀nA,nA<5*pr->Rh q i Ch s x b₁ a₁ eB fE ez k₁ cs₁ nA){sv:Bool}{nW:Int}{st:St eH}(hA:At s i {x with mx:=.woken false,df:=1} st)(hI:Inv q st)(hp:phi st.γ s<pr)(j1 j4 j5 j6 j7 j8 j9 j10 j11 j12 j13 tI tH tF tE vA pE pD tD tC tB tA tz tv tq tj s7 sZ sY sX sW sV sU sS sQ sP sO zg zf ze Bx Bv Bu Bt Br Bq Bp Bo Bn Bl Bj Bi Bh Bg Bf Be Bc Bb Ba A9 A8 A7 A6 A0 AZ AY AX AW AV AU vz vw vv vt vq vp vo AQ AP AO AL Eo En Em El Ek Ej Ei Eh Eg Ef Ee Ed Ec Eb Ea D9 qJ qI qH qG qF qE qD qC qB qA qz qy qx qw qu qp qo qm ql qj qi qh qg qf qd qc qb p9 pZ pY pX pW pV pU pT pS pR pQ pP:af):
  TT (cfg q) i Ch (G ((base 133).at ⟨#[.pointer (some ⟨s.Gb,4,none⟩),j1,.int .i64 nW,.bool sv,j4,j5,j6,j7,j8,j9,j10,j11,j12,j13,tI,tH,tF,tE,vA,pE,pD,tD,tC,tB,tA,tz,tv,tq,tj,s7,sZ,sY,sX,sW,sV,sU,sS,sQ,sP,sO,zg,zf,ze,Bx,Bv,Bu,Bt,Br,Bq,Bp,Bo,Bn,Bl,Bj,Bi,Bh,Bg,Bf,Be,Bc,Bb,Ba,A9,A8,A7,A6,A0,AZ,AY,AX,AW,AV,AU,vz,vw,vv,vt,vq,vp,vo,AQ,AP,AO,AL,Eo,En,Em,El,Ek,Ej,Ei,Eh,Eg,Ef,Ee,Ed,Ec,Eb,Ea,D9,qJ,qI,qH,qG,qF,qE,qD,qC,qB,qA,qz,qy,qx,qw,qu,qp,qo,qm,ql,qj,qi,qh,qg,qf,qd,qc,qb,p9,pZ,pY,pX,pW,pV,pU,pT,pS,pR,pQ,pP],[]⟩ [.code wj,.inBlock 1,.inLoop ia,.inBlock 0,.code gY]) (b₁.at a₁ (.inRegion eB (fE::ez)::k₁)::cs₁)) st:=by
 simp only[xL,xK,wj,zI,rL,Fh,ia,gY,iz,iX,mZ,Try.f133,aJ,Nat.reduceEqDiff,↓reduceIte];cases sv
 ·refine TT.road hP hA (by simp[hx]) 60 fun w₀ hF=>?_;repeat w_go dW
  refine stp rfl ?_;clear hF w₀;refine TT.lR hP hA hx (mx:=.woken false) rfl (by simp) fun fw eK fu eV=>⟨_,_,_,1,stepG_nanotime rfl rfl (by k_ne) rfl Try.func142 LD Mg KU L4 Lg,rfl,rfl,rfl,eW.later _,gj,fun fI eF fO _ _ jH _=>?_⟩;have Zk:phi fI.γ s<pr:=by omega
  generalize((fw.w.os.mono+fw.w.tick:Nat):Int)=tw;clear eV eK fu hA hI hp jH;refine TT.road hP eF (by simp[hx]) 60 fun w₀ hF=>?_;walk_nrm;repeat w_go dW
  refine stp rfl ?_;clear hF w₀;refine TT.mu hP eF hx (mx:=.woken false) rfl (by simp) fun eT fe gg fx q1 q2 _ _=>⟨_,_,_,.cont true,1,eT.γ.L,eT.γ.W,eT.γ.S,eT.γ.N,eT.γ.tn,eT.γ.th,fD rfl rfl (by k_ne) rfl rfl fx.gb.cell.2.1 jz,rfl,rfl,by simp,by simp,fx.mu.again fe.lo (fe.hi gg) (fX fe),fx.gb.stay rfl rfl,eW.refl _,.inl (by simp[kP]),.inl nle,gj,.inr nle,fun gU eZ gD _ w₆ _ xe=>?_⟩;obtain⟨hW,hS⟩:=fx.mu.aZ2 fe.lo (fe.hi gg) (fX fe);have ju:=Rd.now (gD.eX s eZ.sc).c;rw[w₆.1,w₆.2.1,w₆.2.2.1,w₆.2.2.2]at ju;have hn:=(fx.mu.nine fx.n0.2.2.2).1;have hl:=fx.mu.bd.1;have h4:bits aZ aK (enc eT.γ.L eT.γ.W eT.γ.S eT.γ.N) 4=0:=by rw[hS];exact mJ _ _ 0 _ hl fx.mu.bd.2.1 (by omega) (by omega)
  have aL3:phi gU.γ s<pr:=by simp only[kP]at xe;omega
  generalize ho:enc eT.γ.L eT.γ.W eT.γ.S eT.γ.N=old at h4;refine TT.road hP eZ (by simp[hx]) 60 fun w₀ hF=>?_;walk_nrm;repeat w_nl dW
  u_c stepG_inLoop dW hF
  refine stp rfl ?_;rw[<-ho];exact ih _ (by omega) _ 0 true _ _ _ _ _ _ gU rfl (by omega) (by omega) eZ gD ju (fun _=>⟨hW,hS⟩) (by simp) ..
 ·refine TT.road hP hA (by simp[hx]) 60 fun w₀ hF=>?_;repeat w_go dW
  refine stp rfl ?_;clear hF w₀;refine TT.mu hP hA hx (mx:=.woken false) rfl (by simp) fun eT fe gg fx q1 q2 _ _=>⟨_,_,_,.cont true,1,eT.γ.L,eT.γ.W,eT.γ.S,eT.γ.N,eT.γ.tn,eT.γ.th,fD rfl rfl (by k_ne) rfl rfl fx.gb.cell.2.1 jz,rfl,rfl,by simp,by simp,fx.mu.again fe.lo (fe.hi gg) (fX fe),fx.gb.stay rfl rfl,eW.refl _,.inl (by simp[kP]),.inl nle,gj,.inr nle,fun gU eZ gD _ w₆ _ xe=>?_⟩;obtain⟨hW,hS⟩:=fx.mu.aZ2 fe.lo (fe.hi gg) (fX fe);have ju:=Rd.now (gD.eX s eZ.sc).c;rw[w₆.1,w₆.2.1,w₆.2.2.1,w₆.2.2.2]at ju;have hn:=(fx.mu.nine fx.n0.2.2.2).1;have hl:=fx.mu.bd.1;have h4:bits aZ aK (enc eT.γ.L eT.γ.W eT.γ.S eT.γ.N) 4=0:=by rw[hS];exact mJ _ _ 0 _ hl fx.mu.bd.2.1 (by omega) (by omega)
  have aL3:phi gU.γ s<pr:=by simp only[kP]at xe;omega
  generalize ho:enc eT.γ.L eT.γ.W eT.γ.S eT.γ.N=old at h4;refine TT.road hP eZ (by simp[hx]) 60 fun w₀ hF=>?_;walk_nrm;repeat w_nl dW
  u_c stepG_inLoop dW hF
  refine stp rfl ?_;rw[<-ho];exact ih _ (by omega) _ 0 true _ _ _ _ _ _ gU rfl (by omega) (by omega) eZ gD ju (fun _=>⟨hW,hS⟩) (by simp) ..
end
end
section
section
variable{q:iU}(hP:q.P=dS){i:Nat}{s:eJ}{x:Wk}{Ch:Nat->ah->St eH->Prop}
variable{b₁:ai}{a₁:Act}{eB:Array Oper}{fE:Nat}{ez:List Nat}{k₁:List Item}{cs₁:List ai}
include hP
theorem Zx(hx:x.wg=.work)(hT:KG q i Ch s x b₁ a₁ eB fE ez k₁ cs₁){sv:Bool}{st:St eH}(hA:At s i {x with mx:=.woken true,df:=1} st)(j1 j2 j4 j5 j6 j7 j8 j9 j10 j11 j12 j13 tI tH tF tE vA pE pD tD tC tB tA tz tv tq tj s7 sZ sY sX sW sV sU sS sQ sP sO zg zf ze Bx Bv Bu Bt Br Bq Bp Bo Bn Bl Bj Bi Bh Bg Bf Be Bc Bb Ba A9 A8 A7 A6 A0 AZ AY AX AW AV AU vz vw vv vt vq vp vo AQ AP AO AL Eo En Em El Ek Ej Ei Eh Eg Ef Ee Ed Ec Eb Ea D9 qJ qI qH qG qF qE qD qC qB qA qz qy qx qw qu qp qo qm ql qj qi qh qg qf qd qc qb p9 pZ pY pX pW pV pU pT pS pR pQ pP:af):
  TT (cfg q) i Ch (G ((base 133).at ⟨#[.pointer (some ⟨s.Gb,4,none⟩),j1,j2,.bool sv,j4,j5,j6,j7,j8,j9,j10,j11,j12,j13,tI,tH,tF,tE,vA,pE,pD,tD,tC,tB,tA,tz,tv,tq,tj,s7,sZ,sY,sX,sW,sV,sU,sS,sQ,sP,sO,zg,zf,ze,Bx,Bv,Bu,Bt,Br,Bq,Bp,Bo,Bn,Bl,Bj,Bi,Bh,Bg,Bf,Be,Bc,Bb,Ba,A9,A8,A7,A6,A0,AZ,AY,AX,AW,AV,AU,vz,vw,vv,vt,vq,vp,vo,AQ,AP,AO,AL,Eo,En,Em,El,Ek,Ej,Ei,Eh,Eg,Ef,Ee,Ed,Ec,Eb,Ea,D9,qJ,qI,qH,qG,qF,qE,qD,qC,qB,qA,qz,qy,qx,qw,qu,qp,qo,qm,ql,qj,qi,qh,qg,qf,qd,qc,qb,p9,pZ,pY,pX,pW,pV,pU,pT,pS,pR,pQ,pP],[]⟩ [.code zI,.inBlock 1,.inLoop ia,.inBlock 0,.code gY]) (b₁.at a₁ (.inRegion eB (fE::ez)::k₁)::cs₁)) st:=by
 simp only[xL,xK,wj,zI,rL,Fh,ia,gY,iz,iX,mZ,Try.f133,aJ,Nat.reduceEqDiff,↓reduceIte];refine TT.road hP hA (by simp[hx]) 60 fun w₀ hF=>?_;repeat w_go dW
 refine stp rfl ?_;clear hF w₀;refine TT.lR hP hA hx (mx:=.woken true) rfl (by simp) fun fw eK fu eV=>⟨_,_,_,1,fD rfl rfl (by k_ne) rfl rfl eV.gb.cell.2.1 jz,rfl,rfl,rfl,eW.refl _,gj,fun fI eF fO _ w₄ _ _=>?_⟩;obtain⟨hL,hW,hS,h1⟩:=eV.mu.UU eK.lo (eK.hi fu) (fX eK);have n4:fI.γ.N=fw.γ.N:=w₄.2.2.2;have hn:=(eV.mu.nine eV.n0.2.2.2).1;generalize fw.γ.N=nT at n4 h1 hn ⊢;rw[hL,hW,hS];have h4:bits aZ aK (enc 0 0 1 nT) 4=4:=mJ 0 0 1 nT (by omega) (by omega) (by omega) (by omega);have h3:bits aZ aK (enc 0 0 1 nT) 3=0:=au6 0 0 1 nT (by omega) (by omega) (by omega) (by omega);obtain⟨nn,hd,hnn⟩:∃nn:Int,enc 0 0 1 nT/8=nn/\nn=nT:=⟨_,Uv 0 0 1 nT (by omega) (by omega) (by omega),rfl⟩;have hz:(nn==0)=false:=by simp<;>omega
 have h12:nn=1\/(nn==1)=false:=by simp<;>omega
 have h2:nn≠1->2<=nT:=by omega
 clear hL hW hS eV eK fu hnn w₄;generalize enc 0 0 1 nT=old at h4 h3 hd ⊢;rcases h12 with h12|h12
 ·cases sv
  ·refine TT.road hP eF (by simp[hx]) 80 fun w₀ hF=>?_;walk_nrm;repeat w_go dW
   refine stp rfl ?_;clear hF w₀;refine TT.mu hP eF hx (mx:=.woken true) rfl (by simp) fun dV dY eQ eo p1 p2 p3 p4=>?_;obtain⟨e1,e2,e3,e4⟩:=eo.mu.UU dY.lo (dY.hi eQ) (fX dY);have Qg:=(eo.mu.nine eo.n0.2.2.2).1;have p4:=p4 rfl;refine⟨_,_,_,.own .xC,1,1,0,0,dV.γ.N-1,dV.γ.tn,dV.γ.th,stepG_add_atomic rfl rfl (by k_ne) rfl Try.func134 Cz Dz BN .i32 f_add rfl rfl eo.gb.cell.2.1 (eo.gb.cell.2.2.2 4),rfl,lq _ _,by simp,by simp,eo.mu.handed dY.lo (dY.hi eQ) (fX dY) 0 (.inl rfl),eo.gb.swap rfl (by rw[e1,e2,e3,dJ];unfold enc;omega),eW.set _ 4 _ (by omega),.inl (by simp[kP]),.inr fun j hj j1 j2=>eo.mu.Gj dY.lo (dY.hi eQ) (fX dY) hj j1 j2,jB 4 (.inl rfl),.inr nle,fun dZ eu eN _ _ _ _=>?_⟩;clear eo dY eQ e1 e2 e3 e4 Qg p1 p2 p3 p4;refine TT.road hP eu (by simp[hx]) 60 fun w₀ hF=>?_;walk_nrm;repeat w_but "code.exit" dW
   w_go dW
   refine stp rfl ?_;exact ot hP hx hT eu ..
  ·refine TT.road hP eF (by simp[hx]) 80 fun w₀ hF=>?_;walk_nrm;repeat w_go dW
   refine stp rfl ?_;clear hF w₀;refine TT.mu hP eF hx (mx:=.woken true) rfl (by simp) fun dV dY eQ eo p1 p2 p3 p4=>?_;obtain⟨e1,e2,e3,e4⟩:=eo.mu.UU dY.lo (dY.hi eQ) (fX dY);have Qg:=(eo.mu.nine eo.n0.2.2.2).1;have p4:=p4 rfl;refine⟨_,_,_,.own .xC,1,1,0,0,dV.γ.N-1,dV.γ.tn,dV.γ.th,stepG_add_atomic rfl rfl (by k_ne) rfl Try.func134 Cz Dz BN .i32 f_add rfl rfl eo.gb.cell.2.1 (eo.gb.cell.2.2.2 4),rfl,lq _ _,by simp,by simp,eo.mu.handed dY.lo (dY.hi eQ) (fX dY) 0 (.inl rfl),eo.gb.swap rfl (by rw[e1,e2,e3,dJ];unfold enc;omega),eW.set _ 4 _ (by omega),.inl (by simp[kP]),.inr fun j hj j1 j2=>eo.mu.Gj dY.lo (dY.hi eQ) (fX dY) hj j1 j2,jB 4 (.inl rfl),.inr nle,fun dZ eu eN _ _ _ _=>?_⟩;clear eo dY eQ e1 e2 e3 e4 Qg p1 p2 p3 p4;refine TT.road hP eu (by simp[hx]) 60 fun w₀ hF=>?_;walk_nrm;repeat w_but "code.exit" dW
   w_go dW
   refine stp rfl ?_;exact ot hP hx hT eu ..
 ·cases sv
  ·refine TT.road hP eF (by simp[hx]) 80 fun w₀ hF=>?_;walk_nrm;repeat w_go dW
   refine stp rfl ?_;clear hF w₀;refine TT.mu hP eF hx (mx:=.woken true) rfl (by simp) fun dV dY eQ eo p1 p2 p3 p4=>?_;obtain⟨e1,e2,e3,e4⟩:=eo.mu.UU dY.lo (dY.hi eQ) (fX dY);have Qg:=(eo.mu.nine eo.n0.2.2.2).1;have p4:=p4 rfl;refine⟨_,_,_,.own .xC,1,1,0,0,dV.γ.N-1,dV.γ.tn,dV.γ.th,stepG_add_atomic rfl rfl (by k_ne) rfl Try.func134 Cz Dz BN .i32 f_add rfl rfl eo.gb.cell.2.1 (eo.gb.cell.2.2.2 4),rfl,lq _ _,by simp,by simp,eo.mu.handed dY.lo (dY.hi eQ) (fX dY) 0 (.inl rfl),eo.gb.swap rfl (by rw[e1,e2,e3,dJ];unfold enc;omega),eW.set _ 4 _ (by omega),.inl (by simp[kP]),.inr fun j hj j1 j2=>eo.mu.Gj dY.lo (dY.hi eQ) (fX dY) hj j1 j2,jB 4 (.inl rfl),.inr nle,fun dZ eu eN _ _ _ _=>?_⟩;clear eo dY eQ e1 e2 e3 e4 Qg p1 p2 p3 p4;refine TT.road hP eu (by simp[hx]) 60 fun w₀ hF=>?_;walk_nrm;repeat w_but "code.exit" dW
   w_go dW
   refine stp rfl ?_;exact ot hP hx hT eu ..
  ·have h2:=h2 (by simpa using h12);refine TT.road hP eF (by simp[hx]) 80 fun w₀ hF=>?_;walk_nrm;repeat w_go dW
   refine stp rfl ?_;clear hF w₀;refine TT.mu hP eF hx (mx:=.woken true) rfl (by simp) fun dV dY eQ eo p1 p2 p3 p4=>?_;obtain⟨e1,e2,e3,e4⟩:=eo.mu.UU dY.lo (dY.hi eQ) (fX dY);have Qg:=(eo.mu.nine eo.n0.2.2.2).1;have p4:=p4 rfl;refine⟨_,_,_,.own .xC,1,1,0,1,dV.γ.N-1,dV.γ.tn,dV.γ.th,stepG_add_atomic rfl rfl (by k_ne) rfl Try.func134 Cz Dz BN .i32 f_add rfl rfl eo.gb.cell.2.1 (eo.gb.cell.2.2.2 4),rfl,lq _ _,by simp,by simp,eo.mu.handed dY.lo (dY.hi eQ) (fX dY) 1 (.inr ⟨rfl,by omega⟩),eo.gb.swap rfl (by rw[e1,e2,e3,dJ];unfold enc;omega),eW.set _ 4 _ (by omega),.inl (by simp[kP]),.inr fun j hj j1 j2=>eo.mu.Gj dY.lo (dY.hi eQ) (fX dY) hj j1 j2,jB 4 (.inl rfl),.inr nle,fun dZ eu eN _ _ _ _=>?_⟩;clear eo dY eQ e1 e2 e3 e4 Qg p1 p2 p3 p4;refine TT.road hP eu (by simp[hx]) 60 fun w₀ hF=>?_;walk_nrm;repeat w_but "code.exit" dW
   w_go dW
   refine stp rfl ?_;exact ot hP hx hT eu ..
theorem aF4(hx:x.wg=.work)(hT:KG q i Ch s x b₁ a₁ eB fE ez k₁ cs₁){sv:Bool}{nW:Int}{st:St eH}(hA:At s i {x with mx:=.woken true,df:=1} st)(j1 j4 j5 j6 j7 j8 j9 j10 j11 j12 j13 tI tH tF tE vA pE pD tD tC tB tA tz tv tq tj s7 sZ sY sX sW sV sU sS sQ sP sO zg zf ze Bx Bv Bu Bt Br Bq Bp Bo Bn Bl Bj Bi Bh Bg Bf Be Bc Bb Ba A9 A8 A7 A6 A0 AZ AY AX AW AV AU vz vw vv vt vq vp vo AQ AP AO AL Eo En Em El Ek Ej Ei Eh Eg Ef Ee Ed Ec Eb Ea D9 qJ qI qH qG qF qE qD qC qB qA qz qy qx qw qu qp qo qm ql qj qi qh qg qf qd qc qb p9 pZ pY pX pW pV pU pT pS pR pQ pP:af):
  TT (cfg q) i Ch (G ((base 133).at ⟨#[.pointer (some ⟨s.Gb,4,none⟩),j1,.int .i64 nW,.bool sv,j4,j5,j6,j7,j8,j9,j10,j11,j12,j13,tI,tH,tF,tE,vA,pE,pD,tD,tC,tB,tA,tz,tv,tq,tj,s7,sZ,sY,sX,sW,sV,sU,sS,sQ,sP,sO,zg,zf,ze,Bx,Bv,Bu,Bt,Br,Bq,Bp,Bo,Bn,Bl,Bj,Bi,Bh,Bg,Bf,Be,Bc,Bb,Ba,A9,A8,A7,A6,A0,AZ,AY,AX,AW,AV,AU,vz,vw,vv,vt,vq,vp,vo,AQ,AP,AO,AL,Eo,En,Em,El,Ek,Ej,Ei,Eh,Eg,Ef,Ee,Ed,Ec,Eb,Ea,D9,qJ,qI,qH,qG,qF,qE,qD,qC,qB,qA,qz,qy,qx,qw,qu,qp,qo,qm,ql,qj,qi,qh,qg,qf,qd,qc,qb,p9,pZ,pY,pX,pW,pV,pU,pT,pS,pR,pQ,pP],[]⟩ [.code wj,.inBlock 1,.inLoop ia,.inBlock 0,.code gY]) (b₁.at a₁ (.inRegion eB (fE::ez)::k₁)::cs₁)) st:=by
 simp only[xL,xK,wj,zI,rL,Fh,ia,gY,iz,iX,mZ,Try.f133,aJ,Nat.reduceEqDiff,↓reduceIte];cases sv
 ·refine TT.road hP hA (by simp[hx]) 60 fun w₀ hF=>?_;repeat w_go dW
  refine stp rfl ?_;clear hF w₀;refine TT.lR hP hA hx (mx:=.woken true) rfl (by simp) fun fw eK fu eV=>⟨_,_,_,1,stepG_nanotime rfl rfl (by k_ne) rfl Try.func142 LD Mg KU L4 Lg,rfl,rfl,rfl,eW.later _,gj,fun fI eF fO _ _ jH _=>?_⟩;generalize((fw.w.os.mono+fw.w.tick:Nat):Int)=tw;clear eV eK fu hA jH;refine TT.road hP eF (by simp[hx]) 60 fun w₀ hF=>?_;walk_nrm;repeat w_but "code.seq" dW
  refine stp rfl ?_;exact Zx hP hx hT eF ..
 ·refine TT.road hP hA (by simp[hx]) 60 fun w₀ hF=>?_;w_go dW
  repeat w_but "code.seq" dW
  refine stp rfl ?_;exact Zx hP hx hT hA ..
end
end
section
section
variable{q:iU}(hP:q.P=dS){i:Nat}{s:eJ}{x:Wk}{Ch:Nat->ah->St eH->Prop}
variable{b₁:ai}{a₁:Act}{eB:Array Oper}{fE:Nat}{ez:List Nat}{k₁:List Item}{cs₁:List ai}
include hP
theorem semAt(hx:x.wg=.work)(hT:KG q i Ch s x b₁ a₁ eB fE ez k₁ cs₁){pr:Nat}(ih:∀nA,nA<5*pr->Rh q i Ch s x b₁ a₁ eB fE ez k₁ cs₁ nA){sv:Bool}{nW:Int}{st:St eH}(hA:At s i {x with mx:=.iM,df:=1} st)(hI:Inv q st)(hp:phi st.γ s<pr)(j1 j4 j5 j6 j7 j8 j9 j10 j11 j12 j13 tI tH tF tE vA pE pD tD tC tB tA tz tv tq tj s7 sZ sY sX sW sV sU sS sQ sP sO zg zf ze Bx Bv Bu Bt Br Bq Bp Bo Bn Bl Bj Bi Bh Bg Bf Be Bc Bb Ba A9 A8 A7 A6 A0 AZ AY AX AW AV AU vz vw vv vt vq vp vo AQ AP AO AL Eo En Em El Ek Ej Ei Eh Eg Ef Ee Ed Ec Eb Ea D9 qJ qI qH qG qF qE qD qC qB qA qz qy qx qw qu qp qo qm ql qj qi qh qg qf qd qc qb p9 pZ pY pX pW pV pU pT pS pR pQ pP:af):
  TT (cfg q) i Ch (G ((base 133).at ⟨#[.pointer (some ⟨s.Gb,4,none⟩),j1,.int .i64 nW,.bool sv,j4,j5,j6,j7,j8,j9,j10,j11,j12,j13,tI,tH,tF,tE,vA,pE,pD,tD,tC,tB,tA,tz,tv,tq,tj,s7,sZ,sY,sX,sW,sV,sU,sS,sQ,sP,sO,zg,zf,ze,Bx,Bv,Bu,Bt,Br,Bq,Bp,Bo,Bn,Bl,Bj,Bi,Bh,Bg,Bf,Be,Bc,Bb,Ba,A9,A8,A7,A6,A0,AZ,AY,AX,AW,AV,AU,vz,vw,vv,vt,vq,vp,vo,AQ,AP,AO,AL,Eo,En,Em,El,Ek,Ej,Ei,Eh,Eg,Ef,Ee,Ed,Ec,Eb,Ea,D9,qJ,qI,qH,qG,qF,qE,qD,qC,qB,qA,qz,qy,qx,qw,qu,qp,qo,qm,ql,qj,qi,qh,qg,qf,qd,qc,qb,p9,pZ,pY,pX,pW,pV,pU,pT,pS,pR,pQ,pP],[]⟩ [.code xK,.inBlock 1,.inLoop ia,.inBlock 0,.code gY]) (b₁.at a₁ (.inRegion eB (fE::ez)::k₁)::cs₁)) st:=by
 simp only[xL,xK,wj,zI,rL,Fh,ia,gY,iz,iX,mZ,Try.f133,aJ,Nat.reduceEqDiff,↓reduceIte];refine TT.road hP hA (by simp[hx]) 60 fun w₀ hF=>?_;repeat w_go dW
 refine stp rfl ?_;clear hF w₀;refine TT.sem (P:=dS) hP hA hx rfl rfl (fun w hc=>stepG_semacquire_wait rfl rfl rfl Try.func143 Y6 Z2 YC ZR (by simp[Act.eval]) hc) ⟨_,fun w n hc hn hz=>stepG_semacquire rfl rfl (by k_ne) rfl Try.func143 Y6 Z2 YC ZR (by simp[Act.eval]) hc hn hz,rfl,fun dZ eu eN hlt=>?_,fun dZ eu eN hlt=>?_⟩
 ·refine TT.road hP eu (by simp[hx]) 60 fun w₀ hF=>?_;walk_nrm;repeat w_but "code.seq" dW
  refine stp rfl ?_;exact aF3 hP hx hT ih eu eN (by omega) ..
 ·refine TT.road hP eu (by simp[hx]) 60 fun w₀ hF=>?_;walk_nrm;repeat w_but "code.seq" dW
  refine stp rfl ?_;exact aF4 hP hx hT eu ..
theorem o9(hx:x.wg=.work)(hT:KG q i Ch s x b₁ a₁ eB fE ez k₁ cs₁){pr:Nat}(ih:∀nA,nA<5*pr->Rh q i Ch s x b₁ a₁ eB fE ez k₁ cs₁ nA){sv:Bool}{nW:Int}{st:St eH}(hA:At s i {x with mx:=.iM,df:=1} st)(hI:Inv q st)(hp:phi st.γ s<pr)(j1 j4 j5 j6 j7 j8 j9 j10 j11 j12 j13 tI tH tF tE vA pE pD tD tC tB tA tz tv tq tj s7 sZ sY sX sW sV sU sS sQ sP sO zg zf ze Bx Bv Bu Bt Br Bq Bp Bo Bn Bl Bj Bi Bh Bg Bf Be Bc Bb Ba A9 A8 A7 A6 A0 AZ AY AX AW AV AU vz vw vv vt vq vp vo AQ AP AO AL Eo En Em El Ek Ej Ei Eh Eg Ef Ee Ed Ec Eb Ea D9 qJ qI qH qG qF qE qD qC qB qA qz qy qx qw qu qp qo qm ql qj qi qh qg qf qd qc qb p9 pZ pY pX pW pV pU pT pS pR pQ pP:af):
  TT (cfg q) i Ch (G ((base 133).at ⟨#[.pointer (some ⟨s.Gb,4,none⟩),j1,.int .i64 nW,.bool sv,j4,j5,j6,j7,j8,j9,j10,j11,j12,j13,tI,tH,tF,tE,vA,pE,pD,tD,tC,tB,tA,tz,tv,tq,tj,s7,sZ,sY,sX,sW,sV,sU,sS,sQ,sP,sO,zg,zf,ze,Bx,Bv,Bu,Bt,Br,Bq,Bp,Bo,Bn,Bl,Bj,Bi,Bh,Bg,Bf,Be,Bc,Bb,Ba,A9,A8,A7,A6,A0,AZ,AY,AX,AW,AV,AU,vz,vw,vv,vt,vq,vp,vo,AQ,AP,AO,AL,Eo,En,Em,El,Ek,Ej,Ei,Eh,Eg,Ef,Ee,Ed,Ec,Eb,Ea,D9,qJ,qI,qH,qG,qF,qE,qD,qC,qB,qA,qz,qy,qx,qw,qu,qp,qo,qm,ql,qj,qi,qh,qg,qf,qd,qc,qb,p9,pZ,pY,pX,pW,pV,pU,pT,pS,pR,pQ,pP],[]⟩ [.code xL,.inBlock 1,.inLoop ia,.inBlock 0,.code gY]) (b₁.at a₁ (.inRegion eB (fE::ez)::k₁)::cs₁)) st:=by
 by_cases hz:nW=0
 ·subst hz;simp only[xL,xK,wj,zI,rL,Fh,ia,gY,iz,iX,mZ,Try.f133,aJ,Nat.reduceEqDiff,↓reduceIte];refine TT.road hP hA (by simp[hx]) 60 fun w₀ hF=>?_;repeat w_go dW
  refine stp rfl ?_;clear hF w₀;refine TT.lR hP hA hx (mx:=.iM) rfl (by simp) fun fw eK fu eV=>⟨_,_,_,1,stepG_nanotime rfl rfl (by k_ne) rfl Try.func142 LD Mg KU L4 Lg,rfl,rfl,rfl,eW.later _,gj,fun fI eF fO _ _ jH _=>?_⟩;generalize((fw.w.os.mono+fw.w.tick:Nat):Int)=tw;have Zk:phi fI.γ s<pr:=by omega
  clear eV eK fu hA hp jH;refine TT.road hP eF (by simp[hx]) 60 fun w₀ hF=>?_;walk_nrm;repeat w_but "code.seq" dW
  refine stp rfl ?_;exact semAt hP hx hT ih eF fO Zk ..
 ·have hz1:(nW==0)=false:=by simpa using hz
  have hz2:(nW != 0)=true:=by simpa using hz
  clear hz;simp only[xL,xK,wj,zI,rL,Fh,ia,gY,iz,iX,mZ,Try.f133,aJ,Nat.reduceEqDiff,↓reduceIte];refine TT.road hP hA (by simp[hx]) 60 fun w₀ hF=>?_;w_go dW
  repeat w_but "code.seq" dW
  w_go dW
  w_go dW
  repeat w_but "code.seq" dW
  refine stp rfl ?_;exact semAt hP hx hT ih hA hI hp ..
end
end
end Cc
end Go.Proofs.Ytpfpokjaeffbjaa
