/- Part of the proof: PackageNums, PkgW, AgT, WrkF, Own, AgF, AgC. -/
import Derived.Test.YtpfpokjaeffbjabBb11
import Derived.Deep.RegionHeld3
import Derived.Deep.RegionLaw
import Derived.Test.YtpfpokjaeffbjabBb10
import Derived.Test.YtpfpokjaeffbjabProg
import Derived.Test.YtpfpokjaeffbjabBb9
import Derived.RowKit
set_option linter.unusedVariables false
set_option linter.unusedSimpArgs false
set_option maxRecDepth 100000
set_option maxHeartbeats 16000000
namespace Go.Proofs.Ytpfpokjaeffbjab
namespace Dl
open Go.RowKit Pl ny oI ni qj Mem oG Ad Hsh Ud Gn
section
section
variable{w:World}{p g:Nat}{vc lv:Value}{t n:Int}{cs:List Int}{l:List Cm}{msg:ByteArray}{base:Nat}
theorem ba7(h:Pk w p g vc lv t n cs l msg base):
  Calls Try.prog 33 #[.pointer (some ⟨p,0,none⟩)] w fun e w'=>e=.returned (.int .i64 l.length)/\w=w':=by
 obtain⟨p0,p1,p2⟩:=h.cells;obtain⟨A,c,rfl⟩:=h.iJ.shape;clear h
 go_enter Try.func33,Try.ntmps33
 go_wp2_with fail
 go_ret
 exact⟨rfl,rfl⟩
theorem aH4(hG:fB w g t n vc 0 0 cs 1)(hO:mD w base vc cs)(hl:0<cs.length):
  Calls Try.prog 40 #[.pointer (some ⟨g,0,none⟩)] w fun e w'=>e=.returned (.int .u64 (cs.getD 0 0))/\w=w':=by
 obtain⟨g0,g1,g2,g3,g4⟩:=hG.cells;obtain⟨gc,cap,rfl,-,-,hc,-⟩:=hO.form hl;have hc0:=hc 0 hl;have hl':(0:Int)<(cs.length:Int):=by omega
 clear hG hO hc;generalize cs.getD 0 0=X at*
 go_enter Try.func40,Try.ntmps40
 go_wp2_with fail
 go_ret
 exact⟨rfl,rfl⟩
theorem GZ:(Try.prog.info? 25).map (fun i=>(i.zero,i.size,i.bytes))=some (some (.int .u64 0),1,8):=by kernel_rfl
theorem av6(h:Pk w p g vc lv t n cs l msg base)(hgd:ni.Good n l)(hn:n<=9)(Dh:l.length<=9)(hcl:0<cs.length)(hc0:0<=cs.getD 0 0/\cs.getD 0 0<18446744073709551616)(hms:msg.size<=1000000){k:Nat}(hk:k<l.length):
  Calls Try.prog 38 #[.pointer (some ⟨p,0,none⟩),.int .i64 k] w fun e w'=>e=.returned (.int .u64 (lH l (cs.getD 0 0) msg k))/\Below w.heap.size w w':=by
 obtain⟨p0,p1,p2⟩:=h.cells;obtain⟨A,c,rfl⟩:=h.iJ.shape;obtain⟨b,off,rfl,hb,hc⟩:=h.iJ.at_ (by omega);obtain⟨x0,x1,x2⟩:=hc k hk;have hp:=h.pk.lt;have hgk:=hgd k hk;have H:=Lib.hid h;have HC:=Lib.hid hc;have HG:=Lib.hid hgd;have HBD:=Lib.hid (CJ hgd hn hc0 hk);have hnm:Hid (dB l (cs.getD 0 0) k 0=[(l.getD k .zero).id,cs.getD 0 0]):=by
  show _=_;simp[dB,flat]
 have wX:IntKind.u64.wrap (l.getD k .zero).id=(l.getD k .zero).id:=lN (by omega) (by omega);have k1:(0:Int)<=(k:Int):=by omega
 have k2:(k:Int)<(l.length:Int):=by omega
 obtain⟨i0,hi,hz0,hz1,hz2⟩:=info_parts GZ;have hbP:Hid (lH l (cs.getD 0 0) msg k=vX 1 msg (dB l (cs.getD 0 0) k l.length)):=by
  show lH l (cs.getD 0 0) msg k=_;rfl
 have hkc:=Lib.hid (aH4 (w:=w.drew) (show fB w.drew g t n vc 0 0 cs 1 from h.grp) (show mD w.drew base vc cs from h.own) hcl);clear h hc hgd hgk hc0 x1 x2;generalize(l.getD k .zero).id=X at*;generalize cs.getD 0 0=K at*
 go_enter Try.func38,Try.ntmps38
 go_wp2_with fail
 go_region_held3 (fun w'=>(w'.cell? ⟨p,0,none⟩=some (.pointer (some ⟨g,0,none⟩))/\w'.cell? ⟨p,1,none⟩=some (.slice (some ⟨b,off,none⟩) l.length c))/\w'.cell? ⟨b,off+k*3,none⟩=some (.int .i64 X)) (go_keep)
  (first|(go_at_call 40;refine hkc.out.mono ?_;rintro e w' ⟨rfl,rfl⟩))
 all_goals
  have hown0:((w.alloc (.cells #[.int .u64 X,.int .u64 K] 25)).drew).ownsRow w.heap.size 25 1 (.slice (some ⟨w.heap.size,0,none⟩) 2 2) (2+3*0) ((dB l K k 0).map (Value.int .u64)):=by
   rw[hnm.out];exact World.ownsRow_lit w #[.int .u64 X,.int .u64 K] 2 (Nat.le_refl _) (by unfold maxLen;omega) rfl
  have hbw0:Below w.heap.size w (w.alloc (.cells #[.int .u64 X,.int .u64 K] 25)).drew:=(aK _ _).drew;generalize(w.alloc (.cells #[.int .u64 X,.int .u64 K] 25)).drew=w1 at*;have HP1:=Lib.hid (H.out.later hbw0);obtain⟨r0,r1,r2⟩:=HP1.out.cells;have HO0:=Lib.hid hown0;have HB0:=Lib.hid hbw0;clear hown0 hbw0 p0 p1 p2
  go_wp2_with fail
  go_loopw [5,28] (fun v i wr=>∃j:Nat,j<=l.length/\i=.int .i64 j/\wr.ownsRow w.heap.size 25 1 v (2+3*j) ((dB l K k j).map (Value.int .u64))/\Below w.heap.size w wr) (fun _ i _=>l.length-(intOf i).toNat)
  case atStart=>exact⟨0,by omega,rfl,HO0.out,HB0.out⟩
  case round=>
   obtain⟨j,hj,rfl,hown,hbw⟩:=hrel;have HO:=Lib.hid hown;clear hown r0 r1 r2;by_cases hlt:j<l.length
   ·obtain⟨y0,y1,y2⟩:=HC.out j hlt;replace y0:=(hbw.cell (p:=⟨b,off+j*3,none⟩) hb).trans y0;replace y1:=(hbw.cell (p:=⟨b,off+j*3+1,none⟩) hb).trans y1;replace y2:=(hbw.cell (p:=⟨b,off+j*3+2,none⟩) hb).trans y2;have hgj:=HG.out j hlt;have wY:IntKind.u64.wrap (l.getD j .zero).id=(l.getD j .zero).id:=lN (by omega) (by omega);have hst:=Lib.hid (xU l K k j);have hlen:wr.heap.size<(wr.alloc (.cells #[.int .i64 (l.getD j .zero).id,.int .u64 (l.getD j .zero).d,.int .u64 (l.getD j .zero).e] 37)).heap.size:=by simp
    obtain⟨⟨gj1,gj2⟩,-⟩:=hgj;generalize(l.getD j .zero).id=Y at*;generalize(l.getD j .zero).d=D at*;generalize(l.getD j .zero).e=E at*
    go_wp2_with (at_builtin;refine wpList_append_own _ rfl (.tmp 32) (.tmp 40) _ rfl w.heap.size 25 i0 (.int .u64 0) 1 8 Try.underlying26 hi hz0 hz1 hz2 rfl (by decide) _ _ _ rfl ((HO.out.alloc _).alloc _) ⟨wr.heap.size+1,0,none⟩ 3 3 [.int .u64 Y,.int .u64 D,.int .u64 E] rfl rfl (World.news_of_block (jc _ _ (by simp))) (by simp[Value.oneCell']) (by unfold maxLen;omega) (by omega) (by have:=hbw.size;simp;omega) ?_;intro v1 w2 hown1 hgrow1 _)
    have hbw2:=(((hbw.alloc hbw.size (.cells #[.int .i64 Y,.int .u64 D,.int .u64 E] 37)).alloc (by have:=hbw.size;simp;omega) (.cells #[.int .u64 Y,.int .u64 D,.int .u64 E] 25)).grown hgrow1 (by have:=hbw.size;simp;omega) fun k hk=>(((HO.out.alloc (.cells #[.int .i64 Y,.int .u64 D,.int .u64 E] 37)).alloc (.cells #[.int .u64 Y,.int .u64 D,.int .u64 E] 25)).lt k hk).1);refine⟨⟨j+1,by omega,by go_num,by rw[hst.out,List.map_append,show 2+3*(j+1)=2+3*j+3 by omega];exact hown1,hbw2⟩,by simp[intOf];omega⟩
   ·obtain rfl:j=l.length:=by omega
    have HPf:=Lib.hid (H.out.later hbw);obtain⟨r0,r1,r2⟩:=HPf.out.cells;have OI:=Nums.own (l:=dB l K k l.length) (by rw[kX];exact HO.out);have hh:=Lib.hid (Yj 1 msg (dB l K k l.length) _ wr OI (by rw[kX];omega) hms (by omega) (by omega) HBD.out);obtain⟨A5,c5,rfl⟩:=kH HO.out;rw[<-hbP.out]at hh;clear OI
    go_wp2_with fail
    refine hh.out.mono ?_;rintro e w' ⟨rfl,x,rfl⟩
    go_wp2_with fail
    go_ret
    exact⟨rfl,hbw.alloc hbw.size _⟩
theorem aY9(h:Pk w p g vc lv t n cs l msg base)(hgd:ni.Good n l)(hn:n<=9)(Dh:l.length<=9)(hcl:0<cs.length)(hc0:0<=cs.getD 0 0/\cs.getD 0 0<18446744073709551616)(hms:msg.size<=1000000){k:Nat}(hk:k<l.length):
  Calls Try.prog 45 #[.pointer (some ⟨p,0,none⟩),.int .i64 k] w fun e w'=>e=.returned (.int .u64 (lV l (cs.getD 0 0) msg k))/\Below w.heap.size w w':=by
 obtain⟨p0,p1,p2⟩:=h.cells;obtain⟨A,c,rfl⟩:=h.iJ.shape;obtain⟨b,off,rfl,hb,hc⟩:=h.iJ.at_ (by omega);obtain⟨x0,x1,x2⟩:=hc k hk;obtain⟨-,-,⟨d0,d1⟩,e0,e1⟩:=hgd k hk;have hP:Hid (lV l (cs.getD 0 0) msg k=mV (l.getD k .zero).d (pw (l.getD k .zero).e (lH l (cs.getD 0 0) msg k).toNat 2147483579)):=by
  show lV l (cs.getD 0 0) msg k=_;rfl
 have hbx:=aK w (.cells #[.int .i64 (l.getD k .zero).id,.int .u64 (l.getD k .zero).d,.int .u64 (l.getD k .zero).e] 37);have hbi:=Lib.hid (av6 (h.later hbx.drew) hgd hn Dh hcl hc0 hms hk);have hbb:=rV l (cs.getD 0 0) msg k;have k1:(0:Int)<=(k:Int):=by omega
 have k2:(k:Int)<(l.length:Int):=by omega
 have HBX:=Lib.hid hbx;obtain⟨bb0,bb1⟩:=hbb;have b0:(w.alloc (.cells #[.int .i64 (l.getD k .zero).id,.int .u64 (l.getD k .zero).d,.int .u64 (l.getD k .zero).e] 37)).cell? ⟨w.heap.size,1,none⟩=some (.int .u64 (l.getD k .zero).d):=by simp
 have b1:(w.alloc (.cells #[.int .i64 (l.getD k .zero).id,.int .u64 (l.getD k .zero).d,.int .u64 (l.getD k .zero).e] 37)).cell? ⟨w.heap.size,2,none⟩=some (.int .u64 (l.getD k .zero).e):=by simp
 have hsz:w.heap.size<(w.alloc (.cells #[.int .i64 (l.getD k .zero).id,.int .u64 (l.getD k .zero).d,.int .u64 (l.getD k .zero).e] 37)).heap.size:=by simp
 clear h hc hgd hc0 hbx;generalize(l.getD k .zero).id=X at*;generalize(l.getD k .zero).d=D at*;generalize(l.getD k .zero).e=E at*;generalize lH l (cs.getD 0 0) msg k=Bd at*;generalize lV l (cs.getD 0 0) msg k=R at*
 go_enter Try.func45,Try.ntmps45
 go_wp2_with fail
 generalize w.alloc (.cells #[.int .i64 X,.int .u64 D,.int .u64 E] 37)=wb at*
 go_region_held3 (fun w'=>w'.cell? ⟨w.heap.size,1,none⟩=some (.int .u64 D)/\w'.cell? ⟨w.heap.size,2,none⟩=some (.int .u64 E))
  (first|go_keep|(exact⟨(hb1.cell (p:=⟨w.heap.size,1,none⟩) hsz).trans b0,(hb1.cell (p:=⟨w.heap.size,2,none⟩) hsz).trans b1⟩))
  (first|(go_at_call 38;refine hbi.out.mono ?_;rintro e w1 ⟨rfl,hb1⟩)|(go_at_call 48;refine(AL E Bd _ (by omega) e1 bb0 (by omega)).mono ?_;rintro e w' ⟨rfl,rfl⟩)|(go_at_call 46;refine(qP _ _ _).mono ?_;rintro e w' ⟨rfl,rfl⟩))
 all_goals
  go_wp2_with fail
  go_ret
  exact⟨by rw[hP.out];rfl,HBX.out.trans (((Below.refl _ _).drew).trans (hb1.mono (Nat.le_of_lt hsz)))⟩
theorem X3:(Try.prog.info? 85).map (fun i=>(i.zero,i.size,i.bytes))=some (some (.int .u64 0),1,8):=by kernel_rfl
theorem G5:(Try.prog.info? 3).map (fun i=>(i.zero,i.size,i.bytes))=some (some (.int .i64 0),1,8):=by kernel_rfl
theorem bm1(h:Pk w p g vc lv t n cs l msg base)(hgd:ni.Good n l)(hn:n<=9)(Dh:l.length<=9)(hcl:0<cs.length)(hc0:0<=cs.getD 0 0/\cs.getD 0 0<18446744073709551616)(hms:msg.size<=1000000)
  (r x:Int)(hx:(dM l (cs.getD 0 0) msg=1/\r=0/\x=11)\/(dM l (cs.getD 0 0) msg≠1/\r=dM l (cs.getD 0 0) msg/\x=0)):
  Calls Try.prog 35 #[.pointer (some ⟨p,0,none⟩)] w fun e w'=>e=.returned (.tuple #[.int .u64 r,.int .i64 x])/\Below w.heap.size w w':=by
 obtain⟨p0,p1,p2⟩:=h.cells;obtain⟨A,c,rfl⟩:=h.iJ.shape;have H:=Lib.hid h;have HG:=Lib.hid hgd;have HC0:=Lib.hid hc0;have HX:=Lib.hid hx;obtain⟨i0,hi,hz0,hz1,hz2⟩:=info_parts X3;clear h hgd hc0 hx;have hAP:Hid (dM l (cs.getD 0 0) msg=qy 1 (mP l (cs.getD 0 0) msg l.length) l.length):=by
  show dM l (cs.getD 0 0) msg=_;rfl
 go_enter Try.func35,Try.ntmps35
 go_wp2_with fail
 go_loopw [4,12] (fun v i wr=>∃k:Nat,k<=l.length/\i=.int .i64 k/\wr.ownsRow w.heap.size 85 1 v k ((mP l (cs.getD 0 0) msg k).map (Value.int .u64))/\Below w.heap.size w wr) (fun _ i _=>l.length-(intOf i).toNat)
 case atStart=>exact⟨0,by omega,rfl,World.ownsRow_nil _ _ _ _,Below.refl _ _⟩
 case round=>
  obtain⟨k,hk,rfl,hown,hbw⟩:=hrel;have HO:=Lib.hid hown;clear hown p0 p1 p2;by_cases hlt:k<l.length
  ·have hpt:=Lib.hid (aY9 (H.out.later hbw) HG.out hn Dh hcl HC0.out hms hlt);have hst:=Lib.hid (Lh l (cs.getD 0 0) msg k);generalize lV l (cs.getD 0 0) msg k=R at*
   go_wp2_with (first|(go_at_call 45;refine hpt.out.mono ?_;rintro e w2 ⟨rfl,hb2⟩;have hown2:=own_below HO.out hb2 (Nat.le_refl _);have hbw2:=hbw.trans (hb2.mono hbw.size))|(at_builtin;refine wpList_append_own _ rfl (.tmp 15) (.tmp 19) _ rfl w.heap.size 85 i0 (.int .u64 0) 1 8 Try.underlying136 hi hz0 hz1 hz2 rfl (by decide) _ _ _ rfl (hown2.alloc _) ⟨w2.heap.size,0,none⟩ 1 1 [.int .u64 R] rfl rfl (cell_one_new _ _ _) (by simp[Value.oneCell']) (by unfold maxLen;omega) (by omega) (by have:=hbw2.size;simp;omega) ?_;intro v3 w3 hown3 hgrow3 _))
   refine⟨⟨k+1,by omega,by go_num,by rw[hst.out,List.map_append];exact hown3,below_grown hbw2 hown2 hbw2.size hgrow3⟩,by simp[intOf];omega⟩
  ·obtain rfl:k=l.length:=by omega
   have OI:=Nums.own (l:=mP l (cs.getD 0 0) msg l.length) (by rw[qM];exact HO.out);obtain⟨A5,c5,rfl⟩:=kH HO.out;have hfo:=bi8 1 (mP l (cs.getD 0 0) msg l.length) _ wr OI (by rw[qM];omega);rw[qM,<-hAP.out]at hfo;have HF:=Lib.hid hfo;clear OI hfo;generalize dM l (cs.getD 0 0) msg=R at*;rcases HX.out with⟨hr1,hr2,hr3⟩|⟨hr1,hr2,hr3⟩
   ·have t1:(R==1)=true:=by rw[beq_iff_eq];exact hr1
    subst hr2 hr3;clear hr1
    go_wp2_with fail
    refine HF.out.mono ?_;rintro e w' ⟨rfl,rfl⟩
    go_wp2_with fail
    go_ret2
    exact⟨rfl,hbw⟩
   ·have t1:(R==1)=false:=by rw[beq_eq_false_iff_ne];exact hr1
    subst hr2 hr3;clear hr1
    go_wp2_with fail
    refine HF.out.mono ?_;rintro e w' ⟨rfl,rfl⟩
    go_wp2_with fail
    go_ret2
    exact⟨rfl,hbw⟩
theorem Px(h:Pk w p g vc lv t n cs l msg base)(Dh:l.length<=9){k:Nat}(hk:k<l.length):
  Calls Try.prog 41 #[.pointer (some ⟨p,0,none⟩),.int .i64 k] w fun e w'=>e=.returned (.int .u64 (fF (gV l l.length) k))/\Below w.heap.size w w':=by
 obtain⟨p0,p1,p2⟩:=h.cells;obtain⟨A,c,rfl⟩:=h.iJ.shape;obtain⟨b,off,rfl,hb,hc⟩:=h.iJ.at_ (by omega);have H:=Lib.hid h;have HC:=Lib.hid hc;obtain⟨i0,hi,hz0,hz1,hz2⟩:=info_parts G5;clear h hc
 go_enter Try.func41,Try.ntmps41
 go_wp2_with fail
 go_loopw [5,13] (fun v i wr=>∃j:Nat,j<=l.length/\i=.int .i64 j/\wr.ownsRow w.heap.size 3 1 v j ((gV l j).map (Value.int .i64))/\Below w.heap.size w wr) (fun _ i _=>l.length-(intOf i).toNat)
 case atStart=>exact⟨0,by omega,rfl,World.ownsRow_nil _ _ _ _,Below.refl _ _⟩
 case round=>
  obtain⟨j,hj,rfl,hown,hbw⟩:=hrel;have HO:=Lib.hid hown;clear hown p0 p1 p2;by_cases hlt:j<l.length
  ·obtain⟨y0,y1,y2⟩:=HC.out j hlt;replace y0:=(hbw.cell (p:=⟨b,off+j*3,none⟩) hb).trans y0;replace y1:=(hbw.cell (p:=⟨b,off+j*3+1,none⟩) hb).trans y1;replace y2:=(hbw.cell (p:=⟨b,off+j*3+2,none⟩) hb).trans y2;have hst:=Lib.hid (ES l j);generalize(l.getD j .zero).id=Y at*;generalize(l.getD j .zero).d=D at*;generalize(l.getD j .zero).e=E at*
   go_wp2_with (at_builtin;refine wpList_append_own _ rfl (.tmp 17) (.tmp 20) _ rfl w.heap.size 3 i0 (.int .i64 0) 1 8 Try.underlying29 hi hz0 hz1 hz2 rfl (by decide) _ _ _ rfl ((HO.out.alloc _).alloc _) ⟨wr.heap.size+1,0,none⟩ 1 1 [.int .i64 Y] rfl rfl (World.news_of_block (jc _ _ (by simp))) (by simp[Value.oneCell']) (by unfold maxLen;omega) (by omega) (by have:=hbw.size;simp;omega) ?_;intro v1 w2 hown1 hgrow1 _)
   have hbw2:=(((hbw.alloc hbw.size (.cells #[.int .i64 Y,.int .u64 D,.int .u64 E] 37)).alloc (by have:=hbw.size;simp;omega) (.cells #[.int .i64 Y] 3)).grown hgrow1 (by have:=hbw.size;simp;omega) fun k hk=>(((HO.out.alloc (.cells #[.int .i64 Y,.int .u64 D,.int .u64 E] 37)).alloc (.cells #[.int .i64 Y] 3)).lt k hk).1);refine⟨⟨j+1,by omega,by go_num,by rw[hst.out,List.map_append];exact hown1,hbw2⟩,by simp[intOf];omega⟩
  ·obtain rfl:j=l.length:=by omega
   have OI:=Nums.own (l:=gV l l.length) (by rw[kL];exact HO.out);obtain⟨A5,c5,rfl⟩:=kH HO.out;have hlg:=Lib.hid (GY (gV l l.length) k _ wr OI (by rw[kL];omega) (by rw[kL];exact hk));clear OI
   go_wp2_with fail
   refine hlg.out.mono ?_;rintro e w' ⟨rfl,nq,rfl⟩
   go_wp2_with fail
   go_ret
   exact⟨rfl,below_drewN hbw _⟩
end
end
section
def Ig(w:World)(g:Nat)(cs:List Int):Prop:=∃gc cap,w.cell? ⟨g,2,none⟩=some (.slice (some ⟨gc,0,none⟩) cs.length cap)/\g<w.heap.size/\gc<w.heap.size/\(0<cs.length->w.cell? ⟨gc,0,none⟩=some (.int .u64 (cs.getD 0 0)))
theorem Ig.later{w w':World}{g:Nat}{cs:List Int}(h:Ig w g cs)(hb:Below w.heap.size w w'):Ig w' g cs:=by
 obtain⟨gc,cap,h1,h2,h3,h4⟩:=h;exact⟨gc,cap,(hb.cell (p:=⟨g,2,none⟩) h2).trans h1,Nat.lt_of_lt_of_le h2 hb.size,Nat.lt_of_lt_of_le h3 hb.size,fun hl=>(hb.cell (p:=⟨gc,0,none⟩) h3).trans (h4 hl)⟩
structure V7(w:World)(p g:Nat)(lv:Value)(cs:List Int)(l:List Cm)(msg:ByteArray):Prop where
 cells:w.cell? ⟨p,0,none⟩=some (.pointer (some ⟨g,0,none⟩))/\w.cell? ⟨p,1,none⟩=some lv/\w.cell? ⟨p,2,none⟩=some (.string msg)
 lt:p<w.heap.size
 iJ:oK w w.heap.size lv l
 key:Ig w g cs
theorem V7.later{w w':World}{p g:Nat}{lv:Value}{cs:List Int}{l:List Cm}{msg:ByteArray}(h:V7 w p g lv cs l msg)(hb:Below w.heap.size w w'):V7 w' p g lv cs l msg:=by
 obtain⟨c0,c1,c2⟩:=h.cells;exact⟨⟨(hb.cell (p:=⟨p,0,none⟩) h.lt).trans c0,(hb.cell (p:=⟨p,1,none⟩) h.lt).trans c1,(hb.cell (p:=⟨p,2,none⟩) h.lt).trans c2⟩,Nat.lt_of_lt_of_le h.lt hb.size,h.iJ.later hb,h.key.later hb⟩
section
variable{w:World}{p g:Nat}{lv:Value}{n:Int}{cs:List Int}{l:List Cm}{msg:ByteArray}
theorem by3(hK:Ig w g cs)(hl:0<cs.length):
  Calls Try.prog 40 #[.pointer (some ⟨g,0,none⟩)] w fun e w'=>e=.returned (.int .u64 (cs.getD 0 0))/\w=w':=by
 obtain⟨gc,cap,g2,-,-,hc⟩:=hK;have hc0:=hc hl;have hl':(0:Int)<(cs.length:Int):=by omega
 clear hc;generalize cs.getD 0 0=X at*
 go_enter Try.func40,Try.ntmps40
 go_wp2_with fail
 go_ret
 exact⟨rfl,rfl⟩
theorem atW(h:V7 w p g lv cs l msg){k:Nat}(hk:k<l.length):
  Calls Try.prog 34 #[.pointer (some ⟨p,0,none⟩),.int .i64 k] w fun e w'=>e=.returned (.agg #[.int .i64 (l.getD k .zero).id,.int .u64 (l.getD k .zero).d,.int .u64 (l.getD k .zero).e])/\Below w.heap.size w w':=by
 obtain⟨p0,p1,p2⟩:=h.cells;obtain⟨A,c,rfl⟩:=h.iJ.shape;obtain⟨b,off,rfl,hb,hc⟩:=h.iJ.at_ (by omega);obtain⟨x0,x1,x2⟩:=hc k hk;have hp:=h.lt;clear h hc;generalize(l.getD k .zero).id=X at*;generalize(l.getD k .zero).d=D at*;generalize(l.getD k .zero).e=E at*;have k1:(0:Int)<=(k:Int):=by omega
 have k2:(k:Int)<(l.length:Int):=by omega
 go_enter Try.func34,Try.ntmps34
 go_wp2_with fail
 refine bodyPost_ret (v:=.agg #[.int .i64 X,.int .u64 D,.int .u64 E]) (by simp[results,Try.results34,go_sem]) rfl ?_;exact⟨rfl,by first|exact aK _ _|exact(((aK _ _).setCell (Nat.le_refl _) _).setCell (Nat.le_refl _) _).setCell (Nat.le_refl _) _⟩
theorem bl5(h:V7 w p g lv cs l msg)(hgd:ni.Good n l)(hn:n<=9)(Dh:l.length<=9)(hcl:0<cs.length)(hc0:0<=cs.getD 0 0/\cs.getD 0 0<18446744073709551616)(hms:msg.size<=1000000){k:Nat}(hk:k<l.length):
  Calls Try.prog 38 #[.pointer (some ⟨p,0,none⟩),.int .i64 k] w fun e w'=>e=.returned (.int .u64 (lH l (cs.getD 0 0) msg k))/\Below w.heap.size w w':=by
 obtain⟨p0,p1,p2⟩:=h.cells;obtain⟨A,c,rfl⟩:=h.iJ.shape;obtain⟨b,off,rfl,hb,hc⟩:=h.iJ.at_ (by omega);obtain⟨x0,x1,x2⟩:=hc k hk;have hp:=h.lt;have hgk:=hgd k hk;have H:=Lib.hid h;have HC:=Lib.hid hc;have HG:=Lib.hid hgd;have HBD:=Lib.hid (CJ hgd hn hc0 hk);have hnm:Hid (dB l (cs.getD 0 0) k 0=[(l.getD k .zero).id,cs.getD 0 0]):=by
  show _=_;simp[dB,flat]
 have wX:IntKind.u64.wrap (l.getD k .zero).id=(l.getD k .zero).id:=lN (by omega) (by omega);have k1:(0:Int)<=(k:Int):=by omega
 have k2:(k:Int)<(l.length:Int):=by omega
 obtain⟨i0,hi,hz0,hz1,hz2⟩:=info_parts GZ;have hbP:Hid (lH l (cs.getD 0 0) msg k=vX 1 msg (dB l (cs.getD 0 0) k l.length)):=by
  show lH l (cs.getD 0 0) msg k=_;rfl
 have hkc:=Lib.hid (by3 (w:=w.drew) (show Ig w.drew g cs from h.key) hcl);clear h hc hgd hgk hc0 x1 x2;generalize(l.getD k .zero).id=X at*;generalize cs.getD 0 0=K at*
 go_enter Try.func38,Try.ntmps38
 go_wp2_with fail
 go_region_held3 (fun w'=>(w'.cell? ⟨p,0,none⟩=some (.pointer (some ⟨g,0,none⟩))/\w'.cell? ⟨p,1,none⟩=some (.slice (some ⟨b,off,none⟩) l.length c))/\w'.cell? ⟨b,off+k*3,none⟩=some (.int .i64 X)) (go_keep)
  (first|(go_at_call 40;refine hkc.out.mono ?_;rintro e w' ⟨rfl,rfl⟩))
 all_goals
  have hown0:((w.alloc (.cells #[.int .u64 X,.int .u64 K] 25)).drew).ownsRow w.heap.size 25 1 (.slice (some ⟨w.heap.size,0,none⟩) 2 2) (2+3*0) ((dB l K k 0).map (Value.int .u64)):=by
   rw[hnm.out];exact World.ownsRow_lit w #[.int .u64 X,.int .u64 K] 2 (Nat.le_refl _) (by unfold maxLen;omega) rfl
  have hbw0:Below w.heap.size w (w.alloc (.cells #[.int .u64 X,.int .u64 K] 25)).drew:=(aK _ _).drew;generalize(w.alloc (.cells #[.int .u64 X,.int .u64 K] 25)).drew=w1 at*;have HP1:=Lib.hid (H.out.later hbw0);obtain⟨r0,r1,r2⟩:=HP1.out.cells;have HO0:=Lib.hid hown0;have HB0:=Lib.hid hbw0;clear hown0 hbw0 p0 p1 p2
  go_wp2_with fail
  go_loopw [5,28] (fun v i wr=>∃j:Nat,j<=l.length/\i=.int .i64 j/\wr.ownsRow w.heap.size 25 1 v (2+3*j) ((dB l K k j).map (Value.int .u64))/\Below w.heap.size w wr) (fun _ i _=>l.length-(intOf i).toNat)
  case atStart=>exact⟨0,by omega,rfl,HO0.out,HB0.out⟩
  case round=>
   obtain⟨j,hj,rfl,hown,hbw⟩:=hrel;have HO:=Lib.hid hown;clear hown r0 r1 r2;by_cases hlt:j<l.length
   ·obtain⟨y0,y1,y2⟩:=HC.out j hlt;replace y0:=(hbw.cell (p:=⟨b,off+j*3,none⟩) hb).trans y0;replace y1:=(hbw.cell (p:=⟨b,off+j*3+1,none⟩) hb).trans y1;replace y2:=(hbw.cell (p:=⟨b,off+j*3+2,none⟩) hb).trans y2;have hgj:=HG.out j hlt;have wY:IntKind.u64.wrap (l.getD j .zero).id=(l.getD j .zero).id:=lN (by omega) (by omega);have hst:=Lib.hid (xU l K k j);have hlen:wr.heap.size<(wr.alloc (.cells #[.int .i64 (l.getD j .zero).id,.int .u64 (l.getD j .zero).d,.int .u64 (l.getD j .zero).e] 37)).heap.size:=by simp
    obtain⟨⟨gj1,gj2⟩,-⟩:=hgj;generalize(l.getD j .zero).id=Y at*;generalize(l.getD j .zero).d=D at*;generalize(l.getD j .zero).e=E at*
    go_wp2_with (at_builtin;refine wpList_append_own _ rfl (.tmp 32) (.tmp 40) _ rfl w.heap.size 25 i0 (.int .u64 0) 1 8 Try.underlying26 hi hz0 hz1 hz2 rfl (by decide) _ _ _ rfl ((HO.out.alloc _).alloc _) ⟨wr.heap.size+1,0,none⟩ 3 3 [.int .u64 Y,.int .u64 D,.int .u64 E] rfl rfl (World.news_of_block (jc _ _ (by simp))) (by simp[Value.oneCell']) (by unfold maxLen;omega) (by omega) (by have:=hbw.size;simp;omega) ?_;intro v1 w2 hown1 hgrow1 _)
    have hbw2:=(((hbw.alloc hbw.size (.cells #[.int .i64 Y,.int .u64 D,.int .u64 E] 37)).alloc (by have:=hbw.size;simp;omega) (.cells #[.int .u64 Y,.int .u64 D,.int .u64 E] 25)).grown hgrow1 (by have:=hbw.size;simp;omega) fun k hk=>(((HO.out.alloc (.cells #[.int .i64 Y,.int .u64 D,.int .u64 E] 37)).alloc (.cells #[.int .u64 Y,.int .u64 D,.int .u64 E] 25)).lt k hk).1);refine⟨⟨j+1,by omega,by go_num,by rw[hst.out,List.map_append,show 2+3*(j+1)=2+3*j+3 by omega];exact hown1,hbw2⟩,by simp[intOf];omega⟩
   ·obtain rfl:j=l.length:=by omega
    have HPf:=Lib.hid (H.out.later hbw);obtain⟨r0,r1,r2⟩:=HPf.out.cells;have OI:=Nums.own (l:=dB l K k l.length) (by rw[kX];exact HO.out);have hh:=Lib.hid (Yj 1 msg (dB l K k l.length) _ wr OI (by rw[kX];omega) hms (by omega) (by omega) HBD.out);obtain⟨A5,c5,rfl⟩:=kH HO.out;rw[<-hbP.out]at hh;clear OI
    go_wp2_with fail
    refine hh.out.mono ?_;rintro e w' ⟨rfl,x,rfl⟩
    go_wp2_with fail
    go_ret
    exact⟨rfl,hbw.alloc hbw.size _⟩
theorem aY8(h:V7 w p g lv cs l msg)(hgd:ni.Good n l)(hn:n<=9)(Dh:l.length<=9)(hcl:0<cs.length)(hc0:0<=cs.getD 0 0/\cs.getD 0 0<18446744073709551616)(hms:msg.size<=1000000){k:Nat}(hk:k<l.length):
  Calls Try.prog 45 #[.pointer (some ⟨p,0,none⟩),.int .i64 k] w fun e w'=>e=.returned (.int .u64 (lV l (cs.getD 0 0) msg k))/\Below w.heap.size w w':=by
 obtain⟨p0,p1,p2⟩:=h.cells;obtain⟨A,c,rfl⟩:=h.iJ.shape;obtain⟨b,off,rfl,hb,hc⟩:=h.iJ.at_ (by omega);obtain⟨x0,x1,x2⟩:=hc k hk;obtain⟨-,-,⟨d0,d1⟩,e0,e1⟩:=hgd k hk;have hP:Hid (lV l (cs.getD 0 0) msg k=mV (l.getD k .zero).d (pw (l.getD k .zero).e (lH l (cs.getD 0 0) msg k).toNat 2147483579)):=by
  show lV l (cs.getD 0 0) msg k=_;rfl
 have hbx:=aK w (.cells #[.int .i64 (l.getD k .zero).id,.int .u64 (l.getD k .zero).d,.int .u64 (l.getD k .zero).e] 37);have hbi:=Lib.hid (bl5 (h.later hbx.drew) hgd hn Dh hcl hc0 hms hk);have hbb:=rV l (cs.getD 0 0) msg k;have k1:(0:Int)<=(k:Int):=by omega
 have k2:(k:Int)<(l.length:Int):=by omega
 have HBX:=Lib.hid hbx;obtain⟨bb0,bb1⟩:=hbb;have b0:(w.alloc (.cells #[.int .i64 (l.getD k .zero).id,.int .u64 (l.getD k .zero).d,.int .u64 (l.getD k .zero).e] 37)).cell? ⟨w.heap.size,1,none⟩=some (.int .u64 (l.getD k .zero).d):=by simp
 have b1:(w.alloc (.cells #[.int .i64 (l.getD k .zero).id,.int .u64 (l.getD k .zero).d,.int .u64 (l.getD k .zero).e] 37)).cell? ⟨w.heap.size,2,none⟩=some (.int .u64 (l.getD k .zero).e):=by simp
 have hsz:w.heap.size<(w.alloc (.cells #[.int .i64 (l.getD k .zero).id,.int .u64 (l.getD k .zero).d,.int .u64 (l.getD k .zero).e] 37)).heap.size:=by simp
 clear h hc hgd hc0 hbx;generalize(l.getD k .zero).id=X at*;generalize(l.getD k .zero).d=D at*;generalize(l.getD k .zero).e=E at*;generalize lH l (cs.getD 0 0) msg k=Bd at*;generalize lV l (cs.getD 0 0) msg k=R at*
 go_enter Try.func45,Try.ntmps45
 go_wp2_with fail
 generalize w.alloc (.cells #[.int .i64 X,.int .u64 D,.int .u64 E] 37)=wb at*
 go_region_held3 (fun w'=>w'.cell? ⟨w.heap.size,1,none⟩=some (.int .u64 D)/\w'.cell? ⟨w.heap.size,2,none⟩=some (.int .u64 E))
  (first|go_keep|(exact⟨(hb1.cell (p:=⟨w.heap.size,1,none⟩) hsz).trans b0,(hb1.cell (p:=⟨w.heap.size,2,none⟩) hsz).trans b1⟩))
  (first|(go_at_call 38;refine hbi.out.mono ?_;rintro e w1 ⟨rfl,hb1⟩)|(go_at_call 48;refine(AL E Bd _ (by omega) e1 bb0 (by omega)).mono ?_;rintro e w' ⟨rfl,rfl⟩)|(go_at_call 46;refine(qP _ _ _).mono ?_;rintro e w' ⟨rfl,rfl⟩))
 all_goals
  go_wp2_with fail
  go_ret
  exact⟨by rw[hP.out];rfl,HBX.out.trans (((Below.refl _ _).drew).trans (hb1.mono (Nat.le_of_lt hsz)))⟩
theorem Pv(h:V7 w p g lv cs l msg)(Dh:l.length<=9){k:Nat}(hk:k<l.length):
  Calls Try.prog 41 #[.pointer (some ⟨p,0,none⟩),.int .i64 k] w fun e w'=>e=.returned (.int .u64 (fF (gV l l.length) k))/\Below w.heap.size w w':=by
 obtain⟨p0,p1,p2⟩:=h.cells;obtain⟨A,c,rfl⟩:=h.iJ.shape;obtain⟨b,off,rfl,hb,hc⟩:=h.iJ.at_ (by omega);have H:=Lib.hid h;have HC:=Lib.hid hc;obtain⟨i0,hi,hz0,hz1,hz2⟩:=info_parts G5;clear h hc
 go_enter Try.func41,Try.ntmps41
 go_wp2_with fail
 go_loopw [5,13] (fun v i wr=>∃j:Nat,j<=l.length/\i=.int .i64 j/\wr.ownsRow w.heap.size 3 1 v j ((gV l j).map (Value.int .i64))/\Below w.heap.size w wr) (fun _ i _=>l.length-(intOf i).toNat)
 case atStart=>exact⟨0,by omega,rfl,World.ownsRow_nil _ _ _ _,Below.refl _ _⟩
 case round=>
  obtain⟨j,hj,rfl,hown,hbw⟩:=hrel;have HO:=Lib.hid hown;clear hown p0 p1 p2;by_cases hlt:j<l.length
  ·obtain⟨y0,y1,y2⟩:=HC.out j hlt;replace y0:=(hbw.cell (p:=⟨b,off+j*3,none⟩) hb).trans y0;replace y1:=(hbw.cell (p:=⟨b,off+j*3+1,none⟩) hb).trans y1;replace y2:=(hbw.cell (p:=⟨b,off+j*3+2,none⟩) hb).trans y2;have hst:=Lib.hid (ES l j);generalize(l.getD j .zero).id=Y at*;generalize(l.getD j .zero).d=D at*;generalize(l.getD j .zero).e=E at*
   go_wp2_with (at_builtin;refine wpList_append_own _ rfl (.tmp 17) (.tmp 20) _ rfl w.heap.size 3 i0 (.int .i64 0) 1 8 Try.underlying29 hi hz0 hz1 hz2 rfl (by decide) _ _ _ rfl ((HO.out.alloc _).alloc _) ⟨wr.heap.size+1,0,none⟩ 1 1 [.int .i64 Y] rfl rfl (World.news_of_block (jc _ _ (by simp))) (by simp[Value.oneCell']) (by unfold maxLen;omega) (by omega) (by have:=hbw.size;simp;omega) ?_;intro v1 w2 hown1 hgrow1 _)
   have hbw2:=(((hbw.alloc hbw.size (.cells #[.int .i64 Y,.int .u64 D,.int .u64 E] 37)).alloc (by have:=hbw.size;simp;omega) (.cells #[.int .i64 Y] 3)).grown hgrow1 (by have:=hbw.size;simp;omega) fun k hk=>(((HO.out.alloc (.cells #[.int .i64 Y,.int .u64 D,.int .u64 E] 37)).alloc (.cells #[.int .i64 Y] 3)).lt k hk).1);refine⟨⟨j+1,by omega,by go_num,by rw[hst.out,List.map_append];exact hown1,hbw2⟩,by simp[intOf];omega⟩
  ·obtain rfl:j=l.length:=by omega
   have OI:=Nums.own (l:=gV l l.length) (by rw[kL];exact HO.out);obtain⟨A5,c5,rfl⟩:=kH HO.out;have hlg:=Lib.hid (GY (gV l l.length) k _ wr OI (by rw[kL];omega) (by rw[kL];exact hk));clear OI
   go_wp2_with fail
   refine hlg.out.mono ?_;rintro e w' ⟨rfl,nq,rfl⟩
   go_wp2_with fail
   go_ret
   exact⟨rfl,below_drewN hbw _⟩
end
end
end Dl
namespace J5
open Go.RowKit Go.Conc Cc Pl ny oI ni Mem oG Dl Ad Ud
open qj hiding base
def cZ(rt:Nat->Bool)(l:List Cm):Nat->List Int
 |0=>[]
 |k+1=>if rt k then cZ rt l k else cZ rt l k++[(l.getD k .zero).id]
theorem Kq(rt:Nat->Bool)(l:List Cm)(k:Nat):(cZ rt l k).length<=k:=by
 induction k with
 |zero=>simp[cZ]
 |succ k ih=>
  rw[cZ];split
  ·omega
  ·simp;omega
theorem Ug{rt:Nat->Bool}{l:List Cm}{k:Nat}{b:Bool}(e:rt k=b)(hb:b=true):cZ rt l (k+1)=cZ rt l k:=by rw[cZ,e,hb];rfl
theorem Wu{rt:Nat->Bool}{l:List Cm}{k:Nat}{b:Bool}(e:rt k=b)(hb:b=false):cZ rt l (k+1)=cZ rt l k++[(l.getD k .zero).id]:=by rw[cZ,e,hb];rfl
theorem Gq(rt:Nat->Bool)(l:List Cm)(k:Nat):cZ rt l k=[]↔∀j,j<k->rt j=true:=by
 induction k with
 |zero=>exact⟨fun _ j hj=>by omega,fun _=>rfl⟩
 |succ k ih=>
  rw[cZ];split
  ·rename_i h;rw[ih];exact⟨fun h1 j hj=>(by by_cases e:j=k;(subst e;exact h);exact h1 j (by omega)),fun h1 j hj=>h1 j (by omega)⟩
  ·rename_i h;exact⟨fun h1=>by simp at h1,fun h1=>absurd (h1 k (by omega)) h⟩
def agU(b8 b13 b16 b17:Nat)(r:Int):Array Value:=#[undef,undef,undef,undef,undef,undef,undef,undef,.pointer (some ⟨b8,0,none⟩),.slice none 0 0,.int .i64 0,undef,undef,.pointer (some ⟨b13,0,none⟩),.int .u64 r,undef,.pointer (some ⟨b16,0,none⟩),.pointer (some ⟨b17,0,none⟩),undef,undef,undef,undef,undef,undef,undef,undef,undef,undef,undef,undef,undef,undef,undef,undef,undef,undef,undef,undef,undef,undef,undef,undef,undef,undef,undef,undef,undef,undef,undef,undef,undef,undef,undef,undef,undef,undef,undef,undef,undef,undef,undef,undef,undef,undef,undef,undef,undef,undef,undef,undef,undef,undef,undef,undef,undef,undef,undef,undef,undef,undef,undef,undef,undef,undef,undef,undef,undef,undef,undef,undef,undef,undef,undef,undef,undef,undef,undef,undef,undef,undef,undef,undef,undef,undef,undef,undef,undef]
def Ot(r:Int)(zt wr:List Int)(w:World)(v:Value)(w':World):Prop:=
 (wr=[]/\v=.tuple #[.agg #[.int .u64 r,.int .u64 (xA 0 zt zt.length)],.slice none 0 0,.int .i64 0])\/
 (wr≠[]/\∃W,v=.tuple #[.agg #[.int .u64 0,.int .u64 0],W,.int .i64 14]/\w'.ownsRow w.heap.size 3 1 W wr.length (wr.map (Value.int .i64)))
def Zn(r:Int)(zt wr:List Int)(w:World):Exit->Act->World->Prop:=fun e a w'=>e=.ret/\a.defers=[]/\∃v,(Go.results Try.f16 a.tmps).run Try.prog w'=.ok v w'/\Ot r zt wr w v w'
theorem vO:(Try.prog.info? 3).map (fun i=>(i.zero,i.size,i.bytes))=some (some (.int .i64 0),1,8):=by kernel_rfl
theorem aL7{r S:Int}{zt wr:List Int}{w wq:World}{b8:Nat}{T:Array Value}(h0:wr=[])(hS:S=xA 0 zt zt.length)(h8:bZ wq b8 46 #[.int .u64 0,.int .u64 0])(t8:T[8]?=some (.pointer (some ⟨b8,0,none⟩)):=by rfl)(t9:T[9]?=some (.slice none 0 0):=by rfl)(t10:T[10]?=some (.int .i64 0):=by rfl):
  Zn r zt wr w Exit.ret ⟨T,[]⟩ ((wq.setCell ⟨b8,0,none⟩ (.int .u64 r)).setCell ⟨b8,1,none⟩ (.int .u64 S)):=by
 have B:=((h8.gK 0 (.int .u64 r)).gK 1 (.int .u64 S));have c0:=B.cell 0;have c1:=B.cell 1;refine⟨rfl,rfl,_,?_,.inl ⟨h0,rfl⟩⟩;subst hS;simp[Go.results,Try.results16,t8,t9,t10,go_sem,c0,c1]
theorem aj2{r:Int}{zt wr:List Int}{w wq:World}{b8:Nat}{T:Array Value}{W:Value}(h0:¬wr=[])(hW:wq.ownsRow w.heap.size 3 1 W wr.length (wr.map (Value.int .i64)))(hlt:b8<w.heap.size)(h8:bZ wq b8 46 #[.int .u64 0,.int .u64 0])(t8:T[8]?=some (.pointer (some ⟨b8,0,none⟩)):=by rfl)(t9:T[9]?=some W:=by rfl)(t10:T[10]?=some (.int .i64 14):=by rfl):
  Zn r zt wr w Exit.ret ⟨T,[]⟩ ((wq.setCell ⟨b8,0,none⟩ (.int .u64 0)).setCell ⟨b8,1,none⟩ (.int .u64 0)):=by
 have B:=((h8.gK 0 (.int .u64 0)).gK 1 (.int .u64 0));have c0:=B.cell 0;have c1:=B.cell 1;refine⟨rfl,rfl,.tuple #[.agg #[.int .u64 0,.int .u64 0],W,.int .i64 14],?_,.inr ⟨h0,W,rfl,?_⟩⟩
 ·simp[Go.results,Try.results16,t8,t9,t10,go_sem,c0,c1]
 ·refine hW.kept (row:=some b8) (grownBy_set (grownBy_set (World.grownBy.refl _ _) _ _) _ _) ?_;cases hk:W.ownBlock with
  |none=>exact .inl rfl
  |some k=>
   have:=(hW.lt k hk).1;exact .inr fun e=>by cases e;omega
theorem Ej(x d e:Int)(w:World):(Instr.field 37 (.agg #[.int .i64 x,.int .u64 d,.int .u64 e]) 0).run Try.prog w=.ok (.int .i64 x) w:=by kernel_rfl
theorem aX8{w:World}{b8 b13 b16 b17 Rb Zb Pb Gb:Nat}{lv:Value}{cs:List Int}{l:List Cm}{msg:ByteArray}{n xH tN:Nat}{rt:Nat->Bool}{zt:List Int}{r:Int}(hP:V7 w Pb Gb lv cs l msg)(hl:l.length=n)(hn:n<=9)(hz:zt.length=n)
  (h8:bZ w b8 46 #[.int .u64 0,.int .u64 0])(h13:w.cell? ⟨b13,0,none⟩=some (.pointer (some ⟨Pb,0,none⟩)))(h16:w.cell? ⟨b16,0,none⟩=some (.slice (some ⟨Rb,0,none⟩) n xH))(h17:w.cell? ⟨b17,0,none⟩=some (.slice (some ⟨Zb,0,none⟩) n tN))
  (hR:∀k,k<n->w.cell? ⟨Rb,k,none⟩=some (.bool (rt k)))(hZ:Nums .u64 w w.heap.size (.slice (some ⟨Zb,0,none⟩) n tN) zt):
  yN.wp Try.prog (Zn r zt (cZ rt l n) w) ⟨agU b8 b13 b16 b17 r,[]⟩ w:=by
 simp only[yN,tV,jP,dP,Try.f16,Option.getD_some,agU];obtain⟨i0,hi,hz0,hz1,hz2⟩:=info_parts vO;have HP:=Lib.hid hP;have HR:=Lib.hid hR;have HZ:=Lib.hid hZ;have H8:=Lib.hid h8;clear hP hR hZ h8
 go_wp2_with fail
 go_loopw [21,83] (fun v i wr=>∃k:Nat,k<=n/\i=.int .i64 k/\wr.ownsRow w.heap.size 3 1 v (cZ rt l k).length ((cZ rt l k).map (Value.int .i64))/\Below w.heap.size w wr) (fun _ i _=>n-(intOf i).toNat)
 case atStart=>exact⟨0,by omega,rfl,World.ownsRow_nil _ _ _ _,Below.refl _ _⟩
 case round=>
  obtain⟨k,hk,rfl,hown,hbw⟩:=hrel;obtain⟨A1,c1,rfl⟩:=kH hown;have HO:=Lib.hid hown;have c13:=(hbw.cell (World.block_lt_of_cell? w _ h13)).trans h13;clear hown;by_cases hlt:k<n
  ·have hc:=HR.out k hlt;have hc':=(hbw.cell (World.block_lt_of_cell? w _ hc)).trans hc;have hyes:=fun(hb:rt k=true)=>Lib.hid (Ug (l:=l) rfl hb)
   have hno:=fun(hb:rt k=false)=>Lib.hid (Wu (l:=l) rfl hb)
   have hwl:=Kq rt l k;have HAT:=Lib.hid (atW (HP.out.later hbw) (k:=k) (by omega));clear hc;generalize rt k=bb at*;cases bb
   case true=>
    have hst:=hyes rfl;clear hyes hno
    go_wp2_with fail
    exact⟨⟨k+1,by omega,by go_num,by rw[hst.out];exact HO.out,hbw⟩,by simp[intOf];omega⟩
   case false=>
    have hst:=hno rfl;clear hyes hno;generalize(l.getD k .zero).id=X at*;generalize(l.getD k .zero).d=Y at*;generalize(l.getD k .zero).e=Z at*;have hfr:=Ej X Y Z
    go_wp2_with (first|(go_at_call 34;refine HAT.out.mono ?_;rintro e w2 ⟨rfl,hb2⟩;have HO2:=Lib.hid (own_below HO.out hb2 (Nat.le_refl _));have hbw2:=hbw.trans (hb2.mono hbw.size))|(at_builtin;refine wpList_append_own _ rfl (.tmp 90) (.tmp 95) _ rfl w.heap.size 3 i0 (.int .i64 0) 1 8 Try.underlying29 hi hz0 hz1 hz2 rfl (by decide) _ _ _ rfl (HO2.out.alloc _) ⟨w2.heap.size,0,none⟩ 1 1 [.int .i64 X] rfl rfl (cell_one_new _ _ _) (by simp[Value.oneCell']) (by unfold maxLen;omega) (by omega) (by have:=hbw2.size;simp;omega) ?_;intro v1 w1 hown1 hgrow1 _))
    refine⟨⟨k+1,by omega,by go_num,?_,below_grown hbw2 HO2.out hbw2.size hgrow1⟩,by simp[intOf];omega⟩;rw[hst.out,List.length_append,List.map_append];exact hown1
  ·obtain rfl:k=n:=by omega
   have b8':=H8.out.below hbw H8.out.lt;have e80:=b8'.cell 0;have e81:=b8'.cell 1;have f80:=b8'.frozen 0;have f81:=b8'.frozen 1;have B8:=Lib.hid b8';by_cases h0:cZ rt l k=[]
   ·have g0:((cZ rt l k).length:Int)=0:=by rw[h0];rfl
    have g1:¬(0:Int)<((cZ rt l k).length:Int):=by omega
    have c17:=(hbw.cell (World.block_lt_of_cell? w _ h17)).trans h17;have hF:=Lib.hid (bi7 0 zt _ wr (HZ.out.later hbw) (by omega));clear b8'
    go_wp2_with (go_at_call 50;refine hF.out.mono ?_;rintro e w2 ⟨rfl,rfl⟩)
    exact aL7 h0 (by rw[hz]) B8.out
   ·have g0:(0:Int)<((cZ rt l k).length:Int):=by
     have:(cZ rt l k).length≠0:=fun e=>h0 (List.length_eq_zero_iff.1 e)
     omega
    clear b8'
    go_wp2_with fail
    exact aj2 h0 HO.out H8.out.lt B8.out
end J5
namespace Cc
open Go.Conc Go.ConcN Go.RowKit
def aX3:List FuncId:=[30,31,45,34,41,37,46,48,70,38,78,40,77,108,109,110]
def wS(f:FuncId):Bool:=aX3.contains f
theorem uj:qh Try.prog wS:=by
 intro f hf;unfold wS aX3 at hf;simp only[List.contains_cons,List.contains_nil,Bool.or_false,Bool.or_eq_true,beq_iff_eq]at hf;rcases hf with rfl|rfl|rfl|rfl|rfl|rfl|rfl|rfl|rfl|rfl|rfl|rfl|rfl|rfl|rfl|rfl
 ·exact⟨_,_,Try.func30,rfl,by kernel_rfl,by kernel_rfl⟩
 ·exact⟨_,_,Try.func31,rfl,by kernel_rfl,by kernel_rfl⟩
 ·exact⟨_,_,Try.func45,rfl,by kernel_rfl,by kernel_rfl⟩
 ·exact⟨_,_,Try.func34,rfl,by kernel_rfl,by kernel_rfl⟩
 ·exact⟨_,_,Try.func41,rfl,by kernel_rfl,by kernel_rfl⟩
 ·exact⟨_,_,Try.func37,rfl,by kernel_rfl,by kernel_rfl⟩
 ·exact⟨_,_,Try.func46,rfl,by kernel_rfl,by kernel_rfl⟩
 ·exact⟨_,_,Try.func48,rfl,by kernel_rfl,by kernel_rfl⟩
 ·exact⟨_,_,Try.func70,rfl,by kernel_rfl,by kernel_rfl⟩
 ·exact⟨_,_,Try.func38,rfl,by kernel_rfl,by kernel_rfl⟩
 ·exact⟨_,_,Try.func78,rfl,by kernel_rfl,by kernel_rfl⟩
 ·exact⟨_,_,Try.func40,rfl,by kernel_rfl,by kernel_rfl⟩
 ·exact⟨_,_,Try.func77,rfl,by kernel_rfl,by kernel_rfl⟩
 ·exact⟨_,_,Try.func108,rfl,by kernel_rfl,by kernel_rfl⟩
 ·exact⟨_,_,Try.func109,rfl,by kernel_rfl,by kernel_rfl⟩
 ·exact⟨_,_,Try.func110,rfl,by kernel_rfl,by kernel_rfl⟩
end Cc
namespace Cc
open Go.Conc Go.ConcN
open Go.ConcM (OsLater)
structure JK(st:St aJ)(w':World)(es:Array Event):Prop where
 size:st.w.heap.size<=w'.heap.size
 evs:∀e∈es,∃b off x,e=⟨ca b off,x,false⟩/\b<w'.heap.size/\(∀s,st.γ.sc=some s->b≠s.Gb)/\(st.γ.ex 0 (ca b off)\/(x=false/\st.γ.rd 0 (ca b off))\/st.w.heap.size<=b)
 os:w'.os=st.w.os
 out:w'.output=st.w.output
 blk:∀b,b<st.w.heap.size->w'.heap[b]?=st.w.heap[b]?\/∀off,st.γ.ex 0 (ca b off)
section
variable{q:ig}{s:aO}{mw:MW}{dm num:Nat}{K:List (Nat×Obj)}{Ch:Nat->Goroutine->St aJ->Prop}
theorem Inv.aZ0{st:St aJ}(h:Inv q st){w':World}{es:Array Event}(H:JK st w' es)(fn:FuncId)(pos:String):
  Inv q ⟨w',st.t++MemOp.ofEvents 0 fn pos es,st.γ.grow 0 st.w.heap.size w'.heap.size⟩/\∀j,j≠0->Rl j st ⟨w',st.t++MemOp.ofEvents 0 fn pos es,st.γ.grow 0 st.w.heap.size w'.heap.size⟩:=by
 have xY:∀e∈es,∀x,(MemAct.ofEvent e).touch?=some x->∃b off y,x=⟨ca b off,y,.plain⟩/\b<w'.heap.size/\(∀s,st.γ.sc=some s->b≠s.Gb)/\(st.γ.ex 0 (ca b off)\/(y=false/\st.γ.rd 0 (ca b off))\/st.w.heap.size<=b):=fun e he x hx=>by
  obtain⟨b,off,y,rfl,h1,h2,h3⟩:=H.evs e he;cases hx;exact⟨b,off,y,rfl,h1,h2,h3⟩
 refine h.own (i:=0) h.base.pos (.inl rfl) (fun e=>absurd rfl e) H.size (fun e he x hx=>?_) (fun e he=>?_) (fun e=>absurd rfl e) (by rw[H.os];exact .refl _) H.out H.blk fun s hs e he x hx=>?_
 ·obtain⟨b,off,y,rfl,h1,h2,h3⟩:=xY e he x hx;refine⟨?_,fun b' hb'=>by cases hb';exact h1⟩;rcases h3 with h3|⟨rfl,h3⟩|h3
  ·exact .inr (.inl h3)
  ·exact .inr (.inr (.inl ⟨h3,rfl⟩))
  ·exact .inr (.inr (.inr (.inr ⟨b,rfl,h3⟩)))
 ·obtain⟨b,off,y,rfl,h1,h2,h3⟩:=H.evs e he;refine⟨by simp[ca],by simp[ca],fun a=>by simp[ca]⟩
 ·obtain⟨b,off,y,rfl,h1,h2,h3⟩:=xY e he x hx;refine⟨fun o o1 o2 e=>h2 s hs (fU e).1,fun e=>absurd (fU e).1 (h2 s hs)⟩
def FT(st:St aJ)(w':World)(K':List (Nat×Obj)):Prop:=∀b o,(b,o)∈K'->w'.heap[b]?=some o/\((∀off,st.γ.ex 0 (ca b off))\/(∀off,st.γ.rd 0 (ca b off))\/st.w.heap.size<=b)/\¬st.γ.dead b
theorem S9{st:St aJ}{w':World}{K':List (Nat×Obj)}{t:Trace}(hK:FT st w' K'):∀b o,(b,o)∈K'->w'.heap[b]?=some o/\((∀off,(st.γ.grow 0 st.w.heap.size w'.heap.size).ex 0 (ca b off))\/∀off,(st.γ.grow 0 st.w.heap.size w'.heap.size).rd 0 (ca b off)):=fun b o hb=>by
 obtain⟨h1,h2|h2|h2,_⟩:=hK b o hb
 ·exact⟨h1,.inl fun off=>.inl (h2 off)⟩
 ·exact⟨h1,.inr h2⟩
 ·exact⟨h1,.inl fun off=>.inr ⟨rfl,b,rfl,h2,lt_of_block h1⟩⟩
theorem TT.aF7{P:Program}(hP:q.P=P){g:Goroutine}{st:St aJ}(hA:nP s mw dm num K st)
  (h:∀ah,Rl 0 st ah->nP s mw dm num K ah->Inv q ah->∃g' w' es K',stepG P (0==0) g ah.w=.go g' w' es/\g'.status=.running/\JK ah w' es/\FT ah w' K'/\
   ∀ay,ay.w=w'->nP s mw dm num K' ay->Inv q ay->(∀l,ah.γ.ex 0 l->ay.γ.ex 0 l)->(∀b off,ah.w.heap.size<=b->b<w'.heap.size->ay.γ.ex 0 (ca b off))->TT (cfg q) 0 Ch g' ay):TT (cfg q) 0 Ch g st:=by
 subst hP;refine TT.act fun ah hr hi=>?_
 have au:=hA.rely hr;obtain⟨g',w',es,K',h1,h2,h3,h4,h5⟩:=h ah hr au hi;obtain⟨k1,k2⟩:=hi.aZ0 h3 g.frame.fn g.frame.place;exact⟨fun hl=>hl.1 rfl,g',w',es,ah.γ.grow 0 ah.w.heap.size w'.heap.size,h1,h2,rfl,⟨k1,k2⟩,.inr fun k hk hw=>hw,
  h5 _ rfl ⟨au.sc,au.mw,au.dm,au.num,S9 (t:=ah.t) h4,fun b o hb=>(h4 b o hb).2.2⟩ k1 (fun l hl=>.inl hl) fun b off b1 b2=>.inr ⟨rfl,b,rfl,b1,b2⟩⟩
theorem TT.az6{P:Program}(hP:q.P=P){g:Goroutine}{st:St aJ}(hA:jX dm num K st)
  (h:∀ah,Rl 0 st ah->jX dm num K ah->Inv q ah->∃g' w' es K',stepG P (0==0) g ah.w=.go g' w' es/\g'.status=.running/\JK ah w' es/\FT ah w' K'/\
   ∀ay,ay.w=w'->jX dm num K' ay->Inv q ay->(∀l,ah.γ.ex 0 l->ay.γ.ex 0 l)->(∀b off,ah.w.heap.size<=b->b<w'.heap.size->ay.γ.ex 0 (ca b off))->TT (cfg q) 0 Ch g' ay):TT (cfg q) 0 Ch g st:=by
 subst hP;refine TT.act fun ah hr hi=>?_
 have au:=hA.rely hr;obtain⟨g',w',es,K',h1,h2,h3,h4,h5⟩:=h ah hr au hi;obtain⟨k1,k2⟩:=hi.aZ0 h3 g.frame.fn g.frame.place;exact⟨fun hl=>hl.1 rfl,g',w',es,ah.γ.grow 0 ah.w.heap.size w'.heap.size,h1,h2,rfl,⟨k1,k2⟩,.inr fun k hk hw=>hw,
  h5 _ rfl ⟨au.sc,au.mw,au.dm,au.num,S9 (t:=ah.t) h4,fun b o hb=>(h4 b o hb).2.2⟩ k1 (fun l hl=>.inl hl) fun b off b1 b2=>.inr ⟨rfl,b,rfl,b1,b2⟩⟩
end
end Cc
namespace Cc
open Go.Conc Go.RowKit
def bm2:List FuncId:=[27,61,48,46,32,75,74,73,35,76,45,38,77,40,108,39,33,34,50,36]
def aS(f:FuncId):Bool:=bm2.contains f
theorem Uc:qh Try.prog aS:=by
 intro f hf;unfold aS bm2 at hf;simp only[List.contains_cons,List.contains_nil,Bool.or_false,Bool.or_eq_true,beq_iff_eq]at hf;rcases hf with rfl|rfl|rfl|rfl|rfl|rfl|rfl|rfl|rfl|rfl|rfl|rfl|rfl|rfl|rfl|rfl|rfl|rfl|rfl|rfl
 ·exact⟨_,_,Try.func27,rfl,by kernel_rfl,by kernel_rfl⟩
 ·exact⟨_,_,Try.func61,rfl,by kernel_rfl,by kernel_rfl⟩
 ·exact⟨_,_,Try.func48,rfl,by kernel_rfl,by kernel_rfl⟩
 ·exact⟨_,_,Try.func46,rfl,by kernel_rfl,by kernel_rfl⟩
 ·exact⟨_,_,Try.func32,rfl,by kernel_rfl,by kernel_rfl⟩
 ·exact⟨_,_,Try.func75,rfl,by kernel_rfl,by kernel_rfl⟩
 ·exact⟨_,_,Try.func74,rfl,by kernel_rfl,by kernel_rfl⟩
 ·exact⟨_,_,Try.func73,rfl,by kernel_rfl,by kernel_rfl⟩
 ·exact⟨_,_,Try.func35,rfl,by kernel_rfl,by kernel_rfl⟩
 ·exact⟨_,_,Try.func76,rfl,by kernel_rfl,by kernel_rfl⟩
 ·exact⟨_,_,Try.func45,rfl,by kernel_rfl,by kernel_rfl⟩
 ·exact⟨_,_,Try.func38,rfl,by kernel_rfl,by kernel_rfl⟩
 ·exact⟨_,_,Try.func77,rfl,by kernel_rfl,by kernel_rfl⟩
 ·exact⟨_,_,Try.func40,rfl,by kernel_rfl,by kernel_rfl⟩
 ·exact⟨_,_,Try.func108,rfl,by kernel_rfl,by kernel_rfl⟩
 ·exact⟨_,_,Try.func39,rfl,by kernel_rfl,by kernel_rfl⟩
 ·exact⟨_,_,Try.func33,rfl,by kernel_rfl,by kernel_rfl⟩
 ·exact⟨_,_,Try.func34,rfl,by kernel_rfl,by kernel_rfl⟩
 ·exact⟨_,_,Try.func50,rfl,by kernel_rfl,by kernel_rfl⟩
 ·exact⟨_,_,Try.func36,rfl,by kernel_rfl,by kernel_rfl⟩
end Cc
namespace Cc
open Go.Conc Go.ConcN Go.RowKit
open Pl ny oI ni Mem oG Dl Ad J5
open qj hiding base
theorem aF{w:World}{a b:Nat}{C C':Array Value}{e e':TypeId}{f f':Nat×Nat}(h:w.heap[a]?=some (.cells C e f))(h':w.heap[b]?=some (.cells C' e' f'))(hne:e≠e'):a≠b:=by
 rintro rfl;rw[h]at h';cases h';exact hne rfl
def JF:Nat->Bool:=fun i=>!([8,9,10,13,14,16,17,21,22,23,81,82,83,84,85,86,87,88,89,90,91,92,93,94,95,96,97,98,99,100,101,102,103,104,105,106].contains i)
theorem VJ:codeOk Try.prog aS JF yN=true:=by kernel_rfl
theorem Om(fn:Func)(h:Try.prog.funcs[(base 16).fn]?=some fn):fn.results.all (resD JF)=true:=by
 have e:Try.prog.funcs[(base 16).fn]?=some Try.f16:=Try.func16;rw[e]at h;cases h;show(Try.f16).results.all (resD JF)=true
 kernel_rfl
def dW(b8 b13 b16 b17 Gb Pb gc lb Rb Zb nc nl:Nat):Nat->Option Md:=fun b=>if b=b8 then some .all else if b=Pb then some (.read 3)else if b=Gb then some (.read 3)else if b=gc then some (.read nc)else if b=lb then some (.read (3*nl))else if b=b13 then some (.read 1)else if b=b16 then some (.read 1)else if b=b17 then some (.read 1)else if b=Rb then some (.read nl)else if b=Zb then some (.read nl)else none
structure uw(q:ig)(st:St aJ)(cs:List Int)(l:List Cm)(msg:ByteArray)(r:Int)(rt:Nat->Bool)(zt:List Int)(T:Array Value)(b8 b13 b16 b17 Gb Pb gc lb Rb Zb iP xH tN:Nat)(CG Cg CP Cl CR CZ:Array Value)(g0 g1:Value)(eL:TypeId):Prop where
 sz:T.size=107
 s8:T[8]?=some (.pointer (some ⟨b8,0,none⟩))
 s9:T[9]?=some (.slice none 0 0)
 s10:T[10]?=some (.int .i64 0)
 s13:T[13]?=some (.pointer (some ⟨b13,0,none⟩))
 s14:T[14]?=some (.int .u64 r)
 s16:T[16]?=some (.pointer (some ⟨b16,0,none⟩))
 OD:T[17]?=some (.pointer (some ⟨b17,0,none⟩))
 su:∀i,(21<=i/\i<24)\/(81<=i/\i<107)->T[i]?=some undef
 kb8:st.w.heap[b8]?=some (.cells #[.int .u64 0,.int .u64 0] 46 (0,0))
 pF:st.w.heap[Pb]?=some (.cells CP 146 (0,0))
 nH:st.w.heap[Gb]?=some (.cells CG 143 (0,0))
 qm:st.w.heap[gc]?=some (.cells Cg 85 (0,0))
 ZW:st.w.heap[lb]?=some (.cells Cl eL (0,0))
 jy:st.w.heap[b13]?=some (.cells #[.pointer (some ⟨Pb,0,none⟩)] 90 (0,0))
 jw:st.w.heap[b16]?=some (.cells #[.slice (some ⟨Rb,0,none⟩) l.length xH] 100 (0,0))
 jv:st.w.heap[b17]?=some (.cells #[.slice (some ⟨Zb,0,none⟩) l.length tN] 101 (0,0))
 nN:st.w.heap[Rb]?=some (.cells CR 4 (0,0))
 nX:st.w.heap[Zb]?=some (.cells CZ 72 (0,0))
 au5:3<=CG.size/\CG[0]?=some g0/\CG[1]?=some g1/\CG[2]?=some (.slice (some ⟨gc,0,none⟩) cs.length iP)/\(∃k x,g0=.int k x)/\∃k x,g1=.int k x
 gcl:cs.length<=Cg.size/\∀j,j<cs.length->Cg[j]?=some (.int .u64 (cs.getD j 0))
 Le:CP.size=3/\CP[0]?=some (.pointer (some ⟨Gb,0,none⟩))/\CP[1]?=some (.slice (some ⟨lb,0,none⟩) l.length l.length)/\CP[2]?=some (.string msg)
 EL:3*l.length<=Cl.size/\∀j u,j<3*l.length->(aU l)[j]?=some u->Cl[j]?=some u
 Q7:CR.size=l.length/\∀k,k<l.length->CR[k]?=some (.bool (rt k))
 QD:CZ.size=l.length/\∀k,k<l.length->CZ[k]?=some (.int .u64 (zt.getD k 0))
 zl:zt.length=l.length
 cz:l.length<=tN
 l9:l.length<=9
 low:∀b∈[b8,Pb,Gb,gc,lb,b13,b16,b17,Rb,Zb],q.P.globals.size<=b
 qO:∀b∈[b8,Pb,Gb,gc,b13,b16,b17,Rb,Zb],lb≠b
 nd:∀b∈[b8,Pb,Gb,gc,lb,b13,b16,b17,Rb,Zb],¬st.γ.dead b
 bw2:bm7 st b8
 ex:∀b∈[b8,Pb,Gb,gc,lb,b13,b16,b17,Rb,Zb],∀off,st.γ.ex 0 (ca b off)
def Ah(r:Int)(zt wr:List Int)(num:Nat)(K:List (Nat×Obj))(v:Value)(st:St aJ):Prop:=
 (wr=[]/\v=.tuple #[.agg #[.int .u64 r,.int .u64 (xA 0 zt zt.length)],.slice none 0 0,.int .i64 0]/\jX 0 num K st)\/
 (wr≠[]/\∃(c cap:Nat) (C:Array Value),v=.tuple #[.agg #[.int .u64 0,.int .u64 0],.slice (some ⟨c,0,none⟩) wr.length cap,.int .i64 14]/\jX 0 num ((c,.cells C 3 (0,0))::K) st/\wr.length<=cap/\wr.length<=C.size/\∀j,j<wr.length->C[j]?=some (.int .i64 (wr.getD j 0)))
section
variable{q:ig}{st:St aJ}{cs:List Int}{l:List Cm}{msg:ByteArray}{r:Int}{rt:Nat->Bool}{zt:List Int}{T:Array Value}{b8 b13 b16 b17 Gb Pb gc lb Rb Zb iP xH tN:Nat}{CG Cg CP Cl CR CZ:Array Value}{g0 g1:Value}{eL:TypeId}
theorem uw.sees(h:uw q st cs l msg r rt zt T b8 b13 b16 b17 Gb Pb gc lb Rb Zb iP xH tN CG Cg CP Cl CR CZ g0 g1 eL):Ae q aS (dW b8 b13 b16 b17 Gb Pb gc lb Rb Zb cs.length l.length) st:=by
 have zJ:Pb≠b8:=aF h.pF h.kb8 (by decide);have zK:Gb≠b8:=aF h.nH h.kb8 (by decide);have zL:Gb≠Pb:=aF h.nH h.pF (by decide);have zu:gc≠b8:=aF h.qm h.kb8 (by decide);have sU:gc≠Pb:=aF h.qm h.pF (by decide);have qC:gc≠Gb:=aF h.qm h.nH (by decide);have zq:lb≠b8:=h.qO b8 (by simp);have sS:lb≠Pb:=h.qO Pb (by simp);have qB:lb≠Gb:=h.qO Gb (by simp);have sQ:lb≠gc:=h.qO gc (by simp);have uY:b13≠b8:=aF h.jy h.kb8 (by decide);have uZ:b13≠Pb:=aF h.jy h.pF (by decide);have nG:b13≠Gb:=aF h.jy h.nH (by decide);have uX:b13≠gc:=aF h.jy h.qm (by decide);have uV:b13≠lb:=(h.qO b13 (by simp)).symm;have uT:b16≠b8:=aF h.jw h.kb8 (by decide);have uU:b16≠Pb:=aF h.jw h.pF (by decide);have nD:b16≠Gb:=aF h.jw h.nH (by decide);have uS:b16≠gc:=aF h.jw h.qm (by decide);have uQ:b16≠lb:=(h.qO b16 (by simp)).symm;have rJ:b16≠b13:=aF h.jw h.jy (by decide);have uO:b17≠b8:=aF h.jv h.kb8 (by decide);have uP:b17≠Pb:=aF h.jv h.pF (by decide);have nC:b17≠Gb:=aF h.jv h.nH (by decide);have uN:b17≠gc:=aF h.jv h.qm (by decide);have uM:b17≠lb:=(h.qO b17 (by simp)).symm;have rH:b17≠b13:=aF h.jv h.jy (by decide);have rG:b17≠b16:=aF h.jv h.jw (by decide);have zG:Rb≠b8:=aF h.nN h.kb8 (by decide);have zH:Rb≠Pb:=aF h.nN h.pF (by decide);have zI:Rb≠Gb:=aF h.nN h.nH (by decide);have zF:Rb≠gc:=aF h.nN h.qm (by decide);have zD:Rb≠lb:=(h.qO Rb (by simp)).symm;have vK:Rb≠b13:=aF h.nN h.jy (by decide);have vJ:Rb≠b16:=aF h.nN h.jw (by decide);have vI:Rb≠b17:=aF h.nN h.jv (by decide);have zA:Zb≠b8:=aF h.nX h.kb8 (by decide);have zB:Zb≠Pb:=aF h.nX h.pF (by decide);have zC:Zb≠Gb:=aF h.nX h.nH (by decide);have zy:Zb≠gc:=aF h.nX h.qm (by decide);have zx:Zb≠lb:=(h.qO Zb (by simp)).symm;have vH:Zb≠b13:=aF h.nX h.jy (by decide);have vF:Zb≠b16:=aF h.nX h.jw (by decide);have vk:Zb≠b17:=aF h.nX h.jv (by decide);have qE:Zb≠Rb:=aF h.nX h.nN (by decide);have af6:dW b8 b13 b16 b17 Gb Pb gc lb Rb Zb cs.length l.length b8=some .all:=by unfold dW;simp[]
 have U2:dW b8 b13 b16 b17 Gb Pb gc lb Rb Zb cs.length l.length Pb=some (.read 3):=by unfold dW;simp[zJ]
 have af9:dW b8 b13 b16 b17 Gb Pb gc lb Rb Zb cs.length l.length Gb=some (.read 3):=by unfold dW;simp[zK,zL]
 have af5:dW b8 b13 b16 b17 Gb Pb gc lb Rb Zb cs.length l.length gc=some (.read cs.length):=by unfold dW;simp[zu,sU,qC]
 have af4:dW b8 b13 b16 b17 Gb Pb gc lb Rb Zb cs.length l.length lb=some (.read (3*l.length)):=by unfold dW;simp[zq,sS,qB,sQ]
 have SK:dW b8 b13 b16 b17 Gb Pb gc lb Rb Zb cs.length l.length b13=some (.read 1):=by unfold dW;simp[uY,uZ,nG,uX,uV]
 have SG:dW b8 b13 b16 b17 Gb Pb gc lb Rb Zb cs.length l.length b16=some (.read 1):=by unfold dW;simp[uT,uU,nD,uS,uQ,rJ]
 have SE:dW b8 b13 b16 b17 Gb Pb gc lb Rb Zb cs.length l.length b17=some (.read 1):=by unfold dW;simp[uO,uP,nC,uN,uM,rH,rG]
 have af8:dW b8 b13 b16 b17 Gb Pb gc lb Rb Zb cs.length l.length Rb=some (.read l.length):=by unfold dW;simp[zG,zH,zI,zF,zD,vK,vJ,vI]
 have af7:dW b8 b13 b16 b17 Gb Pb gc lb Rb Zb cs.length l.length Zb=some (.read l.length):=by unfold dW;simp[zA,zB,zC,zy,zx,vH,vF,vk,qE]
 have low:=h.low;have nd:=h.nd;have ex:=h.ex;simp only[List.mem_cons,List.not_mem_nil,or_false,forall_eq_or_imp,forall_eq]at low nd ex;obtain⟨aG3,aG6,aG7,aG2,aG1,ag3,ag2,ag1,aG5,aG4⟩:=low;obtain⟨a90,a96,a97,a88,a81,aE7,aE6,aE5,a95,a94⟩:=nd;obtain⟨bP4,bj9,bk0,bj6,bj5,aM2,aM1,aM0,bj8,bj7⟩:=ex;intro b m hm;unfold dW at hm;split at hm
 ·rename_i e;subst e;cases hm;exact⟨aG3,a90,_,_,_,h.kb8,rfl,h.bw2,fun k v hv=>by match k,hv with|0,hv=>(simp at hv;subst hv;exact .int _ _)|1,hv=>(simp at hv;subst hv;exact .int _ _)|k+2,hv=>simp at hv⟩
 split at hm
 ·rename_i e;subst e;cases hm;refine⟨aG6,a96,_,_,_,h.pF,by have:=h.Le.1;omega,.inr bj9,fun k v hk hv=>?_⟩
  match k,hk with
  |0,_=>rw[h.Le.2.1]at hv;cases hv;exact .ptr _ _ (gX af9)
  |1,_=>rw[h.Le.2.2.1]at hv;cases hv;exact .slice _ _ _ _ (gX af4)
  |2,_=>rw[h.Le.2.2.2]at hv;cases hv;exact .string _
  |k+3,hk=>omega
 split at hm
 ·rename_i e;subst e;cases hm;obtain⟨g1,g2,g3,g4,⟨k0,x0,rfl⟩,k1,x1,rfl⟩:=h.au5;refine⟨aG7,a97,_,_,_,h.nH,g1,.inr bk0,fun k v hk hv=>?_⟩
  match k,hk with
  |0,_=>rw[g2]at hv;cases hv;exact .int _ _
  |1,_=>rw[g3]at hv;cases hv;exact .int _ _
  |2,_=>rw[g4]at hv;cases hv;exact .slice _ _ _ _ (gX af5)
  |k+3,hk=>omega
 split at hm
 ·rename_i e;subst e;cases hm;exact⟨aG2,a88,_,_,_,h.qm,h.gcl.1,.inr bj6,fun k v hk hv=>by rw[h.gcl.2 k hk]at hv;cases hv;exact .int _ _⟩
 split at hm
 ·rename_i e;subst e;cases hm;refine⟨aG1,a81,_,_,_,h.ZW,h.EL.1,.inr bj5,fun k v hk hv=>?_⟩;have hlen:k<(aU l).length:=by rw[dL];omega
  have:=h.EL.2 k _ hk (List.getElem?_eq_getElem hlen);rw[this]at hv;cases hv;have hm:=List.getElem_mem hlen;generalize(aU l)[k]=u at hm ⊢;simp only[aU,List.mem_flatMap]at hm;obtain⟨c,_,hu⟩:=hm;simp only[Cm.cells,List.mem_cons,List.not_mem_nil,or_false]at hu;rcases hu with rfl|rfl|rfl<;>exact .int _ _
 split at hm
 ·rename_i e;subst e;cases hm;exact⟨ag3,aE7,_,_,_,h.jy,by simp,.inr aM2,fun k v hk hv=>by match k,hk with|0,_=>(simp at hv;subst hv;exact .ptr _ _ (gX U2))⟩
 split at hm
 ·rename_i e;subst e;cases hm;exact⟨ag2,aE6,_,_,_,h.jw,by simp,.inr aM1,fun k v hk hv=>by match k,hk with|0,_=>(simp at hv;subst hv;exact .slice _ _ _ _ (gX af8))⟩
 split at hm
 ·rename_i e;subst e;cases hm;exact⟨ag1,aE5,_,_,_,h.jv,by simp,.inr aM0,fun k v hk hv=>by match k,hk with|0,_=>(simp at hv;subst hv;exact .slice _ _ _ _ (gX af7))⟩
 split at hm
 ·rename_i e;subst e;cases hm;exact⟨aG5,a95,_,_,_,h.nN,Nat.le_of_eq h.Q7.1.symm,.inr bj8,fun k v hk hv=>by rw[h.Q7.2 k hk]at hv;cases hv;exact .bool _⟩
 split at hm
 ·rename_i e;subst e;cases hm;exact⟨aG4,a94,_,_,_,h.nX,Nat.le_of_eq h.QD.1.symm,.inr bj7,fun k v hk hv=>by rw[h.QD.2 k hk]at hv;cases hv;exact .int _ _⟩
 cases hm
theorem uw.cell(h:uw q st cs l msg r rt zt T b8 b13 b16 b17 Gb Pb gc lb Rb Zb iP xH tN CG Cg CP Cl CR CZ g0 g1 eL){md:Nat->Option Md}{b n:Nat}{C:Array Value}{e:TypeId}{fz:Nat×Nat}(hm:md b=some (.read n))(hb:st.w.heap[b]?=some (.cells C e fz)){o:Nat}(ho:o<n)(hn:n<=C.size):(gJ st.w md).cell? ⟨b,o,none⟩=C[o]?:=by
 simp only[World.cell?,Eh hm hb];have:(C.extract 0 n)[o]?=C[o]?:=by
  rw[Array.getElem?_extract];simp only[Nat.zero_add];by_cases h:o<n-0
  ·simp;omega
  ·omega
 exact this
end
end Cc
end Go.Proofs.Ytpfpokjaeffbjab
