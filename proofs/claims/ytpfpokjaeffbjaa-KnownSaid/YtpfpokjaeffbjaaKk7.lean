/- Part of the proof: PkgW, AgT, WrkF, Own, AgF, AgC, AgE, LkF, LkH, LkR, LkA, LkB, LkC, LkE, LkG. -/
import Derived.Test.YtpfpokjaeffbjaaKk0
import Derived.Test.YtpfpokjaeffbjaaKk6
import Derived.Test.YtpfpokjaeffbjaaKk5
import Derived.Test.YtpfpokjaeffbjaaProg
import Derived.RowKit
import Derived.Test.YtpfpokjaeffbjaaKk3
import Derived.Conc.MuWords
set_option linter.unusedVariables false
set_option linter.unusedSimpArgs false
set_option maxRecDepth 100000
set_option maxHeartbeats 16000000
open Nat renaming lt_of_lt_of_le→bT,le_of_eq→cP,zero_add→cZ,le_refl→aH,lt_of_le_of_ne→cV
open Go.Proofs.Try renaming prog→dS
open Go.Value renaming int→bU,oneCell'→cw
open List renaming map_append→cB,mem_cons→aM,not_mem_nil→bA,getElem?_eq_getElem→aN
open Go.World renaming ownsRow_nil→cy,block_lt_of_cell?→bY
open Go renaming results→bR
open Option renaming getD_some→aJ
open Array renaming getElem?_eq_getElem→aI
open Go.Extern renaming findNext→bQ,find→cW
open Go.BinOp renaming and→aZ
open Go.IntKind renaming i32→aK,wrap_i32→dJ,wrap→bH
namespace Go.Proofs.Ytpfpokjaeffbjaa
open Go renaming World→ae,Value→af,Goroutine→ah,Frame→ai,TypeId→aj,FuncId→ak,Program→au,undef→av,execOp→ax
open Go.Lib renaming hid→ay
namespace Ew
open Go.RowKit Pl mJ nG mI uU Mem ng KM Hsh RB Lc
def FJ(w:ae)(g:Nat)(cs:List Int):Prop:=∃gc cap,w.cell? ⟨g,2,none⟩=some (.slice (some ⟨gc,0,none⟩) cs.length cap)/\g<w.heap.size/\gc<w.heap.size/\(0<cs.length->w.cell? ⟨gc,0,none⟩=some (.int .u64 (cs.getD 0 0)))
theorem FJ.later{w w':ae}{g:Nat}{cs:List Int}(h:FJ w g cs)(hb:Below w.heap.size w w'):FJ w' g cs:=by
 obtain⟨gc,cap,h1,h2,h3,h4⟩:=h;exact⟨gc,cap,(hb.cell (p:=⟨g,2,none⟩) h2).trans h1,bT h2 hb.size,bT h3 hb.size,fun hl=>(hb.cell (p:=⟨gc,0,none⟩) h3).trans (h4 hl)⟩
structure RU(w:ae)(p g:Nat)(lv:af)(cs:List Int)(l:List Cm)(msg:ByteArray):Prop where
 cells:w.cell? ⟨p,0,none⟩=some (.pointer (some ⟨g,0,none⟩))/\w.cell? ⟨p,1,none⟩=some lv/\w.cell? ⟨p,2,none⟩=some (.string msg)
 lt:p<w.heap.size
 iJ:lI w w.heap.size lv l
 key:FJ w g cs
theorem RU.later{w w':ae}{p g:Nat}{lv:af}{cs:List Int}{l:List Cm}{msg:ByteArray}(h:RU w p g lv cs l msg)(hb:Below w.heap.size w w'):RU w' p g lv cs l msg:=by
 obtain⟨c0,c1,c2⟩:=h.cells;exact⟨⟨(hb.cell (p:=⟨p,0,none⟩) h.lt).trans c0,(hb.cell (p:=⟨p,1,none⟩) h.lt).trans c1,(hb.cell (p:=⟨p,2,none⟩) h.lt).trans c2⟩,bT h.lt hb.size,h.iJ.later hb,h.key.later hb⟩
section
variable{w:ae}{p g:Nat}{lv:af}{n:Int}{cs:List Int}{l:List Cm}{msg:ByteArray}
theorem br1(hK:FJ w g cs)(hl:0<cs.length):
  Calls dS 60 #[.pointer (some ⟨g,0,none⟩)] w fun e w'=>e=.returned (.int .u64 (cs.getD 0 0))/\w=w':=by
 obtain⟨gc,cap,g2,-,-,hc⟩:=hK;have hc0:=hc hl;have hl':(0:Int)<(cs.length:Int):=by omega
 clear hc;generalize cs.getD 0 0=X at*;go_enter Try.func60,Try.ntmps60
 go_wp2_with fail
 go_ret
 exact⟨rfl,rfl⟩
theorem atW(h:RU w p g lv cs l msg){k:Nat}(hk:k<l.length):
  Calls dS 67 #[.pointer (some ⟨p,0,none⟩),.int .i64 k] w fun e w'=>e=.returned (.agg #[.int .i64 (l.getD k .zero).id,.int .u64 (l.getD k .zero).d,.int .u64 (l.getD k .zero).e])/\Below w.heap.size w w':=by
 obtain⟨p0,p1,p2⟩:=h.cells;obtain⟨A,c,rfl⟩:=h.iJ.shape;obtain⟨b,off,rfl,hb,hc⟩:=h.iJ.at_ (by omega);obtain⟨x0,x1,x2⟩:=hc k hk;have hp:=h.lt;clear h hc;generalize(l.getD k .zero).id=X at*;generalize(l.getD k .zero).d=D at*;generalize(l.getD k .zero).e=E at*;have k1:(0:Int)<=(k:Int):=by omega
 have k2:(k:Int)<(l.length:Int):=by omega
 go_enter Try.func67,Try.ntmps67
 go_wp2_with fail
 refine bodyPost_ret (v:=.agg #[.int .i64 X,.int .u64 D,.int .u64 E]) (by simp[results,Try.results67,go_sem]) rfl ?_;exact⟨rfl,by first|exact eB _ _|exact(((eB _ _).setCell nle _).setCell nle _).setCell nle _⟩
theorem a90(h:RU w p g lv cs l msg)(hgd:mI.Good n l)(hn:n<=9)(Ad:l.length<=9)(hcl:0<cs.length)(hc0:0<=cs.getD 0 0/\cs.getD 0 0<18446744073709551616)(CM:msg.size<=1000000){k:Nat}(hk:k<l.length):
  Calls dS 84 #[.pointer (some ⟨p,0,none⟩),.int .i64 k] w fun e w'=>e=.returned (.int .u64 (mh l (cs.getD 0 0) msg k))/\Below w.heap.size w w':=by
 obtain⟨p0,p1,p2⟩:=h.cells;obtain⟨A,c,rfl⟩:=h.iJ.shape;obtain⟨b,off,rfl,hb,hc⟩:=h.iJ.at_ (by omega);obtain⟨x0,x1,x2⟩:=hc k hk;have hp:=h.lt;have hgk:=hgd k hk;have H:=ay h;have HC:=ay hc;have HG:=ay hgd;have HBD:=ay (zW hgd hn hc0 hk);have hnm:Hid (fZ l (cs.getD 0 0) k 0=[(l.getD k .zero).id,cs.getD 0 0]):=by
  show _=_;simp[fZ,flat]
 have wX:IntKind.u64.wrap (l.getD k .zero).id=(l.getD k .zero).id:=ny (by omega) (by omega);have k1:(0:Int)<=(k:Int):=by omega
 have k2:(k:Int)<(l.length:Int):=by omega
 obtain⟨i0,hi,hz0,hz1,hz2⟩:=info_parts Fa;have hbP:Hid (mh l (cs.getD 0 0) msg k=uH 1 msg (fZ l (cs.getD 0 0) k l.length)):=by
  show mh l (cs.getD 0 0) msg k=_;rfl
 have hkc:=ay (br1 (w:=w.drew) (show FJ w.drew g cs from h.key) hcl);clear h hc hgd hgk hc0 x1 x2;generalize(l.getD k .zero).id=X at*;generalize cs.getD 0 0=K at*;go_enter Try.func84,Try.ntmps84
 go_wp2_with fail
 go_region_held3 (fun w'=>(w'.cell? ⟨p,0,none⟩=some (.pointer (some ⟨g,0,none⟩))/\w'.cell? ⟨p,1,none⟩=some (.slice (some ⟨b,off,none⟩) l.length c))/\w'.cell? ⟨b,off+k*3,none⟩=some (.int .i64 X)) (go_keep)
  (first|(go_at_call 60;refine hkc.out.mono ?_;rintro e w' ⟨rfl,rfl⟩))
 all_goals
  have hown0:((w.alloc (.cells #[.int .u64 X,.int .u64 K] 40)).drew).ownsRow w.heap.size 40 1 (.slice (some ⟨w.heap.size,0,none⟩) 2 2) (2+3*0) ((fZ l K k 0).map (bU .u64)):=by
   rw[hnm.out];exact World.ownsRow_lit w #[.int .u64 X,.int .u64 K] 2 nle (by unfold maxLen;omega) rfl
  have Ek:Below w.heap.size w (w.alloc (.cells #[.int .u64 X,.int .u64 K] 40)).drew:=(eB _ _).drew;generalize(w.alloc (.cells #[.int .u64 X,.int .u64 K] 40)).drew=w1 at*;have VG:=ay (H.out.later Ek);obtain⟨r0,r1,r2⟩:=VG.out.cells;have HO0:=ay hown0;have HB0:=ay Ek;clear hown0 Ek p0 p1 p2;go_wp2_with fail
  go_loopw [5,28] (fun v i wr=>∃j:Nat,j<=l.length/\i=.int .i64 j/\wr.ownsRow w.heap.size 40 1 v (2+3*j) ((fZ l K k j).map (bU .u64))/\Below w.heap.size w wr) (fun _ i _=>l.length-(intOf i).toNat)
  case atStart=>exact⟨0,by omega,rfl,HO0.out,HB0.out⟩
  case round=>
   obtain⟨j,hj,rfl,hown,fM⟩:=hrel;have HO:=ay hown;clear hown r0 r1 r2;by_cases hlt:j<l.length
   ·obtain⟨y0,y1,y2⟩:=HC.out j hlt;replace y0:=(fM.cell (p:=⟨b,off+j*3,none⟩) hb).trans y0;replace y1:=(fM.cell (p:=⟨b,off+j*3+1,none⟩) hb).trans y1;replace y2:=(fM.cell (p:=⟨b,off+j*3+2,none⟩) hb).trans y2;have hgj:=HG.out j hlt;have wY:IntKind.u64.wrap (l.getD j .zero).id=(l.getD j .zero).id:=ny (by omega) (by omega);have hst:=ay (wj l K k j);have hlen:wr.heap.size<(wr.alloc (.cells #[.int .i64 (l.getD j .zero).id,.int .u64 (l.getD j .zero).d,.int .u64 (l.getD j .zero).e] 52)).heap.size:=by simp
    obtain⟨⟨gj1,gj2⟩,-⟩:=hgj;generalize(l.getD j .zero).id=Y at*;generalize(l.getD j .zero).d=D at*;generalize(l.getD j .zero).e=E at*;go_wp2_with (at_builtin;refine wpList_append_own _ rfl (.tmp 32) (.tmp 40) _ rfl w.heap.size 40 i0 (.int .u64 0) 1 8 Try.underlying29 hi hz0 hz1 hz2 rfl (by decide) _ _ _ rfl ((HO.out.alloc _).alloc _) ⟨wr.heap.size+1,0,none⟩ 3 3 [.int .u64 Y,.int .u64 D,.int .u64 E] rfl rfl (World.news_of_block (jG _ _ (by simp))) (by simp[cw]) (by unfold maxLen;omega) (by omega) (by have:=fM.size;simp<;>omega) ?_;intro v1 w2 hown1 hgrow1 _)
    have lf:=(((fM.alloc fM.size (.cells #[.int .i64 Y,.int .u64 D,.int .u64 E] 52)).alloc (by have:=fM.size;simp<;>omega) (.cells #[.int .u64 Y,.int .u64 D,.int .u64 E] 40)).grown hgrow1 (by have:=fM.size;simp<;>omega) fun k hk=>(((HO.out.alloc (.cells #[.int .i64 Y,.int .u64 D,.int .u64 E] 52)).alloc (.cells #[.int .u64 Y,.int .u64 D,.int .u64 E] 40)).lt k hk).1);refine⟨⟨j+1,by omega,by go_num,by rw[hst.out,cB,show 2+3*(j+1)=2+3*j+3 by omega];exact hown1,lf⟩,by simp[intOf]<;>omega⟩
   ·obtain rfl:j=l.length:=by omega
    have HPf:=ay (H.out.later fM);obtain⟨r0,r1,r2⟩:=HPf.out.cells;have OU:=fW.own (l:=fZ l K k l.length) (by rw[kT];exact HO.out);have hh:=ay (Us 1 msg (fZ l K k l.length) _ wr OU (by rw[kT];omega) CM (by omega) (by omega) HBD.out);obtain⟨A5,c5,rfl⟩:=kz HO.out;rw[<-hbP.out]at hh;clear OU;go_wp2_with fail
    refine hh.out.mono ?_;rintro e w' ⟨rfl,x,rfl⟩;go_wp2_with fail
    go_ret
    exact⟨rfl,fM.alloc fM.size _⟩
theorem aO3(h:RU w p g lv cs l msg)(hgd:mI.Good n l)(hn:n<=9)(Ad:l.length<=9)(hcl:0<cs.length)(hc0:0<=cs.getD 0 0/\cs.getD 0 0<18446744073709551616)(CM:msg.size<=1000000){k:Nat}(hk:k<l.length):
  Calls dS 64 #[.pointer (some ⟨p,0,none⟩),.int .i64 k] w fun e w'=>e=.returned (.int .u64 (mM l (cs.getD 0 0) msg k))/\Below w.heap.size w w':=by
 obtain⟨p0,p1,p2⟩:=h.cells;obtain⟨A,c,rfl⟩:=h.iJ.shape;obtain⟨b,off,rfl,hb,hc⟩:=h.iJ.at_ (by omega);obtain⟨x0,x1,x2⟩:=hc k hk;obtain⟨-,-,⟨d0,d1⟩,e0,e1⟩:=hgd k hk;have hP:Hid (mM l (cs.getD 0 0) msg k=mY (l.getD k .zero).d (pw (l.getD k .zero).e (mh l (cs.getD 0 0) msg k).toNat 2147483579)):=by
  show mM l (cs.getD 0 0) msg k=_;rfl
 have Hv:=eB w (.cells #[.int .i64 (l.getD k .zero).id,.int .u64 (l.getD k .zero).d,.int .u64 (l.getD k .zero).e] 52);have hbi:=ay (a90 (h.later Hv.drew) hgd hn Ad hcl hc0 CM hk);have hbb:=Dp l (cs.getD 0 0) msg k;have k1:(0:Int)<=(k:Int):=by omega
 have k2:(k:Int)<(l.length:Int):=by omega
 have tH:=ay Hv;obtain⟨bb0,bb1⟩:=hbb;have b0:(w.alloc (.cells #[.int .i64 (l.getD k .zero).id,.int .u64 (l.getD k .zero).d,.int .u64 (l.getD k .zero).e] 52)).cell? ⟨w.heap.size,1,none⟩=some (.int .u64 (l.getD k .zero).d):=by simp
 have b1:(w.alloc (.cells #[.int .i64 (l.getD k .zero).id,.int .u64 (l.getD k .zero).d,.int .u64 (l.getD k .zero).e] 52)).cell? ⟨w.heap.size,2,none⟩=some (.int .u64 (l.getD k .zero).e):=by simp
 have hsz:w.heap.size<(w.alloc (.cells #[.int .i64 (l.getD k .zero).id,.int .u64 (l.getD k .zero).d,.int .u64 (l.getD k .zero).e] 52)).heap.size:=by simp
 clear h hc hgd hc0 Hv;generalize(l.getD k .zero).id=X at*;generalize(l.getD k .zero).d=D at*;generalize(l.getD k .zero).e=E at*;generalize mh l (cs.getD 0 0) msg k=Bd at*;generalize mM l (cs.getD 0 0) msg k=R at*;go_enter Try.func64,Try.ntmps64
 go_wp2_with fail
 generalize w.alloc (.cells #[.int .i64 X,.int .u64 D,.int .u64 E] 52)=wb at*;go_region_held3 (fun w'=>w'.cell? ⟨w.heap.size,1,none⟩=some (.int .u64 D)/\w'.cell? ⟨w.heap.size,2,none⟩=some (.int .u64 E))
  (first|go_keep|(exact⟨(hb1.cell (p:=⟨w.heap.size,1,none⟩) hsz).trans b0,(hb1.cell (p:=⟨w.heap.size,2,none⟩) hsz).trans b1⟩))
  (first|(go_at_call 84;refine hbi.out.mono ?_;rintro e w1 ⟨rfl,hb1⟩)|(go_at_call 68;refine(yM E Bd _ (by omega) e1 bb0 (by omega)).mono ?_;rintro e w' ⟨rfl,rfl⟩)|(go_at_call 65;refine(qJ _ _ _).mono ?_;rintro e w' ⟨rfl,rfl⟩))
 all_goals
  go_wp2_with fail
  go_ret
  exact⟨by rw[hP.out];rfl,tH.out.trans ((bre.drew).trans (hb1.mono (Nat.le_of_lt hsz)))⟩
theorem LO(h:RU w p g lv cs l msg)(Ad:l.length<=9){k:Nat}(hk:k<l.length):
  Calls dS 70 #[.pointer (some ⟨p,0,none⟩),.int .i64 k] w fun e w'=>e=.returned (.int .u64 (iz (kM l l.length) k))/\Below w.heap.size w w':=by
 obtain⟨p0,p1,p2⟩:=h.cells;obtain⟨A,c,rfl⟩:=h.iJ.shape;obtain⟨b,off,rfl,hb,hc⟩:=h.iJ.at_ (by omega);have H:=ay h;have HC:=ay hc;obtain⟨i0,hi,hz0,hz1,hz2⟩:=info_parts Fb;clear h hc;go_enter Try.func70,Try.ntmps70
 go_wp2_with fail
 go_loopw [5,13] (fun v i wr=>∃j:Nat,j<=l.length/\i=.int .i64 j/\wr.ownsRow w.heap.size 3 1 v j ((kM l j).map (bU .i64))/\Below w.heap.size w wr) (fun _ i _=>l.length-(intOf i).toNat)
 case atStart=>exact⟨0,by omega,rfl,cy _ _ _ _,Below.refl _ _⟩
 case round=>
  obtain⟨j,hj,rfl,hown,fM⟩:=hrel;have HO:=ay hown;clear hown p0 p1 p2;by_cases hlt:j<l.length
  ·obtain⟨y0,y1,y2⟩:=HC.out j hlt;replace y0:=(fM.cell (p:=⟨b,off+j*3,none⟩) hb).trans y0;replace y1:=(fM.cell (p:=⟨b,off+j*3+1,none⟩) hb).trans y1;replace y2:=(fM.cell (p:=⟨b,off+j*3+2,none⟩) hb).trans y2;have hst:=ay (CF l j);generalize(l.getD j .zero).id=Y at*;generalize(l.getD j .zero).d=D at*;generalize(l.getD j .zero).e=E at*;go_wp2_with (at_builtin;refine wpList_append_own _ rfl (.tmp 17) (.tmp 20) _ rfl w.heap.size 3 i0 (.int .i64 0) 1 8 Try.underlying41 hi hz0 hz1 hz2 rfl (by decide) _ _ _ rfl ((HO.out.alloc _).alloc _) ⟨wr.heap.size+1,0,none⟩ 1 1 [.int .i64 Y] rfl rfl (World.news_of_block (jG _ _ (by simp))) (by simp[cw]) (by unfold maxLen;omega) (by omega) (by have:=fM.size;simp<;>omega) ?_;intro v1 w2 hown1 hgrow1 _)
   have lf:=(((fM.alloc fM.size (.cells #[.int .i64 Y,.int .u64 D,.int .u64 E] 52)).alloc (by have:=fM.size;simp<;>omega) (.cells #[.int .i64 Y] 3)).grown hgrow1 (by have:=fM.size;simp<;>omega) fun k hk=>(((HO.out.alloc (.cells #[.int .i64 Y,.int .u64 D,.int .u64 E] 52)).alloc (.cells #[.int .i64 Y] 3)).lt k hk).1);refine⟨⟨j+1,by omega,by go_num,by rw[hst.out,cB];exact hown1,lf⟩,by simp[intOf]<;>omega⟩
  ·obtain rfl:j=l.length:=by omega
   have OU:=fW.own (l:=kM l l.length) (by rw[kD];exact HO.out);obtain⟨A5,c5,rfl⟩:=kz HO.out;have hlg:=ay (Lc7 (kM l l.length) k _ wr OU (by rw[kD];omega) (by rw[kD];exact hk));clear OU;go_wp2_with fail
   refine hlg.out.mono ?_;rintro e w' ⟨rfl,nq,rfl⟩;go_wp2_with fail
   go_ret
   exact⟨rfl,below_drewN fM _⟩
end
end Ew
namespace PG
open Go.RowKit Go.Conc Cc Pl mJ nG mI Mem ng Ew KM RB
open uU hiding base
def fS(rt:Nat->Bool)(l:List Cm):Nat->List Int
 |0=>[]
 |k+1=>if rt k then fS rt l k else fS rt l k++[(l.getD k .zero).id]
theorem Ia(rt:Nat->Bool)(l:List Cm)(k:Nat):(fS rt l k).length<=k:=by
 induction k with
 |zero=>simp[fS]
 |succ k ih=>
  rw[fS];split
  ·omega
  ·simp<;>omega
theorem PK{rt:Nat->Bool}{l:List Cm}{k:Nat}{b:Bool}(e:rt k=b)(hb:b=true):fS rt l (k+1)=fS rt l k:=by rw[fS,e,hb];rfl
theorem R7{rt:Nat->Bool}{l:List Cm}{k:Nat}{b:Bool}(e:rt k=b)(hb:b=false):fS rt l (k+1)=fS rt l k++[(l.getD k .zero).id]:=by rw[fS,e,hb];rfl
theorem PL(rt:Nat->Bool)(l:List Cm)(k:Nat):fS rt l k=[]↔∀j,j<k->rt j=true:=by
 induction k with
 |zero=>exact⟨fun _ j hj=>by omega,fun _=>rfl⟩
 |succ k ih=>
  rw[fS];split
  ·rename_i h;rw[ih];exact⟨fun h1 j hj=>(by by_cases e:j=k;(subst e;exact h);exact h1 j (by omega)),fun h1 j hj=>h1 j (by omega)⟩
  ·rename_i h;exact⟨fun h1=>by simp at h1,fun h1=>absurd (h1 k (by omega)) h⟩
def agU(b8 fR b16 fX:Nat)(r:Int):Array af:=#[av,av,av,av,av,av,av,av,.pointer (some ⟨b8,0,none⟩),.slice none 0 0,.int .i64 0,av,av,.pointer (some ⟨fR,0,none⟩),.int .u64 r,av,.pointer (some ⟨b16,0,none⟩),.pointer (some ⟨fX,0,none⟩),av,av,av,av,av,av,av,av,av,av,av,av,av,av,av,av,av,av,av,av,av,av,av,av,av,av,av,av,av,av,av,av,av,av,av,av,av,av,av,av,av,av,av,av,av,av,av,av,av,av,av,av,av,av,av,av,av,av,av,av,av,av,av,av,av,av,av,av,av,av,av,av,av,av,av,av,av,av,av,av,av,av,av,av,av,av,av,av,av]
def KL(r:Int)(zt wr:List Int)(w:ae)(v:af)(w':ae):Prop:=
 (wr=[]/\v=.tuple #[.agg #[.int .u64 r,.int .u64 (xA 0 zt zt.length)],.slice none 0 0,.int .i64 0])\/
 (wr≠[]/\∃W,v=.tuple #[.agg #[.int .u64 0,.int .u64 0],W,.int .i64 14]/\w'.ownsRow w.heap.size 3 1 W wr.length (wr.map (bU .i64)))
def Vz(r:Int)(zt wr:List Int)(w:ae):Exit->Act->ae->Prop:=fun e a w'=>e=.ret/\a.defers=[]/\∃v,(bR Try.f27 a.tmps).run dS w'=.ok v w'/\KL r zt wr w v w'
theorem T6:(Try.prog.info? 3).map (fun i=>(i.zero,i.size,i.bytes))=some (some (.int .i64 0),1,8):=kr
theorem az7{r S:Int}{zt wr:List Int}{w wq:ae}{b8:Nat}{T:Array af}(h0:wr=[])(hS:S=xA 0 zt zt.length)(h8:ft wq b8 47 #[.int .u64 0,.int .u64 0])(t8:T[8]?=some (.pointer (some ⟨b8,0,none⟩)):=by rfl)(t9:T[9]?=some (.slice none 0 0):=by rfl)(t10:T[10]?=some (.int .i64 0):=by rfl):
  Vz r zt wr w Exit.ret ⟨T,[]⟩ ((wq.setCell ⟨b8,0,none⟩ (.int .u64 r)).setCell ⟨b8,1,none⟩ (.int .u64 S)):=by
 have B:=((h8.iM 0 (.int .u64 r)).iM 1 (.int .u64 S));have c0:=B.cell 0;have c1:=B.cell 1;refine⟨rfl,rfl,_,?_,.inl ⟨h0,rfl⟩⟩;subst hS;simp[bR,Try.results27,t8,t9,t10,go_sem,c0,c1]
theorem Yy{r:Int}{zt wr:List Int}{w wq:ae}{b8:Nat}{T:Array af}{W:af}(h0:¬wr=[])(hW:wq.ownsRow w.heap.size 3 1 W wr.length (wr.map (bU .i64)))(hlt:b8<w.heap.size)(h8:ft wq b8 47 #[.int .u64 0,.int .u64 0])(t8:T[8]?=some (.pointer (some ⟨b8,0,none⟩)):=by rfl)(t9:T[9]?=some W:=by rfl)(t10:T[10]?=some (.int .i64 14):=by rfl):
  Vz r zt wr w Exit.ret ⟨T,[]⟩ ((wq.setCell ⟨b8,0,none⟩ (.int .u64 0)).setCell ⟨b8,1,none⟩ (.int .u64 0)):=by
 have B:=((h8.iM 0 (.int .u64 0)).iM 1 (.int .u64 0));have c0:=B.cell 0;have c1:=B.cell 1;refine⟨rfl,rfl,.tuple #[.agg #[.int .u64 0,.int .u64 0],W,.int .i64 14],?_,.inr ⟨h0,W,rfl,?_⟩⟩
 ·simp[bR,Try.results27,t8,t9,t10,go_sem,c0,c1]
 ·refine hW.kept (row:=some b8) (grownBy_set (grownBy_set (World.grownBy.refl _ _) _ _) _ _) ?_;cases hk:W.ownBlock with
  |none=>exact .inl rfl
  |some k=>
   have:=(hW.lt k hk).1
   exact .inr fun e=>by cases e;omega
theorem BR(x d e:Int)(w:ae):(Instr.field 52 (.agg #[.int .i64 x,.int .u64 d,.int .u64 e]) 0).run dS w=.ok (.int .i64 x) w:=kr
theorem aN0{w:ae}{b8 fR b16 fX Rb Zb Pb Gb:Nat}{lv:af}{cs:List Int}{l:List Cm}{msg:ByteArray}{n vQ rX:Nat}{rt:Nat->Bool}{zt:List Int}{r:Int}(hP:RU w Pb Gb lv cs l msg)(hl:l.length=n)(hn:n<=9)(hz:zt.length=n)
  (h8:ft w b8 47 #[.int .u64 0,.int .u64 0])(h13:w.cell? ⟨fR,0,none⟩=some (.pointer (some ⟨Pb,0,none⟩)))(h16:w.cell? ⟨b16,0,none⟩=some (.slice (some ⟨Rb,0,none⟩) n vQ))(h17:w.cell? ⟨fX,0,none⟩=some (.slice (some ⟨Zb,0,none⟩) n rX))
  (hR:∀k,k<n->w.cell? ⟨Rb,k,none⟩=some (.bool (rt k)))(hZ:fW .u64 w w.heap.size (.slice (some ⟨Zb,0,none⟩) n rX) zt):
  xg.wp dS (Vz r zt (fS rt l n) w) ⟨agU b8 fR b16 fX r,[]⟩ w:=by
 simp only[xg,rZ,iY,eK,Try.f27,aJ,agU];obtain⟨i0,hi,hz0,hz1,hz2⟩:=info_parts T6;have HP:=ay hP;have HR:=ay hR;have HZ:=ay hZ;have H8:=ay h8;clear hP hR hZ h8;go_wp2_with fail
 go_loopw [21,83] (fun v i wr=>∃k:Nat,k<=n/\i=.int .i64 k/\wr.ownsRow w.heap.size 3 1 v (fS rt l k).length ((fS rt l k).map (bU .i64))/\Below w.heap.size w wr) (fun _ i _=>n-(intOf i).toNat)
 case atStart=>exact⟨0,by omega,rfl,cy _ _ _ _,Below.refl _ _⟩
 case round=>
  obtain⟨k,hk,rfl,hown,fM⟩:=hrel;obtain⟨A1,c1,rfl⟩:=kz hown;have HO:=ay hown;have c13:=(fM.cell (bY w _ h13)).trans h13;clear hown;by_cases hlt:k<n
  ·have hc:=HR.out k hlt;have hc':=(fM.cell (bY w _ hc)).trans hc;have JG:=fun(hb:rt k=true)=>ay (PK (l:=l) rfl hb);have hno:=fun(hb:rt k=false)=>ay (R7 (l:=l) rfl hb);have hwl:=Ia rt l k;have KS:=ay (atW (HP.out.later fM) (k:=k) (by omega));clear hc;generalize rt k=bb at*;cases bb;case true=>
    have hst:=JG rfl;clear JG hno;go_wp2_with fail
    exact⟨⟨k+1,by omega,by go_num,by rw[hst.out];exact HO.out,fM⟩,by simp[intOf]<;>omega⟩
   case false=>
    have hst:=hno rfl;clear JG hno;generalize(l.getD k .zero).id=X at*;generalize(l.getD k .zero).d=Y at*;generalize(l.getD k .zero).e=Z at*;have RO:=BR X Y Z;go_wp2_with (first|(go_at_call 67;refine KS.out.mono ?_;rintro e w2 ⟨rfl,hb2⟩;have HO2:=ay (jc HO.out hb2 nle);have lf:=fM.trans (hb2.mono fM.size))|(at_builtin;refine wpList_append_own _ rfl (.tmp 90) (.tmp 95) _ rfl w.heap.size 3 i0 (.int .i64 0) 1 8 Try.underlying41 hi hz0 hz1 hz2 rfl (by decide) _ _ _ rfl (HO2.out.alloc _) ⟨w2.heap.size,0,none⟩ 1 1 [.int .i64 X] rfl rfl (cell_one_new _ _ _) (by simp[cw]) (by unfold maxLen;omega) (by omega) (by have:=lf.size;simp<;>omega) ?_;intro v1 w1 hown1 hgrow1 _))
    refine⟨⟨k+1,by omega,by go_num,?_,jk lf HO2.out lf.size hgrow1⟩,by simp[intOf]<;>omega⟩;rw[hst.out,List.length_append,cB];exact hown1
  ·obtain rfl:k=n:=by omega
   have b8':=H8.out.below fM H8.out.lt;have e80:=b8'.cell 0;have e81:=b8'.cell 1;have f80:=b8'.frozen 0;have f81:=b8'.frozen 1;have B8:=ay b8';by_cases h0:fS rt l k=[]
   ·have g0:((fS rt l k).length:Int)=0:=by rw[h0];rfl
    have g1:¬(0:Int)<((fS rt l k).length:Int):=by omega
    have c17:=(fM.cell (bY w _ h17)).trans h17;have hF:=ay (ad5 0 zt _ wr (HZ.out.later fM) (by omega));clear b8';go_wp2_with (go_at_call 72;refine hF.out.mono ?_;rintro e w2 ⟨rfl,rfl⟩)
    exact az7 h0 (by rw[hz]) B8.out
   ·have g0:(0:Int)<((fS rt l k).length:Int):=by
     have:(fS rt l k).length≠0:=fun e=>h0 (List.length_eq_zero_iff.1 e)
     omega
    clear b8';go_wp2_with fail
    exact Yy h0 HO.out H8.out.lt B8.out
end PG
namespace Cc
open Go.Conc Go.ConcN Go.RowKit
def aM3:List ak:=[41,42,64,67,70,69,65,68,44,84,77,60,89,121,111,112]
def wS(f:ak):Bool:=aM3.contains f
theorem sF:nL dS wS:=Ap (L:=aM3) kr
end Cc
namespace Cc
open Go.Conc Go.ConcN
open Go.ConcM (OsLater)
structure Hf(st:St eD)(w':ae)(es:Array Event):Prop where
 size:st.w.heap.size<=w'.heap.size
 evs:∀e∈es,∃b off x,e=⟨ca b off,x,false⟩/\b<w'.heap.size/\(∀s,st.γ.sc=some s->b≠s.Gb)/\(st.γ.ex 0 (ca b off)\/(x=false/\st.γ.rd 0 (ca b off))\/st.w.heap.size<=b)
 os:w'.os=st.w.os
 out:w'.output=st.w.output
 blk:∀b,b<st.w.heap.size->w'.heap[b]?=st.w.heap[b]?\/∀off,st.γ.ex 0 (ca b off)
section
variable{q:iK}{s:eI}{mw:MW}{dm num:Nat}{K:List (Nat×Obj)}{Ch:Nat->ah->St eD->Prop}
theorem Inv.aO5{st:St eD}(h:Inv q st){w':ae}{es:Array Event}(H:Hf st w' es)(fn:ak)(pos:String):
  Inv q ⟨w',st.t++MemOp.ofEvents 0 fn pos es,st.γ.grow 0 st.w.heap.size w'.heap.size⟩/\∀j,j≠0->Rl j st ⟨w',st.t++MemOp.ofEvents 0 fn pos es,st.γ.grow 0 st.w.heap.size w'.heap.size⟩:=by
 have wz:∀e∈es,∀x,(MemAct.ofEvent e).touch?=some x->∃b off y,x=⟨ca b off,y,.plain⟩/\b<w'.heap.size/\(∀s,st.γ.sc=some s->b≠s.Gb)/\(st.γ.ex 0 (ca b off)\/(y=false/\st.γ.rd 0 (ca b off))\/st.w.heap.size<=b):=fun e he x hx=>by
  obtain⟨b,off,y,rfl,h1,h2,h3⟩:=H.evs e he;cases hx;exact⟨b,off,y,rfl,h1,h2,h3⟩
 refine h.own (i:=0) h.base.pos (.inl rfl) (fun e=>absurd rfl e) H.size (fun e he x hx=>?_) (fun e he=>?_) (fun e=>absurd rfl e) (by rw[H.os];exact .refl _) H.out H.blk fun s hs e he x hx=>?_
 ·obtain⟨b,off,y,rfl,h1,h2,h3⟩:=wz e he x hx;refine⟨?_,fun b' hb'=>by cases hb';exact h1⟩;rcases h3 with h3|⟨rfl,h3⟩|h3
  ·exact .inr (.inl h3)
  ·exact .inr (.inr (.inl ⟨h3,rfl⟩))
  ·exact .inr (.inr (.inr (.inr ⟨b,rfl,h3⟩)))
 ·obtain⟨b,off,y,rfl,h1,h2,h3⟩:=H.evs e he;refine⟨by simp[ca],by simp[ca],fun a=>by simp[ca]⟩
 ·obtain⟨b,off,y,rfl,h1,h2,h3⟩:=wz e he x hx;refine⟨fun o o1 o2 e=>h2 s hs (im e).1,fun e=>absurd (im e).1 (h2 s hs)⟩
def Dw(st:St eD)(w':ae)(K':List (Nat×Obj)):Prop:=∀b o,(b,o)∈K'->w'.heap[b]?=some o/\((∀off,st.γ.ex 0 (ca b off))\/(∀off,st.γ.rd 0 (ca b off))\/st.w.heap.size<=b)/\¬st.γ.dead b
theorem OL{st:St eD}{w':ae}{K':List (Nat×Obj)}{t:Trace}(hK:Dw st w' K'):∀b o,(b,o)∈K'->w'.heap[b]?=some o/\((∀off,(st.γ.grow 0 st.w.heap.size w'.heap.size).ex 0 (ca b off))\/∀off,(st.γ.grow 0 st.w.heap.size w'.heap.size).rd 0 (ca b off)):=fun b o hb=>by
 obtain⟨h1,h2|h2|h2,_⟩:=hK b o hb
 ·exact⟨h1,.inl fun off=>.inl (h2 off)⟩
 ·exact⟨h1,.inr h2⟩
 ·exact⟨h1,.inl fun off=>.inr ⟨rfl,b,rfl,h2,lt_of_block h1⟩⟩
theorem TT.ap9{P:au}(hP:q.P=P){g:ah}{st:St eD}(hA:ni s mw dm num K st)
  (h:∀dV,Rl 0 st dV->ni s mw dm num K dV->Inv q dV->∃g' w' es K',stepG P (0==0) g dV.w=.go g' w' es/\g'.status=.running/\Hf dV w' es/\Dw dV w' K'/\
   ∀dY,dY.w=w'->ni s mw dm num K' dY->Inv q dY->(∀l,dV.γ.ex 0 l->dY.γ.ex 0 l)->(∀b off,dV.w.heap.size<=b->b<w'.heap.size->dY.γ.ex 0 (ca b off))->TT (cfg q) 0 Ch g' dY):TT (cfg q) 0 Ch g st:=by
 subst hP;refine TT.act fun dV hr hi=>?_;have dX:=hA.rely hr;obtain⟨g',w',es,K',h1,h2,h3,h4,h5⟩:=h dV hr dX hi;obtain⟨k1,k2⟩:=hi.aO5 h3 g.frame.fn g.frame.place;exact⟨fun hl=>hl.1 rfl,g',w',es,dV.γ.grow 0 dV.w.heap.size w'.heap.size,h1,h2,rfl,⟨k1,k2⟩,.inr fun k hk hw=>hw,
  h5 _ rfl ⟨dX.sc,dX.mw,dX.dm,dX.num,OL (t:=dV.t) h4,fun b o hb=>(h4 b o hb).2.2⟩ k1 (fun l hl=>.inl hl) fun b off b1 b2=>.inr ⟨rfl,b,rfl,b1,b2⟩⟩
theorem TT.Wy{P:au}(hP:q.P=P){g:ah}{st:St eD}(hA:kv dm num K st)
  (h:∀dV,Rl 0 st dV->kv dm num K dV->Inv q dV->∃g' w' es K',stepG P (0==0) g dV.w=.go g' w' es/\g'.status=.running/\Hf dV w' es/\Dw dV w' K'/\
   ∀dY,dY.w=w'->kv dm num K' dY->Inv q dY->(∀l,dV.γ.ex 0 l->dY.γ.ex 0 l)->(∀b off,dV.w.heap.size<=b->b<w'.heap.size->dY.γ.ex 0 (ca b off))->TT (cfg q) 0 Ch g' dY):TT (cfg q) 0 Ch g st:=by
 subst hP;refine TT.act fun dV hr hi=>?_;have dX:=hA.rely hr;obtain⟨g',w',es,K',h1,h2,h3,h4,h5⟩:=h dV hr dX hi;obtain⟨k1,k2⟩:=hi.aO5 h3 g.frame.fn g.frame.place;exact⟨fun hl=>hl.1 rfl,g',w',es,dV.γ.grow 0 dV.w.heap.size w'.heap.size,h1,h2,rfl,⟨k1,k2⟩,.inr fun k hk hw=>hw,
  h5 _ rfl ⟨dX.sc,dX.mw,dX.dm,dX.num,OL (t:=dV.t) h4,fun b o hb=>(h4 b o hb).2.2⟩ k1 (fun l hl=>.inl hl) fun b off b1 b2=>.inr ⟨rfl,b,rfl,b1,b2⟩⟩
end
end Cc
namespace Cc
open Go.Conc Go.RowKit
def ba3:List ak:=[55,47,68,65,56,87,86,85,58,88,64,84,89,60,121,59,57,67,72,73]
def aS(f:ak):Bool:=ba3.contains f
theorem PC:nL dS aS:=Ap (L:=ba3) kr
end Cc
namespace Cc
open Go.Conc Go.ConcN Go.RowKit
open Pl mJ nG mI Mem ng Ew KM PG
open uU hiding base
section
theorem eu{w:ae}{a b:Nat}{C C':Array af}{e e':aj}{f f':Nat×Nat}(h:w.heap[a]?=some (.cells C e f))(h':w.heap[b]?=some (.cells C' e' f'))(hne:e≠e'):a≠b:=by
 rintro rfl;rw[h]at h';cases h';exact hne rfl
def Hb:Nat->Bool:=fun i=>!([8,9,10,13,14,16,17,21,22,23,81,82,83,84,85,86,87,88,89,90,91,92,93,94,95,96,97,98,99,100,101,102,103,104,105,106].contains i)
theorem Rq:codeOk dS aS Hb xg=true:=kr
theorem KE(fn:Func)(h:Try.prog.funcs[(base 27).fn]?=some fn):fn.results.all (yL Hb)=true:=by
 have e:Try.prog.funcs[(base 27).fn]?=some Try.f27:=Try.func27;rw[e]at h;cases h;show(Try.f27).results.all (yL Hb)=true;kernel_rfl
def gK(b8 fR b16 fX Gb Pb gc lb Rb Zb nc nl:Nat):Nat->Option Md:=fun b=>if b=b8 then some .all else if b=Pb then some (.read 3)else if b=Gb then some (.read 3)else if b=gc then some (.read nc)else if b=lb then some (.read (3*nl))else if b=fR then some (.read 1)else if b=b16 then some (.read 1)else if b=fX then some (.read 1)else if b=Rb then some (.read nl)else if b=Zb then some (.read nl)else none
structure tE(q:iK)(st:St eD)(cs:List Int)(l:List Cm)(msg:ByteArray)(r:Int)(rt:Nat->Bool)(zt:List Int)(T:Array af)(b8 fR b16 fX Gb Pb gc lb Rb Zb iX vQ rX:Nat)(CG Cg CP Cl CR CZ:Array af)(g0 g1:af)(eL:aj):Prop where
 sz:T.size=107
 s8:T[8]?=some (.pointer (some ⟨b8,0,none⟩))
 s9:T[9]?=some (.slice none 0 0)
 Zy:T[10]?=some (.int .i64 0)
 s13:T[13]?=some (.pointer (some ⟨fR,0,none⟩))
 s14:T[14]?=some (.int .u64 r)
 s16:T[16]?=some (.pointer (some ⟨b16,0,none⟩))
 s17:T[17]?=some (.pointer (some ⟨fX,0,none⟩))
 su:∀i,(21<=i/\i<24)\/(81<=i/\i<107)->T[i]?=some av
 sG:st.w.heap[b8]?=some (.cells #[.int .u64 0,.int .u64 0] 47 (0,0))
 oz:st.w.heap[Pb]?=some (.cells CP 164 (0,0))
 mR:st.w.heap[Gb]?=some (.cells CG 137 (0,0))
 oP:st.w.heap[gc]?=some (.cells Cg 79 (0,0))
 V5:st.w.heap[lb]?=some (.cells Cl eL (0,0))
 jE:st.w.heap[fR]?=some (.cells #[.pointer (some ⟨Pb,0,none⟩)] 100 (0,0))
 jD:st.w.heap[b16]?=some (.cells #[.slice (some ⟨Rb,0,none⟩) l.length vQ] 107 (0,0))
 jC:st.w.heap[fX]?=some (.cells #[.slice (some ⟨Zb,0,none⟩) l.length rX] 75 (0,0))
 m7:st.w.heap[Rb]?=some (.cells CR 4 (0,0))
 nC:st.w.heap[Zb]?=some (.cells CZ 76 (0,0))
 ad3:3<=CG.size/\CG[0]?=some g0/\CG[1]?=some g1/\CG[2]?=some (.slice (some ⟨gc,0,none⟩) cs.length iX)/\(∃k x,g0=.int k x)/\∃k x,g1=.int k x
 gcl:cs.length<=Cg.size/\∀j,j<cs.length->Cg[j]?=some (.int .u64 (cs.getD j 0))
 IK:CP.size=3/\CP[0]?=some (.pointer (some ⟨Gb,0,none⟩))/\CP[1]?=some (.slice (some ⟨lb,0,none⟩) l.length l.length)/\CP[2]?=some (.string msg)
 Ck:3*l.length<=Cl.size/\∀j u,j<3*l.length->(eX l)[j]?=some u->Cl[j]?=some u
 NA:CR.size=l.length/\∀k,k<l.length->CR[k]?=some (.bool (rt k))
 Nh:CZ.size=l.length/\∀k,k<l.length->CZ[k]?=some (.int .u64 (zt.getD k 0))
 zl:zt.length=l.length
 cz:l.length<=rX
 l9:l.length<=9
 low:∀b∈[b8,Pb,Gb,gc,lb,fR,b16,fX,Rb,Zb],q.P.globals.size<=b
 pN:∀b∈[b8,Pb,Gb,gc,fR,b16,fX,Rb,Zb],lb≠b
 nd:∀b∈[b8,Pb,Gb,gc,lb,fR,b16,fX,Rb,Zb],¬st.γ.dead b
 bo9:ba9 st b8
 ex:∀b∈[b8,Pb,Gb,gc,lb,fR,b16,fX,Rb,Zb],∀off,st.γ.ex 0 (ca b off)
def yD(r:Int)(zt wr:List Int)(num:Nat)(K:List (Nat×Obj))(v:af)(st:St eD):Prop:=
 (wr=[]/\v=.tuple #[.agg #[.int .u64 r,.int .u64 (xA 0 zt zt.length)],.slice none 0 0,.int .i64 0]/\kv 0 num K st)\/
 (wr≠[]/\∃(c cap:Nat) (C:Array af),v=.tuple #[.agg #[.int .u64 0,.int .u64 0],.slice (some ⟨c,0,none⟩) wr.length cap,.int .i64 14]/\kv 0 num ((c,.cells C 3 (0,0))::K) st/\wr.length<=cap/\wr.length<=C.size/\∀j,j<wr.length->C[j]?=some (.int .i64 (wr.getD j 0)))
section
variable{q:iK}{st:St eD}{cs:List Int}{l:List Cm}{msg:ByteArray}{r:Int}{rt:Nat->Bool}{zt:List Int}{T:Array af}{b8 fR b16 fX Gb Pb gc lb Rb Zb iX vQ rX:Nat}{CG Cg CP Cl CR CZ:Array af}{g0 g1:af}{eL:aj}
theorem tE.sees(h:tE q st cs l msg r rt zt T b8 fR b16 fX Gb Pb gc lb Rb Zb iX vQ rX CG Cg CP Cl CR CZ g0 g1 eL):yB q aS (gK b8 fR b16 fX Gb Pb gc lb Rb Zb cs.length l.length) st:=by
 have x8:Pb≠b8:=eu h.oz h.sG (by decide);have x9:Gb≠b8:=eu h.mR h.sG (by decide);have ya:Gb≠Pb:=eu h.mR h.oz (by decide);have xQ:gc≠b8:=eu h.oP h.sG (by decide);have rP:gc≠Pb:=eu h.oP h.oz (by decide);have pg:gc≠Gb:=eu h.oP h.mR (by decide);have xP:lb≠b8:=h.pN b8 (by simp);have rO:lb≠Pb:=h.pN Pb (by simp);have o9:lb≠Gb:=h.pN Gb (by simp);have rN:lb≠gc:=h.pN gc (by simp);have uj:fR≠b8:=eu h.jE h.sG (by decide);have uk:fR≠Pb:=eu h.jE h.oz (by decide);have mP:fR≠Gb:=eu h.jE h.mR (by decide);have ui:fR≠gc:=eu h.jE h.oP (by decide);have uh:fR≠lb:=(h.pN fR (by simp)).symm;have uf:b16≠b8:=eu h.jD h.sG (by decide);have ug:b16≠Pb:=eu h.jD h.oz (by decide);have mO:b16≠Gb:=eu h.jD h.mR (by decide);have ub:b16≠gc:=eu h.jD h.oP (by decide);have tY:b16≠lb:=(h.pN b16 (by simp)).symm;have qZ:b16≠fR:=eu h.jD h.jE (by decide);have tV:fX≠b8:=eu h.jC h.sG (by decide);have tX:fX≠Pb:=eu h.jC h.oz (by decide);have mN:fX≠Gb:=eu h.jC h.mR (by decide);have tU:fX≠gc:=eu h.jC h.oP (by decide);have tT:fX≠lb:=(h.pN fX (by simp)).symm;have qY:fX≠fR:=eu h.jC h.jE (by decide);have qX:fX≠b16:=eu h.jC h.jD (by decide);have xZ:Rb≠b8:=eu h.m7 h.sG (by decide);have x6:Rb≠Pb:=eu h.m7 h.oz (by decide);have x7:Rb≠Gb:=eu h.m7 h.mR (by decide);have xY:Rb≠gc:=eu h.m7 h.oP (by decide);have xX:Rb≠lb:=(h.pN Rb (by simp)).symm;have uw:Rb≠fR:=eu h.m7 h.jE (by decide);have uv:Rb≠b16:=eu h.m7 h.jD (by decide);have uu:Rb≠fX:=eu h.m7 h.jC (by decide);have xU:Zb≠b8:=eu h.nC h.sG (by decide);have xV:Zb≠Pb:=eu h.nC h.oz (by decide);have xW:Zb≠Gb:=eu h.nC h.mR (by decide);have xS:Zb≠gc:=eu h.nC h.oP (by decide);have xR:Zb≠lb:=(h.pN Zb (by simp)).symm;have uq:Zb≠fR:=eu h.nC h.jE (by decide);have uo:Zb≠b16:=eu h.nC h.jD (by decide);have um:Zb≠fX:=eu h.nC h.jC (by decide);have pj:Zb≠Rb:=eu h.nC h.m7 (by decide);have XC:gK b8 fR b16 fX Gb Pb gc lb Rb Zb cs.length l.length b8=some .all:=by unfold gK;simp[]
 have Qy:gK b8 fR b16 fX Gb Pb gc lb Rb Zb cs.length l.length Pb=some (.read 3):=by unfold gK;simp[x8]
 have XF:gK b8 fR b16 fX Gb Pb gc lb Rb Zb cs.length l.length Gb=some (.read 3):=by unfold gK;simp[x9,ya]
 have XB:gK b8 fR b16 fX Gb Pb gc lb Rb Zb cs.length l.length gc=some (.read cs.length):=by unfold gK;simp[xQ,rP,pg]
 have XA:gK b8 fR b16 fX Gb Pb gc lb Rb Zb cs.length l.length lb=some (.read (3*l.length)):=by unfold gK;simp[xP,rO,o9,rN]
 have Oy:gK b8 fR b16 fX Gb Pb gc lb Rb Zb cs.length l.length fR=some (.read 1):=by unfold gK;simp[uj,uk,mP,ui,uh]
 have Ox:gK b8 fR b16 fX Gb Pb gc lb Rb Zb cs.length l.length b16=some (.read 1):=by unfold gK;simp[uf,ug,mO,ub,tY,qZ]
 have Ow:gK b8 fR b16 fX Gb Pb gc lb Rb Zb cs.length l.length fX=some (.read 1):=by unfold gK;simp[tV,tX,mN,tU,tT,qY,qX]
 have XE:gK b8 fR b16 fX Gb Pb gc lb Rb Zb cs.length l.length Rb=some (.read l.length):=by unfold gK;simp[xZ,x6,x7,xY,xX,uw,uv,uu]
 have XD:gK b8 fR b16 fX Gb Pb gc lb Rb Zb cs.length l.length Zb=some (.read l.length):=by unfold gK;simp[xU,xV,xW,xS,xR,uq,uo,um,pj]
 have low:=h.low;have nd:=h.nd;have ex:=h.ex;simp only[aM,bA,or_false,forall_eq_or_imp,forall_eq]at low nd ex;obtain⟨aq5,aq8,aq9,aq4,aq3,XJ,XI,XH,aq7,aq6⟩:=low;obtain⟨aR3,aR6,aR7,aR2,aR1,ao8,ao7,ao6,aR5,aR4⟩:=nd;obtain⟨bT8,a77,a78,a72,a71,aA2,aA1,aA0,a74,a73⟩:=ex;intro b m hm;unfold gK at hm;split at hm
 ·rename_i e;subst e;cases hm;exact⟨aq5,aR3,_,_,_,h.sG,rfl,h.bo9,fun k v hv=>by match k,hv with|0,hv=>(simp at hv;subst hv;exact .int _ _)|1,hv=>(simp at hv;subst hv;exact .int _ _)|k+2,hv=>simp at hv⟩
 split at hm
 ·rename_i e;subst e;cases hm;refine⟨aq8,aR6,_,_,_,h.oz,by have:=h.IK.1;omega,.inr a77,fun k v hk hv=>?_⟩;match k,hk with
  |0,_=>rw[h.IK.2.1]at hv;cases hv;exact .ptr _ _ (jF XF)
  |1,_=>rw[h.IK.2.2.1]at hv;cases hv;exact .slice _ _ _ _ (jF XA)
  |2,_=>rw[h.IK.2.2.2]at hv;cases hv;exact .string _
  |k+3,hk=>omega
 split at hm
 ·rename_i e;subst e;cases hm;obtain⟨g1,g2,g3,g4,⟨k0,x0,rfl⟩,k1,x1,rfl⟩:=h.ad3;refine⟨aq9,aR7,_,_,_,h.mR,g1,.inr a78,fun k v hk hv=>?_⟩;match k,hk with
  |0,_=>rw[g2]at hv;cases hv;exact .int _ _
  |1,_=>rw[g3]at hv;cases hv;exact .int _ _
  |2,_=>rw[g4]at hv;cases hv;exact .slice _ _ _ _ (jF XB)
  |k+3,hk=>omega
 split at hm
 ·rename_i e;subst e;cases hm;exact⟨aq4,aR2,_,_,_,h.oP,h.gcl.1,.inr a72,fun k v hk hv=>by rw[h.gcl.2 k hk]at hv;cases hv;exact .int _ _⟩
 split at hm
 ·rename_i e;subst e;cases hm;refine⟨aq3,aR1,_,_,_,h.V5,h.Ck.1,.inr a71,fun k v hk hv=>?_⟩;have hlen:k<(eX l).length:=by rw[gg];omega
  have:=h.Ck.2 k _ hk (aN hlen)
  rw[this]at hv;cases hv;have hm:=List.getElem_mem hlen;generalize(eX l)[k]=u at hm ⊢;simp only[eX,List.mem_flatMap]at hm;obtain⟨c,_,hu⟩:=hm;simp only[Cm.cells,aM,bA,or_false]at hu;rcases hu with rfl|rfl|rfl<;>exact .int _ _
 split at hm
 ·rename_i e;subst e;cases hm;exact⟨XJ,ao8,_,_,_,h.jE,by simp,.inr aA2,fun k v hk hv=>by match k,hk with|0,_=>(simp at hv;subst hv;exact .ptr _ _ (jF Qy))⟩
 split at hm
 ·rename_i e;subst e;cases hm;exact⟨XI,ao7,_,_,_,h.jD,by simp,.inr aA1,fun k v hk hv=>by match k,hk with|0,_=>(simp at hv;subst hv;exact .slice _ _ _ _ (jF XE))⟩
 split at hm
 ·rename_i e;subst e;cases hm;exact⟨XH,ao6,_,_,_,h.jC,by simp,.inr aA0,fun k v hk hv=>by match k,hk with|0,_=>(simp at hv;subst hv;exact .slice _ _ _ _ (jF XD))⟩
 split at hm
 ·rename_i e;subst e;cases hm;exact⟨aq7,aR5,_,_,_,h.m7,cP h.NA.1.symm,.inr a74,fun k v hk hv=>by rw[h.NA.2 k hk]at hv;cases hv;exact .bool _⟩
 split at hm
 ·rename_i e;subst e;cases hm;exact⟨aq6,aR4,_,_,_,h.nC,cP h.Nh.1.symm,.inr a73,fun k v hk hv=>by rw[h.Nh.2 k hk]at hv;cases hv;exact .int _ _⟩
 cases hm
theorem tE.cell(h:tE q st cs l msg r rt zt T b8 fR b16 fX Gb Pb gc lb Rb Zb iX vQ rX CG Cg CP Cl CR CZ g0 g1 eL){md:Nat->Option Md}{b n:Nat}{C:Array af}{e:aj}{fz:Nat×Nat}(hm:md b=some (.read n))(hb:st.w.heap[b]?=some (.cells C e fz)){o:Nat}(ho:o<n)(hn:n<=C.size):(iD st.w md).cell? ⟨b,o,none⟩=C[o]?:=by
 simp only[World.cell?,BN hm hb];have:(C.extract 0 n)[o]?=C[o]?:=by
  rw[Array.getElem?_extract];simp only[cZ];by_cases h:o<n-0
  ·simp<;>omega
  ·omega
 exact this
end
end
section
section
variable{q:iK}{st:St eD}{cs:List Int}{l:List Cm}{msg:ByteArray}{r:Int}{rt:Nat->Bool}{zt:List Int}{T:Array af}{b8 fR b16 fX Gb Pb gc lb Rb Zb iX vQ rX:Nat}{CG Cg CP Cl CR CZ:Array af}{g0 g1:af}{eL:aj}
theorem tE.ar(h:tE q st cs l msg r rt zt T b8 fR b16 fX Gb Pb gc lb Rb Zb iX vQ rX CG Cg CP Cl CR CZ g0 g1 eL):AR (fun f=>aS f=true) (ze (gK b8 fR b16 fX Gb Pb gc lb Rb Zb cs.length l.length)) (nI Hb (agU b8 fR b16 fX r)) (nI Hb T):=by
 have x8:Pb≠b8:=eu h.oz h.sG (by decide);have x9:Gb≠b8:=eu h.mR h.sG (by decide);have ya:Gb≠Pb:=eu h.mR h.oz (by decide);have xQ:gc≠b8:=eu h.oP h.sG (by decide);have rP:gc≠Pb:=eu h.oP h.oz (by decide);have pg:gc≠Gb:=eu h.oP h.mR (by decide);have xP:lb≠b8:=h.pN b8 (by simp);have rO:lb≠Pb:=h.pN Pb (by simp);have o9:lb≠Gb:=h.pN Gb (by simp);have rN:lb≠gc:=h.pN gc (by simp);have uj:fR≠b8:=eu h.jE h.sG (by decide);have uk:fR≠Pb:=eu h.jE h.oz (by decide);have mP:fR≠Gb:=eu h.jE h.mR (by decide);have ui:fR≠gc:=eu h.jE h.oP (by decide);have uh:fR≠lb:=(h.pN fR (by simp)).symm;have uf:b16≠b8:=eu h.jD h.sG (by decide);have ug:b16≠Pb:=eu h.jD h.oz (by decide);have mO:b16≠Gb:=eu h.jD h.mR (by decide);have ub:b16≠gc:=eu h.jD h.oP (by decide);have tY:b16≠lb:=(h.pN b16 (by simp)).symm;have qZ:b16≠fR:=eu h.jD h.jE (by decide);have tV:fX≠b8:=eu h.jC h.sG (by decide);have tX:fX≠Pb:=eu h.jC h.oz (by decide);have mN:fX≠Gb:=eu h.jC h.mR (by decide);have tU:fX≠gc:=eu h.jC h.oP (by decide);have tT:fX≠lb:=(h.pN fX (by simp)).symm;have qY:fX≠fR:=eu h.jC h.jE (by decide);have qX:fX≠b16:=eu h.jC h.jD (by decide);have xZ:Rb≠b8:=eu h.m7 h.sG (by decide);have x6:Rb≠Pb:=eu h.m7 h.oz (by decide);have x7:Rb≠Gb:=eu h.m7 h.mR (by decide);have xY:Rb≠gc:=eu h.m7 h.oP (by decide);have xX:Rb≠lb:=(h.pN Rb (by simp)).symm;have uw:Rb≠fR:=eu h.m7 h.jE (by decide);have uv:Rb≠b16:=eu h.m7 h.jD (by decide);have uu:Rb≠fX:=eu h.m7 h.jC (by decide);have xU:Zb≠b8:=eu h.nC h.sG (by decide);have xV:Zb≠Pb:=eu h.nC h.oz (by decide);have xW:Zb≠Gb:=eu h.nC h.mR (by decide);have xS:Zb≠gc:=eu h.nC h.oP (by decide);have xR:Zb≠lb:=(h.pN Zb (by simp)).symm;have uq:Zb≠fR:=eu h.nC h.jE (by decide);have uo:Zb≠b16:=eu h.nC h.jD (by decide);have um:Zb≠fX:=eu h.nC h.jC (by decide);have pj:Zb≠Rb:=eu h.nC h.m7 (by decide);have XC:gK b8 fR b16 fX Gb Pb gc lb Rb Zb cs.length l.length b8=some .all:=by unfold gK;simp[]
 have Qy:gK b8 fR b16 fX Gb Pb gc lb Rb Zb cs.length l.length Pb=some (.read 3):=by unfold gK;simp[x8]
 have XF:gK b8 fR b16 fX Gb Pb gc lb Rb Zb cs.length l.length Gb=some (.read 3):=by unfold gK;simp[x9,ya]
 have XB:gK b8 fR b16 fX Gb Pb gc lb Rb Zb cs.length l.length gc=some (.read cs.length):=by unfold gK;simp[xQ,rP,pg]
 have XA:gK b8 fR b16 fX Gb Pb gc lb Rb Zb cs.length l.length lb=some (.read (3*l.length)):=by unfold gK;simp[xP,rO,o9,rN]
 have Oy:gK b8 fR b16 fX Gb Pb gc lb Rb Zb cs.length l.length fR=some (.read 1):=by unfold gK;simp[uj,uk,mP,ui,uh]
 have Ox:gK b8 fR b16 fX Gb Pb gc lb Rb Zb cs.length l.length b16=some (.read 1):=by unfold gK;simp[uf,ug,mO,ub,tY,qZ]
 have Ow:gK b8 fR b16 fX Gb Pb gc lb Rb Zb cs.length l.length fX=some (.read 1):=by unfold gK;simp[tV,tX,mN,tU,tT,qY,qX]
 have XE:gK b8 fR b16 fX Gb Pb gc lb Rb Zb cs.length l.length Rb=some (.read l.length):=by unfold gK;simp[xZ,x6,x7,xY,xX,uw,uv,uu]
 have XD:gK b8 fR b16 fX Gb Pb gc lb Rb Zb cs.length l.length Zb=some (.read l.length):=by unfold gK;simp[xU,xV,xW,xS,xR,uq,uo,um,pj]
 refine Vr (by rw[h.sz];rfl) fun i v v' hd e1 e2=>?_;have hi:i∈[8,9,10,13,14,16,17,21,22,23,81,82,83,84,85,86,87,88,89,90,91,92,93,94,95,96,97,98,99,100,101,102,103,104,105,106]:=by simpa only[Hb,Bool.not_eq_false',List.contains_iff_mem]using hd
 simp only[aM,bA,or_false]at hi;rcases hi with rfl|rfl|rfl|rfl|rfl|rfl|rfl|rfl|rfl|rfl|rfl|rfl|rfl|rfl|rfl|rfl|rfl|rfl|rfl|rfl|rfl|rfl|rfl|rfl|rfl|rfl|rfl|rfl|rfl|rfl|rfl|rfl|rfl|rfl|rfl|rfl
 ·rw[h.s8]at e2;cases e1;cases e2;exact .ptr _ _ (jF XC)
 ·rw[h.s9]at e2;cases e1;cases e2;exact .ig _ _
 ·rw[h.Zy]at e2;cases e1;cases e2;exact .int _ _
 ·rw[h.s13]at e2;cases e1;cases e2;exact .ptr _ _ (jF Oy)
 ·rw[h.s14]at e2;cases e1;cases e2;exact .int _ _
 ·rw[h.s16]at e2;cases e1;cases e2;exact .ptr _ _ (jF Ox)
 ·rw[h.s17]at e2;cases e1;cases e2;exact .ptr _ _ (jF Ow)
 ·rw[h.su 21 (by omega)]at e2;cases e1;cases e2;exact VR.undef
 ·rw[h.su 22 (by omega)]at e2;cases e1;cases e2;exact VR.undef
 ·rw[h.su 23 (by omega)]at e2;cases e1;cases e2;exact VR.undef
 ·rw[h.su 81 (by omega)]at e2;cases e1;cases e2;exact VR.undef
 ·rw[h.su 82 (by omega)]at e2;cases e1;cases e2;exact VR.undef
 ·rw[h.su 83 (by omega)]at e2;cases e1;cases e2;exact VR.undef
 ·rw[h.su 84 (by omega)]at e2;cases e1;cases e2;exact VR.undef
 ·rw[h.su 85 (by omega)]at e2;cases e1;cases e2;exact VR.undef
 ·rw[h.su 86 (by omega)]at e2;cases e1;cases e2;exact VR.undef
 ·rw[h.su 87 (by omega)]at e2;cases e1;cases e2;exact VR.undef
 ·rw[h.su 88 (by omega)]at e2;cases e1;cases e2;exact VR.undef
 ·rw[h.su 89 (by omega)]at e2;cases e1;cases e2;exact VR.undef
 ·rw[h.su 90 (by omega)]at e2;cases e1;cases e2;exact VR.undef
 ·rw[h.su 91 (by omega)]at e2;cases e1;cases e2;exact VR.undef
 ·rw[h.su 92 (by omega)]at e2;cases e1;cases e2;exact VR.undef
 ·rw[h.su 93 (by omega)]at e2;cases e1;cases e2;exact VR.undef
 ·rw[h.su 94 (by omega)]at e2;cases e1;cases e2;exact VR.undef
 ·rw[h.su 95 (by omega)]at e2;cases e1;cases e2;exact VR.undef
 ·rw[h.su 96 (by omega)]at e2;cases e1;cases e2;exact VR.undef
 ·rw[h.su 97 (by omega)]at e2;cases e1;cases e2;exact VR.undef
 ·rw[h.su 98 (by omega)]at e2;cases e1;cases e2;exact VR.undef
 ·rw[h.su 99 (by omega)]at e2;cases e1;cases e2;exact VR.undef
 ·rw[h.su 100 (by omega)]at e2;cases e1;cases e2;exact VR.undef
 ·rw[h.su 101 (by omega)]at e2;cases e1;cases e2;exact VR.undef
 ·rw[h.su 102 (by omega)]at e2;cases e1;cases e2;exact VR.undef
 ·rw[h.su 103 (by omega)]at e2;cases e1;cases e2;exact VR.undef
 ·rw[h.su 104 (by omega)]at e2;cases e1;cases e2;exact VR.undef
 ·rw[h.su 105 (by omega)]at e2;cases e1;cases e2;exact VR.undef
 ·rw[h.su 106 (by omega)]at e2;cases e1;cases e2;exact VR.undef
theorem tE.pkw(h:tE q st cs l msg r rt zt T b8 fR b16 fX Gb Pb gc lb Rb Zb iX vQ rX CG Cg CP Cl CR CZ g0 g1 eL):
  RU (iD st.w (gK b8 fR b16 fX Gb Pb gc lb Rb Zb cs.length l.length)) Pb Gb (.slice (some ⟨lb,0,none⟩) l.length l.length) cs l msg/\
  ft (iD st.w (gK b8 fR b16 fX Gb Pb gc lb Rb Zb cs.length l.length)) b8 47 #[.int .u64 0,.int .u64 0]/\
  (iD st.w (gK b8 fR b16 fX Gb Pb gc lb Rb Zb cs.length l.length)).cell? ⟨fR,0,none⟩=some (.pointer (some ⟨Pb,0,none⟩))/\
  (iD st.w (gK b8 fR b16 fX Gb Pb gc lb Rb Zb cs.length l.length)).cell? ⟨b16,0,none⟩=some (.slice (some ⟨Rb,0,none⟩) l.length vQ)/\
  (iD st.w (gK b8 fR b16 fX Gb Pb gc lb Rb Zb cs.length l.length)).cell? ⟨fX,0,none⟩=some (.slice (some ⟨Zb,0,none⟩) l.length rX)/\
  (∀k,k<l.length->(iD st.w (gK b8 fR b16 fX Gb Pb gc lb Rb Zb cs.length l.length)).cell? ⟨Rb,k,none⟩=some (.bool (rt k)))/\
  (∀k,k<l.length->(iD st.w (gK b8 fR b16 fX Gb Pb gc lb Rb Zb cs.length l.length)).cell? ⟨Zb,k,none⟩=some (.int .u64 (zt.getD k 0))):=by
 have x8:Pb≠b8:=eu h.oz h.sG (by decide);have x9:Gb≠b8:=eu h.mR h.sG (by decide);have ya:Gb≠Pb:=eu h.mR h.oz (by decide);have xQ:gc≠b8:=eu h.oP h.sG (by decide);have rP:gc≠Pb:=eu h.oP h.oz (by decide);have pg:gc≠Gb:=eu h.oP h.mR (by decide);have xP:lb≠b8:=h.pN b8 (by simp);have rO:lb≠Pb:=h.pN Pb (by simp);have o9:lb≠Gb:=h.pN Gb (by simp);have rN:lb≠gc:=h.pN gc (by simp);have uj:fR≠b8:=eu h.jE h.sG (by decide);have uk:fR≠Pb:=eu h.jE h.oz (by decide);have mP:fR≠Gb:=eu h.jE h.mR (by decide);have ui:fR≠gc:=eu h.jE h.oP (by decide);have uh:fR≠lb:=(h.pN fR (by simp)).symm;have uf:b16≠b8:=eu h.jD h.sG (by decide);have ug:b16≠Pb:=eu h.jD h.oz (by decide);have mO:b16≠Gb:=eu h.jD h.mR (by decide);have ub:b16≠gc:=eu h.jD h.oP (by decide);have tY:b16≠lb:=(h.pN b16 (by simp)).symm;have qZ:b16≠fR:=eu h.jD h.jE (by decide);have tV:fX≠b8:=eu h.jC h.sG (by decide);have tX:fX≠Pb:=eu h.jC h.oz (by decide);have mN:fX≠Gb:=eu h.jC h.mR (by decide);have tU:fX≠gc:=eu h.jC h.oP (by decide);have tT:fX≠lb:=(h.pN fX (by simp)).symm;have qY:fX≠fR:=eu h.jC h.jE (by decide);have qX:fX≠b16:=eu h.jC h.jD (by decide);have xZ:Rb≠b8:=eu h.m7 h.sG (by decide);have x6:Rb≠Pb:=eu h.m7 h.oz (by decide);have x7:Rb≠Gb:=eu h.m7 h.mR (by decide);have xY:Rb≠gc:=eu h.m7 h.oP (by decide);have xX:Rb≠lb:=(h.pN Rb (by simp)).symm;have uw:Rb≠fR:=eu h.m7 h.jE (by decide);have uv:Rb≠b16:=eu h.m7 h.jD (by decide);have uu:Rb≠fX:=eu h.m7 h.jC (by decide);have xU:Zb≠b8:=eu h.nC h.sG (by decide);have xV:Zb≠Pb:=eu h.nC h.oz (by decide);have xW:Zb≠Gb:=eu h.nC h.mR (by decide);have xS:Zb≠gc:=eu h.nC h.oP (by decide);have xR:Zb≠lb:=(h.pN Zb (by simp)).symm;have uq:Zb≠fR:=eu h.nC h.jE (by decide);have uo:Zb≠b16:=eu h.nC h.jD (by decide);have um:Zb≠fX:=eu h.nC h.jC (by decide);have pj:Zb≠Rb:=eu h.nC h.m7 (by decide);have XC:gK b8 fR b16 fX Gb Pb gc lb Rb Zb cs.length l.length b8=some .all:=by unfold gK;simp[]
 have Qy:gK b8 fR b16 fX Gb Pb gc lb Rb Zb cs.length l.length Pb=some (.read 3):=by unfold gK;simp[x8]
 have XF:gK b8 fR b16 fX Gb Pb gc lb Rb Zb cs.length l.length Gb=some (.read 3):=by unfold gK;simp[x9,ya]
 have XB:gK b8 fR b16 fX Gb Pb gc lb Rb Zb cs.length l.length gc=some (.read cs.length):=by unfold gK;simp[xQ,rP,pg]
 have XA:gK b8 fR b16 fX Gb Pb gc lb Rb Zb cs.length l.length lb=some (.read (3*l.length)):=by unfold gK;simp[xP,rO,o9,rN]
 have Oy:gK b8 fR b16 fX Gb Pb gc lb Rb Zb cs.length l.length fR=some (.read 1):=by unfold gK;simp[uj,uk,mP,ui,uh]
 have Ox:gK b8 fR b16 fX Gb Pb gc lb Rb Zb cs.length l.length b16=some (.read 1):=by unfold gK;simp[uf,ug,mO,ub,tY,qZ]
 have Ow:gK b8 fR b16 fX Gb Pb gc lb Rb Zb cs.length l.length fX=some (.read 1):=by unfold gK;simp[tV,tX,mN,tU,tT,qY,qX]
 have XE:gK b8 fR b16 fX Gb Pb gc lb Rb Zb cs.length l.length Rb=some (.read l.length):=by unfold gK;simp[xZ,x6,x7,xY,xX,uw,uv,uu]
 have XD:gK b8 fR b16 fX Gb Pb gc lb Rb Zb cs.length l.length Zb=some (.read l.length):=by unfold gK;simp[xU,xV,xW,xS,xR,uq,uo,um,pj]
 have lt:∀{b:Nat} {o:Obj},st.w.heap[b]?=some o->b<(iD st.w (gK b8 fR b16 fX Gb Pb gc lb Rb Zb cs.length l.length)).heap.size:=fun hb=>by rw[od];exact lt_of_block hb
 obtain⟨p1,p2,p3,p4⟩:=h.IK;obtain⟨G1,G2,G3,G4,-,-⟩:=h.ad3;refine⟨⟨⟨?_,?_,?_⟩,lt h.oz,⟨gg l,some ⟨lb,0,none⟩,l.length,rfl,aH _,fun hl=>⟨lb,0,rfl,lt h.V5,fun i u hu=>?_⟩⟩,⟨gc,iX,?_,lt h.mR,lt h.oP,fun hc=>?_⟩⟩,EF XC h.sG,?_,?_,?_,fun k hk=>?_,fun k hk=>?_⟩
 ·rw[h.cell Qy h.oz (by omega) (by omega)];exact p2
 ·rw[h.cell Qy h.oz (by omega) (by omega)];exact p3
 ·rw[h.cell Qy h.oz (by omega) (by omega)];exact p4
 ·have:i<3*l.length:=by have:=gg l;have:=(List.getElem?_eq_some_iff.1 hu).1;omega
  rw[cZ,h.cell XA h.V5 this h.Ck.1];exact h.Ck.2 i u this hu
 ·rw[h.cell XF h.mR (by omega) G1];exact G4
 ·rw[h.cell XB h.oP hc h.gcl.1];exact h.gcl.2 0 hc
 ·rw[h.cell Oy h.jE (by omega) (by simp)];rfl
 ·rw[h.cell Ox h.jD (by omega) (by simp)];rfl
 ·rw[h.cell Ow h.jC (by omega) (by simp)];rfl
 ·rw[h.cell XE h.m7 hk (cP h.NA.1.symm)];exact h.NA.2 k hk
 ·rw[h.cell XD h.nC hk (cP h.Nh.1.symm)];exact h.Nh.2 k hk
theorem Vv{b:Nat}(h:gK b8 fR b16 fX Gb Pb gc lb Rb Zb cs.length l.length b=some .all):b=b8:=by
 unfold gK at h;repeat' split at h
 all_goals first|assumption|(cases h;done)|skip
structure ba6(md:Nat->Option Md)(st:St eD)(l:List Cm)(cs:List Int)(msg:ByteArray)(rt:Nat->Bool)(zt:List Int)(b8 fR b16 fX Gb Pb lb Rb Zb vQ rX:Nat):Prop where
 pk:RU (iD st.w md) Pb Gb (.slice (some ⟨lb,0,none⟩) l.length l.length) cs l msg
 b8:ft (iD st.w md) b8 47 #[.int .u64 0,.int .u64 0]
 fR:(iD st.w md).cell? ⟨fR,0,none⟩=some (.pointer (some ⟨Pb,0,none⟩))
 b16:(iD st.w md).cell? ⟨b16,0,none⟩=some (.slice (some ⟨Rb,0,none⟩) l.length vQ)
 fX:(iD st.w md).cell? ⟨fX,0,none⟩=some (.slice (some ⟨Zb,0,none⟩) l.length rX)
 rb:∀k,k<l.length->(iD st.w md).cell? ⟨Rb,k,none⟩=some (.bool (rt k))
 zb:∀k,k<l.length->(iD st.w md).cell? ⟨Zb,k,none⟩=some (.int .u64 (zt.getD k 0))
theorem tE.md(h:tE q st cs l msg r rt zt T b8 fR b16 fX Gb Pb gc lb Rb Zb iX vQ rX CG Cg CP Cl CR CZ g0 g1 eL):∃md,AR (fun f=>aS f=true) (ze md) (nI Hb (agU b8 fR b16 fX r)) (nI Hb T)/\yB q aS md st/\ba6 md st l cs msg rt zt b8 fR b16 fX Gb Pb lb Rb Zb vQ rX/\∀b,md b=some .all->b=b8:=
 let⟨p1,p2,p3,p4,p5,p6,p7⟩:=h.pkw
 ⟨_,h.ar,h.sees,⟨p1,p2,p3,p4,p5,p6,p7⟩,fun b hb=>Vv hb⟩
end
section
variable{q:iK}(hP:q.P=dS){num:Nat}{K:List (Nat×Obj)}{cs:List Int}{l:List Cm}{msg:ByteArray}{r:Int}{rt:Nat->Bool}{zt:List Int}{T:Array af}{b8 fR b16 fX Gb Pb gc lb Rb Zb iX vQ rX:Nat}{CG Cg CP Cl CR CZ:Array af}{g0 g1:af}{eL:aj}
include hP
theorem ai5{st:St eD}(hA:kv 0 num K st)(hI:Inv q st)(h:tE q st cs l msg r rt zt T b8 fR b16 fX Gb Pb gc lb Rb Zb iX vQ rX CG Cg CP Cl CR CZ g0 g1 eL)(hK:∀b o,(b,o)∈K->b≠b8){c:ai}{bs:List ai}{Ch:Nat->ah->St eD->Prop}
  (fin:∀v st',yD r zt (fS rt l l.length) num K v st'->Inv q st'->TT (cfg q) 0 Ch (G (c.finish v) bs) st'):
  TT (cfg q) 0 Ch (G ((base 27).at ⟨T,[]⟩ [.code xg]) (c::bs)) st:=by
 have hfn:Try.prog.funcs[(base 27).fn]?=some Try.f27:=Try.func27;obtain⟨md,har,Ua,bs8,hall⟩:=h.md;have hmk:Sh q aS Hb (uY md) (·=b8) st (fun a w=>a=⟨agU b8 fR b16 fX r,[]⟩/\∃τ d,w=World.on (iD st.w md) τ d) ⟨T,[]⟩ st:=Sh.make (a:=⟨agU b8 fR b16 fX r,[]⟩) (a':=⟨T,[]⟩) Ua hI hall har rfl rfl ⟨rfl,st.w.tape,st.w.drawn,rfl⟩;refine TT.piece (N:=fun _ _=>False) (R:=fun a w=>∃v,(bR Try.f27 a.tmps).run dS w=.ok v w/\KL r zt (fS rt l l.length) (iD st.w md) v w) hP PC hI Rq rfl KE hmk ?_ ?_ ?_
 ·rintro a w τ d ⟨rfl,H5,d',rfl⟩;obtain⟨q1,q2,q3,q4,q5,q6,q7⟩:=bs8;have q0:RU (World.on (iD st.w md) τ d) Pb Gb (.slice (some ⟨lb,0,none⟩) l.length l.length) cs l msg:=⟨q1.cells,q1.lt,q1.iJ,q1.key⟩;refine Code.wp_mono ?_ (aN0 (w:=World.on (iD st.w md) τ d) (n:=l.length) (zt:=zt) (rt:=rt) (r:=r) q0 rfl h.l9 h.zl q2 q3 q4 q5 q6 ⟨some ⟨Zb,0,none⟩,rX,?_,?_,fun hl=>⟨Zb,0,rfl,?_,fun i hi=>?_⟩⟩)
  ·rintro e a w' ⟨h1,h2,v,h3,h4⟩;exact .inr ⟨h1,h2,v,h3,h4⟩
  ·rw[h.zl]
  ·rw[h.zl];exact h.cz
  ·show Zb<(iD st.w md).heap.size;rw[od];exact lt_of_block h.nC
  ·rw[cZ];exact q7 i (by rw[<-h.zl];exact hi)
 ·rintro a2 st' ⟨_,_,_,_,_,_,_,_,_,_,_,hF⟩;exact hF.elim
 ·intro a2 st' todo hs;refine TT.ret hP PC hI rfl hfn (KE _ hfn) hs fun v v' ρ s Zq hH hV hv hR=>?_;obtain⟨τ,d,hR⟩:=hR;have hA2:kv 0 num K Zq:=hA.mn hV.2.2.2.1 hK;rcases hR with⟨h0,rfl⟩|⟨h0,W,rfl,hown⟩
  ·have hv':=VR.same (ρ:=fun _=>none) (ρ':=ρ) (fun b c x=>by cases x) (fun b c x=>by cases x) (n7 4 _ (by simp[iV])) (mz 4 _ (by simp[fI])) hv;subst hv';exact fin _ Zq (.inl ⟨h0,rfl,hA2⟩) hV.2.1
  ·obtain⟨o1,o2⟩:=hown;rcases o2 with⟨-,o2⟩|⟨g,cap,cur,rfl,o3,o4,o5,o6,o7,o8⟩
   ·exact absurd (List.length_eq_zero_iff.1 o2) h0
   have hsz:st.w.heap.size<=g:=by rw[od]at o3;exact o3
   have hrg:uY md g=.all:=by
    unfold uY;cases hm:md g with
    |none=>rfl
    |some m=>
     obtain⟨-,-,C,e,fz,hb,-⟩:=Ua g m hm;have:=lt_of_block hb
     omega
   obtain⟨c',C',e1,e2,e3⟩:=hH.mC hrg o4;obtain⟨f1,f2,f3⟩:=ji hV e1 hrg hsz;have hv2:v'=.tuple #[.agg #[.int .u64 0,.int .u64 0],.slice (some ⟨c',0,none⟩) (fS rt l l.length).length cap,.int .i64 14]:=by
    cases hv with
    | @tuple _ x' hx h1=>
     have hz:x'.size=3:=by simpa using hx.symm
     have x0:=h1 0 _ (x'[0]'(by omega)) rfl (aI (by omega));have x1:=h1 1 _ (x'[1]'(by omega)) rfl (aI (by omega));have x2:=h1 2 _ (x'[2]'(by omega)) rfl (aI (by omega));have y0:=VR.same (ρ:=fun _=>none) (ρ':=ρ) (fun b c x=>by cases x) (fun b c x=>by cases x) (n7 4 _ (by simp[iV])) (mz 4 _ (by simp[fI])) x0;have y2:=VR.same (ρ:=fun _=>none) (ρ':=ρ) (fun b c x=>by cases x) (fun b c x=>by cases x) (n7 4 _ (by simp[iV])) (mz 4 _ (by simp[fI])) x2;obtain⟨c2,z1,z2⟩:=x1.yH;rw[e1]at z1;cases z1;refine congrArg Value.tuple (Array.ext hz fun i i1 i2=>?_);have:i<3:=by simpa using i2
     match i,this with
     |0,_=>exact y0
     |1,_=>exact z2
     |2,_=>exact y2
   subst hv2;have hnew:kv 0 num ((c',.cells C' 3 (0,0))::K) Zq:=hA2.more e2 (.inl fun off=>f2 _ rfl rfl) f3;refine fin _ Zq (.inr ⟨h0,c',cap,C',rfl,hnew,o5,?_,fun j hj=>?_⟩) hV.2.1
   ·rw[<-e3.1,o7];omega
   ·have GG:cur[j]?=some (.int .i64 ((fS rt l l.length).getD j 0)):=by
     have h1:(cur.toList.take ((fS rt l l.length).length*1))[j]?=cur[j]?:=by
      rw[List.getElem?_take,if_pos (by omega),Array.getElem?_toList]
     rw[o8]at h1;rw[<-h1,List.getElem?_map,aN hj];simp[List.getD_eq_getElem?_getD,hj]
    obtain⟨v2,h1,h2⟩:=e3.get GG;rw[h1];cases h2;rfl
end
end
end Cc
namespace Cc
open Go.Conc Go.ConcN Go.ConcM Go.RowKit Go.Conc.Lib Go.ConcR.Gen
open Go.ConcR (KK wgBlock WgAt stA smA rd wr mk DC0)
section
theorem qW:(Try.f91.name== "runtime.NumGoroutine")=false:=kr
theorem rA:Try.f91.body.isNone=true:=kr
theorem qN:bQ Try.f91=none:=kr
theorem f_disable:cW Try.f91=some (fun _=>do mark .disable;pure Extern.Race.none_):=kr
theorem je:(Try.f92.name== "runtime.NumGoroutine")=false:=kr
theorem jl:Try.f92.body.isNone=true:=kr
theorem jd:bQ Try.f92=none:=kr
theorem f_enable:cW Try.f92=some (fun _=>do mark .enable;pure Extern.Race.none_):=kr
theorem Oe:(Try.f105.name== "runtime.NumGoroutine")=false:=kr
theorem Pv:Try.f105.body.isNone=true:=kr
theorem Nj:bQ Try.f105=none:=kr
theorem O6:cW Try.f105=some (Extern.Race.marked .acquire):=kr
theorem ZT:(Try.f90.name== "runtime.NumGoroutine")=false:=kr
theorem ae6:Try.f90.body.isNone=true:=kr
theorem Zk:bQ Try.f90=none:=kr
theorem ad7:cW Try.f90=some (Extern.Race.marked .releaseMerge):=kr
theorem ju:(Try.f132.name== "runtime.NumGoroutine")=false:=kr
theorem jw:Try.f132.body.isNone=true:=kr
theorem js:bQ Try.f132=none:=kr
theorem jv:cW Try.f132=some (Extern.Atomic.casT (.int .i32)):=kr
theorem Ce:(Try.f134.name== "runtime.NumGoroutine")=false:=kr
theorem Dq:Try.f134.body.isNone=true:=kr
theorem Bz:bQ Try.f134=none:=kr
theorem f_add:cW Try.f134=some (Extern.Atomic.update (Op.intArith .add) .i32 true):=kr
theorem yS:(Try.f139.name== "runtime.NumGoroutine")=false:=kr
theorem zr:Try.f139.body.isNone=true:=kr
theorem yE:bQ Try.f139=none:=kr
theorem zj:cW Try.f139=some (Extern.Sync.canSpin):=kr
theorem Qt:(Try.f140.name== "runtime.NumGoroutine")=false:=kr
theorem Rm:Try.f140.body.isNone=true:=kr
theorem PI:bQ Try.f140=none:=kr
theorem QU:cW Try.f140=some (fun _=>pure (.tuple #[])):=kr
theorem L8:(Try.f142.name== "runtime.NumGoroutine")=false:=kr
theorem MZ:Try.f142.body.isNone=true:=kr
theorem Lf:bQ Try.f142=none:=kr
theorem MG:cW Try.f142=some (Extern.OsHooks.nano):=kr
theorem LK:Try.f142.norace=true:=kr
theorem ZR:(Try.f143.name== "runtime.NumGoroutine")=false:=kr
theorem ae5:Try.f143.body.isNone=true:=kr
theorem Zj:bQ Try.f143=none:=kr
theorem ad6:cW Try.f143=some (Extern.Sync.semacquire):=kr
theorem TE:(Try.f145.name== "runtime.NumGoroutine")=false:=kr
theorem G5:Try.f145.body.isNone=true:=kr
theorem R4:bQ Try.f145=none:=kr
theorem UM:cW Try.f145=some (Extern.Sync.semrelease):=kr
theorem ap3:(Try.f133.name== "runtime.NumGoroutine")=false:=kr
theorem NW:(Try.f135.name== "runtime.NumGoroutine")=false:=kr
theorem Xw:(Try.f119.name== "runtime.NumGoroutine")=false:=kr
theorem Qs:(Try.f120.name== "runtime.NumGoroutine")=false:=kr
theorem jm:(Try.prog.funcs[(base 133).fn]?).any (·.norace)=true:=kr
theorem WR:(Try.prog.funcs[(base 135).fn]?).any (·.norace)=true:=kr
theorem P4:(Try.prog.funcs[(base 120).fn]?).any (·.norace)=true:=kr
theorem Si:Try.prog.underlying 215=some (.pointer 130):=kr
theorem ag3:(Try.prog.info? 130).map (fun i=>decide (i.size=0))=some false:=kr
section
variable{main:Bool}{b:ai}{a:Act}{kk:List Item}{cs:List ai}{w:ae}{ops:Array Oper}{i:Nat}{rest:List Nat}{o:Oper}
theorem fF{x:Operand}(ho:ops[i]?=some o)(hw:Region.wanted o (yielded ops a.tmps)=true)(hk:b.kind≠ .early)(hop:o.op=.load 21 x)
  {ad:Addr}{v:Int}(hx:a.eval x=.pointer (some ad))(hc:w.cell? ad=some (.int .i32 v))(hq:(Try.prog.funcs[b.fn]?).any (·.norace)=true):
  stepG dS main (G (b.at a (.inRegion ops (i::rest)::kk)) cs) w=.go (G (b.at (a.put o.dst (.int .i32 v)) (.inRegion ops rest::kk)) cs) w #[]:=by
 have hr:(ax a.eval o).run dS w=.ok (.value (.int .i32 v)) w:=by
  unfold ax;simp only[hop,hx];simp[go_sem,hc]
 have he:(ax a.eval o).events dS w #[]=#[⟨.cell ad,false,false⟩]:=by
  unfold ax;simp only[hop,hx];simp[go_sem,hc]
 rw[stepG_value ho hw hk hr];unfold listed;rw[he,seen_def,hq];simp[seenStep]
end
end
section
def iN:Code->Option Code
 |.loop c=>some c
 |.seq x y=>match iN x with|some c=>some c|none=>iN y
 |.block _ c=>iN c
 |_=>none
def mW:Code->Option Code
 |.seq (.block _ _) r=>some r
 |.seq _ y=>mW y
 |_=>none
def Fl(t:Nat):Code->Option Code
 |.cond (.tmp u) a b=>if u=t then some a else(match Fl t a with|some c=>some c|none=>Fl t b)
 |.cond _ a b=>match Fl t a with|some c=>some c|none=>Fl t b
 |.seq a b=>match Fl t a with|some c=>some c|none=>Fl t b
 |.loop a=>Fl t a
 |.block _ a=>Fl t a
 |_=>none
def rF:Code->Code
 |.seq _ b=>b
 |c=>c
noncomputable def il:Code:=Try.f133.body.getD .skip
noncomputable def gX:Code:=(iN il).getD .skip
noncomputable def gV:Code:=(mW il).getD .skip
noncomputable def xG:Code:=rF ((Fl 80 il).getD .skip)
noncomputable def xE:Code:=rF (rF xG)
noncomputable def vT:Code:=rF xE
noncomputable def zD:Code:=rF vT
section
variable{q:iK}{i:Nat}{s:eI}{x:Wk}{Ch:Nat->ah->St eD->Prop}
variable{b₁:ai}{a₁:Act}{eA:Array Oper}{fH:Nat}{ey:List Nat}{k₁:List Item}{cs₁:List ai}
structure Rd(s:eI)(st:St eD)(pr l w z N:Nat):Prop where
 le:phi st.γ s<=pr
 eq:phi st.γ s=pr->st.γ.L=l/\st.γ.W=w/\st.γ.S=z/\st.γ.N=N
 l1:l<=1
 w1:w<=1
 z1:z<=1
 n9:N<=9
theorem Rd.later{s:eI}{st dV:St eD}{pr l w z N:Nat}(h:Rd s st pr l w z N)(h1:phi dV.γ s<=phi st.γ s)(h2:phi dV.γ s=phi st.γ s->dV.γ.L=st.γ.L/\dV.γ.W=st.γ.W/\dV.γ.S=st.γ.S/\dV.γ.N=st.γ.N):Rd s dV pr l w z N:=by
 refine⟨Nat.le_trans h1 h.le,fun e=>?_,h.l1,h.w1,h.z1,h.n9⟩;have hle:=h.le;obtain⟨a,b,c,d⟩:=h2 (by omega);obtain⟨a',b',c',d'⟩:=h.eq (by omega);exact⟨a.trans a',b.trans b',c.trans c',d.trans d'⟩
theorem jJ.nine{m:Nat->MX}{a n L W S N tn th:Nat}(h:jJ m a n L W S N tn th)(hn:n<=9):N<=9/\tn+th<=10:=by
 have hq:=h.que;have hb:=h.bd;have hw:=h.wok;have hs:=h.st;have:cnt MX.vv m a n+cnt MX.jo m a n<=n:=by
  unfold cnt;have e1:∀l:List Nat,l.countP (fun k=>MX.vv (m (a+k)))+l.countP (fun k=>MX.jo (m (a+k)))<=l.length:=by
   intro l;induction l with
   |nil=>simp
   |cons k l ih=>
    rw[List.countP_cons,List.countP_cons,List.length_cons];have hd:¬(MX.vv (m (a+k))=true/\MX.jo (m (a+k))=true):=by cases m (a+k)<;>simp[MX.vv,MX.jo]
    generalize List.countP (fun k=>MX.vv (m (a+k))) l=u at ih ⊢;generalize List.countP (fun k=>MX.jo (m (a+k))) l=v at ih ⊢;rcases Bool.eq_false_or_eq_true (MX.vv (m (a+k)))with c1|c1<;>rcases Bool.eq_false_or_eq_true (MX.jo (m (a+k)))with c2|c2
    ·exact absurd ⟨c1,c2⟩ hd
    all_goals simp only[c1,c2,Bool.false_eq_true,↓reduceIte];omega
  have:=e1 (List.range n)
  simpa using this
 omega
theorem Rd.now{st:St eD}(h:gL q s st):Rd s st (phi st.γ s) st.γ.L st.γ.W st.γ.S st.γ.N:=
 ⟨aH _,fun _=>⟨rfl,rfl,rfl,rfl⟩,h.mu.bd.1,h.mu.bd.2.1,h.mu.bd.2.2,(h.mu.nine h.n0.2.2.2).1⟩
def Hi(q:iK)(i:Nat)(Ch:Nat->ah->St eD->Prop)(s:eI)(b₁:ai)(a₁:Act)(eA:Array Oper)(fH:Nat)(ey:List Nat)(k₁:List Item)(cs₁:List ai)(aw sv:Bool)(it nT old:Int)(st:St eD):Prop:=
 ∀(j1 j7 j8 j9 j10 j11 j12 j13 tA tz tv tq vt pz pq tj s7 sZ sY sX sW sV sU sS sQ sP sO sN sM sL sK sJ sI sH y8 y7 yZ Bj Bi Bh Bg Bf Be Bc Bb Ba A9 A8 A6 AZ AY AX AW AV AU AQ AP AO AL AK AJ AH AG AE AB AA Az vq vp vo vk vh ve vd Ay Aw Av Au Ej Ei Eh Eg Ef Ee Ed Ec Eb Ea D9 D8 D7 D6 D5 DZ qI qH qG qF qE qD qC qB qA qz qy qx qw qu qp qo qm ql qj qi qh qg qf qd qc qb p9 pZ pY pX pW pV pU pT pS pR pQ pP pO:af),TT (cfg q) i Ch (G ((base 133).at ⟨#[.pointer (some ⟨s.Gb,4,none⟩),j1,.int .i64 nT,.bool sv,.bool aw,.int .i64 it,.int .i32 old,j7,j8,j9,j10,j11,j12,j13,tA,tz,tv,tq,vt,pz,pq,tj,s7,sZ,sY,sX,sW,sV,sU,sS,sQ,sP,sO,sN,sM,sL,sK,sJ,sI,sH,y8,y7,yZ,Bj,Bi,Bh,Bg,Bf,Be,Bc,Bb,Ba,A9,A8,A6,AZ,AY,AX,AW,AV,AU,AQ,AP,AO,AL,AK,AJ,AH,AG,AE,AB,AA,Az,vq,vp,vo,vk,vh,ve,vd,Ay,Aw,Av,Au,Ej,Ei,Eh,Eg,Ef,Ee,Ed,Ec,Eb,Ea,D9,D8,D7,D6,D5,DZ,qI,qH,qG,qF,qE,qD,qC,qB,qA,qz,qy,qx,qw,qu,qp,qo,qm,ql,qj,qi,qh,qg,qf,qd,qc,qb,p9,pZ,pY,pX,pW,pV,pU,pT,pS,pR,pQ,pP,pO],[]⟩ [.code gX,.inLoop gX,.inBlock 0,.code gV]) (b₁.at a₁ (.inRegion eA (fH::ey)::k₁)::cs₁)) st
def RX(q:iK)(i:Nat)(Ch:Nat->ah->St eD->Prop)(s:eI)(x:Wk)(b₁:ai)(a₁:Act)(eA:Array Oper)(fH:Nat)(ey:List Nat)(k₁:List Item)(cs₁:List ai)(μ:Nat):Prop:=
 ∀(pr:Nat) (it:Int) (aw sv:Bool) (nT:Int) (l w z N:Nat) (st:St eD),5*pr+(4-it).toNat=μ->0<=it->it<=4->At s i {x with mx:=.cont aw,df:=1} st->Inv q st->Rd s st pr l w z N->(aw=true->w=1/\z=0)->(aw=false->sv=false)->Hi q i Ch s b₁ a₁ eA fH ey k₁ cs₁ aw sv it nT (enc l w z N) st
def KT(q:iK)(i:Nat)(Ch:Nat->ah->St eD->Prop)(s:eI)(x:Wk)(b₁:ai)(a₁:Act)(eA:Array Oper)(fH:Nat)(ey:List Nat)(k₁:List Item)(cs₁:List ai):Prop:=
 ∀st:St eD,At s i {x with mx:=.own .Ah,df:=0} st->Inv q st->TT (cfg q) i Ch (G (b₁.at (a₁.put ((eA[fH]?).bind (·.dst)) (.tuple #[])) (.inRegion eA ey::k₁)) cs₁) st
end
end
section
section
variable{q:iK}(hP:q.P=dS){i:Nat}{s:eI}{x:Wk}{Ch:Nat->ah->St eD->Prop}
variable{b₁:ai}{a₁:Act}{eA:Array Oper}{fH:Nat}{ey:List Nat}{k₁:List Item}{cs₁:List ai}
include hP
theorem ow(hx:x.wg=.work)(hT:KT q i Ch s x b₁ a₁ eA fH ey k₁ cs₁){st:St eD}(eo:At s i {x with mx:=.own .Ah,df:=1} st)(j1 j2 j3 j4 j5 j6 j7 j8 j9 j10 j11 j12 j13 tA tz tv tq vt pz pq tj s7 sZ sY sX sW sV sU sS sQ sP sO sN sM sL sK sJ sI sH y8 y7 yZ Bj Bi Bh Bg Bf Be Bc Bb Ba A9 A8 A6 AZ AY AX AW AV AU AQ AP AO AL AK AJ AH AG AE AB AA Az vq vp vo vk vh ve vd Ay Aw Av Au Ej Ei Eh Eg Ef Ee Ed Ec Eb Ea D9 D8 D7 D6 D5 DZ qI qH qG qF qE qD qC qB qA qz qy qx qw qu qp qo qm ql qj qi qh qg qf qd qc qb p9 pZ pY pX pW pV pU pT pS pR pQ pP pO:af):
  TT (cfg q) i Ch (G ((base 133).at ⟨#[.pointer (some ⟨s.Gb,4,none⟩),j1,j2,j3,j4,j5,j6,j7,j8,j9,j10,j11,j12,j13,tA,tz,tv,tq,vt,pz,pq,tj,s7,sZ,sY,sX,sW,sV,sU,sS,sQ,sP,sO,sN,sM,sL,sK,sJ,sI,sH,y8,y7,yZ,Bj,Bi,Bh,Bg,Bf,Be,Bc,Bb,Ba,A9,A8,A6,AZ,AY,AX,AW,AV,AU,AQ,AP,AO,AL,AK,AJ,AH,AG,AE,AB,AA,Az,vq,vp,vo,vk,vh,ve,vd,Ay,Aw,Av,Au,Ej,Ei,Eh,Eg,Ef,Ee,Ed,Ec,Eb,Ea,D9,D8,D7,D6,D5,DZ,qI,qH,qG,qF,qE,qD,qC,qB,qA,qz,qy,qx,qw,qu,qp,qo,qm,ql,qj,qi,qh,qg,qf,qd,qc,qb,p9,pZ,pY,pX,pW,pV,pU,pT,pS,pR,pQ,pP,pO],[]⟩ [.code gV]) (b₁.at a₁ (.inRegion eA (fH::ey)::k₁)::cs₁)) st:=by
 simp only[xG,xE,vT,zD,rF,Fl,gX,gV,il,iN,mW,Try.f133,aJ,Nat.reduceEqDiff,↓reduceIte];refine TT.road hP eo (by simp[hx]) 60 fun w₀ hF=>?_;repeat w_go dW
 refine stp rfl ?_;clear hF w₀;refine TT.lG hP eo hx rfl (by simp) fun fx eJ fw eV=>⟨_,_,_,0,stepG_mark0 .enable (by simp) rfl rfl (by k_ne) rfl Try.func92 je jl jd f_enable,rfl,Fx 0,rfl,eW.refl _,oI .enable (by simp),fun fJ eF fN _ _ _ _=>?_⟩;clear eV eJ fw;refine TT.road hP eF (by simp[hx]) 60 fun w₀ hF=>?_;walk_nrm;repeat w_go dW
 m_convG dS Try.underlying174 Si ag3 hF.choose_spec dW hF
 refine stp rfl ?_;clear hF w₀;refine TT.lG hP eF hx rfl (by simp) fun eT fh gB fD=>⟨_,_,_,0,stepG_markAt .acquire (by simp) rfl rfl (by k_ne) rfl Try.func105 Oe Pv Nj O6 (by simp[Act.eval];rfl),rfl,U3 _ _ (by simp),rfl,eW.refl _,oI _ (by simp),fun gN eY gu _ _ _ _=>?_⟩;clear fD fh gB;refine TT.road hP eY (by simp[hx]) 60 fun w₀ hF=>?_;walk_nrm;repeat w_go dW
 u_leave0 Try.func133 dW hF
 refine stp rfl ?_;exact hT gN eY gu
end
end
section
section
variable{q:iK}(hP:q.P=dS){i:Nat}{s:eI}{x:Wk}{Ch:Nat->ah->St eD->Prop}
variable{b₁:ai}{a₁:Act}{eA:Array Oper}{fH:Nat}{ey:List Nat}{k₁:List Item}{cs₁:List ai}
include hP
theorem a59(hx:x.wg=.work)(hT:KT q i Ch s x b₁ a₁ eA fH ey k₁ cs₁){μ:Nat}(ih:∀nk,nk<μ->RX q i Ch s x b₁ a₁ eA fH ey k₁ cs₁ nk){pr:Nat}{it nT:Int}{w N:Nat}{st:St eD}(h0:0<=it)(h4':it<=4)(hμ:5*pr+(4-it).toNat=μ)(hA:At s i {x with mx:=.cont false,df:=1} st)(hI:Inv q st)(hR:Rd s st pr 0 w 0 N):
  Hi q i Ch s b₁ a₁ eA fH ey k₁ cs₁ false false it nT (enc 0 w 0 N) st:=by
 have h5:bits aZ aK (enc 0 w 0 N) 5=0:=uK 0 w 0 N (by omega) hR.w1 (by omega) (by have:=hR.n9;omega);have h4:bits aZ aK (enc 0 w 0 N) 4=0:=mB 0 w 0 N (by omega) hR.w1 (by omega) (by have:=hR.n9;omega);have o1:bits BinOp.or aK (enc 0 w 0 N) 1=enc 1 w 0 N:=Fq 0 w 0 N (by omega) hR.w1 (by omega) (by have:=hR.n9;omega);intro j1 j7 j8 j9 j10 j11 j12 j13 tA tz tv tq vt pz pq tj s7 sZ sY sX sW sV sU sS sQ sP sO sN sM sL sK sJ sI sH y8 y7 yZ Bj Bi Bh Bg Bf Be Bc Bb Ba A9 A8 A6 AZ AY AX AW AV AU AQ AP AO AL AK AJ AH AG AE AB AA Az vq vp vo vk vh ve vd Ay Aw Av Au Ej Ei Eh Eg Ef Ee Ed Ec Eb Ea D9 D8 D7 D6 D5 DZ qI qH qG qF qE qD qC qB qA qz qy qx qw qu qp qo qm ql qj qi qh qg qf qd qc qb p9 pZ pY pX pW pV pU pT pS pR pQ pP pO;simp only[gX,gV,il,iN,mW,Try.f133,aJ];refine TT.road hP hA (by simp[hx]) 140 fun w₀ hF=>?_;repeat w_go dW
 refine stp rfl ?_;clear hF w₀;refine TT.mu hP hA hx (mx:=.cont false) rfl (by simp) fun dV dX eO ek p1 p2 p3 p4=>?_;have fE:=hR.later p1 p2;by_cases hit:enc dV.γ.L dV.γ.W dV.γ.S dV.γ.N=enc 0 w 0 N
 ·obtain⟨e1,e2,e3,e4⟩:=jY hit ek.mu.bd ⟨by omega,hR.w1,by omega⟩;refine⟨_,_,_,.own .Ah,1,1,dV.γ.W-Bool.toNat false,dV.γ.S,dV.γ.N,dV.γ.tn,dV.γ.th,stepG_cas_hit rfl rfl (by k_ne) rfl Try.func132 ju jw js .i32 jv rfl rfl rfl (hit ▸ ek.gb.cell.2.1) (ek.gb.cell.2.2.2 4),rfl,kQ _ _,by simp,by simp,ek.mu.take dX.lo (dX.hi eO) false (fY dX) ⟨e1,e3⟩,ek.gb.swap rfl (by rw[e2,e3,e4];rfl),eW.set _ 4 _ (by omega),.inl (by simp[kF]),.inl nle,jq 4 (.inl rfl),.inr nle,fun dY eo eN _ _ _ _=>?_⟩;clear hit fE ek dX eO;refine TT.road hP eo (by simp[hx]) 60 fun w₀ hF=>?_;walk_nrm;repeat w_but "code.exit" dW
  w_go dW
  refine stp rfl ?_;exact ow hP hx hT eo ..
 ·refine⟨_,_,_,.cont false,1,dV.γ.L,dV.γ.W,dV.γ.S,dV.γ.N,dV.γ.tn,dV.γ.th,stepG_cas_miss rfl rfl (by k_ne) rfl Try.func132 ju jw js .i32 jv rfl rfl rfl ek.gb.cell.2.1 (ek.gb.cell.2.2.2 4) hit,rfl,uN _ _,by simp,by simp,jJ.still ek dX rfl,ek.gb.stay rfl rfl,eW.refl _,.inr ⟨rfl,rfl,rfl,rfl,rfl⟩,.inl nle,oH 4 (by omega),.inr nle,fun dY eo eN _ w₂ _ f₂=>?_⟩;have hlt:phi dY.γ s<pr:=by
   refine cV (by have:=fE.le;omega) fun e=>hit ?_;obtain⟨a,b,c,d⟩:=fE.eq (by omega);rw[a,b,c,d]
  clear hit fE ek dX eO;refine TT.road hP eo (by simp[hx]) 60 fun w₀ hF=>?_;walk_nrm;repeat w_go dW
  refine stp rfl ?_;clear hF w₀;refine TT.lG hP eo hx rfl (by simp) fun fx eJ fw eV=>⟨_,_,_,1,fF rfl rfl (by k_ne) rfl rfl eV.gb.cell.2.1 jm,rfl,rfl,rfl,eW.refl _,gy,fun fJ eF fN _ w₄ jy _=>?_⟩;have iQ:=Rd.now (fN.eZ s eF.sc).c;rw[w₄.1,w₄.2.1,w₄.2.2.1,w₄.2.2.2]at iQ;clear eV eJ fw;refine TT.road hP eF (by simp[hx]) 60 fun w₀ hF=>?_;walk_nrm;repeat w_nl dW
  u_c stepG_inLoop dW hF
  refine stp rfl ?_;exact ih _ (by omega) _ it false false nT _ _ _ _ fJ rfl h0 h4' eF fN iQ (by simp) (by simp) ..
end
end
section
section
variable{q:iK}(hP:q.P=dS){i:Nat}{s:eI}{x:Wk}{Ch:Nat->ah->St eD->Prop}
variable{b₁:ai}{a₁:Act}{eA:Array Oper}{fH:Nat}{ey:List Nat}{k₁:List Item}{cs₁:List ai}
include hP
theorem aL8(hx:x.wg=.work)(hT:KT q i Ch s x b₁ a₁ eA fH ey k₁ cs₁){pr:Nat}(ih:∀nk,nk<5*pr->RX q i Ch s x b₁ a₁ eA fH ey k₁ cs₁ nk){sv:Bool}{nT:Int}{st:St eD}(hA:At s i {x with mx:=.woken false,df:=1} st)(hI:Inv q st)(hp:phi st.γ s<pr)(j1 j4 j5 j6 j7 j8 j9 j10 j11 j12 j13 tA tz tv tq vt pz pq tj s7 sZ sY sX sW sV sU sS sQ sP sO sN sM sL sK sJ sI sH y8 y7 yZ Bj Bi Bh Bg Bf Be Bc Bb Ba A9 A8 A6 AZ AY AX AW AV AU AQ AP AO AL AK AJ AH AG AE AB AA Az vq vp vo vk vh ve vd Ay Aw Av Au Ej Ei Eh Eg Ef Ee Ed Ec Eb Ea D9 D8 D7 D6 D5 DZ qI qH qG qF qE qD qC qB qA qz qy qx qw qu qp qo qm ql qj qi qh qg qf qd qc qb p9 pZ pY pX pW pV pU pT pS pR pQ pP pO:af):
  TT (cfg q) i Ch (G ((base 133).at ⟨#[.pointer (some ⟨s.Gb,4,none⟩),j1,.int .i64 nT,.bool sv,j4,j5,j6,j7,j8,j9,j10,j11,j12,j13,tA,tz,tv,tq,vt,pz,pq,tj,s7,sZ,sY,sX,sW,sV,sU,sS,sQ,sP,sO,sN,sM,sL,sK,sJ,sI,sH,y8,y7,yZ,Bj,Bi,Bh,Bg,Bf,Be,Bc,Bb,Ba,A9,A8,A6,AZ,AY,AX,AW,AV,AU,AQ,AP,AO,AL,AK,AJ,AH,AG,AE,AB,AA,Az,vq,vp,vo,vk,vh,ve,vd,Ay,Aw,Av,Au,Ej,Ei,Eh,Eg,Ef,Ee,Ed,Ec,Eb,Ea,D9,D8,D7,D6,D5,DZ,qI,qH,qG,qF,qE,qD,qC,qB,qA,qz,qy,qx,qw,qu,qp,qo,qm,ql,qj,qi,qh,qg,qf,qd,qc,qb,p9,pZ,pY,pX,pW,pV,pU,pT,pS,pR,pQ,pP,pO],[]⟩ [.code vT,.inBlock 1,.inLoop gX,.inBlock 0,.code gV]) (b₁.at a₁ (.inRegion eA (fH::ey)::k₁)::cs₁)) st:=by
 simp only[xG,xE,vT,zD,rF,Fl,gX,gV,il,iN,mW,Try.f133,aJ,Nat.reduceEqDiff,↓reduceIte];cases sv
 ·refine TT.road hP hA (by simp[hx]) 60 fun w₀ hF=>?_;repeat w_go dW
  refine stp rfl ?_;clear hF w₀;refine TT.lG hP hA hx (mx:=.woken false) rfl (by simp) fun fx eJ fw eV=>⟨_,_,_,1,stepG_nanotime rfl rfl (by k_ne) rfl Try.func142 L8 MZ Lf MG LK,rfl,rfl,rfl,eW.later _,gy,fun fJ eF fN _ _ jy _=>?_⟩;have aa8:phi fJ.γ s<pr:=by omega
  generalize((fx.w.os.mono+fx.w.tick:Nat):Int)=tw;clear eV eJ fw hA hI hp jy;refine TT.road hP eF (by simp[hx]) 60 fun w₀ hF=>?_;walk_nrm;repeat w_go dW
  refine stp rfl ?_;clear hF w₀;refine TT.mu hP eF hx (mx:=.woken false) rfl (by simp) fun eT fh gB fD q1 q2 _ _=>⟨_,_,_,.cont true,1,eT.γ.L,eT.γ.W,eT.γ.S,eT.γ.N,eT.γ.tn,eT.γ.th,fF rfl rfl (by k_ne) rfl rfl fD.gb.cell.2.1 jm,rfl,rfl,by simp,by simp,fD.mu.again fh.lo (fh.hi gB) (fY fh),fD.gb.stay rfl rfl,eW.refl _,.inl (by simp[kF]),.inl nle,gy,.inr nle,fun gN eY gu _ w₆ _ wM=>?_⟩;obtain⟨hW,hS⟩:=fD.mu.a93 fh.lo (fh.hi gB) (fY fh);have jh:=Rd.now (gu.eZ s eY.sc).c;rw[w₆.1,w₆.2.1,w₆.2.2.1,w₆.2.2.2]at jh;have hn:=(fD.mu.nine fD.n0.2.2.2).1;have hl:=fD.mu.bd.1;have h4:bits aZ aK (enc eT.γ.L eT.γ.W eT.γ.S eT.γ.N) 4=0:=by rw[hS];exact mB _ _ 0 _ hl fD.mu.bd.2.1 (by omega) (by omega)
  have aS4:phi gN.γ s<pr:=by simp only[kF]at wM;omega
  generalize ho:enc eT.γ.L eT.γ.W eT.γ.S eT.γ.N=old at h4;refine TT.road hP eY (by simp[hx]) 60 fun w₀ hF=>?_;walk_nrm;repeat w_nl dW
  u_c stepG_inLoop dW hF
  refine stp rfl ?_;rw[<-ho];exact ih _ (by omega) _ 0 true _ _ _ _ _ _ gN rfl (by omega) (by omega) eY gu jh (fun _=>⟨hW,hS⟩) (by simp) ..
 ·refine TT.road hP hA (by simp[hx]) 60 fun w₀ hF=>?_;repeat w_go dW
  refine stp rfl ?_;clear hF w₀;refine TT.mu hP hA hx (mx:=.woken false) rfl (by simp) fun eT fh gB fD q1 q2 _ _=>⟨_,_,_,.cont true,1,eT.γ.L,eT.γ.W,eT.γ.S,eT.γ.N,eT.γ.tn,eT.γ.th,fF rfl rfl (by k_ne) rfl rfl fD.gb.cell.2.1 jm,rfl,rfl,by simp,by simp,fD.mu.again fh.lo (fh.hi gB) (fY fh),fD.gb.stay rfl rfl,eW.refl _,.inl (by simp[kF]),.inl nle,gy,.inr nle,fun gN eY gu _ w₆ _ wM=>?_⟩;obtain⟨hW,hS⟩:=fD.mu.a93 fh.lo (fh.hi gB) (fY fh);have jh:=Rd.now (gu.eZ s eY.sc).c;rw[w₆.1,w₆.2.1,w₆.2.2.1,w₆.2.2.2]at jh;have hn:=(fD.mu.nine fD.n0.2.2.2).1;have hl:=fD.mu.bd.1;have h4:bits aZ aK (enc eT.γ.L eT.γ.W eT.γ.S eT.γ.N) 4=0:=by rw[hS];exact mB _ _ 0 _ hl fD.mu.bd.2.1 (by omega) (by omega)
  have aS4:phi gN.γ s<pr:=by simp only[kF]at wM;omega
  generalize ho:enc eT.γ.L eT.γ.W eT.γ.S eT.γ.N=old at h4;refine TT.road hP eY (by simp[hx]) 60 fun w₀ hF=>?_;walk_nrm;repeat w_nl dW
  u_c stepG_inLoop dW hF
  refine stp rfl ?_;rw[<-ho];exact ih _ (by omega) _ 0 true _ _ _ _ _ _ gN rfl (by omega) (by omega) eY gu jh (fun _=>⟨hW,hS⟩) (by simp) ..
end
end
section
section
variable{q:iK}(hP:q.P=dS){i:Nat}{s:eI}{x:Wk}{Ch:Nat->ah->St eD->Prop}
variable{b₁:ai}{a₁:Act}{eA:Array Oper}{fH:Nat}{ey:List Nat}{k₁:List Item}{cs₁:List ai}
include hP
theorem ab6(hx:x.wg=.work)(hT:KT q i Ch s x b₁ a₁ eA fH ey k₁ cs₁){sv:Bool}{st:St eD}(hA:At s i {x with mx:=.woken true,df:=1} st)(j1 j2 j4 j5 j6 j7 j8 j9 j10 j11 j12 j13 tA tz tv tq vt pz pq tj s7 sZ sY sX sW sV sU sS sQ sP sO sN sM sL sK sJ sI sH y8 y7 yZ Bj Bi Bh Bg Bf Be Bc Bb Ba A9 A8 A6 AZ AY AX AW AV AU AQ AP AO AL AK AJ AH AG AE AB AA Az vq vp vo vk vh ve vd Ay Aw Av Au Ej Ei Eh Eg Ef Ee Ed Ec Eb Ea D9 D8 D7 D6 D5 DZ qI qH qG qF qE qD qC qB qA qz qy qx qw qu qp qo qm ql qj qi qh qg qf qd qc qb p9 pZ pY pX pW pV pU pT pS pR pQ pP pO:af):
  TT (cfg q) i Ch (G ((base 133).at ⟨#[.pointer (some ⟨s.Gb,4,none⟩),j1,j2,.bool sv,j4,j5,j6,j7,j8,j9,j10,j11,j12,j13,tA,tz,tv,tq,vt,pz,pq,tj,s7,sZ,sY,sX,sW,sV,sU,sS,sQ,sP,sO,sN,sM,sL,sK,sJ,sI,sH,y8,y7,yZ,Bj,Bi,Bh,Bg,Bf,Be,Bc,Bb,Ba,A9,A8,A6,AZ,AY,AX,AW,AV,AU,AQ,AP,AO,AL,AK,AJ,AH,AG,AE,AB,AA,Az,vq,vp,vo,vk,vh,ve,vd,Ay,Aw,Av,Au,Ej,Ei,Eh,Eg,Ef,Ee,Ed,Ec,Eb,Ea,D9,D8,D7,D6,D5,DZ,qI,qH,qG,qF,qE,qD,qC,qB,qA,qz,qy,qx,qw,qu,qp,qo,qm,ql,qj,qi,qh,qg,qf,qd,qc,qb,p9,pZ,pY,pX,pW,pV,pU,pT,pS,pR,pQ,pP,pO],[]⟩ [.code zD,.inBlock 1,.inLoop gX,.inBlock 0,.code gV]) (b₁.at a₁ (.inRegion eA (fH::ey)::k₁)::cs₁)) st:=by
 simp only[xG,xE,vT,zD,rF,Fl,gX,gV,il,iN,mW,Try.f133,aJ,Nat.reduceEqDiff,↓reduceIte];refine TT.road hP hA (by simp[hx]) 60 fun w₀ hF=>?_;repeat w_go dW
 refine stp rfl ?_;clear hF w₀;refine TT.lG hP hA hx (mx:=.woken true) rfl (by simp) fun fx eJ fw eV=>⟨_,_,_,1,fF rfl rfl (by k_ne) rfl rfl eV.gb.cell.2.1 jm,rfl,rfl,rfl,eW.refl _,gy,fun fJ eF fN _ w₄ _ _=>?_⟩;obtain⟨hL,hW,hS,h1⟩:=eV.mu.Vp eJ.lo (eJ.hi fw) (fY eJ);have n4:fJ.γ.N=fx.γ.N:=w₄.2.2.2;have hn:=(eV.mu.nine eV.n0.2.2.2).1;generalize fx.γ.N=nR at n4 h1 hn ⊢;rw[hL,hW,hS];have h4:bits aZ aK (enc 0 0 1 nR) 4=4:=mB 0 0 1 nR (by omega) (by omega) (by omega) (by omega);have h3:bits aZ aK (enc 0 0 1 nR) 3=0:=aB5 0 0 1 nR (by omega) (by omega) (by omega) (by omega);obtain⟨nn,hd,hnn⟩:∃nn:Int,enc 0 0 1 nR/8=nn/\nn=nR:=⟨_,UX 0 0 1 nR (by omega) (by omega) (by omega),rfl⟩;have hz:(nn==0)=false:=by simp<;>omega
 have h12:nn=1\/(nn==1)=false:=by simp<;>omega
 have h2:nn≠1->2<=nR:=by omega
 clear hL hW hS eV eJ fw hnn w₄;generalize enc 0 0 1 nR=old at h4 h3 hd ⊢;rcases h12 with h12|h12
 ·cases sv
  ·refine TT.road hP eF (by simp[hx]) 80 fun w₀ hF=>?_;walk_nrm;repeat w_go dW
   refine stp rfl ?_;clear hF w₀;refine TT.mu hP eF hx (mx:=.woken true) rfl (by simp) fun dV dX eO ek p1 p2 p3 p4=>?_;obtain⟨e1,e2,e3,e4⟩:=ek.mu.Vp dX.lo (dX.hi eO) (fY dX);have Ht:=(ek.mu.nine ek.n0.2.2.2).1;have p4:=p4 rfl;refine⟨_,_,_,.own .Ah,1,1,0,0,dV.γ.N-1,dV.γ.tn,dV.γ.th,stepG_add_atomic rfl rfl (by k_ne) rfl Try.func134 Ce Dq Bz .i32 f_add rfl rfl ek.gb.cell.2.1 (ek.gb.cell.2.2.2 4),rfl,kQ _ _,by simp,by simp,ek.mu.handed dX.lo (dX.hi eO) (fY dX) 0 (.inl rfl),ek.gb.swap rfl (by rw[e1,e2,e3,dJ];unfold enc;omega),eW.set _ 4 _ (by omega),.inl (by simp[kF]),.inr fun j hj j1 j2=>ek.mu.Gh dX.lo (dX.hi eO) (fY dX) hj j1 j2,jq 4 (.inl rfl),.inr nle,fun dY eo eN _ _ _ _=>?_⟩;clear ek dX eO e1 e2 e3 e4 Ht p1 p2 p3 p4;refine TT.road hP eo (by simp[hx]) 60 fun w₀ hF=>?_;walk_nrm;repeat w_but "code.exit" dW
   w_go dW
   refine stp rfl ?_;exact ow hP hx hT eo ..
  ·refine TT.road hP eF (by simp[hx]) 80 fun w₀ hF=>?_;walk_nrm;repeat w_go dW
   refine stp rfl ?_;clear hF w₀;refine TT.mu hP eF hx (mx:=.woken true) rfl (by simp) fun dV dX eO ek p1 p2 p3 p4=>?_;obtain⟨e1,e2,e3,e4⟩:=ek.mu.Vp dX.lo (dX.hi eO) (fY dX);have Ht:=(ek.mu.nine ek.n0.2.2.2).1;have p4:=p4 rfl;refine⟨_,_,_,.own .Ah,1,1,0,0,dV.γ.N-1,dV.γ.tn,dV.γ.th,stepG_add_atomic rfl rfl (by k_ne) rfl Try.func134 Ce Dq Bz .i32 f_add rfl rfl ek.gb.cell.2.1 (ek.gb.cell.2.2.2 4),rfl,kQ _ _,by simp,by simp,ek.mu.handed dX.lo (dX.hi eO) (fY dX) 0 (.inl rfl),ek.gb.swap rfl (by rw[e1,e2,e3,dJ];unfold enc;omega),eW.set _ 4 _ (by omega),.inl (by simp[kF]),.inr fun j hj j1 j2=>ek.mu.Gh dX.lo (dX.hi eO) (fY dX) hj j1 j2,jq 4 (.inl rfl),.inr nle,fun dY eo eN _ _ _ _=>?_⟩;clear ek dX eO e1 e2 e3 e4 Ht p1 p2 p3 p4;refine TT.road hP eo (by simp[hx]) 60 fun w₀ hF=>?_;walk_nrm;repeat w_but "code.exit" dW
   w_go dW
   refine stp rfl ?_;exact ow hP hx hT eo ..
 ·cases sv
  ·refine TT.road hP eF (by simp[hx]) 80 fun w₀ hF=>?_;walk_nrm;repeat w_go dW
   refine stp rfl ?_;clear hF w₀;refine TT.mu hP eF hx (mx:=.woken true) rfl (by simp) fun dV dX eO ek p1 p2 p3 p4=>?_;obtain⟨e1,e2,e3,e4⟩:=ek.mu.Vp dX.lo (dX.hi eO) (fY dX);have Ht:=(ek.mu.nine ek.n0.2.2.2).1;have p4:=p4 rfl;refine⟨_,_,_,.own .Ah,1,1,0,0,dV.γ.N-1,dV.γ.tn,dV.γ.th,stepG_add_atomic rfl rfl (by k_ne) rfl Try.func134 Ce Dq Bz .i32 f_add rfl rfl ek.gb.cell.2.1 (ek.gb.cell.2.2.2 4),rfl,kQ _ _,by simp,by simp,ek.mu.handed dX.lo (dX.hi eO) (fY dX) 0 (.inl rfl),ek.gb.swap rfl (by rw[e1,e2,e3,dJ];unfold enc;omega),eW.set _ 4 _ (by omega),.inl (by simp[kF]),.inr fun j hj j1 j2=>ek.mu.Gh dX.lo (dX.hi eO) (fY dX) hj j1 j2,jq 4 (.inl rfl),.inr nle,fun dY eo eN _ _ _ _=>?_⟩;clear ek dX eO e1 e2 e3 e4 Ht p1 p2 p3 p4;refine TT.road hP eo (by simp[hx]) 60 fun w₀ hF=>?_;walk_nrm;repeat w_but "code.exit" dW
   w_go dW
   refine stp rfl ?_;exact ow hP hx hT eo ..
  ·have h2:=h2 (by simpa using h12);refine TT.road hP eF (by simp[hx]) 80 fun w₀ hF=>?_;walk_nrm;repeat w_go dW
   refine stp rfl ?_;clear hF w₀;refine TT.mu hP eF hx (mx:=.woken true) rfl (by simp) fun dV dX eO ek p1 p2 p3 p4=>?_;obtain⟨e1,e2,e3,e4⟩:=ek.mu.Vp dX.lo (dX.hi eO) (fY dX);have Ht:=(ek.mu.nine ek.n0.2.2.2).1;have p4:=p4 rfl;refine⟨_,_,_,.own .Ah,1,1,0,1,dV.γ.N-1,dV.γ.tn,dV.γ.th,stepG_add_atomic rfl rfl (by k_ne) rfl Try.func134 Ce Dq Bz .i32 f_add rfl rfl ek.gb.cell.2.1 (ek.gb.cell.2.2.2 4),rfl,kQ _ _,by simp,by simp,ek.mu.handed dX.lo (dX.hi eO) (fY dX) 1 (.inr ⟨rfl,by omega⟩),ek.gb.swap rfl (by rw[e1,e2,e3,dJ];unfold enc;omega),eW.set _ 4 _ (by omega),.inl (by simp[kF]),.inr fun j hj j1 j2=>ek.mu.Gh dX.lo (dX.hi eO) (fY dX) hj j1 j2,jq 4 (.inl rfl),.inr nle,fun dY eo eN _ _ _ _=>?_⟩;clear ek dX eO e1 e2 e3 e4 Ht p1 p2 p3 p4;refine TT.road hP eo (by simp[hx]) 60 fun w₀ hF=>?_;walk_nrm;repeat w_but "code.exit" dW
   w_go dW
   refine stp rfl ?_;exact ow hP hx hT eo ..
theorem aL9(hx:x.wg=.work)(hT:KT q i Ch s x b₁ a₁ eA fH ey k₁ cs₁){sv:Bool}{nT:Int}{st:St eD}(hA:At s i {x with mx:=.woken true,df:=1} st)(j1 j4 j5 j6 j7 j8 j9 j10 j11 j12 j13 tA tz tv tq vt pz pq tj s7 sZ sY sX sW sV sU sS sQ sP sO sN sM sL sK sJ sI sH y8 y7 yZ Bj Bi Bh Bg Bf Be Bc Bb Ba A9 A8 A6 AZ AY AX AW AV AU AQ AP AO AL AK AJ AH AG AE AB AA Az vq vp vo vk vh ve vd Ay Aw Av Au Ej Ei Eh Eg Ef Ee Ed Ec Eb Ea D9 D8 D7 D6 D5 DZ qI qH qG qF qE qD qC qB qA qz qy qx qw qu qp qo qm ql qj qi qh qg qf qd qc qb p9 pZ pY pX pW pV pU pT pS pR pQ pP pO:af):
  TT (cfg q) i Ch (G ((base 133).at ⟨#[.pointer (some ⟨s.Gb,4,none⟩),j1,.int .i64 nT,.bool sv,j4,j5,j6,j7,j8,j9,j10,j11,j12,j13,tA,tz,tv,tq,vt,pz,pq,tj,s7,sZ,sY,sX,sW,sV,sU,sS,sQ,sP,sO,sN,sM,sL,sK,sJ,sI,sH,y8,y7,yZ,Bj,Bi,Bh,Bg,Bf,Be,Bc,Bb,Ba,A9,A8,A6,AZ,AY,AX,AW,AV,AU,AQ,AP,AO,AL,AK,AJ,AH,AG,AE,AB,AA,Az,vq,vp,vo,vk,vh,ve,vd,Ay,Aw,Av,Au,Ej,Ei,Eh,Eg,Ef,Ee,Ed,Ec,Eb,Ea,D9,D8,D7,D6,D5,DZ,qI,qH,qG,qF,qE,qD,qC,qB,qA,qz,qy,qx,qw,qu,qp,qo,qm,ql,qj,qi,qh,qg,qf,qd,qc,qb,p9,pZ,pY,pX,pW,pV,pU,pT,pS,pR,pQ,pP,pO],[]⟩ [.code vT,.inBlock 1,.inLoop gX,.inBlock 0,.code gV]) (b₁.at a₁ (.inRegion eA (fH::ey)::k₁)::cs₁)) st:=by
 simp only[xG,xE,vT,zD,rF,Fl,gX,gV,il,iN,mW,Try.f133,aJ,Nat.reduceEqDiff,↓reduceIte];cases sv
 ·refine TT.road hP hA (by simp[hx]) 60 fun w₀ hF=>?_;repeat w_go dW
  refine stp rfl ?_;clear hF w₀;refine TT.lG hP hA hx (mx:=.woken true) rfl (by simp) fun fx eJ fw eV=>⟨_,_,_,1,stepG_nanotime rfl rfl (by k_ne) rfl Try.func142 L8 MZ Lf MG LK,rfl,rfl,rfl,eW.later _,gy,fun fJ eF fN _ _ jy _=>?_⟩;generalize((fx.w.os.mono+fx.w.tick:Nat):Int)=tw;clear eV eJ fw hA jy;refine TT.road hP eF (by simp[hx]) 60 fun w₀ hF=>?_;walk_nrm;repeat w_but "code.seq" dW
  refine stp rfl ?_;exact ab6 hP hx hT eF ..
 ·refine TT.road hP hA (by simp[hx]) 60 fun w₀ hF=>?_;w_go dW
  repeat w_but "code.seq" dW
  refine stp rfl ?_;exact ab6 hP hx hT hA ..
end
end
section
section
variable{q:iK}(hP:q.P=dS){i:Nat}{s:eI}{x:Wk}{Ch:Nat->ah->St eD->Prop}
variable{b₁:ai}{a₁:Act}{eA:Array Oper}{fH:Nat}{ey:List Nat}{k₁:List Item}{cs₁:List ai}
include hP
theorem semAt(hx:x.wg=.work)(hT:KT q i Ch s x b₁ a₁ eA fH ey k₁ cs₁){pr:Nat}(ih:∀nk,nk<5*pr->RX q i Ch s x b₁ a₁ eA fH ey k₁ cs₁ nk){sv:Bool}{nT:Int}{st:St eD}(hA:At s i {x with mx:=.iF,df:=1} st)(hI:Inv q st)(hp:phi st.γ s<pr)(j1 j4 j5 j6 j7 j8 j9 j10 j11 j12 j13 tA tz tv tq vt pz pq tj s7 sZ sY sX sW sV sU sS sQ sP sO sN sM sL sK sJ sI sH y8 y7 yZ Bj Bi Bh Bg Bf Be Bc Bb Ba A9 A8 A6 AZ AY AX AW AV AU AQ AP AO AL AK AJ AH AG AE AB AA Az vq vp vo vk vh ve vd Ay Aw Av Au Ej Ei Eh Eg Ef Ee Ed Ec Eb Ea D9 D8 D7 D6 D5 DZ qI qH qG qF qE qD qC qB qA qz qy qx qw qu qp qo qm ql qj qi qh qg qf qd qc qb p9 pZ pY pX pW pV pU pT pS pR pQ pP pO:af):
  TT (cfg q) i Ch (G ((base 133).at ⟨#[.pointer (some ⟨s.Gb,4,none⟩),j1,.int .i64 nT,.bool sv,j4,j5,j6,j7,j8,j9,j10,j11,j12,j13,tA,tz,tv,tq,vt,pz,pq,tj,s7,sZ,sY,sX,sW,sV,sU,sS,sQ,sP,sO,sN,sM,sL,sK,sJ,sI,sH,y8,y7,yZ,Bj,Bi,Bh,Bg,Bf,Be,Bc,Bb,Ba,A9,A8,A6,AZ,AY,AX,AW,AV,AU,AQ,AP,AO,AL,AK,AJ,AH,AG,AE,AB,AA,Az,vq,vp,vo,vk,vh,ve,vd,Ay,Aw,Av,Au,Ej,Ei,Eh,Eg,Ef,Ee,Ed,Ec,Eb,Ea,D9,D8,D7,D6,D5,DZ,qI,qH,qG,qF,qE,qD,qC,qB,qA,qz,qy,qx,qw,qu,qp,qo,qm,ql,qj,qi,qh,qg,qf,qd,qc,qb,p9,pZ,pY,pX,pW,pV,pU,pT,pS,pR,pQ,pP,pO],[]⟩ [.code xE,.inBlock 1,.inLoop gX,.inBlock 0,.code gV]) (b₁.at a₁ (.inRegion eA (fH::ey)::k₁)::cs₁)) st:=by
 simp only[xG,xE,vT,zD,rF,Fl,gX,gV,il,iN,mW,Try.f133,aJ,Nat.reduceEqDiff,↓reduceIte];refine TT.road hP hA (by simp[hx]) 60 fun w₀ hF=>?_;repeat w_go dW
 refine stp rfl ?_;clear hF w₀;refine TT.sem (P:=dS) hP hA hx rfl rfl (fun w hc=>stepG_semacquire_wait rfl rfl rfl Try.func143 ZR ae5 Zj ad6 (by simp[Act.eval]) hc) ⟨_,fun w n hc hn hz=>stepG_semacquire rfl rfl (by k_ne) rfl Try.func143 ZR ae5 Zj ad6 (by simp[Act.eval]) hc hn hz,rfl,fun dY eo eN hlt=>?_,fun dY eo eN hlt=>?_⟩
 ·refine TT.road hP eo (by simp[hx]) 60 fun w₀ hF=>?_;walk_nrm;repeat w_but "code.seq" dW
  refine stp rfl ?_;exact aL8 hP hx hT ih eo eN (by omega) ..
 ·refine TT.road hP eo (by simp[hx]) 60 fun w₀ hF=>?_;walk_nrm;repeat w_but "code.seq" dW
  refine stp rfl ?_;exact aL9 hP hx hT eo ..
theorem oW(hx:x.wg=.work)(hT:KT q i Ch s x b₁ a₁ eA fH ey k₁ cs₁){pr:Nat}(ih:∀nk,nk<5*pr->RX q i Ch s x b₁ a₁ eA fH ey k₁ cs₁ nk){sv:Bool}{nT:Int}{st:St eD}(hA:At s i {x with mx:=.iF,df:=1} st)(hI:Inv q st)(hp:phi st.γ s<pr)(j1 j4 j5 j6 j7 j8 j9 j10 j11 j12 j13 tA tz tv tq vt pz pq tj s7 sZ sY sX sW sV sU sS sQ sP sO sN sM sL sK sJ sI sH y8 y7 yZ Bj Bi Bh Bg Bf Be Bc Bb Ba A9 A8 A6 AZ AY AX AW AV AU AQ AP AO AL AK AJ AH AG AE AB AA Az vq vp vo vk vh ve vd Ay Aw Av Au Ej Ei Eh Eg Ef Ee Ed Ec Eb Ea D9 D8 D7 D6 D5 DZ qI qH qG qF qE qD qC qB qA qz qy qx qw qu qp qo qm ql qj qi qh qg qf qd qc qb p9 pZ pY pX pW pV pU pT pS pR pQ pP pO:af):
  TT (cfg q) i Ch (G ((base 133).at ⟨#[.pointer (some ⟨s.Gb,4,none⟩),j1,.int .i64 nT,.bool sv,j4,j5,j6,j7,j8,j9,j10,j11,j12,j13,tA,tz,tv,tq,vt,pz,pq,tj,s7,sZ,sY,sX,sW,sV,sU,sS,sQ,sP,sO,sN,sM,sL,sK,sJ,sI,sH,y8,y7,yZ,Bj,Bi,Bh,Bg,Bf,Be,Bc,Bb,Ba,A9,A8,A6,AZ,AY,AX,AW,AV,AU,AQ,AP,AO,AL,AK,AJ,AH,AG,AE,AB,AA,Az,vq,vp,vo,vk,vh,ve,vd,Ay,Aw,Av,Au,Ej,Ei,Eh,Eg,Ef,Ee,Ed,Ec,Eb,Ea,D9,D8,D7,D6,D5,DZ,qI,qH,qG,qF,qE,qD,qC,qB,qA,qz,qy,qx,qw,qu,qp,qo,qm,ql,qj,qi,qh,qg,qf,qd,qc,qb,p9,pZ,pY,pX,pW,pV,pU,pT,pS,pR,pQ,pP,pO],[]⟩ [.code xG,.inBlock 1,.inLoop gX,.inBlock 0,.code gV]) (b₁.at a₁ (.inRegion eA (fH::ey)::k₁)::cs₁)) st:=by
 by_cases hz:nT=0
 ·subst hz;simp only[xG,xE,vT,zD,rF,Fl,gX,gV,il,iN,mW,Try.f133,aJ,Nat.reduceEqDiff,↓reduceIte];refine TT.road hP hA (by simp[hx]) 60 fun w₀ hF=>?_;repeat w_go dW
  refine stp rfl ?_;clear hF w₀;refine TT.lG hP hA hx (mx:=.iF) rfl (by simp) fun fx eJ fw eV=>⟨_,_,_,1,stepG_nanotime rfl rfl (by k_ne) rfl Try.func142 L8 MZ Lf MG LK,rfl,rfl,rfl,eW.later _,gy,fun fJ eF fN _ _ jy _=>?_⟩;generalize((fx.w.os.mono+fx.w.tick:Nat):Int)=tw;have aa8:phi fJ.γ s<pr:=by omega
  clear eV eJ fw hA hp jy;refine TT.road hP eF (by simp[hx]) 60 fun w₀ hF=>?_;walk_nrm;repeat w_but "code.seq" dW
  refine stp rfl ?_;exact semAt hP hx hT ih eF fN aa8 ..
 ·have hz1:(nT==0)=false:=by simpa using hz
  have hz2:(nT != 0)=true:=by simpa using hz
  clear hz;simp only[xG,xE,vT,zD,rF,Fl,gX,gV,il,iN,mW,Try.f133,aJ,Nat.reduceEqDiff,↓reduceIte];refine TT.road hP hA (by simp[hx]) 60 fun w₀ hF=>?_;w_go dW
  repeat w_but "code.seq" dW
  w_go dW
  w_go dW
  repeat w_but "code.seq" dW
  refine stp rfl ?_;exact semAt hP hx hT ih hA hI hp ..
end
end
section
section
variable{q:iK}(hP:q.P=dS){i:Nat}{s:eI}{x:Wk}{Ch:Nat->ah->St eD->Prop}
variable{b₁:ai}{a₁:Act}{eA:Array Oper}{fH:Nat}{ey:List Nat}{k₁:List Item}{cs₁:List ai}
include hP
theorem J2(hx:x.wg=.work)(hT:KT q i Ch s x b₁ a₁ eA fH ey k₁ cs₁){μ pr:Nat}(ih:∀nk,nk<μ->RX q i Ch s x b₁ a₁ eA fH ey k₁ cs₁ nk){it nT:Int}{st:St eD}(h0:0<=it)(h4':it<=4){N:Nat}(hμ:5*pr+(4-it).toNat=μ)(hA:At s i {x with mx:=.cont true,df:=1} st)(hR:Rd s st pr 0 1 0 N):
  Hi q i Ch s b₁ a₁ eA fH ey k₁ cs₁ true false it nT (enc 0 1 0 N) st:=by
 have h5:bits aZ aK (enc 0 1 0 N) 5=0:=uK 0 1 0 N (by omega) (by first|omega|exact hR.w1) (by omega) (by have:=hR.n9;omega);have h4:bits aZ aK (enc 0 1 0 N) 4=0:=mB 0 1 0 N (by omega) (by first|omega|exact hR.w1) (by omega) (by have:=hR.n9;omega);have h1:bits aZ aK (enc 0 1 0 N) 1=0:=Df 0 1 0 N (by omega) (by first|omega|exact hR.w1) (by omega) (by have:=hR.n9;omega);have o1:bits BinOp.or aK (enc 0 1 0 N) 1=enc 1 1 0 N:=Fq 0 1 0 N (by omega) (by first|omega|exact hR.w1) (by omega) (by have:=hR.n9;omega);have h2:bits aZ aK (enc 1 1 0 N) 2=2:=zn 1 1 0 N (by omega) (by first|omega|exact hR.w1) (by omega) (by have:=hR.n9;omega);have n2:bits BinOp.andNot aK (enc 1 1 0 N) 2=enc 1 0 0 N:=GW 1 1 0 N (by omega) (by first|omega|exact hR.w1) (by omega) (by have:=hR.n9;omega);intro j1 j7 j8 j9 j10 j11 j12 j13 tA tz tv tq vt pz pq tj s7 sZ sY sX sW sV sU sS sQ sP sO sN sM sL sK sJ sI sH y8 y7 yZ Bj Bi Bh Bg Bf Be Bc Bb Ba A9 A8 A6 AZ AY AX AW AV AU AQ AP AO AL AK AJ AH AG AE AB AA Az vq vp vo vk vh ve vd Ay Aw Av Au Ej Ei Eh Eg Ef Ee Ed Ec Eb Ea D9 D8 D7 D6 D5 DZ qI qH qG qF qE qD qC qB qA qz qy qx qw qu qp qo qm ql qj qi qh qg qf qd qc qb p9 pZ pY pX pW pV pU pT pS pR pQ pP pO;simp only[gX,gV,il,iN,mW,Try.f133,aJ];refine TT.road hP hA (by simp[hx]) 140 fun w₀ hF=>?_;repeat w_go dW
 refine stp rfl ?_;clear hF w₀;refine TT.mu hP hA hx (mx:=.cont true) rfl (by simp) fun dV dX eO ek p1 p2 p3 p4=>?_;have fE:=hR.later p1 p2;by_cases hit:enc dV.γ.L dV.γ.W dV.γ.S dV.γ.N=enc 0 1 0 N
 ·obtain⟨e1,e2,e3,e4⟩:=jY hit ek.mu.bd ⟨by omega,by first|omega|exact hR.w1,by omega⟩;refine⟨_,_,_,.own .Ah,1,1,dV.γ.W-Bool.toNat true,dV.γ.S,dV.γ.N,dV.γ.tn,dV.γ.th,stepG_cas_hit rfl rfl (by k_ne) rfl Try.func132 ju jw js .i32 jv rfl rfl rfl (hit ▸ ek.gb.cell.2.1) (ek.gb.cell.2.2.2 4),rfl,kQ _ _,by simp,by simp,ek.mu.take dX.lo (dX.hi eO) true (fY dX) ⟨e1,e3⟩,ek.gb.swap rfl (by rw[e2,e3,e4];rfl),eW.set _ 4 _ (by omega),.inl (by simp[kF]),.inl nle,jq 4 (.inl rfl),.inr nle,fun dY eo eN _ _ _ _=>?_⟩;clear hit fE ek dX eO;refine TT.road hP eo (by simp[hx]) 60 fun w₀ hF=>?_;walk_nrm;repeat w_but "code.exit" dW
  w_go dW
  refine stp rfl ?_;exact ow hP hx hT eo ..
 ·refine⟨_,_,_,.cont true,1,dV.γ.L,dV.γ.W,dV.γ.S,dV.γ.N,dV.γ.tn,dV.γ.th,stepG_cas_miss rfl rfl (by k_ne) rfl Try.func132 ju jw js .i32 jv rfl rfl rfl ek.gb.cell.2.1 (ek.gb.cell.2.2.2 4) hit,rfl,uN _ _,by simp,by simp,jJ.still ek dX rfl,ek.gb.stay rfl rfl,eW.refl _,.inr ⟨rfl,rfl,rfl,rfl,rfl⟩,.inl nle,oH 4 (by omega),.inr nle,fun dY eo eN _ w₂ _ f₂=>?_⟩;have hlt:phi dY.γ s<pr:=by
   refine cV (by have:=fE.le;omega) fun e=>hit ?_;obtain⟨a,b,c,d⟩:=fE.eq (by omega);rw[a,b,c,d]
  clear hit fE ek dX eO;refine TT.road hP eo (by simp[hx]) 60 fun w₀ hF=>?_;walk_nrm;repeat w_go dW
  refine stp rfl ?_;clear hF w₀;refine TT.lG hP eo hx (mx:=.cont true) rfl (by simp) fun fx eJ fw eV=>⟨_,_,_,1,fF rfl rfl (by k_ne) rfl rfl eV.gb.cell.2.1 jm,rfl,rfl,rfl,eW.refl _,gy,fun fJ eF fN _ w₄ jy _=>?_⟩;have iQ:=Rd.now (fN.eZ s eF.sc).c;rw[w₄.1,w₄.2.1,w₄.2.2.1,w₄.2.2.2]at iQ;refine TT.road hP eF (by simp[hx]) 60 fun w₀ hF=>?_;walk_nrm;repeat w_nl dW
  u_c stepG_inLoop dW hF
  refine stp rfl ?_;have zP:=eV.mu.G8 eJ.lo (eJ.hi fw) (fY eJ);exact ih _ (by omega) _ it true false nT _ _ _ _ fJ rfl h0 h4' eF fN iQ (fun _=>⟨zP.1,zP.2.1⟩) (by simp) ..
theorem MD(hx:x.wg=.work)(hT:KT q i Ch s x b₁ a₁ eA fH ey k₁ cs₁){μ pr:Nat}(ih:∀nk,nk<μ->RX q i Ch s x b₁ a₁ eA fH ey k₁ cs₁ nk){it nT:Int}{st:St eD}(h0:0<=it)(h4':it<=4){N:Nat}(hμ:5*pr+(4-it).toNat=μ)(hA:At s i {x with mx:=.cont true,df:=1} st)(hR:Rd s st pr 0 1 0 N):
  Hi q i Ch s b₁ a₁ eA fH ey k₁ cs₁ true true it nT (enc 0 1 0 N) st:=by
 have h5:bits aZ aK (enc 0 1 0 N) 5=0:=uK 0 1 0 N (by omega) (by first|omega|exact hR.w1) (by omega) (by have:=hR.n9;omega);have h4:bits aZ aK (enc 0 1 0 N) 4=0:=mB 0 1 0 N (by omega) (by first|omega|exact hR.w1) (by omega) (by have:=hR.n9;omega);have h1:bits aZ aK (enc 0 1 0 N) 1=0:=Df 0 1 0 N (by omega) (by first|omega|exact hR.w1) (by omega) (by have:=hR.n9;omega);have o1:bits BinOp.or aK (enc 0 1 0 N) 1=enc 1 1 0 N:=Fq 0 1 0 N (by omega) (by first|omega|exact hR.w1) (by omega) (by have:=hR.n9;omega);have h2:bits aZ aK (enc 1 1 0 N) 2=2:=zn 1 1 0 N (by omega) (by first|omega|exact hR.w1) (by omega) (by have:=hR.n9;omega);have n2:bits BinOp.andNot aK (enc 1 1 0 N) 2=enc 1 0 0 N:=GW 1 1 0 N (by omega) (by first|omega|exact hR.w1) (by omega) (by have:=hR.n9;omega);intro j1 j7 j8 j9 j10 j11 j12 j13 tA tz tv tq vt pz pq tj s7 sZ sY sX sW sV sU sS sQ sP sO sN sM sL sK sJ sI sH y8 y7 yZ Bj Bi Bh Bg Bf Be Bc Bb Ba A9 A8 A6 AZ AY AX AW AV AU AQ AP AO AL AK AJ AH AG AE AB AA Az vq vp vo vk vh ve vd Ay Aw Av Au Ej Ei Eh Eg Ef Ee Ed Ec Eb Ea D9 D8 D7 D6 D5 DZ qI qH qG qF qE qD qC qB qA qz qy qx qw qu qp qo qm ql qj qi qh qg qf qd qc qb p9 pZ pY pX pW pV pU pT pS pR pQ pP pO;simp only[gX,gV,il,iN,mW,Try.f133,aJ];refine TT.road hP hA (by simp[hx]) 140 fun w₀ hF=>?_;repeat w_go dW
 refine stp rfl ?_;clear hF w₀;refine TT.mu hP hA hx (mx:=.cont true) rfl (by simp) fun dV dX eO ek p1 p2 p3 p4=>?_;have fE:=hR.later p1 p2;by_cases hit:enc dV.γ.L dV.γ.W dV.γ.S dV.γ.N=enc 0 1 0 N
 ·obtain⟨e1,e2,e3,e4⟩:=jY hit ek.mu.bd ⟨by omega,by first|omega|exact hR.w1,by omega⟩;refine⟨_,_,_,.own .Ah,1,1,dV.γ.W-Bool.toNat true,dV.γ.S,dV.γ.N,dV.γ.tn,dV.γ.th,stepG_cas_hit rfl rfl (by k_ne) rfl Try.func132 ju jw js .i32 jv rfl rfl rfl (hit ▸ ek.gb.cell.2.1) (ek.gb.cell.2.2.2 4),rfl,kQ _ _,by simp,by simp,ek.mu.take dX.lo (dX.hi eO) true (fY dX) ⟨e1,e3⟩,ek.gb.swap rfl (by rw[e2,e3,e4];rfl),eW.set _ 4 _ (by omega),.inl (by simp[kF]),.inl nle,jq 4 (.inl rfl),.inr nle,fun dY eo eN _ _ _ _=>?_⟩;clear hit fE ek dX eO;refine TT.road hP eo (by simp[hx]) 60 fun w₀ hF=>?_;walk_nrm;repeat w_but "code.exit" dW
  w_go dW
  refine stp rfl ?_;exact ow hP hx hT eo ..
 ·refine⟨_,_,_,.cont true,1,dV.γ.L,dV.γ.W,dV.γ.S,dV.γ.N,dV.γ.tn,dV.γ.th,stepG_cas_miss rfl rfl (by k_ne) rfl Try.func132 ju jw js .i32 jv rfl rfl rfl ek.gb.cell.2.1 (ek.gb.cell.2.2.2 4) hit,rfl,uN _ _,by simp,by simp,jJ.still ek dX rfl,ek.gb.stay rfl rfl,eW.refl _,.inr ⟨rfl,rfl,rfl,rfl,rfl⟩,.inl nle,oH 4 (by omega),.inr nle,fun dY eo eN _ w₂ _ f₂=>?_⟩;have hlt:phi dY.γ s<pr:=by
   refine cV (by have:=fE.le;omega) fun e=>hit ?_;obtain⟨a,b,c,d⟩:=fE.eq (by omega);rw[a,b,c,d]
  clear hit fE ek dX eO;refine TT.road hP eo (by simp[hx]) 60 fun w₀ hF=>?_;walk_nrm;repeat w_go dW
  refine stp rfl ?_;clear hF w₀;refine TT.lG hP eo hx (mx:=.cont true) rfl (by simp) fun fx eJ fw eV=>⟨_,_,_,1,fF rfl rfl (by k_ne) rfl rfl eV.gb.cell.2.1 jm,rfl,rfl,rfl,eW.refl _,gy,fun fJ eF fN _ w₄ jy _=>?_⟩;have iQ:=Rd.now (fN.eZ s eF.sc).c;rw[w₄.1,w₄.2.1,w₄.2.2.1,w₄.2.2.2]at iQ;refine TT.road hP eF (by simp[hx]) 60 fun w₀ hF=>?_;walk_nrm;repeat w_nl dW
  u_c stepG_inLoop dW hF
  refine stp rfl ?_;have zP:=eV.mu.G8 eJ.lo (eJ.hi fw) (fY eJ);exact ih _ (by omega) _ it true true nT _ _ _ _ fJ rfl h0 h4' eF fN iQ (fun _=>⟨zP.1,zP.2.1⟩) (by simp) ..
theorem aj0(hx:x.wg=.work)(hT:KT q i Ch s x b₁ a₁ eA fH ey k₁ cs₁){μ pr:Nat}(ih:∀nk,nk<μ->RX q i Ch s x b₁ a₁ eA fH ey k₁ cs₁ nk){it nT:Int}{st:St eD}(h0:0<=it)(h4':it<=4){w N:Nat}(hμ:5*pr+(4-it).toNat=μ)(hA:At s i {x with mx:=.cont false,df:=1} st)(hR:Rd s st pr 0 w 1 N):
  Hi q i Ch s b₁ a₁ eA fH ey k₁ cs₁ false false it nT (enc 0 w 1 N) st:=by
 have h5:bits aZ aK (enc 0 w 1 N) 5=4:=uK 0 w 1 N (by omega) (by first|omega|exact hR.w1) (by omega) (by have:=hR.n9;omega);have h4:bits aZ aK (enc 0 w 1 N) 4=4:=mB 0 w 1 N (by omega) (by first|omega|exact hR.w1) (by omega) (by have:=hR.n9;omega);have o8:bH aK (enc 0 w 1 N+8)=enc 0 w 1 (N+1):=Dg 0 w 1 N (by omega) (by first|omega|exact hR.w1) (by omega) (by have:=hR.n9;omega);intro j1 j7 j8 j9 j10 j11 j12 j13 tA tz tv tq vt pz pq tj s7 sZ sY sX sW sV sU sS sQ sP sO sN sM sL sK sJ sI sH y8 y7 yZ Bj Bi Bh Bg Bf Be Bc Bb Ba A9 A8 A6 AZ AY AX AW AV AU AQ AP AO AL AK AJ AH AG AE AB AA Az vq vp vo vk vh ve vd Ay Aw Av Au Ej Ei Eh Eg Ef Ee Ed Ec Eb Ea D9 D8 D7 D6 D5 DZ qI qH qG qF qE qD qC qB qA qz qy qx qw qu qp qo qm ql qj qi qh qg qf qd qc qb p9 pZ pY pX pW pV pU pT pS pR pQ pP pO;simp only[gX,gV,il,iN,mW,Try.f133,aJ];refine TT.road hP hA (by simp[hx]) 140 fun w₀ hF=>?_;repeat w_go dW
 refine stp rfl ?_;clear hF w₀;refine TT.mu hP hA hx (mx:=.cont false) rfl (by simp) fun dV dX eO ek p1 p2 p3 p4=>?_;have fE:=hR.later p1 p2;by_cases hit:enc dV.γ.L dV.γ.W dV.γ.S dV.γ.N=enc 0 w 1 N
 ·obtain⟨e1,e2,e3,e4⟩:=jY hit ek.mu.bd ⟨by omega,by first|omega|exact hR.w1,by omega⟩;refine⟨_,_,_,.iF,1,dV.γ.L,dV.γ.W-Bool.toNat false,dV.γ.S,dV.γ.N+1,dV.γ.tn,dV.γ.th,stepG_cas_hit rfl rfl (by k_ne) rfl Try.func132 ju jw js .i32 jv rfl rfl rfl (hit ▸ ek.gb.cell.2.1) (ek.gb.cell.2.2.2 4),rfl,kQ _ _,by simp,by simp,ek.mu.queue dX.lo (dX.hi eO) false (fY dX) (.inr e3),ek.gb.swap rfl (by rw[e1,e2,e3,e4];rfl),eW.set _ 4 _ (by omega),.inl (by simp[kF]),.inl (by omega),jq 4 (.inl rfl),.inr nle,fun dY eo eN _ _ _ f₂=>?_⟩;have ot:phi dY.γ s<pr:=by have:=fE.le;simp only[kF]at f₂;omega
  clear hit fE ek dX eO;refine TT.road hP eo (by simp[hx]) 60 fun w₀ hF=>?_;walk_nrm;w_but "code.seq" dW
  w_but "code.seq" dW
  w_go dW
  w_go dW
  repeat w_but "code.seq" dW
  refine stp rfl ?_;exact oW hP hx hT (fun nk h=>ih nk (by omega)) eo eN ot ..
 ·refine⟨_,_,_,.cont false,1,dV.γ.L,dV.γ.W,dV.γ.S,dV.γ.N,dV.γ.tn,dV.γ.th,stepG_cas_miss rfl rfl (by k_ne) rfl Try.func132 ju jw js .i32 jv rfl rfl rfl ek.gb.cell.2.1 (ek.gb.cell.2.2.2 4) hit,rfl,uN _ _,by simp,by simp,jJ.still ek dX rfl,ek.gb.stay rfl rfl,eW.refl _,.inr ⟨rfl,rfl,rfl,rfl,rfl⟩,.inl nle,oH 4 (by omega),.inr nle,fun dY eo eN _ w₂ _ f₂=>?_⟩;have hlt:phi dY.γ s<pr:=by
   refine cV (by have:=fE.le;omega) fun e=>hit ?_;obtain⟨a,b,c,d⟩:=fE.eq (by omega);rw[a,b,c,d]
  clear hit fE ek dX eO;refine TT.road hP eo (by simp[hx]) 60 fun w₀ hF=>?_;walk_nrm;repeat w_go dW
  refine stp rfl ?_;clear hF w₀;refine TT.lG hP eo hx (mx:=.cont false) rfl (by simp) fun fx eJ fw eV=>⟨_,_,_,1,fF rfl rfl (by k_ne) rfl rfl eV.gb.cell.2.1 jm,rfl,rfl,rfl,eW.refl _,gy,fun fJ eF fN _ w₄ jy _=>?_⟩;have iQ:=Rd.now (fN.eZ s eF.sc).c;rw[w₄.1,w₄.2.1,w₄.2.2.1,w₄.2.2.2]at iQ;clear eV eJ fw;refine TT.road hP eF (by simp[hx]) 60 fun w₀ hF=>?_;walk_nrm;repeat w_nl dW
  u_c stepG_inLoop dW hF
  refine stp rfl ?_;exact ih _ (by omega) _ it false false nT _ _ _ _ fJ rfl h0 h4' eF fN iQ (by simp) (by simp) ..
theorem ai9(hx:x.wg=.work)(hT:KT q i Ch s x b₁ a₁ eA fH ey k₁ cs₁){μ pr:Nat}(ih:∀nk,nk<μ->RX q i Ch s x b₁ a₁ eA fH ey k₁ cs₁ nk){it nT:Int}{st:St eD}(h0:0<=it)(h4':it<=4){w N:Nat}(hμ:5*pr+(4-it).toNat=μ)(hA:At s i {x with mx:=.cont false,df:=1} st)(hR:Rd s st pr 1 w 1 N):
  Hi q i Ch s b₁ a₁ eA fH ey k₁ cs₁ false false it nT (enc 1 w 1 N) st:=by
 have h5:bits aZ aK (enc 1 w 1 N) 5=5:=uK 1 w 1 N (by omega) (by first|omega|exact hR.w1) (by omega) (by have:=hR.n9;omega);have h4:bits aZ aK (enc 1 w 1 N) 4=4:=mB 1 w 1 N (by omega) (by first|omega|exact hR.w1) (by omega) (by have:=hR.n9;omega);have o8:bH aK (enc 1 w 1 N+8)=enc 1 w 1 (N+1):=Dg 1 w 1 N (by omega) (by first|omega|exact hR.w1) (by omega) (by have:=hR.n9;omega);intro j1 j7 j8 j9 j10 j11 j12 j13 tA tz tv tq vt pz pq tj s7 sZ sY sX sW sV sU sS sQ sP sO sN sM sL sK sJ sI sH y8 y7 yZ Bj Bi Bh Bg Bf Be Bc Bb Ba A9 A8 A6 AZ AY AX AW AV AU AQ AP AO AL AK AJ AH AG AE AB AA Az vq vp vo vk vh ve vd Ay Aw Av Au Ej Ei Eh Eg Ef Ee Ed Ec Eb Ea D9 D8 D7 D6 D5 DZ qI qH qG qF qE qD qC qB qA qz qy qx qw qu qp qo qm ql qj qi qh qg qf qd qc qb p9 pZ pY pX pW pV pU pT pS pR pQ pP pO;simp only[gX,gV,il,iN,mW,Try.f133,aJ];refine TT.road hP hA (by simp[hx]) 140 fun w₀ hF=>?_;repeat w_go dW
 refine stp rfl ?_;clear hF w₀;refine TT.mu hP hA hx (mx:=.cont false) rfl (by simp) fun dV dX eO ek p1 p2 p3 p4=>?_;have fE:=hR.later p1 p2;by_cases hit:enc dV.γ.L dV.γ.W dV.γ.S dV.γ.N=enc 1 w 1 N
 ·obtain⟨e1,e2,e3,e4⟩:=jY hit ek.mu.bd ⟨by omega,by first|omega|exact hR.w1,by omega⟩;refine⟨_,_,_,.iF,1,dV.γ.L,dV.γ.W-Bool.toNat false,dV.γ.S,dV.γ.N+1,dV.γ.tn,dV.γ.th,stepG_cas_hit rfl rfl (by k_ne) rfl Try.func132 ju jw js .i32 jv rfl rfl rfl (hit ▸ ek.gb.cell.2.1) (ek.gb.cell.2.2.2 4),rfl,kQ _ _,by simp,by simp,ek.mu.queue dX.lo (dX.hi eO) false (fY dX) (.inr e3),ek.gb.swap rfl (by rw[e1,e2,e3,e4];rfl),eW.set _ 4 _ (by omega),.inl (by simp[kF]),.inl (by omega),jq 4 (.inl rfl),.inr nle,fun dY eo eN _ _ _ f₂=>?_⟩;have ot:phi dY.γ s<pr:=by have:=fE.le;simp only[kF]at f₂;omega
  clear hit fE ek dX eO;refine TT.road hP eo (by simp[hx]) 60 fun w₀ hF=>?_;walk_nrm;w_but "code.seq" dW
  w_but "code.seq" dW
  w_go dW
  w_go dW
  repeat w_but "code.seq" dW
  refine stp rfl ?_;exact oW hP hx hT (fun nk h=>ih nk (by omega)) eo eN ot ..
 ·refine⟨_,_,_,.cont false,1,dV.γ.L,dV.γ.W,dV.γ.S,dV.γ.N,dV.γ.tn,dV.γ.th,stepG_cas_miss rfl rfl (by k_ne) rfl Try.func132 ju jw js .i32 jv rfl rfl rfl ek.gb.cell.2.1 (ek.gb.cell.2.2.2 4) hit,rfl,uN _ _,by simp,by simp,jJ.still ek dX rfl,ek.gb.stay rfl rfl,eW.refl _,.inr ⟨rfl,rfl,rfl,rfl,rfl⟩,.inl nle,oH 4 (by omega),.inr nle,fun dY eo eN _ w₂ _ f₂=>?_⟩;have hlt:phi dY.γ s<pr:=by
   refine cV (by have:=fE.le;omega) fun e=>hit ?_;obtain⟨a,b,c,d⟩:=fE.eq (by omega);rw[a,b,c,d]
  clear hit fE ek dX eO;refine TT.road hP eo (by simp[hx]) 60 fun w₀ hF=>?_;walk_nrm;repeat w_go dW
  refine stp rfl ?_;clear hF w₀;refine TT.lG hP eo hx (mx:=.cont false) rfl (by simp) fun fx eJ fw eV=>⟨_,_,_,1,fF rfl rfl (by k_ne) rfl rfl eV.gb.cell.2.1 jm,rfl,rfl,rfl,eW.refl _,gy,fun fJ eF fN _ w₄ jy _=>?_⟩;have iQ:=Rd.now (fN.eZ s eF.sc).c;rw[w₄.1,w₄.2.1,w₄.2.2.1,w₄.2.2.2]at iQ;clear eV eJ fw;refine TT.road hP eF (by simp[hx]) 60 fun w₀ hF=>?_;walk_nrm;repeat w_nl dW
  u_c stepG_inLoop dW hF
  refine stp rfl ?_;exact ih _ (by omega) _ it false false nT _ _ _ _ fJ rfl h0 h4' eF fN iQ (by simp) (by simp) ..
end
end
end Cc
end Go.Proofs.Ytpfpokjaeffbjaa
