/- Part of the proof: HonPre, PackPlain, UnpackPlain, HonPlain, Pack, Unpack, HonRest, HonF, HonTail, HonGo. -/
import Derived.Test.YtpfpokjaeffbjaaHh0
import Derived.Test.YtpfpokjaeffbjaaHh14
import Derived.Test.YtpfpokjaeffbjaaHh12
import Derived.Test.YtpfpokjaeffbjaaHh6
import Derived.Laws.BytesArg
import Derived.Lib.JoinLaws
import Derived.Deep.RegionHeld3
import Derived.Test.YtpfpokjaeffbjaaHh7
import Derived.Test.YtpfpokjaeffbjaaHh11
set_option linter.unusedVariables false
set_option linter.unusedSimpArgs false
set_option maxRecDepth 100000
set_option maxHeartbeats 16000000
open List renaming range→bq,getD_eq_getElem?_getD→aC,getElem?_map→cg,mem_cons_self→dh,mem_cons_of_mem→aR
open Go.Proofs.Try renaming prog→dS
open Option renaming getD_some→aJ
open Go.IntKind renaming wrap_i64→cG
open Go.World renaming block_lt_of_cell?→bZ
open Go.Act renaming eval→aU
open Go.Deferred renaming ofValue→cI
namespace Go.Proofs.Ytpfpokjaeffbjaa
open Go renaming World→ae,Value→af,Goroutine→ah,Frame→ai,TypeId→aj,FuncId→ak,Program→au,undef→av,execOp→ax
open Go.Lib renaming hid→ay
namespace Hon
open Go.RowKit Pl ni oa ng Hv Ht OZ OX nU Mem yL nO xA Dlt O0 Cc Bla
def oU(y:Nat->af):Array af:=#[y 0,y 1,y 2,y 3,y 4,y 5,y 6,y 7,y 8,y 9,y 10,y 11,y 12,y 13,y 14,y 15,y 16,y 17,y 18,y 19,y 20,y 21,y 22,y 23,y 24,y 25,y 26,y 27,y 28,y 29,y 30,y 31,y 32,y 33,y 34,y 35,y 36,y 37,y 38,y 39,y 40,y 41,y 42,y 43,y 44,y 45,y 46,y 47,y 48,y 49,y 50,y 51,y 52,y 53,y 54,y 55,y 56,y 57,y 58,y 59,y 60,y 61,y 62,y 63,y 64,y 65,y 66,y 67,y 68,y 69,y 70,y 71,y 72,y 73,y 74,y 75,y 76,y 77,y 78,y 79,y 80,y 81,y 82,y 83,y 84,y 85,y 86,y 87,y 88,y 89,y 90,y 91,y 92,y 93,y 94,y 95,y 96,y 97,y 98,y 99,y 100,y 101,y 102,y 103,y 104,y 105,y 106,y 107,y 108,y 109,y 110,y 111,y 112,y 113,y 114,y 115]
theorem B6(T:Array af)(h:T.size=116):∃y:Nat->af,T=oU y/\∀i v,T[i]?=some v->y i=v:=by
 refine⟨fun i=>T.getD i av,?_,fun i v hv=>?_⟩
 ·have e:T=((bq 116).map fun i=>T.getD i av).toArray:=by
   refine Array.ext (by simp[h]) fun i h1 h2=>?_;simp[Array.getD,h1]
  exact e.trans rfl
 ·simp only[Array.getD];split
  ·rename_i hlt;rw[Array.getElem?_eq_getElem hlt]at hv;exact Option.some.inj hv
  ·rename_i hlt;rw[Array.getElem?_eq_none (by omega)]at hv;cases hv
noncomputable def mg:Code:=Try.f7.body.getD .skip
def HoN(t n seed mask dX:Int)(msg:ByteArray)(w:ae)(a:Act)(w2:ae):Prop:=
 msg.size<=65536/\∃B gb A1 k1 vi vC vZ zero,PO (gS t n) (kv n) (kG seed (gS t n)) (xA.ids mask (gS t n) (kv n)) dX msg w w2 B gb A1 k1 vi vC vZ zero/\a.tmps.size=116/\a.tmps[5]?=some (.string msg)/\a.tmps[13]?=some (.pointer (some ⟨gb,0,none⟩))/\a.tmps[16]?=some (.bool true)/\a.tmps[17]?=some vC/\a.tmps[18]?=some vZ/\a.tmps[19]?=some (.bool zero)
theorem ao4{w:ae}(t n seed mask dX:Int)(msg:ByteArray)(ht: -9223372036854775808<=t/\t<=9223372036854775807)(hn: -9223372036854775808<=n/\n<=9223372036854775807)(hs:0<=seed/\seed<18446744073709551616)(hN:0<=dX/\dX<18446744073709551616):
  wpL dS (HoN t n seed mask dX msg w) (fun a w'=>a.tmps[12]?=some (.bool true)/\w'=w) (iw 5 mg).1 ⟨#[.int .i64 t,.int .i64 n,.int .u64 seed,.int .i64 mask,.int .u64 dX,.string msg,av,av,av,av,av,av,av,av,av,av,av,av,av,av,av,av,av,av,av,av,av,av,av,av,av,av,av,av,av,av,av,av,av,av,av,av,av,av,av,av,av,av,av,av,av,av,av,av,av,av,av,av,av,av,av,av,av,av,av,av,av,av,av,av,av,av,av,av,av,av,av,av,av,av,av,av,av,av,av,av,av,av,av,av,av,av,av,av,av,av,av,av,av,av,av,av,av,av,av,av,av,av,av,av,av,av,av,av,av,av],[]⟩ w:=by
 have HD:=ay (UA t n seed mask w ht hn hs);have HN:=ay hN;have EB:=ay (Fx t n mask);clear ht hn hs hN;simp only[mg,iw,Try.f7,aJ];refine kW ?_;go_wp2_with fail
 refine kW ?_;by_cases hm:65536<msg.size
 ·have hm2:(65536:Int)<(msg.size:Int):=by omega
  go_wp2_with fail
 have hm2:¬(65536:Int)<(msg.size:Int):=by omega
 have hm3:msg.size<=65536:=by omega
 go_wp2_with fail
 refine kW ?_;go_wp2_with fail
 refine HD.out.mono ?_;rintro e w1 ⟨vc,vs,vi,rfl,h1,h2,h3,hb⟩;obtain⟨A1,k1,e1⟩:=Yp.jV h1;rw[show(comms (kG seed (gS t n)) (kG seed (gS t n)).length).length=gS t n by rw[iu _ nle,iW]]at e1;subst e1;have hnb:=eD w1 (.cells #[.int .i64 (gS t n),.int .i64 (kv n),.slice A1 (gS t n) k1] 31);have oD:=fF.new w1 31 #[.int .i64 (gS t n),.int .i64 (kv n),.slice A1 (gS t n) k1];have hS:=Ig t n seed mask dX msg w (w1.alloc (.cells #[.int .i64 (gS t n),.int .i64 (kv n),.slice A1 (gS t n) k1] 31)) w1.heap.size A1 k1 vs vi HN.out (by omega) (hb.trans (hnb.mono hb.size)) hb.size (by simp) oD (h1.later hnb) (h2.later hnb) EB.out (h3.later hnb);have HS:=ay hS;have g0:(w1.alloc (.cells #[.int .i64 (gS t n),.int .i64 (kv n),.slice A1 (gS t n) k1] 31)).cell? ⟨w1.heap.size,0,none⟩=some (.int .i64 (gS t n)):=oD.cell 0;have g1:(w1.alloc (.cells #[.int .i64 (gS t n),.int .i64 (kv n),.slice A1 (gS t n) k1] 31)).cell? ⟨w1.heap.size,1,none⟩=some (.int .i64 (kv n)):=oD.cell 1;have g2:(w1.alloc (.cells #[.int .i64 (gS t n),.int .i64 (kv n),.slice A1 (gS t n) k1] 31)).cell? ⟨w1.heap.size,2,none⟩=some (.slice A1 (gS t n) k1):=oD.cell 2;clear hS HD HN EB h1 h2 h3 hb hnb oD hm hm2;go_wp2_with fail
 generalize w1.alloc (.cells #[.int .i64 (gS t n),.int .i64 (kv n),.slice A1 (gS t n) k1] 31)=w2 at*;generalize w1.heap.size=gb at*;refine kW ?_;go_wp2_with fail
 refine kW ?_;go_wp2_with fail
 refine HS.out.mono ?_;rintro e w3 ⟨zero,vC,vZ,rfl,Er⟩;have VL:=ay Er;clear Er HS;go_wp2_with fail
 exact⟨hm3,_,_,_,_,_,_,_,_,VL.out,rfl,rfl,rfl,rfl,rfl,rfl,rfl⟩
end Hon
namespace Ppl
open Go.RowKit Pl Mem
def sx(c:Cm)(j:Nat):Int:=
 if j=0 then IntKind.u8.wrap c.id else if j<5 then IntKind.u8.wrap (c.d/2^(8*(j-1)))else IntKind.u8.wrap (c.e/2^(8*(j-5)))
def nine(c:Cm):List Int:=(bq 9).map (sx c)
def packed(l:List Cm):List Int:=l.flatMap nine
theorem pq(c:Cm):(nine c).length=9:=by simp[nine]
theorem mN(l:List Cm):(packed l).length=9*l.length:=by
 induction l with
 |nil=>rfl
 |cons c l ih=>
  show(nine c++packed l).length=_;rw[List.length_append,ih,pq,List.length_cons];omega
theorem WB(c:Cm){j:Nat}(h:j<9):(nine c).getD j 0=sx c j:=by
 unfold nine;rw[aC,cg,List.getElem?_range h];rfl
theorem Pk7(l:List Cm){k j:Nat}(hk:k<l.length)(hj:j<9):(packed l).getD (9*k+j) 0=sx (l.getD k .zero) j:=by
 induction l generalizing k with
 |nil=>simp at hk
 |cons c l ih=>
  show(nine c++packed l).getD _ _=_;cases k with
  |zero=>
   rw[aC,List.getElem?_append_left (by rw[pq];omega),show 9*0+j=j by omega,<-aC,WB c hj];rfl
  |succ k=>
   rw[aC,List.getElem?_append_right (by rw[pq];omega),pq,show 9*(k+1)+j-9=9*k+j by omega,<-aC,ih (by simpa using hk)];rfl
def Pre(l:List Cm)(cs:Array af)(p:Nat):Prop:=cs.size=9*l.length/\∀i,i<p->cs[i]?=some (.int .u8 ((packed l).getD i 0))
theorem Pre.step{l:List Cm}{cs:Array af}{p:Nat}(h:Pre l cs p)(hp:p<9*l.length){x:Int}(hx:x=(packed l).getD p 0):Pre l (cs.setIfInBounds p (.int .u8 x)) (p+1):=by
 refine⟨by rw[Array.size_setIfInBounds];exact h.1,fun i hi=>?_⟩;rw[Array.getElem?_setIfInBounds];by_cases e:p=i
 ·subst e;rw[if_pos rfl,if_pos (by rw[h.1];exact hp),hx]
 ·rw[if_neg e];exact h.2 i (by omega)
theorem Pre.zero(l:List Cm){cs:Array af}(h:cs.size=9*l.length):Pre l cs 0:=⟨h,fun i hi=>absurd hi (by omega)⟩
end Ppl
namespace Upl
open Go.RowKit Pl Mem
theorem rC(s:ByteArray)(k:Nat):0<=gu s k/\gu s k<256:=by
 unfold gu;split
 ·have:=(s[k]).toNat_lt;omega
 ·omega
theorem xo(s:ByteArray)(k:Nat)(h:k<s.size):((s[k]'h).toNat:Int)=gu s k:=by unfold gu;rw[dif_pos h]
def Mm(s:ByteArray)(k:Nat)(t:ByteArray):Prop:=t.size+9*k=s.size/\∀i,gu t i=gu s (9*k+i)
theorem Dv(t:ByteArray)(i n:Nat)(h:n<=t.size):gu (t.extract n t.size) i=gu t (n+i):=by
 unfold gu;by_cases hi:n+i<t.size
 ·rw[dif_pos hi,dif_pos (by simp<;>omega)];congr 1;simp[ByteArray.getElem_extract]
 ·rw[dif_neg hi,dif_neg (by simp<;>omega)]
theorem size_extract(t:ByteArray)(n:Nat):(t.extract n t.size).size=t.size-n:=by simp
theorem Mm.zero(s:ByteArray):Mm s 0 s:=⟨by omega,fun i=>by rw[Nat.mul_zero,Nat.zero_add]⟩
theorem Mm.next{s t:ByteArray}{k:Nat}(h:Mm s k t)(h9:9<=t.size):Mm s (k+1) (t.extract 9 t.size):=by
 refine⟨by rw[size_extract];have:=h.1;omega,fun i=>?_⟩;rw[Dv t i 9 h9,h.2];congr 1;omega
def num(s:ByteArray)(p:Nat):Nat->Int
 |0=>0
 |j+1=>num s p j+gu s (p+j)*256^j
theorem Ss(s:ByteArray)(p j:Nat):0<=num s p j/\num s p j<256^j:=by
 induction j with
 |zero=>unfold num;simp
 |succ j ih=>
  have hb:=rC s (p+j);have hp:(0:Int)<256^j:=Int.pow_pos (by omega);have h1:0<=gu s (p+j)*256^j:=Int.mul_nonneg hb.1 (by omega);have h2:gu s (p+j)*256^j<=255*256^j:=Int.mul_le_mul_of_nonneg_right (by omega) (by omega);rw[num,Int.pow_succ];omega
theorem aI1(s:ByteArray)(p:Nat):num s p 4=gu s p+256*(gu s (p+1)+256*(gu s (p+2)+256*gu s (p+3))):=by
 simp only[num,Nat.add_zero];have e0:(256:Int)^0=1:=rfl;have e1:(256:Int)^1=256:=rfl;have e2:(256:Int)^2=65536:=rfl;have e3:(256:Int)^3=16777216:=rfl;rw[e0,e1,e2,e3];omega
theorem M9(s:ByteArray)(p:Nat):0<=num s p 4/\num s p 4<4294967296:=by
 have:=Ss s p 4
 have e:(256:Int)^4=4294967296:=rfl;rw[e]at this;exact this
theorem ag2(x b:Int)(j:Nat)(hj:j<4)(hx:0<=x/\x<256^j)(hb:0<=b/\b<256):
  bits BinOp.or IntKind.u64 x (b*2^(8*j))=x+b*256^j:=by
 obtain⟨X,rfl⟩:=Int.eq_ofNat_of_zero_le hx.1;obtain⟨B,rfl⟩:=Int.eq_ofNat_of_zero_le hb.1;have hp:(2:Int)^(8*j)=256^j:=by rw[Int.pow_mul];rfl
 have hpn:(2:Nat)^(8*j)=256^j:=by rw[Nat.pow_mul]
 have hc:(256:Int)^j=((256^j:Nat):Int):=by rw[Int.natCast_pow];rfl
 have hX:X<256^j:=by have:=hx.2;rw[hc]at this;exact Int.ofNat_lt.1 this
 have hle:256^j<=16777216:=by
  have:j=0\/j=1\/j=2\/j=3:=by omega
  rcases this with rfl|rfl|rfl|rfl<;>decide
 have hm:B*256^j<=255*16777216:=Nat.mul_le_mul (by omega) hle;have e:=bits_or_u64_nat X (B*256^j) (by omega) (by omega);have c:((B*256^j:Nat):Int)=(B:Int)*256^j:=by rw[Int.natCast_mul,hc]
 rw[hp,<-c,e];have h2:X|||B*256^j=X+B*256^j:=by
  rw[Nat.or_comm,Nat.mul_comm,<-hpn,<-Nat.two_pow_add_eq_or_of_lt (by rw[hpn];exact hX)];omega
 rw[h2,Int.natCast_add]
theorem M6(s:ByteArray)(p j:Nat)(hj:j<4):bits BinOp.or IntKind.u64 (num s p j) (IntKind.u64.wrap (gu s (p+j)*2^(8*j)))=num s p (j+1):=by
 have hb:=rC s (p+j);have hw:IntKind.u64.wrap (gu s (p+j)*2^(8*j))=gu s (p+j)*2^(8*j):=by
  have:j=0\/j=1\/j=2\/j=3:=by omega
  have e0:(2:Int)^(8*0)=1:=rfl;have e1:(2:Int)^(8*1)=256:=rfl;have e2:(2:Int)^(8*2)=65536:=rfl;have e3:(2:Int)^(8*3)=16777216:=rfl;rcases this with rfl|rfl|rfl|rfl
  ·rw[e0];exact kU (by omega) (by omega)
  ·rw[e1];exact kU (by omega) (by omega)
  ·rw[e2];exact kU (by omega) (by omega)
  ·rw[e3];exact kU (by omega) (by omega)
 rw[hw,ag2 _ _ j hj (Ss s p j) hb,num]
def piece(s:ByteArray)(k:Nat):Cm:=⟨gu s (9*k),num s (9*k+1) 4,num s (9*k+5) 4⟩
def KZ(s:ByteArray)(k:Nat):Int:=
 if(piece s k).id<1\/9<(piece s k).id then 5 else if 0<k/\(piece s k).id<=(piece s (k-1)).id then 6
 else if iH (piece s k).d=false\/iH (piece s k).e=false then 3 else 0
def mP(s:ByteArray):Nat->Int
 |0=>0
 |k+1=>if mP s k=0 then KZ s k else mP s k
def QY(s:ByteArray):Int:=if s.size%9=0/\s.size<=81 then mP s (s.size/9)else 13
def pieces(s:ByteArray)(k:Nat):List Cm:=(bq k).map (piece s)
theorem wu(s:ByteArray)(k:Nat):(pieces s k).length=k:=by simp[pieces]
theorem IJ(s:ByteArray)(k:Nat):pieces s (k+1)=pieces s k++[piece s k]:=by simp[pieces,List.range_succ]
theorem IK(s:ByteArray)(k:Nat)(i:Nat)(h:i<k):(pieces s k).getD i .zero=piece s i:=by
 unfold pieces;rw[aC,cg,List.getElem?_range h];rfl
theorem H7(s:ByteArray){j k:Nat}(h:j<=k)(hj:mP s j≠0):mP s k=mP s j:=by
 induction k with
 |zero=>
  obtain rfl:j=0:=by omega
  rfl
 |succ k ih=>
  rcases Nat.lt_or_ge k j with hlt|hge
  ·obtain rfl:j=k+1:=by omega
   rfl
  ·rw[mP,ih hge,if_neg hj]
theorem ac1(s:ByteArray){k:Nat}{x:Int}(h1:s.size%9=0)(h2:s.size<=81)(hk:9*k<s.size)(h0:mP s k=0)(hx:KZ s k=x)(hn:x≠0):QY s=x:=by
 unfold QY;rw[if_pos ⟨h1,h2⟩,H7 s (j:=k+1) (by omega) (by rw[mP,if_pos h0,hx];exact hn),mP,if_pos h0,hx]
theorem Rw(s:ByteArray){k:Nat}(h1:s.size%9=0)(h2:s.size<=81)(hk:9*k=s.size)(h0:mP s k=0):QY s=0:=by
 unfold QY;rw[if_pos ⟨h1,h2⟩,show s.size/9=k by omega,h0]
theorem MD(s:ByteArray)(h:¬(s.size%9=0/\s.size<=81)):QY s=13:=by unfold QY;rw[if_neg h]
end Upl
namespace Hon
open Go.RowKit Pl Mem Ppl Upl
theorem Mb(xs:List Int){i:Nat}(hi:i<xs.length)(hb:0<=xs.getD i 0/\xs.getD i 0<256):gu (strOfNums xs) i=xs.getD i 0:=by
 have hs:i<(strOfNums xs).size:=by rw[strOfNums_size];exact hi
 unfold gu;rw[dif_pos hs];have e:(strOfNums xs)[i]=UInt8.ofNat (xs.getD i 0).toNat:=by
  show(strOfNums xs).data[i]=_;simp[strOfNums,aC,hi]
 rw[e,UInt8.toNat_ofNat'];omega
theorem RA(x:Int):0<=IntKind.u8.wrap x/\IntKind.u8.wrap x<256:=by
 rw[IntKind.wrap_u8];omega
theorem QC(c:Cm)(j:Nat):0<=sx c j/\sx c j<256:=by
 unfold sx;split
 ·exact RA _
 ·split
  ·exact RA _
  ·exact RA _
section
variable{l:List Cm}
theorem jw{k j:Nat}(hk:k<l.length)(hj:j<9):gu (strOfNums (packed l)) (9*k+j)=sx (l.getD k .zero) j:=by
 have hp:=Pk7 l hk hj;rw[Mb (packed l) (by rw[mN];omega) (by rw[hp];exact QC _ _),hp]
theorem Dh{d:Int}(hd:0<=d/\d<4294967296):IntKind.u8.wrap (d/2^0)+256*(IntKind.u8.wrap (d/2^8)+256*(IntKind.u8.wrap (d/2^16)+256*IntKind.u8.wrap (d/2^24)))=d:=by
 have e0:(2:Int)^0=1:=rfl;have e1:(2:Int)^8=256:=rfl;have e2:(2:Int)^16=65536:=rfl;have e3:(2:Int)^24=16777216:=rfl;rw[e0,e1,e2,e3];simp only[IntKind.wrap_u8];omega
theorem rW{n:Int}(h:iH n=true):0<=n/\n<4294967296:=by
 unfold iH jQ at h;simp only[Bool.and_eq_true,decide_eq_true_eq]at h;omega
theorem Gi{k:Nat}(hk:k<l.length)(hid:1<=(l.getD k .zero).id/\(l.getD k .zero).id<=9)(hd:iH (l.getD k .zero).d=true)(he:iH (l.getD k .zero).e=true):piece (strOfNums (packed l)) k=l.getD k .zero:=by
 have b0:=jw hk (j:=0) (by omega);have b1:=jw hk (j:=1) (by omega);have b2:=jw hk (j:=2) (by omega);have b3:=jw hk (j:=3) (by omega);have b4:=jw hk (j:=4) (by omega);have b5:=jw hk (j:=5) (by omega);have b6:=jw hk (j:=6) (by omega);have b7:=jw hk (j:=7) (by omega);have b8:=jw hk (j:=8) (by omega);have f1:=Dh (rW hd);have f2:=Dh (rW he);have hi:IntKind.u8.wrap (l.getD k .zero).id=(l.getD k .zero).id:=by rw[IntKind.wrap_u8];omega
 unfold piece;rw[aI1,aI1,show 9*k+1+1=9*k+2 from rfl,show 9*k+1+2=9*k+3 from rfl,show 9*k+1+3=9*k+4 from rfl,show 9*k+5+1=9*k+6 from rfl,show 9*k+5+2=9*k+7 from rfl,show 9*k+5+3=9*k+8 from rfl,b1,b2,b3,b4,b5,b6,b7,b8];rw[Nat.add_zero]at b0;rw[b0];generalize l.getD k .zero=c at*;obtain⟨i,d,e⟩:=c;show Cm.mk (IntKind.u8.wrap i) (IntKind.u8.wrap (d/2^0)+256*(IntKind.u8.wrap (d/2^8)+256*(IntKind.u8.wrap (d/2^16)+256*IntKind.u8.wrap (d/2^24)))) (IntKind.u8.wrap (e/2^0)+256*(IntKind.u8.wrap (e/2^8)+256*(IntKind.u8.wrap (e/2^16)+256*IntKind.u8.wrap (e/2^24))))=⟨i,d,e⟩;rw[f1,f2,hi]
theorem unpack_pack(h9:l.length<=9)(hid:∀k,k<l.length->1<=(l.getD k .zero).id/\(l.getD k .zero).id<=9)(hr:∀k,0<k->k<l.length->(l.getD (k-1) .zero).id<(l.getD k .zero).id)(hn:∀k,k<l.length->iH (l.getD k .zero).d=true/\iH (l.getD k .zero).e=true):
  QY (strOfNums (packed l))=0/\pieces (strOfNums (packed l)) ((strOfNums (packed l)).size/9)=l:=by
 have hs:(strOfNums (packed l)).size=9*l.length:=by rw[strOfNums_size,mN]
 have hp:∀k,k<l.length->piece (strOfNums (packed l)) k=l.getD k .zero:=fun k hk=>Gi hk (hid k hk) (hn k hk).1 (hn k hk).2;have he:∀k,k<=l.length->mP (strOfNums (packed l)) k=0:=by
  intro k;induction k with
  |zero=>intro _;rfl
  |succ k ih=>
   intro hk;rw[mP,if_pos (ih (by omega))];have h1:=hid k (by omega);have h2:=hn k (by omega);unfold KZ;rw[hp k (by omega),if_neg (by omega),if_neg,if_neg (by rw[h2.1,h2.2];simp)];rintro ⟨h3,h4⟩;rw[hp (k-1) (by omega)]at h4;have:=hr k h3 (by omega)
   omega
 refine⟨Rw _ (k:=l.length) (by omega) (by omega) (by omega) (he _ nle),?_⟩;rw[show(strOfNums (packed l)).size/9=l.length by omega];refine List.ext_getElem (by rw[wu]) fun i h1 h2=>?_;have h3:=IK (strOfNums (packed l)) l.length i h2;rw[hp i h2]at h3;simpa [aC,h1,h2]using h3
end
end Hon
namespace Pak
open Go.RowKit Pl nU Mem Ppl nO
theorem N7:(Try.prog.info? 5).map (fun i=>(i.zero,i.size,i.bytes))=some (some (.int .u8 0),1,1):=by kernel_rfl
def rG(l:List Cm)(w:ae)(p:Nat)(wr:ae):Prop:=∃cs:Array af,fF wr w.heap.size 5 cs/\Pre l cs p/\Below w.heap.size w wr
theorem rG.lay{l:List Cm}{w wr:ae}{p:Nat}(h:rG l w p wr)(hp:p<9*l.length){x:Int}(hx:x=(packed l).getD p 0):rG l w (p+1) (wr.setCell ⟨w.heap.size,p,none⟩ (.int .u8 x)):=by
 obtain⟨cs,hb,hpre,gy⟩:=h;exact⟨_,hb.iK p _,hpre.step hp hx,gy.setCell nle _⟩
theorem rG.alloc{l:List Cm}{w wr:ae}{p:Nat}(h:rG l w p wr)(o:Obj):rG l w p (wr.alloc o):=by
 obtain⟨cs,hb,hpre,gy⟩:=h;exact⟨cs,hb.alloc o,hpre,gy.alloc gy.size o⟩
theorem rG.cell{l:List Cm}{w wr:ae}{p:Nat}(h:rG l w p wr){i:Nat}(hi:i<9*l.length):(wr.cell? ⟨w.heap.size,i,none⟩).isSome=true/\wr.frozen? ⟨w.heap.size,i,none⟩=false:=by
 obtain⟨cs,hb,hpre,gy⟩:=h;refine⟨?_,hb.frozen i⟩;rw[hb.cell i,Array.getElem?_eq_getElem (by rw[hpre.1];exact hi)];rfl
theorem rG.lt{l:List Cm}{w wr:ae}{p:Nat}(h:rG l w p wr):w.heap.size<wr.heap.size:=h.choose_spec.1.lt
theorem YQ(l:List Cm)(v:af)(w:ae)(hv:lU w w.heap.size v l)(hl:l.length<=65536)
  (hb:∀i,i<l.length->(0<=(l.getD i .zero).d/\(l.getD i .zero).d<18446744073709551616)/\(0<=(l.getD i .zero).e/\(l.getD i .zero).e<18446744073709551616)):
  Calls dS 16 #[v] w fun e w'=>e=.returned (.string (strOfNums (packed l)))/\Below w.heap.size w w':=by
 obtain⟨A,c,rfl⟩:=hv.shape;have HV:=ay hv;have HB:=ay hb;have m9:IntKind.i64.wrap (9*(l.length:Int))=((9*l.length:Nat):Int):=by rw[cG];omega
 clear hv hb;obtain⟨i0,hi,hz0,hz1,hz2⟩:=info_parts N7;go_enter Try.func16,Try.ntmps16
 go_wp2_with (refine wpList_make_row _ rfl _ _ 72 rfl 5 i0 (.int .u8 0) Try.underlying72 hi hz0 hz1 rfl .i64 .i64 (9*l.length) (by go_simp) (by go_simp) (by rw[hz2];omega) (by omega) ?_)
 go_loopw [16] (fun i wr=>∃k:Nat,k<=l.length/\i=.int .i64 k/\rG l w (9*k) wr) (fun i _=>l.length-(intOf i).toNat)
 case atStart=>
  refine⟨0,by omega,rfl,_,fF.new _ _ _,Pre.zero l ?_,bre.alloc nle _⟩;simp[madeCells]
 case round=>
  obtain⟨k,hk,rfl,hinv⟩:=hrel;by_cases hlt:k<l.length
  ·obtain⟨b,off,rfl,hb,hc⟩:=HV.out.at_ (by omega);have gy:Below w.heap.size w wr:=hinv.choose_spec.2.2;have HBW:=ay gy;obtain⟨x0,x1,x2⟩:=hc k hlt;replace x0:=(gy.cell (p:=⟨b,off+k*3,none⟩) hb).trans x0;replace x1:=(gy.cell (p:=⟨b,off+k*3+1,none⟩) hb).trans x1;replace x2:=(gy.cell (p:=⟨b,off+k*3+2,none⟩) hb).trans x2;have hbd:=HB.out k hlt;have e0:Hid ((l.getD k .zero).id%256=(packed l).getD (9*k) 0):=by
    show _=(packed l).getD (9*k) 0;rw[<-IntKind.wrap_u8];exact(Pk7 l hlt (j:=0) (by omega)).symm
   have e1:Hid (∀j,j<4->(l.getD k .zero).d/2^(8*j)%256=(packed l).getD (9*k+1+j) 0):=by
    show∀j,_;intro j hj;rw[<-IntKind.wrap_u8,Nat.add_assoc,Pk7 l hlt (j:=1+j) (by omega),sx,if_neg (by omega),if_pos (by omega),show 1+j-1=j by omega]
   have e2:Hid (∀j,j<4->(l.getD k .zero).e/2^(8*j)%256=(packed l).getD (9*k+5+j) 0):=by
    show∀j,_;intro j hj;rw[<-IntKind.wrap_u8,Nat.add_assoc,Pk7 l hlt (j:=5+j) (by omega),sx,if_neg (by omega),if_neg (by omega),show 5+j-5=j by omega]
   obtain⟨⟨D0,D1⟩,E0,E1⟩:=hbd;have HP:=ay hinv;have bV4:=hinv.lt;have h0c:=hinv.cell (i:=9*k) (by omega);obtain⟨u0,hu0⟩:=Option.isSome_iff_exists.1 h0c.1;have hz0:=h0c.2;have Qg:¬wr.heap.size=w.heap.size:=by omega
   have hn2:¬w.heap.size=wr.heap.size:=by omega
   clear hc hinv gy h0c;generalize(l.getD k .zero).id=x at*;generalize(l.getD k .zero).d=D at*;generalize(l.getD k .zero).e=E at*;have s9:IntKind.i64.wrap (9*(k:Int))=((9*k:Nat):Int):=by rw[cG];omega
   have s1:IntKind.i64.wrap (((9*k:Nat):Int)+1)=((9*k+1:Nat):Int):=by rw[cG];omega
   have YO:IntKind.i64.wrap (((9*k:Nat):Int)+9)=((9*k+9:Nat):Int):=by rw[cG];omega
   have i0':∀W,(Instr.index 73 (.agg #[.int .u64 D,.int .u64 E]) (.int .i64 0)).run dS W=.ok (.int .u64 D) W:=fun _=>by kernel_rfl
   have i1':∀W,(Instr.index 73 (.agg #[.int .u64 D,.int .u64 E]) (.int .i64 1)).run dS W=.ok (.int .u64 E) W:=fun _=>by kernel_rfl
   go_wp2_with fail
   go_loopw [6,41] (fun p i wr=>∃m:Nat,m<=2/\i=.int .i64 m/\p=.slice (some ⟨w.heap.size,9*k,none⟩) (1+4*m) 9/\rG l w (9*k+1+4*m) wr) (fun _ i _=>(2-intOf i).toNat)
   case atStart=>
    refine⟨0,by omega,rfl,by congr 1<;>omega,?_⟩;exact(HP.out.lay (by omega) e0.out).alloc _
   case round=>
    obtain⟨m,hm,rfl,rfl,hinv⟩:=hrel;have HP2:=ay hinv;clear hinv hu0 hz0;by_cases hm2:m<2
    ·have hX:Hid (∃X,(Value.int .u64 X=if m=0 then .int .u64 D else .int .u64 E)/\0<=X/\X<18446744073709551616/\∀j,j<4->X/2^(8*j)%256=(packed l).getD (9*k+1+4*m+j) 0):=by
      show∃X,_;have:m=0\/m=1:=by omega
      rcases this with rfl|rfl
      ·exact⟨D,by rw[if_pos rfl],D0,D1,e1.out⟩
      ·exact⟨E,by rw[if_neg (by omega)],E0,E1,e2.out⟩
     obtain⟨X,hXe,X0,X1,hXb⟩:=hX.out;have HXB:=ay hXb;have hidx:∀W,(Instr.index 73 (.agg #[.int .u64 D,.int .u64 E]) (.int .i64 m)).run dS W=.ok (.int .u64 X) W:=by
      intro W;have:m=0\/m=1:=by omega
      rcases this with rfl|rfl
      ·rw[if_pos rfl]at hXe;rw[hXe];exact i0' W
      ·rw[if_neg (by omega)]at hXe;rw[hXe];exact i1' W
     clear hXb hX hXe i0' i1' e1 e2 e0;go_wp2_with fail
     go_loopw [6,44] (fun p i wr=>∃j:Nat,j<=4/\i=.int .i64 j/\p=.slice (some ⟨w.heap.size,9*k,none⟩) (1+4*m+j) 9/\rG l w (9*k+1+4*m+j) wr) (fun _ i _=>(4-intOf i).toNat)
     case atStart=>exact⟨0,by omega,rfl,rfl,HP2.out⟩
     case round=>
      obtain⟨j,hj,rfl,rfl,hinv⟩:=hrel;have HP3:=ay hinv;clear hinv;by_cases hj4:j<4
      ·have s8:IntKind.i64.wrap (8*(j:Int))=8*(j:Int):=by rw[cG];omega
       have n8:(8*(j:Int)).toNat=8*j:=by omega
       have p8:(0:Int)<=8*(j:Int):=by omega
       have hce:=HP3.out.cell (i:=9*k+(1+4*m+j)) (by omega);obtain⟨u1,hu1⟩:=Option.isSome_iff_exists.1 hce.1;have hz3:=hce.2;have hn3:=HP3.out.lt;have hn4:¬w.heap.size=wr.heap.size:=by omega
       clear hce;go_wp2_with fail
       refine⟨⟨j+1,by omega,by go_num,by congr 1,?_⟩,by simp[intOf];omega⟩;rw[show 9*k+(1+4*m+j)=9*k+1+4*m+j by omega];exact(HP3.out.lay (by omega) (HXB.out j hj4)).alloc _
      ·obtain rfl:j=4:=by omega
       go_wp2_with fail
       refine⟨⟨m+1,by omega,by go_num,rfl,?_⟩,by simp[intOf];omega⟩;rw[show 9*k+1+4*(m+1)=9*k+1+4*m+4 by omega];exact HP3.out
    ·obtain rfl:m=2:=by omega
     go_wp2_with fail
     refine⟨⟨k+1,by omega,by go_num,?_⟩,by simp[intOf];omega⟩;rw[show 9*(k+1)=9*k+1+4*2 by omega];exact HP2.out
  ·obtain rfl:k=l.length:=by omega
   obtain⟨cs,hblk,hpre,gy⟩:=hinv;have hcv:=run_convert_bytes_arg (P:=dS) wr 72 5 Try.underlying72 Try.underlying5 w.heap.size 0 (9*l.length) (9*l.length) (packed l) (mN l)
    (fun i hi=>by rw[Nat.zero_add,hblk.cell i];exact hpre.2 i hi) 9 Try.underlying9
   go_wp2_with fail
   go_ret
   exact⟨rfl,gy⟩
end Pak
namespace Unp
open Go.RowKit Pl nU Mem Upl nO
def CK(s:ByteArray):Nat->Int
 |0=>0
 |k+1=>(piece s k).id
def strSize:af->Nat
 |.string t=>t.size
 |_=>0
def aZ9(s:ByteArray)(w:ae)(x v l:af)(wr:ae):Prop:=
 ∃(k:Nat) (t:ByteArray),x=.string t/\Mm s k t/\mP s k=0/\l=.int .i64 (CK s k)/\wr.ownsRow w.heap.size 52 3 v k (eO (pieces s k))/\Below w.heap.size w wr
def DI(s:ByteArray)(w:ae)(e:Ending)(w':ae):Prop:=
 Below w.heap.size w w'/\
 ((QY s≠0/\e=.returned (.tuple #[.slice none 0 0,.int .i64 (QY s)]))\/
  (QY s=0/\∃v,e=.returned (.tuple #[v,.int .i64 0])/\lU w' w'.heap.size v (pieces s (s.size/9))))
theorem CX:(Try.prog.info? 52).map (fun i=>(i.zero,i.size,i.bytes))=some (some (.agg #[.int .i64 0,.int .u64 0,.int .u64 0]),3,24):=by kernel_rfl
theorem ME(s:ByteArray)(w:ae)(hs:s.size<=maxLen):
  Calls dS 21 #[.string s] w (DI s w):=by
 unfold maxLen at hs;by_cases c1:s.size%9=0;case neg=>
  have hE:=ay (MD s (fun h=>c1 h.1));have t1:(((s.size:Int)%9) != 0)=true:=by rw[bne_iff_ne];omega
  go_enter Try.func21,Try.ntmps21
  go_wp2_with fail
  go_ret2
  exact⟨Below.refl _ _,.inl ⟨by rw[hE.out];omega,by rw[hE.out];rfl⟩⟩
 have t1:(((s.size:Int)%9) != 0)=false:=by rw[bne_eq_false_iff_eq];omega
 by_cases c2:81<s.size;case pos=>
  have hE:=ay (MD s (fun h=>by omega));clear c1;go_enter Try.func21,Try.ntmps21
  go_wp2_with fail
  go_ret2
  exact⟨Below.refl _ _,.inl ⟨by rw[hE.out];omega,by rw[hE.out];rfl⟩⟩
 have C1:=ay c1;clear c1;obtain⟨i0,hi,hz0,hz1,hz2⟩:=info_parts CX;go_enter Try.func21,Try.ntmps21
 go_wp2_with fail
 go_loopw [0,4,5] (fun x v l wr=>aZ9 s w x v l wr) (fun x _ _ _=>strSize x)
 case atStart=>exact⟨0,s,rfl,Mm.zero s,rfl,rfl,World.ownsRow_nil _ _ _ _,Below.refl _ _⟩
 case round=>
  obtain⟨k,t,rfl,Te,aS0,rfl,hown,gy⟩:=hrel;have HT:=ay Te;have HE:=ay aS0;have HO:=ay hown;have hsz:=Te.1;clear Te aS0 hown;by_cases h0:t.size=0
  ·have hl:t.toList=[]:=by
    rw[ByteArray.toList_eq];exact List.eq_nil_of_length_eq_zero (by rw[Array.length_toList];exact h0)
   have hk:9*k=s.size:=by omega
   have HU:=ay (Rw s C1.out (by omega) hk HE.out);have hk9:Hid (s.size/9=k):=by
    show s.size/9=k;omega
   have hcm:=lU.own (l:=pieces s k) (by rw[wu];exact HO.out);have HCM:=ay hcm;clear hcm hk;go_wp2_with fail
   go_ret2
   exact⟨gy,.inr ⟨HU.out,_,rfl,by rw[hk9.out];exact HCM.out⟩⟩
  ·have h9:9<=t.size:=by have:=C1.out;omega
   have hl:t.toList.isEmpty=false:=by
    rw[ByteArray.toList_eq];cases h:t.data.toList with
    |nil=>exact absurd (show t.data.size=0 by rw[<-Array.length_toList,h];rfl) h0
    |cons a l=>rfl
   have hb0:((t[0]'(by omega)).toNat:Int)=gu s (9*k):=by rw[xo,HT.out.2,Nat.add_zero]
   have bd0:=rC s (9*k);obtain⟨wo,rfl⟩:∃wo:ae,wo=wr:=⟨_,rfl⟩;clear h0;go_wp2_with fail
   go_loopw [29] (fun i wr=>∃j:Nat,j<=4/\i=.int .i64 j/\fF wr wo.heap.size 52 #[.int .i64 (gu s (9*k)),.int .u64 (num s (9*k+1) j),.int .u64 (num s (9*k+5) j)]/\Below wo.heap.size wo wr) (fun i _=>(4-intOf i).toNat)
   case atStart=>exact⟨0,by omega,rfl,by first|exact fF.new _ _ _|simpa [num]using fF.new wo 52 #[.int .i64 (gu s (9*k)),.int .u64 0,.int .u64 0],eD _ _⟩
   case round=>
    obtain⟨j,hj,rfl,hblk,kj⟩:=hrel;have hc1:wr.cell? ⟨wo.heap.size,1,none⟩=some (.int .u64 (num s (9*k+1) j)):=hblk.cell 1;have hc2:wr.cell? ⟨wo.heap.size,2,none⟩=some (.int .u64 (num s (9*k+5) j)):=hblk.cell 2;have Qi:=hblk.frozen 1;have hf2:=hblk.frozen 2;by_cases hj4:j<4
    ·have hb1:((t[1+j]'(by omega)).toNat:Int)=gu s (9*k+1+j):=by rw[xo,HT.out.2,Nat.add_assoc]
     have xB:((t[5+j]'(by omega)).toNat:Int)=gu s (9*k+5+j):=by rw[xo,HT.out.2,Nat.add_assoc]
     have bd1:=rC s (9*k+1+j);have bd5:=rC s (9*k+5+j);have s1:IntKind.i64.wrap (1+(j:Int))=1+(j:Int):=by rw[cG];omega
     have s5:IntKind.i64.wrap (5+(j:Int))=5+(j:Int):=by rw[cG];omega
     have s8:IntKind.i64.wrap (8*(j:Int))=8*(j:Int):=by rw[cG];omega
     have n1:(1+(j:Int)).toNat=1+j:=by omega
     have n5:(5+(j:Int)).toNat=5+j:=by omega
     have n8:(8*(j:Int)).toNat=8*j:=by omega
     have p1:(0:Int)<=1+(j:Int):=by omega
     have p5:(0:Int)<=5+(j:Int):=by omega
     have p8:(0:Int)<=8*(j:Int):=by omega
     have q1:1+(j:Int)<(t.size:Int):=by omega
     have q5:5+(j:Int)<(t.size:Int):=by omega
     have q8:8*(j:Int)<=64:=by omega
     have v1:Hid (bits BinOp.or IntKind.u64 (num s (9*k+1) j) (IntKind.u64.wrap (gu s (9*k+1+j)*2^(8*j)))=num s (9*k+1) (j+1)):=by
      show bits BinOp.or IntKind.u64 (num s (9*k+1) j) _=_;exact M6 s _ j hj4
     have v5:Hid (bits BinOp.or IntKind.u64 (num s (9*k+5) j) (IntKind.u64.wrap (gu s (9*k+5+j)*2^(8*j)))=num s (9*k+5) (j+1)):=by
      show bits BinOp.or IntKind.u64 (num s (9*k+5) j) _=_;exact M6 s _ j hj4
     go_wp2_with fail
     go_region
     all_goals
      go_wp2_with fail
      go_region
      all_goals
       go_wp2_with fail
       refine⟨⟨j+1,by omega,by go_num,?_,?_⟩,by simp[intOf];omega⟩;case refine_2=>
        have hq:∀x y:af,Below wo.heap.size wo ((wr.setCell ⟨wo.heap.size,1,none⟩ x).setCell ⟨wo.heap.size,2,none⟩ y):=fun x y=>(kj.setCell (p:=⟨wo.heap.size,1,none⟩) nle x).setCell (p:=⟨wo.heap.size,2,none⟩) nle y;first|exact hq _ _|exact below_drewN (hq _ _) 2|exact((hq _ _).drew).drew
       rw[v1.out,v5.out];exact(hblk.iK 1 (.int .u64 (num s (9*k+1) (j+1)))).iK 2 (.int .u64 (num s (9*k+5) (j+1)))
    ·obtain rfl:j=4:=by omega
     have zm:=gy.trans (kj.mono gy.size);have hOF:=iR HO.out kj nle;have HOF:=ay hOF;have bdd:=M9 s (9*k+1);have bde:=M9 s (9*k+5);have hc0:wr.cell? ⟨wo.heap.size,0,none⟩=some (.int .i64 (gu s (9*k))):=hblk.cell 0;have eAt:Hid (KZ s k=if gu s (9*k)<1\/9<gu s (9*k)then 5 else if 0<k/\gu s (9*k)<=(piece s (k-1)).id then 6
      else if iH (num s (9*k+1) 4)=false\/iH (num s (9*k+5) 4)=false then 3 else 0):=by
      show KZ s k=_;rfl
     have ePc:Hid (piece s k=⟨gu s (9*k),num s (9*k+1) 4,num s (9*k+5) 4⟩):=by
      show piece s k=_;rfl
     have fin:∀x:Int,KZ s k=x->x≠0->Hid (QY s=x):=fun x hx hn=>ac1 s C1.out (by omega) (by omega) HE.out hx hn;have FIN:=ay fin;have hlast:Hid (CK s k=if 0<k then(piece s (k-1)).id else 0):=by
      show CK s k=_;cases k with
      |zero=>rfl
      |succ k=>rfl
     clear fin hOF hb0;generalize gu s (9*k)=x at*;generalize num s (9*k+1) 4=D at*;generalize num s (9*k+5) 4=E at*;generalize hLL:CK s k=L at*;have HLL:=ay hLL;clear hLL;obtain⟨D0,D1⟩:=bdd;obtain⟨E0,E1'⟩:=bde;by_cases d1:x<1\/9<x;case pos=>
      have hF:=FIN.out 5 (by rw[eAt.out,if_pos d1]) (by omega);rcases d1 with d1|d1
      ·go_wp2_with fail
       go_ret2
       exact⟨zm,.inl ⟨by rw[hF.out];omega,by rw[hF.out];rfl⟩⟩
      ·have d2:¬x<1:=by omega
       go_wp2_with fail
       go_ret2
       exact⟨zm,.inl ⟨by rw[hF.out];omega,by rw[hF.out];rfl⟩⟩
     have d2:¬x<1:=by omega
     have d3:¬9<x:=by omega
     have ZE:x<=L↔(0<k/\x<=(piece s (k-1)).id):=by
      rw[hlast.out];by_cases h:0<k
      ·rw[if_pos h];exact⟨fun h'=>⟨h,h'⟩,fun h'=>h'.2⟩
      ·rw[if_neg h];exact⟨fun h'=>by omega,fun h'=>absurd h'.1 h⟩
     have HLI:=ay ZE;clear ZE;by_cases d4:x<=L;case pos=>
      have hF:=FIN.out 6 (by rw[eAt.out,if_neg d1,if_pos (HLI.out.1 d4)]) (by omega);clear d1;go_wp2_with fail
      go_ret2
      exact⟨zm,.inl ⟨by rw[hF.out];omega,by rw[hF.out];rfl⟩⟩
     have e3:KZ s k=if iH D=false\/iH E=false then 3 else 0:=by rw[eAt.out,if_neg d1,if_neg (fun h=>d4 (HLI.out.2 h))]
     have aW7:(iH D=false\/iH E=false)->Hid (QY s=3):=fun h=>FIN.out 3 (by rw[e3,if_pos h]) (by omega);have Yx:=ay aW7;have E3:=ay e3;clear d1 e3 aW7;have i0':∀W,(Instr.index 73 (.agg #[.int .u64 D,.int .u64 E]) (.int .i64 0)).run dS W=.ok (.int .u64 D) W:=fun _=>by kernel_rfl
     have i1':∀W,(Instr.index 73 (.agg #[.int .u64 D,.int .u64 E]) (.int .i64 1)).run dS W=.ok (.int .u64 E) W:=fun _=>by kernel_rfl
     go_wp2_with fail
     go_loop [76] (fun i=>(i=.int .i64 0)\/(i=.int .i64 1/\Hid (iH D=true))\/(i=.int .i64 2/\Hid (iH D=true)/\Hid (iH E=true))) (fun i=>(2-intOf i).toNat)
     case atStart=>exact .inl rfl
     case round=>
      rcases hrel with rfl|⟨rfl,hD⟩|⟨rfl,hD,hEE⟩
      ·skip
       obtain⟨b1,e1⟩:∃b,jQ D=b:=⟨_,rfl⟩;obtain⟨b2,e2⟩:∃b,(D==1)=b:=⟨_,rfl⟩;have E1:=ay e1;clear e1;cases b1;case false=>
        have hF:=Yx.out (.inl (by unfold iH;rw[E1.out];rfl));cases b2;all_goals
         go_wp2_with (go_at_call 47;refine(m7 _ D _ (by omega) E1.out).mono ?_;rintro e w' ⟨rfl,rfl⟩)
         go_ret2
         exact⟨zm,.inl ⟨by rw[hF.out];omega,by rw[hF.out];rfl⟩⟩
       cases b2;case true=>
        have hF:=Yx.out (.inl (by unfold iH;rw[beq_iff_eq]at e2;rw[e2];simp));go_wp2_with (go_at_call 47;refine(m7 _ D _ (by omega) E1.out).mono ?_;rintro e w' ⟨rfl,rfl⟩)
        go_ret2
        exact⟨zm,.inl ⟨by rw[hF.out];omega,by rw[hF.out];rfl⟩⟩
       have lK:iH D=true:=by unfold iH;rw[E1.out];rw[beq_eq_false_iff_ne]at e2;simp[e2]
       have HG:=ay lK;clear lK;go_wp2_with (go_at_call 47;refine(m7 _ D _ (by omega) E1.out).mono ?_;rintro e w' ⟨rfl,rfl⟩)
       refine⟨.inr (.inl ⟨rfl,HG⟩),by simp[intOf]⟩
      ·skip
       obtain⟨b1,e1⟩:∃b,jQ E=b:=⟨_,rfl⟩;obtain⟨b2,e2⟩:∃b,(E==1)=b:=⟨_,rfl⟩;have E1:=ay e1;clear e1;cases b1;case false=>
        have hF:=Yx.out (.inr (by unfold iH;rw[E1.out];rfl));cases b2;all_goals
         go_wp2_with (go_at_call 47;refine(m7 _ E _ (by omega) E1.out).mono ?_;rintro e w' ⟨rfl,rfl⟩)
         go_ret2
         exact⟨zm,.inl ⟨by rw[hF.out];omega,by rw[hF.out];rfl⟩⟩
       cases b2;case true=>
        have hF:=Yx.out (.inr (by unfold iH;rw[beq_iff_eq]at e2;rw[e2];simp));go_wp2_with (go_at_call 47;refine(m7 _ E _ (by omega) E1.out).mono ?_;rintro e w' ⟨rfl,rfl⟩)
        go_ret2
        exact⟨zm,.inl ⟨by rw[hF.out];omega,by rw[hF.out];rfl⟩⟩
       have lK:iH E=true:=by unfold iH;rw[E1.out];rw[beq_eq_false_iff_ne]at e2;simp[e2]
       have HG:=ay lK;clear lK;go_wp2_with (go_at_call 47;refine(m7 _ E _ (by omega) E1.out).mono ?_;rintro e w' ⟨rfl,rfl⟩)
       refine⟨.inr (.inr ⟨rfl,hD,HG⟩),by simp[intOf]⟩
      ·have hst:Hid (mP s (k+1)=0):=by
        show mP s (k+1)=0;rw[mP,if_pos HE.out,E3.out,if_neg];rintro (h|h)
        ·rw[hD.out]at h;cases h
        ·rw[hEE.out]at h;cases h
       have hlt:=hblk.lt;have h81:k<=9:=by omega
       have T9:=ay (HT.out.next h9);have q9:(9:Int)<=(t.size:Int):=by omega
       go_wp2_with (at_builtin;refine wpList_append_own _ rfl (.tmp 93) (.tmp 95) _ rfl w.heap.size 52 i0 (.agg #[.int .i64 0,.int .u64 0,.int .u64 0]) 3 24 Try.underlying26 hi hz0 hz1 hz2 rfl (by decide) _ _ _ rfl (HOF.out.alloc _) ⟨wr.heap.size,0,none⟩ 1 1 [.int .i64 x,.int .u64 D,.int .u64 E] rfl rfl (World.news_of_block (heap_alloc_new _ _)) (by simp[Value.oneCell']) (by unfold maxLen;omega) (by omega) (by have:=zm.size;simp<;>omega) ?_;intro v1 w1 hown1 hgrow1 _)
       have xb:=gV zm HOF.out zm.size hgrow1;have XH:w1.ownsRow w.heap.size 52 3 v1 (k+1) (eO (pieces s (k+1))):=by
        rw[IJ,tL,ePc.out,yA];exact hown1
       have hL1:x=CK s (k+1):=by
        show x=(piece s k).id;rw[ePc.out]
       have QS:=ay XH;have HL1:=ay hL1;clear hown1 hgrow1 XH hL1;go_wp2_with fail
       refine⟨⟨k+1,_,rfl,T9.out,hst.out,by rw[HL1.out],QS.out,xb⟩,?_⟩;simp[strSize];omega
end Unp
namespace Hon
open Go.RowKit Pl ni oa ng nU Mem yL nO Cc Ppl Upl Bla
open Pak (YQ)
open Unp (ME DI)
noncomputable def GG:Code:=(iw 5 mg).2
noncomputable def GF:Code:=match GG with|.seq _ b=>b|_=>.skip
noncomputable def zk:Code:=match GF with|.seq _ b=>b|_=>.skip
theorem Xr{w:ae}{cs:List Int}{l:List Cm}{msg:ByteArray}{A1 A:Option Addr}{c1 c gb b9 L:Nat}{vC:af}{R Z:Int}{z:Nat->af}(z5:z 5=.string msg)(z13:z 13=.pointer (some ⟨gb,0,none⟩))(z17:z 17=vC)(z20:z 20=.pointer (some ⟨b9,0,none⟩))(hL:L=0)(z21:z 21=.slice A L c)(z22:z 22=.int .i64 0)
  (rH:msg.size<=1000000)(g2:w.cell? ⟨gb,2,none⟩=some (.slice A1 cs.length c1))(hv:gA .u64 w w.heap.size (.slice A1 cs.length c1) cs)(hcl:0<cs.length)(hk:0<=cs.getD 0 0/\cs.getD 0 0<18446744073709551616)(s0:w.cell? ⟨b9,0,none⟩=some (.int .u64 R))(s1:w.cell? ⟨b9,1,none⟩=some (.int .u64 Z))(hR:0<=R/\R<18446744073709551616)(hZ:0<=Z/\Z<18446744073709551616)
  (hC:lU w w.heap.size vC l)(wE:l.length<=9)(hid:∀k,k<l.length->1<=(l.getD k .zero).id/\(l.getD k .zero).id<=9)(hr:∀k,0<k->k<l.length->(l.getD (k-1) .zero).id<(l.getD k .zero).id)(hnc:∀k,k<l.length->iH (l.getD k .zero).d=true/\iH (l.getD k .zero).e=true)
  (zj:nC (cs.getD 0 0) msg R Z=true):
  zk.wp dS (fun e a w=>match e with|.ret=>a.defers=[]/\a.tmps[12]?=some (.bool true)|_=>False) ⟨oU z,[]⟩ w:=by
 obtain⟨A2,c2,rfl⟩:=hC.shape;obtain⟨bk,ok,rfl,hbk,yt⟩:=Sgd.AH hv hcl;have Ob:=yt 0 hcl;rw[Nat.add_zero]at Ob;have hkl:(0:Int)<(cs.length:Int):=by omega
 have hLt:((L:Int) != 0)=false:=by rw[bne_eq_false_iff_eq];omega
 have HVF:=ay fun W=>MB (cs.getD 0 0) msg R Z W rH hk hR hZ;rw[zj]at HVF;have hup:=unpack_pack wE hid hr hnc;have hps:(strOfNums (packed l)).size=9*l.length:=by rw[strOfNums_size,mN]
 have HPK:=ay fun(W:ae) (h:lU W W.heap.size (.slice A2 l.length c2) l)=>YQ l _ W h (by omega) (fun i hi=>by have:=rW (hnc i hi).1;have:=rW (hnc i hi).2;omega);have HUP:=ay fun(W:ae)=>ME (strOfNums (packed l)) W (by unfold maxLen;omega);have HUE:=ay hup;have HC:=ay hC;have hne:((l.length:Int) != (l.length:Int))=false:=by rw[bne_eq_false_iff_eq]
 clear hv yt hk hR hZ zj hL hup hps hC hid hr hnc;generalize cs.getD 0 0=KEY at*;simp only[zk,GF,GG,mg,iw,Try.f7,aJ,oU,z5,z13,z17,z20,z21,z22];have lg:=bZ w _ g2;have lb:=bZ w _ Ob;have l9:=bZ w _ s0;have l9':=bZ w _ s1;go_upto_region 10 with fail
 go_region_held3 (fun w'=>(w'.cell? ⟨gb,2,none⟩=some (.slice (some ⟨bk,ok,none⟩) cs.length c1)/\w'.cell? ⟨bk,ok,none⟩=some (.int .u64 KEY))/\(w'.cell? ⟨b9,0,none⟩=some (.int .u64 R)/\w'.cell? ⟨b9,1,none⟩=some (.int .u64 Z)))
  (first|go_keep|(exact⟨⟨(hb'.cell (p:=⟨gb,2,none⟩) lg).trans g2,(hb'.cell (p:=⟨bk,ok,none⟩) lb).trans Ob⟩,(hb'.cell (p:=⟨b9,0,none⟩) l9).trans s0,(hb'.cell (p:=⟨b9,1,none⟩) l9').trans s1⟩))
  (first|(go_at_call 28;refine(HVF.out _).mono ?_;rintro e w' ⟨rfl,hb'⟩))
 all_goals
  have HC1:=ay (HC.out.later ((bre.drew).trans hb'));clear hb' g2 Ob s0 s1 lg lb l9 l9' HC HVF;go_wp2_with fail
  refine(HPK.out _ HC1.out).mono ?_;rintro e w2 ⟨rfl,hb2⟩;have HC2:=ay (HC1.out.later hb2);clear hb2 HC1;go_wp2_with fail
  refine(HUP.out _).mono ?_;rintro e w3 ⟨hb3,hres⟩;obtain⟨v,rfl,hC3⟩:∃v,e=.returned (.tuple #[v,.int .i64 0])/\lU w3 w3.heap.size v l:=by
   rcases hres with⟨h1,-⟩|⟨-,v,h1,h2⟩
   ·exact absurd HUE.out.1 h1
   ·rw[HUE.out.2]at h2;exact⟨v,h1,h2⟩
  obtain⟨A3,c3,rfl⟩:=hC3.shape;have HC3:=ay hC3;have HC4:=ay (HC2.out.later hb3);clear hres hb3 hC3 HC2 HUE HUP HPK;go_wp2_with fail
  go_loopw [103] (fun i wr=>∃j m:Nat,j<=l.length/\i=.int .i64 j/\wr=w3.drewN m) (fun i _=>l.length-(intOf i).toNat)
  case atStart=>exact⟨0,0,by omega,rfl,rfl⟩
  case round=>
   obtain⟨j,m,hj,rfl,rfl⟩:=hrel;by_cases hlt:j<l.length
   ·obtain⟨b,off,rfl,hb,hc⟩:=HC3.out.at_ (by omega);obtain⟨b2,Lr,rfl,hb2,hc2⟩:=HC4.out.at_ (by omega);obtain⟨x0,x1,x2⟩:=hc j hlt;obtain⟨y0,y1,y2⟩:=hc2 j hlt;clear hc hc2;generalize(l.getD j .zero).id=p at*;generalize(l.getD j .zero).d=q at*;generalize(l.getD j .zero).e=r at*;have z0:(p==p)=true:=by rw[beq_iff_eq]
    have z1:(q==q)=true:=by rw[beq_iff_eq]
    have z2:(r==r)=true:=by rw[beq_iff_eq]
    go_wp2_with fail
    go_quiet (fail)
    go_wp2_with fail
    exact⟨⟨j+1,_,by omega,by go_num,rfl⟩,by simp[intOf];omega⟩
   ·obtain rfl:j=l.length:=by omega
    go_wp2_with fail
end Hon
namespace Cc
open Go.Conc Go.RowKit
def aT9:List ak:=[28,41,42,59,65,68,47,89,121,16,21]
def hS(f:ak):Bool:=aT9.contains f
theorem aU0:nP dS hS:=by
 intro f hf;unfold hS aT9 at hf;simp only[List.contains_cons,List.contains_nil,Bool.or_false,Bool.or_eq_true,beq_iff_eq]at hf;rcases hf with rfl|rfl|rfl|rfl|rfl|rfl|rfl|rfl|rfl|rfl|rfl
 ·exact⟨_,_,Try.func28,rfl,by kernel_rfl,by kernel_rfl⟩
 ·exact⟨_,_,Try.func41,rfl,by kernel_rfl,by kernel_rfl⟩
 ·exact⟨_,_,Try.func42,rfl,by kernel_rfl,by kernel_rfl⟩
 ·exact⟨_,_,Try.func59,rfl,by kernel_rfl,by kernel_rfl⟩
 ·exact⟨_,_,Try.func65,rfl,by kernel_rfl,by kernel_rfl⟩
 ·exact⟨_,_,Try.func68,rfl,by kernel_rfl,by kernel_rfl⟩
 ·exact⟨_,_,Try.func47,rfl,by kernel_rfl,by kernel_rfl⟩
 ·exact⟨_,_,Try.func89,rfl,by kernel_rfl,by kernel_rfl⟩
 ·exact⟨_,_,Try.func121,rfl,by kernel_rfl,by kernel_rfl⟩
 ·exact⟨_,_,Try.func16,rfl,by kernel_rfl,by kernel_rfl⟩
 ·exact⟨_,_,Try.func21,rfl,by kernel_rfl,by kernel_rfl⟩
end Cc
namespace Cc
open Go.Conc Go.ConcN Go.ConcM Go.RowKit Go.Conc.Lib Go.ConcR.Gen
open Go.ConcR (KK wgBlock WgAt stA smA rd wr mk DC0)
open Pl ni oa ng Mem nO Au yL Hw KT ED Rag
open nU hiding base
open Bla Hon
noncomputable def aP3:Code:=match GF with|.seq a _=>a|_=>.skip
theorem Qf:codeOk dS hS Ak zk=true:=by kernel_rfl
theorem LN:Try.f7.results=#[.tmp 12]:=by kernel_rfl
section
variable{q:iU}(hP:q.P=dS){t n:Int}{cs zs:List Int}{l:List Cm}{msg:ByteArray}{A1 A2 A3:Option Addr}{c1 c2 c3:Nat}
include hP
theorem Xt{st:St eH}{num gb b9:Nat}{K:List (Nat×Obj)}(hA:kH 0 num K st)(hI:Inv q st)(hg0:q.P.globals.size=0)(h1:lO K .u64 A1 c1 cs)(h2:yI K A2 c2 l)(rH:msg.size<=1000000)(wE:l.length<=9)(hid:∀k,k<l.length->1<=(l.getD k .zero).id/\(l.getD k .zero).id<=9)(hr:∀k,0<k->k<l.length->(l.getD (k-1) .zero).id<(l.getD k .zero).id)(hnc:∀k,k<l.length->iH (l.getD k .zero).d=true/\iH (l.getD k .zero).e=true)(hcl:0<cs.length)(hk:0<=cs.getD 0 0/\cs.getD 0 0<18446744073709551616)
  (hK4:(gb,.cells #[.int .i64 t,.int .i64 n,.slice A1 cs.length c1] 31 (0,0))∈K){A:Option Addr}{c:Nat}{an:VN}(hK9:(b9,.cells #[.int .u64 an.r,.int .u64 an.z] 47 (0,0))∈K)(Tt:lO K .i64 A c an.ids)(hR:0<=an.r/\an.r<18446744073709551616)(hZ:0<=an.z/\an.z<18446744073709551616)
  (he:an.e=0)(LO:an.ids=[])(zj:nC (cs.getD 0 0) msg an.r an.z=true)
  {T:Array af}(hT:T.size=116)(t5:T[5]?=some (.string msg))(t13:T[13]?=some (.pointer (some ⟨gb,0,none⟩)))(t17:T[17]?=some (.slice A2 l.length c2))(t20:T[20]?=some (.pointer (some ⟨b9,0,none⟩)))(t21:T[21]?=some (.slice A an.ids.length c))(t22:T[22]?=some (.int .i64 an.e))
  (fin:∀dV,kH 0 num K dV->Inv q dV->q.Post (.bool true) dV.w):
  TT (cfg q) 0 (TW (cfg q)) (G ((base 7).at ⟨T,[]⟩ [.code zk]) []) st:=by
 have yq:=hA.MQ hg0;have hfn:Try.prog.funcs[(base 7).fn]?=some Try.f7:=Try.func7;have hil:an.ids.length=0:=by rw[LO];rfl
 refine TT.piece (S:=hS) (Ds:=Ak) (X:=fun _=>False) (N:=fun _ _=>False) (R:=fun a w=>a.tmps[12]?=some (.bool true)) hP aU0 hI Qf rfl (fun fn h=>wO fn h) (Φ:=fun a w=>(∃z,a=⟨oU z,[]⟩/\z 5=.string msg/\z 13=.pointer (some ⟨gb,0,none⟩)/\z 17=.slice A2 l.length c2/\z 20=.pointer (some ⟨b9,0,none⟩)/\z 21=.slice A an.ids.length c/\z 22=.int .i64 an.e)/\∃τ d,w=World.on (kA hS st.w (Cc.vh K)) τ d) (ro:=tQ (Cc.vh K)) (fK:=st)
  (Sh.Zc yq hI ⟨?_,st.w.tape,st.w.drawn,rfl⟩) ?_ ?_ ?_
 ·obtain⟨z,hz1,hz2⟩:=B6 (T.map (MP hS (Cc.vh K))) (by rw[Array.size_map];exact hT);refine⟨z,by rw[hz1],hz2 _ _ (kX t5 (.string _)),hz2 _ _ (kX t13 (.ptr _ _ (iP (hA.vh hK4)))),hz2 _ _ (kX t17 (h2.2.1.vr hA _ _)),hz2 _ _ (kX t20 (.ptr _ _ (iP (hA.vh hK9)))),hz2 _ _ (kX t21 (Tt.2.1.vr hA _ _)),hz2 _ _ (kX t22 (.int _ _))⟩
 ·rintro a w τ d ⟨⟨z,rfl,z5,z13,z17,z20,z21,z22⟩,FM,d',rfl⟩;rw[he]at z22;refine Code.wp_mono ?_ (Xr (w:=World.on (kA hS st.w (Cc.vh K)) τ d) z5 z13 z17 z20 hil z21 z22 rH (hA.Ab hK4 rfl (h1.2.1.vr hA _ _)) (h1.nums hA) hcl hk (hA.Ab hK9 rfl (.int _ _)) (hA.Ab hK9 rfl (.int _ _)) hR hZ (h2.ja hA) wE hid hr hnc zj);intro e a w h;cases e with
  |ret=>exact .inr ⟨rfl,h.1,h.2⟩
  |_=>exact h.elim
 ·rintro a2 st' ⟨_,_,_,_,_,_,_,_,_,_,_,hF⟩;exact hF.elim
 ·intro a2 st' todo hs;exact TT.bottom (Ds:=Ak) hP rfl hfn (by kernel_rfl) LN rfl hs hA (fun _ _ _ h=>h) fun dV k1 k2=>fin dV k1 k2
theorem ao6{st:St eH}{num gb:Nat}{K:List (Nat×Obj)}(hA:kH 0 num K st)(hI:Inv q st)(hg0:q.P.globals.size=0)(hG:q.tG=137)(hZ:q.tZ=76)(hR:q.tR=4)(hW:q.tW=116)
  (h1:lO K .u64 A1 c1 cs)(h2:yI K A2 c2 l)(h3:lO K .u64 A3 c3 zs)(hcb:∀i,i<cs.length->0<=cs.getD i 0)(hb:∀i,i<l.length->0<=(l.getD i .zero).d/\0<=(l.getD i .zero).e)(hzb:∀k,k<zs.length->0<=zs.getD k 0/\zs.getD k 0<18446744073709551616)
  (rH:msg.size<=1000000)(wE:l.length<=9)(hid:∀k,k<l.length->1<=(l.getD k .zero).id/\(l.getD k .zero).id<=9)(hr:∀k,0<k->k<l.length->(l.getD (k-1) .zero).id<(l.getD k .zero).id)(hnc:∀k,k<l.length->iH (l.getD k .zero).d=true/\iH (l.getD k .zero).e=true)(JM:0<cs.length)(hk:0<=cs.getD 0 0/\cs.getD 0 0<18446744073709551616)(hcl:cs.length<=65536)(hll:l.length<=65536)(hzl:zs.length<=65536)(hK4:(gb,.cells #[.int .i64 t,.int .i64 n,.slice A1 cs.length c1] 31 (0,0))∈K)
  {an:VN}(han:rF t n cs l msg zs (fun k=>iB (zs.getD k 0) (jR (gI l (cs.getD 0 0) msg) (cs.getD 0 0) msg) cs l msg k)=an)(VG:0<=an.r/\an.r<18446744073709551616)(TP:0<=an.z/\an.z<18446744073709551616)
  (he:an.e=0)(LO:an.ids=[])(zj:nC (cs.getD 0 0) msg an.r an.z=true)
  {y:Nat->af}(y5:y 5=.string msg)(y13:y 13=.pointer (some ⟨gb,0,none⟩))(y17:y 17=.slice A2 l.length c2)(y18:y 18=.slice A3 zs.length c3)
  (fin:∀dV Ls K2,kH 0 Ls K2 dV->(∀b o,(b,o)∈K->(b,o)∈K2)->Inv q dV->q.Post (.bool true) dV.w):
  TT (cfg q) 0 (TW (cfg q)) (G ((base 7).at ⟨oU y,[]⟩ [.code GF]) []) st:=by
 have e2:GF=.seq aP3 zk:=rfl;obtain⟨AT,GL⟩:∃AT,AT=zk:=⟨_,rfl⟩;rw[e2,<-GL];have QV:=ay GL;have hd2:∀L c A,(∀a,Value.slice A L c≠ .agg a)/\∀a,Value.slice A L c≠ .tuple a:=fun L c A=>⟨fun a e=>(by cases e),fun a e=>(by cases e)⟩;clear GL e2;simp only[aP3,GF,GG,mg,iw,Try.f7,aJ,oU,y5,y13,y17,y18];refine TT.oX hP 40 fun w₀ hF=>?_;repeat w_go ib
 refine stp rfl ?_;clear hF w₀;refine TT.RL hP hA (bl:=gb) (off:=0) (v:=.agg #[.int .i64 t,.int .i64 n,.slice A1 cs.length c1]) rfl rfl (by k_ne) rfl (by simp[aU]) hK4 (fun w hw=>N4 t n _ (hd2 _ _ _) w hw) fun dZ eu eN _=>?_;clear hA hI hd2;walk_nrm;refine TT.oX hP 40 fun w₀ hF=>?_;repeat w_go ib
 refine stp rfl ?_;clear hF w₀;refine TT.YN hP (f:=27) (args:=#[.agg #[.int .i64 t,.int .i64 n,.slice A1 cs.length c1],.string msg,.slice A2 l.length c2,.slice A3 zs.length c3]) rfl rfl (by k_ne) (fun w=>?_) (fun w=>?_) ?_
 ·unfold ax;simp[resolve,cI,invoke,callFunc,Try.func27,Try.f27,aU]
 ·unfold ax;simp[resolve,cI,invoke,callFunc,Try.func27,Try.f27,aU]
 have yq:=eu.MQ hg0;refine aa0 hP eu eN hG hZ hR hW (md:=Cc.vh K) (sw:=kA aS dZ.w (Cc.vh K)) (mC ..) yq.lt (fun k1 k2 k3 k4=>Sh.S5 yq eN k1 k2 k3 k4) (S7 eu h1.2.1 h2.2.1 h3.2.1) (h1.nums eu) hcb hcl (h2.ja eu) hll hb hzl rH (h3.sh eu) h3.1 hzb fun v fw TN fu=>?_;obtain⟨A,c,num',K',rfl,eK,Tf,Tt⟩:=DG (fun k hk=>(hzb k hk).1) TN;rw[han]at Tt ⊢;have HAN:=ay han;clear TN han yq eu eN;simp only[VN.val];have HNK:=ay Tt;clear Tt;obtain⟨R,hRe⟩:∃R,R=an.r:=⟨_,rfl⟩;obtain⟨Z,hZe⟩:∃Z,Z=an.z:=⟨_,rfl⟩;obtain⟨E,hEe⟩:∃E,E=an.e:=⟨_,rfl⟩;obtain⟨I,uS⟩:∃I,I=an.ids.length:=⟨_,rfl⟩;rw[<-hRe,<-hZe,<-hEe,<-uS];have HRe:=ay hRe;have HZe:=ay hZe;have HEe:=ay hEe;have HIe:=ay uS;clear hRe hZe hEe uS;rw[Frame.finish_at];walk_nrm;refine TT.oX hP 60 fun w₀ hF=>?_;repeat w_go ib
 refine stp rfl ?_;clear hF w₀;refine TT.RO hP eK rfl rfl (by k_ne) rfl (fun w=>OT w) fun fI b9 eF fO E9 uP uM _=>?_;walk_nrm;refine TT.MH hP eF (K':=(b9,.cells #[.int .u64 R,.int .u64 Z] 47 (0,0))::K') (bl:=b9) (off:=0) (v:=.agg #[.int .u64 R,.int .u64 Z]) (ob:=.cells #[.int .u64 0,.int .u64 0] 47 (0,0)) (ob':=.cells #[.int .u64 R,.int .u64 Z] 47 (0,0)) rfl rfl (by k_ne) rfl (by simp[aU]) (by simp[aU]) (dh ..) uP (fun b o hb=>?_) (fun w hw=>MF R Z w hw) fun eT fe gg _=>?_
 ·rcases List.mem_cons.1 hb with e|hb
  ·cases e;exact .inl ⟨rfl,rfl⟩
  ·exact .inr ⟨uM b o hb,aR _ hb⟩
 clear eF fO E9 uP uM eK fu;walk_nrm;refine TT.oX hP 60 fun w₀ hF=>?_;repeat w_go ib
 refine stp rfl ?_;clear hF w₀;obtain rfl:=QV.out;have hsub:∀b o,(b,o)∈K->(b,o)∈(b9,Obj.cells #[.int .u64 R,.int .u64 Z] 47 (0,0))::K':=fun b o h=>aR _ (Tf b o h);have ao8:=HNK.out.mono (K':=(b9,Obj.cells #[.int .u64 R,.int .u64 Z] 47 (0,0))::K') fun b o h=>aR _ h;refine Xt (c:=c) (an:=an) (b9:=b9) hP fe gg hg0 (h1.mono hsub) (h2.mono hsub) rH wE hid hr hnc JM hk (hsub _ _ hK4) (by rw[HRe.out,HZe.out];exact dh ..) ao8 VG TP he LO zj rfl rfl rfl rfl rfl (by rw[HIe.out];rfl) (by rw[HEe.out];rfl) fun dV k1 k2=>fin dV _ _ k1 hsub k2
end
end Cc
namespace U6
open Go.Conc Go.ConcN Go.ConcM Go.RowKit Go.Conc.Lib Go.ConcR.Gen
open Go.ConcR (KK wgBlock WgAt stA smA rd wr mk DC0)
open Cc pH
open Pl ni oa ng Mem nO Au yL Hw KT ED Rag xA O0 OZ OX Odr
open Bla Hon
open nU hiding base
noncomputable def ao7:Code:=match GG with|.seq a _=>a|_=>.skip
theorem Tq:(iw 5 mg).1.all (fun c=>Sg.fin (sg.items 7 (some 0) [.code c]))=true:=by kernel_rfl
theorem ao3:sg.vX 7=false:=by kernel_rfl
theorem aP2:sg.fs 7=[]:=by kernel_rfl
theorem ao2(t n seed mask dX:Int)(msg:ByteArray):Frame.enter dS 7 #[.int .i64 t,.int .i64 n,.int .u64 seed,.int .i64 mask,.int .u64 dX,.string msg] .normal=(base 7).at ⟨#[.int .i64 t,.int .i64 n,.int .u64 seed,.int .i64 mask,.int .u64 dX,.string msg,av,av,av,av,av,av,av,av,av,av,av,av,av,av,av,av,av,av,av,av,av,av,av,av,av,av,av,av,av,av,av,av,av,av,av,av,av,av,av,av,av,av,av,av,av,av,av,av,av,av,av,av,av,av,av,av,av,av,av,av,av,av,av,av,av,av,av,av,av,av,av,av,av,av,av,av,av,av,av,av,av,av,av,av,av,av,av,av,av,av,av,av,av,av,av,av,av,av,av,av,av,av,av,av,av,av,av,av,av,av],[]⟩ [.code (Ah (iw 5 mg).1 GG)]:=by
 rw[show Ah (iw 5 mg).1 GG=mg from rN 5 mg,enter_at (P:=dS) (c:=mg) _ Try.func7 rfl];kernel_rfl
theorem QA{t n:Nat}{is:List Nat}{dX:Int}(h:Hc t n is):(∀k,k<(fA dX is).length->1<=((fA dX is).getD k .zero).id/\((fA dX is).getD k .zero).id<=9)/\(∀k,0<k->k<(fA dX is).length->((fA dX is).getD (k-1) .zero).id<((fA dX is).getD k .zero).id)/\∀k,k<(fA dX is).length->iH ((fA dX is).getD k .zero).d=true/\iH ((fA dX is).getD k .zero).e=true:=by
 have h9:=h.n9;refine⟨fun k hk=>?_,fun k h0 hk=>?_,fun k hk=>?_⟩<;>rw[fy]at hk
 ·have:=h.at_ hk
  rw[jJ hk];show 1<=((is.getD k 0:Nat):Int)/\((is.getD k 0:Nat):Int)<=9;omega
 ·rw[jJ hk,jJ (by omega)];have:=h.lt (j:=k-1) (k:=k) (by omega) hk
  show((is.getD (k-1) 0:Nat):Int)<((is.getD k 0:Nat):Int);omega
 ·have b1:=z6 (dX:=dX) (is.getD k 0);have b2:=zY (dX:=dX) (is.getD k 0);rw[jJ hk];exact⟨AJ (n:=(dN dX (is.getD k 0)).toNat) (by omega) (by omega),AJ (n:=(fN dX (is.getD k 0)).toNat) (by omega) (by omega)⟩
theorem ao5{ga:Array af}{W w3:ae}{t n seed mask dX:Int}{msg:ByteArray}{B gb:Nat}{A1:Option Addr}{k1:Nat}{vi vC vZ:af}{aY7:Nat->Bool}{T3:Array af}(rH:msg.size<=65536)(Er:PO (gS t n) (kv n) (kG seed (gS t n)) (xA.ids mask (gS t n) (kv n)) dX msg W w3 B gb A1 k1 vi vC vZ false)(TG:xA.ids mask (gS t n) (kv n)=oZ aY7 (kv n))(TU:Hc (gS t n) (kv n) (xA.ids mask (gS t n) (kv n)))
  (bi5:T3.size=116)(u5:T3[5]?=some (.string msg))(u13:T3[13]?=some (.pointer (some ⟨gb,0,none⟩)))(u17:T3[17]?=some vC)(u18:T3[18]?=some vZ)
  (hL3:LR dS (G (Frame.enter dS 7 ga .normal) []) W (G ((base 7).at ⟨T3,[]⟩ [.code GF]) []) w3):Runs 7 ga W:=by
 have hT:=BV t n;have hNb:=y8 n;have hcl:=iW seed (gS t n);have hlen:(comms (kG seed (gS t n)) (kG seed (gS t n)).length).length=gS t n:=by rw[iu _ nle,hcl]
 obtain⟨ha,hoc,hoz⟩:gI (fA dX (xA.ids mask (gS t n) (kv n))) ((comms (kG seed (gS t n)) (kG seed (gS t n)).length).getD 0 0) msg≠1/\w3.ownsRow B 52 3 vC (xA.ids mask (gS t n) (kv n)).length (eO (fA dX (xA.ids mask (gS t n) (kv n))))/\w3.ownsRow B 40 1 vZ (xA.ids mask (gS t n) (kv n)).length ((bq (xA.ids mask (gS t n) (kv n)).length).map fun k=>.int .u64 (shr (kG seed (gS t n)) dX (xA.ids mask (gS t n) (kv n)) msg k)):=by
  rcases Er.out with⟨h,-⟩|⟨-,h1,h2,h3,-⟩
  ·cases h
  ·exact⟨h1,h2,h3⟩
 obtain⟨y3,rfl,hy3⟩:=B6 T3 bi5;have oD:fF w3 gb 31 #[.int .i64 (gS t n),.int .i64 (kv n),.slice A1 (comms (kG seed (gS t n)) (kG seed (gS t n)).length).length k1]:=by rw[hlen];exact Er.rY
 obtain⟨-,q1⟩:=EU (Er.cs.more Er.Bw) (by omega);obtain⟨A2,c2,rfl,q2⟩:=Fz (fy (dX:=dX)).symm hoc;have ao1:w3.ownsRow B 40 1 vZ (xA.ids mask (gS t n) (kv n)).length (((bq (xA.ids mask (gS t n) (kv n)).length).map fun k=>shr (kG seed (gS t n)) dX (xA.ids mask (gS t n) (kv n)) msg k).map (Value.int .u64)):=by rw[List.map_map];exact hoz
 obtain⟨A3,c3,rfl,q3⟩:=EW ao1;have tO:=TU.few;have h0:(kG seed (gS t n)).getD 0 0=xA.cf seed 0:=Dt seed (by omega);have lK:=Kt (dX:=dX) TG hcl (by omega) (zz seed _) (by rw[h0];exact jX.1) TU (Dq t n seed) msg ha 0 (fun _=>false) ((bq (xA.ids mask (gS t n) (kv n)).length).map fun k=>shr (kG seed (gS t n)) dX (xA.ids mask (gS t n) (kv n)) msg k) (by rw[List.length_map,List.length_range]) (fun k hk=>by rw[sf hk];rfl);obtain⟨g1,g2,g3⟩:=lK.none (BP (fun _=>rfl) _);obtain⟨w1,w2,w4⟩:=QA (dX:=dX) TU;refine Ga hL3 Er.bel fun st hA hI=>?_;refine ao6 rfl hA hI Dc rfl rfl rfl rfl q1 q2 q3 (fun i hi=>(yz _ i hi).1) yC (fun k hk=>?_) (by omega) (by rw[fy];omega) w1 w2 w4 (by omega) (yz _ 0 (by omega)) (by omega) (by rw[fy];omega) (by rw[List.length_map,List.length_range];omega) (kg.2 oD) rfl lK.r lK.z g1 g2 g3 (hy3 _ _ u5) (hy3 _ _ u13) (hy3 _ _ u17) (hy3 _ _ u18) fun dV Ls K2 k1 k2 k3=>ends Er.bel k1 k2 k3;rw[List.length_map,List.length_range]at hk;rw[sf hk];have:=Cf (kG seed (gS t n)) dX (xA.ids mask (gS t n) (kv n)) msg k
 omega
theorem bU6{W:ae}(t n seed mask dX:Int)(msg:ByteArray)(ht: -9223372036854775808<=t/\t<=9223372036854775807)(hn: -9223372036854775808<=n/\n<=9223372036854775807)(hs:0<=seed/\seed<18446744073709551616)(hN:0<=dX/\dX<18446744073709551616):
  Runs 7 #[.int .i64 t,.int .i64 n,.int .u64 seed,.int .i64 mask,.int .u64 dX,.string msg] W:=by
 obtain⟨aY7,TG⟩:=Fw t n mask;have TU:=Fx t n mask;have hL2:=LG (W:=W) (ao2 t n seed mask dX msg);refine LR.pieces YM rfl ao3 aP2 (fun a2 w2 hd hN2 hL=>?_) (fun a2 w2 todo hd hR hL=>?_) (iw 5 mg).1 (fun c hc=>List.all_eq_true.1 Tq c hc) _ _ rfl hL2 (ao4 t n seed mask dX msg ht hn hs hN)
 ·obtain⟨rH,B,gb,A1,k1,vi,vC,vZ,zero,Er,hsz,s5,Q3,Q0,QZ,s18,s19⟩:=hN2;obtain⟨T,df⟩:=a2;obtain rfl:df=[]:=hd;obtain⟨y,rfl,hy⟩:=B6 T hsz;replace s5:=hy _ _ s5;replace Q3:=hy _ _ Q3;replace Q0:=hy _ _ Q0;replace QZ:=hy _ _ QZ;replace s18:=hy _ _ s18;replace s19:=hy _ _ s19;have e1:GG=.seq ao7 GF:=rfl;obtain⟨AT,GL⟩:∃AT,AT=GF:=⟨_,rfl⟩;rw[e1,<-GL]at hL;have QV:=ay GL;have VL:=ay Er;have EB:=ay TU;clear GL e1 Er hL2 hy hsz;cases zero;case false=>
   simp only[ao7,GG,mg,iw,Try.f7,aJ,oU,s5,Q3,Q0,QZ,s18,s19]at hL;refine LR.road 60 hL fun w₀ hF=>?_;repeat w_go ib
   refine Goes.stop (fun w₁ r₁=>⟨rfl,fun hL2=>?_⟩);clear hF w₀ hL;obtain rfl:=QV.out;refine ao5 rH VL.out TG EB.out ?_ ?_ ?_ ?_ ?_ hL2<;>rfl
  case true=>
   simp only[ao7,GG,mg,iw,Try.f7,aJ,oU,s5,Q3,Q0,QZ,s18,s19]at hL;refine LR.road 60 hL fun w₀ hF=>?_;repeat w_go ib
   refine Goes.stop (fun w₁ r₁=>⟨rfl,fun hL2=>?_⟩);clear hF w₀ hL;refine Yk (LR.call hL2 (f:=26) (args:=#[]) rfl rfl (by k_ne) (fun w=>?_) (fun w=>?_)) fun a2 w3 hd hM hL3=>?_
   ·unfold ax;simp[resolve,cI,invoke,callFunc,Try.func26,Try.f26,aU]
   ·unfold ax;simp[resolve,cI,invoke,callFunc,Try.func26,Try.f26,aU]
   have hb3:Below W.heap.size W w3:=by
    obtain⟨_,_,_,_,_,_,_,h,_⟩:=hM;exact VL.out.bel.trans (h.bel.mono VL.out.bel.size)
   refine Ga hL3 hb3 fun st hA hI=>?_;refine aw4 rfl Dc rfl rfl rfl rfl hM hd hA hI fun dV Ls K2 dY N8 eQ=>?_;rw[Frame.finish_at];walk_nrm;refine TT.oX rfl 40 fun w₀ hF=>?_;repeat w_go ib
   refine stp rfl ?_;exact OH rfl rfl rfl Try.func7 (by kernel_rfl) LN rfl dY fun dZ k1 k2=>ends hb3 k1 N8 k2
 ·obtain⟨hR1,rfl⟩:=hR;refine Ga hL bre fun st hA hI=>?_;exact OH rfl rfl hd Try.func7 (by kernel_rfl) LN hR1 hA fun dZ k1 k2=>ends bre k1 (fun _ _ h=>h) k2
end U6
end Go.Proofs.Ytpfpokjaeffbjaa
