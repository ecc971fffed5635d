/- Part of the proof: RecPlain, KeptPlain, KeptLib, BlaPlain, DealtPlain, BlaP2, SgdLib, SgdSign, Deal, Leave, DealsWalk, Dealt. -/
import Derived.Test.YtpfpokjaeffbjabBb25
import Derived.Test.YtpfpokjaeffbjabBb10
import Derived.Deep.AppendLies
import Derived.Test.YtpfpokjaeffbjabBb16
import Derived.Test.YtpfpokjaeffbjabBb18
import Derived.Test.YtpfpokjaeffbjabBb12
import Derived.Deep.RegionLaw
import Derived.Conc.LeavingOf
import Derived.Conc.HoldsTime
import Derived.Lib.SmallJoins
import Derived.OpenShut
set_option linter.unusedVariables false
set_option linter.unusedSimpArgs false
set_option maxRecDepth 100000
set_option maxHeartbeats 16000000
namespace Go.Proofs.Ytpfpokjaeffbjab
namespace Qx
open Pl ny oI Odr Qy
theorem DC(c:Nat):jM (pw 4 c 2147483579)=true:=by
 have hb:=og 4 c (m:=2147483579) (by omega);have h1:pw (pw 4 c 2147483579) qq 2147483579=1:=by
  rw[<-lD,Nat.mul_comm,lD,tH,Xg _ (by omega)]
 have h0:pw 4 c 2147483579≠0:=fun h=>by
  rw[h]at h1;have:pw 0 qq 2147483579=0:=by
   unfold pw;rw[show qq=1073741788+1 from rfl,Int.pow_succ,Int.mul_zero];rfl
  omega
 unfold jM;rw[decide_eq_true_iff];exact⟨by omega,hb.2,h1⟩
def Qi(l:List Int)(id:Int):Nat->Int
 |0=>0
 |j+1=>Qi l id j+l.getD j 0*CU id j
theorem Cb{l:List Int}(h:∀i,i<l.length->0<=l.getD i 0)(id:Int)(j:Nat)(hj:j<=l.length):0<=Qi l id j:=by
 induction j with
 |zero=>exact Int.le_refl _
 |succ j ih=>
  have:=Int.mul_nonneg (h j (by omega)) (yc id j).1;have:=ih (by omega);rw[Qi];omega
theorem rQ(l:List Int){j:Nat}(h:j<l.length):(comms l l.length).getD j 0=pw 4 (l.getD j 0).toNat 2147483579:=by
 unfold comms;rw[List.getD_eq_getElem?_getD,List.getElem?_map,List.take_length,List.getElem?_eq_getElem h,List.getD_eq_getElem?_getD,List.getElem?_eq_getElem h];rfl
theorem ac4{l:List Int}(h:∀i,i<l.length->0<=l.getD i 0)(id:Int)(j:Nat)(hj:j<=l.length):uK (comms l l.length) id j=pw 4 (Qi l id j).toNat 2147483579:=by
 induction j with
 |zero=>exact(Du 4 (by omega)).symm
 |succ j ih=>
  have h1:=Cb h id j (by omega);have h2:=Int.mul_nonneg (h j (by omega)) (yc id j).1;rw[uK,ih (by omega),rQ l (by omega),<-lD,<-AB,Qi,Int.toNat_add h1 h2,Int.toNat_mul (h j (by omega)) (yc id j).1]
theorem YH(l:List Int)(id:Int)(j:Nat):Qi l id j%1073741789=rpS l id j:=by
 induction j with
 |zero=>rfl
 |succ j ih=>
  rw[Qi,rpS,<-ih];generalize l.getD j 0*CU id j=B;omega
theorem zi{x:Int}(h:0<=x):pw 4 x.toNat 2147483579=pw 4 (x%1073741789).toNat 2147483579:=by
 rw[rC (by omega) tH x.toNat];congr 1;have e:qq=1073741789:=rfl;rw[e];omega
theorem GH{l:List Int}(h:∀i,i<l.length->0<=l.getD i 0/\l.getD i 0<1073741789){id:Int}(h1:0<=id)(h2:id<1073741789):
  pub (comms l l.length) id=pw 4 (poly l id).toNat 2147483579:=by
 have hl:(comms l l.length).length=l.length:=fH l (Nat.le_refl _);unfold pub;rw[hl,ac4 (fun i hi=>(h i hi).1) id _ (Nat.le_refl _),zi (Cb (fun i hi=>(h i hi).1) id _ (Nat.le_refl _)),YH,La l id h1 h2 h]
theorem Vm(l:List Int)(k:Nat)(hk:k<=l.length):lG (comms l l.length) k=true:=by
 induction k with
 |zero=>rfl
 |succ k ih=>rw[lG,ih (by omega),rQ l (by omega),DC];rfl
theorem Nv{t n:Int}{l:List Int}(h1:2<=t)(h2:t<=n)(h3:n<=9)(h4:(l.length:Int)=t)(h5:0<l.getD 0 0)(h6:l.getD 0 0<1073741789):dw t n (comms l l.length)=true:=by
 have hl:(comms l l.length).length=l.length:=fH l (Nat.le_refl _);rw[BX ⟨h1,h2,h3,by rw[hl];exact h4,?_⟩,hl,Vm l _ (Nat.le_refl _)];rw[rQ l (by omega)];exact pR (by omega) (by
  have e:qq=1073741789:=rfl;omega)
theorem Vx{t n:Int}{l:List Int}(hg:dw t n (comms l l.length)=true)(h:∀i,i<l.length->0<=l.getD i 0/\l.getD i 0<1073741789){id:Int}(h1:1<=id)(h2:id<=n)(h3:n<=9):
  iD t n (comms l l.length) id (poly l id)=0/\qQ t n (comms l l.length) id (poly l id)=true:=by
 have hb:=sK l id;have he:=Hz (id:=id) (share:=poly l id) hg (by omega) (by omega);refine⟨he,?_⟩;rw[H7 he,beq_iff_eq,GH h (by omega) (by omega)]
end Qx
namespace Qz
open Go.RowKit Pl ny oI ni Mem JO Odr oG JI Qx
theorem Rx{n:Nat}(h0:0<n)(h1:n<1073741789):pG (pw 4 n 2147483579)=true:=by
 have h:=pR h0 h1;unfold pG;rw[DC,Bool.true_and,decide_eq_true_iff];exact h
section
variable{s s':St}{j:Nat}{msg:ByteArray}{v e:Int}
end
end Qz
namespace Qz
open Go.RowKit Pl ny oI ni Mem JO JI oG Ud
open uz (Only jq qU xq)
section
variable{P:Program}{w:World}
end
theorem FH{X:List Nat}{B:Nat}{w w':World}(ho:Only X w w')(hX:∀k∈X,B<=k)(hB:B<=w.heap.size):Below B w w':=
 ⟨ho.os,ho.tape,ho.output,ho.size,fun k hk=>ho.block k (by omega) (fun hk'=>by have:=hX k hk';omega)⟩
theorem jq.only{w w':World}{a:uz.Loc}{s:St}{X:List Nat}(h:jq w a s)(ho:Only X w w')(hX:∀k∈a.foot,k∉X):jq w' a s:=
 h.keep fun k hk=>ho.block k (h.lt k hk) (hX k hk)
theorem Py{w w':World}{base n:Nat}{e:TypeId}{size:Nat}{v:Value}{xs:List Value}(h:w.ownsRow base e size v n xs)(hb:∀g,v.ownBlock=some g->w'.heap[g]?=w.heap[g]?):w'.ownsRow base e size v n xs:=by
 refine⟨h.1,?_⟩;rcases h.2 with h2|⟨g,cp,cur,hv,hbg,hh,r⟩
 ·exact .inl h2
 ·exact .inr ⟨g,cp,cur,hv,hbg,(hb g (by rw[hv];rfl)).trans hh,r⟩
theorem Vw(id:Int)(q:Int×Int):0<=(iw id q).d/\0<=(iw id q).e:=⟨(og 4 _ (by omega)).1,(og 4 _ (by omega)).1⟩
section
variable{w wr w':World}{a:uz.Loc}{OB base n:Nat}{v:Value}{l:List Cm}
theorem KE{s:St}(h:jq wr a s)(hb:Below wr.heap.size wr w'):jq w' a s:=h.keep fun k hk=>hb.block k (h.lt k hk)
end
end Qz
namespace Bla
open Go.RowKit Pl ny oI ni Mem oG Odr JI Qx J5 OO Cc JO
theorem Dv(a b:Nat):pw 4 (a+b) 2147483579=mV (pw 4 a 2147483579) (pw 4 b 2147483579):=by
 have h1:=og 4 a (m:=2147483579) (by omega);have h2:=og 4 b (m:=2147483579) (by omega);rw[wV h1.1 (by omega) h2.1 (by omega),AB]
theorem oQ{a b:Int}(ha:0<=a)(hb:0<=b):(a+b).toNat=a.toNat+b.toNat:=by omega
theorem sD{a b:Int}(ha:0<=a)(hb:0<=b):(a*b).toNat=a.toNat*b.toNat:=by
 obtain⟨x,rfl⟩:=Int.eq_ofNat_of_zero_le ha;obtain⟨y,rfl⟩:=Int.eq_ofNat_of_zero_le hb;simp only[Int.toNat_natCast];rw[<-Int.natCast_mul,Int.toNat_natCast]
theorem Xk{d e b w s c:Int}(hd:0<=d/\d<1073741789)(he:0<=e/\e<1073741789)(hb:0<=b/\b<1073741789)(hw:0<=w/\w<1073741789)(hs:0<=s/\s<1073741789)(hc:0<=c/\c<1073741789):
  pw 4 (Ef d e b w s c).toNat 2147483579=mV (mV (pw 4 d.toNat 2147483579) (pw (pw 4 e.toNat 2147483579) b.toNat 2147483579)) (pw (pw 4 s.toNat 2147483579) (smul c w).toNat 2147483579):=by
 have hsc:0<=s*(c*w):=Int.mul_nonneg hs.1 (Int.mul_nonneg hc.1 hw.1);have heb:0<=e*b:=Int.mul_nonneg he.1 hb.1;have e1:Ef d e b w s c=(d+e*b+s*(c*w))%1073741789:=by
  rw[sign_eq hd he hb hw hs hc];unfold QO;have x1:w*s%1073741789*c%1073741789=(w*s*c)%1073741789:=by
   rw[Int.mul_emod,Int.emod_emod_of_dvd _ (Int.dvd_refl _),<-Int.mul_emod]
  have x2:w*s*c=s*(c*w):=by rw[Int.mul_comm w s,Int.mul_assoc,Int.mul_comm w c]
  rw[x1,x2];generalize s*(c*w)=y;generalize e*b=z;omega
 have e2:smul c w=(c*w)%1073741789:=kV hc.1 (by omega) hw.1 (by omega);rw[e1,<-zi (by omega),oQ (by omega) hsc,oQ hd.1 heb,Dv,Dv,sD he.1 hb.1,lD,e2];congr 1;rw[<-lD,sD hs.1 (Int.mul_nonneg hc.1 hw.1)];have e3:((c*w)%1073741789).toNat=(c*w).toNat%1073741789:=by have:=Int.mul_nonneg hc.1 hw.1;omega
 rw[e3];have e4:pw 4 (s.toNat*(c*w).toNat) 2147483579=pw 4 (s.toNat*((c*w).toNat%1073741789)) 2147483579:=by
  rw[rC (by omega) tH (s.toNat*(c*w).toNat),rC (by omega) tH (s.toNat*((c*w).toNat%1073741789))];congr 1;show _%1073741789=_%1073741789;rw[Nat.mul_mod,Nat.mul_mod s.toNat ((c*w).toNat%1073741789),Nat.mod_mod]
 exact e4
section
variable{cf:List Int}(hcf:∀i,i<cf.length->0<=cf.getD i 0/\cf.getD i 0<1073741789){l:List Cm}{msg:ByteArray}{k:Nat}{q:Int×Int}
include hcf
theorem WZ{c key:Int}(hkey:key=(comms cf cf.length).getD 0 0)(hc:0<=c/\c<1073741789)(hid:0<=(l.getD k .zero).id/\(l.getD k .zero).id<1073741789)(hl:l.getD k .zero=iw (l.getD k .zero).id q)(hq:(0<=q.1/\q.1<1073741789)/\(0<=q.2/\q.2<1073741789)):
  fQ (Ef q.1 q.2 (lH l key msg k) (fF (gV l l.length) k) (poly cf (l.getD k .zero).id) c) c (comms cf cf.length) l msg k=true:=by
 have hb:=rV l key msg k;have hw:0<=fF (gV l l.length) k/\fF (gV l l.length) k<1073741789:=lS _ _;have hs:=sK cf (l.getD k .zero).id;have hz:=Dt (mM q.1 (smul q.2 (lH l key msg k))) (smul (smul (fF (gV l l.length) k) (poly cf (l.getD k .zero).id)) c);unfold fQ;rw[Bool.and_eq_true,decide_eq_true_eq,decide_eq_true_eq];refine⟨hz.2,?_⟩;rw[Xk hq.1 hq.2 hb hw hs hc,GH hcf hid.1 hid.2];congr 1;unfold lV;rw[<-hkey];have e1:(l.getD k .zero).d=pw 4 q.1.toNat 2147483579:=by rw[hl];rfl
 have e2:(l.getD k .zero).e=pw 4 q.2.toNat 2147483579:=by rw[hl];rfl
 rw[e1,e2]
end
theorem Ux{c:Int}{cs:List Int}{l:List Cm}{msg:ByteArray}{k:Nat}{z z':Int}(h:fQ z c cs l msg k=true)(h0:0<=z)(h1:0<=z')(hne:z'≠z):fQ z' c cs l msg k=false:=by
 unfold fQ at h ⊢;rw[Bool.and_eq_true,decide_eq_true_eq,decide_eq_true_eq]at h;by_cases hlt:z'<1073741789
 ·have:¬pw 4 z'.toNat 2147483579=mV (lV l (cs.getD 0 0) msg k) (pw (pub cs (l.getD k .zero).id) (smul c (fF (gV l l.length) k)).toNat 2147483579):=fun e=>by
   have e2:pw 4 z'.toNat 2147483579=pw 4 z.toNat 2147483579:=e.trans h.2.symm;have:=E5 (a:=z'.toNat) (b:=z.toNat) (by show z'.toNat<1073741789;omega) (by show z.toNat<1073741789;have:=h.1;omega) e2;omega
  rw[decide_eq_false this,Bool.and_false]
 ·rw[decide_eq_false hlt,Bool.false_and]
end Bla
namespace mY
open Pl ny oI Odr Qy Qx qj
def jU(n:Int):Nat:=(2+qA n 8).toNat
def dY(t n:Int):Nat:=(2+qA t ((jU n:Int)-1)).toNat
theorem yw(n:Int):2<=jU n/\jU n<=9/\((jU n:Nat):Int)=2+qA n 8:=by
 have:=Ld n (n:=8) (by omega);unfold jU;omega
theorem Ak(t n:Int):2<=dY t n/\dY t n<=jU n/\((dY t n:Nat):Int)=2+qA t ((jU n:Int)-1):=by
 have h:=yw n;have:=Ld t (n:=(jU n:Int)-1) (by omega);unfold dY;omega
def cf(seed:Int)(k:Nat):Int:=iV (IntKind.u64.wrap (IntKind.u64.wrap (seed*(2*(k:Int)+1))+(k:Int)*(k:Int)))
def jO(seed:Int)(t:Nat):List Int:=(List.range t).map (cf seed)
theorem jf{x:Int}:1<=iV x/\iV x<1073741789:=by unfold iV;omega
theorem gB(seed:Int)(t:Nat):(jO seed t).length=t:=by simp[jO]
theorem Y3(seed:Int)(t:Nat):jO seed (t+1)=jO seed t++[cf seed t]:=by simp[jO,List.range_succ]
theorem FB(seed:Int){t k:Nat}(h:k<t):(jO seed t).getD k 0=cf seed k:=by
 unfold jO;rw[List.getD_eq_getElem?_getD,List.getElem?_map,List.getElem?_range h];rfl
theorem Bl(seed:Int)(t:Nat):∀i,i<(jO seed t).length->0<=(jO seed t).getD i 0/\(jO seed t).getD i 0<1073741789:=by
 intro i hi;rw[gB]at hi;rw[FB seed hi];have:=jf (x:=IntKind.u64.wrap (IntKind.u64.wrap (seed*(2*(i:Int)+1))+(i:Int)*(i:Int)));unfold cf;omega
theorem PD(seed:Int)(t k:Nat)(hk:k<=t):sN (jO seed t) k=true:=by
 induction k with
 |zero=>rfl
 |succ k ih=>rw[sN,ih (by omega),decide_eq_true (Bl seed t k (by rw[gB];omega)).2];rfl
theorem N7{t n:Int}(seed:Int):oq (dY t n) (jU n) (jO seed (dY t n))=0:=by
 have h1:=yw n;have h2:=Ak t n;unfold oq;rw[if_neg (by rw[gB];omega),if_neg];rintro (h|h)
 ·have:=(Bl seed (dY t n) 0 (by rw[gB];omega)).1;rw[FB seed (by omega)]at h;have h3:1<=cf seed 0:=jf.1;omega
 ·rw[gB,PD seed _ _ (Nat.le_refl _)]at h;cases h
def iH(mask:Int)(id:Nat):Bool:=bits BinOp.and IntKind.i64 (mask/2^id) 1==1
def gU(mask:Int)(t n:Nat):Nat->List Nat
 |0=>[]
 |k+1=>if iH mask (k+1)||decide ((gU mask t n k).length+n<t+(k+1))then gU mask t n k++[k+1]else gU mask t n k
theorem Va(mask:Int)(t n k:Nat):gU mask t n k=sel (fun j=>iH mask (j+1)||decide ((gU mask t n j).length+n<t+(j+1))) k:=by
 induction k with
 |zero=>rfl
 |succ k ih=>rw[gU,sel,<-ih]
theorem Jf(mask:Int)(t n k:Nat)(ht:t<=n)(hk:k<=n):t+k<=(gU mask t n k).length+n:=by
 induction k with
 |zero=>rw[gU,List.length_nil];omega
 |succ k ih=>
  have:=ih (by omega);rw[gU];split
  ·rw[List.length_append,List.length_singleton];omega
  ·rename_i h;rw[Bool.or_eq_true,decide_eq_true_iff]at h;have:¬(gU mask t n k).length+n<t+(k+1):=fun h'=>h (.inr h')
   omega
theorem Na(mask:Int)(t n k:Nat):(gU mask t n k).length<=k:=by
 induction k with
 |zero=>rw[gU,List.length_nil];omega
 |succ k ih=>
  rw[gU];split
  ·rw[List.length_append,List.length_singleton];omega
  ·omega
def ids(mask:Int)(t n:Nat):List Nat:=gU mask t n n
theorem O4(coeffs:List Int){n i:Nat}(h:i<n):(jR coeffs n).getD i 0=poly coeffs ((i:Int)+1):=by
 unfold jR;rw[List.getD_eq_getElem?_getD,List.getElem?_map,List.getElem?_range h];rfl
end mY
namespace Bla
open Go.RowKit Pl ny oI ni Mem oG Odr JI Qx J5 OO Cc JO Qz Qy mY qj
def dN(ak:Int)(id:Nat):Int:=iV (IntKind.u64.wrap (IntKind.u64.wrap (ak*(id:Int))+1))
def fN(ak:Int)(id:Nat):Int:=iV (IntKind.u64.wrap (ak+(id:Int)*7919))
def cmt(ak:Int)(id:Nat):Cm:=iw (id:Int) (dN ak id,fN ak id)
def bQ(ak:Int)(is:List Nat):List Cm:=is.map (cmt ak)
structure JJ(t n:Nat)(is:List Nat):Prop where
 mem:∀x∈is,1<=x/\x<=n
 rise:is.Pairwise (·<·)
 many:t<=is.length
 few:is.length<=n
 n9:n<=9
section
variable{t n:Nat}{is:List Nat}{ak:Int}
theorem Fq(id:Nat):0<dN ak id/\dN ak id<1073741789:=by have:=jf (x:=IntKind.u64.wrap (IntKind.u64.wrap (ak*(id:Int))+1));unfold dN;omega
theorem E8(id:Nat):0<fN ak id/\fN ak id<1073741789:=by have:=jf (x:=IntKind.u64.wrap (ak+(id:Int)*7919));unfold fN;omega
theorem bV:(bQ ak is).length=is.length:=by simp[bQ]
theorem kW{k:Nat}(hk:k<is.length):(bQ ak is).getD k .zero=cmt ak (is.getD k 0):=by
 unfold bQ;simp[List.getD_eq_getElem?_getD,hk]
theorem JJ.at_(h:JJ t n is){k:Nat}(hk:k<is.length):1<=is.getD k 0/\is.getD k 0<=n:=by
 have:is.getD k 0=is[k]:=by simp[List.getD_eq_getElem?_getD,hk]
 rw[this];exact h.mem _ (List.getElem_mem hk)
theorem JJ.lt(h:JJ t n is){j k:Nat}(hjk:j<k)(hk:k<is.length):is.getD j 0<is.getD k 0:=by
 have e1:is.getD j 0=is[j]:=by simp[List.getD_eq_getElem?_getD,show j<is.length by omega]
 have e2:is.getD k 0=is[k]:=by simp[List.getD_eq_getElem?_getD,hk]
 rw[e1,e2];exact List.pairwise_iff_getElem.1 h.rise j k (by omega) hk hjk
theorem Dw(h:JJ t n is):um t n (bQ ak is)=0:=by
 have hr:∀k,k<=is.length->dh n (bQ ak is) k=0:=by
  intro k
  induction k with
  |zero=>intro _;rfl
  |succ k ih=>
   intro hk;refine zh (ih (by omega)) ?_;have h1:=h.at_ (k:=k) (by omega);unfold nU;rw[kW (by omega),if_neg (by show¬(((is.getD k 0:Nat):Int)<1\/(n:Int)<((is.getD k 0:Nat):Int));omega),if_neg];rintro ⟨h2,h3⟩;rw[kW (by omega)]at h3;have h3:((is.getD k 0:Nat):Int)<=((is.getD (k-1) 0:Nat):Int):=h3;have:=h.lt (j:=k-1) (k:=k) (by omega) (by omega);omega
 have hn:∀k,k<=is.length->kP (bQ ak is) k=true:=by
  intro k
  induction k with
  |zero=>intro _;rfl
  |succ k ih=>
   intro hk;have b1:=Fq (ak:=ak) (is.getD k 0);have b2:=E8 (ak:=ak) (is.getD k 0);refine EF _ (ih (by omega)) ?_ ?_<;>rw[kW (by omega)]
   ·exact Rx (n:=(dN ak (is.getD k 0)).toNat) (by omega) (by omega)
   ·exact Rx (n:=(fN ak (is.getD k 0)).toNat) (by omega) (by omega)
 refine Xm ?_ ?_ ?_
 ·rw[bV];have:=h.many;have:=h.few;omega
 ·rw[bV];exact hr _ (Nat.le_refl _)
 ·rw[bV];exact hn _ (Nat.le_refl _)
def shr(cf:List Int)(ak:Int)(is:List Nat)(msg:ByteArray)(k:Nat):Int:=
 Ef (dN ak (is.getD k 0)) (fN ak (is.getD k 0)) (lH (bQ ak is) ((comms cf cf.length).getD 0 0) msg k) (fF (gV (bQ ak is) is.length) k) (poly cf (is.getD k 0)) (jB (dM (bQ ak is) ((comms cf cf.length).getD 0 0) msg) ((comms cf cf.length).getD 0 0) msg)
theorem Au(cf:List Int)(ak:Int)(is:List Nat)(msg:ByteArray)(k:Nat):0<=shr cf ak is msg k/\shr cf ak is msg k<1073741789:=Dt _ _
theorem Ur{cf:List Int}(hcf:∀i,i<cf.length->0<=cf.getD i 0/\cf.getD i 0<1073741789)(h:JJ t n is)(msg:ByteArray){k:Nat}(hk:k<is.length):
  fQ (shr cf ak is msg k) (jB (dM (bQ ak is) ((comms cf cf.length).getD 0 0) msg) ((comms cf cf.length).getD 0 0) msg) (comms cf cf.length) (bQ ak is) msg k=true:=by
 have h1:=h.at_ hk;have h9:=h.n9;have e1:((bQ ak is).getD k .zero).id=((is.getD k 0:Nat):Int):=by rw[kW hk];rfl
 have b1:=Fq (ak:=ak) (is.getD k 0);have b2:=E8 (ak:=ak) (is.getD k 0);have key:=WZ hcf (l:=bQ ak is) (msg:=msg) (k:=k) (q:=(dN ak (is.getD k 0),fN ak (is.getD k 0))) (c:=jB (dM (bQ ak is) ((comms cf cf.length).getD 0 0) msg) ((comms cf cf.length).getD 0 0) msg) rfl (DN _ _ _) (by rw[e1];omega) (by rw[e1,kW hk];rfl) ⟨by show 0<=dN _ _/\dN _ _<_;omega,by show 0<=fN _ _/\fN _ _<_;omega⟩;rw[e1,bV]at key;exact key
def iq(bd:Nat->Bool)(is:List Nat):Nat->List Int
 |0=>[]
 |k+1=>if bd k then iq bd is k++[((is.getD k 0:Nat):Int)]else iq bd is k
theorem DZ{rt bd:Nat->Bool}(h:∀k,k<is.length->rt k= !bd k):∀k,k<=is.length->cZ rt (bQ ak is) k=iq bd is k
 |0,_=>rfl
 |k+1,hk=>by
  rw[cZ,iq,h k (by omega),DZ h k (by omega),kW (by omega)];cases bd k<;>rfl
def DL(kF:Int)(b:Bool)(z:Int):Int:=if b then(if kF%5=0 then z+1073741789 else(z+iV kF)%1073741789)else z
theorem Y2{kF z:Int}{b:Bool}(hz:0<=z/\z<1073741789):0<=DL kF b z/\DL kF b z<2147483578:=by
 unfold DL;split
 ·split
  ·omega
  ·omega
 ·omega
theorem aN8{kF z:Int}(hz:0<=z/\z<1073741789):DL kF true z≠z:=by
 have:=jf (x:=kF);unfold DL;rw[if_pos rfl];split
 ·omega
 ·omega
theorem blame{cf:List Int}(hcf:∀i,i<cf.length->0<=cf.getD i 0/\cf.getD i 0<1073741789)(h:JJ t n is)(msg:ByteArray)(kF:Int)(bd:Nat->Bool)(nv:Nat->Int)(OI:∀k,k<is.length->nv k=DL kF (bd k) (shr cf ak is msg k)):
  cZ (fun k=>fQ (nv k) (jB (dM (bQ ak is) ((comms cf cf.length).getD 0 0) msg) ((comms cf cf.length).getD 0 0) msg) (comms cf cf.length) (bQ ak is) msg k) (bQ ak is) (bQ ak is).length=iq bd is is.length:=by
 rw[bV];refine DZ (fun k hk=>?_) _ (Nat.le_refl _);have hb:=Au cf ak is msg k;have hr:=Ur (ak:=ak) hcf h msg hk;rw[OI k hk];cases hk2:bd k with
 |false=>
  have e:DL kF false (shr cf ak is msg k)=shr cf ak is msg k:=rfl;rw[e,hr];rfl
 |true=>rw[Ux hr hb.1 (Y2 hb).1 (aN8 hb)];rfl
theorem aP7{cf:List Int}(hg:dw t n (comms cf cf.length)=true)(h:JJ t n is)(msg:ByteArray)(ha:dM (bQ ak is) ((comms cf cf.length).getD 0 0) msg≠1):lZ t n (comms cf cf.length) (bQ ak is) msg is.length=0:=by
 unfold lZ;rw[if_neg (by rw[hg];simp),if_neg (by rw[Dw h];simp),if_neg (by rw[bV];simp),if_neg ha]
end
end Bla
namespace Zq
open Go.RowKit Pl ny oI ni JO JI Mem Ad Qz oG Ud
open uz (Only jq qU xq)
def CW(a:uz.Loc):Value:=.pointer (some ⟨a.S,0,none⟩)
theorem pU{w:World}{a:uz.Loc}{s:St}(h:jq w a s){base size n:Nat}{e:TypeId}{v:Value}{xs:List Value}(ho:w.ownsRow base e size v n xs)(h1:e≠82)(h2:e≠143)(h3:e≠85):∀x∈a.foot,some x≠v.ownBlock:=by
 intro x hx;simp[uz.Loc.foot]at hx;rcases hx with rfl|rfl|rfl|rfl
 ·exact jD ho h.sg h1
 ·obtain⟨C,hC,-⟩:=h.grp;exact jD ho hC h2
 ·rcases yj h.own ho h3.symm with h|h
  ·cases h
  ·exact h
 ·obtain⟨es,cl,hM,-⟩:=h.map;intro he;rcases ho.2 with⟨rfl,-⟩|⟨g,cp,cur,rfl,_,hh,_⟩
  ·cases he
  ·have:a.M=g:=by simpa [Value.ownBlock]using he
   rw[this]at hM;rw[hM]at hh;cases hh
theorem NC{w:World}{a:uz.Loc}{s:St}(h:jq w a s){g:Nat}{t:TypeId}{cs:Array Value}(hg:bZ w g t cs)(h1:t≠82)(h2:t≠143)(h3:t≠85):g∉a.foot:=by
 intro hx;simp[uz.Loc.foot]at hx;rcases hx with rfl|rfl|rfl|rfl
 ·exact bZ.ne_ hg h.sg h1 rfl
 ·obtain⟨C,hC,-⟩:=h.grp;exact bZ.ne_ hg hC h2 rfl
 ·exact jD h.own hg h3.symm rfl
 ·obtain⟨es,cl,hM,-⟩:=h.map;unfold bZ at hg;rw[hM]at hg;cases hg
structure SW(w:World)(GB:Nat)(gC:Array Value)(wr:World)(L:List uz.Loc)(Aq:Nat->St)(m:Nat)(v1 v2:Value)(n2:Nat)(l:List Cm):Prop where
 yt:wr.ownsRow w.heap.size 32 1 v1 m ((L.take m).map CW)
 xE:wr.ownsRow w.heap.size 37 3 v2 n2 (aU l)
 gb:bZ wr GB 28 gC
 bw:Below w.heap.size w wr
 sg:∀(k:Nat) (a:uz.Loc),L[k]?=some a->jq wr a (Aq k)
 ft:∀a∈L,∀x∈a.foot,w.heap.size<=x
 ap:∀(i j:Nat) (a b:uz.Loc),L[i]?=some a->L[j]?=some b->i≠j->∀x∈a.foot,x∉b.foot
section
variable{w wr w':World}{GB m n2:Nat}{gC:Array Value}{L:List uz.Loc}{Aq:Nat->St}{v1 v2:Value}{l:List Cm}
theorem SW.later(h:SW w GB gC wr L Aq m v1 v2 n2 l)(hb:Below wr.heap.size wr w'):SW w GB gC w' L Aq m v1 v2 n2 l:=
 ⟨own_below h.yt hb (Nat.le_refl _),own_below h.xE hb (Nat.le_refl _),h.gb.below hb h.gb.lt,h.bw.trans (hb.mono h.bw.size),fun k a hk=>KE (h.sg k a hk) hb,h.ft,h.ap⟩
theorem SW.drew(h:SW w GB gC wr L Aq m v1 v2 n2 l):SW w GB gC wr.drew L Aq m v1 v2 n2 l:=h.later (Below.refl _ _).drew
theorem SW.alloc(h:SW w GB gC wr L Aq m v1 v2 n2 l)(o:Obj):SW w GB gC (wr.alloc o) L Aq m v1 v2 n2 l:=h.later (aK _ _)
theorem y9{base size n:Nat}{e:TypeId}{v:Value}{xs:List Value}{X:List Nat}(h:wr.ownsRow base e size v n xs)(hX:∀x∈X,some x≠v.ownBlock)(ho:Only X wr w'):w'.ownsRow base e size v n xs:=
 Py h fun g hg=>ho.block g (h.lt g hg).2 fun hk=>hX g hk hg.symm
theorem SW.only(h:SW w GB gC wr L Aq m v1 v2 n2 l){k:Nat}{a:uz.Loc}{s:St}(hk:L[k]?=some a)(ho:Only a.foot wr w')(hs:jq w' a s):SW w GB gC w' L (fun i=>if i=k then s else Aq i) m v1 v2 n2 l:=by
 have hsa:=h.sg k a hk;refine⟨y9 h.yt (pU hsa h.yt (by decide) (by decide) (by decide)) ho,y9 h.xE (pU hsa h.xE (by decide) (by decide) (by decide)) ho,ho.blk h.gb (NC hsa h.gb (by decide) (by decide) (by decide)),h.bw.trans (FH ho (h.ft a (List.mem_of_getElem? hk)) h.bw.size),fun i b hb=>?_,h.ft,h.ap⟩;by_cases e:i=k
 ·subst e;rw[hk]at hb;cases hb;rw[if_pos rfl];exact hs
 ·rw[if_neg e];exact jq.only (h.sg i b hb) ho (h.ap i k b a hb hk e)
theorem SW.new(h:SW w GB gC wr L Aq m v1 v2 n2 l)(hm:m<=L.length)(hb:Below wr.heap.size wr w'){a:uz.Loc}{s:St}(hs:jq w' a s)(hf:∀x∈a.foot,wr.heap.size<=x):SW w GB gC w' (L++[a]) (fun i=>if i=L.length then s else Aq i) m v1 v2 n2 l:=by
 have h':=h.later hb;have get:∀i b,(L++[a])[i]?=some b->(i<L.length/\L[i]?=some b)\/(i=L.length/\b=a):=fun i b hb=>by
  rw[List.getElem?_append]at hb;split at hb
  ·rename_i hlt;exact .inl ⟨hlt,hb⟩
  ·rename_i hge;have:i-L.length=0:=by
    cases hz:i-L.length with
    |zero=>rfl
    |succ z=>rw[hz]at hb;simp at hb
   rw[this]at hb;simp at hb;exact .inr ⟨by omega,hb.symm⟩
 refine⟨by rw[List.take_append_of_le_length hm];exact h'.yt,h'.xE,h'.gb,h'.bw,fun i b hb=>?_,fun b hb x hx=>?_,fun i j b c hb hc hne x hx=>?_⟩
 ·rcases get i b hb with⟨h1,h2⟩|⟨rfl,rfl⟩
  ·rw[if_neg (by omega)];exact h'.sg i b h2
  ·rw[if_pos rfl];exact hs
 ·rcases List.mem_append.1 hb with hb|hb
  ·exact h.ft b hb x hx
  ·rw[List.mem_singleton.1 hb]at hx;exact Nat.le_trans h.bw.size (hf x hx)
 ·rcases get i b hb with⟨h1,h2⟩|⟨h1,rfl⟩<;>rcases get j c hc with⟨h3,h4⟩|⟨h3,rfl⟩
  ·exact h.ap i j b c h2 h4 hne x hx
  ·intro hx2;have:=hf x hx2;have:=(h.sg i b h2).lt x hx;omega
  ·intro hx2;have:=hf x hx;have:=(h.sg j c h4).lt x hx2;omega
  ·omega
theorem SW.app1(h:SW w GB gC wr L Aq m v1 v2 n2 l){cs:Array Value}{v':Value}(hg:(wr.alloc (.cells cs 32)).grownBy w' v1.ownBlock){a:uz.Loc}(ha:L[m]?=some a)(hown:w'.ownsRow w.heap.size 32 1 v' (m+1) ((L.take m).map CW++[CW a])):SW w GB gC w' L Aq (m+1) v' v2 n2 l:=by
 have hlt:m<L.length:=(List.getElem?_eq_some_iff.1 ha).1;have e:(L.take (m+1)).map CW=(L.take m).map CW++[CW a]:=by
  rw[List.take_add_one,ha];simp
 refine⟨by rw[e];exact hown,kJ h.xE h.yt (by decide) hg,gI h.gb h.yt (by decide) hg,below_grown h.bw h.yt h.bw.size hg,fun k b hb=>?_,h.ft,h.ap⟩;have hs:=h.sg k b hb;refine hs.keep fun x hx=>?_
 have h1:=hs.lt x hx;exact(hg.block x (by simp;omega) (pU hs h.yt (by decide) (by decide) (by decide) x hx)).trans ((aK wr _).block x h1)
theorem SW.bF1(h:SW w GB gC wr L Aq m v1 v2 n2 l){cs:Array Value}{v':Value}{n':Nat}{l':List Cm}(hg:(wr.alloc (.cells cs 37)).grownBy w' v2.ownBlock)(hown:w'.ownsRow w.heap.size 37 3 v' n' (aU l')):SW w GB gC w' L Aq m v1 v' n' l':=by
 refine⟨kJ h.yt h.xE (by decide) hg,hown,gI h.gb h.xE (by decide) hg,below_grown h.bw h.xE h.bw.size hg,fun k b hb=>?_,h.ft,h.ap⟩;have hs:=h.sg k b hb;refine hs.keep fun x hx=>?_
 have h1:=hs.lt x hx;exact(hg.block x (by simp;omega) (pU hs h.xE (by decide) (by decide) (by decide) x hx)).trans ((aK wr _).block x h1)
theorem SW.congr{Iz:Nat->St}(h:SW w GB gC wr L Aq m v1 v2 n2 l)(e:∀k,k<L.length->Aq k=Iz k):SW w GB gC wr L Iz m v1 v2 n2 l:=
 ⟨h.yt,h.xE,h.gb,h.bw,fun k a hk=>by rw[<-e k (List.getElem?_eq_some_iff.1 hk).1];exact h.sg k a hk,h.ft,h.ap⟩
end
end Zq
namespace Zq
open Go.RowKit Pl ny oI ni JO JI Qy Qx qj Mem Ad oG mY Qz Bla
open uz (Only jq qU xq yu JM Jv SV)
def F6(t n:Int)(cf:List Int)(ak:Int)(is:List Nat)(k:Nat):St:=⟨t,n,comms cf cf.length,is.getD k 0,poly cf (is.getD k 0),[(dN ak (is.getD k 0),fN ak (is.getD k 0))]⟩
def Um(t n:Int)(cf:List Int)(is:List Nat)(k:Nat):St:=⟨t,n,comms cf cf.length,is.getD k 0,poly cf (is.getD k 0),[]⟩
theorem Ce{w:World}{a:uz.Loc}{s:St}(hs:jq w a s){base n:Nat}{v:Value}{l:List Cm}(hn:l.length=n)(h:w.ownsRow base 37 3 v n (aU l)):xq a.foot w v l:=fun w' ho=>by
 subst hn;exact oK.own (y9 h (pU hs h (by decide) (by decide) (by decide)) ho)
section
variable{t n:Nat}{cf:List Int}{is:List Nat}{ak:Int}{msg:ByteArray}
theorem KJ(hsel:JJ t n is){k:Nat}(hk:k<is.length):lW (is.getD k 0:Nat) (bQ ak is) (bQ ak is).length=k:=
 wM (tq (Dw hsel)) (by rw[bV];exact hk) (by rw[kW hk];rfl)
theorem zY(i:Nat)(hi:i<(bQ ak is).length):0<=((bQ ak is).getD i .zero).d/\0<=((bQ ak is).getD i .zero).e:=by
 rw[kW (by rw[bV]at hi;exact hi)];exact Vw _ _
theorem aY3(hsel:JJ t n is){k:Nat}(hk:k<is.length)(hok:Ok (F6 t n cf ak is k)){w:World}{a:uz.Loc}(hs:jq w a (F6 t n cf ak is k)){base:Nat}{v:Value}(ho:w.ownsRow base 37 3 v is.length (aU (bQ ak is)))(hms:msg.size<=1000000):
  Calls Try.prog 14 #[.pointer (some ⟨a.S,0,none⟩),.string msg,v] w fun x w'=>Only a.foot w w'/\
   ((dM (bQ ak is) ((comms cf cf.length).getD 0 0) msg=1/\x=.returned (.tuple #[.int .u64 0,.int .i64 11]))\/
    (dM (bQ ak is) ((comms cf cf.length).getD 0 0) msg≠1/\x=.returned (.tuple #[.int .u64 (shr cf ak is msg k),.int .i64 0])/\jq w' a (Um t n cf is k))):=by
 obtain⟨u,e,s',hr⟩:=Ee (F6 t n cf ak is k) msg (bQ ak is);refine(uz.ao1 w a _ msg _ _ hs hok (Ce hs bV ho) (by rw[bV];have:=hsel.few;have:=hsel.n9;omega) zY hms u e s' hr).mono ?_;rintro x w' ⟨rfl,h2,h3⟩;refine⟨h3,?_⟩;have hpk:um (F6 t n cf ak is k).t (F6 t n cf ak is k).n (bQ ak is)=0:=Dw hsel;have hmi:lW (F6 t n cf ak is k).id (bQ ak is) (bQ ak is).length=k:=KJ hsel hk;have hqi:(dN ak (is.getD k 0),fN ak (is.getD k 0))∈(F6 t n cf ak is k).pl:=List.mem_singleton.2 rfl;have hqm:iw (F6 t n cf ak is k).id (dN ak (is.getD k 0),fN ak (is.getD k 0))=(bQ ak is).getD k .zero:=(kW hk).symm;have hhit:=Q5 (m:=k) (q:=(dN ak (is.getD k 0),fN ak (is.getD k 0))) hr hok hpk hmi hqi hqm;obtain⟨j,hj,h⟩:=hhit;have hsh:Az (F6 t n cf ak is k) msg (bQ ak is) k (dN ak (is.getD k 0),fN ak (is.getD k 0))=shr cf ak is msg k:=by simp only[Az,shr,F6,bV]
 rw[hsh]at h;rcases h with⟨ha,rfl,rfl,-⟩|⟨ha,rfl,rfl,rfl⟩
 ·exact .inl ⟨ha,rfl⟩
 ·refine .inr ⟨ha,rfl,?_⟩;have hj0:j=0:=by
   have:=(List.getElem?_eq_some_iff.1 hj).1
   simpa [F6]using this
  subst hj0;exact h2
theorem aY2(hsel:JJ t n is){k:Nat}(hk:k<is.length)(hok:Ok (Um t n cf is k)){w:World}{a:uz.Loc}(hs:jq w a (Um t n cf is k)){base:Nat}{v:Value}(ho:w.ownsRow base 37 3 v is.length (aU (bQ ak is)))(hms:msg.size<=1000000):
  Calls Try.prog 14 #[.pointer (some ⟨a.S,0,none⟩),.string msg,v] w fun x w'=>x=.returned (.tuple #[.int .u64 0,.int .i64 10])/\Only a.foot w w'/\jq w' a (Um t n cf is k):=by
 obtain⟨u,e,s',hr⟩:=Ee (Um t n cf is k) msg (bQ ak is);refine(uz.ao1 w a _ msg _ _ hs hok (Ce hs bV ho) (by rw[bV];have:=hsel.few;have:=hsel.n9;omega) zY hms u e s' hr).mono ?_;rintro x w' ⟨rfl,h2,h3⟩;obtain⟨rfl,rfl,rfl⟩:=KU hr (Dw hsel) (m:=k) (KJ hsel hk) (fun⟨q,hq,_⟩=>absurd hq List.not_mem_nil);exact⟨rfl,h3,h2⟩
theorem left0{k:Nat}{w:World}{a:uz.Loc}(hs:jq w a (Um t n cf is k)):
  Calls Try.prog 15 #[.pointer (some ⟨a.S,0,none⟩)] w fun e w'=>e=.returned (.int .i64 0)/\Only a.foot w w'/\jq w' a (Um t n cf is k):=
 (SV w a _ hs).mono fun e w' ⟨h1,h2,h3⟩=>⟨h1,h3,h2⟩
end
structure SX(w:World)(GB:Nat)(gC:Array Value)(wr:World)(L:List uz.Loc)(Aq:Nat->St)(v1 v2 v3:Value)(m n:Nat)(l:List Cm)(zs:List Value):Prop where
 sw:SW w GB gC wr L Aq n v1 v2 n l
 CX:wr.ownsRow w.heap.size 25 1 v3 m zs
section
variable{w wr w':World}{GB m n:Nat}{gC:Array Value}{L:List uz.Loc}{Aq:Nat->St}{v1 v2 v3:Value}{l:List Cm}{zs:List Value}
theorem SX.only(h:SX w GB gC wr L Aq v1 v2 v3 m n l zs){k:Nat}{a:uz.Loc}{s:St}(hk:L[k]?=some a)(ho:Only a.foot wr w')(hs:jq w' a s):SX w GB gC w' L (fun i=>if i=k then s else Aq i) v1 v2 v3 m n l zs:=
 ⟨h.sw.only hk ho hs,y9 h.CX (pU (h.sw.sg k a hk) h.CX (by decide) (by decide) (by decide)) ho⟩
theorem SX.congr{Iz:Nat->St}(h:SX w GB gC wr L Aq v1 v2 v3 m n l zs)(e:∀k,k<L.length->Aq k=Iz k):SX w GB gC wr L Iz v1 v2 v3 m n l zs:=⟨h.sw.congr e,h.CX⟩
theorem SX.bF0(h:SX w GB gC wr L Aq v1 v2 v3 m n l zs){cs:Array Value}{v':Value}{m':Nat}{zs':List Value}(hg:(wr.alloc (.cells cs 25)).grownBy w' v3.ownBlock)(hown:w'.ownsRow w.heap.size 25 1 v' m' zs'):SX w GB gC w' L Aq v1 v2 v' m' n l zs':=by
 refine⟨⟨kJ h.sw.yt h.CX (by decide) hg,kJ h.sw.xE h.CX (by decide) hg,gI h.sw.gb h.CX (by decide) hg,below_grown h.sw.bw h.CX h.sw.bw.size hg,fun k b hb=>?_,h.sw.ft,h.sw.ap⟩,hown⟩;have hs:=h.sw.sg k b hb;refine hs.keep fun x hx=>?_
 have h1:=hs.lt x hx;exact(hg.block x (by simp;omega) (pU hs h.CX (by decide) (by decide) (by decide) x hx)).trans ((aK wr _).block x h1)
end
theorem aA0{w:World}{base n c bk k:Nat}{T:TypeId}{a:uz.Loc}{L:List uz.Loc}(h:w.ownsRow base T 1 (.slice (some ⟨bk,0,none⟩) n c) n (L.map CW))(hk:L[k]?=some a)(hn:0<n):w.cell? ⟨bk,k,none⟩=some (CW a):=by
 obtain⟨_,A,c',hv,_,h⟩:=Row.own h;obtain⟨b,off,hA,_,h⟩:=h hn;simp only[Value.slice.injEq]at hv;rw[<-hv.1]at hA;simp only[Option.some.injEq,Addr.mk.injEq,and_true]at hA;obtain⟨rfl,rfl⟩:=hA;have:=h k (CW a) (by simp[hk]);rw[Nat.zero_add]at this;exact this
end Zq
namespace Dea
open Go.RowKit Pl ny qj Mem Ad oG
def Af(t n:Int)(coeffs shares:List Int)(w:World)(e:Ending)(w':World):Prop:=
 Below w.heap.size w w'/\
 ((oq t n coeffs≠0/\e=.returned (.tuple #[.agg #[.int .i64 0,.int .i64 0,.slice none 0 0],.slice none 0 0,.int .i64 (oq t n coeffs)]))\/
  (oq t n coeffs=0/\∃vc vs,e=.returned (.tuple #[.agg #[.int .i64 t,.int .i64 n,vc],vs,.int .i64 0])/\
   Nums .u64 w' w'.heap.size vc (comms coeffs coeffs.length)/\Nums .u64 w' w'.heap.size vs shares))
theorem MZ:(Try.prog.info? 72).map (fun i=>(i.zero,i.size,i.bytes))=some (some (.int .u64 0),1,8):=by kernel_rfl
theorem zS:(Try.prog.info? 25).map (fun i=>(i.zero,i.size,i.bytes))=some (some (.int .u64 0),1,8):=by kernel_rfl
theorem ak2(t n:Int)(coeffs shares:List Int)(v:Value)(w:World)(hv:Nums .u64 w w.heap.size v coeffs)(hl:coeffs.length<=65536)
  (hbad:t<2\/n<t\/9<n\/(coeffs.length:Int)≠t):
  Calls Try.prog 25 #[.int .i64 t,.int .i64 n,v] w (Af t n coeffs shares w):=by
 obtain⟨A,c,rfl,hc,hcell⟩:=hv;have hE:Hid (oq t n coeffs=1):=by
  show oq t n coeffs=1;unfold oq;rw[if_pos hbad]
 clear hcell;by_cases h1:t<2
 case pos=>
  clear hbad
  go_enter Try.func25,Try.ntmps25
  go_wp2_with fail
  refine bodyPost_ret (v:=.tuple #[.agg #[.int .i64 0,.int .i64 0,.slice none 0 0],.slice none 0 0,.int .i64 1]) (by simp[results,Try.results25,go_sem]) rfl ?_;exact⟨by first|exact(Below.refl _ _).alloc (Nat.le_refl _) _|exact((Below.refl _ _).alloc (Nat.le_refl _) _).setCell (Nat.le_refl _) _,.inl ⟨by rw[hE.out];omega,by rw[hE.out]⟩⟩
 by_cases h2:n<t
 case pos=>
  clear hbad
  go_enter Try.func25,Try.ntmps25
  go_wp2_with fail
  refine bodyPost_ret (v:=.tuple #[.agg #[.int .i64 0,.int .i64 0,.slice none 0 0],.slice none 0 0,.int .i64 1]) (by simp[results,Try.results25,go_sem]) rfl ?_;exact⟨by first|exact(Below.refl _ _).alloc (Nat.le_refl _) _|exact((Below.refl _ _).alloc (Nat.le_refl _) _).setCell (Nat.le_refl _) _,.inl ⟨by rw[hE.out];omega,by rw[hE.out]⟩⟩
 by_cases h3:9<n
 case pos=>
  clear hbad
  go_enter Try.func25,Try.ntmps25
  go_wp2_with fail
  refine bodyPost_ret (v:=.tuple #[.agg #[.int .i64 0,.int .i64 0,.slice none 0 0],.slice none 0 0,.int .i64 1]) (by simp[results,Try.results25,go_sem]) rfl ?_;exact⟨by first|exact(Below.refl _ _).alloc (Nat.le_refl _) _|exact((Below.refl _ _).alloc (Nat.le_refl _) _).setCell (Nat.le_refl _) _,.inl ⟨by rw[hE.out];omega,by rw[hE.out]⟩⟩
 have h4:((coeffs.length:Int) != t)=true:=by rw[bne_iff_ne];omega
 clear hbad
 go_enter Try.func25,Try.ntmps25
 go_wp2_with fail
 refine bodyPost_ret (v:=.tuple #[.agg #[.int .i64 0,.int .i64 0,.slice none 0 0],.slice none 0 0,.int .i64 1]) (by simp[results,Try.results25,go_sem]) rfl ?_;exact⟨by first|exact(Below.refl _ _).alloc (Nat.le_refl _) _|exact((Below.refl _ _).alloc (Nat.le_refl _) _).setCell (Nat.le_refl _) _,.inl ⟨by rw[hE.out];omega,by rw[hE.out]⟩⟩
def Ue(t n:Int)(coeffs:List Int)(w:World)(b i:Value)(wr:World):Prop:=
 ∃k:Nat,∃vc:Value,k<=coeffs.length/\i=.int .i64 k/\sN coeffs k=true/\(0<k->coeffs.getD 0 0≠0)/\
  wr.ownsRow w.heap.size 72 1 b k ((coeffs.take k).map (Value.int .u64))/\
  wr.ownsRow w.heap.size 25 1 vc k ((comms coeffs k).map (Value.int .u64))/\
  bZ wr (w.heap.size+1) 28 #[.int .i64 t,.int .i64 n,vc]/\bZ wr w.heap.size 28 #[.int .i64 0,.int .i64 0,.slice none 0 0]/\Below w.heap.size w wr
theorem NY{t n:Int}{coeffs:List Int}{w w1 w2:World}{k:Nat}{x:Int}{v1 vc:Value}{A2:Option Addr}{c2 g2 cap2:Nat}{cs:Array Value}(hlt:k<coeffs.length)
  (hok:sN coeffs (k+1)=true)(hnz:coeffs.getD 0 0≠0)(hx:coeffs.getD k 0=x)
  (h1:w1.ownsRow w.heap.size 72 1 v1 (k+1) ((coeffs.take k).map (Value.int .u64)++[.int .u64 x]))
  (h2:w1.ownsRow w.heap.size 25 1 (.slice A2 k c2) k ((comms coeffs k).map (Value.int .u64)))
  (b1:bZ w1 (w.heap.size+1) 28 #[.int .i64 t,.int .i64 n,vc])(b0:bZ w1 w.heap.size 28 #[.int .i64 0,.int .i64 0,.slice none 0 0])(hb:Below w.heap.size w w1)
  (h3:w2.ownsRow w.heap.size 25 1 (.slice (some ⟨g2,0,none⟩) (k+1) cap2) (k+1) ((comms coeffs k).map (Value.int .u64)++[.int .u64 (pw 4 x.toNat 2147483579)]))
  (hg:(w1.drew.alloc (.cells cs 25)).grownBy w2 (Value.slice A2 k c2).ownBlock):
  Ue t n coeffs w v1 (.int .i64 ((k:Int)+1)) (w2.setCell ⟨w.heap.size+1,2,none⟩ (.slice (some ⟨g2,0,none⟩) (k+1) cap2)):=by
 have h2':w1.drew.ownsRow w.heap.size 25 1 (.slice A2 k c2) k ((comms coeffs k).map (Value.int .u64)):=h2;have h1':w1.drew.ownsRow w.heap.size 72 1 v1 (k+1) ((coeffs.take k).map (Value.int .u64)++[.int .u64 x]):=h1;have g1:=kJ h1' h2' (by decide) hg;have q2:=gI (show bZ w1.drew _ _ _ from b1) h2' (by decide) hg;have g0:=gI (show bZ w1.drew _ _ _ from b0) h2' (by decide) hg;have gb:=below_grown (show Below w.heap.size w w1.drew from hb.drew) h2' hb.size hg;refine⟨k+1,.slice (some ⟨g2,0,none⟩) (k+1) cap2,by omega,by go_num,hok,fun _=>hnz,?_,?_,?_,?_,gb.setCell (by show w.heap.size<=w.heap.size+1;omega) _⟩
 ·have:=jT g1 q2 (by decide) 2 (.slice (some ⟨g2,0,none⟩) (k+1) cap2);rw[Gu coeffs hlt,List.map_append,hx];exact this
 ·have:=jT h3 q2 (by decide) 2 (.slice (some ⟨g2,0,none⟩) (k+1) cap2);rw[Fv coeffs hlt,List.map_append,hx];exact this
 ·exact q2.gK 2 _
 ·exact g0.far (p:=⟨w.heap.size+1,2,none⟩) (by show w.heap.size≠w.heap.size+1;omega) _
theorem ak1{t:Int}{m:Nat}{coeffs shares:List Int}{w wr:World}{v:Value}{A2:Option Addr}{c2 base:Nat}{cs:Array Value}{x y z:Value}(H0:oq t m coeffs=0)
  (hc:wr.ownsRow w.heap.size 25 1 (.slice A2 coeffs.length c2) coeffs.length ((comms coeffs coeffs.length).map (Value.int .u64)))
  (hs:wr.ownsRow base 25 1 v m (shares.map (Value.int .u64)))(hb:bZ wr w.heap.size 28 cs)(hw:Below w.heap.size w wr):
  Af t m coeffs shares w (.returned (.tuple #[.agg #[.int .i64 t,.int .i64 (m:Int),.slice A2 coeffs.length c2],v,.int .i64 0]))
   (((wr.setCell ⟨w.heap.size,0,none⟩ x).setCell ⟨w.heap.size,1,none⟩ y).setCell ⟨w.heap.size,2,none⟩ z):=by
 have hb1:=hb.gK 0 x;have hb2:=hb1.gK 1 y;have c3:=jT (jT (jT hc hb (by decide) 0 x) hb1 (by decide) 1 y) hb2 (by decide) 2 z;have s3:=jT (jT (jT hs hb (by decide) 0 x) hb1 (by decide) 1 y) hb2 (by decide) 2 z;have hlen:shares.length=m:=by have:=s3.1;simpa using this
 refine⟨((hw.setCell (Nat.le_refl _) _).setCell (Nat.le_refl _) _).setCell (Nat.le_refl _) _,.inr ⟨H0,_,_,rfl,?_,?_⟩⟩
 ·exact Nums.own (by rw[fH coeffs (Nat.le_refl _)];exact c3)
 ·exact Nums.own (by rw[hlen];exact s3)
theorem YT(t:Int)(N:Nat)(coeffs:List Int)(v:Value)(w:World)(hv:Nums .u64 w w.heap.size v coeffs)(hl:coeffs.length<=65536)
  (hcb:∀i,i<coeffs.length->0<=coeffs.getD i 0/\coeffs.getD i 0<18446744073709551616)(h1:2<=t)(h2:t<=N)(h3:N<=9)(h4:(coeffs.length:Int)=t):
  Calls Try.prog 25 #[.int .i64 t,.int .i64 (N:Int),v] w (Af t N coeffs (jR coeffs N) w):=by
 obtain⟨A,c,rfl,hc,hcell⟩:=hv;have HC:=Lib.hid hcell;have HCB:=Lib.hid hcb;have H4:=Lib.hid h4;have hE:Hid (oq t N coeffs=if coeffs.getD 0 0=0\/sN coeffs coeffs.length=false then 2 else 0):=by
  show oq t N coeffs=_;unfold oq;rw[if_neg (by omega)]
 have hne:((coeffs.length:Int) != t)=false:=by rw[bne_eq_false_iff_eq];exact h4
 have hn1:¬t<2:=by omega
 have hn2:¬(N:Int)<t:=by omega
 have hn3:¬9<(N:Int):=by omega
 have hlp:2<=coeffs.length:=by omega
 have Dh:coeffs.length<=9:=by omega
 clear hcell hcb h4;obtain⟨i0,hi,hz0,hz1,hz2⟩:=info_parts MZ;obtain⟨i1,hj,hy0,hy1,hy2⟩:=info_parts zS
 go_enter Try.func25,Try.ntmps25
 go_wp2_with fail
 go_loopw [9,40] (fun b i wr=>Ue t N coeffs w b i wr) (fun _ i _=>coeffs.length-(intOf i).toNat)
 case atStart=>
  exact⟨0,.slice none 0 0,by omega,rfl,rfl,fun h=>absurd h (by omega),World.ownsRow_nil _ _ _ _,World.ownsRow_nil _ _ _ _,
   by simpa using bZ.new (w.alloc (.cells #[.int .i64 0,.int .i64 0,.slice none 0 0] 28)) 28 #[.int .i64 t,.int .i64 (N:Int),.slice none 0 0],
   (bZ.new w 28 #[.int .i64 0,.int .i64 0,.slice none 0 0]).alloc _,((Below.refl _ _).alloc (Nat.le_refl _) _).alloc (by simp) _⟩
 case round=>
  obtain⟨k,vc,hk,rfl,hok,hnz,hown,Ya,hblk,uo,hbw⟩:=hrel;obtain⟨A1,c1,rfl⟩:=kH hown;obtain⟨A2,c2,rfl⟩:=kH Ya;have HO:=Lib.hid hown;have HOC:=Lib.hid Ya;have HK:=Lib.hid hok;have HNZ:=Lib.hid hnz;clear hown Ya hok hnz;by_cases hlt:k<coeffs.length
  ·obtain⟨b,off,rfl,hb,hcells⟩:=HC.out (by omega);have hck:=(hbw.cell (p:=⟨b,off+k,none⟩) hb).trans (hcells k hlt);have hxb:=HCB.out k hlt;clear hcells;have hc0:wr.cell? ⟨w.heap.size,0,none⟩=some (.int .i64 0):=uo.cell 0;have hc1:wr.cell? ⟨w.heap.size,1,none⟩=some (.int .i64 0):=uo.cell 1;have hc2:wr.cell? ⟨w.heap.size,2,none⟩=some (.slice none 0 0):=uo.cell 2;have hf0:=uo.frozen 0;have hf1:=uo.frozen 1;have hf2:=uo.frozen 2;have hbad:(¬coeffs.getD k 0<1073741789\/(k=0/\coeffs.getD k 0=0))->Hid (oq t N coeffs=2):=by
    intro h;show oq t N coeffs=2;rw[hE.out,if_pos];rcases h with h|⟨rfl,h⟩
    ·exact .inr (Xt coeffs hlt h)
    ·exact .inl h
   have HBAD:=Lib.hid hbad;have hstep:coeffs.getD k 0<1073741789->sN coeffs (k+1)=true:=fun h=>UG coeffs HK.out h
   have aw7:=Lib.hid hstep;have HTK:=Lib.hid (Gu coeffs hlt);have HCM:=Lib.hid (Fv coeffs hlt);have hfirst:Hid (k=0->coeffs.getD k 0=coeffs.getD 0 0):=by
    show k=0->_;rintro rfl;rfl
   clear hbad hstep;generalize hX:coeffs.getD k 0=x at*;have HX:=Lib.hid hX;clear hX;by_cases hxq:x<1073741789
   case neg=>
    have hE2:=HBAD.out (.inl hxq)
    go_wp2_with (go_at_call 30;refine(xB false x _ (by simp;omega)).mono ?_;rintro e w' ⟨rfl,rfl⟩)
    refine bodyPost_ret (v:=.tuple #[.agg #[.int .i64 0,.int .i64 0,.slice none 0 0],.slice none 0 0,.int .i64 2]) (by simp[results,Try.results25,go_sem,World.cell?_setCell_same,World.cell?_setCell_other,hc0,hc1,hc2]) rfl ?_;exact⟨by first|exact hbw|exact hbw.setCell (Nat.le_refl _) _|exact((hbw.setCell (Nat.le_refl _) _).setCell (Nat.le_refl _) _).setCell (Nat.le_refl _) _,.inl ⟨by rw[hE2.out];omega,by rw[hE2.out]⟩⟩
   have hzero:∃bz,(x==0)=bz:=⟨_,rfl⟩;obtain⟨bz,hbz⟩:=hzero;by_cases hk0:k=0
   case pos=>
    have hkz:((k:Int)==0)=true:=by rw[beq_iff_eq];omega
    have hx0:=hfirst.out hk0;cases bz
    case true=>
     have hxz:x=0:=by rwa [beq_iff_eq]at hbz
     have hE2:=HBAD.out (.inr ⟨hk0,hxz⟩);clear hxz hx0 hk0
     go_wp2_with (go_at_call 30;refine(xB true x _ (by simp;omega)).mono ?_;rintro e w' ⟨rfl,rfl⟩)
     refine bodyPost_ret (v:=.tuple #[.agg #[.int .i64 0,.int .i64 0,.slice none 0 0],.slice none 0 0,.int .i64 2]) (by simp[results,Try.results25,go_sem,World.cell?_setCell_same,World.cell?_setCell_other,hc0,hc1,hc2]) rfl ?_;exact⟨by first|exact hbw|exact hbw.setCell (Nat.le_refl _) _|exact((hbw.setCell (Nat.le_refl _) _).setCell (Nat.le_refl _) _).setCell (Nat.le_refl _) _,.inl ⟨by rw[hE2.out];omega,by rw[hE2.out]⟩⟩
    case false=>
     have NZ:Hid (coeffs.getD 0 0≠0):=by
      show coeffs.getD 0 0≠0;rw[<-hx0];rw[beq_eq_false_iff_ne]at hbz;exact hbz
     clear hc0 hc1 hc2 hf0 hf1 hf2 hx0 hk0
     go_wp2_with (first|(go_at_call 30;refine(xB true x _ (by simp;omega)).mono ?_;rintro e w' ⟨rfl,rfl⟩)|(at_builtin;refine wpList_append_own _ rfl (.tmp 61) (.tmp 63) _ rfl w.heap.size 72 i0 (.int .u64 0) 1 8 Try.underlying101 hi hz0 hz1 hz2 rfl (by decide) _ _ _ rfl (HO.out.alloc _) ⟨wr.heap.size,0,none⟩ 1 1 [.int .u64 x] rfl rfl (cell_one_new _ _ _) (by simp[Value.oneCell']) (by unfold maxLen;omega) (by omega) (by have:=hbw.size;simp;omega) ?_;intro v1 w1 hown1 hgrow1 _))
     have Ba:=below_grown hbw HO.out hbw.size hgrow1;have hblk1:=gI hblk HO.out (by decide) hgrow1;have P9:=gI uo HO.out (by decide) hgrow1;have ET:=kJ HOC.out HO.out (by decide) hgrow1;clear hgrow1 hbw hblk uo;have Zw:=Lib.hid hown1;have QA:=Lib.hid ET;clear hown1 ET;have hc2:=hblk1.cell 2;have hf2:=hblk1.frozen 2;have hsz1:=hblk1.lt
     go_region_law (first|(go_simp;refine(Ib x _ hxb.1 hxb.2).mono ?_;rintro e w' ⟨rfl,rfl⟩)|(refine step_append_lies _ (by rfl) (.tmp 66) (.tmp 69) _ (by rfl) w.heap.size 25 i1 (.int .u64 0) 1 8 Try.underlying26 hj hy0 hy1 hy2 rfl (by decide) (.slice A2 k c2) k _ (by rfl) (show(World.alloc w1.drew _).ownsRow _ _ _ _ _ _ from(show w1.drew.ownsRow _ _ _ _ _ _ from QA.out).alloc _) ⟨w1.heap.size,0,none⟩ 1 1 [.int .u64 (pw 4 x.toNat 2147483579)] (by rfl) rfl (cell_one_new _ _ _) (by simp[Value.oneCell']) (by omega) (by unfold maxLen;omega) (by omega) (by have:=Ba.size;simp;omega) (w1.heap.size+1) (by simp) ?_;intro g2 cap2 w2 hown2 hgrow2 bA9 hlt2;have hblk2:=gI (show bZ w1.drew _ _ _ from hblk1) (show w1.drew.ownsRow _ _ _ _ _ _ from QA.out) (by decide) hgrow2;have hc22:=hblk2.cell 2;have bA4:=hblk2.frozen 2))
     all_goals
      go_wp2_with fail
      refine⟨NY hlt (aw7.out hxq) NZ.out HX.out Zw.out QA.out hblk1 P9 Ba hown2 hgrow2,?_⟩;simp[intOf];omega
   case neg=>
    have hkz:((k:Int)==0)=false:=by rw[beq_eq_false_iff_ne];omega
    have NZ:=Lib.hid (HNZ.out (by omega));clear hc0 hc1 hc2 hf0 hf1 hf2;cases bz
    all_goals
     go_wp2_with (first|(go_at_call 30;refine(xB true x _ (by simp;omega)).mono ?_;rintro e w' ⟨rfl,rfl⟩)|(at_builtin;refine wpList_append_own _ rfl (.tmp 61) (.tmp 63) _ rfl w.heap.size 72 i0 (.int .u64 0) 1 8 Try.underlying101 hi hz0 hz1 hz2 rfl (by decide) _ _ _ rfl (HO.out.alloc _) ⟨wr.heap.size,0,none⟩ 1 1 [.int .u64 x] rfl rfl (cell_one_new _ _ _) (by simp[Value.oneCell']) (by unfold maxLen;omega) (by omega) (by have:=hbw.size;simp;omega) ?_;intro v1 w1 hown1 hgrow1 _))
     have Ba:=below_grown hbw HO.out hbw.size hgrow1;have hblk1:=gI hblk HO.out (by decide) hgrow1;have P9:=gI uo HO.out (by decide) hgrow1;have ET:=kJ HOC.out HO.out (by decide) hgrow1;clear hgrow1 hbw hblk uo;have Zw:=Lib.hid hown1;have QA:=Lib.hid ET;clear hown1 ET;have hc2:=hblk1.cell 2;have hf2:=hblk1.frozen 2;have hsz1:=hblk1.lt
     go_region_law (first|(go_simp;refine(Ib x _ hxb.1 hxb.2).mono ?_;rintro e w' ⟨rfl,rfl⟩)|(refine step_append_lies _ (by rfl) (.tmp 66) (.tmp 69) _ (by rfl) w.heap.size 25 i1 (.int .u64 0) 1 8 Try.underlying26 hj hy0 hy1 hy2 rfl (by decide) (.slice A2 k c2) k _ (by rfl) (show(World.alloc w1.drew _).ownsRow _ _ _ _ _ _ from(show w1.drew.ownsRow _ _ _ _ _ _ from QA.out).alloc _) ⟨w1.heap.size,0,none⟩ 1 1 [.int .u64 (pw 4 x.toNat 2147483579)] (by rfl) rfl (cell_one_new _ _ _) (by simp[Value.oneCell']) (by omega) (by unfold maxLen;omega) (by omega) (by have:=Ba.size;simp;omega) (w1.heap.size+1) (by simp) ?_;intro g2 cap2 w2 hown2 hgrow2 bA9 hlt2;have hblk2:=gI (show bZ w1.drew _ _ _ from hblk1) (show w1.drew.ownsRow _ _ _ _ _ _ from QA.out) (by decide) hgrow2;have hc22:=hblk2.cell 2;have bA4:=hblk2.frozen 2))
     all_goals
      go_wp2_with fail
      refine⟨NY hlt (aw7.out hxq) NZ.out HX.out Zw.out QA.out hblk1 P9 Ba hown2 hgrow2,?_⟩;simp[intOf];omega
  ·obtain rfl:k=coeffs.length:=by omega
   have hE0:Hid (oq t N coeffs=0):=by
    show oq t N coeffs=0;rw[hE.out,if_neg];rintro (h|h)
    ·exact HNZ.out (by omega) h
    ·rw[HK.out]at h;cases h
   have hnl:=Nums.own (k:=.u64) (l:=coeffs.take coeffs.length) (by rw[List.length_take,Nat.min_self];exact HO.out);rw[List.take_length]at hnl;have hnc:=Nums.own (k:=.u64) (l:=comms coeffs coeffs.length) (by rw[fH coeffs (Nat.le_refl _)];exact HOC.out);have HNL:=Lib.hid hnl;have HNC:=Lib.hid hnc;clear hnl hnc;obtain⟨wo,rfl⟩:∃wo:World,wo=wr:=⟨_,rfl⟩
   go_wp2_with fail
   go_loopw [15,16] (fun s i wr=>∃m:Nat,m<=N/\i=.int .i64 ((m:Int)+1)/\wr.ownsRow wo.heap.size 25 1 s m ((jR coeffs m).map (Value.int .u64))/\Below wo.heap.size wo wr) (fun _ i _=>((N:Int)+1-intOf i).toNat)
   case atStart=>exact⟨0,by omega,rfl,World.ownsRow_nil _ _ _ _,Below.refl _ _⟩
   case round=>
    obtain⟨m,hm,rfl,hs,nY⟩:=hrel;have HS:=Lib.hid hs;clear hs;by_cases hmN:m<N
    ·have hst:=Lib.hid (IG coeffs m);have bG4:=Lib.hid (HNL.out.later nY)
     go_wp2_with (first|(go_at_call 70;refine(IE _ _ (by omega) (by omega)).mono ?_;rintro e w' ⟨rfl,rfl⟩)|(go_at_call 69;refine(aY5 coeffs _ _ _ bG4.out hl).mono ?_;rintro e w' ⟨rfl,nq,rfl⟩)|(at_builtin;refine wpList_append_own _ rfl (.tmp 78) (.tmp 83) _ rfl wo.heap.size 25 i1 (.int .u64 0) 1 8 Try.underlying26 hj hy0 hy1 hy2 rfl (by decide) _ _ _ rfl ((xM HS.out nq).alloc _) ⟨wr.heap.size,0,none⟩ 1 1 [.int .u64 (poly coeffs ((m:Int)+1))] rfl rfl (cell_one_new _ _ _) (by simp[Value.oneCell']) (by unfold maxLen;omega) (by omega) (by have:=nY.size;simp;omega) ?_;intro v3 w3 hown3 hgrow3 _))
     have hbw3:=below_grown (below_drewN nY nq) (xM HS.out nq) nY.size hgrow3;refine⟨⟨m+1,by omega,by go_num,?_,hbw3⟩,?_⟩
     ·rw[hst.out,List.map_append];exact hown3
     ·simp[intOf];omega
    ·obtain rfl:m=N:=by omega
     have hblk2:=hblk.below nY hblk.lt;have yD:=uo.below nY uo.lt;have d0:wr.cell? ⟨w.heap.size+1,0,none⟩=some (.int .i64 t):=hblk2.cell 0;have d1:wr.cell? ⟨w.heap.size+1,1,none⟩=some (.int .i64 (m:Int)):=hblk2.cell 1;have d2:wr.cell? ⟨w.heap.size+1,2,none⟩=some (.slice A2 coeffs.length c2):=hblk2.cell 2;have hc0:wr.cell? ⟨w.heap.size,0,none⟩=some (.int .i64 0):=yD.cell 0;have hc1:wr.cell? ⟨w.heap.size,1,none⟩=some (.int .i64 0):=yD.cell 1;have hc2:wr.cell? ⟨w.heap.size,2,none⟩=some (.slice none 0 0):=yD.cell 2;have hf0:=yD.frozen 0;have hf1:=yD.frozen 1;have hf2:=yD.frozen 2
     go_wp2_with fail
     refine bodyPost_ret (v:=.tuple #[.agg #[.int .i64 t,.int .i64 (m:Int),.slice A2 coeffs.length c2],u15,.int .i64 0]) (by simp[results,Try.results25,go_sem,World.cell?_setCell_same,World.cell?_setCell_other,hc0,hc1,hc2]) rfl ?_;have hc':wr.ownsRow w.heap.size 25 1 (.slice A2 coeffs.length c2) coeffs.length ((comms coeffs coeffs.length).map (Value.int .u64)):=own_below HOC.out nY (Nat.le_refl _);exact ak1 (H0:=hE0.out) hc' HS.out yD (hbw.trans (nY.mono hbw.size))
end Dea
namespace Z9
open Go.RowKit Go.Conc Pl Mem
section
variable{H:Type}{enc:TypeId×Value->H}
end
theorem ku{k:IntKind}{w:World}{B:Nat}{v:Value}{l:List Int}(h:Nums k w B v l):∃A c,v=.slice A l.length c:=by
 obtain⟨A,c,rfl,_⟩:=h;exact⟨A,c,rfl⟩
theorem wf_u64{n:Int}(h:(Lit.int .u64 n).wf=true):0<=n/\n<18446744073709551616:=by
 have:=bounds_u64 h;omega
theorem wf_i64{n:Int}(h:(Lit.int .i64 n).wf=true): -9223372036854775808<=n/\n<=9223372036854775807:=bounds_i64 h
end Z9
namespace ZE
open Go.RowKit Pl ny qj Mem Z9 oG Dea
theorem bl0(t n:Int)(coeffs:List Int)(v:Value)(w:World)(hv:Nums .u64 w w.heap.size v coeffs)(hl:coeffs.length<=65536)
  (hcb:∀i,i<coeffs.length->0<=coeffs.getD i 0/\coeffs.getD i 0<18446744073709551616):
  Calls Try.prog 25 #[.int .i64 t,.int .i64 n,v] w (Af t n coeffs (jR coeffs n.toNat) w):=by
 by_cases h:t<2\/n<t\/9<n\/(coeffs.length:Int)≠t
 ·exact ak2 t n coeffs _ v w hv hl h
 ·obtain⟨N,rfl⟩:=Int.eq_ofNat_of_zero_le (show 0<=n by omega);exact YT t N coeffs v w hv hl hcb (by omega) (by omega) (by omega) (by omega)
end ZE
namespace Dlt
open Go.RowKit Pl ny Qy qj Mem Ad oG Dea mY
theorem vO:(Try.prog.info? 3).map (fun i=>(i.zero,i.size,i.bytes))=some (some (.int .i64 0),1,8):=by kernel_rfl
theorem Et{k:IntKind}{w w':World}{B:Nat}{v:Value}{l:List Int}{g:Nat}{T:TypeId}{cs:Array Value}(h:Nums k w B v l)(hb:bZ w g T cs)(hcs:∀(i:Nat) (x:Int),cs[i]?≠some (.int k x))
  (hw:∀b,b≠g->w'.heap[b]?=w.heap[b]?):Nums k w' B v l:=by
 obtain⟨A,c,rfl,hc,h⟩:=h;refine⟨A,c,rfl,hc,fun hl=>?_⟩;obtain⟨b,off,rfl,hB,h⟩:=h hl;refine⟨b,off,rfl,hB,fun i hi=>?_⟩;have hne:b≠g:=by
  rintro rfl;have h1:=h i hi;rw[hb.cell]at h1;exact hcs _ _ h1
 exact(World.cell?_of_block (hw b hne)).trans (h i hi)
theorem KH(w:World)(g:Nat)(x y z:Value)(b:Nat)(h:b≠g):(((w.setCell ⟨g,0,none⟩ x).setCell ⟨g,1,none⟩ y).setCell ⟨g,2,none⟩ z).heap[b]?=w.heap[b]?:=
 ((Below.heap_setCell _ ⟨g,2,none⟩ z b h).trans (Below.heap_setCell _ ⟨g,1,none⟩ y b h)).trans (Below.heap_setCell _ ⟨g,0,none⟩ x b h)
theorem BP(a:List Nat)(x:Nat):ints (a++[x])=ints a++[(x:Int)]:=by simp[ints]
theorem Xx{t n:Int}{A:Option Addr}{l c:Nat}:∀(i:Nat) (x:Int),(#[.int .i64 t,.int .i64 n,.slice A l c]:Array Value)[i]?≠some (.int .u64 x):=by
 intro i x
 match i with
 |0=>simp
 |1=>simp
 |2=>simp
 |i+3=>simp
theorem YS(t n seed mask:Int)(w:World)(ht: -9223372036854775808<=t/\t<=9223372036854775807)(hn: -9223372036854775808<=n/\n<=9223372036854775807)(hs:0<=seed/\seed<18446744073709551616):
  Calls Try.prog 11 #[.int .i64 t,.int .i64 n,.int .u64 seed,.int .i64 mask] w fun e w'=>
   ∃vc vs vi,e=.returned (.tuple #[.agg #[.int .i64 (dY t n),.int .i64 (jU n),vc],vs,vi,.bool true])/\
    Nums .u64 w' w'.heap.size vc (comms (jO seed (dY t n)) (jO seed (dY t n)).length)/\Nums .u64 w' w'.heap.size vs (jR (jO seed (dY t n)) (jU n))/\Nums .i64 w' w'.heap.size vi (ints (ids mask (dY t n) (jU n)))/\Below w.heap.size w w':=by
 have hN:=yw n;have hT:=Ak t n;have hp1:=fun W=>MQ n 8 W hn.1 hn.2 (by omega)
 have hp2:=fun W=>MQ t ((jU n:Int)-1) W ht.1 ht.2 (by omega)
 have hE:=Lib.hid (N7 (t:=t) (n:=n) seed);have hcb:=Lib.hid (Bl seed (dY t n));have hlen:=gB seed (dY t n);generalize jU n=N at*;generalize dY t n=T at*;generalize qA n 8=x1 at*;generalize qA t ((N:Int)-1)=x2 at*;obtain⟨hN1,hN2,hN3⟩:=hN;obtain⟨hT1,hT2,hT3⟩:=hT;have e1:2+x1=(N:Int):=hN3.symm;have e2:2+x2=(T:Int):=hT3.symm;have HP1:=Lib.hid hp1;have HP2:=Lib.hid hp2;have HLEN:=Lib.hid hlen;obtain⟨hs0,hs1⟩:=hs;obtain⟨i1,hj,hy0,hy1,hy2⟩:=info_parts zS;clear hp1 hp2 ht hn hlen hN3 hT3
 go_enter Try.func11,Try.ntmps11
 go_wp2_with fail
 refine(HP1.out _).mono ?_;rintro e w' ⟨rfl,rfl⟩
 go_wp2_with fail
 refine(HP2.out _).mono ?_;rintro e w' ⟨rfl,rfl⟩
 go_wp2_with fail
 go_loopw [12,28] (fun v i wr=>∃k:Nat,k<=T/\i=.int .i64 k/\wr.ownsRow w.heap.size 25 1 v k ((jO seed k).map (Value.int .u64))/\bZ wr w.heap.size 28 #[.int .i64 0,.int .i64 0,.slice none 0 0]/\Below w.heap.size w wr) (fun _ i _=>T-(intOf i).toNat)
 case atStart=>exact⟨0,by omega,rfl,World.ownsRow_nil _ _ _ _,bZ.new _ _ _,aK _ _⟩
 case round=>
  obtain⟨k,hk,rfl,hown,hblk,hbw⟩:=hrel;have HO:=Lib.hid hown;clear hown;by_cases hlt:k<T
  ·have hkk:(k:Int)*(k:Int)<=9*9:=Int.mul_le_mul (show(k:Int)<=9 by omega) (show(k:Int)<=9 by omega) (show(0:Int)<=(k:Int) by omega) (by decide);have hk0:0<=(k:Int)*(k:Int):=Int.mul_nonneg (by omega) (by omega);have hst:=Lib.hid (Y3 seed k);have hcf:Hid (cf seed k=iV (IntKind.u64.wrap (IntKind.u64.wrap (seed*(2*(k:Int)+1))+(k:Int)*(k:Int)))):=by
    show cf seed k=_;rfl
   have hnn:=u64_nonneg (IntKind.u64.wrap (seed*(2*(k:Int)+1))+(k:Int)*(k:Int))
   go_wp2_with (first|(go_at_call 21;refine(yB _ _ hnn).mono ?_;rintro e w' ⟨rfl,rfl⟩)|(at_builtin;rw[<-hcf.out];refine wpList_append_own _ rfl (.tmp 31) (.tmp 44) _ rfl w.heap.size 25 i1 (.int .u64 0) 1 8 Try.underlying26 hj hy0 hy1 hy2 rfl (by decide) _ _ _ rfl (HO.out.alloc _) ⟨wr.heap.size,0,none⟩ 1 1 [.int .u64 (cf seed k)] rfl rfl (cell_one_new _ _ _) (by simp[Value.oneCell']) (by unfold maxLen;omega) (by omega) (by have:=hbw.size;simp;omega) ?_;intro v1 w1 hown1 hgrow1 _))
   refine⟨⟨k+1,by omega,by go_num,by rw[hst.out,List.map_append];exact hown1,gI hblk HO.out (by decide) hgrow1,below_grown hbw HO.out hbw.size hgrow1⟩,by simp[intOf];omega⟩
  ·obtain rfl:k=T:=by omega
   have hv:=Nums.own (l:=jO seed k) (by rw[HLEN.out];exact HO.out);have hdl:=ZE.bl0 k N (jO seed k) u12 wr hv (by rw[HLEN.out];omega) (fun i hi=>by have:=hcb.out i hi;omega);have HDL:=Lib.hid hdl;clear hv hdl
   go_wp2_with fail
   refine HDL.out.mono ?_;rintro e w2 ⟨hb2,⟨hne,rfl⟩|⟨h0,vc,vs,rfl,hc,hsn⟩⟩
   ·exact absurd hE.out hne
   have hblk2:=hblk.below hb2 hblk.lt;have hbw2:=hbw.trans (hb2.mono hbw.size);rw[Int.toNat_natCast]at hsn;obtain⟨A1,c1,rfl⟩:=Z9.ku hc;obtain⟨A2,c2,rfl⟩:=Z9.ku hsn;have l1:(comms (jO seed k) (jO seed k).length).length=k:=by rw[fH _ (Nat.le_refl _),HLEN.out]
   have l2:(jR (jO seed k) N).length=N:=uI _ _;rw[l1,l2];have HC:=Lib.hid hc;have HS:=Lib.hid hsn;have HB2:=Lib.hid hblk2;have HW2:=Lib.hid hbw2;have n1:((N:Int) != (N:Int))=false:=by rw[bne_eq_false_iff_eq]
   have n2:((k:Int) != (k:Int))=false:=by rw[bne_eq_false_iff_eq]
   have n3:((0:Int) != 0)=false:=rfl;clear hc hsn hblk2 hbw2 hblk hbw hb2 HO HDL;obtain⟨i0,hi,hz0,hz1,hz2⟩:=info_parts vO;have hlv:(comms (jO seed k) (jO seed k).length).length=k:=l1;rw[l1]at HC;rw[l2]at HS
   go_wp2_with fail
   go_loopw [17,18] (fun v i wr=>∃j:Nat,j<=N/\i=.int .i64 ((j:Int)+1)/\wr.ownsRow w2.heap.size 3 1 v (gU mask k N j).length ((ints (gU mask k N j)).map (Value.int .i64))/\
    bZ wr w2.heap.size 28 #[.int .i64 k,.int .i64 N,.slice A1 k c1]/\Below w2.heap.size w2 wr) (fun _ i _=>((N:Int)+1-intOf i).toNat)
   case atStart=>exact⟨0,by omega,rfl,World.ownsRow_nil _ _ _ _,bZ.new _ _ _,aK _ _⟩
   case round=>
    obtain⟨j,hj',rfl,hown,hblk,nY⟩:=hrel;have HO:=Lib.hid hown;obtain⟨A3,c3,rfl⟩:=kH hown;have hll:=Na mask k N j;have hst:Hid (gU mask k N (j+1)=if iH mask (j+1)||decide ((gU mask k N j).length+N<k+(j+1))then gU mask k N j++[j+1]else gU mask k N j):=by
     show gU mask k N (j+1)=_;rfl
    have hba:Hid (iH mask (j+1)=(bits BinOp.and IntKind.i64 (mask/2^(j+1)) 1==1)):=by
     show iH mask (j+1)=_;rfl
    clear hown;by_cases hjN:j<N
    ·have q1:(j:Int)+1<=(N:Int):=by omega
     have q2:((j:Int)+1).toNat=j+1:=by omega
     have q3:(0:Int)<=(j:Int)+1:=by omega
     obtain⟨bb,hbb⟩:∃bb,(bits BinOp.and IntKind.i64 (mask/2^(j+1)) 1==1)=bb:=⟨_,rfl⟩;have bg4:Hid (iH mask (j+1)=bb):=by
      show iH mask (j+1)=bb;rw[hba.out,hbb]
     have happ:bb=true\/(gU mask k N j).length+N<k+(j+1)->Hid (gU mask k N (j+1)=gU mask k N j++[j+1]):=fun h=>by
      show gU mask k N (j+1)=_;rw[hst.out,bg4.out,if_pos];rw[Bool.or_eq_true,decide_eq_true_iff];exact h
     have bo8:=Lib.hid happ;have hsame:bb=false->¬(gU mask k N j).length+N<k+(j+1)->Hid (gU mask k N (j+1)=gU mask k N j):=fun h1 h2=>by
      show gU mask k N (j+1)=_;rw[hst.out,bg4.out,if_neg];rw[Bool.or_eq_true,decide_eq_true_iff,h1];rintro (h|h)
      ·cases h
      ·exact h2 h
     have bn3:=Lib.hid hsame;clear happ hsame;cases bb
     case true=>
      have hap:=bo8.out (.inl rfl)
      go_wp2_with (at_builtin;refine wpList_append_own _ rfl (.tmp 92) (.tmp 94) _ rfl w2.heap.size 3 i0 (.int .i64 0) 1 8 Try.underlying29 hi hz0 hz1 hz2 rfl (by decide) _ _ _ rfl (HO.out.alloc _) ⟨wr.heap.size,0,none⟩ 1 1 [.int .i64 ((j:Int)+1)] rfl rfl (cell_one_new _ _ _) (by simp[Value.oneCell']) (by unfold maxLen;omega) (by omega) (by have:=nY.size;simp;omega) ?_;intro v1 w1 hown1 hgrow1 _)
      refine⟨⟨j+1,by omega,by go_num,?_,gI hblk HO.out (by decide) hgrow1,below_grown nY HO.out nY.size hgrow1⟩,by simp[intOf];omega⟩;rw[hap.out,List.length_append,BP,List.map_append];exact hown1
     case false=>
      by_cases hle:(gU mask k N j).length+N<k+(j+1)
      ·have hap:=bo8.out (.inr hle)
       go_wp2_with (at_builtin;refine wpList_append_own _ rfl (.tmp 92) (.tmp 94) _ rfl w2.heap.size 3 i0 (.int .i64 0) 1 8 Try.underlying29 hi hz0 hz1 hz2 rfl (by decide) _ _ _ rfl (HO.out.alloc _) ⟨wr.heap.size,0,none⟩ 1 1 [.int .i64 ((j:Int)+1)] rfl rfl (cell_one_new _ _ _) (by simp[Value.oneCell']) (by unfold maxLen;omega) (by omega) (by have:=nY.size;simp;omega) ?_;intro v1 w1 hown1 hgrow1 _)
       refine⟨⟨j+1,by omega,by go_num,?_,gI hblk HO.out (by decide) hgrow1,below_grown nY HO.out nY.size hgrow1⟩,by simp[intOf];omega⟩;rw[hap.out,List.length_append,BP,List.map_append];exact hown1
      ·have hsm:=bn3.out rfl hle
       go_wp2_with fail
       refine⟨⟨j+1,by omega,by go_num,by rw[hsm.out];exact HO.out,hblk,nY⟩,by simp[intOf];omega⟩
    ·obtain rfl:j=N:=by omega
     have hblk2:=HB2.out.below nY HB2.out.lt;have c0:wr.cell? ⟨w2.heap.size,0,none⟩=some (.int .i64 k):=hblk.cell 0;have c1':wr.cell? ⟨w2.heap.size,1,none⟩=some (.int .i64 j):=hblk.cell 1;have c2':wr.cell? ⟨w2.heap.size,2,none⟩=some (.slice A1 k c1):=hblk.cell 2;have d0:wr.cell? ⟨w.heap.size,0,none⟩=some (.int .i64 0):=hblk2.cell 0;have d1:wr.cell? ⟨w.heap.size,1,none⟩=some (.int .i64 0):=hblk2.cell 1;have d2:wr.cell? ⟨w.heap.size,2,none⟩=some (.slice none 0 0):=hblk2.cell 2;have f0:=hblk2.frozen 0;have f1:=hblk2.frozen 1;have f2:=hblk2.frozen 2;have hbf:=HW2.out.trans (nY.mono HW2.out.size);have HBF:=Lib.hid hbf;have hq:=Lib.hid (HC.out.later nY);have hq2:=Lib.hid (HS.out.later nY);have hq3:=Lib.hid (Nums.own (l:=ints (gU mask k j j)) (by rw[qG];exact HO.out));have hlen3:=qG (gU mask k j j);have HL3:=Lib.hid hlen3;clear hbf hlen3
     go_wp2_with fail
     refine bodyPost_ret (v:=.tuple #[.agg #[.int .i64 k,.int .i64 j,.slice A1 k c1],.slice A2 j c2,.slice A3 (gU mask k j j).length c3,.bool true]) (by simp[results,Try.results11,go_sem,World.cell?_setCell_same,World.cell?_setCell_other,d0,d1,d2]) rfl ?_;refine⟨_,_,_,rfl,?_,?_,?_,((HBF.out.setCell (Nat.le_refl _) _).setCell (Nat.le_refl _) _).setCell (Nat.le_refl _) _⟩
     ·exact Et (by simpa using hq.out) hblk2 Xx (KH _ _ _ _ _)
     ·exact Et (by simpa using hq2.out) hblk2 Xx (KH _ _ _ _ _)
     ·have o3:=jT (jT (jT HO.out hblk2 (by decide) 0 (.int .i64 k)) (hblk2.gK 0 (.int .i64 k)) (by decide) 1 (.int .i64 j)) ((hblk2.gK 0 (.int .i64 k)).gK 1 (.int .i64 j)) (by decide) 2 (.slice A1 k c1);exact Nums.own (by rw[show(ints (ids mask k j)).length=(gU mask k j j).length from HL3.out];exact o3)
end Dlt
end Go.Proofs.Ytpfpokjaeffbjab
