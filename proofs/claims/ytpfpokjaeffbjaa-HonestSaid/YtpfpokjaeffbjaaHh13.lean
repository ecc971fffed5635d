/- Part of the proof: Order, Map, SigPlain, Check, Signer, SignerCommit, SignPlain, SignerSign, Lagrange, RecPlain, KeptPlain, KeptLib, BlaPlain, DealtPlain, BlaP2. -/
import Derived.Test.YtpfpokjaeffbjaaHh0
import Derived.Test.YtpfpokjaeffbjaaHh5
import Derived.Test.YtpfpokjaeffbjaaHh6
import Derived.Test.YtpfpokjaeffbjaaRows
import Derived.Maps.Keyed
import Derived.DeepKeys4
import Derived.MapKept
import Derived.ChangeMaps5
import Derived.WideLaws
import Derived.WideMake
import Derived.WalkKit
import Derived.BigQuiet
import Derived.Deep.RegionHeld3
import Derived.Deep.DeepCutAuto
import Derived.Defers
import Derived.Deep.RegionLaw
import Derived.Test.YtpfpokjaeffbjaaHh7
import Derived.Deep.AppendLies
import Derived.Test.YtpfpokjaeffbjaaHh9
import Derived.Test.YtpfpokjaeffbjaaHh10
set_option linter.unusedVariables false
set_option linter.unusedSimpArgs false
set_option maxRecDepth 100000
set_option maxHeartbeats 16000000
open Int renaming emod_emod_of_dvd→cM,eq_ofNat_of_zero_le→cw,mul_nonneg→dL,mul_emod→dA
open Bool renaming and_eq_true→aD,or_eq_true→bf
open Nat renaming lt_or_ge→bA,le_trans→aY,le_refl→aH,lt_of_lt_of_le→bU
open Go.Proofs.Try renaming prog→dS
open Option renaming map_some→cJ
open List renaming getElem?_map→cg,getElem?_eq_getElem→aN,mem_of_getElem?→cj,getD_eq_getElem?_getD→aC,length_append→dG
open Option.some renaming injEq→dD
open Go.RowKit.Below renaming heap_setCell→cu
namespace Go.Proofs.Ytpfpokjaeffbjaa
open Go renaming World→ae,Value→af,Goroutine→ah,Frame→ai,TypeId→aj,FuncId→ak,Program→au,undef→av,execOp→ax
open Go.Lib renaming hid→ay
namespace Odr
open Pl
def sq(odd:Bool)(a m h:Int):Int:=if odd then h*h%m*a%m else h*h%m
def fq(a m:Int):List Bool->Int
 |[]=>1
 |b::l=>sq b a m (fq a m l)
def val:List Bool->Nat
 |[]=>0
 |b::l=>2*val l+(if b then 1 else 0)
theorem ZQ(a:Int){m:Int}(hm:1<m)(l:List Bool):fq a m l=pw a (val l) m:=by
 induction l with
 |nil=>exact(AA a hm).symm
 |cons b l ih=>
  cases b with
  |false=>
   rw[M3 a (val (false::l)) m (by simp[val])];have e:val (false::l)/2=val l:=by simp[val]
   rw[e,<-ih];rfl
  |true=>
   rw[R9 a (val (true::l)) m (by simp[val])];have e:val (true::l)/2=val l:=by simp[val];omega
   rw[e,<-ih];rfl
def YP:List Bool:=[true,false,true,true,true,false,true,true,true,true,true,true,true,true,true,true,true,true,true,true,true,true,true,true,true,true,true,true,true,true]
theorem si:pw 4 qq 2147483579=1:=by
 have h:val YP=qq:=by decide
 have h2:fq 4 2147483579 YP=1:=by kernel_rfl
 rw[<-h,<-ZQ 4 (by omega)];exact h2
theorem yU(a:Int)(k n:Nat)(m:Int):pw a (k+n) m=pw a k m*pw a n m%m:=(wP a k n m).symm
theorem lI(a:Int)(k n:Nat)(m:Int):pw a (k*n) m=pw (pw a k m) n m:=by
 unfold pw;rw[pow_mod,Int.pow_mul]
theorem R8(n:Nat){m:Int}(h:1<m):pw 1 n m=1:=by unfold pw;rw[Int.one_pow];exact Int.emod_eq_of_lt (by omega) h
theorem qW{a m:Int}{k:Nat}(hm:1<m)(h:pw a k m=1)(n:Nat):pw a n m=pw a (n%k) m:=by
 conv=>lhs;rw[<-Nat.mod_add_div n k]
 rw[yU,lI,h,R8 _ hm,Int.mul_one];unfold pw;exact cM _ (Int.dvd_refl m)
theorem af6{a m:Int}(hm:1<m)(j k:Nat):pw a j m=1->pw a k m=1->pw a (Nat.gcd j k) m=1:=by
 induction j,k using Nat.gcd.induction with
 |H0 n=>intro _ h;rw[Nat.gcd_zero_left];exact h
 |H1 j k hj ih=>
  intro h1 h2;rw[Nat.gcd_rec];exact ih (by rw[<-qW hm h1];exact h2) h1
def Na(m lo:Nat):Nat->Bool
 |0=>true
 |n+1=>!(Nat.beq (m%(lo+n)) 0)&&Na m lo n
def Gp(m:Nat):Nat->Bool
 |0=>true
 |b+1=>Na m (256*b+2) 256&&Gp m b
theorem Lu(m lo n:Nat)(h:Na m lo n=true){d:Nat}(h1:lo<=d)(h2:d<lo+n):m%d≠0:=by
 induction n with
 |zero=>omega
 |succ n ih=>
  rw[Na,aD]at h;rcases bA d (lo+n)with hlt|hge
  ·exact ih h.2 hlt
  ·obtain rfl:d=lo+n:=by omega
   intro h0;rw[h0]at h;simp at h
theorem zL(m b:Nat)(h:Gp m b=true){d:Nat}(h1:2<=d)(h2:d<256*b+2):m%d≠0:=by
 induction b with
 |zero=>omega
 |succ b ih=>
  rw[Gp,aD]at h;rcases bA d (256*b+2)with hlt|hge
  ·exact ih h.2 hlt
  ·exact Lu m _ 256 h.1 hge (by omega)
theorem EO:Gp qq 128=true:=by kernel_rfl
theorem R7{d:Nat}(h:d ∣ qq):d=1\/d=qq:=by
 obtain⟨e,he⟩:=h;have hq:qq=1073741789:=rfl;have hd0:0<d:=by
  rcases Nat.eq_zero_or_pos d with h0|h0
  ·rw[h0,Nat.zero_mul]at he;omega
  ·exact h0
 have TF:0<e:=by
  rcases Nat.eq_zero_or_pos e with h0|h0
  ·rw[h0,Nat.mul_zero]at he;omega
  ·exact h0
 by_cases h1:d=1
 ·exact .inl h1
 by_cases h2:e=1
 ·right;rw[h2,Nat.mul_one]at he;exact he.symm
 exfalso;rcases Nat.le_total d e with hle|hle
 ·have hs:d<256*128+2:=by
   rcases bA d (256*128+2)with h|h
   ·exact h
   ·have:=Nat.mul_le_mul h (aY h hle)
    omega
  exact zL qq 128 EO (by omega) hs (by rw[he];exact Nat.mul_mod_right d e)
 ·have hs:e<256*128+2:=by
   rcases bA e (256*128+2)with h|h
   ·exact h
   ·have:=Nat.mul_le_mul (aY h hle) h
    omega
  exact zL qq 128 EO (by omega) hs (by rw[he];exact Nat.mul_mod_left d e)
theorem oG{n:Nat}(h0:0<n)(h1:n<qq):pw 4 n 2147483579≠1:=by
 intro h;have hg:=af6 (by omega) n qq h si;rcases R7 (Nat.gcd_dvd_right n qq)with h2|h2
 ·rw[h2]at hg;have:pw 4 1 2147483579=4:=by decide
  omega
 ·have:=Nat.le_of_dvd h0 (Nat.gcd_dvd_left n qq)
  omega
theorem zX{a b:Nat}(hab:a<=b)(hb:b<qq)(h:pw 4 a 2147483579=pw 4 b 2147483579):a=b:=by
 rcases bA a b with hlt|hge
 ·exfalso;have h1:pw 4 (b+(qq-a)) 2147483579=1:=by
   rw[yU,<-h,<-yU,show a+(qq-a)=qq by omega];exact si
  rw[qW (by omega) si,show b+(qq-a)=(b-a)+qq by omega,Nat.add_mod_right,Nat.mod_eq_of_lt (by omega)]at h1;exact oG (by omega) (by omega) h1
 ·omega
theorem Dg{a b:Nat}(ha:a<qq)(hb:b<qq)(h:pw 4 a 2147483579=pw 4 b 2147483579):a=b:=by
 rcases Nat.le_total a b with hle|hle
 ·exact zX hle hb h
 ·exact(zX hle ha h.symm).symm
end Odr
namespace Hv
open Go.RowKit Go.Maps Pl Mem Odr
def ou(c:Cm):af:=.agg #[.int .i64 c.id,.int .u64 c.d,.int .u64 c.e]
def DY(q:Int×Int):af:=.agg #[.int .u64 q.1,.int .u64 q.2]
def iV(id:Int)(q:Int×Int):Cm:=⟨id,pw 4 q.1.toNat 2147483579,pw 4 q.2.toNat 2147483579⟩
theorem S9{a b:Cm}(h:ou a=ou b):a=b:=by
 obtain⟨a1,a2,a3⟩:=a;obtain⟨b1,b2,b3⟩:=b;simp only[ou]at h;simp at h;obtain⟨rfl,rfl,rfl⟩:=h;rfl
theorem laidOut:laidOutB dS=true:=by kernel_rfl
theorem keyed:Keyed dS 52:=
 Keyed.of_law (deep_law_laid laidOut (m:=2) (by omega) (of_decide_eq_true (by kernel_rfl)) (by kernel_rfl) (by rw[Try.underlying52]))
theorem FD:Try.prog.cellsOf 52=3:=by kernel_rfl
def Fits(c:Cm):Prop:=(-9223372036854775808<=c.id/\c.id<=9223372036854775807)/\(0<=c.d/\c.d<18446744073709551616)/\(0<=c.e/\c.e<18446744073709551616)
theorem za{c:Cm}(h:Fits c):∃lk,keyOf dS 52 (ou c)=some lk:=by
 obtain⟨⟨h1,h2⟩,⟨h3,h4⟩,h5,h6⟩:=h;have hk:Try.prog.keyType 52=true:=by kernel_rfl
 have hf:(ou c).formed dS 52=true:=by simp[ou,Value.formed,Try.underlying52,FD]
 have w1:(Lit.int .i64 c.id).wf=true:=WalkArith.wf_i64 ⟨h1,h2⟩;have w2:(Lit.int .u64 c.d).wf=true:=WalkArith.wf_u64 ⟨h3,by omega⟩;have w3:(Lit.int .u64 c.e).wf=true:=WalkArith.wf_u64 ⟨h5,by omega⟩;have k1:Try.prog.cellsOf 3=1:=by kernel_rfl
 have k2:Try.prog.cellsOf 40=1:=by kernel_rfl
 obtain⟨N,hN⟩:∃N,Try.prog.types.size+1=N+1+1:=⟨Try.prog.types.size-1,by
  have:1<=Try.prog.types.size:=of_decide_eq_true (by kernel_rfl)
  omega⟩
 have hl:Try.prog.keyLits (Try.prog.types.size+1) 52 (ou c).cells.toList=some [.int .i64 c.id,.int .u64 c.d,.int .u64 c.e]:=by
  rw[hN];simp[Program.keyLits,ou,Value.cells,Try.underlying52,FD,Try.underlying3,Try.underlying40,k1,k2,w1,w2,w3]
 refine⟨.string (keyBytes [.int .i64 c.id,.int .u64 c.d,.int .u64 c.e]),?_⟩;unfold keyOf;rw[Try.underlying52];simp only[hk,hf,Bool.and_self,if_true,hl,cJ]
def lQ(w:ae)(M:Nat)(id:Int)(pl:List (Int×Int)):Prop:=
 ∃(es:Array MapEntry) (clock:Nat),w.heap[M]?=some (.map es clock)/\es.toList.map (fun e=>(e.key,e.val))=pl.map fun q=>(ou (iV id q),DY q)
theorem vE{id:Int}(h:1<=id/\id<=9)(q:Int×Int):Fits (iV id q):=by
 have h1:=nL 4 q.1.toNat (m:=2147483579) (by omega);have h2:=nL 4 q.2.toNat (m:=2147483579) (by omega);exact⟨⟨by show _<=id;omega,by show id<=_;omega⟩,⟨h1.1,by show pw 4 q.1.toNat 2147483579<_;omega⟩,h2.1,by show pw 4 q.2.toNat 2147483579<_;omega⟩
section
variable{w:ae}{M:Nat}{id:Int}{pl:List (Int×Int)}
theorem lQ.lt(h:lQ w M id pl):M<w.heap.size:=by
 obtain⟨es,clock,h,_⟩:=h;exact(Array.getElem?_eq_some_iff.1 h).1
theorem lQ.of_block{w':ae}(h:lQ w M id pl)(hb:w'.heap[M]?=w.heap[M]?):lQ w' M id pl:=by
 obtain⟨es,clock,h1,h2⟩:=h;exact⟨es,clock,hb.trans h1,h2⟩
theorem lQ.new(w:ae)(id:Int):lQ (w.alloc (.map #[] 0)) w.heap.size id []:=⟨#[],0,heap_alloc_new w _,rfl⟩
theorem Dj{es:Array MapEntry}(h:es.toList.map (fun e=>(e.key,e.val))=pl.map fun q=>(ou (iV id q),DY q))(j:Nat):es.toList[j]?.map (fun e=>(e.key,e.val))=pl[j]?.map fun q=>(ou (iV id q),DY q):=by
 have:=congrArg (fun l=>l[j]?) h
 simpa [cg]using this
theorem BB(hid:1<=id/\id<=9){es:Array MapEntry}(h:es.toList.map (fun e=>(e.key,e.val))=pl.map fun q=>(ou (iV id q),DY q)){c:Cm}(hc:Fits c)(w:ae):
  ((Instr.findKey 52 (ou c) es.toList).run dS w=.ok none w/\∀q∈pl,iV id q≠c)\/
  ∃j q,(Instr.findKey 52 (ou c) es.toList).run dS w=.ok (some (j,DY q)) w/\pl[j]?=some q/\iV id q=c:=by
 obtain⟨lk,hlk⟩:=za hc;have hall:∀e∈es.toList,∃l,keyOf dS 52 e.key=some l:=by
  intro e he;obtain⟨j,hj,rfl⟩:=List.mem_iff_getElem.1 he;have:=Dj h j
  rw[aN hj]at this;cases hq:pl[j]? with
  |none=>rw[hq]at this;cases this
  |some q=>
   rw[hq]at this;simp only[cJ,dD,Prod.mk.injEq]at this;rw[this.1];exact za (vE hid q)
 rcases keyed.find w hlk es.toList hall with⟨h1,h2⟩|⟨j,e,h1,h2,h3⟩
 ·refine .inl ⟨h1,fun q hq hqc=>?_⟩;obtain⟨j,hj,rfl⟩:=List.mem_iff_getElem.1 hq;have:=Dj h j
  rw[aN hj]at this;cases he:es.toList[j]? with
  |none=>rw[he]at this;cases this
  |some e=>
   rw[he]at this;simp only[cJ,dD,Prod.mk.injEq]at this;exact h2 e (cj he) (by rw[this.1,hqc])
 ·have:=Dj h j
  rw[h2]at this;cases hq:pl[j]? with
  |none=>rw[hq]at this;cases this
  |some q=>
   rw[hq]at this;simp only[cJ,dD,Prod.mk.injEq]at this;exact .inr ⟨j,q,by rw[h1,this.2],hq,S9 (by rw[<-this.1,h3])⟩
theorem Aw:Try.prog.underlying 157=some (.map 52 161):=Try.underlying157
theorem O8:Try.prog.underlying 157=some (.map (Try.prog.mapKeyOf 157) (Try.prog.mapElemOf 157)):=by
 simp[Program.mapKeyOf,Program.mapElemOf]
theorem MS(h:lQ w M id pl)(ty:aj):(Builtin.len_ #[157] ty #[.map (some M)]).run dS w=.ok (goInt pl.length) w:=by
 obtain⟨es,clock,h1,h2⟩:=h;have hl:=congrArg List.length h2;simp at hl;rw[run_len_map w 157 ty M es clock O8 h1,hl]
theorem Gc(h:lQ w M id pl)(hid:1<=id/\id<=9)(hinj:∀q∈pl,∀q'∈pl,iV id q=iV id q'->q=q'){c:Cm}(hc:Fits c){q:Int×Int}(hq:q∈pl)(hqc:iV id q=c):
  (Instr.lookup 157 (.map (some M)) (ou c) true).run dS w=.ok (.tuple #[DY q,.bool true]) w:=by
 obtain⟨es,clock,h1,h2⟩:=h;obtain⟨lk,hlk⟩:=za hc;have yt:=keyed.check w es.isEmpty hlk;rcases BB hid h2 hc w with⟨h3,h4⟩|⟨j,q',h3,h4,h5⟩
 ·exact absurd hqc (h4 q hq)
 ·have e:q'=q:=hinj q' (cj h4) q hq (h5.trans hqc.symm);rw[e]at h3;simp[Instr.lookup,run_underlying Aw,MapKept.run_getObj_map h1,yt,h3]
theorem Iu(h:lQ w M id pl)(hid:1<=id/\id<=9){c:Cm}(hc:Fits c)(hq:∀q∈pl,iV id q≠c):
  (Instr.lookup 157 (.map (some M)) (ou c) true).run dS w=.ok (.tuple #[DY (0,0),.bool false]) w:=by
 obtain⟨es,clock,h1,h2⟩:=h;obtain⟨lk,hlk⟩:=za hc;have yt:=keyed.check w es.isEmpty hlk;rcases BB hid h2 hc w with⟨h3,h4⟩|⟨j,q',h3,h4,h5⟩
 ·simp[Instr.lookup,run_underlying Aw,MapKept.run_getObj_map h1,yt,h3];rfl
 ·exact absurd h5 (hq q' (cj h4))
theorem nK{α β:Type}(f:α->β):∀(l:List α) (j:Nat),(l.eraseIdx j).map f=(l.map f).eraseIdx j
 |[],j=>by simp
 |a::l,0=>by simp
 |a::l,j+1=>by simp[nK f l j]
theorem BU{es:Array MapEntry}{clock:Nat}(h:w.heap[M]?=some (.map es clock))(o:Obj):w.grownBy {w with heap:=w.heap.setIfInBounds M o} (some M)/\({w with heap:=w.heap.setIfInBounds M o}:ae).heap[M]?=some o:=by
 have hlt:M<w.heap.size:=(Array.getElem?_eq_some_iff.1 h).1;refine⟨⟨rfl,rfl,rfl,by simp,fun k hk hne=>?_⟩,?_⟩
 ·show(w.heap.setIfInBounds M o)[k]?=w.heap[k]?;rw[Array.getElem?_setIfInBounds_ne (fun e=>hne (by rw[e]))]
 ·show(w.heap.setIfInBounds M o)[M]?=some o;rw[Array.getElem?_setIfInBounds_self_of_lt hlt]
theorem D6(h:lQ w M id pl)(hid:1<=id/\id<=9)(q:Int×Int)(hq:∀q'∈pl,iV id q'≠iV id q):
  ∃w',(Instr.mapUpdate 157 (.map (some M)) (ou (iV id q)) (DY q)).run dS w=.ok () w'/\lQ w' M id (pl++[q])/\w.grownBy w' (some M):=by
 obtain⟨es,clock,h1,h2⟩:=h;obtain⟨lk,hlk⟩:=za (vE hid q);have yt:=keyed.check w false hlk;rcases BB hid h2 (vE hid q) w with⟨h3,h4⟩|⟨j,q',h3,h4,h5⟩
 ·obtain⟨g1,g2⟩:=BU h1 (.map (es.push {key:=ou (iV id q),val:=DY q,born:=clock}) (clock+1));refine⟨_,?_,⟨_,_,g2,?_⟩,g1⟩
  ·simp[Instr.mapUpdate,run_underlying Aw,MapKept.run_getObj_map h1,yt,h3,MapKept.run_setObj_map _ h1]
  ·simp[h2]
 ·exact absurd h5 (hq q' (cj h4))
theorem K9(h:lQ w M id pl)(hid:1<=id/\id<=9){j:Nat}{q:Int×Int}(hj:pl[j]?=some q)(hinj:∀i q',pl[i]?=some q'->iV id q'=iV id q->i=j)(ty:aj):
  ∃w',(Builtin.delete_ #[157,52] ty #[.map (some M),ou (iV id q)]).run dS w=.ok (.tuple #[]) w'/\lQ w' M id (pl.eraseIdx j)/\w.grownBy w' (some M):=by
 obtain⟨es,clock,h1,h2⟩:=h;obtain⟨lk,hlk⟩:=za (vE hid q);have yt:=keyed.check w es.isEmpty hlk;rcases BB hid h2 (vE hid q) w with⟨h3,h4⟩|⟨i,q',h3,h4,h5⟩
 ·exact absurd rfl (h4 q (cj hj))
 ·have e:i=j:=hinj i q' h4 h5;subst e;obtain⟨g1,g2⟩:=BU h1 (.map (es.eraseIdxIfInBounds i) clock);refine⟨_,?_,⟨_,_,g2,?_⟩,g1⟩
  ·simp[Builtin.delete_,run_underlying Aw,MapKept.run_getObj_map h1,yt,h3,MapKept.run_setObj_map _ h1]
  ·have hlen:=congrArg List.length h2;simp at hlen;have hi:i<es.size:=by rw[hlen];exact(List.getElem?_eq_some_iff.1 h4).1
   rw[Array.eraseIdxIfInBounds,dif_pos hi,Array.toList_eraseIdx,nK,h2,nK]
end
end Hv
namespace Ht
open Go.RowKit Pl ni oa ng Mem Hv Odr nO
def newE(t n:Int)(cs:List Int)(id share:Int):Int:=if jb t n cs id share≠0 then jb t n cs id share else if qL t n cs id share=false then 8 else 0
theorem LB{t n:Int}{cs:List Int}{id share:Int}(h:jb t n cs id share≠0):newE t n cs id share=jb t n cs id share:=by unfold newE;rw[if_pos h]
theorem LA{t n:Int}{cs:List Int}{id share:Int}(h:jb t n cs id share=0)(h2:qL t n cs id share=false):newE t n cs id share=8:=by unfold newE;rw[if_neg (fun h'=>h' h),if_pos h2]
theorem Nh{t n:Int}{cs:List Int}{id share:Int}(h:jb t n cs id share=0)(h2:qL t n cs id share=true):newE t n cs id share=0:=by unfold newE;rw[if_neg (fun h'=>h' h),if_neg (by rw[h2];simp)]
theorem Kq{t n:Int}{cs:List Int}{id share:Int}(h:jb t n cs id share=0):fW t n cs=true/\1<=id/\id<=n/\share<1073741789:=by
 unfold jb at h;by_cases h1:fW t n cs=false
 ·rw[if_pos h1]at h;omega
 rw[if_neg h1]at h;by_cases h2:id<1\/n<id
 ·rw[if_pos h2]at h;omega
 rw[if_neg h2]at h;by_cases h3:1073741789<=share
 ·rw[if_pos h3]at h;omega
 ·exact⟨by simpa using h1,by omega,by omega,by omega⟩
structure St where
 t:Int
 n:Int
 cs:List Int
 id:Int
 share:Int
 pl:List (Int×Int)
structure Ok(s:St):Prop where
 rY:fW s.t s.n s.cs=true
 id1:1<=s.id
 idn:s.id<=s.n
 sh0:0<=s.share
 VZ:s.share<1073741789
 few:s.pl.length<=6
 sc:∀q∈s.pl,(0<q.1/\q.1<1073741789)/\(0<q.2/\q.2<1073741789)
 uniq:s.pl.Pairwise (·≠·)
theorem Ok.spec{s:St}(h:Ok s):2<=s.t/\s.t<=s.n/\s.n<=9/\(s.cs.length:Int)=s.t/\s.cs.getD 0 0≠1/\(∀i,i<s.cs.length->jQ (s.cs.getD i 0)=true):=by
 have h1:=jZ h.rY;exact⟨h1.1,h1.2.1,h1.2.2.1,h1.2.2.2.1,h1.2.2.2.2.1,fun i hi=>rZ h.rY hi⟩
theorem Ok.id9{s:St}(h:Ok s):1<=s.id/\s.id<=9:=by
 have:=h.spec;have:=h.id1;have:=h.idn;omega
theorem Ok.key{s:St}(h:Ok s):0<s.cs.length/\(0<s.cs.getD 0 0/\s.cs.getD 0 0<2147483579):=by
 have h1:=h.spec;exact⟨by omega,rX (h1.2.2.2.2.2 0 (by omega))⟩
theorem Dr{id:Int}{q q':Int×Int}(h1:(0<q.1/\q.1<1073741789)/\(0<q.2/\q.2<1073741789))(h2:(0<q'.1/\q'.1<1073741789)/\(0<q'.2/\q'.2<1073741789))(h:iV id q=iV id q'):q=q':=by
 have e:qq=1073741789:=rfl;simp only[iV,Cm.mk.injEq,true_and]at h;have a1:=Dg (a:=q.1.toNat) (b:=q'.1.toNat) (by omega) (by omega) h.1;have a2:=Dg (a:=q.2.toNat) (b:=q'.2.toNat) (by omega) (by omega) h.2;obtain⟨x,y⟩:=q;obtain⟨x',y'⟩:=q';simp only at h1 h2 a1 a2;rw[Prod.mk.injEq];omega
theorem VS{pl:List (Int×Int)}(h:pl.Pairwise (·≠·)){i j:Nat}{q:Int×Int}(hi:pl[i]?=some q)(hj:pl[j]?=some q):i=j:=by
 obtain⟨hi',ei⟩:=List.getElem?_eq_some_iff.1 hi;obtain⟨hj',ej⟩:=List.getElem?_eq_some_iff.1 hj;rcases Nat.lt_trichotomy i j with hlt|heq|hgt
 ·exact absurd (ei.trans ej.symm) (List.pairwise_iff_getElem.1 h i j hi' hj' hlt)
 ·exact heq
 ·exact absurd (ej.trans ei.symm) (List.pairwise_iff_getElem.1 h j i hj' hi' hgt)
theorem Ok.aw0{s:St}(h:Ok s){j:Nat}{q:Int×Int}(hj:s.pl[j]?=some q):∀i q',s.pl[i]?=some q'->iV s.id q'=iV s.id q->i=j:=fun i q' hi he=>by
 have e:=Dr (h.sc q' (cj hi)) (h.sc q (cj hj)) he;subst e;exact VS h.uniq hi hj
def zy(s:St)(d e:Int):Int:=if d=0\/e=0\/1073741789<=d\/1073741789<=e then 2 else if(d,e)∈s.pl then 15 else if s.pl.length=6 then 9 else 0
def Km(s:St)(d e:Int):St:=if zy s d e=0 then{s with pl:=s.pl++[(d,e)]}else s
def UF(s:St)(d e:Int):Cm:=if zy s d e=0 then iV s.id (d,e)else .zero
theorem BG{s:St}{d e:Int}(h:d=0\/e=0\/1073741789<=d\/1073741789<=e):zy s d e=2:=by unfold zy;rw[if_pos h]
theorem UE{s:St}{d e:Int}(h:¬(d=0\/e=0\/1073741789<=d\/1073741789<=e))(h2:(d,e)∈s.pl):zy s d e=15:=by unfold zy;rw[if_neg h,if_pos h2]
theorem Qz{s:St}{d e:Int}(h:¬(d=0\/e=0\/1073741789<=d\/1073741789<=e))(h2:(d,e)∉s.pl)(h3:s.pl.length=6):zy s d e=9:=by unfold zy;rw[if_neg h,if_neg h2,if_pos h3]
theorem OE{s:St}{d e:Int}(h:¬(d=0\/e=0\/1073741789<=d\/1073741789<=e))(h2:(d,e)∉s.pl)(h3:s.pl.length≠6):zy s d e=0:=by unfold zy;rw[if_neg h,if_neg h2,if_neg h3]
theorem vH{s:St}{d e:Int}(h:zy s d e≠0):Km s d e=s/\UF s d e=.zero:=⟨by unfold Km;rw[if_neg h],by unfold UF;rw[if_neg h]⟩
theorem Kl{s:St}{d e:Int}(h:zy s d e=0):Km s d e={s with pl:=s.pl++[(d,e)]}/\UF s d e=iV s.id (d,e):=⟨by unfold Km;rw[if_pos h],by unfold UF;rw[if_pos h]⟩
end Ht
namespace Chk
open Go.RowKit Pl ni oa nU Mem nO O2 ED
theorem av3(t n:Int)(cs:List Int)(v:af)(id share:Int)(w:ae)(hv:gA .u64 w w.heap.size v cs)(hl:cs.length<=65536)(hcb:∀i,i<cs.length->0<=cs.getD i 0)
  (hs:0<=share/\share<18446744073709551616):
  Calls dS 30 #[.agg #[.int .i64 t,.int .i64 n,v],.int .i64 id,.int .u64 share] w fun e w'=>e=.returned (.tuple #[.bool (qL t n cs id share),.int .i64 (jb t n cs id share)])/\Below w.heap.size w w':=by
 have gy:=eD w (.cells #[.int .i64 t,.int .i64 n,v] 31);have hof:=ofC t n cs v _ (hv.later gy) hl hcb;have HOF:=ay hof;have HBW:=ay gy;obtain⟨A,c,rfl,-⟩:=hv;clear hof gy;obtain⟨hs0,hs1⟩:=hs;go_enter Try.func30,Try.ntmps30
 go_wp2_with fail
 refine HOF.out.mono ?_;rintro e w1 ⟨xb,⟨hok,rfl⟩|⟨hok,g,vc,rfl,hg,hG,hO⟩⟩
 ·have hE:=ay (GZ (id:=id) (share:=share) hok);have hF:=ay (sB (t:=t) (n:=n) (cs:=cs) (id:=id) (share:=share) (by rw[hE.out];omega));clear hok;go_wp2_with fail
  go_ret2
  exact⟨by rw[hE.out,hF.out];rfl,HBW.out.trans (xb.mono (by simp))⟩
 have zm:Below w.heap.size w w1:=HBW.out.trans (xb.mono (by simp));have aN6:=jZ hok;have hat:=ay (fun j (hj:j<cs.length)=>rZ hok hj);obtain⟨s1,s2,s3,s4,s5,s6⟩:=aN6;have hg':w.heap.size<=g:=by simp at hg<;>omega
 obtain⟨c0,c1,c2,c3,c4⟩:=hG.cells;have HG:=ay hG;have HO:=ay hO;have HW:=ay zm;clear hG hO zm xb hg s5 s6 c0 c2 c3 c4;obtain⟨b1,e1⟩:∃b,decide (share<1073741789)=b:=⟨_,rfl⟩;have E1:=ay e1;clear e1;by_cases c1:id<1;case pos=>
  have hE:=ay (FB (id:=id) (share:=share) hok (.inl c1));have hF:=ay (sB (t:=t) (n:=n) (cs:=cs) (id:=id) (share:=share) (by rw[hE.out];omega));clear hok;cases b1;all_goals
   go_wp2_with (go_at_call 41;refine(vQ _ share _ E1.out).mono ?_;rintro e w' ⟨rfl,rfl⟩)
   go_ret2
   exact⟨by rw[hE.out,hF.out];rfl,HW.out⟩
 by_cases c2:n<id;case pos=>
  have hE:=ay (FB (id:=id) (share:=share) hok (.inr c2));have hF:=ay (sB (t:=t) (n:=n) (cs:=cs) (id:=id) (share:=share) (by rw[hE.out];omega));clear hok;cases b1;all_goals
   go_wp2_with (go_at_call 41;refine(vQ _ share _ E1.out).mono ?_;rintro e w' ⟨rfl,rfl⟩)
   go_ret2
   exact⟨by rw[hE.out,hF.out];rfl,HW.out⟩
 cases b1;case false=>
  have hE:=ay (QE (id:=id) (share:=share) hok (by omega) (by have:=E1.out;rw[decide_eq_false_iff_not]at this;omega));have hF:=ay (sB (t:=t) (n:=n) (cs:=cs) (id:=id) (share:=share) (by rw[hE.out];omega));clear hok;go_wp2_with (go_at_call 41;refine(vQ _ share _ E1.out).mono ?_;rintro e w' ⟨rfl,rfl⟩)
  go_ret2
  exact⟨by rw[hE.out,hF.out];rfl,HW.out⟩
 have hE:=ay (FA (id:=id) (share:=share) hok (by omega) (by have:=E1.out;rw[decide_eq_true_iff]at this;omega));have hF:=ay (FC hE.out);obtain⟨N,rfl⟩:=cw (show 0<=n by omega);have hsh:=ay (ad9 g t N vc cs _ id w1 HG.out HO.out (by omega) (by omega) (by omega) hat.out (by omega) (by omega));clear hok;go_wp2_with (first|(go_at_call 41;refine(vQ _ share _ E1.out).mono ?_;rintro e w' ⟨rfl,rfl⟩)|(go_at_call 42;refine(FH share _ hs0 hs1).mono ?_;rintro e w' ⟨rfl,rfl⟩)|(go_at_call 66;refine hsh.out.mono ?_;rintro e w2 ⟨rfl,hG2,hgr⟩))
 go_ret2
 exact⟨by rw[hE.out,hF.out];rfl,HW.out.trans (Eu hgr hg' HW.out.size)⟩
end Chk
namespace tP
open Go.RowKit Go.MuLone Go.Conc.Locks Pl ni oa ng nU Mem Hv Ht nO O2 ED Chk Lck
structure Only(X:List Nat)(w w':ae):Prop where
 os:w'.os=w.os
 tape:w'.tape=w.tape
 output:w'.output=w.output
 size:w.heap.size<=w'.heap.size
 block:∀k,k<w.heap.size->k∉X->w'.heap[k]?=w.heap[k]?
theorem Only.refl(X:List Nat)(w:ae):Only X w w:=⟨rfl,rfl,rfl,aH _,fun _ _ _=>rfl⟩
theorem Only.trans{X:List Nat}{a b c:ae}(h:Only X a b)(k:Only X b c):Only X a c:=
 ⟨k.os.trans h.os,k.tape.trans h.tape,k.output.trans h.output,aY h.size k.size,fun i hi hx=>(k.block i (bU hi h.size) hx).trans (h.block i hi hx)⟩
theorem Only.of_below{X:List Nat}{a b:ae}(h:Below a.heap.size a b):Only X a b:=⟨h.os,h.tape,h.output,h.size,fun i hi _=>h.block i hi⟩
theorem Only.EI{X:List Nat}{a b c:ae}(h:Only X a b)(k:Below b.heap.size b c):Only X a c:=h.trans (.of_below k)
theorem Only.iK{X:List Nat}{a b:ae}(h:Only X a b){g:Nat}(hg:g∈X)(i:Nat)(u:af):Only X a (b.setCell ⟨g,i,none⟩ u):=
 h.trans ⟨rfl,rfl,rfl,by simp,fun k hk hx=>cu b ⟨g,i,none⟩ u k (fun e=>hx (by rw[e];exact hg))⟩
theorem Only.pN{X:List Nat}{a b:ae}(h:Only X a b){g:Nat}(hg:a.heap.size<=g)(i:Nat)(u:af):Only X a (b.setCell ⟨g,i,none⟩ u):=
 ⟨h.os,h.tape,h.output,by have:=h.size;simpa using this,fun k hk hx=>(cu b ⟨g,i,none⟩ u k (fun e=>by rw[e]at hk;exact absurd hk (by show¬g<_;omega))).trans (h.block k hk hx)⟩
theorem Only.grown{X:List Nat}{a b c:ae}(h:Only X a b){g:Nat}(hg:g∈X)(k:b.grownBy c (some g)):Only X a c:=
 h.trans ⟨k.os,k.tape,k.output,k.size,fun i hi hx=>k.block i hi (fun e=>hx (by injection e with e;rw[e];exact hg))⟩
theorem Only.alloc{X:List Nat}{a b:ae}(h:Only X a b)(o:Obj):Only X a (b.alloc o):=h.EI (eD _ _)
theorem Only.drew{X:List Nat}{a b:ae}(h:Only X a b):Only X a b.drew:=⟨h.os,h.tape,h.output,h.size,h.block⟩
theorem Only.blk{X:List Nat}{a b:ae}(h:Only X a b){g:Nat}{t:aj}{cs:Array af}(hb:fF a g t cs)(hg:g∉X):fF b g t cs:=(h.block g hb.lt hg).trans hb
def rM(l:Int)(g:Nat)(id share:Int)(M:Nat):Array af:=#[.int .i32 l,.int .u32 0,.pointer (some ⟨g,0,none⟩),.int .i64 id,.int .u64 share,.map (some M)]
structure Loc where
 S:Nat
 g:Nat
 gc:Nat
 cap:Nat
 M:Nat
 base:Nat
def Loc.foot(a:Loc):List Nat:=[a.S,a.g,a.gc,a.M]
structure jI(w:ae)(a:Loc)(s:St):Prop where
 sg:fF w a.S 159 (rM 0 a.g s.id s.share a.M)
 rY:ig w a.g s.t s.n (.slice (some ⟨a.gc,0,none⟩) s.cs.length a.cap) 0 0 s.cs 1
 own:mA w a.base (.slice (some ⟨a.gc,0,none⟩) s.cs.length a.cap) s.cs
 map:lQ w a.M s.id s.pl
theorem qY{w w':ae}{base:Nat}{e:aj}{size n gc cap:Nat}{xs:List af}(h:w.ownsRow base e size (.slice (some ⟨gc,0,none⟩) n cap) n xs)(hb:w'.heap[gc]?=w.heap[gc]?):w'.ownsRow base e size (.slice (some ⟨gc,0,none⟩) n cap) n xs:=by
 refine⟨h.1,?_⟩;rcases h.2 with h2|⟨g,cp,cur,hv,hbg,hh,r⟩
 ·exact .inl h2
 ·simp only[Value.slice.injEq,dD,Addr.mk.injEq,and_true,true_and]at hv;obtain⟨rfl,rfl⟩:=hv;exact .inr ⟨gc,cap,cur,rfl,hbg,hb.trans hh,r⟩
theorem ag1{w:ae}{base:Nat}{e:aj}{size n gc cap:Nat}{xs:List af}(h:w.ownsRow base e size (.slice (some ⟨gc,0,none⟩) n cap) n xs):base<=gc/\gc<w.heap.size:=h.lt gc rfl
theorem jI.keep{w w':ae}{a:Loc}{s:St}(h:jI w a s)(hb:∀k∈a.foot,w'.heap[k]?=w.heap[k]?):jI w' a s:=by
 refine⟨(hb a.S (by simp[Loc.foot])).trans h.sg,?_,qY h.own (hb a.gc (by simp[Loc.foot])),h.map.of_block (hb a.M (by simp[Loc.foot]))⟩;obtain⟨C,hC,r⟩:=h.rY;exact⟨C,(hb a.g (by simp[Loc.foot])).trans hC,r⟩
theorem jI.lt{w:ae}{a:Loc}{s:St}(h:jI w a s):∀k∈a.foot,k<w.heap.size:=by
 intro k hk;simp[Loc.foot]at hk;rcases hk with rfl|rfl|rfl|rfl
 ·exact h.sg.lt
 ·exact h.rY.lt
 ·exact(ag1 h.own).2
 ·exact h.map.lt
theorem jI.apart{w:ae}{a:Loc}{s:St}(h:jI w a s):a.S≠a.g/\a.S≠a.gc/\a.S≠a.M/\a.g≠a.M/\a.gc≠a.M:=by
 obtain⟨C,hC,-⟩:=h.rY;obtain⟨es,cl,hM,-⟩:=h.map;have hS:=h.sg;have hne:∀{g t cs},fF w g t cs->g≠a.M:=fun{g t cs} hg e=>by
  subst e;unfold fF at hg;rw[hM]at hg;cases hg
 refine⟨fF.ne_ hS hC (by decide),?_,hne hS,hne hC,?_⟩
 ·intro e;exact jU h.own hS (by decide) (by rw[e];rfl)
 ·rcases h.own.2 with⟨hv,-⟩|⟨g,cp,cur,hv,_,hh,_⟩
  ·cases hv
  ·simp only[Value.slice.injEq,dD,Addr.mk.injEq,and_true,true_and]at hv;obtain⟨rfl,rfl⟩:=hv;exact hne (t:=79) (cs:=cur) hh
def Hg(t n:Int)(cs:List Int)(id share:Int)(w:ae)(e:Ending)(w':ae):Prop:=
 Below w.heap.size w w'/\
 ((newE t n cs id share≠0/\e=.returned (.tuple #[.pointer none,.int .i64 (newE t n cs id share)]))\/
  (newE t n cs id share=0/\∃a:Loc,e=.returned (.tuple #[.pointer (some ⟨a.S,0,none⟩),.int .i64 0])/\jI w' a ⟨t,n,cs,id,share,[]⟩/\∀k∈a.foot,w.heap.size<=k))
theorem wU(t n:Int)(cs:List Int)(v:af)(id share:Int)(w:ae)(hv:gA .u64 w w.heap.size v cs)(hl:cs.length<=65536)(hcb:∀i,i<cs.length->0<=cs.getD i 0)
  (hs:0<=share/\share<18446744073709551616):
  Calls dS 51 #[.agg #[.int .i64 t,.int .i64 n,v],.int .i64 id,.int .u64 share] w (Hg t n cs id share w):=by
 have gy:=eD w (.cells #[.int .i64 t,.int .i64 n,v] 31);have yt:=ay (av3 t n cs v id share _ (hv.later gy) hl hcb hs);have HBW:=ay gy;have HV:=ay hv;have Mr:=ay hcb;obtain⟨A,c,rfl,-⟩:=hv;have QT:=ay (fF.new w 31 #[.int .i64 t,.int .i64 n,.slice A cs.length c]);clear gy hcb hs;obtain⟨bC,hbC⟩:∃b,qL t n cs id share=b:=⟨_,rfl⟩;rw[hbC]at yt;have HBC:=ay hbC;clear hbC;by_cases h0:jb t n cs id share=0;case neg=>
  have hE:=ay (LB h0);have HNZ:=ay h0;have hne:(jb t n cs id share != 0)=true:=by rw[bne_iff_ne];exact h0
  generalize jb t n cs id share=x at*;clear h0;go_enter Try.func51,Try.ntmps51
  go_wp2_with fail
  refine yt.out.mono ?_;rintro e w1 ⟨rfl,hb1⟩;go_wp2_with fail
  go_ret2
  exact⟨HBW.out.trans (hb1.mono (by simp)),.inl ⟨by rw[hE.out];exact HNZ.out,by rw[hE.out];rfl⟩⟩
 rw[h0]at yt;have H0:=ay h0;clear h0;have m0:((0:Int) != 0)=false:=rfl;cases bC;case false=>
  have hE:=ay (LA H0.out HBC.out);go_enter Try.func51,Try.ntmps51
  go_wp2_with fail
  refine yt.out.mono ?_;rintro e w1 ⟨rfl,hb1⟩;go_wp2_with fail
  go_ret2
  exact⟨HBW.out.trans (hb1.mono (by simp)),.inl ⟨by rw[hE.out];omega,by rw[hE.out];rfl⟩⟩
 have hE:=ay (Nh H0.out HBC.out);have hgo:=(Kq H0.out).1;have KO:=jZ hgo;have HGO:=ay hgo;have hcl:0<cs.length:=by omega
 clear hgo KO;have hmm:= @run_makeMap dS;go_enter Try.func51,Try.ntmps51
 go_wp2_with fail
 refine yt.out.mono ?_;rintro e w1 ⟨rfl,hb1⟩;have XD:=QT.out.below hb1 QT.out.lt;have c0:w1.cell? ⟨w.heap.size,0,none⟩=some (.int .i64 t):=XD.cell 0;have c1:w1.cell? ⟨w.heap.size,1,none⟩=some (.int .i64 n):=XD.cell 1;have c2:w1.cell? ⟨w.heap.size,2,none⟩=some (.slice A cs.length c):=XD.cell 2;have xb:=HBW.out.trans (hb1.mono (by simp));have hof:=ay (ofC t n cs _ w1 (HV.out.later xb) hl Mr.out);have HW1:=ay xb;clear xb hb1 XD yt;go_wp2_with fail
 refine hof.out.mono ?_;rintro e w2 ⟨hb2,⟨hbad,rfl⟩|⟨hok,g,vc,rfl,hg,hG,hO⟩⟩
 ·rw[HGO.out]at hbad;cases hbad
 have lT:=HW1.out.trans (hb2.mono HW1.out.size);obtain⟨gc,cap,rfl,hgb,-,-,-⟩:=hO.form hcl;have HG:=ay hG;have HO:=ay hO;have HW2:=ay lT;have bs5:=ay HW1.out.size;clear hG hO lT hb2 hok;go_wp2_with fail
 go_ret2
 have ha:Below w2.heap.size w2 (w2.alloc (.map #[] 0)):=eD _ _;have hb:Below w2.heap.size w2 ((w2.alloc (.map #[] 0)).alloc (.cells (rM 0 g id share w2.heap.size) 159)):=ha.alloc (by simp) _;refine⟨HW2.out.trans (hb.mono HW2.out.size),.inr ⟨hE.out,⟨w2.heap.size+1,g,gc,cap,w2.heap.size,w1.heap.size⟩,rfl,⟨jx _ _ (by simp),HG.out.below hb HG.out.lt,iR HO.out hb nle,(lQ.new w2 id).of_block (heap_alloc_old _ _ (by simp))⟩,?_⟩⟩;have h1:=HW2.out.size;have h2:=bs5.out;intro k hk;simp[Loc.foot]at hk;omega
theorem V4{w:ae}{S g M:Nat}{id share:Int}(h:fF w S 159 (rM 0 g id share M)):fF (w.setCell ⟨S,0,none⟩ (.int .i32 1)) S 159 (rM 1 g id share M):=h.iK 0 _
theorem V5{w:ae}{S g M:Nat}{id share:Int}(h:fF w S 159 (rM 1 g id share M)):fF (w.setCell ⟨S,0,none⟩ (.int .i32 0)) S 159 (rM 0 g id share M):=h.iK 0 _
structure qN(w:ae)(a:Loc)(s:St):Prop where
 sg:fF w a.S 159 (rM 1 a.g s.id s.share a.M)
 rY:ig w a.g s.t s.n (.slice (some ⟨a.gc,0,none⟩) s.cs.length a.cap) 0 0 s.cs 1
 own:mA w a.base (.slice (some ⟨a.gc,0,none⟩) s.cs.length a.cap) s.cs
 map:lQ w a.M s.id s.pl
theorem qN.later{w w':ae}{a:Loc}{s:St}(h:qN w a s)(hb:Below w.heap.size w w'):qN w' a s:=
 ⟨h.sg.below hb h.sg.lt,h.rY.below hb h.rY.lt,iR h.own hb nle,h.map.of_block (hb.block _ h.map.lt)⟩
theorem jI.enter{w:ae}{a:Loc}{s:St}(h:jI w a s):qN (w.setCell ⟨a.S,0,none⟩ (.int .i32 1)) a s:=by
 obtain⟨n1,n2,n3,-,-⟩:=h.apart;have hb:∀k,k≠a.S->(w.setCell ⟨a.S,0,none⟩ (.int .i32 1)).heap[k]?=w.heap[k]?:=fun k hk=>cu _ ⟨a.S,0,none⟩ _ k hk;refine⟨V4 h.sg,?_,qY h.own (hb _ (Ne.symm n2)),h.map.of_block (hb _ (Ne.symm n3))⟩;obtain⟨C,hC,r⟩:=h.rY;exact⟨C,(hb _ (Ne.symm n1)).trans hC,r⟩
theorem qN.apart{w:ae}{a:Loc}{s:St}(h:qN w a s):a.S≠a.g/\a.S≠a.gc/\a.S≠a.M:=by
 obtain⟨C,hC,-⟩:=h.rY;obtain⟨es,cl,hM,-⟩:=h.map;refine⟨fF.ne_ h.sg hC (by decide),fun e=>jU h.own h.sg (by decide) (by rw[e];rfl),fun e=>?_⟩;have hS:=h.sg;unfold fF at hS;rw[e,hM]at hS;cases hS
theorem qN.leave{w:ae}{a:Loc}{s:St}(h:qN w a s):jI (w.setCell ⟨a.S,0,none⟩ (.int .i32 0)) a s:=by
 obtain⟨n1,n2,n3⟩:=h.apart;have hb:∀k,k≠a.S->(w.setCell ⟨a.S,0,none⟩ (.int .i32 0)).heap[k]?=w.heap[k]?:=fun k hk=>cu _ ⟨a.S,0,none⟩ _ k hk;refine⟨V5 h.sg,?_,qY h.own (hb _ (Ne.symm n2)),h.map.of_block (hb _ (Ne.symm n3))⟩;obtain⟨C,hC,r⟩:=h.rY;exact⟨C,(hb _ (Ne.symm n1)).trans hC,r⟩
theorem qN.cells{w:ae}{a:Loc}{s:St}(h:qN w a s):w.cell? ⟨a.S,0,none⟩=some (.int .i32 1)/\w.cell? ⟨a.S,2,none⟩=some (.pointer (some ⟨a.g,0,none⟩))/\w.cell? ⟨a.S,3,none⟩=some (.int .i64 s.id)/\
  w.cell? ⟨a.S,4,none⟩=some (.int .u64 s.share)/\w.cell? ⟨a.S,5,none⟩=some (.map (some a.M)):=⟨h.sg.cell 0,h.sg.cell 2,h.sg.cell 3,h.sg.cell 4,h.sg.cell 5⟩
theorem m8(a:Loc):a.S∈a.foot:=by simp[Loc.foot]
theorem KD(a:Loc):a.M∈a.foot:=by simp[Loc.foot]
theorem N3(w:ae)(a:Loc)(s:St)(h:jI w a s):
  Calls dS 53 #[.pointer (some ⟨a.S,0,none⟩)] w fun e w'=>e=.returned (.int .i64 s.pl.length)/\jI w' a s/\Only a.foot w w':=by
 have h0:w.cell? ⟨a.S,0,none⟩=some (.int .i32 0):=h.sg.cell 0;have hz:=h.sg.frozen 0;have hI:=h.enter;have hlk:=lock_free mq ⟨a.S,0,none⟩ w h0 hz;have HO:=ay (((Only.refl a.foot w).iK (m8 a) 0 (.int .i32 1)).iK (m8 a) 0 (.int .i32 0));obtain⟨c0,c2,c3,c4,c5⟩:=hI.cells;have HI:=ay hI;have hln:=MS hI.map 3;have hz1:=hI.sg.frozen 0;have HLK:=ay hlk;clear h h0 hz hI hlk;generalize w.setCell ⟨a.S,0,none⟩ (.int .i32 1)=w1 at*;go_enter_defers Try.func53,Try.ntmps53
 go_wp2_with (go_at_call 82;refine HLK.out.mono ?_;rintro e w' ⟨rfl,rfl⟩)
 refine leaves_cons (f:=83) (args:=#[.pointer (some ⟨a.S,0,none⟩)]) (by simp) (by simp[go_sem]) ?_;refine(unlock_deferred mq ⟨a.S,0,none⟩ .returning _ c0 hz1).mono ?_;rintro e u' w'' ⟨rfl,rfl,rfl⟩;exact⟨_,results_tmp rfl _ _ _,rfl,HI.out.leave,HO.out⟩
theorem Jq{M:Nat}{id:Int}{pl:List (Int×Int)}(hid:1<=id/\id<=9)(hinj:∀q∈pl,∀q'∈pl,iV id q=iV id q'->q=q'){c:Cm}(hc:Fits c):
  ∃q b,(∀w:ae,lQ w M id pl->(Instr.lookup 157 (.map (some M)) (ou c) true).run dS w=.ok (.tuple #[DY q,.bool b]) w)/\(b=true↔∃q'∈pl,iV id q'=c)/\(b=true->q∈pl/\iV id q=c):=by
 by_cases hq:∃q'∈pl,iV id q'=c
 ·obtain⟨q,hq1,hq2⟩:=hq;exact⟨q,true,fun w h=>Gc h hid hinj hc hq1 hq2,by simp;exact⟨q.1,q.2,hq1,hq2⟩,fun _=>⟨hq1,hq2⟩⟩
 ·exact⟨(0,0),false,fun w h=>Iu h hid hc (fun q h1 h2=>hq ⟨q,h1,h2⟩),by simp;intro x y h1 h2;exact hq ⟨(x,y),h1,h2⟩,fun h=>by cases h⟩
theorem Me{w:ae}{g:Nat}{T:aj}{x y z:af}(h:fF w g T #[x,y,z])(x' y' z':af):fF (((w.setCell ⟨g,0,none⟩ x').setCell ⟨g,1,none⟩ y').setCell ⟨g,2,none⟩ z') g T #[x',y',z']:=((h.iK 0 x').iK 1 y').iK 2 z'
theorem mD{w:ae}{a:Loc}{s:St}(h:qN w a s){g:Nat}(hg:g∉a.foot)(x y z:af):qN (((w.setCell ⟨g,0,none⟩ x).setCell ⟨g,1,none⟩ y).setCell ⟨g,2,none⟩ z) a s:=by
 have hb:∀k∈a.foot,(((w.setCell ⟨g,0,none⟩ x).setCell ⟨g,1,none⟩ y).setCell ⟨g,2,none⟩ z).heap[k]?=w.heap[k]?:=fun k hk=>by
  have hne:k≠g:=fun e=>hg (e ▸ hk);exact((cu _ ⟨g,2,none⟩ z k hne).trans (cu _ ⟨g,1,none⟩ y k hne)).trans (cu _ ⟨g,0,none⟩ x k hne)
 refine⟨(hb a.S (by simp[Loc.foot])).trans h.sg,?_,qY h.own (hb a.gc (by simp[Loc.foot])),h.map.of_block (hb a.M (by simp[Loc.foot]))⟩;obtain⟨C,hC,r⟩:=h.rY;exact⟨C,(hb a.g (by simp[Loc.foot])).trans hC,r⟩
theorem Ik{w w':ae}{a:Loc}{s:St}{pl:List (Int×Int)}(h:qN w a s)(hg:w.grownBy w' (some a.M))(hM:lQ w' a.M s.id pl):qN w' a {s with pl:=pl}:=by
 obtain⟨n1,n2,n3,n4,n5⟩:=h.leave.apart;have hlt:∀k∈a.foot,k<w.heap.size:=fun k hk=>h.leave.lt k hk |> fun h=>by simpa using h
 have hb:∀k,k<w.heap.size->k≠a.M->w'.heap[k]?=w.heap[k]?:=fun k hk hne=>hg.block k hk (by simp;exact hne);refine⟨h.sg.grown hg (by simp;exact n3),h.rY.grown hg (by simp;exact n4),qY h.own (hb _ (hlt _ (by simp[Loc.foot])) n5),hM⟩
def Vj(w:ae)(a:Loc)(s:St)(d e:Int)(B:Nat)(wx:ae):Prop:=
 qN wx a s/\fF wx w.heap.size 52 #[.int .i64 0,.int .u64 0,.int .u64 0]/\fF wx B 52 #[.int .i64 s.id,.int .u64 (pw 4 d.toNat 2147483579),.int .u64 (pw 4 e.toNat 2147483579)]/\Only a.foot w wx
theorem GY(w:ae)(a:Loc)(s:St)(d e:Int)(h:jI w a s)(hok:Ok s)(hd:0<=d/\d<18446744073709551616)(he:0<=e/\e<18446744073709551616):
  Calls dS 52 #[.pointer (some ⟨a.S,0,none⟩),.int .u64 d,.int .u64 e] w fun x w'=>x=.returned (.tuple #[ou (UF s d e),.int .i64 (zy s d e)])/\jI w' a (Km s d e)/\Only a.foot w w':=by
 have JO:=eD w (.cells #[.int .i64 0,.int .u64 0,.int .u64 0] 52);have hA:jI (w.alloc (.cells #[.int .i64 0,.int .u64 0,.int .u64 0] 52)) a s:=h.keep fun k hk=>JO.block k (h.lt k hk);have hR0:fF (w.alloc (.cells #[.int .i64 0,.int .u64 0,.int .u64 0] 52)) w.heap.size 52 #[.int .i64 0,.int .u64 0,.int .u64 0]:=fF.new _ _ _;have hRf:w.heap.size∉a.foot:=fun hk=>by have:=h.lt _ hk;omega
 have TV:a.S≠w.heap.size:=fun e=>hRf (e ▸ m8 a);have h0:(w.alloc (.cells #[.int .i64 0,.int .u64 0,.int .u64 0] 52)).cell? ⟨a.S,0,none⟩=some (.int .i32 0):=hA.sg.cell 0;have hz:=hA.sg.frozen 0;have hI:=hA.enter;have hR1:=hR0.far (p:=⟨a.S,0,none⟩) (Ne.symm TV) (.int .i32 1);have hlk:=lock_free mq ⟨a.S,0,none⟩ _ h0 hz;have XH:=((Only.refl a.foot w).alloc (.cells #[.int .i64 0,.int .u64 0,.int .u64 0] 52)).iK (m8 a) 0 (.int .i32 1);have HLK:=ay hlk;have HI:=ay hI;have HR1:=ay hR1;have QS:=ay XH;have HRF:=ay hRf;have QQ:=ay hok;have Qh:=hok.id9;have hinj:∀q∈s.pl,∀q'∈s.pl,iV s.id q=iV s.id q'->q=q':=fun q h1 q' h2 h3=>Dr (hok.sc q h1) (hok.sc q' h2) h3;have bu3:=ay hinj;obtain⟨hd0,hd1⟩:=hd;obtain⟨TF,he1⟩:=he;have bT5:w.heap.size<((w.alloc (.cells #[.int .i64 0,.int .u64 0,.int .u64 0] 52)).setCell ⟨a.S,0,none⟩ (.int .i32 1)).heap.size:=by simp
 obtain⟨c0,c2,c3,c4,c5⟩:=hI.cells;clear h hok JO hA hR0 hRf h0 hz hI hR1 hlk XH hinj c0 c2 c4;go_enter_defers Try.func52,Try.ntmps52
 go_wp2_with (go_at_call 82;refine HLK.out.mono ?_;rintro e w' ⟨rfl,rfl⟩)
 obtain⟨b1,e1⟩:∃b,decide (d<1073741789)=b:=⟨_,rfl⟩;obtain⟨b2,e2⟩:∃b,decide (e<1073741789)=b:=⟨_,rfl⟩;have E1:=ay e1;have E2:=ay e2;clear e1 e2 HLK;generalize(w.alloc (.cells #[.int .i64 0,.int .u64 0,.int .u64 0] 52)).setCell ⟨a.S,0,none⟩ (.int .i32 1)=W1 at*;refine(vQ b1 d _ E1.out).mono ?_;rintro x w' ⟨rfl,rfl⟩;go_wp2_with fail
 refine(vQ b2 e _ E2.out).mono ?_;rintro x w' ⟨rfl,rfl⟩;have hB5:W1.heap.size∉a.foot:=fun hk=>by
  have h1:∀k∈a.foot,k<W1.heap.size:=fun k hk=>HI.out.leave.lt k hk |> fun h=>by simpa using h
  exact Nat.lt_irrefl _ (h1 _ hk)
 go_upto_region 5 with fail
 go_cut [12]from 32 to 40 (fun p wx=>p=.pointer (some ⟨W1.heap.size,0,none⟩)/\Vj w a s d e W1.heap.size wx/\W1.heap.size<wx.heap.size)
 case first=>
  go_region_held3 (fun w'=>w'.cell? ⟨a.S,3,none⟩=some (.int .i64 s.id)) (go_keep)
   (first|(go_at_call 42;refine(FH _ _ (by first|exact hd0|exact TF) (by first|exact hd1|exact he1)).mono ?_;rintro x w' ⟨rfl,rfl⟩))
  all_goals
   have aq3:Below W1.heap.size W1 (W1.alloc (.cells #[.int .i64 s.id,.int .u64 (pw 4 d.toNat 2147483579),.int .u64 (pw 4 e.toNat 2147483579)] 52)).drew:=(eD _ _).drew;go_wp2_with fail
   go_meet
   exact⟨rfl,⟨HI.out.later aq3,HR1.out.below aq3 HR1.out.lt,fF.new _ _ _,QS.out.EI aq3⟩,by simp⟩
 case rest=>
  obtain⟨rfl,⟨hI5,hR5,hC5,hO5⟩,am8⟩:=hcut;rename ae=>W5
  obtain⟨q,bh,tJ,hbh,-⟩:=Jq (M:=a.M) Qh bu3.out (vE Qh (d,e));have hM5:=hI5.map;have ap1:(Instr.lookup 157 (.map (some a.M)) (.agg #[.int .i64 s.id,.int .u64 (pw 4 d.toNat 2147483579),.int .u64 (pw 4 e.toNat 2147483579)]) true).run dS W5.drew=.ok (.tuple #[.agg #[.int .u64 q.1,.int .u64 q.2],.bool bh]) W5.drew:=tJ W5.drew hM5;have hlk2:(Instr.lookup 157 (.map (some a.M)) (.agg #[.int .i64 s.id,.int .u64 (pw 4 d.toNat 2147483579),.int .u64 (pw 4 e.toNat 2147483579)]) true).run dS (W5.alloc (.cells #[.int .u64 0,.int .u64 0] 161)).drew=.ok (.tuple #[.agg #[.int .u64 q.1,.int .u64 q.2],.bool bh]) (W5.alloc (.cells #[.int .u64 0,.int .u64 0] 161)).drew:=
   tJ _ (hM5.of_block (heap_alloc_old W5 _ hM5.lt))
  have hS5:=hI5.sg.lt;have hpb:∀o:Array af,Below W5.heap.size W5 (W5.alloc (.cells o 161)).drew:=fun o=>(eD _ _).drew;have HPB:=ay hpb;obtain⟨f0,f2,f3,f4,f5⟩:=hI5.cells;have g0:W5.cell? ⟨W1.heap.size,0,none⟩=some (.int .i64 s.id):=hC5.cell 0;have g1:W5.cell? ⟨W1.heap.size,1,none⟩=some (.int .u64 (pw 4 d.toNat 2147483579)):=hC5.cell 1;have g2:W5.cell? ⟨W1.heap.size,2,none⟩=some (.int .u64 (pw 4 e.toNat 2147483579)):=hC5.cell 2;have HI5:=ay hI5;have HR5:=ay hR5;have HC5:=ay hC5;have HO5:=ay hO5;have HBH:=ay hbh;clear hI5 hR5 hC5 hO5 hbh tJ c3 c5 HI HR1 QS f0 f2 f4 hpb hM5;go_upto_region 6 with fail
  go_cut [13,14]from 41 to 49 (fun pp p wx=>p=.bool bh/\Vj w a s d e W1.heap.size wx)
  case first=>
   go_region
   all_goals
    go_wp2_with fail
    go_meet
    exact⟨rfl,HI5.out.later (HPB.out _),HR5.out.below (HPB.out _) HR5.out.lt,HC5.out.below (HPB.out _) HC5.out.lt,HO5.out.EI (HPB.out _)⟩
  case rest=>
   obtain⟨rfl,hI6,ZC,hC6,hO6⟩:=hcut;clear ap1 hlk2 hS5 f3 f5 g0 g1 g2 HI5 HR5 HC5 HO5 HPB;rename ae=>W6
   have r0:W6.cell? ⟨w.heap.size,0,none⟩=some (.int .i64 0):=ZC.cell 0;have r1:W6.cell? ⟨w.heap.size,1,none⟩=some (.int .u64 0):=ZC.cell 1;have r2:W6.cell? ⟨w.heap.size,2,none⟩=some (.int .u64 0):=ZC.cell 2;have z0:=ZC.frozen 0;have z1:=ZC.frozen 1;have z2:=ZC.frozen 2;have VM:=ay hI6;have HR6:=ay ZC;have HC6:=ay hC6;have HO6:=ay hO6;have hq0:=hO6.size;clear hI6 ZC hC6 hO6;cases b1;case false=>
    have hE:=ay (BG (s:=s) (d:=d) (e:=e) (.inr (.inr (.inl (by have:=E1.out;rw[decide_eq_false_iff_not]at this;omega)))));go_wp2_with fail
    have uS:=mD VM.out HRF.out (.int .i64 0) (.int .u64 0) (.int .u64 0);have hRe:=Me HR6.out (.int .i64 0) (.int .u64 0) (.int .u64 0);have Qm:=((HO6.out.pN (aH w.heap.size) 0 (.int .i64 0)).pN (aH w.heap.size) 1 (.int .u64 0)).pN (aH w.heap.size) 2 (.int .u64 0);generalize(((W6.setCell ⟨w.heap.size,0,none⟩ (.int .i64 0)).setCell ⟨w.heap.size,1,none⟩ (.int .u64 0)).setCell ⟨w.heap.size,2,none⟩ (.int .u64 0))=W7 at*;have yu:=hRe.far (p:=⟨a.S,0,none⟩) (Ne.symm TV) (.int .i32 0);have x0:(W7.setCell ⟨a.S,0,none⟩ (.int .i32 0)).cell? ⟨w.heap.size,0,none⟩=some (.int .i64 0):=yu.cell 0;have x1:(W7.setCell ⟨a.S,0,none⟩ (.int .i32 0)).cell? ⟨w.heap.size,1,none⟩=some (.int .u64 0):=yu.cell 1;have x2:(W7.setCell ⟨a.S,0,none⟩ (.int .i32 0)).cell? ⟨w.heap.size,2,none⟩=some (.int .u64 0):=yu.cell 2;refine leaves_cons (f:=83) (args:=#[.pointer (some ⟨a.S,0,none⟩)]) (by simp) (by simp[go_sem]) ?_;refine(unlock_deferred mq ⟨a.S,0,none⟩ .returning _ uS.cells.1 (uS.sg.frozen 0)).mono ?_;rintro x u' w'' ⟨rfl,rfl,rfl⟩;refine⟨.tuple #[.agg #[.int .i64 0,.int .u64 0,.int .u64 0],.int .i64 2],by simp[results,Try.results52,go_sem,x0,x1,x2],?_⟩;have hcb:=vH (s:=s) (d:=d) (e:=e) (by rw[hE.out];omega);exact⟨by rw[hcb.2,hE.out];rfl,by rw[hcb.1];exact uS.leave,Qm.iK (m8 a) 0 _⟩
   cases b2;case false=>
    have hE:=ay (BG (s:=s) (d:=d) (e:=e) (.inr (.inr (.inr (by have:=E2.out;rw[decide_eq_false_iff_not]at this;omega)))));go_wp2_with fail
    have uS:=mD VM.out HRF.out (.int .i64 0) (.int .u64 0) (.int .u64 0);have hRe:=Me HR6.out (.int .i64 0) (.int .u64 0) (.int .u64 0);have Qm:=((HO6.out.pN (aH w.heap.size) 0 (.int .i64 0)).pN (aH w.heap.size) 1 (.int .u64 0)).pN (aH w.heap.size) 2 (.int .u64 0);generalize(((W6.setCell ⟨w.heap.size,0,none⟩ (.int .i64 0)).setCell ⟨w.heap.size,1,none⟩ (.int .u64 0)).setCell ⟨w.heap.size,2,none⟩ (.int .u64 0))=W7 at*;have yu:=hRe.far (p:=⟨a.S,0,none⟩) (Ne.symm TV) (.int .i32 0);have x0:(W7.setCell ⟨a.S,0,none⟩ (.int .i32 0)).cell? ⟨w.heap.size,0,none⟩=some (.int .i64 0):=yu.cell 0;have x1:(W7.setCell ⟨a.S,0,none⟩ (.int .i32 0)).cell? ⟨w.heap.size,1,none⟩=some (.int .u64 0):=yu.cell 1;have x2:(W7.setCell ⟨a.S,0,none⟩ (.int .i32 0)).cell? ⟨w.heap.size,2,none⟩=some (.int .u64 0):=yu.cell 2;refine leaves_cons (f:=83) (args:=#[.pointer (some ⟨a.S,0,none⟩)]) (by simp) (by simp[go_sem]) ?_;refine(unlock_deferred mq ⟨a.S,0,none⟩ .returning _ uS.cells.1 (uS.sg.frozen 0)).mono ?_;rintro x u' w'' ⟨rfl,rfl,rfl⟩;refine⟨.tuple #[.agg #[.int .i64 0,.int .u64 0,.int .u64 0],.int .i64 2],by simp[results,Try.results52,go_sem,x0,x1,x2],?_⟩;have hcb:=vH (s:=s) (d:=d) (e:=e) (by rw[hE.out];omega);exact⟨by rw[hcb.2,hE.out];rfl,by rw[hcb.1];exact uS.leave,Qm.iK (m8 a) 0 _⟩
   have hdq:=E1.out;have heq:=E2.out;rw[decide_eq_true_iff]at hdq heq;by_cases hdz:d=0;case pos=>
    have hE:=ay (BG (s:=s) (d:=d) (e:=e) (.inl hdz));have t1:(d==0)=true:=by rw[beq_iff_eq];exact hdz
    clear hdz hdq heq;go_wp2_with fail
    have uS:=mD VM.out HRF.out (.int .i64 0) (.int .u64 0) (.int .u64 0);have hRe:=Me HR6.out (.int .i64 0) (.int .u64 0) (.int .u64 0);have Qm:=((HO6.out.pN (aH w.heap.size) 0 (.int .i64 0)).pN (aH w.heap.size) 1 (.int .u64 0)).pN (aH w.heap.size) 2 (.int .u64 0);generalize(((W6.setCell ⟨w.heap.size,0,none⟩ (.int .i64 0)).setCell ⟨w.heap.size,1,none⟩ (.int .u64 0)).setCell ⟨w.heap.size,2,none⟩ (.int .u64 0))=W7 at*;have yu:=hRe.far (p:=⟨a.S,0,none⟩) (Ne.symm TV) (.int .i32 0);have x0:(W7.setCell ⟨a.S,0,none⟩ (.int .i32 0)).cell? ⟨w.heap.size,0,none⟩=some (.int .i64 0):=yu.cell 0;have x1:(W7.setCell ⟨a.S,0,none⟩ (.int .i32 0)).cell? ⟨w.heap.size,1,none⟩=some (.int .u64 0):=yu.cell 1;have x2:(W7.setCell ⟨a.S,0,none⟩ (.int .i32 0)).cell? ⟨w.heap.size,2,none⟩=some (.int .u64 0):=yu.cell 2;refine leaves_cons (f:=83) (args:=#[.pointer (some ⟨a.S,0,none⟩)]) (by simp) (by simp[go_sem]) ?_;refine(unlock_deferred mq ⟨a.S,0,none⟩ .returning _ uS.cells.1 (uS.sg.frozen 0)).mono ?_;rintro x u' w'' ⟨rfl,rfl,rfl⟩;refine⟨.tuple #[.agg #[.int .i64 0,.int .u64 0,.int .u64 0],.int .i64 2],by simp[results,Try.results52,go_sem,x0,x1,x2],?_⟩;have hcb:=vH (s:=s) (d:=d) (e:=e) (by rw[hE.out];omega);exact⟨by rw[hcb.2,hE.out];rfl,by rw[hcb.1];exact uS.leave,Qm.iK (m8 a) 0 _⟩
   have t1:(d==0)=false:=by rw[beq_eq_false_iff_ne];exact hdz
   by_cases hez:e=0;case pos=>
    have hE:=ay (BG (s:=s) (d:=d) (e:=e) (.inr (.inl hez)));have t2:(e==0)=true:=by rw[beq_iff_eq];exact hez
    clear hdz hez hdq heq;go_wp2_with fail
    have uS:=mD VM.out HRF.out (.int .i64 0) (.int .u64 0) (.int .u64 0);have hRe:=Me HR6.out (.int .i64 0) (.int .u64 0) (.int .u64 0);have Qm:=((HO6.out.pN (aH w.heap.size) 0 (.int .i64 0)).pN (aH w.heap.size) 1 (.int .u64 0)).pN (aH w.heap.size) 2 (.int .u64 0);generalize(((W6.setCell ⟨w.heap.size,0,none⟩ (.int .i64 0)).setCell ⟨w.heap.size,1,none⟩ (.int .u64 0)).setCell ⟨w.heap.size,2,none⟩ (.int .u64 0))=W7 at*;have yu:=hRe.far (p:=⟨a.S,0,none⟩) (Ne.symm TV) (.int .i32 0);have x0:(W7.setCell ⟨a.S,0,none⟩ (.int .i32 0)).cell? ⟨w.heap.size,0,none⟩=some (.int .i64 0):=yu.cell 0;have x1:(W7.setCell ⟨a.S,0,none⟩ (.int .i32 0)).cell? ⟨w.heap.size,1,none⟩=some (.int .u64 0):=yu.cell 1;have x2:(W7.setCell ⟨a.S,0,none⟩ (.int .i32 0)).cell? ⟨w.heap.size,2,none⟩=some (.int .u64 0):=yu.cell 2;refine leaves_cons (f:=83) (args:=#[.pointer (some ⟨a.S,0,none⟩)]) (by simp) (by simp[go_sem]) ?_;refine(unlock_deferred mq ⟨a.S,0,none⟩ .returning _ uS.cells.1 (uS.sg.frozen 0)).mono ?_;rintro x u' w'' ⟨rfl,rfl,rfl⟩;refine⟨.tuple #[.agg #[.int .i64 0,.int .u64 0,.int .u64 0],.int .i64 2],by simp[results,Try.results52,go_sem,x0,x1,x2],?_⟩;have hcb:=vH (s:=s) (d:=d) (e:=e) (by rw[hE.out];omega);exact⟨by rw[hcb.2,hE.out];rfl,by rw[hcb.1];exact uS.leave,Qm.iK (m8 a) 0 _⟩
   have t2:(e==0)=false:=by rw[beq_eq_false_iff_ne];exact hez
   have lK:=ay (show¬(d=0\/e=0\/1073741789<=d\/1073741789<=e) by omega);have hmem:bh=true↔(d,e)∈s.pl:=by
    rw[HBH.out];refine⟨fun⟨q',h1,h2⟩=>?_,fun h=>⟨_,h,rfl⟩⟩;have e3:=Dr (QQ.out.sc q' h1) (q':=(d,e)) ⟨⟨by show 0<d;omega,hdq⟩,by show 0<e;omega,heq⟩ h2;rw[<-e3];exact h1
   have a27:=ay hmem;clear hdz hez hdq heq hmem;cases bh;case true=>
    have hE:=ay (UE (s:=s) lK.out (a27.out.1 rfl));go_wp2_with fail
    have uS:=mD VM.out HRF.out (.int .i64 0) (.int .u64 0) (.int .u64 0);have hRe:=Me HR6.out (.int .i64 0) (.int .u64 0) (.int .u64 0);have Qm:=((HO6.out.pN (aH w.heap.size) 0 (.int .i64 0)).pN (aH w.heap.size) 1 (.int .u64 0)).pN (aH w.heap.size) 2 (.int .u64 0);generalize(((W6.setCell ⟨w.heap.size,0,none⟩ (.int .i64 0)).setCell ⟨w.heap.size,1,none⟩ (.int .u64 0)).setCell ⟨w.heap.size,2,none⟩ (.int .u64 0))=W7 at*;have yu:=hRe.far (p:=⟨a.S,0,none⟩) (Ne.symm TV) (.int .i32 0);have x0:(W7.setCell ⟨a.S,0,none⟩ (.int .i32 0)).cell? ⟨w.heap.size,0,none⟩=some (.int .i64 0):=yu.cell 0;have x1:(W7.setCell ⟨a.S,0,none⟩ (.int .i32 0)).cell? ⟨w.heap.size,1,none⟩=some (.int .u64 0):=yu.cell 1;have x2:(W7.setCell ⟨a.S,0,none⟩ (.int .i32 0)).cell? ⟨w.heap.size,2,none⟩=some (.int .u64 0):=yu.cell 2;refine leaves_cons (f:=83) (args:=#[.pointer (some ⟨a.S,0,none⟩)]) (by simp) (by simp[go_sem]) ?_;refine(unlock_deferred mq ⟨a.S,0,none⟩ .returning _ uS.cells.1 (uS.sg.frozen 0)).mono ?_;rintro x u' w'' ⟨rfl,rfl,rfl⟩;refine⟨.tuple #[.agg #[.int .i64 0,.int .u64 0,.int .u64 0],.int .i64 15],by simp[results,Try.results52,go_sem,x0,x1,x2],?_⟩;have hcb:=vH (s:=s) (d:=d) (e:=e) (by rw[hE.out];omega);exact⟨by rw[hcb.2,hE.out];rfl,by rw[hcb.1];exact uS.leave,Qm.iK (m8 a) 0 _⟩
   have hnm:=ay (show(d,e)∉s.pl from fun h=>by have:=a27.out.2 h;cases this);have hln:=MS VM.out.map 3;have m5:=VM.out.cells.2.2.2.2;by_cases hfull:s.pl.length=6;case pos=>
    have hE:=ay (Qz (s:=s) lK.out hnm.out hfull);have t3:((s.pl.length:Int)==6)=true:=by rw[beq_iff_eq];omega
    clear hfull;go_wp2_with fail
    have uS:=mD VM.out HRF.out (.int .i64 0) (.int .u64 0) (.int .u64 0);have hRe:=Me HR6.out (.int .i64 0) (.int .u64 0) (.int .u64 0);have Qm:=((HO6.out.pN (aH w.heap.size) 0 (.int .i64 0)).pN (aH w.heap.size) 1 (.int .u64 0)).pN (aH w.heap.size) 2 (.int .u64 0);generalize(((W6.setCell ⟨w.heap.size,0,none⟩ (.int .i64 0)).setCell ⟨w.heap.size,1,none⟩ (.int .u64 0)).setCell ⟨w.heap.size,2,none⟩ (.int .u64 0))=W7 at*;have yu:=hRe.far (p:=⟨a.S,0,none⟩) (Ne.symm TV) (.int .i32 0);have x0:(W7.setCell ⟨a.S,0,none⟩ (.int .i32 0)).cell? ⟨w.heap.size,0,none⟩=some (.int .i64 0):=yu.cell 0;have x1:(W7.setCell ⟨a.S,0,none⟩ (.int .i32 0)).cell? ⟨w.heap.size,1,none⟩=some (.int .u64 0):=yu.cell 1;have x2:(W7.setCell ⟨a.S,0,none⟩ (.int .i32 0)).cell? ⟨w.heap.size,2,none⟩=some (.int .u64 0):=yu.cell 2;refine leaves_cons (f:=83) (args:=#[.pointer (some ⟨a.S,0,none⟩)]) (by simp) (by simp[go_sem]) ?_;refine(unlock_deferred mq ⟨a.S,0,none⟩ .returning _ uS.cells.1 (uS.sg.frozen 0)).mono ?_;rintro x u' w'' ⟨rfl,rfl,rfl⟩;refine⟨.tuple #[.agg #[.int .i64 0,.int .u64 0,.int .u64 0],.int .i64 9],by simp[results,Try.results52,go_sem,x0,x1,x2],?_⟩;have hcb:=vH (s:=s) (d:=d) (e:=e) (by rw[hE.out];omega);exact⟨by rw[hcb.2,hE.out];rfl,by rw[hcb.1];exact uS.leave,Qm.iK (m8 a) 0 _⟩
   have hE:=ay (OE (s:=s) lK.out hnm.out hfull);have t3:((s.pl.length:Int)==6)=false:=by rw[beq_eq_false_iff_ne];omega
   clear hfull;have g0:W6.cell? ⟨W1.heap.size,0,none⟩=some (.int .i64 s.id):=HC6.out.cell 0;have g1:W6.cell? ⟨W1.heap.size,1,none⟩=some (.int .u64 (pw 4 d.toNat 2147483579)):=HC6.out.cell 1;have g2:W6.cell? ⟨W1.heap.size,2,none⟩=some (.int .u64 (pw 4 e.toNat 2147483579)):=HC6.out.cell 2;obtain⟨W8,hst,hM8,Oe⟩:=D6 (w:=W6.drew) (M:=a.M) (pl:=s.pl) (show lQ W6.drew a.M s.id s.pl from VM.out.map) Qh (d,e) (fun q' h1 h2=>by have:=HBH.out.2 ⟨q',h1,h2⟩;cases this);have aN5:(Instr.mapUpdate 157 (.map (some a.M)) (.agg #[.int .i64 s.id,.int .u64 (pw 4 d.toNat 2147483579),.int .u64 (pw 4 e.toNat 2147483579)]) (.agg #[.int .u64 d,.int .u64 e])).run dS W6.drew=.ok () W8:=hst;have hRM:w.heap.size≠a.M:=fun e=>HRF.out (e ▸ KD a);have hCM:W1.heap.size≠a.M:=fun e=>hB5 (e ▸ KD a);have hI8:=Ik (show qN W6.drew a s from VM.out.later bre.drew) Oe hM8;have ZB:=(show fF W6.drew _ _ _ from HR6.out).grown Oe (by simp;exact hRM);have hC8:=(show fF W6.drew _ _ _ from HC6.out).grown Oe (by simp;exact hCM);have hO8:=(HO6.out.drew).grown (KD a) Oe;have q0:W8.cell? ⟨W1.heap.size,0,none⟩=some (.int .i64 s.id):=hC8.cell 0;have q1:W8.cell? ⟨W1.heap.size,1,none⟩=some (.int .u64 (pw 4 d.toNat 2147483579)):=hC8.cell 1;have q2:W8.cell? ⟨W1.heap.size,2,none⟩=some (.int .u64 (pw 4 e.toNat 2147483579)):=hC8.cell 2;have s0:W8.cell? ⟨w.heap.size,0,none⟩=some (.int .i64 0):=ZB.cell 0;have s1:W8.cell? ⟨w.heap.size,1,none⟩=some (.int .u64 0):=ZB.cell 1;have s2:W8.cell? ⟨w.heap.size,2,none⟩=some (.int .u64 0):=ZB.cell 2;have y0:=ZB.frozen 0;have y1:=ZB.frozen 1;have y2:=ZB.frozen 2;have HI8:=ay hI8;have HR8:=ay ZB;have HO8:=ay hO8;clear hst hI8 ZB hC8 hO8 Oe hM8 hRM hCM;go_wp2_with fail
   go_region
   all_goals
    go_wp2_with fail
    have uS:=mD HI8.out HRF.out (.int .i64 s.id) (.int .u64 (pw 4 d.toNat 2147483579)) (.int .u64 (pw 4 e.toNat 2147483579));have hRe:=Me HR8.out (.int .i64 s.id) (.int .u64 (pw 4 d.toNat 2147483579)) (.int .u64 (pw 4 e.toNat 2147483579));have Qm:=((HO8.out.pN (aH w.heap.size) 0 (.int .i64 s.id)).pN (aH w.heap.size) 1 (.int .u64 (pw 4 d.toNat 2147483579))).pN (aH w.heap.size) 2 (.int .u64 (pw 4 e.toNat 2147483579));generalize(((W8.setCell ⟨w.heap.size,0,none⟩ (.int .i64 s.id)).setCell ⟨w.heap.size,1,none⟩ (.int .u64 (pw 4 d.toNat 2147483579))).setCell ⟨w.heap.size,2,none⟩ (.int .u64 (pw 4 e.toNat 2147483579)))=W7 at*;have yu:=hRe.far (p:=⟨a.S,0,none⟩) (Ne.symm TV) (.int .i32 0);have x0:(W7.setCell ⟨a.S,0,none⟩ (.int .i32 0)).cell? ⟨w.heap.size,0,none⟩=some (.int .i64 s.id):=yu.cell 0;have x1:(W7.setCell ⟨a.S,0,none⟩ (.int .i32 0)).cell? ⟨w.heap.size,1,none⟩=some (.int .u64 (pw 4 d.toNat 2147483579)):=yu.cell 1;have x2:(W7.setCell ⟨a.S,0,none⟩ (.int .i32 0)).cell? ⟨w.heap.size,2,none⟩=some (.int .u64 (pw 4 e.toNat 2147483579)):=yu.cell 2;refine leaves_cons (f:=83) (args:=#[.pointer (some ⟨a.S,0,none⟩)]) (by simp) (by simp[go_sem]) ?_;refine(unlock_deferred mq ⟨a.S,0,none⟩ .returning _ uS.cells.1 (uS.sg.frozen 0)).mono ?_;rintro x u' w'' ⟨rfl,rfl,rfl⟩;refine⟨.tuple #[.agg #[.int .i64 s.id,.int .u64 (pw 4 d.toNat 2147483579),.int .u64 (pw 4 e.toNat 2147483579)],.int .i64 0],by simp[results,Try.results52,go_sem,x0,x1,x2],?_⟩;have hcg:=Kl (s:=s) (d:=d) (e:=e) hE.out;exact⟨by rw[hcg.2,hE.out];rfl,by rw[hcg.1];exact uS.leave,Qm.iK (m8 a) 0 _⟩
end tP
namespace Ht
open Go.RowKit Pl ni oa ng Mem Hv Odr nO
theorem Om{n:Int}{l:List Cm}(h:ng.Good n l){j:Nat}(hj:j<l.length):∀i,i<j->(l.getD i .zero).id<(l.getD j .zero).id:=by
 induction j with
 |zero=>intro i hi;omega
 |succ j ih=>
  intro i hi;have h1:=(h (j+1) hj).2.1 (by omega);simp only[Nat.add_sub_cancel]at h1;rcases bA i j with h2|h2
  ·have:=ih (by omega) i h2
   omega
  ·obtain rfl:i=j:=by omega
   exact h1
theorem Uf{n:Int}{l:List Cm}(h:ng.Good n l){i j:Nat}(hi:i<l.length)(hj:j<l.length)(he:(l.getD i .zero).id=(l.getD j .zero).id):i=j:=by
 rcases Nat.lt_trichotomy i j with hlt|heq|hgt
 ·have:=Om h hj i hlt;omega
 ·exact heq
 ·have:=Om h hi j hgt;omega
def l7(id:Int)(l:List Cm):Nat->Int
 |0=> -1
 |k+1=>if(l.getD k .zero).id=id then(k:Int)else l7 id l k
theorem E4{id:Int}{l:List Cm}{k:Nat}(h:(l.getD k .zero).id=id):l7 id l (k+1)=k:=by rw[l7,if_pos h]
theorem Jn{id:Int}{l:List Cm}{k:Nat}(h:¬(l.getD k .zero).id=id):l7 id l (k+1)=l7 id l k:=by rw[l7,if_neg h]
theorem wW(id:Int)(l:List Cm)(k:Nat):(l7 id l k= -1/\∀i,i<k->(l.getD i .zero).id≠id)\/∃m:Nat,m<k/\l7 id l k=m/\(l.getD m .zero).id=id:=by
 induction k with
 |zero=>exact .inl ⟨rfl,fun i hi=>by omega⟩
 |succ k ih=>
  by_cases h:(l.getD k .zero).id=id
  ·exact .inr ⟨k,by omega,E4 h,h⟩
  ·rw[Jn h];rcases ih with⟨h1,h2⟩|⟨m,h1,h2,h3⟩
   ·refine .inl ⟨h1,fun i hi=>?_⟩;rcases bA i k with h3|h3
    ·exact h2 i h3
    ·obtain rfl:i=k:=by omega
     exact h
   ·exact .inr ⟨m,by omega,h2,h3⟩
theorem ve{n:Int}{l:List Cm}(hg:ng.Good n l){id:Int}{k:Nat}(hk:k<l.length)(h:(l.getD k .zero).id=id):l7 id l l.length=k:=by
 rcases wW id l l.length with⟨_,h2⟩|⟨m,h1,h2,h3⟩
 ·exact absurd h (h2 k hk)
 ·rw[h2,Uf hg h1 hk (h3.trans h.symm)]
def yR(s:St)(msg:ByteArray)(l:List Cm)(k:Nat)(q:Int×Int):Int:=
 Ce q.1 q.2 (lN l (s.cs.getD 0 0) msg k) (iq (iO l l.length) k) s.share (jR (gI l (s.cs.getD 0 0) msg) (s.cs.getD 0 0) msg)
inductive mO(s:St)(msg:ByteArray)(l:List Cm):Int->Int->St->Prop
 |pk (h:sM s.t s.n l≠0):mO s msg l 0 (sM s.t s.n l) s
 |mine (h:sM s.t s.n l=0) (hn:∀k q,k<l.length->q∈s.pl->iV s.id q≠l.getD k .zero):mO s msg l 0 10 s
 |zero (k j:Nat) (q:Int×Int) (h:sM s.t s.n l=0) (hk:k<l.length) (hj:s.pl[j]?=some q) (hq:iV s.id q=l.getD k .zero) (ha:gI l (s.cs.getD 0 0) msg=1):mO s msg l 0 11 s
 |good (k j:Nat) (q:Int×Int) (h:sM s.t s.n l=0) (hk:k<l.length) (hj:s.pl[j]?=some q) (hq:iV s.id q=l.getD k .zero) (ha:gI l (s.cs.getD 0 0) msg≠1):
   mO s msg l (yR s msg l k q) 0 {s with pl:=s.pl.eraseIdx j}
theorem Cb(s:St)(msg:ByteArray)(l:List Cm):∃v e s',mO s msg l v e s':=by
 by_cases h:sM s.t s.n l=0
 ·by_cases hn:∀k q,k<l.length->q∈s.pl->iV s.id q≠l.getD k .zero
  ·exact⟨_,_,_,.mine h hn⟩
  ·simp only[Classical.not_forall]at hn;obtain⟨k,q,hk,hq,hc⟩:=hn;simp only[ne_eq,Classical.not_not]at hc;obtain⟨j,hj⟩:=List.mem_iff_getElem?.1 hq;by_cases ha:gI l (s.cs.getD 0 0) msg=1
   ·exact⟨_,_,_,.zero k j q h hk hj hc ha⟩
   ·exact⟨_,_,_,.good k j q h hk hj hc ha⟩
 ·exact⟨_,_,_,.pk h⟩
theorem ae8{s s':St}{msg:ByteArray}{l:List Cm}{v e:Int}(hr:mO s msg l v e s')(h:sM s.t s.n l≠0):v=0/\e=sM s.t s.n l/\s'=s:=by
 cases hr with
 |pk h=>exact⟨rfl,rfl,rfl⟩
 |mine h'=>exact absurd h' h
 |zero _ _ _ h'=>exact absurd h' h
 |good _ _ _ h'=>exact absurd h' h
theorem UH{id:Int}{q:Int×Int}{c:Cm}(h:iV id q=c):c.id=id:=by rw[<-h];rfl
theorem RX{s s':St}{msg:ByteArray}{l:List Cm}{v e:Int}(hr:mO s msg l v e s')(h:sM s.t s.n l=0)(hm:l7 s.id l l.length<0):v=0/\e=10/\s'=s:=by
 have hno:∀k q,k<l.length->iV s.id q=l.getD k .zero->False:=fun k q hk hq=>by
  have:=ve (r7 h) hk (UH hq)
  omega
 cases hr with
 |pk h'=>exact absurd h h'
 |mine h'=>exact⟨rfl,rfl,rfl⟩
 |zero k j q h' hk hj hq=>exact absurd hq (hno k q hk)
 |good k j q h' hk hj hq=>exact absurd hq (hno k q hk)
theorem Iz{s s':St}{msg:ByteArray}{l:List Cm}{v e:Int}(hr:mO s msg l v e s')(h:sM s.t s.n l=0){m:Nat}(hm:l7 s.id l l.length=m)(hn:¬∃q∈s.pl,iV s.id q=l.getD m .zero):v=0/\e=10/\s'=s:=by
 have hno:∀k j q,k<l.length->s.pl[j]?=some q->iV s.id q=l.getD k .zero->False:=fun k j q hk hj hq=>by
  have h1:=ve (r7 h) hk (UH hq);have h2:k=m:=by omega
  subst h2;exact hn ⟨q,cj hj,hq⟩
 cases hr with
 |pk h'=>exact absurd h h'
 |mine h'=>exact⟨rfl,rfl,rfl⟩
 |zero k j q h' hk hj hq=>exact absurd hq (hno k j q hk hj)
 |good k j q h' hk hj hq=>exact absurd hq (hno k j q hk hj)
theorem MZ{s s':St}{msg:ByteArray}{l:List Cm}{v e:Int}(hr:mO s msg l v e s')(hok:Ok s)(h:sM s.t s.n l=0){m:Nat}(hm:l7 s.id l l.length=m){q:Int×Int}(hq:q∈s.pl)(hqm:iV s.id q=l.getD m .zero):
  ∃j,s.pl[j]?=some q/\((gI l (s.cs.getD 0 0) msg=1/\v=0/\e=11/\s'=s)\/(gI l (s.cs.getD 0 0) msg≠1/\v=yR s msg l m q/\e=0/\s'={s with pl:=s.pl.eraseIdx j})):=by
 have hin:∀k j q',k<l.length->s.pl[j]?=some q'->iV s.id q'=l.getD k .zero->k=m/\q'=q:=fun k j q' hk hj hq'=>by
  have h1:=ve (r7 h) hk (UH hq');have h2:k=m:=by omega
  subst h2;exact⟨rfl,Dr (hok.sc q' (cj hj)) (hok.sc q hq) (hq'.trans hqm.symm)⟩
 cases hr with
 |pk h'=>exact absurd h h'
 |mine h' hn=>
  rcases wW s.id l l.length with⟨h1,_⟩|⟨m',h1,h2,h3⟩
  ·omega
  ·have:m'=m:=by omega
   subst this;exact absurd hqm (hn m' q h1 hq)
 |zero k j q' h' hk hj hq' ha=>
  obtain⟨rfl,rfl⟩:=hin k j q' hk hj hq';exact⟨j,hj,.inl ⟨ha,rfl,rfl,rfl⟩⟩
 |good k j q' h' hk hj hq' ha=>
  obtain⟨rfl,rfl⟩:=hin k j q' hk hj hq';exact⟨j,hj,.inr ⟨ha,rfl,rfl,rfl⟩⟩
end Ht
namespace tP
open Go.RowKit Go.MuLone Go.Conc.Locks Pl ni oa ng nU Mem Hv Ht nO O2 ED Chk Lck Au
section
variable{w:ae}{p g:Nat}{vc lv:af}{t n:Int}{cs:List Int}{l:List Cm}{msg:ByteArray}{base:Nat}
theorem atX(h:Pk w p g vc lv t n cs l msg base){k:Nat}(hk:k<l.length):
  Calls dS 67 #[.pointer (some ⟨p,0,none⟩),.int .i64 k] w fun e w'=>e=.returned (.agg #[.int .i64 (l.getD k .zero).id,.int .u64 (l.getD k .zero).d,.int .u64 (l.getD k .zero).e])/\w'=w.alloc (.cells #[.int .i64 (l.getD k .zero).id,.int .u64 (l.getD k .zero).d,.int .u64 (l.getD k .zero).e] 52):=by
 obtain⟨p0,p1,p2⟩:=h.cells;obtain⟨A,c,rfl⟩:=h.ja.shape;obtain⟨b,off,rfl,hb,hc⟩:=h.ja.at_ (by omega);obtain⟨x0,x1,x2⟩:=hc k hk;have hp:=h.pk.lt;clear h hc;generalize(l.getD k .zero).id=X at*;generalize(l.getD k .zero).d=D at*;generalize(l.getD k .zero).e=E at*;have k1:(0:Int)<=(k:Int):=by omega
 have k2:(k:Int)<(l.length:Int):=by omega
 go_enter Try.func67,Try.ntmps67
 go_wp2_with fail
 refine bodyPost_ret (v:=.agg #[.int .i64 X,.int .u64 D,.int .u64 E]) (by simp[results,Try.results67,go_sem]) rfl ?_;exact⟨rfl,rfl⟩
theorem Pk.as1{w':ae}{M:Nat}{es:Array MapEntry}{cl:Nat}(h:Pk w p g vc lv t n cs l msg base)(hM:w.heap[M]?=some (.map es cl))(hg:w.grownBy w' (some M)):Pk w' p g vc lv t n cs l msg base:=by
 have hno:∀b i,b=M->w.cell? ⟨b,i,none⟩=none:=fun b i e=>by subst e;simp[World.cell?,hM]
 have hmv:∀b,b<w.heap.size->b≠M->w'.heap[b]?=w.heap[b]?:=fun b hb hne=>hg.block b hb (fun e=>hne (by injection e));have hcell:∀b i u,b<w.heap.size->w.cell? ⟨b,i,none⟩=some u->w'.cell? ⟨b,i,none⟩=some u:=fun b i u hb h=>by
  have hne:b≠M:=fun e=>by rw[hno b i e]at h;cases h
  exact(World.cell?_of_block (hmv b hb hne)).trans h
 have hbk:∀{g T C},fF w g T C->g≠M:=fun{g T C} hb e=>by
  subst e;unfold fF at hb;rw[hM]at hb;cases hb
 refine⟨(hmv p h.pk.lt (hbk h.pk)).trans h.pk,?_,?_,?_⟩
 ·obtain⟨h1,A,c,rfl,hc,h2⟩:=h.ja;refine⟨h1,A,c,rfl,hc,fun hp=>?_⟩;obtain⟨b,off,rfl,hb,h3⟩:=h2 hp;exact⟨b,off,rfl,bU hb hg.size,fun j u hj=>hcell b _ u hb (h3 j u hj)⟩
 ·exact h.rY.grown hg (fun e=>hbk h.rY.choose_spec.1 (by injection e))
 ·refine⟨h.own.1,?_⟩;rcases h.own.2 with h2|⟨g',cap,cur,rfl,hb,hh,r⟩
  ·exact .inl h2
  ·exact .inr ⟨g',cap,cur,rfl,hb,(hmv g' (Array.getElem?_eq_some_iff.1 hh).1 (hbk (T:=79) (C:=cur) hh)).trans hh,r⟩
end
def vM(X:List Nat)(w:ae)(lv:af)(l:List Cm):Prop:=∀w',Only X w w'->lU w' w'.heap.size lv l
def qM(w:ae)(a:Loc)(s:St)(l:List Cm)(msg:ByteArray)(p:Nat)(lv:af)(wx:ae):Prop:=
 qN wx a s/\Pk wx p a.g (.slice (some ⟨a.gc,0,none⟩) s.cs.length a.cap) lv s.t s.n s.cs l msg a.base/\Only a.foot w wx
theorem qM.later{w:ae}{a:Loc}{s:St}{l:List Cm}{msg:ByteArray}{p:Nat}{lv:af}{wx wy:ae}(h:qM w a s l msg p lv wx)(hb:Below wx.heap.size wx wy):qM w a s l msg p lv wy:=
 ⟨h.1.later hb,h.2.1.later hb,h.2.2.EI hb⟩
theorem ae5(x d e:Int)(w:ae):(Instr.field 52 (.agg #[.int .i64 x,.int .u64 d,.int .u64 e]) 0).run dS w=.ok (.int .i64 x) w:=by kernel_rfl
theorem YK(w:ae)(a:Loc)(s:St)(msg:ByteArray)(l:List Cm)(lv:af)(h:jI w a s)(hok:Ok s)(hC:vM a.foot w lv l)(hl:l.length<=65536)
  (hb:∀i,i<l.length->0<=(l.getD i .zero).d/\0<=(l.getD i .zero).e)(rH:msg.size<=1000000)(v e:Int)(s':St)(hr:mO s msg l v e s'):
  Calls dS 54 #[.pointer (some ⟨a.S,0,none⟩),.string msg,lv] w fun x w'=>x=.returned (.tuple #[.int .u64 v,.int .i64 e])/\jI w' a s'/\Only a.foot w w':=by
 have h0:w.cell? ⟨a.S,0,none⟩=some (.int .i32 0):=h.sg.cell 0;have hz:=h.sg.frozen 0;have hI:=h.enter;have hlk:=lock_free mq ⟨a.S,0,none⟩ w h0 hz;have XH:=(Only.refl a.foot w).iK (m8 a) 0 (.int .i32 1);have hC1:=hC _ XH;obtain⟨A,c,rfl⟩:=hC1.shape;have HLK:=ay hlk;have HI:=ay hI;have QS:=ay XH;have QQ:=ay hok;have HR:=ay hr;have hpk:=ay (af9 (msg:=msg) hI.rY hI.own hC1 hl hb);obtain⟨c0,c2,c3,c4,c5⟩:=hI.cells;clear h hok h0 hz hI hlk XH hC1 hr hC hb c0 c3 c4 c5;go_enter_defers Try.func54,Try.ntmps54
 go_wp2_with (go_at_call 82;refine HLK.out.mono ?_;rintro e w' ⟨rfl,rfl⟩)
 clear HLK;generalize w.setCell ⟨a.S,0,none⟩ (.int .i32 1)=W1 at*;refine hpk.out.mono ?_;rintro x W2 ⟨hb2,⟨hne,rfl⟩|⟨h0,p,Zd,rfl,hP⟩⟩
 ·obtain⟨rfl,rfl,rfl⟩:=ae8 HR.out hne;have t1:(sM s'.t s'.n l != 0)=true:=by rw[bne_iff_ne];exact hne
  have hI2:=HI.out.later hb2;have HO2:=ay (QS.out.EI hb2);have HI2:=ay hI2;obtain⟨c0,-⟩:=hI2.cells;have hz1:=hI2.sg.frozen 0;obtain⟨y,hy⟩:∃y,sM s'.t s'.n l=y:=⟨_,rfl⟩;have HY:=ay hy;rw[hy]at t1 ⊢;clear hb2 hI2 hne HI QS hpk hy HR;go_wp2_with fail
  refine leaves_cons (f:=83) (args:=#[.pointer (some ⟨a.S,0,none⟩)]) (by simp) (by simp[go_sem]) ?_;refine(unlock_deferred mq ⟨a.S,0,none⟩ .returning _ c0 hz1).mono ?_;rintro x u' w'' ⟨rfl,rfl,rfl⟩;refine⟨.tuple #[.int .u64 0,.int .i64 y],by simp[results,Try.results54,go_sem],?_⟩;exact⟨by rw[HY.out],HI2.out.leave,HO2.out.iK (m8 a) 0 _⟩
 have H0:=ay h0;have hM2:=ay (show qM w a s l msg p Zd W2 from⟨HI.out.later hb2,hP,QS.out.EI hb2⟩);have hll:=(xS h0).2.1;have h9:=QQ.out.spec.2.2.1;have hlen:=aL8 hP;clear hb2 HI QS hpk hP h0 c2;go_wp2_with fail
 refine hlen.mono ?_;rintro x w' ⟨rfl,rfl⟩;clear hlen;go_wp2_with fail
 go_loopw [10,39] (fun m i wr=>∃k:Nat,k<=l.length/\i=.int .i64 k/\m=.int .i64 (l7 s.id l k)/\qM w a s l msg p Zd wr) (fun _ i _=>l.length-(intOf i).toNat)
 case atStart=>exact⟨0,by omega,rfl,rfl,hM2.out⟩
 case round=>
  obtain⟨k,hk,rfl,rfl,hmid⟩:=hrel;have xx:=ay hmid;clear hmid hM2;by_cases hlt:k<l.length
  ·have hat:=ay (fun wy hb=>atX (xx.out.later (wy:=wy) hb).2.1 hlt);have JC:=ay (E4 (id:=s.id) (l:=l) (k:=k));have hno:=ay (Jn (id:=s.id) (l:=l) (k:=k));obtain⟨c0,c2,c3,c4,c5⟩:=xx.out.1.cells;generalize(l.getD k .zero).id=X at*;generalize(l.getD k .zero).d=D at*;generalize(l.getD k .zero).e=E at*;go_upto_region 10 with fail
   have hfd:=ae5;by_cases hX:X=s.id
   ·have t1:(X==s.id)=true:=by rw[beq_iff_eq];exact hX
    go_region_held3 (fun w'=>w'.cell? ⟨a.S,3,none⟩=some (.int .i64 s.id)) (go_keep)
     (first|(go_at_call 67;refine(hat.out _ bre.drew).mono ?_;rintro e w' ⟨rfl,rfl⟩))
    all_goals
     go_wp2_with fail
     exact⟨⟨k+1,by omega,by go_num,by rw[JC.out hX],xx.out.later (eD wr _).drew⟩,by simp[intOf];omega⟩
   ·have t1:(X==s.id)=false:=by rw[beq_eq_false_iff_ne];exact hX
    go_region_held3 (fun w'=>w'.cell? ⟨a.S,3,none⟩=some (.int .i64 s.id)) (go_keep)
     (first|(go_at_call 67;refine(hat.out _ bre.drew).mono ?_;rintro e w' ⟨rfl,rfl⟩))
    all_goals
     go_wp2_with fail
     exact⟨⟨k+1,by omega,by go_num,by rw[hno.out hX],xx.out.later (eD wr _).drew⟩,by simp[intOf];omega⟩
  ·obtain rfl:k=l.length:=by omega
   clear hlt;by_cases hneg:l7 s.id l l.length<0;case pos=>
    obtain⟨rfl,rfl,rfl⟩:=RX HR.out H0.out hneg;have t1:decide (l7 s'.id l l.length<0)=true:=decide_eq_true hneg;obtain⟨c0,-⟩:=xx.out.1.cells;have hz1:=xx.out.1.sg.frozen 0;generalize l7 s'.id l l.length=m at*;clear hneg HR;go_wp2_with fail
    refine leaves_cons (f:=83) (args:=#[.pointer (some ⟨a.S,0,none⟩)]) (by simp) (by simp[go_sem]) ?_;refine(unlock_deferred mq ⟨a.S,0,none⟩ .returning _ c0 hz1).mono ?_;rintro x u' w'' ⟨rfl,rfl,rfl⟩;refine⟨.tuple #[.int .u64 0,.int .i64 10],by simp[results,Try.results54,go_sem],?_⟩;exact⟨rfl,xx.out.1.leave,xx.out.2.2.iK (m8 a) 0 _⟩
   case neg=>
    obtain⟨m,VA,hmm,hmi⟩:∃m:Nat,m<l.length/\l7 s.id l l.length=m/\(l.getD m .zero).id=s.id:=by
     rcases wW s.id l l.length with⟨h1,_⟩|h1
     ·omega
     ·exact h1
    have hgd:=r7 H0.out;have HMM:=ay hmm;have HGD:=ay hgd;rw[hmm];have Qh:=QQ.out.id9;have hinj:∀q∈s.pl,∀q'∈s.pl,iV s.id q=iV s.id q'->q=q':=fun q h1 q' h2 h3=>Dr (QQ.out.sc q h1) (QQ.out.sc q' h2) h3;have hft:Fits (l.getD m .zero):=by
     obtain⟨⟨h1,h2⟩,-,⟨h3,h4⟩,h5,h6⟩:=hgd m VA;exact⟨⟨by omega,by omega⟩,⟨by omega,by omega⟩,by omega,by omega⟩
    obtain⟨q,bh,tJ,hbh,hbq⟩:=Jq (M:=a.M) Qh hinj hft;have HBH:=ay hbh;have HBQ:=ay hbq;have hat:=fun wy hb=>atX (xx.out.later (wy:=wy) hb).2.1 VA;have hkv:ou (l.getD m .zero)=.agg #[.int .i64 (l.getD m .zero).id,.int .u64 (l.getD m .zero).d,.int .u64 (l.getD m .zero).e]:=rfl;rw[hkv]at tJ;have HI:=xx.out.1;have VH:=HI.map;obtain⟨c0,c2,c3,c4,c5⟩:=HI.cells;have hSz:=HI.sg.lt;have QV:=ay hat;rw[hmi]at tJ QV;clear hmi hat;obtain⟨X,hX⟩:∃X,s.id=X:=⟨_,rfl⟩;rw[hX]at tJ QV VH;obtain⟨D,hD⟩:∃D,(l.getD m .zero).d=D:=⟨_,rfl⟩;obtain⟨E,hE⟩:∃E,(l.getD m .zero).e=E:=⟨_,rfl⟩;rw[hD,hE]at tJ QV;have HX:=ay hX;have HD:=ay hD;have HE:=ay hE;clear hX hD hE hkv;have ap1:(Instr.lookup 157 (.map (some a.M)) (.agg #[.int .i64 X,.int .u64 D,.int .u64 E]) true).run dS (wr.alloc (.cells #[.int .i64 X,.int .u64 D,.int .u64 E] 52)).drew=.ok (.tuple #[.agg #[.int .u64 q.1,.int .u64 q.2],.bool bh]) (wr.alloc (.cells #[.int .i64 X,.int .u64 D,.int .u64 E] 52)).drew:=
     tJ _ (VH.of_block (heap_alloc_old wr _ VH.lt))
    have hlk2:(Instr.lookup 157 (.map (some a.M)) (.agg #[.int .i64 X,.int .u64 D,.int .u64 E]) true).run dS ((wr.alloc (.cells #[.int .i64 X,.int .u64 D,.int .u64 E] 52)).alloc (.cells #[.int .u64 0,.int .u64 0] 161)).drew=.ok (.tuple #[.agg #[.int .u64 q.1,.int .u64 q.2],.bool bh]) ((wr.alloc (.cells #[.int .i64 X,.int .u64 D,.int .u64 E] 52)).alloc (.cells #[.int .u64 0,.int .u64 0] 161)).drew:=
     tJ _ (VH.of_block ((heap_alloc_old (wr.alloc _) _ (by have:=VH.lt;simp<;>omega)).trans (heap_alloc_old wr _ VH.lt)))
    have bk8:(Instr.lookup 157 (.map (some a.M)) (.agg #[.int .i64 X,.int .u64 D,.int .u64 E]) true).run dS ((wr.alloc (.cells #[.int .u64 0,.int .u64 0] 161)).alloc (.cells #[.int .i64 X,.int .u64 D,.int .u64 E] 52)).drew=.ok (.tuple #[.agg #[.int .u64 q.1,.int .u64 q.2],.bool bh]) ((wr.alloc (.cells #[.int .u64 0,.int .u64 0] 161)).alloc (.cells #[.int .i64 X,.int .u64 D,.int .u64 E] 52)).drew:=
     tJ _ (VH.of_block ((heap_alloc_old (wr.alloc _) _ (by have:=VH.lt;simp<;>omega)).trans (heap_alloc_old wr _ VH.lt)))
    have t1:decide ((m:Int)<0)=false:=decide_eq_false (by omega);have hfA:wr.heap.size∉a.foot/\wr.heap.size+1∉a.foot:=⟨fun hk=>by have:=xx.out.1.leave.lt _ hk;simp at this,fun hk=>by have:=xx.out.1.leave.lt _ hk;simp at this<;>omega⟩;have hbA:∀x y:Obj,Below wr.heap.size wr ((wr.alloc x).alloc y).drew:=fun x y=>((eD wr x).alloc (by simp) y).drew;have hkA:fF ((wr.alloc (.cells #[.int .i64 X,.int .u64 D,.int .u64 E] 52)).alloc (.cells #[.int .u64 q.1,.int .u64 q.2] 161)).drew (wr.heap.size+1) 161 #[.int .u64 q.1,.int .u64 q.2]:=jx _ _ (by simp);have hkB:fF ((wr.alloc (.cells #[.int .u64 q.1,.int .u64 q.2] 161)).alloc (.cells #[.int .i64 X,.int .u64 D,.int .u64 E] 52)).drew wr.heap.size 161 #[.int .u64 q.1,.int .u64 q.2]:=(jx (w:=wr) 161 _ rfl).below ((eD _ _).drew) (by simp);have HFA:=ay hfA;have HBA:=ay hbA;have HKA:=ay hkA;have HKB:=ay hkB;clear hfA hbA hkA hkB;clear tJ hbh hbq HI VH hft hinj hmm hgd c0 c2 c3 c4 hneg;go_upto_region 15 with fail
    go_cut [12,13]from 55 to 66 (fun pp b wx=>∃PB,PB∉a.foot/\pp=.pointer (some ⟨PB,0,none⟩)/\b=.bool bh/\fF wx PB 161 #[.int .u64 q.1,.int .u64 q.2]/\qM w a s l msg p Zd wx)
    case first=>
     go_region_held3 (fun w'=>w'.cell? ⟨a.S,5,none⟩=some (.map (some a.M))) (go_keep)
      (first|(go_at_call 67;refine(QV.out _ (by first|exact bre.drew|exact(eD _ _).drew)).mono ?_;rintro e w' ⟨rfl,rfl⟩))
     all_goals
      go_wp2_with fail
      go_meet
      first
       |exact⟨_,HFA.out.2,rfl,rfl,HKA.out,xx.out.later (HBA.out _ _)⟩
       |exact⟨_,HFA.out.1,rfl,rfl,HKB.out,xx.out.later (HBA.out _ _)⟩
    case rest=>
     obtain⟨PB,hPB,rfl,rfl,hblk,hmid⟩:=hcut;rename ae=>W6
     have Ag:=ay hmid;have QT:=ay hblk;have HPB:=ay hPB;clear ap1 hlk2 bk8 HFA HBA HKA HKB xx QV c5 hmid hblk hPB hSz HX HD HE;cases bh;case false=>
      obtain⟨rfl,rfl,rfl⟩:=Iz HR.out H0.out HMM.out (fun⟨q',h1,h2⟩=>by have:=HBH.out.2 ⟨q',h1,h2⟩;cases this);obtain⟨c0,-⟩:=Ag.out.1.cells;have hz1:=Ag.out.1.sg.frozen 0;clear HR;go_wp2_with fail
      refine leaves_cons (f:=83) (args:=#[.pointer (some ⟨a.S,0,none⟩)]) (by simp) (by simp[go_sem]) ?_;refine(unlock_deferred mq ⟨a.S,0,none⟩ .returning _ c0 hz1).mono ?_;rintro x u' w'' ⟨rfl,rfl,rfl⟩;refine⟨.tuple #[.int .u64 0,.int .i64 10],by simp[results,Try.results54,go_sem],?_⟩;exact⟨rfl,Ag.out.1.leave,Ag.out.2.2.iK (m8 a) 0 _⟩
     case true=>
      obtain⟨hq1,hq2⟩:=HBQ.out rfl;obtain⟨j,hj,aM4⟩:=MZ HR.out QQ.out H0.out HMM.out hq1 hq2;have hsp:=QQ.out.spec;obtain⟨hcl,hc0⟩:=QQ.out.key;have wE:l.length<=9:=by omega
      have hall:=ay (fun r x=>aZ6 Ag.out.2.1 HGD.out hsp.2.2.1 wE hcl ⟨by omega,by omega⟩ rH r x);have HJ:=ay hj;have HQ1:=ay hq1;have HQ2:=ay hq2;have HCL:=ay hcl;have HC0:=ay hc0;have h9':=ay hsp.2.2.1;clear hq1 hq2 hj hsp hcl hc0 HBQ HBH HR;rcases aM4 with⟨ha,rfl,rfl,rfl⟩|⟨ha,hv,rfl,rfl⟩
      ·have Fe:=ay (hall.out 0 11 (.inl ⟨ha,rfl,rfl⟩));clear ha hall;go_wp2_with fail
       refine Fe.out.mono ?_;rintro x W7 ⟨rfl,LS⟩;have uZ:=ay (Ag.out.later LS);obtain⟨c0,-⟩:=uZ.out.1.cells;have hz1:=uZ.out.1.sg.frozen 0;clear LS Fe;go_wp2_with fail
       refine leaves_cons (f:=83) (args:=#[.pointer (some ⟨a.S,0,none⟩)]) (by simp) (by simp[go_sem]) ?_;refine(unlock_deferred mq ⟨a.S,0,none⟩ .returning _ c0 hz1).mono ?_;rintro x u' w'' ⟨rfl,rfl,rfl⟩;refine⟨.tuple #[.int .u64 0,.int .i64 11],by simp[results,Try.results54,go_sem],?_⟩;exact⟨rfl,uZ.out.1.leave,uZ.out.2.2.iK (m8 a) 0 _⟩
      ·have Fe:=ay (hall.out _ 0 (.inr ⟨ha,rfl,rfl⟩));have HV:=ay hv;clear ha hall hv;have hrb:0<=gI l (s.cs.getD 0 0) msg/\gI l (s.cs.getD 0 0) msg<2147483579:=by rw[BK];exact OQ _ _ _ _
       obtain⟨R,hR⟩:∃R,gI l (s.cs.getD 0 0) msg=R:=⟨_,rfl⟩;rw[hR]at Fe hrb;have HRR:=ay hR;clear hR;go_wp2_with fail
       refine Fe.out.mono ?_;rintro x W7 ⟨rfl,LS⟩;have uZ:=ay (Ag.out.later LS);have Vd:=ay (QT.out.below LS QT.out.lt);clear LS Fe Ag QT;have hat:=ay (fun wy hb=>atX (uZ.out.later (wy:=wy) hb).2.1 VA);obtain⟨c0,c2,c3,c4,c5⟩:=uZ.out.1.cells;have hM7:=uZ.out.1.map;have hSz:=uZ.out.1.sg.lt;have XC:Below W7.heap.size W7 (W7.alloc (.cells #[.int .i64 (l.getD m .zero).id,.int .u64 (l.getD m .zero).d,.int .u64 (l.getD m .zero).e] 52)).drew:=(eD W7 _).drew;obtain⟨W8,hst,hM8,Oe⟩:=K9 (hM7.of_block (XC.block _ hM7.lt)) Qh HJ.out (fun i q' h1 h2=>QQ.out.aw0 HJ.out i q' h1 h2) 0;have JG:=uZ.out.later XC;obtain⟨es8,cl8,aP9,-⟩:=JG.1.map;have aU3:=Pk.as1 JG.2.1 aP9 Oe;have hI8:=Ik JG.1 Oe hM8;have hO8:=JG.2.2.grown (KD a) Oe;have hB8:=(Vd.out.below XC Vd.out.lt).grown Oe (by simp;exact fun e=>HPB.out (e ▸ KD a));have HM8:=ay (show qM w a {s with pl:=s.pl.eraseIdx j} l msg p Zd W8 from⟨hI8,aU3,hO8⟩);have HB8:=ay hB8;have x5:=hI8.cells.2.2.2.2;rw[HQ2.out]at hst;have aN5:(Builtin.delete_ #[157,52] 0 #[.map (some a.M),.agg #[.int .i64 (l.getD m .zero).id,.int .u64 (l.getD m .zero).d,.int .u64 (l.getD m .zero).e]]).run dS (W7.alloc (.cells #[.int .i64 (l.getD m .zero).id,.int .u64 (l.getD m .zero).d,.int .u64 (l.getD m .zero).e] 52)).drew=.ok (.tuple #[]) W8:=hst;clear hst hM8 Oe JG aP9 aU3 hI8 hO8 hB8 XC hM7 c0 c2 c3 c4;generalize(l.getD m .zero).id=X at*;generalize(l.getD m .zero).d=D at*;generalize(l.getD m .zero).e=E at*;go_upto_region 21 with fail
       go_cut [14]from 76 to 83 (fun r wx=>r=.int .u64 R/\fF wx PB 161 #[.int .u64 q.1,.int .u64 q.2]/\qM w a {s with pl:=s.pl.eraseIdx j} l msg p Zd wx)
       case first=>
        go_region_held3 (fun w'=>w'.cell? ⟨a.S,5,none⟩=some (.map (some a.M))) (first|go_keep|exact x5)
         (first|(go_at_call 67;refine(hat.out _ bre.drew).mono ?_;rintro e w' ⟨rfl,rfl⟩))
        all_goals
         go_wp2_with fail
         go_meet
         exact⟨rfl,HB8.out,HM8.out⟩
       case rest=>
        obtain⟨rfl,hB9,hM9⟩:=hcut;rename ae=>W9
        have HM9:=ay hM9;have HB9:=ay hB9;clear c5 x5 aN5 hSz HM8 HB8 uZ Vd hat hB9 hM9;have aN4:∀q∈s.pl,_:=QQ.out.sc;obtain⟨⟨qd0,qd1⟩,qe0,qe1⟩:=aN4 q HQ1.out;have b0:W9.cell? ⟨PB,0,none⟩=some (.int .u64 q.1):=HB9.out.cell 0;have b1:W9.cell? ⟨PB,1,none⟩=some (.int .u64 q.2):=HB9.out.cell 1;have aq8:=HB9.out.lt;have aq9:=HM9.out.later bre.drew;have Zw:=ay (Z1 aq9.2.1 HGD.out h9'.out wE HCL.out ⟨by have:=HC0.out;show 0<=s.cs.getD 0 0;omega,by have:=HC0.out;show s.cs.getD 0 0<_;omega⟩ rH VA);have a29:=ay aq9;clear aq9 aN4;have hbv:Hid (yR s msg l m q=mE (mE q.1 (smul q.2 (lN l (s.cs.getD 0 0) msg m))) (smul (smul (iq (iO l l.length) m) s.share) (jR R (s.cs.getD 0 0) msg))):=by
         show yR s msg l m q=_;rw[<-HRR.out];rfl
        generalize lN l (s.cs.getD 0 0) msg m=Bd at*;go_upto_region 22 with fail
        go_cut [14,15]from 83 to 92 (fun r z wx=>r=.int .u64 R/\z=.int .u64 (mE q.1 (smul q.2 Bd))/\qM w a {s with pl:=s.pl.eraseIdx j} l msg p Zd wx)
        case first=>
         go_region_held3 (fun w'=>w'.cell? ⟨PB,0,none⟩=some (.int .u64 q.1)/\w'.cell? ⟨PB,1,none⟩=some (.int .u64 q.2))
          (first|go_keep|(exact⟨(hb1.cell (p:=⟨PB,0,none⟩) aq8).trans b0,(hb1.cell (p:=⟨PB,1,none⟩) aq8).trans b1⟩))
          (first|(go_at_call 84;refine Zw.out.mono ?_;rintro e W10 ⟨rfl,hb1⟩)|(go_at_call 69;refine(nE _ _ _).mono ?_;rintro e w' ⟨rfl,rfl⟩)|(go_at_call 73;refine(MJ _ _ _).mono ?_;rintro e w' ⟨rfl,rfl⟩))
         all_goals
          go_wp2_with fail
          go_meet
          exact⟨rfl,rfl,a29.out.later hb1⟩
        case rest=>
         obtain⟨rfl,rfl,aU6⟩:=hcut;rename ae=>W10
         have Va:=ay aU6;clear b0 b1 aq8 Zw a29 HB9 HM9 aU6;obtain⟨c0,c2,c3,c4,c5⟩:=Va.out.1.cells;clear c0 c3 c5;have hkey:=ay (am4 Va.out.2.1.rY Va.out.2.1.own HCL.out);obtain⟨K,hK⟩:∃K,s.cs.getD 0 0=K:=⟨_,rfl⟩;have HK:=ay hK;have hKb:0<=K/\K<18446744073709551616:=by have h1:=HC0.out;rw[hK]at h1;omega
         have Oa:Calls dS 60 #[.pointer (some ⟨a.g,0,none⟩)] W10 fun e w'=>e=.returned (.int .u64 K)/\W10=w':=by rw[<-hK];exact hkey.out
         have hch:=ay (xm R K msg W10 rH ⟨by omega,by omega⟩ hKb);rw[hK]at hbv;have HBV:=ay hbv.out;have aa7:=ay Oa;clear hK hbv hKb hkey Oa hrb;go_upto_region 24 with(first|(go_at_call 60;refine aa7.out.mono ?_;rintro e w' ⟨rfl,rfl⟩)|(go_at_call 59;refine hch.out.mono ?_;rintro e W11 ⟨rfl,zn⟩))
         have TY:=Va.out.later zn;have bu0:=ay TY;have x4:=TY.1.cells.2.2.2.1;have TX:=TY.later bre.drew;have Zy:=TY.1.sg.lt;have hwt:=ay (Ll TX.2.1 wE VA);have aa6:=ay TX;clear TY TX hch aa7 c2 zn Va;generalize iq (iO l l.length) m=L at*;generalize jR R K msg=C at*;go_cut [6,7]from 100 to 111 (fun z e wx=>z=.int .u64 (mE (mE q.1 (smul q.2 Bd)) (smul (smul L s.share) C))/\e=.int .i64 0/\qM w a {s with pl:=s.pl.eraseIdx j} l msg p Zd wx)
         case first=>
          go_region_held3 (fun w'=>w'.cell? ⟨a.S,4,none⟩=some (.int .u64 s.share))
           (first|go_keep|(exact(hb1.cell (p:=⟨a.S,4,none⟩) Zy).trans x4))
           (first|(go_at_call 70;refine hwt.out.mono ?_;rintro e W12 ⟨rfl,hb1⟩)|(go_at_call 69;refine(nE _ _ _).mono ?_;rintro e w' ⟨rfl,rfl⟩)|(go_at_call 73;refine(MJ _ _ _).mono ?_;rintro e w' ⟨rfl,rfl⟩))
          all_goals
           go_wp2_with fail
           go_meet
           exact⟨rfl,rfl,aa6.out.later hb1⟩
         case rest=>
          obtain⟨rfl,rfl,XI⟩:=hcut;rename ae=>W12
          have a30:=ay XI;obtain⟨c0,-⟩:=XI.1.cells;have hz1:=XI.1.sg.frozen 0;clear XI bu0 aa6 hwt x4 Zy;go_wp2_with fail
          refine leaves_cons (f:=83) (args:=#[.pointer (some ⟨a.S,0,none⟩)]) (by simp) (by simp[go_sem]) ?_;refine(unlock_deferred mq ⟨a.S,0,none⟩ .returning _ c0 hz1).mono ?_;rintro x u' w'' ⟨rfl,rfl,rfl⟩;refine⟨.tuple #[.int .u64 (mE (mE q.1 (smul q.2 Bd)) (smul (smul L s.share) C)),.int .i64 0],by simp[results,Try.results54,go_sem],?_⟩;exact⟨by rw[HV.out,HBV.out],a30.out.1.leave,a30.out.2.2.iK (m8 a) 0 _⟩
end tP
namespace OZ
open Pl ni Odr Cpl
def aM1:Nat->Nat
 |1=>1
 |2=>536870895
 |3=>357913930
 |4=>805306342
 |5=>214748358
 |6=>178956965
 |7=>920350105
 |8=>402653171
 |_=>0
def Xg(y x:Nat):Nat:=if x<y then aM1 (y-x)else 1073741789-aM1 (x-y)
def Lh:List Bool:=[true,true,false,true,true,false,true,true,true,true,true,true,true,true,true,true,true,true,true,true,true,true,true,true,true,true,true,true,true,true]
def CU(x:Nat):Nat->Bool
 |0=>true
 |y+1=>CU x y&&(y+1==x||decide (fq ((((y+1:Nat):Int)+1073741789-(x:Int))%1073741789) 1073741789 Lh=(Xg (y+1) x:Nat)))
def GA:Nat->Bool
 |0=>true
 |x+1=>GA x&&CU (x+1) 9
theorem Xf:GA 9=true:=by kernel_rfl
theorem Jy{n x:Nat}(h:GA n=true)(h1:1<=x)(h2:x<=n):CU x 9=true:=by
 induction n with
 |zero=>omega
 |succ n ih=>
  rw[GA,aD]at h;by_cases e:x=n+1
  ·rw[e];exact h.2
  ·exact ih h.1 (by omega)
theorem Jx{n x y:Nat}(h:CU x n=true)(h1:1<=y)(h2:y<=n)(hne:y≠x):fq (((y:Int)+1073741789-(x:Int))%1073741789) 1073741789 Lh=(Xg y x:Nat):=by
 induction n with
 |zero=>omega
 |succ n ih=>
  rw[CU,aD,bf,decide_eq_true_iff,beq_iff_eq]at h;by_cases e:y=n+1
  ·subst e;exact h.2.resolve_left hne
  ·exact ih h.1 (by omega)
theorem ac0:val Lh=KJ:=by decide
theorem af5{x y:Nat}(hx:1<=x/\x<=9)(hy:1<=y/\y<=9)(hne:y≠x):pw (((y:Int)+1073741789-(x:Int))%1073741789) KJ 1073741789=(Xg y x:Nat):=by
 rw[<-ac0,<-ZQ _ (by omega)];exact Jx (Jy Xf hx.1 hx.2) hy.1 hy.2 hne
def MA(x acc y:Nat):Nat:=if Nat.beq y x then acc else acc*y%1073741789*Xg y x%1073741789
def wT(xs:List Nat)(x:Nat):Nat:=xs.foldl (MA x) 1
def F3:List Nat->Nat
 |[]=>0
 |v::l=>v+F3 l
def next:List Nat->List Nat->List Nat
 |x::xs,v::vs=>v*x%1073741789::next xs vs
 |_,_=>[]
def WN(xs:List Nat):Nat->List Nat->Bool
 |0,_=>true
 |f+1,vs=>Nat.beq (F3 vs%1073741789) 0&&WN xs f (next xs vs)
def xC(xs:List Nat):Bool:=match xs with
 |[]=>true
 |_::r=>Nat.beq (F3 (xs.map (wT xs))%1073741789) 1&&WN xs r.length (next xs (xs.map (wT xs)))
def uX:Nat->List Nat->Bool
 |0,acc=>xC acc
 |n+1,acc=>uX n acc&&uX n ((n+1)::acc)
theorem Yc:uX 9 []=true:=by kernel_rfl
def oZ(c:Nat->Bool):Nat->List Nat
 |0=>[]
 |n+1=>if c n then oZ c n++[n+1]else oZ c n
theorem Ku(c:Nat->Bool)(n:Nat):∀acc,uX n acc=true->xC (oZ c n++acc)=true:=by
 induction n with
 |zero=>intro acc h;exact h
 |succ n ih=>
  intro acc h;rw[uX,aD]at h;rw[oZ];split
  ·rw[List.append_assoc];exact ih _ h.2
  ·exact ih _ h.1
theorem QH{n m:Nat}(h:n<=m):∀acc,uX m acc=true->uX n acc=true:=by
 induction m with
 |zero=>
  obtain rfl:n=0:=by omega
  exact fun _ h=>h
 |succ m ih=>
  intro acc ha;by_cases e:n=m+1
  ·rw[e];exact ha
  ·rw[uX,aD]at ha;exact ih (by omega) acc ha.1
theorem V7(c:Nat->Bool){n:Nat}(h:n<=9):xC (oZ c n)=true:=by
 have:=Ku c n [] (QH h [] Yc)
 rwa [List.append_nil]at this
theorem Ay(c:Nat->Bool)(n:Nat):∀x∈oZ c n,1<=x/\x<=n:=by
 induction n with
 |zero=>intro x hx;cases hx
 |succ n ih=>
  intro x hx;rw[oZ]at hx;split at hx
  ·rcases List.mem_append.1 hx with h|h
   ·have:=ih x h;omega
   ·have:=List.mem_singleton.1 h;omega
  ·have:=ih x hx;omega
theorem Io(c:Nat->Bool)(n:Nat):(oZ c n).Pairwise (·<·):=by
 induction n with
 |zero=>exact .nil
 |succ n ih=>
  rw[oZ];split
  ·refine List.pairwise_append.2 ⟨ih,List.pairwise_singleton _ _,fun a ha b hb=>?_⟩;have:=Ay c n a ha
   have:=List.mem_singleton.1 hb
   omega
  ·exact ih
def lX(F:Nat->Int):Nat->Int
 |0=>0
 |n+1=>lX F n+F n
theorem EH{F G:Nat->Int}{n:Nat}(h:∀k,k<n->F k%1073741789=G k%1073741789):lX F n%1073741789=lX G n%1073741789:=by
 induction n with
 |zero=>rfl
 |succ n ih=>rw[lX,lX,Int.add_emod,ih (fun k hk=>h k (by omega)),h n (by omega),<-Int.add_emod]
theorem VV(F G:Nat->Int)(n:Nat):lX (fun k=>F k+G k) n=lX F n+lX G n:=by
 induction n with
 |zero=>rfl
 |succ n ih=>rw[lX,ih,lX,lX];omega
theorem VU(a:Int)(F:Nat->Int)(n:Nat):lX (fun k=>a*F k) n=a*lX F n:=by
 induction n with
 |zero=>rw[lX,lX,Int.mul_zero]
 |succ n ih=>rw[lX,ih,lX,Int.mul_add]
theorem RB(n:Nat):lX (fun _=>0) n=0:=by
 induction n with
 |zero=>rfl
 |succ n ih=>rw[lX,ih];rfl
theorem RD(F:Nat->Int)(n:Nat):lX F (n+1)=F 0+lX (fun k=>F (k+1)) n:=by
 induction n with
 |zero=>simp[lX]
 |succ n ih=>rw[lX,ih,lX];omega
theorem RF(l:List Nat):∀F:Nat->Int,(∀k,k<l.length->((l.getD k 0:Nat):Int)%1073741789=F k%1073741789)->((F3 l:Nat):Int)%1073741789=lX F l.length%1073741789:=by
 induction l with
 |nil=>intro F _;rfl
 |cons v l ih=>
  intro F h;rw[List.length_cons,RD,F3,Int.natCast_add,Int.add_emod,Int.add_emod (F 0)];have h0:=h 0 (by simp);have h1:=ih (fun k=>F (k+1)) (fun k hk=>by have:=h (k+1) (by simpa using hk);simpa using this);rw[h1];have h0':(v:Int)%1073741789=F 0%1073741789:=by simpa using h0
  rw[h0']
theorem zO:∀xs vs:List Nat,xs.length=vs.length->(next xs vs).length=xs.length
 |[],[],_=>rfl
 |x::xs,v::vs,h=>by
  show(next xs vs).length+1=_;rw[zO xs vs (by simpa using h)];rfl
theorem Ng:∀(xs vs:List Nat) (k:Nat),xs.length=vs.length->k<xs.length->(next xs vs).getD k 0=vs.getD k 0*xs.getD k 0%1073741789
 |[],[],k,_,hk=>absurd hk (by simp)
 |x::xs,v::vs,0,_,_=>rfl
 |x::xs,v::vs,k+1,h,hk=>by
  show(next xs vs).getD k 0=_;rw[Ng xs vs k (by simpa using h) (by simpa using hk)];rfl
def nx(xs ws:List Nat):Nat->List Nat
 |0=>ws
 |m+1=>next xs (nx xs ws m)
theorem M8(xs ws:List Nat)(m:Nat):nx xs (next xs ws) m=nx xs ws (m+1):=by
 induction m with
 |zero=>rfl
 |succ m ih=>rw[nx,ih];rfl
theorem yY{xs ws:List Nat}(h:xs.length=ws.length)(m:Nat):(nx xs ws m).length=xs.length:=by
 induction m with
 |zero=>exact h.symm
 |succ m ih=>rw[nx,zO _ _ ih.symm]
theorem P4(xs:List Nat)(f:Nat):∀vs,WN xs f vs=true->∀m,m<f->F3 (nx xs vs m)%1073741789=0:=by
 induction f with
 |zero=>intro vs _ m hm;omega
 |succ f ih=>
  intro vs h m hm;rw[WN,aD]at h;cases m with
  |zero=>exact Nat.eq_of_beq_eq_true h.1
  |succ m=>
   rw[<-M8];exact ih _ h.2 m (by omega)
theorem UI{xs:List Nat}(h:xC xs=true)(m:Nat)(hm:m<xs.length):F3 (nx xs (xs.map (wT xs)) m)%1073741789=if m=0 then 1 else 0:=by
 cases xs with
 |nil=>simp at hm
 |cons x r=>
  unfold xC at h;rw[aD]at h;cases m with
  |zero=>rw[if_pos rfl];exact Nat.eq_of_beq_eq_true h.1
  |succ m=>
   rw[if_neg (by omega),<-M8];exact P4 _ _ _ h.2 m (by simpa using hm)
theorem aI0{xs ws:List Nat}(h:xs.length=ws.length)(m k:Nat)(hk:k<xs.length):(((nx xs ws m).getD k 0:Nat):Int)%1073741789=((xs.getD k 0:Nat):Int)^m*((ws.getD k 0:Nat):Int)%1073741789:=by
 induction m with
 |zero=>rw[Int.pow_zero,Int.one_mul];rfl
 |succ m ih=>
  have e:((((nx xs ws m).getD k 0*xs.getD k 0%1073741789:Nat)):Int)=(((nx xs ws m).getD k 0:Nat):Int)*((xs.getD k 0:Nat):Int)%1073741789:=by
   rw[Int.natCast_emod,Int.natCast_mul];rfl
  rw[nx,Ng _ _ _ (yY h m).symm hk,e,cM _ (Int.dvd_refl _),<-iA,ih,iA,Int.pow_succ];congr 1;rw[Int.mul_right_comm]
def ints(xs:List Nat):List Int:=xs.map Int.ofNat
theorem pF(xs:List Nat):(ints xs).length=xs.length:=by simp[ints]
theorem ints_at(xs:List Nat)(k:Nat):(ints xs).getD k 0=((xs.getD k 0:Nat):Int):=by
 unfold ints;rw[aC,aC,cg];cases xs[k]?<;>rfl
theorem Dd{xs:List Nat}{k:Nat}(h:k<xs.length):xs.getD k 0∈xs:=by
 rw[aC,aN h];exact List.getElem_mem h
theorem MV{xs:List Nat}(h:xs.Pairwise (·<·)){i j:Nat}(hij:i<j)(hj:j<xs.length):xs.getD i 0<xs.getD j 0:=by
 rw[aC,aC,aN hj,aN (by omega)];exact List.pairwise_iff_getElem.1 h i j (by omega) hj hij
theorem Wc{xs:List Nat}(h:xs.Pairwise (·<·)){i j:Nat}(hi:i<xs.length)(hj:j<xs.length)(hne:i≠j):xs.getD i 0≠xs.getD j 0:=by
 rcases bA i j with hlt|hge
 ·exact Nat.ne_of_lt (MV h hlt hj)
 ·exact(Nat.ne_of_lt (MV h (by omega) hi)).symm
theorem Ro{xs:List Nat}(hr:xs.Pairwise (·<·))(hb:∀x∈xs,1<=x/\x<=9){k:Nat}(hk:k<xs.length)(j:Nat)(hj:j<=xs.length):
  Rq (ints xs) k j=(((xs.take j).foldl (MA (xs.getD k 0)) 1:Nat):Int):=by
 induction j with
 |zero=>rfl
 |succ j ih=>
  have hlt:j<xs.length:=by omega
  have e:xs.take (j+1)=xs.take j++[xs.getD j 0]:=by
   rw[List.take_succ_eq_append_getElem hlt,aC,aN hlt];rfl
  rw[e,List.foldl_append,List.foldl_cons,List.foldl_nil];have ih:=ih (by omega);by_cases hjk:j=k
  ·subst hjk;rw[H5,ih,MA,if_pos (Nat.beq_refl _)]
  ·have hne:=Wc hr hlt hk hjk;rw[H3 _ hjk,ih,ints_at,ints_at,af5 (hb _ (Dd hk)) (hb _ (Dd hlt)) hne,MA,if_neg (fun h=>hne (Nat.eq_of_beq_eq_true h))];simp only[Int.natCast_emod,Int.natCast_mul];rfl
theorem FU{xs:List Nat}(hr:xs.Pairwise (·<·))(hb:∀x∈xs,1<=x/\x<=9){k:Nat}(hk:k<xs.length):weight (ints xs) k=((wT xs (xs.getD k 0):Nat):Int):=by
 unfold weight wT;rw[Ro hr hb hk _ (by rw[pF];omega),pF,List.take_length]
theorem ak5{c:Nat->Bool}{n:Nat}(hn:n<=9)(m:Nat)(hm:m<(oZ c n).length):
  lX (fun k=>(ints (oZ c n)).getD k 0^m*weight (ints (oZ c n)) k) (oZ c n).length%1073741789=if m=0 then 1 else 0:=by
 have hr:=Io c n;have hb:∀x∈oZ c n,1<=x/\x<=9:=fun x hx=>by have:=Ay c n x hx;omega
 have hc:=V7 c hn;generalize oZ c n=xs at*;have hl:xs.length=(xs.map (wT xs)).length:=by simp
 have h1:=UI hc m hm;have h2:=RF (nx xs (xs.map (wT xs)) m) (fun k=>(ints xs).getD k 0^m*weight (ints xs) k) (fun k hk=>by
  rw[yY hl]at hk;rw[aI0 hl m k hk,ints_at,FU hr hb hk];congr 3;rw[aC,cg,aC,aN hk];rfl)
 rw[yY hl]at h2;rw[<-h2];have h3:((F3 (nx xs (xs.map (wT xs)) m):Nat):Int)%1073741789=((F3 (nx xs (xs.map (wT xs)) m)%1073741789:Nat):Int):=by rw[Int.natCast_emod];rfl
 rw[h3,h1];split<;>rfl
theorem Ix(ids shares:List Int)(n:Nat):V9 ids shares n=lX (fun k=>shares.getD k 0*weight ids k) n%1073741789:=by
 induction n with
 |zero=>rfl
 |succ n ih=>rw[V9,ih,lX,Int.add_emod,cM _ (Int.dvd_refl _),<-Int.add_emod]
theorem Sb{c:Nat->Bool}{n:Nat}(hn:n<=9)(coeffs:List Int)(j:Nat)(hj:j<=(oZ c n).length):
  lX (fun k=>vT coeffs ((ints (oZ c n)).getD k 0) j*weight (ints (oZ c n)) k) (oZ c n).length%1073741789=(if j=0 then 0 else coeffs.getD 0 0)%1073741789:=by
 induction j with
 |zero=>
  have e:(fun k=>vT coeffs ((ints (oZ c n)).getD k 0) 0*weight (ints (oZ c n)) k)=fun _=>0:=by
   funext k;rw[vT,Int.zero_mul]
  rw[e,RB,if_pos rfl]
 |succ j ih=>
  have hm:=ak5 (c:=c) hn j (by omega);have e:(fun k=>vT coeffs ((ints (oZ c n)).getD k 0) (j+1)*weight (ints (oZ c n)) k)=
    fun k=>vT coeffs ((ints (oZ c n)).getD k 0) j*weight (ints (oZ c n)) k+coeffs.getD j 0*((ints (oZ c n)).getD k 0^j*weight (ints (oZ c n)) k):=by
   funext k;rw[vT,Int.add_mul,Int.mul_assoc]
  rw[e,VV,VU,Int.add_emod,ih (by omega),<-oL,hm,if_neg (show¬j+1=0 by omega)];by_cases h0:j=0
  ·subst h0;rw[if_pos rfl,if_pos rfl,Int.mul_one,Int.zero_emod,Int.zero_add,cM _ (Int.dvd_refl _)]
  ·rw[if_neg h0,if_neg h0,Int.mul_zero,Int.zero_emod,Int.add_zero,cM _ (Int.dvd_refl _)]
theorem Pw{c:Nat->Bool}{n:Nat}(hn:n<=9)(coeffs shares:List Int)(h0:0<coeffs.length)(ht:coeffs.length<=(oZ c n).length)(hc:∀i,i<coeffs.length->0<=coeffs.getD i 0/\coeffs.getD i 0<1073741789)
  (hs:∀k,k<(oZ c n).length->shares.getD k 0=jG coeffs ((ints (oZ c n)).getD k 0)):V9 (ints (oZ c n)) shares (oZ c n).length=coeffs.getD 0 0:=by
 have hp:=Sb (c:=c) hn coeffs coeffs.length ht;have hb:∀k,k<(oZ c n).length->1<=(ints (oZ c n)).getD k 0/\(ints (oZ c n)).getD k 0<=9:=fun k hk=>by
  rw[ints_at];have:=Ay c n _ (Dd hk)
  omega
 rw[Ix,EH (G:=fun k=>vT coeffs ((ints (oZ c n)).getD k 0) coeffs.length*weight (ints (oZ c n)) k) (fun k hk=>by
  have:=hb k hk
  rw[hs k hk,Cr coeffs _ (by omega) (by omega) hc,RR,iA]),hp,if_neg (by omega)]
 have:=hc 0 h0
 exact Int.emod_eq_of_lt this.1 this.2
end OZ
namespace OX
open Pl ni oa Odr OZ
theorem BA(c:Nat):jQ (pw 4 c 2147483579)=true:=by
 have hb:=nL 4 c (m:=2147483579) (by omega);have h1:pw (pw 4 c 2147483579) qq 2147483579=1:=by
  rw[<-lI,Nat.mul_comm,lI,si,R8 _ (by omega)]
 have h0:pw 4 c 2147483579≠0:=fun h=>by
  rw[h]at h1;have:pw 0 qq 2147483579=0:=by
   unfold pw;rw[show qq=1073741788+1 from rfl,Int.pow_succ,Int.mul_zero];rfl
  omega
 unfold jQ;rw[decide_eq_true_iff];exact⟨by omega,hb.2,h1⟩
def L5(l:List Int)(id:Int):Nat->Int
 |0=>0
 |j+1=>L5 l id j+l.getD j 0*vR id j
theorem zZ{l:List Int}(h:∀i,i<l.length->0<=l.getD i 0)(id:Int)(j:Nat)(hj:j<=l.length):0<=L5 l id j:=by
 induction j with
 |zero=>exact Int.le_refl _
 |succ j ih=>
  have:=dL (h j (by omega)) (tX id j).1
  have:=ih (by omega)
  rw[L5];omega
theorem rA(l:List Int){j:Nat}(h:j<l.length):(comms l l.length).getD j 0=pw 4 (l.getD j 0).toNat 2147483579:=by
 unfold comms;rw[aC,cg,List.take_length,aN h,aC,aN h];rfl
theorem Wj{l:List Int}(h:∀i,i<l.length->0<=l.getD i 0)(id:Int)(j:Nat)(hj:j<=l.length):tY (comms l l.length) id j=pw 4 (L5 l id j).toNat 2147483579:=by
 induction j with
 |zero=>exact(AA 4 (by omega)).symm
 |succ j ih=>
  have h1:=zZ h id j (by omega);have h2:=dL (h j (by omega)) (tX id j).1;rw[tY,ih (by omega),rA l (by omega),<-lI,<-yU,L5,Int.toNat_add h1 h2,Int.toNat_mul (h j (by omega)) (tX id j).1]
theorem Un(l:List Int)(id:Int)(j:Nat):L5 l id j%1073741789=Ge l id j:=by
 induction j with
 |zero=>rfl
 |succ j ih=>
  rw[L5,Ge,<-ih];generalize l.getD j 0*vR id j=B;omega
theorem xR{x:Int}(h:0<=x):pw 4 x.toNat 2147483579=pw 4 (x%1073741789).toNat 2147483579:=by
 rw[qW (by omega) si x.toNat];congr 1;have e:qq=1073741789:=rfl;rw[e];omega
theorem EP{l:List Int}(h:∀i,i<l.length->0<=l.getD i 0/\l.getD i 0<1073741789){id:Int}(h1:0<=id)(h2:id<1073741789):
  ER (comms l l.length) id=pw 4 (jG l id).toNat 2147483579:=by
 have hl:(comms l l.length).length=l.length:=iu l nle;unfold ER;rw[hl,Wj (fun i hi=>(h i hi).1) id _ nle,xR (zZ (fun i hi=>(h i hi).1) id _ nle),Un,Cr l id h1 h2 h]
theorem Qs(l:List Int)(k:Nat)(hk:k<=l.length):lM (comms l l.length) k=true:=by
 induction k with
 |zero=>rfl
 |succ k ih=>rw[lM,ih (by omega),rA l (by omega),BA];rfl
theorem JV{t n:Int}{l:List Int}(h1:2<=t)(h2:t<=n)(h3:n<=9)(h4:(l.length:Int)=t)(h5:0<l.getD 0 0)(h6:l.getD 0 0<1073741789):fW t n (comms l l.length)=true:=by
 have hl:(comms l l.length).length=l.length:=iu l nle;rw[zW ⟨h1,h2,h3,by rw[hl];exact h4,?_⟩,hl,Qs l _ nle];rw[rA l (by omega)];exact oG (by omega) (by
  have e:qq=1073741789:=rfl;omega)
theorem QD{t n:Int}{l:List Int}(hg:fW t n (comms l l.length)=true)(h:∀i,i<l.length->0<=l.getD i 0/\l.getD i 0<1073741789){id:Int}(h1:1<=id)(h2:id<=n)(h3:n<=9):
  jb t n (comms l l.length) id (jG l id)=0/\qL t n (comms l l.length) id (jG l id)=true:=by
 have hb:=rQ l id;have he:=FA (id:=id) (share:=jG l id) hg (by omega) (by omega);refine⟨he,?_⟩;rw[FC he,beq_iff_eq,EP h (by omega) (by omega)]
end OX
namespace O0
open Go.RowKit Pl ni oa ng Mem Hv Odr nO Ht OX
theorem AJ{n:Nat}(h0:0<n)(h1:n<1073741789):iH (pw 4 n 2147483579)=true:=by
 have h:=oG h0 h1;unfold iH;rw[BA,Bool.true_and,decide_eq_true_iff];exact h
section
variable{s s':St}{j:Nat}{msg:ByteArray}{v e:Int}
end
end O0
namespace O0
open Go.RowKit Pl ni oa ng Mem Hv Ht nO O2
open tP (Only jI qN vM)
section
variable{P:au}{w:ae}
end
theorem Dy{X:List Nat}{B:Nat}{w w':ae}(ho:Only X w w')(hX:∀k∈X,B<=k)(hB:B<=w.heap.size):Below B w w':=
 ⟨ho.os,ho.tape,ho.output,ho.size,fun k hk=>ho.block k (by omega) (fun hk'=>by have:=hX k hk';omega)⟩
theorem jI.only{w w':ae}{a:tP.Loc}{s:St}{X:List Nat}(h:jI w a s)(ho:Only X w w')(hX:∀k∈a.foot,k∉X):jI w' a s:=
 h.keep fun k hk=>ho.block k (h.lt k hk) (hX k hk)
theorem Lm{w w':ae}{base n:Nat}{e:aj}{size:Nat}{v:af}{xs:List af}(h:w.ownsRow base e size v n xs)(hb:∀g,v.ownBlock=some g->w'.heap[g]?=w.heap[g]?):w'.ownsRow base e size v n xs:=by
 refine⟨h.1,?_⟩;rcases h.2 with h2|⟨g,cp,cur,hv,hbg,hh,r⟩
 ·exact .inl h2
 ·exact .inr ⟨g,cp,cur,hv,hbg,(hb g (by rw[hv];rfl)).trans hh,r⟩
theorem QB(id:Int)(q:Int×Int):0<=(iV id q).d/\0<=(iV id q).e:=⟨(nL 4 _ (by omega)).1,(nL 4 _ (by omega)).1⟩
section
variable{w wr w':ae}{a:tP.Loc}{OB base n:Nat}{v:af}{l:List Cm}
theorem Ij{s:St}(h:jI wr a s)(hb:Below wr.heap.size wr w'):jI w' a s:=h.keep fun k hk=>hb.block k (h.lt k hk)
end
end O0
namespace Bla
open Go.RowKit Pl ni oa ng Mem nO Odr Ht OX Hw KT Cc Hv
theorem AB(a b:Nat):pw 4 (a+b) 2147483579=mI (pw 4 a 2147483579) (pw 4 b 2147483579):=by
 have h1:=nL 4 a (m:=2147483579) (by omega);have h2:=nL 4 b (m:=2147483579) (by omega);rw[vF h1.1 (by omega) h2.1 (by omega),yU]
theorem od{a b:Int}(ha:0<=a)(hb:0<=b):(a+b).toNat=a.toNat+b.toNat:=by omega
theorem rK{a b:Int}(ha:0<=a)(hb:0<=b):(a*b).toNat=a.toNat*b.toNat:=by
 obtain⟨x,rfl⟩:=cw ha;obtain⟨y,rfl⟩:=cw hb;simp only[Int.toNat_natCast];rw[<-Int.natCast_mul,Int.toNat_natCast]
theorem Sd{d e b w s c:Int}(hd:0<=d/\d<1073741789)(he:0<=e/\e<1073741789)(hb:0<=b/\b<1073741789)(hw:0<=w/\w<1073741789)(hs:0<=s/\s<1073741789)(hc:0<=c/\c<1073741789):
  pw 4 (Ce d e b w s c).toNat 2147483579=mI (mI (pw 4 d.toNat 2147483579) (pw (pw 4 e.toNat 2147483579) b.toNat 2147483579)) (pw (pw 4 s.toNat 2147483579) (smul c w).toNat 2147483579):=by
 have hsc:0<=s*(c*w):=dL hs.1 (dL hc.1 hw.1);have heb:0<=e*b:=dL he.1 hb.1;have e1:Ce d e b w s c=(d+e*b+s*(c*w))%1073741789:=by
  rw[sign_eq hd he hb hw hs hc];unfold MN;have x1:w*s%1073741789*c%1073741789=(w*s*c)%1073741789:=by
   rw[dA,cM _ (Int.dvd_refl _),<-dA]
  have x2:w*s*c=s*(c*w):=by rw[Int.mul_comm w s,Int.mul_assoc,Int.mul_comm w c]
  rw[x1,x2];generalize s*(c*w)=y;generalize e*b=z;omega
 have e2:smul c w=(c*w)%1073741789:=lu hc.1 (by omega) hw.1 (by omega);rw[e1,<-xR (by omega),od (by omega) hsc,od hd.1 heb,AB,AB,rK he.1 hb.1,lI,e2];congr 1;rw[<-lI,rK hs.1 (dL hc.1 hw.1)];have e3:((c*w)%1073741789).toNat=(c*w).toNat%1073741789:=by have:=dL hc.1 hw.1;omega
 rw[e3];have e4:pw 4 (s.toNat*(c*w).toNat) 2147483579=pw 4 (s.toNat*((c*w).toNat%1073741789)) 2147483579:=by
  rw[qW (by omega) si (s.toNat*(c*w).toNat),qW (by omega) si (s.toNat*((c*w).toNat%1073741789))];congr 1;show _%1073741789=_%1073741789;rw[Nat.mul_mod,Nat.mul_mod s.toNat ((c*w).toNat%1073741789),Nat.mod_mod]
 exact e4
section
variable{cf:List Int}(JN:∀i,i<cf.length->0<=cf.getD i 0/\cf.getD i 0<1073741789){l:List Cm}{msg:ByteArray}{k:Nat}{q:Int×Int}
include JN
theorem RV{c key:Int}(hkey:key=(comms cf cf.length).getD 0 0)(hc:0<=c/\c<1073741789)(hid:0<=(l.getD k .zero).id/\(l.getD k .zero).id<1073741789)(hl:l.getD k .zero=iV (l.getD k .zero).id q)(hq:(0<=q.1/\q.1<1073741789)/\(0<=q.2/\q.2<1073741789)):
  iB (Ce q.1 q.2 (lN l key msg k) (iq (iO l l.length) k) (jG cf (l.getD k .zero).id) c) c (comms cf cf.length) l msg k=true:=by
 have hb:=rD l key msg k;have hw:0<=iq (iO l l.length) k/\iq (iO l l.length) k<1073741789:=lZ _ _;have hs:=rQ cf (l.getD k .zero).id;have hz:=Az (mE q.1 (smul q.2 (lN l key msg k))) (smul (smul (iq (iO l l.length) k) (jG cf (l.getD k .zero).id)) c);unfold iB;rw[aD,decide_eq_true_eq,decide_eq_true_eq];refine⟨hz.2,?_⟩;rw[Sd hq.1 hq.2 hb hw hs hc,EP JN hid.1 hid.2];congr 1;unfold l6;rw[<-hkey];have e1:(l.getD k .zero).d=pw 4 q.1.toNat 2147483579:=by rw[hl];rfl
 have e2:(l.getD k .zero).e=pw 4 q.2.toNat 2147483579:=by rw[hl];rfl
 rw[e1,e2]
end
theorem Pv{c:Int}{cs:List Int}{l:List Cm}{msg:ByteArray}{k:Nat}{z z':Int}(h:iB z c cs l msg k=true)(h0:0<=z)(h1:0<=z')(hne:z'≠z):iB z' c cs l msg k=false:=by
 unfold iB at h ⊢;rw[aD,decide_eq_true_eq,decide_eq_true_eq]at h;by_cases hlt:z'<1073741789
 ·have:¬pw 4 z'.toNat 2147483579=mI (l6 l (cs.getD 0 0) msg k) (pw (ER cs (l.getD k .zero).id) (smul c (iq (iO l l.length) k)).toNat 2147483579):=fun e=>by
   have e2:pw 4 z'.toNat 2147483579=pw 4 z.toNat 2147483579:=e.trans h.2.symm;have:=Dg (a:=z'.toNat) (b:=z.toNat) (by show z'.toNat<1073741789;omega) (by show z.toNat<1073741789;have:=h.1;omega) e2
   omega
  rw[decide_eq_false this,Bool.and_false]
 ·rw[decide_eq_false hlt,Bool.false_and]
end Bla
namespace xA
open Pl ni oa Odr OZ OX nU
def kv(n:Int):Nat:=(2+pj n 8).toNat
def gS(t n:Int):Nat:=(2+pj t ((kv n:Int)-1)).toNat
theorem y8(n:Int):2<=kv n/\kv n<=9/\((kv n:Nat):Int)=2+pj n 8:=by
 have:=IL n (n:=8) (by omega)
 unfold kv;omega
theorem BV(t n:Int):2<=gS t n/\gS t n<=kv n/\((gS t n:Nat):Int)=2+pj t ((kv n:Int)-1):=by
 have h:=y8 n;have:=IL t (n:=(kv n:Int)-1) (by omega)
 unfold gS;omega
def cf(seed:Int)(k:Nat):Int:=l8 (IntKind.u64.wrap (IntKind.u64.wrap (seed*(2*(k:Int)+1))+(k:Int)*(k:Int)))
def kG(seed:Int)(t:Nat):List Int:=(List.range t).map (cf seed)
theorem jX{x:Int}:1<=l8 x/\l8 x<1073741789:=by unfold l8;omega
theorem iW(seed:Int)(t:Nat):(kG seed t).length=t:=by simp[kG]
theorem UJ(seed:Int)(t:Nat):kG seed (t+1)=kG seed t++[cf seed t]:=by simp[kG,List.range_succ]
theorem Dt(seed:Int){t k:Nat}(h:k<t):(kG seed t).getD k 0=cf seed k:=by
 unfold kG;rw[aC,cg,List.getElem?_range h];rfl
theorem zz(seed:Int)(t:Nat):∀i,i<(kG seed t).length->0<=(kG seed t).getD i 0/\(kG seed t).getD i 0<1073741789:=by
 intro i hi;rw[iW]at hi;rw[Dt seed hi];have:=jX (x:=IntKind.u64.wrap (IntKind.u64.wrap (seed*(2*(i:Int)+1))+(i:Int)*(i:Int)))
 unfold cf;omega
theorem Lq(seed:Int)(t k:Nat)(hk:k<=t):mQ (kG seed t) k=true:=by
 induction k with
 |zero=>rfl
 |succ k ih=>rw[mQ,ih (by omega),decide_eq_true (zz seed t k (by rw[iW];omega)).2];rfl
theorem Ki{t n:Int}(seed:Int):iY (gS t n) (kv n) (kG seed (gS t n))=0:=by
 have h1:=y8 n;have h2:=BV t n;unfold iY;rw[if_neg (by rw[iW];omega),if_neg];rintro (h|h)
 ·have:=(zz seed (gS t n) 0 (by rw[iW];omega)).1
  rw[Dt seed (by omega)]at h;have h3:1<=cf seed 0:=jX.1;omega
 ·rw[iW,Lq seed _ _ nle]at h;cases h
def Dx(mask:Int)(id:Nat):Bool:=bits BinOp.and IntKind.i64 (mask/2^id) 1==1
def iN(mask:Int)(t n:Nat):Nat->List Nat
 |0=>[]
 |k+1=>if Dx mask (k+1)||decide ((iN mask t n k).length+n<t+(k+1))then iN mask t n k++[k+1]else iN mask t n k
theorem Qd(mask:Int)(t n k:Nat):iN mask t n k=oZ (fun j=>Dx mask (j+1)||decide ((iN mask t n j).length+n<t+(j+1))) k:=by
 induction k with
 |zero=>rfl
 |succ k ih=>rw[iN,oZ,<-ih]
theorem GC(mask:Int)(t n k:Nat)(ht:t<=n)(hk:k<=n):t+k<=(iN mask t n k).length+n:=by
 induction k with
 |zero=>rw[iN,List.length_nil];omega
 |succ k ih=>
  have:=ih (by omega)
  rw[iN];split
  ·rw[dG,List.length_singleton];omega
  ·rename_i h;rw[bf,decide_eq_true_iff]at h;have:¬(iN mask t n k).length+n<t+(k+1):=fun h'=>h (.inr h')
   omega
theorem JA(mask:Int)(t n k:Nat):(iN mask t n k).length<=k:=by
 induction k with
 |zero=>rw[iN,List.length_nil];omega
 |succ k ih=>
  rw[iN];split
  ·rw[dG,List.length_singleton];omega
  ·omega
def ids(mask:Int)(t n:Nat):List Nat:=iN mask t n n
theorem K5(coeffs:List Int){n i:Nat}(h:i<n):(jo coeffs n).getD i 0=jG coeffs ((i:Int)+1):=by
 unfold jo;rw[aC,cg,List.getElem?_range h];rfl
end xA
namespace Bla
open Go.RowKit Pl ni oa ng Mem nO Odr Ht OX Hw KT Cc Hv O0 OZ xA nU
def dN(dX:Int)(id:Nat):Int:=l8 (IntKind.u64.wrap (IntKind.u64.wrap (dX*(id:Int))+1))
def fN(dX:Int)(id:Nat):Int:=l8 (IntKind.u64.wrap (dX+(id:Int)*7919))
def cmt(dX:Int)(id:Nat):Cm:=iV (id:Int) (dN dX id,fN dX id)
def fA(dX:Int)(is:List Nat):List Cm:=is.map (cmt dX)
structure Hc(t n:Nat)(is:List Nat):Prop where
 mem:∀x∈is,1<=x/\x<=n
 rise:is.Pairwise (·<·)
 many:t<=is.length
 few:is.length<=n
 n9:n<=9
section
variable{t n:Nat}{is:List Nat}{dX:Int}
theorem z6(id:Nat):0<dN dX id/\dN dX id<1073741789:=by have:=jX (x:=IntKind.u64.wrap (IntKind.u64.wrap (dX*(id:Int))+1));unfold dN;omega
theorem zY(id:Nat):0<fN dX id/\fN dX id<1073741789:=by have:=jX (x:=IntKind.u64.wrap (dX+(id:Int)*7919));unfold fN;omega
theorem fy:(fA dX is).length=is.length:=by simp[fA]
theorem jJ{k:Nat}(hk:k<is.length):(fA dX is).getD k .zero=cmt dX (is.getD k 0):=by
 unfold fA;simp[aC,hk]
theorem Hc.at_(h:Hc t n is){k:Nat}(hk:k<is.length):1<=is.getD k 0/\is.getD k 0<=n:=by
 have:is.getD k 0=is[k]:=by simp[aC,hk]
 rw[this];exact h.mem _ (List.getElem_mem hk)
theorem Hc.lt(h:Hc t n is){j k:Nat}(hjk:j<k)(hk:k<is.length):is.getD j 0<is.getD k 0:=by
 have e1:is.getD j 0=is[j]:=by simp[aC,show j<is.length by omega]
 have e2:is.getD k 0=is[k]:=by simp[aC,hk]
 rw[e1,e2];exact List.pairwise_iff_getElem.1 h.rise j k (by omega) hk hjk
theorem AE(h:Hc t n is):sM t n (fA dX is)=0:=by
 have hr:∀k,k<=is.length->fU n (fA dX is) k=0:=by
  intro k;induction k with
  |zero=>intro _;rfl
  |succ k ih=>
   intro hk;refine xQ (ih (by omega)) ?_;have h1:=h.at_ (k:=k) (by omega);unfold nG;rw[jJ (by omega),if_neg (by show¬(((is.getD k 0:Nat):Int)<1\/(n:Int)<((is.getD k 0:Nat):Int));omega),if_neg];rintro ⟨h2,h3⟩;rw[jJ (by omega)]at h3;have h3:((is.getD k 0:Nat):Int)<=((is.getD (k-1) 0:Nat):Int):=h3;have:=h.lt (j:=k-1) (k:=k) (by omega) (by omega)
   omega
 have hn:∀k,k<=is.length->kR (fA dX is) k=true:=by
  intro k;induction k with
  |zero=>intro _;rfl
  |succ k ih=>
   intro hk;have b1:=z6 (dX:=dX) (is.getD k 0);have b2:=zY (dX:=dX) (is.getD k 0);refine Cy _ (ih (by omega)) ?_ ?_<;>rw[jJ (by omega)]
   ·exact AJ (n:=(dN dX (is.getD k 0)).toNat) (by omega) (by omega)
   ·exact AJ (n:=(fN dX (is.getD k 0)).toNat) (by omega) (by omega)
 refine Sj ?_ ?_ ?_
 ·rw[fy];have:=h.many;have:=h.few;omega
 ·rw[fy];exact hr _ nle
 ·rw[fy];exact hn _ nle
def shr(cf:List Int)(dX:Int)(is:List Nat)(msg:ByteArray)(k:Nat):Int:=
 Ce (dN dX (is.getD k 0)) (fN dX (is.getD k 0)) (lN (fA dX is) ((comms cf cf.length).getD 0 0) msg k) (iq (iO (fA dX is) is.length) k) (jG cf (is.getD k 0)) (jR (gI (fA dX is) ((comms cf cf.length).getD 0 0) msg) ((comms cf cf.length).getD 0 0) msg)
theorem Cf(cf:List Int)(dX:Int)(is:List Nat)(msg:ByteArray)(k:Nat):0<=shr cf dX is msg k/\shr cf dX is msg k<1073741789:=Az _ _
theorem Pm{cf:List Int}(JN:∀i,i<cf.length->0<=cf.getD i 0/\cf.getD i 0<1073741789)(h:Hc t n is)(msg:ByteArray){k:Nat}(hk:k<is.length):
  iB (shr cf dX is msg k) (jR (gI (fA dX is) ((comms cf cf.length).getD 0 0) msg) ((comms cf cf.length).getD 0 0) msg) (comms cf cf.length) (fA dX is) msg k=true:=by
 have h1:=h.at_ hk;have h9:=h.n9;have e1:((fA dX is).getD k .zero).id=((is.getD k 0:Nat):Int):=by rw[jJ hk];rfl
 have b1:=z6 (dX:=dX) (is.getD k 0);have b2:=zY (dX:=dX) (is.getD k 0);have key:=RV JN (l:=fA dX is) (msg:=msg) (k:=k) (q:=(dN dX (is.getD k 0),fN dX (is.getD k 0))) (c:=jR (gI (fA dX is) ((comms cf cf.length).getD 0 0) msg) ((comms cf cf.length).getD 0 0) msg) rfl (BH _ _ _) (by rw[e1];omega) (by rw[e1,jJ hk];rfl) ⟨by show 0<=dN _ _/\dN _ _<_;omega,by show 0<=fN _ _/\fN _ _<_;omega⟩;rw[e1,fy]at key;exact key
def oc(bd:Nat->Bool)(is:List Nat):Nat->List Int
 |0=>[]
 |k+1=>if bd k then oc bd is k++[((is.getD k 0:Nat):Int)]else oc bd is k
theorem BO{rt bd:Nat->Bool}(h:∀k,k<is.length->rt k= !bd k):∀k,k<=is.length->fT rt (fA dX is) k=oc bd is k
 |0,_=>rfl
 |k+1,hk=>by
  rw[fT,oc,h k (by omega),BO h k (by omega),jJ (by omega)];cases bd k<;>rfl
def ZZ(OG:Int)(b:Bool)(z:Int):Int:=if b then(if OG%5=0 then z+1073741789 else(z+l8 OG)%1073741789)else z
theorem av2{OG z:Int}{b:Bool}(hz:0<=z/\z<1073741789):0<=ZZ OG b z/\ZZ OG b z<2147483578:=by
 unfold ZZ;split
 ·split
  ·omega
  ·omega
 ·omega
theorem av1{OG z:Int}(hz:0<=z/\z<1073741789):ZZ OG true z≠z:=by
 have:=jX (x:=OG)
 unfold ZZ;rw[if_pos rfl];split
 ·omega
 ·omega
theorem blame{cf:List Int}(JN:∀i,i<cf.length->0<=cf.getD i 0/\cf.getD i 0<1073741789)(h:Hc t n is)(msg:ByteArray)(OG:Int)(bd:Nat->Bool)(nv:Nat->Int)(KN:∀k,k<is.length->nv k=ZZ OG (bd k) (shr cf dX is msg k)):
  fT (fun k=>iB (nv k) (jR (gI (fA dX is) ((comms cf cf.length).getD 0 0) msg) ((comms cf cf.length).getD 0 0) msg) (comms cf cf.length) (fA dX is) msg k) (fA dX is) (fA dX is).length=oc bd is is.length:=by
 rw[fy];refine BO (fun k hk=>?_) _ nle;have hb:=Cf cf dX is msg k;have hr:=Pm (dX:=dX) JN h msg hk;rw[KN k hk];cases hk2:bd k with
 |false=>
  have e:ZZ OG false (shr cf dX is msg k)=shr cf dX is msg k:=rfl;rw[e,hr];rfl
 |true=>rw[Pv hr hb.1 (av2 hb).1 (av1 hb)];rfl
theorem aw7{cf:List Int}(hg:fW t n (comms cf cf.length)=true)(h:Hc t n is)(msg:ByteArray)(ha:gI (fA dX is) ((comms cf cf.length).getD 0 0) msg≠1):ml t n (comms cf cf.length) (fA dX is) msg is.length=0:=by
 unfold ml;rw[if_neg (by rw[hg];simp),if_neg (by rw[AE h];simp),if_neg (by rw[fy];simp),if_neg ha]
end
end Bla
end Go.Proofs.Ytpfpokjaeffbjaa
