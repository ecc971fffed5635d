/- Part of the proof: AgH, AgB, Plain, Field, Mem, Slices, Hash, Verify, DealPlain, GroupPlain, Locks. -/
import Derived.Test.YtpfpokjaeffbjabBb9
import Derived.Test.YtpfpokjaeffbjabProg
import Derived.WalkKit
import Derived.WalkSpells
import Derived.WalkLawsBesides
import Derived.Test.YtpfpokjaeffbjabRows
import Derived.Lib.Hide
import Derived.Deep.QuietTactic
import Derived.BigQuiet
import Derived.Deep.LoopGhost
import Derived.Deep.Draws
import Derived.Deep.AppendLies
import Derived.Deep.Onto
import Derived.OneCell
import Derived.Lib.AppendStr
import Derived.Deep.RegionHeld3
import Derived.Deep.DrawnRows
import Derived.Conc.MuLone
import Derived.Conc.MuData
import Derived.KernelRfl
set_option linter.unusedVariables false
set_option linter.unusedSimpArgs false
set_option maxRecDepth 100000
set_option maxHeartbeats 16000000
namespace Go.Proofs.Ytpfpokjaeffbjab
namespace Cc
open Go.Conc Go.ConcN
section
variable{S:FuncId->Bool}{ρ:Nat->Option Nat}{ro:Nat->Md}{G:Nat}{s w:World}
theorem HR.mX(h:HR G (fun f=>S f=true) ro ρ s w){b:Nat}(hro:ro b=.all){C:Array Value}{e:TypeId}{fz:Nat×Nat}(hb:s.heap[b]?=some (.cells C e fz)):∃c C',ρ b=some c/\w.heap[c]?=some (.cells C' e (0,0))/\AR (fun f=>S f=true) ρ C C':=by
 cases hρ:ρ b with
 |none=>rcases h.hole b hρ with h1|⟨x,h1⟩<;>rw[hb]at h1<;>cases h1
 |some c=>
  obtain⟨o,o',h1,h2,h3⟩:=h.row b c hρ;rw[hb]at h1;cases h1;rw[hro]at h3;cases h3 with
  |cells k3 k4 k5 k6=>
   obtain⟨e1,e2⟩:=k5 rfl;subst e2;exact⟨c,_,rfl,h2,e1,fun i v v' a b=>by obtain⟨z,hz,hr⟩:=k4 i v a;rw[hz]at b;cases b;exact hr⟩
theorem VR.F9{b off:Nat}{sp:Option Nat}{v:Value}(h:VR (fun f=>S f=true) ρ (.pointer (some ⟨b,off,sp⟩)) v):∃c,ρ b=some c/\v=.pointer (some ⟨c,off,sp⟩):=by
 cases h with
 |ptr _ _ h=>exact⟨_,h,rfl⟩
theorem VR.Ar{b off l k:Nat}{sp:Option Nat}{v:Value}(h:VR (fun f=>S f=true) ρ (.slice (some ⟨b,off,sp⟩) l k) v):∃c,ρ b=some c/\v=.slice (some ⟨c,off,sp⟩) l k:=by
 cases h with
 |slice _ _ _ _ h=>exact⟨_,h,rfl⟩
theorem VR.bu9{m:ByteArray}{v:Value}(h:VR (fun f=>S f=true) ρ (.string m) v):v=.string m:=by cases h;rfl
theorem VR.ay5{v:Value}(h:VR (fun f=>S f=true) ρ Go.undef v):v=Go.undef:=by
 cases h with
 | @tuple _ x' hx _=>
  have:x'=#[]:=Array.eq_empty_of_size_eq_zero (by simpa using hx.symm);rw[this];rfl
theorem AR.sl{x x':Array Value}(h:AR (fun f=>S f=true) ρ x x'){i:Nat}{v:Value}(hv:x[i]?=some v):∃v',x'[i]?=some v'/\VR (fun f=>S f=true) ρ v v':=h.get hv
theorem Qr{D:Nat->Bool}{x x':Array Value}(hs:x.size=x'.size)(h:∀i v v',D i=false->x[i]?=some v->x'[i]?=some v'->VR (fun f=>S f=true) ρ v v'):AR (fun f=>S f=true) ρ (nV D x) (nV D x'):=by
 refine⟨by simp[nV,hs],fun i v v' h1 h2=>?_⟩;unfold nV at h1 h2;rw[Array.getElem?_mapIdx]at h1 h2;cases hx:x[i]? with
 |none=>rw[hx]at h1;cases h1
 |some a=>
  cases hx':x'[i]? with
  |none=>rw[hx']at h2;cases h2
  |some a'=>
   rw[hx]at h1;rw[hx']at h2;simp only[Option.map_some,Option.some.injEq]at h1 h2;cases hD:D i with
   |true=>rw[hD]at h1 h2;simp only[if_true]at h1 h2;rw[<-h1,<-h2];exact VR.undef
   |false=>
    rw[hD]at h1 h2;simp only[Bool.false_eq_true,if_false]at h1 h2;rw[<-h1,<-h2];exact h i a a' hD hx hx'
theorem iZ{q:ig}{X:Nat->Prop}{bU st:St aJ}(hV:Zm q ro X bU ρ st){b c:Nat}(hb:ρ b=some c)(hro:ro b=.all)(hge:bU.w.heap.size<=b):bU.w.heap.size<=c/\(∀l,fE l=some c->l.isMemory=true->st.γ.ex 0 l)/\¬st.γ.dead c:=by
 obtain⟨h1,h2,h3,h4,h5⟩:=hV;refine⟨?_,?_,(h5 b c hb).1⟩
 ·rcases Nat.lt_or_ge c bU.w.heap.size with h|h
  ·have:=(h5 b c hb).2.1 h;omega
  ·exact h
 ·have:=h1.2.2 b c hb;rw[hro]at this;exact this
end
end Cc
namespace Cc
open Go.Conc
noncomputable def jP:Code:=Try.f16.body.getD .skip
noncomputable def xk:Code:=match(dP 12 jP).2 with|.seq a _=>a|_=>.skip
noncomputable def tV:Code:=match(dP 12 jP).2 with|.seq _ b=>b|_=>.skip
noncomputable def Ua:Code:=match xk with|.seq _ b=>b|_=>.skip
noncomputable def Ol:Code:=match Ua with|.block _ (.loop c)=>c|_=>.skip
noncomputable def yN:Code:=match tV with|.seq _ b=>b|_=>.skip
end Cc
namespace Pl
def pw(a:Int)(n:Nat)(m:Int):Int:=a^n%m
def smul(a b:Int):Int:=IntKind.u64.wrap (a*b)%1073741789
def mM(a b:Int):Int:=IntKind.u64.wrap (a+b)%1073741789
def Un(a b:Int):Int:=IntKind.u64.wrap (IntKind.u64.wrap (a+1073741789)-b)%1073741789
def mV(a b:Int):Int:=IntKind.u64.wrap (a*b)%2147483579
theorem u64_nonneg(x:Int):0<=IntKind.u64.wrap x:=by rw[IntKind.wrap_u64];omega
theorem lN{x:Int}(h:0<=x)(h':x<18446744073709551616):IntKind.u64.wrap x=x:=by rw[IntKind.wrap_u64];omega
theorem lS(a b:Int):0<=smul a b/\smul a b<1073741789:=by unfold smul;omega
theorem Dt(a b:Int):0<=mM a b/\mM a b<1073741789:=by unfold mM;omega
theorem DJ(a b:Int):0<=mV a b/\mV a b<2147483579:=by unfold mV;omega
theorem og(a:Int)(n:Nat){m:Int}(h:0<m):0<=pw a n m/\pw a n m<m:=by
 unfold pw;exact⟨Int.emod_nonneg _ (by omega),Int.emod_lt_of_pos _ h⟩
theorem mul_lt{a b A B:Int}(h0:0<=a)(h1:a<A)(h2:0<=b)(h3:b<B):0<=a*b/\a*b<A*B:=by
 refine⟨Int.mul_nonneg h0 h2,?_⟩;have h4:a*b<=a*B:=Int.mul_le_mul_of_nonneg_left (by omega) h0;have h5:a*B<A*B:=Int.mul_lt_mul_of_pos_right h1 (by omega);omega
theorem MB{a b:Int}(h0:0<=a)(h1:a<4294967296)(h2:0<=b)(h3:b<4294967296):IntKind.u64.wrap (a*b)=a*b:=by
 have h:=mul_lt h0 h1 h2 h3;exact lN h.1 (by have:=h.2;omega)
theorem kV{a b:Int}(h0:0<=a)(h1:a<4294967296)(h2:0<=b)(h3:b<4294967296):smul a b=a*b%1073741789:=by
 unfold smul;rw[MB h0 h1 h2 h3]
theorem wV{a b:Int}(h0:0<=a)(h1:a<4294967296)(h2:0<=b)(h3:b<4294967296):mV a b=a*b%2147483579:=by
 unfold mV;rw[MB h0 h1 h2 h3]
theorem fO(a b m:Int):a%m*b%m=a*b%m:=by
 rw[Int.mul_emod,Int.emod_emod_of_dvd _ (Int.dvd_refl m),<-Int.mul_emod]
theorem pY(a b m:Int):a*(b%m)%m=a*b%m:=by
 rw[Int.mul_emod,Int.emod_emod_of_dvd _ (Int.dvd_refl m),<-Int.mul_emod]
theorem pow_mod(a:Int)(n:Nat)(m:Int):(a%m)^n%m=a^n%m:=by
 induction n with
 |zero=>rw[Int.pow_zero,Int.pow_zero]
 |succ n ih=>rw[Int.pow_succ,Int.pow_succ,Int.mul_emod,ih,Int.emod_emod_of_dvd _ (Int.dvd_refl m),<-Int.mul_emod]
theorem aB0(a:Int)(n:Nat)(m:Int):pw (a%m) n m=pw a n m:=pow_mod a n m
theorem Du(a:Int){m:Int}(h:1<m):pw a 0 m=1:=by unfold pw;rw[Int.pow_zero];exact Int.emod_eq_of_lt (by omega) h
theorem yh(a:Int)(k n:Nat)(m:Int):pw a k m*pw a n m%m=pw a (k+n) m:=by
 unfold pw;rw[<-Int.mul_emod,Int.pow_add]
theorem Q8(a:Int)(n:Nat)(m:Int)(h:n%2=0):pw a n m=pw a (n/2) m*pw a (n/2) m%m:=by
 rw[yh];congr 1;omega
theorem Xh(a:Int)(n:Nat)(m:Int)(h:n%2=1):pw a n m=pw a (n/2) m*pw a (n/2) m%m*a%m:=by
 rw[yh];have e:n=n/2+n/2+1:=by omega
 conv=>lhs;rw[e]
 unfold pw;rw[Int.pow_succ,fO]
theorem AX(o a:Int)(n:Nat)(m:Int)(h:n%2=0):o*(a*a%m)^(n/2)%m=o*a^n%m:=by
 have e:a^n=(a*a)^(n/2):=by
  rw[Int.mul_pow,<-Int.pow_add];congr 1;omega
 rw[e,Int.mul_emod,pow_mod,<-Int.mul_emod]
theorem EK(o a:Int)(n:Nat)(m:Int)(h:n%2=1):(o*a%m)*(a*a%m)^(n/2)%m=o*a^n%m:=by
 have e:a^n=a*(a*a)^(n/2):=by
  rw[Int.mul_pow,<-Int.pow_add,Int.mul_comm,<-Int.pow_succ];congr 1;omega
 rw[fO,Int.mul_emod,pow_mod,<-Int.mul_emod,e,Int.mul_assoc]
theorem and_one(k:Nat)(h:k<18446744073709551616):bits BinOp.and IntKind.u64 (k:Int) 1=(k:Int)%2:=
 Go.and_one_u64 _ (by omega) (by omega)
theorem GK(a:Nat)(ha:a<9223372036854775808):(BitVec.ofInt 64 (a:Int)).toNat=a:=by
 rw[BitVec.ofInt_natCast,BitVec.toNat_ofNat];exact Nat.mod_eq_of_lt (by omega)
theorem Nb(a b:Nat)(ha:a<9223372036854775808)(hb:b<9223372036854775808):bits .and .i64 (a:Int) (b:Int)=((a&&& b:Nat):Int):=by
 have hx:a&&& b<2^63:=Nat.and_lt_two_pow _ (by omega);show IntKind.i64.wrap ((BitVec.ofInt 64 (a:Int)&&& BitVec.ofInt 64 (b:Int)).toNat:Int)=_;rw[BitVec.toNat_and,GK a ha,GK b hb,IntKind.wrap_i64];omega
theorem CO(k:Nat)(h:k<9223372036854775808):bits BinOp.and IntKind.i64 (k:Int) 1=(k:Int)%2:=by
 have h1:=Nb k 1 h (by omega);rw[Nat.and_one_is_mod]at h1;exact h1.trans (by omega)
def qq:Nat:=1073741789
def OG:Nat:=1073741787
theorem aY4:qq<18446744073709551616:=by unfold qq;omega
def jM(n:Int):Bool:=decide (0<n/\n<2147483579/\pw n qq 2147483579=1)
def pG(n:Int):Bool:=jM n&&decide (n≠1)
def poly(l:List Int)(x:Int):Int:=l.foldr (fun c acc=>mM (smul acc x) c) 0
def CU(x:Int):Nat->Int
 |0=>1
 |j+1=>CU x j*x%1073741789
def rpS(l:List Int)(x:Int):Nat->Int
 |0=>0
 |j+1=>(rpS l x j+l.getD j 0*CU x j)%1073741789
theorem yc(x:Int)(j:Nat):0<=CU x j/\CU x j<1073741789:=by
 cases j with
 |zero=>unfold CU;omega
 |succ j=>unfold CU;omega
def mg(ids:List Int)(k:Nat):Nat->Int
 |0=>1
 |j+1=>if j=k then mg ids k j else smul (mg ids k j) (IntKind.u64.wrap (ids.getD j 0))
def iC(ids:List Int)(k:Nat):Nat->Int
 |0=>1
 |j+1=>if j=k then iC ids k j else smul (iC ids k j) (Un (IntKind.u64.wrap (ids.getD j 0)) (IntKind.u64.wrap (ids.getD k 0)))
def fF(ids:List Int)(k:Nat):Int:=smul (mg ids k ids.length) (pw (iC ids k ids.length) OG 1073741789)
theorem MO(ids:List Int)(k j:Nat):0<=mg ids k j/\mg ids k j<1073741789:=by
 induction j with
 |zero=>unfold mg;omega
 |succ j ih=>
  unfold mg;split
  ·exact ih
  ·exact lS _ _
theorem EO(ids:List Int)(k j:Nat):0<=iC ids k j/\iC ids k j<1073741789:=by
 induction j with
 |zero=>unfold iC;omega
 |succ j ih=>
  unfold iC;split
  ·exact ih
  ·exact lS _ _
theorem EN(ids:List Int)(k:Nat):mg ids k (k+1)=mg ids k k:=by rw[mg,if_pos rfl]
theorem zQ(ids:List Int)(k:Nat):iC ids k (k+1)=iC ids k k:=by rw[iC,if_pos rfl]
theorem EM(ids:List Int){k j:Nat}(h:j≠k):mg ids k (j+1)=smul (mg ids k j) (IntKind.u64.wrap (ids.getD j 0)):=by rw[mg,if_neg h]
theorem zO(ids:List Int){k j:Nat}(h:j≠k):iC ids k (j+1)=smul (iC ids k j) (Un (IntKind.u64.wrap (ids.getD j 0)) (IntKind.u64.wrap (ids.getD k 0))):=by rw[iC,if_neg h]
def Ws(ids:List Int)(k:Nat):Nat->Int
 |0=>1
 |j+1=>if j=k then Ws ids k j else Ws ids k j*ids.getD j 0%1073741789*pw ((ids.getD j 0+1073741789-ids.getD k 0)%1073741789) OG 1073741789%1073741789
theorem Ko(ids:List Int)(k:Nat):Ws ids k (k+1)=Ws ids k k:=by rw[Ws,if_pos rfl]
theorem J9(ids:List Int){k j:Nat}(h:j≠k):Ws ids k (j+1)=Ws ids k j*ids.getD j 0%1073741789*pw ((ids.getD j 0+1073741789-ids.getD k 0)%1073741789) OG 1073741789%1073741789:=by rw[Ws,if_neg h]
def weight(ids:List Int)(k:Nat):Int:=Ws ids k ids.length
def xA(first:Int)(l:List Int):Nat->Int
 |0=>first
 |j+1=>mM (xA first l j) (l.getD j 0)
def qy(first:Int)(l:List Int):Nat->Int
 |0=>first
 |j+1=>mV (qy first l j) (l.getD j 0)
def mix(h b:Int):Int:=IntKind.u64.wrap (bits BinOp.xor IntKind.u64 h b*1099511628211)
def dv(n:Int):Nat->Int
 |0=>n
 |j+1=>dv n j/256
def IX(h n:Int):Nat->Int
 |0=>h
 |j+1=>mix (IX h n j) (dv n j%256)
def xO(h:Int)(l:List Int):Nat->Int
 |0=>h
 |k+1=>IX (xO h l k) (l.getD k 0) 8
def byteAt(s:ByteArray)(k:Nat):Int:=if h:k<s.size then(s[k].toNat:Int)else 0
def qp(h:Int)(s:ByteArray):Nat->Int
 |0=>h
 |k+1=>mix (qp h s k) (byteAt s k)
theorem OX(h:Int)(s:ByteArray){k:Nat}(hk:k<s.size):qp h s (k+1)=mix (qp h s k) (s[k].toNat:Int):=by
 show mix (qp h s k) (byteAt s k)=_;rw[byteAt,dif_pos hk]
def YC:Int:=14695981039346656037
def vX(tag:Int)(s:ByteArray)(l:List Int):Int:=qp (xO (mix YC tag) l l.length) s s.size%1073741789
theorem bk9(n:Int)(j:Nat)(h0:0<=n)(h1:n<18446744073709551616):0<=dv n j/\dv n j<18446744073709551616:=by
 induction j with
 |zero=>exact⟨h0,h1⟩
 |succ j ih=>unfold dv;omega
theorem yx(h b:Int):0<=mix h b:=u64_nonneg _
theorem Ll(h n:Int)(j:Nat)(h0:0<=h):0<=IX h n j:=by
 cases j with
 |zero=>exact h0
 |succ j=>exact yx _ _
theorem IW(h:Int)(l:List Int)(j:Nat)(h0:0<=h):0<=xO h l j:=by
 induction j with
 |zero=>exact h0
 |succ j ih=>exact Ll _ _ _ ih
theorem Iw(h:Int)(s:ByteArray)(j:Nat)(h0:0<=h):0<=qp h s j:=by
 cases j with
 |zero=>exact h0
 |succ j=>exact yx _ _
theorem Nq(tag:Int)(s:ByteArray)(l:List Int):0<=vX tag s l/\vX tag s l<1073741789:=by unfold vX;omega
def ab8(ids shares:List Int):Nat->Int
 |0=>0
 |k+1=>(ab8 ids shares k+shares.getD k 0*weight ids k)%1073741789
end Pl
namespace qj
open Go.RowKit Pl
theorem nT(a b:Int)(w:World):
  Calls Try.prog 37 #[.int .u64 a,.int .u64 b] w fun e w'=>e=.returned (.int .u64 (smul a b))/\w=w':=by
 go_enter Try.func37,Try.ntmps37
 go_wp2
 go_ret
 exact⟨by rw[smul,<-Int.tmod_eq_emod_of_nonneg (u64_nonneg _)];rfl,rfl⟩
theorem QL(a b:Int)(w:World):
  Calls Try.prog 36 #[.int .u64 a,.int .u64 b] w fun e w'=>e=.returned (.int .u64 (mM a b))/\w=w':=by
 go_enter Try.func36,Try.ntmps36
 go_wp2
 go_ret
 exact⟨by rw[mM,<-Int.tmod_eq_emod_of_nonneg (u64_nonneg _)];rfl,rfl⟩
theorem az7(a b:Int)(w:World):
  Calls Try.prog 109 #[.int .u64 a,.int .u64 b] w fun e w'=>e=.returned (.int .u64 (Un a b))/\w=w':=by
 go_enter Try.func109,Try.ntmps109
 go_wp2
 go_ret
 exact⟨by rw[Un,<-Int.tmod_eq_emod_of_nonneg (u64_nonneg _)];rfl,rfl⟩
theorem qP(a b:Int)(w:World):
  Calls Try.prog 46 #[.int .u64 a,.int .u64 b] w fun e w'=>e=.returned (.int .u64 (mV a b))/\w=w':=by
 go_enter Try.func46,Try.ntmps46
 go_wp2
 go_ret
 exact⟨by rw[mV,<-Int.tmod_eq_emod_of_nonneg (u64_nonneg _)];rfl,rfl⟩
theorem small(n:Int)(w:World):
  Calls Try.prog 70 #[.int .i64 n] w fun e w'=>e=.returned (.int .u64 (IntKind.u64.wrap n))/\w=w':=by
 go_enter Try.func70,Try.ntmps70
 go_wp2
 go_ret
 exact⟨rfl,rfl⟩
theorem KL(n:Int)(w:World):
  Calls Try.prog 30 #[.int .u64 n] w fun e w'=>e=.returned (.tuple #[.int .u64 n,.bool (decide (n<1073741789))])/\w=w':=by
 go_enter Try.func30,Try.ntmps30
 go_wp2
 go_ret2
 exact⟨rfl,rfl⟩
def Inv(m a:Int)(n0:Nat)(x n o:Value):Prop:=
 ∃(x' o':Int) (n':Nat),x=.int .u64 x'/\n=.int .u64 n'/\o=.int .u64 o'/\0<=x'/\x'<m/\0<=o'/\o'<m/\n'<18446744073709551616/\o'*x'^n'%m=a^n0%m
theorem power(a:Int)(n:Nat)(w:World)(ha:0<=a)(ha':a<2147483579)(hn:n<18446744073709551616):
  Calls Try.prog 48 #[.int .u64 a,.int .u64 n] w fun e w'=>e=.returned (.int .u64 (pw a n 2147483579))/\w=w':=by
 go_enter Try.func48,Try.ntmps48
 go_wp2_with fail
 go_loop [0,1,5] (fun x y o=>Inv 2147483579 a n x y o) (fun _ y _=>(intOf y).toNat)
 case atStart=>exact⟨a,1,n,rfl,rfl,rfl,ha,ha',by omega,by omega,hn,by rw[Int.one_mul]⟩
 case round=>
  obtain⟨x,o,k,rfl,rfl,rfl,hx,hx',ho,ho',hk,hinv⟩:=hrel;have hI:=Lib.hid hinv;clear hinv;have e1:mV o x=o*x%2147483579:=wV ho (by omega) hx (by omega);have e2:mV x x=x*x%2147483579:=wV hx (by omega) hx (by omega);have E1:=Lib.hid e1;have E2:=Lib.hid e2;clear e1 e2;have b1:=DJ o x;have b2:=DJ x x;by_cases h0:0<k
  ·by_cases h2:k%2=1
   ·have hb:(bits BinOp.and IntKind.u64 (k:Int) 1==1)=true:=by rw[and_one k hk,beq_iff_eq];omega
    have H2:=Lib.hid h2;clear h2
    go_wp2_with fail
    refine(qP _ _ _).mono ?_;rintro e w' ⟨rfl,rfl⟩
    go_wp2_with fail
    refine(qP _ _ _).mono ?_;rintro e w' ⟨rfl,rfl⟩
    go_wp2_with fail
    go_round
    case rel=>
     refine⟨mV x x,mV o x,k/2,rfl,by go_num,rfl,b2.1,b2.2,b1.1,b1.2,by omega,?_⟩;rw[E1.out,E2.out,EK _ _ _ _ H2.out];exact hI.out
    case measure=>simp[intOf];omega
   ·have hb:(bits BinOp.and IntKind.u64 (k:Int) 1==1)=false:=by rw[and_one k hk,beq_eq_false_iff_ne];omega
    have H2:=Lib.hid (show k%2=0 by omega);clear h2
    go_wp2_with fail
    refine(qP _ _ _).mono ?_;rintro e w' ⟨rfl,rfl⟩
    go_wp2_with fail
    go_round
    case rel=>
     refine⟨mV x x,o,k/2,rfl,by go_num,rfl,b2.1,b2.2,ho,ho',by omega,?_⟩;rw[E2.out,AX _ _ _ _ H2.out];exact hI.out
    case measure=>simp[intOf];omega
  ·obtain rfl:k=0:=by omega
   go_wp2_with fail
   go_ret
   have h:=hI.out;rw[Int.pow_zero,Int.mul_one,Int.emod_eq_of_lt ho ho']at h;refine⟨?_,rfl⟩;rw[pw,<-h];rfl
def bF6(m a:Int)(n0:Nat)(x n o:Value):Prop:=
 ∃(x' o':Int) (n':Nat),x=.int .u64 x'/\n=.int .i64 n'/\o=.int .u64 o'/\0<=x'/\x'<m/\0<=o'/\o'<m/\n'<9223372036854775808/\o'*x'^n'%m=a^n0%m
theorem ac2:OG<9223372036854775808:=by unfold OG;omega
theorem inverse(a:Int)(w:World)(ha:0<=a)(ha':a<1073741789):
  Calls Try.prog 110 #[.int .u64 a] w fun e w'=>e=.returned (.int .u64 (pw a OG 1073741789))/\w=w':=by
 go_enter Try.func110,Try.ntmps110
 go_wp2_with fail
 go_loop [0,4,3] (fun x y o=>bF6 1073741789 a OG x y o) (fun _ y _=>(intOf y).toNat)
 case atStart=>exact⟨a,1,OG,rfl,rfl,rfl,ha,ha',by omega,by omega,ac2,by rw[Int.one_mul]⟩
 case round=>
  obtain⟨x,o,k,rfl,rfl,rfl,hx,hx',ho,ho',hk,hinv⟩:=hrel;have hI:=Lib.hid hinv;clear hinv;have e1:smul o x=o*x%1073741789:=kV ho (by omega) hx (by omega);have e2:smul x x=x*x%1073741789:=kV hx (by omega) hx (by omega);have E1:=Lib.hid e1;have E2:=Lib.hid e2;clear e1 e2;have b1:=lS o x;have b2:=lS x x;by_cases h0:0<k
  ·by_cases h2:k%2=1
   ·have hb:(bits BinOp.and IntKind.i64 (k:Int) 1==1)=true:=by rw[CO k hk,beq_iff_eq];omega
    have H2:=Lib.hid h2;clear h2
    go_wp2_with fail
    refine(nT _ _ _).mono ?_;rintro e w' ⟨rfl,rfl⟩
    go_wp2_with fail
    refine(nT _ _ _).mono ?_;rintro e w' ⟨rfl,rfl⟩
    go_wp2_with fail
    go_round
    case rel=>
     refine⟨smul x x,smul o x,k/2,rfl,by go_num,rfl,b2.1,b2.2,b1.1,b1.2,by omega,?_⟩;rw[E1.out,E2.out,EK _ _ _ _ H2.out];exact hI.out
    case measure=>simp[intOf];omega
   ·have hb:(bits BinOp.and IntKind.i64 (k:Int) 1==1)=false:=by rw[CO k hk,beq_eq_false_iff_ne];omega
    have H2:=Lib.hid (show k%2=0 by omega);clear h2
    go_wp2_with fail
    refine(nT _ _ _).mono ?_;rintro e w' ⟨rfl,rfl⟩
    go_wp2_with fail
    go_round
    case rel=>
     refine⟨smul x x,o,k/2,rfl,by go_num,rfl,b2.1,b2.2,ho,ho',by omega,?_⟩;rw[E2.out,AX _ _ _ _ H2.out];exact hI.out
    case measure=>simp[intOf];omega
  ·obtain rfl:k=0:=by omega
   go_wp2_with fail
   go_ret
   have h:=hI.out;rw[Int.pow_zero,Int.mul_one,Int.emod_eq_of_lt ho ho']at h;refine⟨?_,rfl⟩;rw[pw,<-h];rfl
theorem base(n:Nat)(w:World)(hn:n<18446744073709551616):
  Calls Try.prog 31 #[.int .u64 n] w fun e w'=>e=.returned (.int .u64 (pw 4 n 2147483579))/\w=w':=by
 go_enter Try.func31,Try.ntmps31
 go_wp2_with fail
 refine(power 4 n _ (by omega) (by omega) hn).mono ?_;rintro e w' ⟨rfl,rfl⟩
 go_wp2_with fail
 go_ret
 exact⟨rfl,rfl⟩
theorem ag7{n:Int}(h1:0<n)(h2:n<2147483579):jM n=(pw n qq 2147483579==1):=by
 unfold jM;rw[Bool.eq_iff_iff,decide_eq_true_iff,beq_iff_eq];exact⟨fun h=>h.2.2,fun h=>⟨h1,h2,h⟩⟩
theorem XZ{n:Int}(h:¬(0<n/\n<2147483579)):jM n=false:=by
 unfold jM;rw[decide_eq_false_iff_not];rintro ⟨a,b,c⟩;exact h ⟨a,b⟩
theorem Vp(n:Int)(w:World)(h0:0<=n):
  Calls Try.prog 61 #[.int .u64 n] w fun e w'=>e=.returned (.tuple #[.int .u64 n,.bool (jM n)])/\w=w':=by
 by_cases h:0<n/\n<2147483579
 ·obtain⟨h1,h2⟩:=h;rw[ag7 h1 h2]
  go_enter Try.func61,Try.ntmps61
  go_wp2_with fail
  refine(power n qq w h0 h2 aY4).mono ?_;rintro e w' ⟨rfl,rfl⟩
  go_wp2_with fail
  go_ret2
  exact⟨rfl,rfl⟩
 ·rw[XZ h];by_cases h1:0<n
  all_goals
   go_enter Try.func61,Try.ntmps61
   go_wp2_with fail
   go_ret2
   exact⟨rfl,rfl⟩
theorem Xb(m:Int)(a:Int)(hm:1<m)(hm':m<4294967296)(ha:0<=a)(ha':a<4294967296)(k:Nat):∀(n:Nat) (w:World),n<2^k->n<18446744073709551616->
  Calls Try.prog 55 #[.int .u64 a,.int .u64 n,.int .u64 m] w fun e w'=>e=.returned (.int .u64 (pw a n m))/\w=w':=by
 induction k with
 |zero=>
  intro n w hk hn;obtain rfl:n=0:=by simpa using hk
  go_enter Try.func55,Try.ntmps55
  go_wp2_with fail
  go_ret
  exact⟨by rw[Du _ hm];rfl,rfl⟩
 |succ k ih=>
  intro n w hk hn;by_cases h0:n=0
  ·subst h0
   go_enter Try.func55,Try.ntmps55
   go_wp2_with fail
   go_ret
   exact⟨by rw[Du _ hm];rfl,rfl⟩
  ·have hk2:n/2<2^k:=by rw[Nat.pow_succ]at hk;omega
   have b1:=og a (n/2) (m:=m) (by omega);have b2:=mul_lt b1.1 b1.2 b1.1 b1.2;have b3:m*m<4294967296*4294967296:=(mul_lt (by omega:0<=m) hm' (by omega) hm').2;have b4:pw a (n/2) m*pw a (n/2) m<18446744073709551616:=by omega
   have b5:0<=pw a (n/2) m*pw a (n/2) m:=b2.1;have c1:0<=pw a (n/2) m*pw a (n/2) m%m:=Int.emod_nonneg _ (by omega);have c2:pw a (n/2) m*pw a (n/2) m%m<m:=Int.emod_lt_of_pos _ (by omega);have c3:=mul_lt c1 (Int.lt_trans c2 hm') ha ha';have c4:=c3.1;have c5:pw a (n/2) m*pw a (n/2) m%m*a<18446744073709551616:=by omega
   have hn0:0<n:=by omega
   have IH:=Lib.hid ih;clear ih b1 b2 b3 c3 h0 hk;by_cases h2:n%2=1
   ·have hE:=Lib.hid (Xh a n m h2)
    go_enter Try.func55,Try.ntmps55
    go_wp2_with fail
    refine(IH.out (n/2) w hk2 (by omega)).mono ?_;rintro e w' ⟨rfl,rfl⟩
    go_wp2_with fail
    go_ret
    exact⟨by rw[hE.out];rfl,rfl⟩
   ·have hE:=Lib.hid (Q8 a n m (by omega));have h3:n%2=0:=by omega
    go_enter Try.func55,Try.ntmps55
    go_wp2_with fail
    refine(IH.out (n/2) w hk2 (by omega)).mono ?_;rintro e w' ⟨rfl,rfl⟩
    go_wp2_with fail
    go_ret
    exact⟨by rw[hE.out];rfl,rfl⟩
theorem aA6(m a:Int)(n:Nat)(w:World)(hm:1<m)(hm':m<4294967296)(ha:0<=a)(ha':a<4294967296)(hn:n<18446744073709551616):
  Calls Try.prog 55 #[.int .u64 a,.int .u64 n,.int .u64 m] w fun e w'=>e=.returned (.int .u64 (pw a n m))/\w=w':=
 Xb m a hm hm' ha ha' 64 n w (by omega) hn
theorem bp8(n:Nat)(w:World)(hn:n<18446744073709551616):
  Calls Try.prog 58 #[.int .u64 n] w fun e w'=>e=.returned (.int .u64 (pw 4 n 2147483579))/\w=w':=by
 go_enter Try.func58,Try.ntmps58
 go_wp2_with fail
 refine(aA6 2147483579 4 n _ (by omega) (by omega) (by omega) (by omega) hn).mono ?_;rintro e w' ⟨rfl,rfl⟩
 go_wp2_with fail
 go_ret
 exact⟨rfl,rfl⟩
def iV(n:Int):Int:=1+n%1073741788
theorem yB(n:Int)(w:World)(h0:0<=n):
  Calls Try.prog 21 #[.int .u64 n] w fun e w'=>e=.returned (.int .u64 (iV n))/\w=w':=by
 go_enter Try.func21,Try.ntmps21
 go_wp2_with fail
 go_ret
 exact⟨rfl,rfl⟩
theorem U7(n:Nat)(w:World)(hn:n<18446744073709551616):
  Calls Try.prog 60 #[.int .u64 n] w fun e w'=>e=.returned (.int .u64 (pw 4 n 2147483579))/\w=w':=by
 go_enter Try.func60,Try.ntmps60
 go_wp2_with fail
 go_loop [4,0,3] (fun x y o=>Inv 2147483579 4 n x y o) (fun _ y _=>(intOf y).toNat)
 case atStart=>exact⟨4,1,n,rfl,rfl,rfl,by omega,by omega,by omega,by omega,hn,by rw[Int.one_mul]⟩
 case round=>
  obtain⟨x,o,k,rfl,rfl,rfl,hx,hx',ho,ho',hk,hinv⟩:=hrel;have hI:=Lib.hid hinv;clear hinv;have b1:=mul_lt ho ho' hx hx';have b2:=mul_lt hx hx' hx hx';obtain⟨b11,b12⟩:=b1;obtain⟨b21,b22⟩:=b2;have c1:o*x<18446744073709551616:=by omega
  have c2:x*x<18446744073709551616:=by omega
  by_cases h0:0<k
  ·by_cases h2:k%2=1
   ·have hb:(((k:Int)%2)==1)=true:=by rw[beq_iff_eq];omega
    have H2:=Lib.hid h2;clear h2 b12 b22
    go_wp2_with fail
    go_round
    case rel=>
     refine⟨x*x%2147483579,o*x%2147483579,k/2,rfl,by go_num,rfl,by omega,by omega,by omega,by omega,by omega,?_⟩;rw[EK _ _ _ _ H2.out];exact hI.out
    case measure=>simp[intOf];omega
   ·have hb:(((k:Int)%2)==1)=false:=by rw[beq_eq_false_iff_ne];omega
    have H2:=Lib.hid (show k%2=0 by omega);clear h2 b12 b22
    go_wp2_with fail
    go_round
    case rel=>
     refine⟨x*x%2147483579,o,k/2,rfl,by go_num,rfl,by omega,by omega,ho,ho',by omega,?_⟩;rw[AX _ _ _ _ H2.out];exact hI.out
    case measure=>simp[intOf];omega
  ·obtain rfl:k=0:=by omega
   clear b12 b22
   go_wp2_with fail
   go_ret
   have h:=hI.out;rw[Int.pow_zero,Int.mul_one,Int.emod_eq_of_lt ho ho']at h;refine⟨?_,rfl⟩;rw[pw,<-h];rfl
def qA(c n:Int):Int:=(if c<0 then-(c+1)else c)%n
theorem Ld(c:Int){n:Int}(h:0<n):0<=qA c n/\qA c n<n:=by
 unfold qA;exact⟨Int.emod_nonneg _ (by omega),Int.emod_lt_of_pos _ h⟩
theorem MQ(c n:Int)(w:World)(h0: -9223372036854775808<=c)(h1:c<=9223372036854775807)(hn:0<n):
  Calls Try.prog 24 #[.int .i64 c,.int .i64 n] w fun e w'=>e=.returned (.int .i64 (qA c n))/\w=w':=by
 by_cases h:c<0
 ·have he:qA c n= -(c+1)%n:=by unfold qA;rw[if_pos h]
  rw[he];clear he;have hm:0<= -(c+1):=by omega
  go_enter Try.func24,Try.ntmps24
  go_wp2_with fail
  go_ret
  exact⟨by rw[<-Int.tmod_eq_emod_of_nonneg hm,Int.neg_tmod];rfl,rfl⟩
 ·have he:qA c n=c%n:=by unfold qA;rw[if_neg h]
  rw[he];clear he
  go_enter Try.func24,Try.ntmps24
  go_wp2_with fail
  go_ret
  exact⟨rfl,rfl⟩
end qj
namespace Mem
open Go.RowKit Pl
def Nums(k:IntKind)(w:World)(B:Nat)(v:Value)(l:List Int):Prop:=
 ∃(A:Option Addr) (c:Nat),v=.slice A l.length c/\l.length<=c/\
  (0<l.length->∃b off,A=some ⟨b,off,none⟩/\b<B/\∀i,i<l.length->w.cell? ⟨b,off+i,none⟩=some (.int k (l.getD i 0)))
theorem jZ{P:Program}{f:FuncId}{args:Array Value}{w:World}{a n:Nat}{v:Value}
  (h:Calls P f args (w.drewN (a+n)) fun e w'=>e=.returned v/\w.drewN (a+n)=w'):
  Calls P f args (w.drewN (a+n)) fun e w''=>e=.returned v/\∃m,w''=w.drewN (a+m):=
 h.mono fun _ _ ⟨he,hm⟩=>⟨he,n,hm.symm⟩
theorem below_drewN{B:Nat}{a w:World}(h:Below B a w)(n:Nat):Below B a (w.drewN n):=⟨h.os,h.tape,h.output,h.size,h.block⟩
theorem Nums.below{k:IntKind}{w w':World}{B:Nat}{v:Value}{l:List Int}(h:Nums k w B v l)(hb:Below B w w'):Nums k w' B v l:=by
 obtain⟨A,c,rfl,hc,h⟩:=h;refine⟨A,c,rfl,hc,fun hl=>?_⟩;obtain⟨b,off,rfl,hB,h⟩:=h hl;exact⟨b,off,rfl,hB,fun i hi=>(hb.cell (p:=⟨b,off+i,none⟩) hB).trans (h i hi)⟩
theorem Nums.more{k:IntKind}{w:World}{B B':Nat}{v:Value}{l:List Int}(h:Nums k w B v l)(hb:B<=B'):Nums k w B' v l:=by
 obtain⟨A,c,rfl,hc,h⟩:=h;refine⟨A,c,rfl,hc,fun hl=>?_⟩;obtain⟨b,off,rfl,hB,h⟩:=h hl;exact⟨b,off,rfl,by omega,h⟩
theorem Nums.later{k:IntKind}{w w':World}{v:Value}{l:List Int}(h:Nums k w w.heap.size v l)(hb:Below w.heap.size w w'):Nums k w' w'.heap.size v l:=
 (h.below hb).more hb.size
theorem Nums.own{k:IntKind}{w:World}{base:Nat}{e:TypeId}{v:Value}{l:List Int}(h:w.ownsRow base e 1 v l.length (l.map (Value.int k))):Nums k w w.heap.size v l:=by
 rcases h.2 with⟨rfl,h0⟩|⟨g,cap,cur,rfl,hbg,hg,hnc,hcm,hcs,htake⟩
 ·exact⟨none,0,by rw[h0],by omega,fun hp=>absurd hp (by omega)⟩
 ·refine⟨some ⟨g,0,none⟩,cap,rfl,hnc,fun hp=>⟨g,0,rfl,(Array.getElem?_eq_some_iff.1 hg).1,fun i hi=>?_⟩⟩;have h1:=h.cellAt i (by omega);rw[Nat.zero_add,h1,List.getElem?_map,List.getElem?_eq_getElem hi,List.getD_eq_getElem?_getD,List.getElem?_eq_getElem hi];rfl
theorem xM{w:World}{base:Nat}{e:TypeId}{size:Nat}{v:Value}{n:Nat}{xs:List Value}(h:w.ownsRow base e size v n xs)(k:Nat):(w.drewN k).ownsRow base e size v n xs:=h
theorem Nums.lit{k:IntKind}(w:World)(l:List Int)(t:TypeId):Nums k (w.alloc (.cells (l.map (Value.int k)).toArray t)) (w.heap.size+1) (.slice (some ⟨w.heap.size,0,none⟩) l.length l.length) l:=by
 refine⟨some ⟨w.heap.size,0,none⟩,l.length,rfl,Nat.le_refl _,fun hp=>⟨w.heap.size,0,rfl,by omega,fun i hi=>?_⟩⟩;rw[Nat.zero_add,World.cell?_alloc_new,List.getElem?_toArray,List.getElem?_map,List.getElem?_eq_getElem hi,List.getD_eq_getElem?_getD,List.getElem?_eq_getElem hi];rfl
def bZ(w:World)(g:Nat)(t:TypeId)(cs:Array Value):Prop:=w.heap[g]?=some (.cells cs t (0,0))
theorem bZ.lt{w:World}{g:Nat}{t:TypeId}{cs:Array Value}(h:bZ w g t cs):g<w.heap.size:=(Array.getElem?_eq_some_iff.1 h).1
theorem bZ.cell{w:World}{g:Nat}{t:TypeId}{cs:Array Value}(h:bZ w g t cs)(i:Nat):w.cell? ⟨g,i,none⟩=cs[i]?:=cell_of_row w g i cs t (0,0) h
theorem bZ.frozen{w:World}{g:Nat}{t:TypeId}{cs:Array Value}(h:bZ w g t cs)(i:Nat):w.frozen? ⟨g,i,none⟩=false:=by
 unfold bZ at h;simp[World.frozen?,h]
theorem bZ.new(w:World)(t:TypeId)(cs:Array Value):bZ (w.alloc (.cells cs t)) w.heap.size t cs:=heap_alloc_new w _
theorem bZ.alloc{w:World}{g:Nat}{t:TypeId}{cs:Array Value}(h:bZ w g t cs)(o:Obj):bZ (w.alloc o) g t cs:=(Below.heap_alloc w o g h.lt).trans h
theorem bZ.gK{w:World}{g:Nat}{t:TypeId}{cs:Array Value}(h:bZ w g t cs)(i:Nat)(u:Value):bZ (w.setCell ⟨g,i,none⟩ u) g t (cs.setIfInBounds i u):=by
 unfold bZ at h ⊢;simp[World.setCell,Array.getElem?_modify,h]
theorem bZ.far{w:World}{g:Nat}{t:TypeId}{cs:Array Value}(h:bZ w g t cs){p:Addr}(hp:g≠p.block)(u:Value):bZ (w.setCell p u) g t cs:=(Below.heap_setCell w p u g hp).trans h
theorem bZ.below{w w':World}{g:Nat}{t:TypeId}{cs:Array Value}{B:Nat}(h:bZ w g t cs)(hb:Below B w w')(hg:g<B):bZ w' g t cs:=(hb.block g hg).trans h
theorem bZ.grown{w w':World}{g:Nat}{t:TypeId}{cs:Array Value}{row:Option Nat}(h:bZ w g t cs)(hb:w.grownBy w' row)(hg:some g≠row):bZ w' g t cs:=(hb.block g h.lt hg).trans h
theorem bZ.ne_{w:World}{g g':Nat}{t t':TypeId}{cs cs':Array Value}(h:bZ w g t cs)(h':bZ w g' t' cs')(hne:t≠t'):g≠g':=by
 rintro rfl;unfold bZ at h h';rw[h]at h';injection h' with h'
 injection h' with _ ht
 exact hne ht
theorem jD{w:World}{base:Nat}{e:TypeId}{size n:Nat}{v:Value}{xs:List Value}{g:Nat}{t:TypeId}{cs:Array Value}(h:w.ownsRow base e size v n xs)(hg:bZ w g t cs)(hne:e≠t):some g≠v.ownBlock:=by
 rcases h.2 with⟨rfl,_⟩|⟨g',cap,cur,rfl,_,hh,_⟩
 ·simp[Value.ownBlock]
 ·intro he;have:g=g':=by simpa [Value.ownBlock]using he
  subst this;exact bZ.ne_ (t:=e) hh hg hne rfl
theorem yj{w:World}{base base':Nat}{e e':TypeId}{size size' n n':Nat}{v v':Value}{xs xs':List Value}(h:w.ownsRow base e size v n xs)(h':w.ownsRow base' e' size' v' n' xs')(hne:e≠e'):v.ownBlock=none\/v.ownBlock≠v'.ownBlock:=by
 rcases h.2 with⟨rfl,_⟩|⟨g,cap,cur,rfl,_,hh,_⟩
 ·exact .inl rfl
 ·right;intro he;exact jD h' (g:=g) hh (Ne.symm hne) (by rw[<-he];rfl)
theorem own_below{w w':World}{base:Nat}{e:TypeId}{size n:Nat}{v:Value}{xs:List Value}{B:Nat}(h:w.ownsRow base e size v n xs)(hb:Below B w w')(hB:w.heap.size<=B):w'.ownsRow base e size v n xs:=by
 obtain⟨h1,h2⟩:=h;refine⟨h1,?_⟩;rcases h2 with h2|⟨g,cap,cur,hv,hg,hh,r⟩
 ·exact .inl h2
 ·have hlt:g<w.heap.size:=(Array.getElem?_eq_some_iff.1 hh).1;exact .inr ⟨g,cap,cur,hv,hg,(hb.block g (by omega)).trans hh,r⟩
theorem jT{w:World}{base:Nat}{e:TypeId}{size n:Nat}{v:Value}{xs:List Value}{g:Nat}{t:TypeId}{cs:Array Value}(h:w.ownsRow base e size v n xs)(hg:bZ w g t cs)(hne:e≠t)(i:Nat)(u:Value):(w.setCell ⟨g,i,none⟩ u).ownsRow base e size v n xs:=by
 have hn:=jD h hg hne;obtain⟨h1,h2⟩:=h;refine⟨h1,?_⟩;rcases h2 with h2|⟨g',cap,cur,hv,hb,hh,r⟩
 ·exact .inl h2
 ·subst hv;have hne':g'≠g:=fun e=>hn (by rw[e];rfl)
  exact .inr ⟨g',cap,cur,rfl,hb,(Below.heap_setCell w ⟨g,i,none⟩ u g' hne').trans hh,r⟩
theorem kH{w:World}{base:Nat}{e:TypeId}{size n:Nat}{v:Value}{xs:List Value}(h:w.ownsRow base e size v n xs):∃A c,v=.slice A n c:=by
 rcases h.2 with⟨rfl,rfl⟩|⟨g,cap,cur,rfl,_⟩
 ·exact⟨none,0,rfl⟩
 ·exact⟨some ⟨g,0,none⟩,cap,rfl⟩
theorem kJ{w w':World}{base Za:Nat}{e e2:TypeId}{size size2 n n2:Nat}{v v2:Value}{xs xs2:List Value}{cs:Array Value}(h2:w.ownsRow Za e2 size2 v2 n2 xs2)(h:w.ownsRow base e size v n xs)(hne:e2≠e)
  (hg:(w.alloc (.cells cs e)).grownBy w' v.ownBlock):w'.ownsRow Za e2 size2 v2 n2 xs2:=
 (h2.alloc _).kept hg (yj h2 h hne)
theorem gI{w w':World}{base:Nat}{e t:TypeId}{size n:Nat}{v:Value}{xs:List Value}{g:Nat}{cs cs2:Array Value}(h2:bZ w g t cs2)(h:w.ownsRow base e size v n xs)(hne:e≠t)
  (hg:(w.alloc (.cells cs e)).grownBy w' v.ownBlock):bZ w' g t cs2:=
 (h2.alloc _).grown hg (jD h h2 hne)
theorem below_grown{W w w':World}{base:Nat}{e:TypeId}{size n:Nat}{v:Value}{xs:List Value}{cs:Array Value}(hb:Below base W w)(h:w.ownsRow base e size v n xs)(hB:base<=w.heap.size)
  (hg:(w.alloc (.cells cs e)).grownBy w' v.ownBlock):Below base W w':=
 (hb.alloc hB _).grown hg (by simp;omega) fun k hk=>(h.lt k hk).1
def Row(w:World)(B size:Nat)(v:Value)(n:Nat)(xs:List Value):Prop:=
 xs.length=n*size/\∃(A:Option Addr) (c:Nat),v=.slice A n c/\n<=c/\
  (0<n->∃b off,A=some ⟨b,off,none⟩/\b<B/\∀j u,xs[j]?=some u->w.cell? ⟨b,off+j,none⟩=some u)
theorem Row.below{w w':World}{B size:Nat}{v:Value}{n:Nat}{xs:List Value}(h:Row w B size v n xs)(hb:Below B w w'):Row w' B size v n xs:=by
 obtain⟨h1,A,c,rfl,hc,h⟩:=h;refine⟨h1,A,c,rfl,hc,fun hl=>?_⟩;obtain⟨b,off,rfl,hB,h⟩:=h hl;exact⟨b,off,rfl,hB,fun j u hu=>(hb.cell (p:=⟨b,off+j,none⟩) hB).trans (h j u hu)⟩
theorem Row.more{w:World}{B B' size:Nat}{v:Value}{n:Nat}{xs:List Value}(h:Row w B size v n xs)(hb:B<=B'):Row w B' size v n xs:=by
 obtain⟨h1,A,c,rfl,hc,h⟩:=h;refine⟨h1,A,c,rfl,hc,fun hl=>?_⟩;obtain⟨b,off,rfl,hB,h⟩:=h hl;exact⟨b,off,rfl,by omega,h⟩
theorem Row.later{w w':World}{size:Nat}{v:Value}{n:Nat}{xs:List Value}(h:Row w w.heap.size size v n xs)(hb:Below w.heap.size w w'):Row w' w'.heap.size size v n xs:=(h.below hb).more hb.size
theorem Row.own{w:World}{base:Nat}{e:TypeId}{size:Nat}{v:Value}{n:Nat}{xs:List Value}(h:w.ownsRow base e size v n xs):Row w w.heap.size size v n xs:=by
 refine⟨h.1,?_⟩;rcases h.2 with⟨rfl,h0⟩|⟨g,cap,cur,rfl,hbg,hg,hnc,hcm,hcs,htake⟩
 ·exact⟨none,0,by rw[h0],by omega,fun hp=>absurd hp (by omega)⟩
 ·refine⟨some ⟨g,0,none⟩,cap,rfl,hnc,fun hp=>⟨g,0,rfl,(Array.getElem?_eq_some_iff.1 hg).1,fun j u hu=>?_⟩⟩;have hlt:j<n*size:=by have:=h.1;have:=(List.getElem?_eq_some_iff.1 hu).1;omega
  rw[Nat.zero_add,h.cellAt j hlt,hu]
theorem JG(b off j:Nat):(⟨b,off,none⟩:Addr).add j=⟨b,off+j,none⟩:=by
 unfold Addr.add;split
 ·rename_i h;subst h;rfl
 ·rfl
section
variable{P:Program}(w:World)
end
end Mem
namespace Ad
open Go.RowKit Pl qj Mem
theorem aY5(l:List Int)(x:Int)(v:Value)(w:World)(hv:Nums .u64 w w.heap.size v l)(hl:l.length<=65536):
  Calls Try.prog 69 #[v,.int .u64 x] w fun e w'=>e=.returned (.int .u64 (poly l x))/\∃n,w'=w.drewN n:=by
 obtain⟨A,c,rfl,hc,hcell⟩:=hv;have HC:=Lib.hid hcell;clear hcell
 go_enter Try.func69,Try.ntmps69
 go_wp2_with fail
 go_loopw [5,6] (fun o i wr=>∃k n:Nat,k<=l.length/\wr=w.drewN n/\o=.int .u64 (poly (l.drop k) x)/\i=.int .i64 ((k:Int)-1)) (fun _ i _=>(intOf i+1).toNat)
 case atStart=>exact⟨l.length,0,by omega,rfl,by simp[poly],rfl⟩
 case round=>
  obtain⟨k,n,hk,rfl,rfl,rfl⟩:=hrel;rcases k with _|j
  ·go_wp2_with fail
   go_ret
   exact⟨rfl,n,rfl⟩
  ·rw[show(((j+1:Nat):Int)-1)=(j:Int)from by omega];obtain⟨b,off,rfl,hb,hcells⟩:=HC.out (by omega);have hcj:=hcells j (by omega);have hjl:j<l.length:=by omega
   have HS:Hid (poly (l.drop j) x=mM (smul (poly (l.drop (j+1)) x) x) (l.getD j 0)):=by
    show poly (l.drop j) x=_;rw[List.drop_eq_getElem_cons hjl,List.getD_eq_getElem?_getD,List.getElem?_eq_getElem hjl];rfl
   clear hcells;generalize hP:poly (l.drop (j+1)) x=p at*;have HP:=Lib.hid hP;clear hP;generalize hD:l.getD j 0=d at*;have HD:=Lib.hid hD;clear hD
   go_wp2_with fail
   go_quiet ((first|(go_at_call 37;exact jZ (nT _ _ _))|(go_at_call 36;exact jZ (QL _ _ _))))
   go_wp2_with fail
   go_roundw
   case rel=>exact⟨j,_,by omega,rfl,by rw[HS.out],rfl⟩
   case measure=>simp[intOf]
theorem GY(ids:List Int)(k:Nat)(v:Value)(w:World)(hv:Nums .i64 w w.heap.size v ids)(hl:ids.length<=65536)(hk:k<ids.length):
  Calls Try.prog 78 #[v,.int .i64 k] w fun e w'=>e=.returned (.int .u64 (fF ids k))/\∃n,w'=w.drewN n:=by
 obtain⟨A,c,rfl,hc,hcell⟩:=hv;obtain⟨b,off,rfl,_,hcells⟩:=hcell (by omega);have hck:=hcells k hk;have HC:=Lib.hid hcells;clear hcell hcells
 go_enter Try.func78,Try.ntmps78
 go_wp2_with fail
 go_loopw [5,6,11] (fun u d i wr=>∃j n:Nat,j<=ids.length/\wr=w.drewN n/\u=.int .u64 (mg ids k j)/\d=.int .u64 (iC ids k j)/\i=.int .i64 j) (fun _ _ i _=>ids.length-(intOf i).toNat)
 case atStart=>exact⟨0,0,by omega,rfl,rfl,rfl,rfl⟩
 case round=>
  obtain⟨j,n,hj,rfl,rfl,rfl,rfl⟩:=hrel;by_cases hlt:j<ids.length
  ·have hcj:=HC.out j hlt;by_cases hjk:j=k
   ·subst hjk;have E1:=Lib.hid (EN ids j);have E2:=Lib.hid (zQ ids j);have hne:((j:Int) != (j:Int))=false:=by rw[bne_eq_false_iff_eq]
    clear hcj
    go_wp2_with fail
    go_roundw
    case rel=>exact⟨j+1,n,by omega,rfl,by rw[E1.out],by rw[E2.out],by go_num⟩
    case measure=>simp[intOf];omega
   ·have E1:=Lib.hid (EM ids hjk);have E2:=Lib.hid (zO ids hjk);have hne:((j:Int) != (k:Int))=true:=by rw[bne_iff_ne];omega
    generalize hX:ids.getD j 0=X at*;generalize hY:ids.getD k 0=Y at*;have HX:=Lib.hid hX;have HY:=Lib.hid hY;clear hX hY;generalize mg ids k j=U at*;generalize iC ids k j=D at*
    go_wp2_with (first|(go_at_call 70;refine(small _ _).mono ?_;rintro e w' ⟨rfl,rfl⟩)|(go_at_call 37;refine(nT _ _ _).mono ?_;rintro e w' ⟨rfl,rfl⟩))
    go_quiet ((first|(go_at_call 37;exact jZ (nT _ _ _))|(go_at_call 70;exact jZ (small _ _))|(go_at_call 109;exact jZ (az7 _ _ _))))
    go_wp2_with fail
    go_roundw
    case rel=>exact⟨j+1,_,by omega,rfl,by rw[E1.out],by rw[E2.out],by go_num⟩
    case measure=>simp[intOf];omega
  ·obtain rfl:j=ids.length:=by omega
   have bd:=EO ids k ids.length;have E:Hid (fF ids k=smul (mg ids k ids.length) (pw (iC ids k ids.length) OG 1073741789)):=by
    show fF ids k=_;rfl
   go_wp2_with (first|(go_at_call 110;refine(inverse _ _ bd.1 bd.2).mono ?_;rintro e w' ⟨rfl,rfl⟩)|(go_at_call 37;refine(nT _ _ _).mono ?_;rintro e w' ⟨rfl,rfl⟩))
   go_ret
   exact⟨by rw[E.out];rfl,n,rfl⟩
theorem bi7(first:Int)(l:List Int)(v:Value)(w:World)(hv:Nums .u64 w w.heap.size v l)(hl:l.length<=65536):
  Calls Try.prog 50 #[.int .u64 first,.func (.func 36) #[] #[],v] w fun e w'=>e=.returned (.int .u64 (xA first l l.length))/\w=w':=by
 obtain⟨A,c,rfl,hc,hcell⟩:=hv;have HC:=Lib.hid hcell;clear hcell
 go_enter Try.func50,Try.ntmps50
 go_wp2_with fail
 go_loop [0,11] (fun s i=>∃k:Nat,k<=l.length/\s=.int .u64 (xA first l k)/\i=.int .i64 k) (fun _ i=>l.length-(intOf i).toNat)
 case atStart=>exact⟨0,by omega,rfl,rfl⟩
 case round=>
  obtain⟨k,hk,rfl,rfl⟩:=hrel;by_cases hlt:k<l.length
  ·obtain⟨b,off,rfl,_,hcells⟩:=HC.out (by omega);have hck:=hcells k hlt;have E1:Hid (xA first l (k+1)=mM (xA first l k) (l.getD k 0)):=by
    show xA first l (k+1)=_
    rfl
   clear hcells;generalize hX:l.getD k 0=X at*;have HX:=Lib.hid hX;clear hX
   go_wp2_with (go_at_call 36;refine(QL _ _ _).mono ?_;rintro e w' ⟨rfl,rfl⟩)
   go_round
   case rel=>exact⟨k+1,by omega,by rw[E1.out],by go_num⟩
   case measure=>simp[intOf];omega
  ·obtain rfl:k=l.length:=by omega
   go_wp2_with fail
   go_ret
   exact⟨rfl,rfl⟩
theorem bi8(first:Int)(l:List Int)(v:Value)(w:World)(hv:Nums .u64 w w.heap.size v l)(hl:l.length<=65536):
  Calls Try.prog 76 #[.int .u64 first,.func (.func 46) #[] #[],v] w fun e w'=>e=.returned (.int .u64 (qy first l l.length))/\w=w':=by
 obtain⟨A,c,rfl,hc,hcell⟩:=hv;have HC:=Lib.hid hcell;clear hcell
 go_enter Try.func76,Try.ntmps76
 go_wp2_with fail
 go_loop [0,11] (fun s i=>∃k:Nat,k<=l.length/\s=.int .u64 (qy first l k)/\i=.int .i64 k) (fun _ i=>l.length-(intOf i).toNat)
 case atStart=>exact⟨0,by omega,rfl,rfl⟩
 case round=>
  obtain⟨k,hk,rfl,rfl⟩:=hrel;by_cases hlt:k<l.length
  ·obtain⟨b,off,rfl,_,hcells⟩:=HC.out (by omega);have hck:=hcells k hlt;have E1:Hid (qy first l (k+1)=mV (qy first l k) (l.getD k 0)):=by
    show qy first l (k+1)=_
    rfl
   clear hcells;generalize hX:l.getD k 0=X at*;have HX:=Lib.hid hX;clear hX
   go_wp2_with (go_at_call 46;refine(qP _ _ _).mono ?_;rintro e w' ⟨rfl,rfl⟩)
   go_round
   case rel=>exact⟨k+1,by omega,by rw[E1.out],by go_num⟩
   case measure=>simp[intOf];omega
  ·obtain rfl:k=l.length:=by omega
   go_wp2_with fail
   go_ret
   exact⟨rfl,rfl⟩
end Ad
namespace Hsh
open Go.RowKit Pl qj Mem Ad
theorem aF8(h b:Int)(B:Nat)(w:World)(hc:w.cell? ⟨B,0,none⟩=some (.int .u64 h))(hf:w.frozen? ⟨B,0,none⟩=false)(hb0:0<=b)(hb1:b<256):
  Calls Try.prog 108 #[.int .u8 b,.pointer (some ⟨B,0,none⟩)] w fun e w'=>e=.returned (.tuple #[])/\w.setCell ⟨B,0,none⟩ (.int .u64 (mix h b))=w':=by
 go_enter Try.func108,Try.ntmps108
 go_wp2
 go_end0
 exact⟨rfl,rfl⟩
theorem Yj(tag:Int)(s:ByteArray)(l:List Int)(v:Value)(w:World)(hv:Nums .u64 w w.heap.size v l)(hl:l.length<=65536)(hs:s.size<=1000000)
  (ht0:0<=tag)(ht1:tag<256)(hb:∀i,i<l.length->0<=l.getD i 0/\l.getD i 0<18446744073709551616):
  Calls Try.prog 77 #[.int .u8 tag,.string s,v] w fun e w'=>e=.returned (.int .u64 (vX tag s l))/\∃x,w.alloc (.cells #[.int .u64 x] 25)=w':=by
 obtain⟨A,c,rfl,hc,hcell⟩:=hv;have HC:=Lib.hid hcell;have HB:=Lib.hid hb;clear hcell hb;have hmf:∀(fn:Fn) (first cap:Array Value) (w:World),(Instr.makeFunc fn first cap).run Try.prog w=.ok (.func fn first cap) w:=fun _ _ _ _=>rfl
 go_enter Try.func77,Try.ntmps77
 go_wp2_with fail
 refine(aF8 YC tag w.heap.size _ (by simp[YC]) (by simp[go_sem]) ht0 ht1).mono ?_;rintro e w' ⟨rfl,rfl⟩
 go_wp2_with fail
 have hm0:0<=mix YC tag:=yx _ _;generalize hM:mix YC tag=m0 at*;have HM:=Lib.hid hM;clear hM
 go_loopw [18] (fun i wr=>∃k:Nat,k<=l.length/\i=.int .i64 k/\wr=w.alloc (.cells #[.int .u64 (xO m0 l k)] 25)) (fun i _=>l.length-(intOf i).toNat)
 case atStart=>exact⟨0,by omega,rfl,rfl⟩
 case round=>
  obtain⟨k,hk,rfl,rfl⟩:=hrel;by_cases hlt:k<l.length
  ·obtain⟨b,off,rfl,hb,hcells⟩:=HC.out (by omega);have hck:=hcells k hlt;have hbk:=HB.out k hlt;have E1:Hid (xO m0 l (k+1)=IX (xO m0 l k) (l.getD k 0) 8):=by
    show xO m0 l (k+1)=_;rfl
   clear hcells;generalize hX:l.getD k 0=X at*;have HX:=Lib.hid hX;clear hX;generalize hy:xO m0 l k=y at*;have HY:=Lib.hid hy;clear hy;obtain⟨x0,x1⟩:=hbk
   go_wp2_with fail
   go_loopw [10,22] (fun n i wr=>∃j:Nat,j<=8/\n=.int .u64 (dv X j)/\i=.int .i64 j/\wr=w.alloc (.cells #[.int .u64 (IX y X j)] 25)) (fun _ i _=>8-(intOf i).toNat)
   case atStart=>exact⟨0,by omega,rfl,rfl,rfl⟩
   case round=>
    obtain⟨j,hj,rfl,rfl,rfl⟩:=hrel;by_cases hj8:j<8
    ·have bd:=bk9 X j x0 x1;obtain⟨d0,d1⟩:=bd;have E2:Hid (IX y X (j+1)=mix (IX y X j) (dv X j%256)):=by
      show IX y X (j+1)=_;rfl
     have E3:Hid (dv X (j+1)=dv X j/256):=by
      show dv X (j+1)=_;rfl
     generalize dv X j=d at*;generalize IX y X j=z at*
     go_wp2_with fail
     refine(aF8 z _ w.heap.size _ (by simp) (by simp[go_sem]) (by omega) (by omega)).mono ?_;rintro e w' ⟨rfl,rfl⟩
     go_wp2_with fail
     go_roundw
     case rel=>exact⟨j+1,by omega,by rw[E3.out],by go_num,by rw[E2.out]⟩
     case measure=>simp[intOf];omega
    ·obtain rfl:j=8:=by omega
     go_wp2_with fail
     go_roundw
     case rel=>exact⟨k+1,by omega,by go_num,by rw[E1.out]⟩
     case measure=>simp[intOf];omega
  ·obtain rfl:k=l.length:=by omega
   have hm1:0<=xO m0 l l.length:=IW _ _ _ hm0;generalize hn1:xO m0 l l.length=m1 at*;have HN1:=Lib.hid hn1;clear hn1
   go_wp2_with fail
   go_loopw [34] (fun i wr=>∃k:Nat,k<=s.size/\i=.int .i64 k/\wr=w.alloc (.cells #[.int .u64 (qp m1 s k)] 25)) (fun i _=>s.size-(intOf i).toNat)
   case atStart=>exact⟨0,by omega,rfl,rfl⟩
   case round=>
    obtain⟨k,hk,rfl,rfl⟩:=hrel;by_cases hlt:k<s.size
    ·have E1:Hid (qp m1 s (k+1)=mix (qp m1 s k) (s[k].toNat:Int)):=by
      show qp m1 s (k+1)=_;exact OX _ _ hlt
     generalize hy:qp m1 s k=y at*;have HY:=Lib.hid hy;clear hy;have u1:((s[k].toNat:Nat):Int)<256:=by have:=s[k].toNat_lt;omega
     go_wp2_with fail
     refine(aF8 y (s[k].toNat:Int) w.heap.size _ (by simp) (by simp[go_sem]) (by omega) u1).mono ?_;rintro e w' ⟨rfl,rfl⟩
     go_wp2_with fail
     go_roundw
     case rel=>exact⟨k+1,by omega,by go_num,by rw[E1.out]⟩
     case measure=>simp[intOf];omega
    ·obtain rfl:k=s.size:=by omega
     have hm2:0<=qp m1 s s.size:=Iw _ _ _ hm1;have E1:Hid (vX tag s l=qp m1 s s.size%1073741789):=by
      show vX tag s l=_;unfold vX;rw[HM.out,HN1.out]
     generalize qp m1 s s.size=y at*
     go_wp2_with fail
     go_ret
     exact⟨by rw[E1.out];rfl,y,rfl⟩
end Hsh
namespace oG
open Go.RowKit Pl qj Mem Ad Hsh
attribute [local go_sem ↓] Go.wp_at_zero Go.wp_at_succ
def jB(r key:Int)(s:ByteArray):Int:=vX 2 s [r,key]
theorem DN(r key:Int)(s:ByteArray):0<=jB r key s/\jB r key s<1073741789:=Nq _ _ _
theorem ay8{r key:Int}(h0:0<=r/\r<18446744073709551616)(h1:0<=key/\key<18446744073709551616):
  ∀i,i<[r,key].length->0<=[r,key].getD i 0/\[r,key].getD i 0<18446744073709551616:=by
 intro i hi
 match i,hi with
 |0,_=>exact h0
 |1,_=>exact h1
theorem Ib(z:Int)(w:World)(h0:0<=z)(h1:z<18446744073709551616):
  Calls Try.prog 31 #[.int .u64 z] w fun e w'=>e=.returned (.int .u64 (pw 4 z.toNat 2147483579))/\w=w':=by
 obtain⟨n,rfl⟩:=Int.eq_ofNat_of_zero_le h0;exact base n w (by omega)
theorem AL(a z:Int)(w:World)(ha:0<=a)(ha':a<2147483579)(h0:0<=z)(h1:z<18446744073709551616):
  Calls Try.prog 48 #[.int .u64 a,.int .u64 z] w fun e w'=>e=.returned (.int .u64 (pw a z.toNat 2147483579))/\w=w':=by
 obtain⟨n,rfl⟩:=Int.eq_ofNat_of_zero_le h0;exact power a n w ha ha' (by omega)
theorem yK(r key:Int)(s:ByteArray)(w:World)(hs:s.size<=1000000)(h0:0<=r/\r<18446744073709551616)(h1:0<=key/\key<18446744073709551616):
  Calls Try.prog 39 #[.int .u64 r,.int .u64 key,.string s] w fun e w'=>e=.returned (.int .u64 (jB r key s))/\Below w.heap.size w w':=by
 have HB:=Lib.hid (ay8 h0 h1);have hn:=Nums.lit (k:=.u64) w [r,key] 25;have HN:=Lib.hid hn;clear hn h0 h1
 go_enter Try.func39,Try.ntmps39
 go_wp2_with fail
 refine(Yj 2 s [r,key] _ _ (HN.out.more (by simp)) (by simp) hs (by omega) (by omega) HB.out).mono ?_;rintro e w' ⟨rfl,x,rfl⟩
 go_wp2_with fail
 go_ret
 exact⟨rfl,((Below.refl _ _).alloc (Nat.le_refl _) _).alloc (by simp) _⟩
def nS(key:Int)(s:ByteArray)(r z:Int):Bool:=
 jM key&&jM r&&decide (z<1073741789)&&decide (key≠1)&&decide (r≠1)&&decide (pw 4 z.toNat 2147483579=r*pw key (jB r key s).toNat 2147483579%2147483579)
theorem rP(b:Bool)(n:Int)(w:World)(h0:0<=n)(h:jM n=b):
  Calls Try.prog 61 #[.int .u64 n] w fun e w'=>e=.returned (.tuple #[.int .u64 n,.bool b])/\w=w':=by
 subst h;exact Vp n w h0
theorem xB(b:Bool)(n:Int)(w:World)(h:decide (n<1073741789)=b):
  Calls Try.prog 30 #[.int .u64 n] w fun e w'=>e=.returned (.tuple #[.int .u64 n,.bool b])/\w=w':=by
 subst h;exact KL n w
theorem sW{n:Int}(h:jM n=true):0<n/\n<2147483579:=by
 unfold jM at h;rw[decide_eq_true_iff]at h;exact⟨h.1,h.2.1⟩
theorem IE(n:Int)(w:World)(h0:0<=n)(h1:n<18446744073709551616):
  Calls Try.prog 70 #[.int .i64 n] w fun e w'=>e=.returned (.int .u64 n)/\w=w':=
 (small n w).mono fun _ _ hh=>⟨by rw[hh.1,lN h0 h1],hh.2⟩
theorem aK(w:World)(o:Obj):Below w.heap.size w (w.alloc o):=(Below.refl _ _).alloc (Nat.le_refl _) _
theorem QI(key:Int)(s:ByteArray)(r z:Int)(w:World)(hs:s.size<=1000000)(hk:0<=key/\key<18446744073709551616)(hr:0<=r/\r<18446744073709551616)(hz:0<=z/\z<18446744073709551616):
  Calls Try.prog 22 #[.int .u64 key,.string s,.agg #[.int .u64 r,.int .u64 z]] w fun e w'=>e=.returned (.bool (nS key s r z))/\Below w.heap.size w w':=by
 obtain⟨b1,e1⟩:∃b,jM key=b:=⟨_,rfl⟩;obtain⟨b2,e2⟩:∃b,jM r=b:=⟨_,rfl⟩;obtain⟨b3,e3⟩:∃b,decide (z<1073741789)=b:=⟨_,rfl⟩;have E1:=Lib.hid e1;have E2:=Lib.hid e2;have E3:=Lib.hid e3;have hSpec:Hid (nS key s r z=(b1&&b2&&b3&&decide (key≠1)&&decide (r≠1)&&decide (pw 4 z.toNat 2147483579=r*pw key (jB r key s).toNat 2147483579%2147483579))):=by
  show nS key s r z=_;unfold nS;rw[e1,e2,e3]
 clear e1 e2 e3;cases b1
 case false=>
  have hF:Hid (nS key s r z=false):=by
   show nS key s r z=false;rw[hSpec.out];rfl
  cases b2<;>cases b3
  all_goals
   go_enter Try.func22,Try.ntmps22
   go_wp2_with fail
   refine(rP _ key _ hk.1 E1.out).mono ?_;rintro e w' ⟨rfl,rfl⟩
   go_wp2_with fail
   refine(rP _ r _ hr.1 E2.out).mono ?_;rintro e w' ⟨rfl,rfl⟩
   go_wp2_with fail
   refine(xB _ z _ E3.out).mono ?_;rintro e w' ⟨rfl,rfl⟩
   go_wp2_with fail
   go_ret
   exact⟨by rw[hF.out];rfl,aK _ _⟩
 cases b2
 case false=>
  have hF:Hid (nS key s r z=false):=by
   show nS key s r z=false;rw[hSpec.out];rfl
  cases b3
  all_goals
   go_enter Try.func22,Try.ntmps22
   go_wp2_with fail
   refine(rP _ key _ hk.1 E1.out).mono ?_;rintro e w' ⟨rfl,rfl⟩
   go_wp2_with fail
   refine(rP _ r _ hr.1 E2.out).mono ?_;rintro e w' ⟨rfl,rfl⟩
   go_wp2_with fail
   refine(xB _ z _ E3.out).mono ?_;rintro e w' ⟨rfl,rfl⟩
   go_wp2_with fail
   go_ret
   exact⟨by rw[hF.out];rfl,aK _ _⟩
 cases b3
 case false=>
  have hF:Hid (nS key s r z=false):=by
   show nS key s r z=false;rw[hSpec.out];rfl
  go_enter Try.func22,Try.ntmps22
  go_wp2_with fail
  refine(rP _ key _ hk.1 E1.out).mono ?_;rintro e w' ⟨rfl,rfl⟩
  go_wp2_with fail
  refine(rP _ r _ hr.1 E2.out).mono ?_;rintro e w' ⟨rfl,rfl⟩
  go_wp2_with fail
  refine(xB _ z _ E3.out).mono ?_;rintro e w' ⟨rfl,rfl⟩
  go_wp2_with fail
  go_ret
  exact⟨by rw[hF.out];rfl,aK _ _⟩
 by_cases c1:key=1
 case pos=>
  have hF:Hid (nS key s r z=false):=by
   show nS key s r z=false;rw[hSpec.out,c1];rfl
  have t1:(key==1)=true:=by rw[beq_iff_eq];exact c1
  clear c1
  go_enter Try.func22,Try.ntmps22
  go_wp2_with fail
  refine(rP _ key _ hk.1 E1.out).mono ?_;rintro e w' ⟨rfl,rfl⟩
  go_wp2_with fail
  refine(rP _ r _ hr.1 E2.out).mono ?_;rintro e w' ⟨rfl,rfl⟩
  go_wp2_with fail
  refine(xB _ z _ E3.out).mono ?_;rintro e w' ⟨rfl,rfl⟩
  go_wp2_with fail
  go_ret
  exact⟨by rw[hF.out];rfl,aK _ _⟩
 have t1:(key==1)=false:=by rw[beq_eq_false_iff_ne];exact c1
 by_cases c2:r=1
 case pos=>
  have hF:Hid (nS key s r z=false):=by
   show nS key s r z=false;rw[hSpec.out,c2];simp
  have t2:(r==1)=true:=by rw[beq_iff_eq];exact c2
  clear c1 c2
  go_enter Try.func22,Try.ntmps22
  go_wp2_with fail
  refine(rP _ key _ hk.1 E1.out).mono ?_;rintro e w' ⟨rfl,rfl⟩
  go_wp2_with fail
  refine(rP _ r _ hr.1 E2.out).mono ?_;rintro e w' ⟨rfl,rfl⟩
  go_wp2_with fail
  refine(xB _ z _ E3.out).mono ?_;rintro e w' ⟨rfl,rfl⟩
  go_wp2_with fail
  go_ret
  exact⟨by rw[hF.out];rfl,aK _ _⟩
 have t2:(r==1)=false:=by rw[beq_eq_false_iff_ne];exact c2
 have k1:=sW E1.out;have k2:=sW E2.out;have hc:=DN r key s;have bp:=og key (jB r key s).toNat (m:=2147483579) (by omega);have hT:Hid (nS key s r z=(pw 4 z.toNat 2147483579==mV r (pw key (jB r key s).toNat 2147483579))):=by
  show nS key s r z=_;rw[hSpec.out,wV (by omega) (by omega) bp.1 (by omega)];simp[c1,c2];rw[Bool.eq_iff_iff,decide_eq_true_iff,beq_iff_eq]
 clear c1 c2 hSpec
 go_enter Try.func22,Try.ntmps22
 go_wp2_with fail
 refine(rP _ key _ hk.1 E1.out).mono ?_;rintro e w' ⟨rfl,rfl⟩
 go_wp2_with fail
 refine(rP _ r _ hr.1 E2.out).mono ?_;rintro e w' ⟨rfl,rfl⟩
 go_wp2_with fail
 refine(xB _ z _ E3.out).mono ?_;rintro e w' ⟨rfl,rfl⟩
 go_wp2_with fail
 refine(Ib z _ hz.1 hz.2).mono ?_;rintro e w' ⟨rfl,rfl⟩
 go_wp2_with fail
 refine(yK r key s _ hs hr hk).mono ?_;rintro e w1 ⟨rfl,hb⟩
 go_wp2_with fail
 refine(AL key _ _ hk.1 k1.2 hc.1 (by omega)).mono ?_;rintro e w' ⟨rfl,rfl⟩
 go_wp2_with fail
 refine(qP _ _ _).mono ?_;rintro e w' ⟨rfl,rfl⟩
 go_wp2_with fail
 go_ret
 exact⟨by rw[hT.out];rfl,(aK _ _).trans (hb.mono (by simp))⟩
end oG
namespace ny
open Pl
def comms(coeffs:List Int)(k:Nat):List Int:=(coeffs.take k).map fun c=>pw 4 c.toNat 2147483579
def jR(coeffs:List Int)(n:Nat):List Int:=(List.range n).map fun(i:Nat)=>poly coeffs ((i:Int)+1)
def sN(coeffs:List Int):Nat->Bool
 |0=>true
 |k+1=>sN coeffs k&&decide (coeffs.getD k 0<1073741789)
def oq(t n:Int)(coeffs:List Int):Int:=
 if t<2\/n<t\/9<n\/(coeffs.length:Int)≠t then 1 else if coeffs.getD 0 0=0\/sN coeffs coeffs.length=false then 2 else 0
theorem ad1(coeffs:List Int){j k:Nat}(h:j<=k)(hk:sN coeffs k=true):sN coeffs j=true:=by
 induction k with
 |zero=>
  obtain rfl:j=0:=by omega
  exact hk
 |succ k ih=>
  rw[sN,Bool.and_eq_true]at hk;rcases Nat.lt_or_ge k j with hj|hj
  ·obtain rfl:j=k+1:=by omega
   rw[sN,Bool.and_eq_true];exact hk
  ·exact ih hj hk.1
theorem ad2(coeffs:List Int){j k:Nat}(h:j<k)(hk:sN coeffs k=true):coeffs.getD j 0<1073741789:=by
 have h1:=ad1 coeffs (j:=j+1) (by omega) hk;rw[sN,Bool.and_eq_true,decide_eq_true_iff]at h1;exact h1.2
theorem UG(coeffs:List Int){k:Nat}(hk:sN coeffs k=true)(h:coeffs.getD k 0<1073741789):sN coeffs (k+1)=true:=by
 rw[sN,hk,Bool.true_and,decide_eq_true_iff];exact h
theorem Xt(coeffs:List Int){j k:Nat}(h:j<k)(hj:¬coeffs.getD j 0<1073741789):sN coeffs k=false:=by
 cases hk:sN coeffs k with
 |false=>rfl
 |true=>exact absurd (ad2 coeffs h hk) hj
theorem Fv(coeffs:List Int){k:Nat}(h:k<coeffs.length):comms coeffs (k+1)=comms coeffs k++[pw 4 (coeffs.getD k 0).toNat 2147483579]:=by
 unfold comms;rw[List.take_succ_eq_append_getElem h,List.map_append,List.getD_eq_getElem?_getD,List.getElem?_eq_getElem h];rfl
theorem Gu(l:List Int){k:Nat}(h:k<l.length):l.take (k+1)=l.take k++[l.getD k 0]:=by
 rw[List.take_succ_eq_append_getElem h,List.getD_eq_getElem?_getD,List.getElem?_eq_getElem h];rfl
theorem fH(coeffs:List Int){k:Nat}(h:k<=coeffs.length):(comms coeffs k).length=k:=by
 unfold comms;rw[List.length_map,List.length_take];omega
theorem IG(coeffs:List Int)(n:Nat):jR coeffs (n+1)=jR coeffs n++[poly coeffs ((n:Int)+1)]:=by
 simp[jR,List.range_succ]
theorem uI(coeffs:List Int)(n:Nat):(jR coeffs n).length=n:=by simp[jR]
def xC(l:List Int)(x:Int):Nat->Int
 |0=>0
 |j+1=>xC l x j+l.getD j 0*x^j
def horner(x:Int):List Int->Int
 |[]=>0
 |c::l=>horner x l*x+c
theorem aA4(x:Int)(j:Nat):CU x j=x^j%1073741789:=by
 induction j with
 |zero=>simp[CU]
 |succ j ih=>rw[CU,ih,fO,Int.pow_succ]
theorem WW(l:List Int)(x:Int)(j:Nat):rpS l x j=xC l x j%1073741789:=by
 induction j with
 |zero=>rfl
 |succ j ih=>
  rw[rpS,ih,aA4,xC,Int.add_emod,Int.emod_emod_of_dvd _ (Int.dvd_refl _),pY,<-Int.add_emod]
theorem UC(c:Int)(l:List Int)(x:Int)(j:Nat):xC (c::l) x (j+1)=xC l x j*x+c:=by
 induction j with
 |zero=>simp[xC]
 |succ j ih=>
  rw[xC,ih,xC,List.getD_cons_succ,Int.pow_succ,Int.add_mul,Int.mul_assoc (l.getD j 0)];omega
theorem KZ(l:List Int)(x:Int):xC l x l.length=horner x l:=by
 induction l with
 |nil=>rfl
 |cons c l ih=>rw[List.length_cons,UC,ih,horner]
theorem sK(l:List Int)(x:Int):0<=poly l x/\poly l x<1073741789:=by
 cases l with
 |nil=>unfold poly;exact⟨by simp,by simp⟩
 |cons c l=>exact Dt _ _
theorem Lc(l:List Int)(x:Int)(hx:0<=x)(hx':x<1073741789)(hl:∀c∈l,0<=c/\c<1073741789):poly l x=horner x l%1073741789:=by
 induction l with
 |nil=>rfl
 |cons c l ih=>
  have h1:=ih (fun d hd=>hl d (List.mem_cons_of_mem _ hd));have b:=sK l x;have hc:=hl c (List.mem_cons_self ..);show mM (smul (poly l x) x) c=_;have b2:=lS (poly l x) x;have e1:mM (smul (poly l x) x) c=(smul (poly l x) x+c)%1073741789:=by
   unfold mM;rw[lN (by omega) (by omega)]
  rw[e1,kV b.1 (by omega) hx (by omega),h1,horner,fO,Int.add_emod,Int.emod_emod_of_dvd _ (Int.dvd_refl _),<-Int.add_emod]
theorem MH{l:List Int}{P:Int->Prop}(h:∀i,i<l.length->P (l.getD i 0)):∀c∈l,P c:=by
 intro c hc;obtain⟨i,hi,rfl⟩:=List.mem_iff_getElem.1 hc;have:=h i hi
 rwa [List.getD_eq_getElem?_getD,List.getElem?_eq_getElem hi]at this
theorem La(l:List Int)(x:Int)(hx:0<=x)(hx':x<1073741789)(hl:∀i,i<l.length->0<=l.getD i 0/\l.getD i 0<1073741789):poly l x=rpS l x l.length:=by
 rw[Lc l x hx hx' (MH hl),WW,KZ]
end ny
namespace oI
open Pl ny
def lG(cs:List Int):Nat->Bool
 |0=>true
 |k+1=>lG cs k&&jM (cs.getD k 0)
def dw(t n:Int)(cs:List Int):Bool:=decide (2<=t/\t<=n/\n<=9/\(cs.length:Int)=t/\cs.getD 0 0≠1)&&lG cs cs.length
theorem YM(cs:List Int){j k:Nat}(h:j<=k)(hk:lG cs k=true):lG cs j=true:=by
 induction k with
 |zero=>
  obtain rfl:j=0:=by omega
  exact hk
 |succ k ih=>
  rw[lG,Bool.and_eq_true]at hk;rcases Nat.lt_or_ge k j with hj|hj
  ·obtain rfl:j=k+1:=by omega
   rw[lG,Bool.and_eq_true];exact hk
  ·exact ih hj hk.1
theorem NT(cs:List Int){j k:Nat}(h:j<k)(hk:lG cs k=true):jM (cs.getD j 0)=true:=by
 have h1:=YM cs (j:=j+1) (by omega) hk;rw[lG,Bool.and_eq_true]at h1;exact h1.2
theorem Ql(cs:List Int){k:Nat}(hk:lG cs k=true)(h:jM (cs.getD k 0)=true):lG cs (k+1)=true:=by
 rw[lG,hk,h];rfl
theorem Vo(cs:List Int){j k:Nat}(h:j<k)(hj:jM (cs.getD j 0)=false):lG cs k=false:=by
 cases hk:lG cs k with
 |false=>rfl
 |true=>rw[NT cs h hk]at hj;cases hj
theorem jG{t n:Int}{cs:List Int}(h:dw t n cs=true):2<=t/\t<=n/\n<=9/\(cs.length:Int)=t/\cs.getD 0 0≠1/\lG cs cs.length=true:=by
 unfold dw at h;rw[Bool.and_eq_true,decide_eq_true_iff]at h;exact⟨h.1.1,h.1.2.1,h.1.2.2.1,h.1.2.2.2.1,h.1.2.2.2.2,h.2⟩
theorem Nw{t n:Int}{cs:List Int}(h:¬(2<=t/\t<=n/\n<=9/\(cs.length:Int)=t/\cs.getD 0 0≠1)):dw t n cs=false:=by
 unfold dw;rw[decide_eq_false h];rfl
theorem BX{t n:Int}{cs:List Int}(h:2<=t/\t<=n/\n<=9/\(cs.length:Int)=t/\cs.getD 0 0≠1):dw t n cs=lG cs cs.length:=by
 unfold dw;rw[decide_eq_true h];rfl
theorem sZ{t n:Int}{cs:List Int}(h:dw t n cs=true){j:Nat}(hj:j<cs.length):jM (cs.getD j 0)=true:=NT cs hj (jG h).2.2.2.2.2
def uK(cs:List Int)(id:Int):Nat->Int
 |0=>1
 |j+1=>uK cs id j*pw (cs.getD j 0) (CU id j).toNat 2147483579%2147483579
def pub(cs:List Int)(id:Int):Int:=uK cs id cs.length
theorem IL(cs:List Int)(id:Int)(j:Nat):0<=uK cs id j/\uK cs id j<2147483579:=by
 cases j with
 |zero=>unfold uK;omega
 |succ j=>unfold uK;omega
theorem aB3(cs:List Int)(id:Int):0<=pub cs id/\pub cs id<2147483579:=IL _ _ _
def iD(t n:Int)(cs:List Int)(id share:Int):Int:=
 if dw t n cs=false then 4 else if id<1\/n<id then 5 else if 1073741789<=share then 2 else 0
def qQ(t n:Int)(cs:List Int)(id share:Int):Bool:=decide (iD t n cs id share=0/\pw 4 share.toNat 2147483579=pub cs id)
theorem tK{t n:Int}{cs:List Int}{id share:Int}(h:iD t n cs id share≠0):qQ t n cs id share=false:=by
 unfold qQ;rw[decide_eq_false (fun h'=>h h'.1)]
theorem Jy{t n:Int}{cs:List Int}{id share:Int}(h:dw t n cs=false):iD t n cs id share=4:=by unfold iD;rw[if_pos h]
theorem H6{t n:Int}{cs:List Int}{id share:Int}(h:dw t n cs=true)(h2:id<1\/n<id):iD t n cs id share=5:=by
 unfold iD;rw[if_neg (by rw[h];simp),if_pos h2]
theorem Vy{t n:Int}{cs:List Int}{id share:Int}(h:dw t n cs=true)(h2:¬(id<1\/n<id))(h3:1073741789<=share):iD t n cs id share=2:=by
 unfold iD;rw[if_neg (by rw[h];simp),if_neg h2,if_pos h3]
theorem Hz{t n:Int}{cs:List Int}{id share:Int}(h:dw t n cs=true)(h2:¬(id<1\/n<id))(h3:¬1073741789<=share):iD t n cs id share=0:=by
 unfold iD;rw[if_neg (by rw[h];simp),if_neg h2,if_neg h3]
theorem H7{t n:Int}{cs:List Int}{id share:Int}(h:iD t n cs id share=0):qQ t n cs id share=(pw 4 share.toNat 2147483579==pub cs id):=by
 unfold qQ;rw[Bool.eq_iff_iff,decide_eq_true_iff,beq_iff_eq];exact⟨fun h'=>h'.2,fun h'=>⟨h,h'⟩⟩
end oI
namespace Lck
abbrev muLink:Go.Conc.Locks.MuLink:={lock:=28,unlock:=29,ilock:=71,iunlock:=72,lockSlow:=105,unlockSlow:=107,disable:=80,enable:=81,acquire:=94,relMerge:=79,cas32:=104,add32:=106,tMutex:=80,tIMutex:=78,tPMutex:=144,tPIMutex:=177,tPI32:=179,tUP:=157,tNoCopy:=75,tU32:=76}
theorem muLib:Go.Conc.Locks.MuLib Try.prog muLink:=
 ⟨Try.func28,Try.func29,Try.func71,Try.func72,Try.func80,Try.func81,Try.func94,Try.func79,Try.func104,Try.func106,Try.underlying78,Try.runUnderlying78,Try.sizeOf78,Try.isAgg78,Try.zeroValue78,Try.underlying80,Try.runUnderlying80,Try.sizeOf80,Try.isAgg80,Try.zeroValue80,Try.underlying144,Try.runUnderlying144,Try.sizeOf144,Try.isAgg144,Try.zeroValue144,Try.underlying177,Try.runUnderlying177,Try.sizeOf177,Try.isAgg177,Try.zeroValue177,Try.underlying179,Try.runUnderlying179,Try.sizeOf179,Try.isAgg179,Try.zeroValue179,Try.underlying157,Try.runUnderlying157,Try.sizeOf157,Try.isAgg157,Try.zeroValue157,Try.underlying75,Try.runUnderlying75,Try.sizeOf75,Try.isAgg75,Try.zeroValue75,Try.underlying21,Try.runUnderlying21,Try.sizeOf21,Try.isAgg21,Try.zeroValue21,(by kernel_rfl)⟩
end Lck
end Go.Proofs.Ytpfpokjaeffbjab
