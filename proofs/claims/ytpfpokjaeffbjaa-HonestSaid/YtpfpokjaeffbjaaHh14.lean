/- Part of the proof: SgdLib, SgdSign, Deal, Leave, DealsWalk, Dealt, SgdWalk, SgdPO, BlaP3, AliPre, AliTail, BlaP4, AliGo. -/
import Derived.Test.YtpfpokjaeffbjaaHh0
import Derived.Test.YtpfpokjaeffbjaaHh13
import Derived.Test.YtpfpokjaeffbjaaHh6
import Derived.Deep.RegionLaw
import Derived.Conc.LeavingOf
import Derived.Conc.HoldsTime
import Derived.Lib.SmallJoins
import Derived.OpenShut
import Derived.Deep.RegionHeld3
import Derived.Deep.DeepCutAuto
import Derived.StillTailTactics
import Derived.Outline
import Derived.Test.YtpfpokjaeffbjaaHh12
import Derived.Test.YtpfpokjaeffbjaaHh11
set_option linter.unusedVariables false
set_option linter.unusedSimpArgs false
set_option maxRecDepth 100000
set_option maxHeartbeats 16000000
open List renaming mem_of_getElem?→cj,not_mem_nil→bB,map_append→cD,getD_eq_getElem?_getD→aC,getElem?_eq_getElem→aN,length_append→dG,range→bq,mem_cons_self→dh,mem_cons_of_mem→aR
open Nat renaming le_trans→aY,le_refl→aH,lt_of_lt_of_le→bU
open Go.Proofs.Try renaming prog→dS
open Go.Value renaming int→bV,oneCell'→cA
open Go.World renaming ownsRow_nil→cB,cell?_setCell_other→bY,block_lt_of_cell?→bZ
open Int renaming eq_ofNat_of_zero_le→cw,mul_nonneg→dL,mul_emod→dA
open Option renaming getD_some→aJ
open Go.Frame renaming enter→bQ
namespace Go.Proofs.Ytpfpokjaeffbjaa
open Go renaming World→ae,Value→af,Goroutine→ah,Frame→ai,TypeId→aj,FuncId→ak,Program→au,undef→av,execOp→ax
open Go.Lib renaming hid→ay
namespace Sgd
open Go.RowKit Pl ni oa ng Hv Ht Mem yL O0 nO O2
open tP (Only jI qN vM)
def Ai(a:tP.Loc):af:=.pointer (some ⟨a.S,0,none⟩)
theorem oH{w:ae}{a:tP.Loc}{s:St}(h:jI w a s){base size n:Nat}{e:aj}{v:af}{xs:List af}(ho:w.ownsRow base e size v n xs)(h1:e≠159)(h2:e≠137)(h3:e≠79):∀x∈a.foot,some x≠v.ownBlock:=by
 intro x hx;simp[tP.Loc.foot]at hx;rcases hx with rfl|rfl|rfl|rfl
 ·exact jU ho h.sg h1
 ·obtain⟨C,hC,-⟩:=h.rY;exact jU ho hC h2
 ·rcases wQ h.own ho h3.symm with h|h
  ·cases h
  ·exact h
 ·obtain⟨es,cl,hM,-⟩:=h.map;intro he;rcases ho.2 with⟨rfl,-⟩|⟨g,cp,cur,rfl,_,hh,_⟩
  ·cases he
  ·have:a.M=g:=by simpa [Value.ownBlock]using he
   rw[this]at hM;rw[hM]at hh;cases hh
theorem JZ{w:ae}{a:tP.Loc}{s:St}(h:jI w a s){g:Nat}{t:aj}{cs:Array af}(hg:fF w g t cs)(h1:t≠159)(h2:t≠137)(h3:t≠79):g∉a.foot:=by
 intro hx;simp[tP.Loc.foot]at hx;rcases hx with rfl|rfl|rfl|rfl
 ·exact fF.ne_ hg h.sg h1 rfl
 ·obtain⟨C,hC,-⟩:=h.rY;exact fF.ne_ hg hC h2 rfl
 ·exact jU h.own hg h3.symm rfl
 ·obtain⟨es,cl,hM,-⟩:=h.map;unfold fF at hg;rw[hM]at hg;cases hg
structure SW(w:ae)(GB:Nat)(gC:Array af)(wr:ae)(L:List tP.Loc)(yP:Nat->St)(m:Nat)(v1 v2:af)(n2:Nat)(l:List Cm):Prop where
 wR:wr.ownsRow w.heap.size 90 1 v1 m ((L.take m).map Ai)
 vU:wr.ownsRow w.heap.size 52 3 v2 n2 (eO l)
 gb:fF wr GB 31 gC
 bw:Below w.heap.size w wr
 sg:∀(k:Nat) (a:tP.Loc),L[k]?=some a->jI wr a (yP k)
 ft:∀a∈L,∀x∈a.foot,w.heap.size<=x
 ap:∀(i j:Nat) (a b:tP.Loc),L[i]?=some a->L[j]?=some b->i≠j->∀x∈a.foot,x∉b.foot
section
variable{w wr w':ae}{GB m n2:Nat}{gC:Array af}{L:List tP.Loc}{yP:Nat->St}{v1 v2:af}{l:List Cm}
theorem SW.later(h:SW w GB gC wr L yP m v1 v2 n2 l)(hb:Below wr.heap.size wr w'):SW w GB gC w' L yP m v1 v2 n2 l:=
 ⟨iR h.wR hb nle,iR h.vU hb nle,h.gb.below hb h.gb.lt,h.bw.trans (hb.mono h.bw.size),fun k a hk=>Ij (h.sg k a hk) hb,h.ft,h.ap⟩
theorem SW.drew(h:SW w GB gC wr L yP m v1 v2 n2 l):SW w GB gC wr.drew L yP m v1 v2 n2 l:=h.later bre.drew
theorem SW.alloc(h:SW w GB gC wr L yP m v1 v2 n2 l)(o:Obj):SW w GB gC (wr.alloc o) L yP m v1 v2 n2 l:=h.later (eD _ _)
theorem xM{base size n:Nat}{e:aj}{v:af}{xs:List af}{X:List Nat}(h:wr.ownsRow base e size v n xs)(hX:∀x∈X,some x≠v.ownBlock)(ho:Only X wr w'):w'.ownsRow base e size v n xs:=
 Lm h fun g hg=>ho.block g (h.lt g hg).2 fun hk=>hX g hk hg.symm
theorem SW.only (h:SW w GB gC wr L yP m v1 v2 n2 l){k:Nat}{a:tP.Loc}{s:St}(hk:L[k]?=some a)(ho:Only a.foot wr w')(hs:jI w' a s):SW w GB gC w' L (fun i=>if i=k then s else yP i) m v1 v2 n2 l:=by
 have hsa:=h.sg k a hk;refine⟨xM h.wR (oH hsa h.wR (by decide) (by decide) (by decide)) ho,xM h.vU (oH hsa h.vU (by decide) (by decide) (by decide)) ho,ho.blk h.gb (JZ hsa h.gb (by decide) (by decide) (by decide)),h.bw.trans (Dy ho (h.ft a (cj hk)) h.bw.size),fun i b hb=>?_,h.ft,h.ap⟩;by_cases e:i=k
 ·subst e;rw[hk]at hb;cases hb;rw[if_pos rfl];exact hs
 ·rw[if_neg e];exact jI.only (h.sg i b hb) ho (h.ap i k b a hb hk e)
theorem SW.new(h:SW w GB gC wr L yP m v1 v2 n2 l)(hm:m<=L.length)(hb:Below wr.heap.size wr w'){a:tP.Loc}{s:St}(hs:jI w' a s)(hf:∀x∈a.foot,wr.heap.size<=x):SW w GB gC w' (L++[a]) (fun i=>if i=L.length then s else yP i) m v1 v2 n2 l:=by
 have h':=h.later hb;have get:∀i b,(L++[a])[i]?=some b->(i<L.length/\L[i]?=some b)\/(i=L.length/\b=a):=fun i b hb=>by
  rw[List.getElem?_append]at hb;split at hb
  ·rename_i hlt;exact .inl ⟨hlt,hb⟩
  ·rename_i hge;have:i-L.length=0:=by
    cases hz:i-L.length with
    |zero=>rfl
    |succ z=>rw[hz]at hb;simp at hb
   rw[this]at hb;simp at hb<;>exact .inr ⟨by omega,hb.symm⟩
 refine⟨by rw[List.take_append_of_le_length hm];exact h'.wR,h'.vU,h'.gb,h'.bw,fun i b hb=>?_,fun b hb x hx=>?_,fun i j b c hb hc hne x hx=>?_⟩
 ·rcases get i b hb with⟨h1,h2⟩|⟨rfl,rfl⟩
  ·rw[if_neg (by omega)];exact h'.sg i b h2
  ·rw[if_pos rfl];exact hs
 ·rcases List.mem_append.1 hb with hb|hb
  ·exact h.ft b hb x hx
  ·rw[List.mem_singleton.1 hb]at hx;exact aY h.bw.size (hf x hx)
 ·rcases get i b hb with⟨h1,h2⟩|⟨h1,rfl⟩<;>rcases get j c hc with⟨h3,h4⟩|⟨h3,rfl⟩
  ·exact h.ap i j b c h2 h4 hne x hx
  ·intro hx2;have:=hf x hx2
   have:=(h.sg i b h2).lt x hx
   omega
  ·intro hx2;have:=hf x hx
   have:=(h.sg j c h4).lt x hx2
   omega
  ·omega
theorem SW.app1(h:SW w GB gC wr L yP m v1 v2 n2 l){cs:Array af}{v':af}(hg:(wr.alloc (.cells cs 90)).grownBy w' v1.ownBlock){a:tP.Loc}(ha:L[m]?=some a)(hown:w'.ownsRow w.heap.size 90 1 v' (m+1) ((L.take m).map Ai++[Ai a])):SW w GB gC w' L yP (m+1) v' v2 n2 l:=by
 have hlt:m<L.length:=(List.getElem?_eq_some_iff.1 ha).1;have e:(L.take (m+1)).map Ai=(L.take m).map Ai++[Ai a]:=by
  rw[List.take_add_one,ha];simp
 refine⟨by rw[e];exact hown,mH h.vU h.wR (by decide) hg,ij h.gb h.wR (by decide) hg,gV h.bw h.wR h.bw.size hg,fun k b hb=>?_,h.ft,h.ap⟩;have hs:=h.sg k b hb;refine hs.keep fun x hx=>?_;have h1:=hs.lt x hx;exact(hg.block x (by simp<;>omega) (oH hs h.wR (by decide) (by decide) (by decide) x hx)).trans ((eD wr _).block x h1)
theorem SW.br7(h:SW w GB gC wr L yP m v1 v2 n2 l){cs:Array af}{v':af}{n':Nat}{l':List Cm}(hg:(wr.alloc (.cells cs 52)).grownBy w' v2.ownBlock)(hown:w'.ownsRow w.heap.size 52 3 v' n' (eO l')):SW w GB gC w' L yP m v1 v' n' l':=by
 refine⟨mH h.wR h.vU (by decide) hg,hown,ij h.gb h.vU (by decide) hg,gV h.bw h.vU h.bw.size hg,fun k b hb=>?_,h.ft,h.ap⟩;have hs:=h.sg k b hb;refine hs.keep fun x hx=>?_;have h1:=hs.lt x hx;exact(hg.block x (by simp<;>omega) (oH hs h.vU (by decide) (by decide) (by decide) x hx)).trans ((eD wr _).block x h1)
theorem SW.congr{F4:Nat->St}(h:SW w GB gC wr L yP m v1 v2 n2 l)(e:∀k,k<L.length->yP k=F4 k):SW w GB gC wr L F4 m v1 v2 n2 l:=
 ⟨h.wR,h.vU,h.gb,h.bw,fun k a hk=>by rw[<-e k (List.getElem?_eq_some_iff.1 hk).1];exact h.sg k a hk,h.ft,h.ap⟩
end
end Sgd
namespace Sgd
open Go.RowKit Pl ni oa ng Hv Ht OZ OX nU Mem yL nO xA O0 Bla
open tP (Only jI qN vM wU Hg GY N3)
def DZ(t n:Int)(cf:List Int)(dX:Int)(is:List Nat)(k:Nat):St:=⟨t,n,comms cf cf.length,is.getD k 0,jG cf (is.getD k 0),[(dN dX (is.getD k 0),fN dX (is.getD k 0))]⟩
def Pg(t n:Int)(cf:List Int)(is:List Nat)(k:Nat):St:=⟨t,n,comms cf cf.length,is.getD k 0,jG cf (is.getD k 0),[]⟩
theorem z7{w:ae}{a:tP.Loc}{s:St}(hs:jI w a s){base n:Nat}{v:af}{l:List Cm}(hn:l.length=n)(h:w.ownsRow base 52 3 v n (eO l)):vM a.foot w v l:=fun w' ho=>by
 subst hn;exact lU.own (xM h (oH hs h (by decide) (by decide) (by decide)) ho)
section
variable{t n:Nat}{cf:List Int}{is:List Nat}{dX:Int}{msg:ByteArray}
theorem Ip(kZ:Hc t n is){k:Nat}(hk:k<is.length):l7 (is.getD k 0:Nat) (fA dX is) (fA dX is).length=k:=
 ve (r7 (AE kZ)) (by rw[fy];exact hk) (by rw[jJ hk];rfl)
theorem yC(i:Nat)(hi:i<(fA dX is).length):0<=((fA dX is).getD i .zero).d/\0<=((fA dX is).getD i .zero).e:=by
 rw[jJ (by rw[fy]at hi;exact hi)];exact QB _ _
theorem aG9(kZ:Hc t n is){k:Nat}(hk:k<is.length)(hok:Ok (DZ t n cf dX is k)){w:ae}{a:tP.Loc}(hs:jI w a (DZ t n cf dX is k)){base:Nat}{v:af}(ho:w.ownsRow base 52 3 v is.length (eO (fA dX is)))(rH:msg.size<=1000000):
  Calls dS 54 #[.pointer (some ⟨a.S,0,none⟩),.string msg,v] w fun x w'=>Only a.foot w w'/\
   ((gI (fA dX is) ((comms cf cf.length).getD 0 0) msg=1/\x=.returned (.tuple #[.int .u64 0,.int .i64 11]))\/
    (gI (fA dX is) ((comms cf cf.length).getD 0 0) msg≠1/\x=.returned (.tuple #[.int .u64 (shr cf dX is msg k),.int .i64 0])/\jI w' a (Pg t n cf is k))):=by
 obtain⟨u,e,s',hr⟩:=Cb (DZ t n cf dX is k) msg (fA dX is);refine(tP.YK w a _ msg _ _ hs hok (z7 hs fy ho) (by rw[fy];have:=kZ.few;have:=kZ.n9;omega) yC rH u e s' hr).mono ?_;rintro x w' ⟨rfl,h2,h3⟩;refine⟨h3,?_⟩;have hpk:sM (DZ t n cf dX is k).t (DZ t n cf dX is k).n (fA dX is)=0:=AE kZ;have hmi:l7 (DZ t n cf dX is k).id (fA dX is) (fA dX is).length=k:=Ip kZ hk;have hqi:(dN dX (is.getD k 0),fN dX (is.getD k 0))∈(DZ t n cf dX is k).pl:=List.mem_singleton.2 rfl;have hqm:iV (DZ t n cf dX is k).id (dN dX (is.getD k 0),fN dX (is.getD k 0))=(fA dX is).getD k .zero:=(jJ hk).symm;have hhit:=MZ (m:=k) (q:=(dN dX (is.getD k 0),fN dX (is.getD k 0))) hr hok hpk hmi hqi hqm;obtain⟨j,hj,h⟩:=hhit;have hsh:yR (DZ t n cf dX is k) msg (fA dX is) k (dN dX (is.getD k 0),fN dX (is.getD k 0))=shr cf dX is msg k:=by simp only[yR,shr,DZ,fy]
 rw[hsh]at h;rcases h with⟨ha,rfl,rfl,-⟩|⟨ha,rfl,rfl,rfl⟩
 ·exact .inl ⟨ha,rfl⟩
 ·refine .inr ⟨ha,rfl,?_⟩;have hj0:j=0:=by
   have:=(List.getElem?_eq_some_iff.1 hj).1
   simpa [DZ]using this
  subst hj0;exact h2
theorem aG8(kZ:Hc t n is){k:Nat}(hk:k<is.length)(hok:Ok (Pg t n cf is k)){w:ae}{a:tP.Loc}(hs:jI w a (Pg t n cf is k)){base:Nat}{v:af}(ho:w.ownsRow base 52 3 v is.length (eO (fA dX is)))(rH:msg.size<=1000000):
  Calls dS 54 #[.pointer (some ⟨a.S,0,none⟩),.string msg,v] w fun x w'=>x=.returned (.tuple #[.int .u64 0,.int .i64 10])/\Only a.foot w w'/\jI w' a (Pg t n cf is k):=by
 obtain⟨u,e,s',hr⟩:=Cb (Pg t n cf is k) msg (fA dX is);refine(tP.YK w a _ msg _ _ hs hok (z7 hs fy ho) (by rw[fy];have:=kZ.few;have:=kZ.n9;omega) yC rH u e s' hr).mono ?_;rintro x w' ⟨rfl,h2,h3⟩;obtain⟨rfl,rfl,rfl⟩:=Iz hr (AE kZ) (m:=k) (Ip kZ hk) (fun⟨q,hq,_⟩=>absurd hq bB);exact⟨rfl,h3,h2⟩
theorem aL9{k:Nat}{w:ae}{a:tP.Loc}(hs:jI w a (Pg t n cf is k)):
  Calls dS 53 #[.pointer (some ⟨a.S,0,none⟩)] w fun e w'=>e=.returned (.int .i64 0)/\Only a.foot w w'/\jI w' a (Pg t n cf is k):=
 (N3 w a _ hs).mono fun e w' ⟨h1,h2,h3⟩=>⟨h1,h3,h2⟩
end
structure SX(w:ae)(GB:Nat)(gC:Array af)(wr:ae)(L:List tP.Loc)(yP:Nat->St)(v1 v2 v3:af)(m n:Nat)(l:List Cm)(zs:List af):Prop where
 sw:SW w GB gC wr L yP n v1 v2 n l
 Aj:wr.ownsRow w.heap.size 40 1 v3 m zs
section
variable{w wr w':ae}{GB m n:Nat}{gC:Array af}{L:List tP.Loc}{yP:Nat->St}{v1 v2 v3:af}{l:List Cm}{zs:List af}
theorem SX.only (h:SX w GB gC wr L yP v1 v2 v3 m n l zs){k:Nat}{a:tP.Loc}{s:St}(hk:L[k]?=some a)(ho:Only a.foot wr w')(hs:jI w' a s):SX w GB gC w' L (fun i=>if i=k then s else yP i) v1 v2 v3 m n l zs:=
 ⟨h.sw.only hk ho hs,xM h.Aj (oH (h.sw.sg k a hk) h.Aj (by decide) (by decide) (by decide)) ho⟩
theorem SX.congr{F4:Nat->St}(h:SX w GB gC wr L yP v1 v2 v3 m n l zs)(e:∀k,k<L.length->yP k=F4 k):SX w GB gC wr L F4 v1 v2 v3 m n l zs:=⟨h.sw.congr e,h.Aj⟩
theorem SX.br6(h:SX w GB gC wr L yP v1 v2 v3 m n l zs){cs:Array af}{v':af}{m':Nat}{zs':List af}(hg:(wr.alloc (.cells cs 40)).grownBy w' v3.ownBlock)(hown:w'.ownsRow w.heap.size 40 1 v' m' zs'):SX w GB gC w' L yP v1 v2 v' m' n l zs':=by
 refine⟨⟨mH h.sw.wR h.Aj (by decide) hg,mH h.sw.vU h.Aj (by decide) hg,ij h.sw.gb h.Aj (by decide) hg,gV h.sw.bw h.Aj h.sw.bw.size hg,fun k b hb=>?_,h.sw.ft,h.sw.ap⟩,hown⟩;have hs:=h.sw.sg k b hb;refine hs.keep fun x hx=>?_;have h1:=hs.lt x hx;exact(hg.block x (by simp<;>omega) (oH hs h.Aj (by decide) (by decide) (by decide) x hx)).trans ((eD wr _).block x h1)
end
theorem ae1{w:ae}{base n c bk k:Nat}{T:aj}{a:tP.Loc}{L:List tP.Loc}(h:w.ownsRow base T 1 (.slice (some ⟨bk,0,none⟩) n c) n (L.map Ai))(hk:L[k]?=some a)(hn:0<n):w.cell? ⟨bk,k,none⟩=some (Ai a):=by
 obtain⟨_,A,c',hv,_,h⟩:=Row.own h;obtain⟨b,off,hA,_,h⟩:=h hn;simp only[Value.slice.injEq]at hv;rw[<-hv.1]at hA;simp only[Option.some.injEq,Addr.mk.injEq,and_true]at hA;obtain⟨rfl,rfl⟩:=hA;have:=h k (Ai a) (by simp[hk])
 rw[Nat.zero_add]at this;exact this
end Sgd
namespace Dea
open Go.RowKit Pl ni nU Mem yL nO
def oO(t n:Int)(coeffs shares:List Int)(w:ae)(e:Ending)(w':ae):Prop:=
 Below w.heap.size w w'/\
 ((iY t n coeffs≠0/\e=.returned (.tuple #[.agg #[.int .i64 0,.int .i64 0,.slice none 0 0],.slice none 0 0,.int .i64 (iY t n coeffs)]))\/
  (iY t n coeffs=0/\∃vc vs,e=.returned (.tuple #[.agg #[.int .i64 t,.int .i64 n,vc],vs,.int .i64 0])/\
   gA .u64 w' w'.heap.size vc (comms coeffs coeffs.length)/\gA .u64 w' w'.heap.size vs shares))
theorem Jz:(Try.prog.info? 76).map (fun i=>(i.zero,i.size,i.bytes))=some (some (.int .u64 0),1,8):=by kernel_rfl
theorem ru:(Try.prog.info? 40).map (fun i=>(i.zero,i.size,i.bytes))=some (some (.int .u64 0),1,8):=by kernel_rfl
theorem XY(t n:Int)(coeffs shares:List Int)(v:af)(w:ae)(hv:gA .u64 w w.heap.size v coeffs)(hl:coeffs.length<=65536)
  (hbad:t<2\/n<t\/9<n\/(coeffs.length:Int)≠t):
  Calls dS 18 #[.int .i64 t,.int .i64 n,v] w (oO t n coeffs shares w):=by
 obtain⟨A,c,rfl,hc,hcell⟩:=hv;have hE:Hid (iY t n coeffs=1):=by
  show iY t n coeffs=1;unfold iY;rw[if_pos hbad]
 clear hcell;by_cases h1:t<2;case pos=>
  clear hbad;go_enter Try.func18,Try.ntmps18
  go_wp2_with fail
  refine bodyPost_ret (v:=.tuple #[.agg #[.int .i64 0,.int .i64 0,.slice none 0 0],.slice none 0 0,.int .i64 1]) (by simp[results,Try.results18,go_sem]) rfl ?_;exact⟨by first|exact bre.alloc nle _|exact(bre.alloc nle _).setCell nle _,.inl ⟨by rw[hE.out];omega,by rw[hE.out]⟩⟩
 by_cases h2:n<t;case pos=>
  clear hbad;go_enter Try.func18,Try.ntmps18
  go_wp2_with fail
  refine bodyPost_ret (v:=.tuple #[.agg #[.int .i64 0,.int .i64 0,.slice none 0 0],.slice none 0 0,.int .i64 1]) (by simp[results,Try.results18,go_sem]) rfl ?_;exact⟨by first|exact bre.alloc nle _|exact(bre.alloc nle _).setCell nle _,.inl ⟨by rw[hE.out];omega,by rw[hE.out]⟩⟩
 by_cases h3:9<n;case pos=>
  clear hbad;go_enter Try.func18,Try.ntmps18
  go_wp2_with fail
  refine bodyPost_ret (v:=.tuple #[.agg #[.int .i64 0,.int .i64 0,.slice none 0 0],.slice none 0 0,.int .i64 1]) (by simp[results,Try.results18,go_sem]) rfl ?_;exact⟨by first|exact bre.alloc nle _|exact(bre.alloc nle _).setCell nle _,.inl ⟨by rw[hE.out];omega,by rw[hE.out]⟩⟩
 have h4:((coeffs.length:Int) != t)=true:=by rw[bne_iff_ne];omega
 clear hbad;go_enter Try.func18,Try.ntmps18
 go_wp2_with fail
 refine bodyPost_ret (v:=.tuple #[.agg #[.int .i64 0,.int .i64 0,.slice none 0 0],.slice none 0 0,.int .i64 1]) (by simp[results,Try.results18,go_sem]) rfl ?_;exact⟨by first|exact bre.alloc nle _|exact(bre.alloc nle _).setCell nle _,.inl ⟨by rw[hE.out];omega,by rw[hE.out]⟩⟩
theorem Lb(t n:Int)(coeffs shares:List Int)(v:af)(w:ae)(hv:gA .u64 w w.heap.size v coeffs)(hl:coeffs.length<=65536)
  (hbad:t<2\/n<t\/9<n\/(coeffs.length:Int)≠t):
  Calls dS 19 #[.int .i64 t,.int .i64 n,v] w (oO t n coeffs shares w):=by
 obtain⟨A,c,rfl,hc,hcell⟩:=hv;have hE:Hid (iY t n coeffs=1):=by
  show iY t n coeffs=1;unfold iY;rw[if_pos hbad]
 clear hcell;by_cases h1:t<2;case pos=>
  clear hbad;go_enter Try.func19,Try.ntmps19
  go_wp2_with fail
  refine bodyPost_ret (v:=.tuple #[.agg #[.int .i64 0,.int .i64 0,.slice none 0 0],.slice none 0 0,.int .i64 1]) (by simp[results,Try.results19,go_sem]) rfl ?_;exact⟨by first|exact bre.alloc nle _|exact(bre.alloc nle _).setCell nle _,.inl ⟨by rw[hE.out];omega,by rw[hE.out]⟩⟩
 by_cases h2:n<t;case pos=>
  clear hbad;go_enter Try.func19,Try.ntmps19
  go_wp2_with fail
  refine bodyPost_ret (v:=.tuple #[.agg #[.int .i64 0,.int .i64 0,.slice none 0 0],.slice none 0 0,.int .i64 1]) (by simp[results,Try.results19,go_sem]) rfl ?_;exact⟨by first|exact bre.alloc nle _|exact(bre.alloc nle _).setCell nle _,.inl ⟨by rw[hE.out];omega,by rw[hE.out]⟩⟩
 by_cases h3:9<n;case pos=>
  clear hbad;go_enter Try.func19,Try.ntmps19
  go_wp2_with fail
  refine bodyPost_ret (v:=.tuple #[.agg #[.int .i64 0,.int .i64 0,.slice none 0 0],.slice none 0 0,.int .i64 1]) (by simp[results,Try.results19,go_sem]) rfl ?_;exact⟨by first|exact bre.alloc nle _|exact(bre.alloc nle _).setCell nle _,.inl ⟨by rw[hE.out];omega,by rw[hE.out]⟩⟩
 have h4:((coeffs.length:Int) != t)=true:=by rw[bne_iff_ne];omega
 clear hbad;go_enter Try.func19,Try.ntmps19
 go_wp2_with fail
 refine bodyPost_ret (v:=.tuple #[.agg #[.int .i64 0,.int .i64 0,.slice none 0 0],.slice none 0 0,.int .i64 1]) (by simp[results,Try.results19,go_sem]) rfl ?_;exact⟨by first|exact bre.alloc nle _|exact(bre.alloc nle _).setCell nle _,.inl ⟨by rw[hE.out];omega,by rw[hE.out]⟩⟩
def O3(t n:Int)(coeffs:List Int)(w:ae)(b i:af)(wr:ae):Prop:=
 ∃k:Nat,∃vc:af,k<=coeffs.length/\i=.int .i64 k/\mQ coeffs k=true/\(0<k->coeffs.getD 0 0≠0)/\
  wr.ownsRow w.heap.size 76 1 b k ((coeffs.take k).map (bV .u64))/\
  wr.ownsRow w.heap.size 40 1 vc k ((comms coeffs k).map (bV .u64))/\
  fF wr (w.heap.size+1) 31 #[.int .i64 t,.int .i64 n,vc]/\fF wr w.heap.size 31 #[.int .i64 0,.int .i64 0,.slice none 0 0]/\Below w.heap.size w wr
theorem Kg{t n:Int}{coeffs:List Int}{w w1 w2:ae}{k:Nat}{x:Int}{v1 vc:af}{A2:Option Addr}{c2 g2 cap2:Nat}{cs:Array af}(hlt:k<coeffs.length)
  (hok:mQ coeffs (k+1)=true)(hnz:coeffs.getD 0 0≠0)(hx:coeffs.getD k 0=x)
  (h1:w1.ownsRow w.heap.size 76 1 v1 (k+1) ((coeffs.take k).map (bV .u64)++[.int .u64 x]))
  (h2:w1.ownsRow w.heap.size 40 1 (.slice A2 k c2) k ((comms coeffs k).map (bV .u64)))
  (b1:fF w1 (w.heap.size+1) 31 #[.int .i64 t,.int .i64 n,vc])(b0:fF w1 w.heap.size 31 #[.int .i64 0,.int .i64 0,.slice none 0 0])(hb:Below w.heap.size w w1)
  (h3:w2.ownsRow w.heap.size 40 1 (.slice (some ⟨g2,0,none⟩) (k+1) cap2) (k+1) ((comms coeffs k).map (bV .u64)++[.int .u64 (pw 4 x.toNat 2147483579)]))
  (hg:(w1.drew.alloc (.cells cs 40)).grownBy w2 (Value.slice A2 k c2).ownBlock):
  O3 t n coeffs w v1 (.int .i64 ((k:Int)+1)) (w2.setCell ⟨w.heap.size+1,2,none⟩ (.slice (some ⟨g2,0,none⟩) (k+1) cap2)):=by
 have h2':w1.drew.ownsRow w.heap.size 40 1 (.slice A2 k c2) k ((comms coeffs k).map (bV .u64)):=h2;have h1':w1.drew.ownsRow w.heap.size 76 1 v1 (k+1) ((coeffs.take k).map (bV .u64)++[.int .u64 x]):=h1;have g1:=mH h1' h2' (by decide) hg;have q2:=ij (show fF w1.drew _ _ _ from b1) h2' (by decide) hg;have g0:=ij (show fF w1.drew _ _ _ from b0) h2' (by decide) hg;have gb:=gV (show Below w.heap.size w w1.drew from hb.drew) h2' hb.size hg;refine⟨k+1,.slice (some ⟨g2,0,none⟩) (k+1) cap2,by omega,by go_num,hok,fun _=>hnz,?_,?_,?_,?_,gb.setCell (by show w.heap.size<=w.heap.size+1;omega) _⟩
 ·have:=kL g1 q2 (by decide) 2 (.slice (some ⟨g2,0,none⟩) (k+1) cap2)
  rw[EJ coeffs hlt,cD,hx];exact this
 ·have:=kL h3 q2 (by decide) 2 (.slice (some ⟨g2,0,none⟩) (k+1) cap2)
  rw[xk coeffs hlt,cD,hx];exact this
 ·exact q2.iK 2 _
 ·exact g0.far (p:=⟨w.heap.size+1,2,none⟩) (by show w.heap.size≠w.heap.size+1;omega) _
theorem OD{t:Int}{m:Nat}{coeffs shares:List Int}{w wr:ae}{v:af}{A2:Option Addr}{c2 base:Nat}{cs:Array af}{x y z:af}(H0:iY t m coeffs=0)
  (hc:wr.ownsRow w.heap.size 40 1 (.slice A2 coeffs.length c2) coeffs.length ((comms coeffs coeffs.length).map (bV .u64)))
  (hs:wr.ownsRow base 40 1 v m (shares.map (bV .u64)))(hb:fF wr w.heap.size 31 cs)(hw:Below w.heap.size w wr):
  oO t m coeffs shares w (.returned (.tuple #[.agg #[.int .i64 t,.int .i64 (m:Int),.slice A2 coeffs.length c2],v,.int .i64 0]))
   (((wr.setCell ⟨w.heap.size,0,none⟩ x).setCell ⟨w.heap.size,1,none⟩ y).setCell ⟨w.heap.size,2,none⟩ z):=by
 have hb1:=hb.iK 0 x;have hb2:=hb1.iK 1 y;have c3:=kL (kL (kL hc hb (by decide) 0 x) hb1 (by decide) 1 y) hb2 (by decide) 2 z;have s3:=kL (kL (kL hs hb (by decide) 0 x) hb1 (by decide) 1 y) hb2 (by decide) 2 z;have hlen:shares.length=m:=by have:=s3.1;simpa using this
 refine⟨((hw.setCell nle _).setCell nle _).setCell nle _,.inr ⟨H0,_,_,rfl,?_,?_⟩⟩
 ·exact gA.own (by rw[iu coeffs nle];exact c3)
 ·exact gA.own (by rw[hlen];exact s3)
theorem UB(t:Int)(N:Nat)(coeffs:List Int)(v:af)(w:ae)(hv:gA .u64 w w.heap.size v coeffs)(hl:coeffs.length<=65536)
  (hcb:∀i,i<coeffs.length->0<=coeffs.getD i 0/\coeffs.getD i 0<18446744073709551616)(h1:2<=t)(h2:t<=N)(h3:N<=9)(h4:(coeffs.length:Int)=t):
  Calls dS 18 #[.int .i64 t,.int .i64 (N:Int),v] w (oO t N coeffs (jo coeffs N) w):=by
 obtain⟨A,c,rfl,hc,hcell⟩:=hv;have HC:=ay hcell;have Mr:=ay hcb;have H4:=ay h4;have hE:Hid (iY t N coeffs=if coeffs.getD 0 0=0\/mQ coeffs coeffs.length=false then 2 else 0):=by
  show iY t N coeffs=_;unfold iY;rw[if_neg (by omega)]
 have hne:((coeffs.length:Int) != t)=false:=by rw[bne_eq_false_iff_eq];exact h4
 have Qg:¬t<2:=by omega
 have hn2:¬(N:Int)<t:=by omega
 have hn3:¬9<(N:Int):=by omega
 have hlp:2<=coeffs.length:=by omega
 have wE:coeffs.length<=9:=by omega
 clear hcell hcb h4;obtain⟨i0,hi,hz0,hz1,hz2⟩:=info_parts Jz;obtain⟨i1,hj,hy0,hy1,hy2⟩:=info_parts ru;go_enter Try.func18,Try.ntmps18
 go_wp2_with fail
 go_loopw [9,40] (fun b i wr=>O3 t N coeffs w b i wr) (fun _ i _=>coeffs.length-(intOf i).toNat)
 case atStart=>
  exact⟨0,.slice none 0 0,by omega,rfl,rfl,fun h=>absurd h (by omega),cB _ _ _ _,cB _ _ _ _,
   by simpa using fF.new (w.alloc (.cells #[.int .i64 0,.int .i64 0,.slice none 0 0] 31)) 31 #[.int .i64 t,.int .i64 (N:Int),.slice none 0 0],
   (fF.new w 31 #[.int .i64 0,.int .i64 0,.slice none 0 0]).alloc _,(bre.alloc nle _).alloc (by simp) _⟩
 case round=>
  obtain⟨k,vc,hk,rfl,hok,hnz,hown,C4,hblk,kS,gy⟩:=hrel;obtain⟨A1,c1,rfl⟩:=ko hown;obtain⟨A2,c2,rfl⟩:=ko C4;have HO:=ay hown;have Yu:=ay C4;have HK:=ay hok;have HNZ:=ay hnz;clear hown C4 hok hnz;by_cases hlt:k<coeffs.length
  ·obtain⟨b,off,rfl,hb,hcells⟩:=HC.out (by omega);have yt:=(gy.cell (p:=⟨b,off+k,none⟩) hb).trans (hcells k hlt);have hxb:=Mr.out k hlt;clear hcells;have hc0:wr.cell? ⟨w.heap.size,0,none⟩=some (.int .i64 0):=kS.cell 0;have hc1:wr.cell? ⟨w.heap.size,1,none⟩=some (.int .i64 0):=kS.cell 1;have hc2:wr.cell? ⟨w.heap.size,2,none⟩=some (.slice none 0 0):=kS.cell 2;have hf0:=kS.frozen 0;have Qi:=kS.frozen 1;have hf2:=kS.frozen 2;have hbad:(¬coeffs.getD k 0<1073741789\/(k=0/\coeffs.getD k 0=0))->Hid (iY t N coeffs=2):=by
    intro h;show iY t N coeffs=2;rw[hE.out,if_pos];rcases h with h|⟨rfl,h⟩
    ·exact .inr (IU coeffs hlt h)
    ·exact .inl h
   have QU:=ay hbad;have hstep:coeffs.getD k 0<1073741789->mQ coeffs (k+1)=true:=fun h=>ES coeffs HK.out h;have O1:=ay hstep;have HTK:=ay (EJ coeffs hlt);have HCM:=ay (xk coeffs hlt);have ap8:Hid (k=0->coeffs.getD k 0=coeffs.getD 0 0):=by
    show k=0->_;rintro rfl;rfl
   clear hbad hstep;generalize hX:coeffs.getD k 0=x at*;have HX:=ay hX;clear hX;by_cases hxq:x<1073741789;case neg=>
    have LX:=QU.out (.inl hxq);go_wp2_with (go_at_call 41;refine(vQ false x _ (by simp<;>omega)).mono ?_;rintro e w' ⟨rfl,rfl⟩)
    refine bodyPost_ret (v:=.tuple #[.agg #[.int .i64 0,.int .i64 0,.slice none 0 0],.slice none 0 0,.int .i64 2]) (by simp[results,Try.results18,go_sem,World.cell?_setCell_same,bY,hc0,hc1,hc2]) rfl ?_;exact⟨by first|exact gy|exact gy.setCell nle _|exact((gy.setCell nle _).setCell nle _).setCell nle _,.inl ⟨by rw[LX.out];omega,by rw[LX.out]⟩⟩
   have hzero:∃bz,(x==0)=bz:=⟨_,rfl⟩;obtain⟨bz,hbz⟩:=hzero;by_cases Ob:k=0;case pos=>
    have hkz:((k:Int)==0)=true:=by rw[beq_iff_eq];omega
    have hx0:=ap8.out Ob;cases bz;case true=>
     have hxz:x=0:=by rwa [beq_iff_eq]at hbz
     have LX:=QU.out (.inr ⟨Ob,hxz⟩);clear hxz hx0 Ob;go_wp2_with (go_at_call 41;refine(vQ true x _ (by simp<;>omega)).mono ?_;rintro e w' ⟨rfl,rfl⟩)
     refine bodyPost_ret (v:=.tuple #[.agg #[.int .i64 0,.int .i64 0,.slice none 0 0],.slice none 0 0,.int .i64 2]) (by simp[results,Try.results18,go_sem,World.cell?_setCell_same,bY,hc0,hc1,hc2]) rfl ?_;exact⟨by first|exact gy|exact gy.setCell nle _|exact((gy.setCell nle _).setCell nle _).setCell nle _,.inl ⟨by rw[LX.out];omega,by rw[LX.out]⟩⟩
    case false=>
     have NZ:Hid (coeffs.getD 0 0≠0):=by
      show coeffs.getD 0 0≠0;rw[<-hx0];rw[beq_eq_false_iff_ne]at hbz;exact hbz
     clear hc0 hc1 hc2 hf0 Qi hf2 hx0 Ob;go_wp2_with (first|(go_at_call 41;refine(vQ true x _ (by simp<;>omega)).mono ?_;rintro e w' ⟨rfl,rfl⟩)|(at_builtin;refine wpList_append_own _ rfl (.tmp 61) (.tmp 63) _ rfl w.heap.size 76 i0 (.int .u64 0) 1 8 Try.underlying75 hi hz0 hz1 hz2 rfl (by decide) _ _ _ rfl (HO.out.alloc _) ⟨wr.heap.size,0,none⟩ 1 1 [.int .u64 x] rfl rfl (cell_one_new _ _ _) (by simp[cA]) (by unfold maxLen;omega) (by omega) (by have:=gy.size;simp<;>omega) ?_;intro v1 w1 hown1 hgrow1 _))
     have xb:=gV gy HO.out gy.size hgrow1;have uQ:=ij hblk HO.out (by decide) hgrow1;have LQ:=ij kS HO.out (by decide) hgrow1;have C2:=mH Yu.out HO.out (by decide) hgrow1;clear hgrow1 gy hblk kS;have QS:=ay hown1;have Mq:=ay C2;clear hown1 C2;have hc2:=uQ.cell 2;have hf2:=uQ.frozen 2;have hsz1:=uQ.lt;go_region_law (first|(go_simp;refine(FH x _ hxb.1 hxb.2).mono ?_;rintro e w' ⟨rfl,rfl⟩)|(refine step_append_lies _ (by rfl) (.tmp 66) (.tmp 69) _ (by rfl) w.heap.size 40 i1 (.int .u64 0) 1 8 Try.underlying29 hj hy0 hy1 hy2 rfl (by decide) (.slice A2 k c2) k _ (by rfl) (show(World.alloc w1.drew _).ownsRow _ _ _ _ _ _ from(show w1.drew.ownsRow _ _ _ _ _ _ from Mq.out).alloc _) ⟨w1.heap.size,0,none⟩ 1 1 [.int .u64 (pw 4 x.toNat 2147483579)] (by rfl) rfl (cell_one_new _ _ _) (by simp[cA]) (by omega) (by unfold maxLen;omega) (by omega) (by have:=xb.size;simp<;>omega) (w1.heap.size+1) (by simp) ?_;intro g2 cap2 w2 hown2 hgrow2 aT5 uN;have jh:=ij (show fF w1.drew _ _ _ from uQ) (show w1.drew.ownsRow _ _ _ _ _ _ from Mq.out) (by decide) hgrow2;have aT0:=jh.cell 2;have aR8:=jh.frozen 2))
     all_goals
      go_wp2_with fail
      refine⟨Kg hlt (O1.out hxq) NZ.out HX.out QS.out Mq.out uQ LQ xb hown2 hgrow2,?_⟩;simp[intOf];omega
   case neg=>
    have hkz:((k:Int)==0)=false:=by rw[beq_eq_false_iff_ne];omega
    have NZ:=ay (HNZ.out (by omega));clear hc0 hc1 hc2 hf0 Qi hf2;cases bz;all_goals
     go_wp2_with (first|(go_at_call 41;refine(vQ true x _ (by simp<;>omega)).mono ?_;rintro e w' ⟨rfl,rfl⟩)|(at_builtin;refine wpList_append_own _ rfl (.tmp 61) (.tmp 63) _ rfl w.heap.size 76 i0 (.int .u64 0) 1 8 Try.underlying75 hi hz0 hz1 hz2 rfl (by decide) _ _ _ rfl (HO.out.alloc _) ⟨wr.heap.size,0,none⟩ 1 1 [.int .u64 x] rfl rfl (cell_one_new _ _ _) (by simp[cA]) (by unfold maxLen;omega) (by omega) (by have:=gy.size;simp<;>omega) ?_;intro v1 w1 hown1 hgrow1 _))
     have xb:=gV gy HO.out gy.size hgrow1;have uQ:=ij hblk HO.out (by decide) hgrow1;have LQ:=ij kS HO.out (by decide) hgrow1;have C2:=mH Yu.out HO.out (by decide) hgrow1;clear hgrow1 gy hblk kS;have QS:=ay hown1;have Mq:=ay C2;clear hown1 C2;have hc2:=uQ.cell 2;have hf2:=uQ.frozen 2;have hsz1:=uQ.lt;go_region_law (first|(go_simp;refine(FH x _ hxb.1 hxb.2).mono ?_;rintro e w' ⟨rfl,rfl⟩)|(refine step_append_lies _ (by rfl) (.tmp 66) (.tmp 69) _ (by rfl) w.heap.size 40 i1 (.int .u64 0) 1 8 Try.underlying29 hj hy0 hy1 hy2 rfl (by decide) (.slice A2 k c2) k _ (by rfl) (show(World.alloc w1.drew _).ownsRow _ _ _ _ _ _ from(show w1.drew.ownsRow _ _ _ _ _ _ from Mq.out).alloc _) ⟨w1.heap.size,0,none⟩ 1 1 [.int .u64 (pw 4 x.toNat 2147483579)] (by rfl) rfl (cell_one_new _ _ _) (by simp[cA]) (by omega) (by unfold maxLen;omega) (by omega) (by have:=xb.size;simp<;>omega) (w1.heap.size+1) (by simp) ?_;intro g2 cap2 w2 hown2 hgrow2 aT5 uN;have jh:=ij (show fF w1.drew _ _ _ from uQ) (show w1.drew.ownsRow _ _ _ _ _ _ from Mq.out) (by decide) hgrow2;have aT0:=jh.cell 2;have aR8:=jh.frozen 2))
     all_goals
      go_wp2_with fail
      refine⟨Kg hlt (O1.out hxq) NZ.out HX.out QS.out Mq.out uQ LQ xb hown2 hgrow2,?_⟩;simp[intOf];omega
  ·obtain rfl:k=coeffs.length:=by omega
   have hE0:Hid (iY t N coeffs=0):=by
    show iY t N coeffs=0;rw[hE.out,if_neg];rintro (h|h)
    ·exact HNZ.out (by omega) h
    ·rw[HK.out]at h;cases h
   have hnl:=gA.own (k:=.u64) (l:=coeffs.take coeffs.length) (by rw[List.length_take,Nat.min_self];exact HO.out);rw[List.take_length]at hnl;have hnc:=gA.own (k:=.u64) (l:=comms coeffs coeffs.length) (by rw[iu coeffs nle];exact Yu.out);have HNL:=ay hnl;have HNC:=ay hnc;clear hnl hnc;obtain⟨wo,rfl⟩:∃wo:ae,wo=wr:=⟨_,rfl⟩;go_wp2_with fail
   go_loopw [15,16] (fun s i wr=>∃m:Nat,m<=N/\i=.int .i64 ((m:Int)+1)/\wr.ownsRow wo.heap.size 40 1 s m ((jo coeffs m).map (bV .u64))/\Below wo.heap.size wo wr) (fun _ i _=>((N:Int)+1-intOf i).toNat)
   case atStart=>exact⟨0,by omega,rfl,cB _ _ _ _,Below.refl _ _⟩
   case round=>
    obtain⟨m,hm,rfl,hs,kj⟩:=hrel;have HS:=ay hs;clear hs;by_cases hmN:m<N
    ·have hst:=ay (F9 coeffs m);have ay2:=ay (HNL.out.later kj);go_wp2_with (first|(go_at_call 44;refine(F7 _ _ (by omega) (by omega)).mono ?_;rintro e w' ⟨rfl,rfl⟩)|(go_at_call 43;refine(aH1 coeffs _ _ _ ay2.out hl).mono ?_;rintro e w' ⟨rfl,nq,rfl⟩)|(at_builtin;refine wpList_append_own _ rfl (.tmp 78) (.tmp 83) _ rfl wo.heap.size 40 i1 (.int .u64 0) 1 8 Try.underlying29 hj hy0 hy1 hy2 rfl (by decide) _ _ _ rfl ((wz HS.out nq).alloc _) ⟨wr.heap.size,0,none⟩ 1 1 [.int .u64 (jG coeffs ((m:Int)+1))] rfl rfl (cell_one_new _ _ _) (by simp[cA]) (by unfold maxLen;omega) (by omega) (by have:=kj.size;simp<;>omega) ?_;intro v3 w3 C5 xa _))
     have TK:=gV (below_drewN kj nq) (wz HS.out nq) kj.size xa;refine⟨⟨m+1,by omega,by go_num,?_,TK⟩,?_⟩
     ·rw[hst.out,cD];exact C5
     ·simp[intOf];omega
    ·obtain rfl:m=N:=by omega
     have jh:=hblk.below kj hblk.lt;have lF:=kS.below kj kS.lt;have d0:wr.cell? ⟨w.heap.size+1,0,none⟩=some (.int .i64 t):=jh.cell 0;have d1:wr.cell? ⟨w.heap.size+1,1,none⟩=some (.int .i64 (m:Int)):=jh.cell 1;have d2:wr.cell? ⟨w.heap.size+1,2,none⟩=some (.slice A2 coeffs.length c2):=jh.cell 2;have hc0:wr.cell? ⟨w.heap.size,0,none⟩=some (.int .i64 0):=lF.cell 0;have hc1:wr.cell? ⟨w.heap.size,1,none⟩=some (.int .i64 0):=lF.cell 1;have hc2:wr.cell? ⟨w.heap.size,2,none⟩=some (.slice none 0 0):=lF.cell 2;have hf0:=lF.frozen 0;have Qi:=lF.frozen 1;have hf2:=lF.frozen 2;go_wp2_with fail
     refine bodyPost_ret (v:=.tuple #[.agg #[.int .i64 t,.int .i64 (m:Int),.slice A2 coeffs.length c2],u15,.int .i64 0]) (by simp[results,Try.results18,go_sem,World.cell?_setCell_same,bY,hc0,hc1,hc2]) rfl ?_;have hc':wr.ownsRow w.heap.size 40 1 (.slice A2 coeffs.length c2) coeffs.length ((comms coeffs coeffs.length).map (bV .u64)):=iR Yu.out kj nle;exact OD (H0:=hE0.out) hc' HS.out lF (gy.trans (kj.mono gy.size))
def KB(t n:Int)(coeffs:List Int)(w:ae)(i:af)(wr:ae):Prop:=
 ∃k:Nat,∃vc:af,k<=coeffs.length/\i=.int .i64 k/\mQ coeffs k=true/\
  wr.ownsRow w.heap.size 40 1 vc k ((comms coeffs k).map (bV .u64))/\
  fF wr (w.heap.size+1) 31 #[.int .i64 t,.int .i64 n,vc]/\fF wr w.heap.size 31 #[.int .i64 0,.int .i64 0,.slice none 0 0]/\Below w.heap.size w wr
theorem Px{t n:Int}{coeffs:List Int}{w w1 w2:ae}{k:Nat}{x:Int}{vc:af}{A2:Option Addr}{c2 g2 cap2:Nat}{cs:Array af}(hlt:k<coeffs.length)
  (hok:mQ coeffs (k+1)=true)(hx:coeffs.getD k 0=x)
  (h2:w1.ownsRow w.heap.size 40 1 (.slice A2 k c2) k ((comms coeffs k).map (bV .u64)))
  (b1:fF w1 (w.heap.size+1) 31 #[.int .i64 t,.int .i64 n,vc])(b0:fF w1 w.heap.size 31 #[.int .i64 0,.int .i64 0,.slice none 0 0])(hb:Below w.heap.size w w1)
  (h3:w2.ownsRow w.heap.size 40 1 (.slice (some ⟨g2,0,none⟩) (k+1) cap2) (k+1) ((comms coeffs k).map (bV .u64)++[.int .u64 (pw 4 x.toNat 2147483579)]))
  (hg:(w1.drew.alloc (.cells cs 40)).grownBy w2 (Value.slice A2 k c2).ownBlock):
  KB t n coeffs w (.int .i64 ((k:Int)+1)) (w2.setCell ⟨w.heap.size+1,2,none⟩ (.slice (some ⟨g2,0,none⟩) (k+1) cap2)):=by
 have h2':w1.drew.ownsRow w.heap.size 40 1 (.slice A2 k c2) k ((comms coeffs k).map (bV .u64)):=h2;have q2:=ij (show fF w1.drew _ _ _ from b1) h2' (by decide) hg;have g0:=ij (show fF w1.drew _ _ _ from b0) h2' (by decide) hg;have gb:=gV (show Below w.heap.size w w1.drew from hb.drew) h2' hb.size hg;refine⟨k+1,.slice (some ⟨g2,0,none⟩) (k+1) cap2,by omega,by go_num,hok,?_,?_,?_,gb.setCell (by show w.heap.size<=w.heap.size+1;omega) _⟩
 ·have:=kL h3 q2 (by decide) 2 (.slice (some ⟨g2,0,none⟩) (k+1) cap2)
  rw[xk coeffs hlt,cD,hx];exact this
 ·exact q2.iK 2 _
 ·exact g0.far (p:=⟨w.heap.size+1,2,none⟩) (by show w.heap.size≠w.heap.size+1;omega) _
theorem IA(t:Int)(N:Nat)(coeffs:List Int)(v:af)(w:ae)(hv:gA .u64 w w.heap.size v coeffs)(hl:coeffs.length<=65536)
  (hcb:∀i,i<coeffs.length->0<=coeffs.getD i 0/\coeffs.getD i 0<18446744073709551616)(h1:2<=t)(h2:t<=N)(h3:N<=9)(h4:(coeffs.length:Int)=t):
  Calls dS 19 #[.int .i64 t,.int .i64 (N:Int),v] w (oO t N coeffs (oY coeffs N) w):=by
 have hv0:=ay hv;obtain⟨A,c,rfl,hc,hcell⟩:=hv;obtain⟨b,off,rfl,hb,hcells⟩:=hcell (by omega);have hcz:=hcells 0 (by omega);rw[Nat.add_zero]at hcz;have Mr:=ay hcb;have hE:Hid (iY t N coeffs=if coeffs.getD 0 0=0\/mQ coeffs coeffs.length=false then 2 else 0):=by
  show iY t N coeffs=_;unfold iY;rw[if_neg (by omega)]
 have hne:((coeffs.length:Int) != t)=false:=by rw[bne_eq_false_iff_eq];exact h4
 have Qg:¬t<2:=by omega
 have hn2:¬(N:Int)<t:=by omega
 have hn3:¬9<(N:Int):=by omega
 have hlp:2<=coeffs.length:=by omega
 have wE:coeffs.length<=9:=by omega
 have HC:=ay hcells;clear hcell hcells hcb h4;obtain⟨i1,hj,hy0,hy1,hy2⟩:=info_parts ru;obtain⟨bz,hbz⟩:∃bz,(coeffs.getD 0 0==0)=bz:=⟨_,rfl⟩;have HBZ:=ay hbz;generalize VE:coeffs.getD 0 0=x0 at*;have HX0:=ay VE;clear VE;have Ep:=eD w (.cells #[.int .i64 0,.int .i64 0,.slice none 0 0] 31);cases bz;case true=>
  have LX:Hid (iY t N coeffs=2):=by
   show iY t N coeffs=2;rw[hE.out,if_pos (.inl (by have:=HBZ.out;rwa [beq_iff_eq]at this))]
  go_enter Try.func19,Try.ntmps19
  go_wp2_with fail
  refine bodyPost_ret (v:=.tuple #[.agg #[.int .i64 0,.int .i64 0,.slice none 0 0],.slice none 0 0,.int .i64 2]) (by simp[results,Try.results19,go_sem]) rfl ?_;exact⟨Ep,.inl ⟨by rw[LX.out];omega,by rw[LX.out]⟩⟩
 go_enter Try.func19,Try.ntmps19
 go_wp2_with fail
 go_loopw [42] (fun i wr=>KB t N coeffs w i wr) (fun i _=>coeffs.length-(intOf i).toNat)
 case atStart=>
  exact⟨0,.slice none 0 0,by omega,rfl,rfl,cB _ _ _ _,
   by simpa using fF.new (w.alloc (.cells #[.int .i64 0,.int .i64 0,.slice none 0 0] 31)) 31 #[.int .i64 t,.int .i64 (N:Int),.slice none 0 0],
   (fF.new w 31 #[.int .i64 0,.int .i64 0,.slice none 0 0]).alloc _,Ep.alloc (by simp) _⟩
 case round=>
  obtain⟨k,vc,hk,rfl,hok,C4,hblk,kS,gy⟩:=hrel;obtain⟨A2,c2,rfl⟩:=ko C4;have Yu:=ay C4;have HK:=ay hok;clear C4 hok;by_cases hlt:k<coeffs.length
  ·have yt:=(gy.cell (p:=⟨b,off+k,none⟩) hb).trans (HC.out k hlt);have hxb:=Mr.out k hlt;have hc0:wr.cell? ⟨w.heap.size,0,none⟩=some (.int .i64 0):=kS.cell 0;have hc1:wr.cell? ⟨w.heap.size,1,none⟩=some (.int .i64 0):=kS.cell 1;have hc2:wr.cell? ⟨w.heap.size,2,none⟩=some (.slice none 0 0):=kS.cell 2;have hf0:=kS.frozen 0;have Qi:=kS.frozen 1;have hf2:=kS.frozen 2;have hbad:¬coeffs.getD k 0<1073741789->Hid (iY t N coeffs=2):=by
    intro h;show iY t N coeffs=2;rw[hE.out,if_pos (.inr (IU coeffs hlt h))]
   have QU:=ay hbad;have hstep:coeffs.getD k 0<1073741789->mQ coeffs (k+1)=true:=fun h=>ES coeffs HK.out h;have O1:=ay hstep;clear hbad hstep hcz;generalize hX:coeffs.getD k 0=x at*;have HX:=ay hX;clear hX;by_cases hxq:x<1073741789;case neg=>
    have LX:=QU.out hxq;go_wp2_with fail
    refine bodyPost_ret (v:=.tuple #[.agg #[.int .i64 0,.int .i64 0,.slice none 0 0],.slice none 0 0,.int .i64 2]) (by simp[results,Try.results19,go_sem,World.cell?_setCell_same,bY,hc0,hc1,hc2]) rfl ?_;exact⟨by first|exact gy|exact gy.setCell nle _|exact((gy.setCell nle _).setCell nle _).setCell nle _,.inl ⟨by rw[LX.out];omega,by rw[LX.out]⟩⟩
   clear hc0 hc1 hc2 hf0 Qi hf2;go_wp2_with fail
   have hc2:=hblk.cell 2;have hf2:=hblk.frozen 2;have hsz1:=hblk.lt;go_region_law (first|(go_simp;refine(R3 x _ hxb.1 hxb.2).mono ?_;rintro e w' ⟨rfl,rfl⟩)|(refine step_append_lies _ (by rfl) (.tmp 50) (.tmp 53) _ (by rfl) w.heap.size 40 i1 (.int .u64 0) 1 8 Try.underlying29 hj hy0 hy1 hy2 rfl (by decide) (.slice A2 k c2) k _ (by rfl) (show(World.alloc wr.drew _).ownsRow _ _ _ _ _ _ from(show wr.drew.ownsRow _ _ _ _ _ _ from Yu.out).alloc _) ⟨wr.heap.size,0,none⟩ 1 1 [.int .u64 (pw 4 x.toNat 2147483579)] (by rfl) rfl (cell_one_new _ _ _) (by simp[cA]) (by omega) (by unfold maxLen;omega) (by omega) (by have:=gy.size;simp<;>omega) (wr.heap.size+1) (by simp) ?_;intro g2 cap2 w2 hown2 hgrow2 aT5 uN;have jh:=ij (show fF wr.drew _ _ _ from hblk) (show wr.drew.ownsRow _ _ _ _ _ _ from Yu.out) (by decide) hgrow2;have aT0:=jh.cell 2;have aR8:=jh.frozen 2))
   all_goals
    go_wp2_with fail
    refine⟨Px hlt (O1.out hxq) HX.out Yu.out hblk kS gy hown2 hgrow2,?_⟩;simp[intOf];omega
  ·obtain rfl:k=coeffs.length:=by omega
   have hE0:Hid (iY t N coeffs=0):=by
    show iY t N coeffs=0;rw[hE.out,if_neg];rintro (h|h)
    ·have:=HBZ.out
     rw[beq_eq_false_iff_ne]at this;exact this h
    ·rw[HK.out]at h;cases h
   have hcs:=ay (fun i hi=>(⟨(Mr.out i hi).1,Gl coeffs hi HK.out⟩:0<=coeffs.getD i 0/\coeffs.getD i 0<1073741789));obtain⟨wo,rfl⟩:∃wo:ae,wo=wr:=⟨_,rfl⟩;have HNL:=ay (hv0.out.later gy);clear hcz;go_wp2_with fail
   go_loopw [12,13] (fun s i wr=>∃m:Nat,m<=N/\i=.int .i64 ((m:Int)+1)/\wr.ownsRow wo.heap.size 40 1 s m ((oY coeffs m).map (bV .u64))/\Below wo.heap.size wo wr) (fun _ i _=>((N:Int)+1-intOf i).toNat)
   case atStart=>exact⟨0,by omega,rfl,cB _ _ _ _,Below.refl _ _⟩
   case round=>
    obtain⟨m,hm,rfl,hs,kj⟩:=hrel;have HS:=ay hs;clear hs;by_cases hmN:m<N
    ·have hst:=ay (F8 coeffs m);have ay2:=ay (HNL.out.later kj);go_wp2_with (first|(go_at_call 46;refine(RZ coeffs _ _ _ ay2.out hl (by omega) (by omega) hcs.out).mono ?_;rintro e w' ⟨rfl,rfl⟩)|(at_builtin;refine wpList_append_own _ rfl (.tmp 62) (.tmp 67) _ rfl wo.heap.size 40 i1 (.int .u64 0) 1 8 Try.underlying29 hj hy0 hy1 hy2 rfl (by decide) _ _ _ rfl (HS.out.alloc _) ⟨wr.heap.size,0,none⟩ 1 1 [.int .u64 (Ge coeffs ((m:Int)+1) coeffs.length)] rfl rfl (cell_one_new _ _ _) (by simp[cA]) (by unfold maxLen;omega) (by omega) (by have:=kj.size;simp<;>omega) ?_;intro v3 w3 C5 xa _))
     have TK:=gV kj HS.out kj.size xa;refine⟨⟨m+1,by omega,by go_num,?_,TK⟩,?_⟩
     ·rw[hst.out,cD];exact C5
     ·simp[intOf];omega
    ·obtain rfl:m=N:=by omega
     have jh:=hblk.below kj hblk.lt;have lF:=kS.below kj kS.lt;have d0:wr.cell? ⟨w.heap.size+1,0,none⟩=some (.int .i64 t):=jh.cell 0;have d1:wr.cell? ⟨w.heap.size+1,1,none⟩=some (.int .i64 (m:Int)):=jh.cell 1;have d2:wr.cell? ⟨w.heap.size+1,2,none⟩=some (.slice A2 coeffs.length c2):=jh.cell 2;have hc0:wr.cell? ⟨w.heap.size,0,none⟩=some (.int .i64 0):=lF.cell 0;have hc1:wr.cell? ⟨w.heap.size,1,none⟩=some (.int .i64 0):=lF.cell 1;have hc2:wr.cell? ⟨w.heap.size,2,none⟩=some (.slice none 0 0):=lF.cell 2;have hf0:=lF.frozen 0;have Qi:=lF.frozen 1;have hf2:=lF.frozen 2;go_wp2_with fail
     refine bodyPost_ret (v:=.tuple #[.agg #[.int .i64 t,.int .i64 (m:Int),.slice A2 coeffs.length c2],u12,.int .i64 0]) (by simp[results,Try.results19,go_sem,World.cell?_setCell_same,bY,hc0,hc1,hc2]) rfl ?_;have hc':wr.ownsRow w.heap.size 40 1 (.slice A2 coeffs.length c2) coeffs.length ((comms coeffs coeffs.length).map (bV .u64)):=iR Yu.out kj nle;exact OD (H0:=hE0.out) hc' HS.out lF (gy.trans (kj.mono gy.size))
end Dea
namespace Yp
open Go.RowKit Go.Conc Pl Mem
section
variable{H:Type}{enc:aj×af->H}
end
def a06(k:IntKind)(w:ae)(a:Option Addr)(len cap:Nat)(zs:List Int):Prop:=
 (a=none/\len=0/\cap=0/\zs=[])\/
 ∃x,a=some x/\len<=cap/\cap<=maxLen/\zs.length=cap/\(∀i,i<zs.length->w.cell? (x.add i)=some (.int k (zs.getD i 0)))/\∀n∈zs,(Lit.int k n).wf=true
theorem jV{k:IntKind}{w:ae}{B:Nat}{v:af}{l:List Int}(h:gA k w B v l):∃A c,v=.slice A l.length c:=by
 obtain⟨A,c,rfl,_⟩:=h;exact⟨A,c,rfl⟩
theorem wf_u64{n:Int}(h:(Lit.int .u64 n).wf=true):0<=n/\n<18446744073709551616:=by
 have:=bounds_u64 h;omega
theorem wf_i64{n:Int}(h:(Lit.int .i64 n).wf=true): -9223372036854775808<=n/\n<=9223372036854775807:=bounds_i64 h
theorem XO{k:IntKind}{l:List Int}(h:∀n∈l,(Lit.int k n).wf=true){i:Nat}(hi:i<l.length):(Lit.int k (l.getD i 0)).wf=true:=by
 rw[aC,aN hi];exact h _ (List.getElem_mem hi)
end Yp
namespace Vh
open Go.RowKit Pl ni nU Mem Yp nO Dea
theorem EM(l:List Int)(u v:af)(w:ae)(hu:gA .u64 w w.heap.size u l)(hv:gA .u64 w w.heap.size v l)(hl:l.length<=65536):
  Calls dS 20 #[u,v] w fun e w'=>e=.returned (.bool true)/\Below w.heap.size w w':=by
 obtain⟨A,c,rfl,hc,hcell⟩:=hu;obtain⟨A2,c2,rfl,hc2,TH⟩:=hv;have HC:=ay hcell;have HC2:=ay TH;have hne:((l.length:Int) != (l.length:Int))=false:=by rw[bne_eq_false_iff_eq]
 clear hcell TH;go_enter Try.func20,Try.ntmps20
 go_wp2_with fail
 go_loopw [13] (fun i wr=>∃k m:Nat,k<=l.length/\i=.int .i64 k/\wr=w.drewN m) (fun i _=>l.length-(intOf i).toNat)
 case atStart=>exact⟨0,0,by omega,rfl,rfl⟩
 case round=>
  obtain⟨k,m,hk,rfl,rfl⟩:=hrel;by_cases hlt:k<l.length
  ·obtain⟨b,off,rfl,hb,hcells⟩:=HC.out (by omega);obtain⟨b2,Lr,rfl,hb2,Og⟩:=HC2.out (by omega);have yt:=hcells k hlt;have bW8:=Og k hlt;have hxx:(l.getD k 0 != l.getD k 0)=false:=by rw[bne_eq_false_iff_eq]
   clear hcells Og;generalize l.getD k 0=x at*;go_wp2_with fail
   go_quiet (fail)
   go_wp2_with fail
   refine⟨⟨k+1,_,by omega,by go_num,rfl⟩,?_⟩;simp[intOf];omega
  ·obtain rfl:k=l.length:=by omega
   go_wp2_with fail
   go_ret
   exact⟨rfl,below_drewN bre m⟩
theorem ZX(t n:Int)(coeffs:List Int)(v:af)(w:ae)(hv:gA .u64 w w.heap.size v coeffs)(hl:coeffs.length<=65536)
  (hcb:∀i,i<coeffs.length->0<=coeffs.getD i 0/\coeffs.getD i 0<18446744073709551616):
  Calls dS 18 #[.int .i64 t,.int .i64 n,v] w (oO t n coeffs (jo coeffs n.toNat) w):=by
 by_cases h:t<2\/n<t\/9<n\/(coeffs.length:Int)≠t
 ·exact XY t n coeffs _ v w hv hl h
 ·obtain⟨N,rfl⟩:=cw (show 0<=n by omega);exact UB t N coeffs v w hv hl hcb (by omega) (by omega) (by omega) (by omega)
theorem IB(t n:Int)(coeffs:List Int)(v:af)(w:ae)(hv:gA .u64 w w.heap.size v coeffs)(hl:coeffs.length<=65536)
  (hcb:∀i,i<coeffs.length->0<=coeffs.getD i 0/\coeffs.getD i 0<18446744073709551616):
  Calls dS 19 #[.int .i64 t,.int .i64 n,v] w (oO t n coeffs (oY coeffs n.toNat) w):=by
 by_cases h:t<2\/n<t\/9<n\/(coeffs.length:Int)≠t
 ·exact Lb t n coeffs _ v w hv hl h
 ·obtain⟨N,rfl⟩:=cw (show 0<=n by omega);exact IA t N coeffs v w hv hl hcb (by omega) (by omega) (by omega) (by omega)
end Vh
namespace Dlt
open Go.RowKit Pl ni OZ nU Mem yL nO Dea xA
theorem CW:(Try.prog.info? 3).map (fun i=>(i.zero,i.size,i.bytes))=some (some (.int .i64 0),1,8):=by kernel_rfl
theorem Ct{k:IntKind}{w w':ae}{B:Nat}{v:af}{l:List Int}{g:Nat}{T:aj}{cs:Array af}(h:gA k w B v l)(hb:fF w g T cs)(hcs:∀(i:Nat) (x:Int),cs[i]?≠some (.int k x))
  (hw:∀b,b≠g->w'.heap[b]?=w.heap[b]?):gA k w' B v l:=by
 obtain⟨A,c,rfl,hc,h⟩:=h;refine⟨A,c,rfl,hc,fun hl=>?_⟩;obtain⟨b,off,rfl,hB,h⟩:=h hl;refine⟨b,off,rfl,hB,fun i hi=>?_⟩;have hne:b≠g:=by
  rintro rfl;have h1:=h i hi;rw[hb.cell]at h1;exact hcs _ _ h1
 exact(World.cell?_of_block (hw b hne)).trans (h i hi)
theorem Im(w:ae)(g:Nat)(x y z:af)(b:Nat)(h:b≠g):(((w.setCell ⟨g,0,none⟩ x).setCell ⟨g,1,none⟩ y).setCell ⟨g,2,none⟩ z).heap[b]?=w.heap[b]?:=
 ((Below.heap_setCell _ ⟨g,2,none⟩ z b h).trans (Below.heap_setCell _ ⟨g,1,none⟩ y b h)).trans (Below.heap_setCell _ ⟨g,0,none⟩ x b h)
theorem zQ(a:List Nat)(x:Nat):ints (a++[x])=ints a++[(x:Int)]:=by simp[ints]
theorem Sv{t n:Int}{A:Option Addr}{l c:Nat}:∀(i:Nat) (x:Int),(#[.int .i64 t,.int .i64 n,.slice A l c]:Array af)[i]?≠some (.int .u64 x):=by
 intro i x;match i with
 |0=>simp
 |1=>simp
 |2=>simp
 |i+3=>simp
theorem UA(t n seed mask:Int)(w:ae)(ht: -9223372036854775808<=t/\t<=9223372036854775807)(hn: -9223372036854775808<=n/\n<=9223372036854775807)(hs:0<=seed/\seed<18446744073709551616):
  Calls dS 24 #[.int .i64 t,.int .i64 n,.int .u64 seed,.int .i64 mask] w fun e w'=>
   ∃vc vs vi,e=.returned (.tuple #[.agg #[.int .i64 (gS t n),.int .i64 (kv n),vc],vs,vi,.bool true])/\
    gA .u64 w' w'.heap.size vc (comms (kG seed (gS t n)) (kG seed (gS t n)).length)/\gA .u64 w' w'.heap.size vs (jo (kG seed (gS t n)) (kv n))/\gA .i64 w' w'.heap.size vi (ints (ids mask (gS t n) (kv n)))/\Below w.heap.size w w':=by
 have hN:=y8 n;have hT:=BV t n;have hp1:=fun W=>Jv n 8 W hn.1 hn.2 (by omega);have hp2:=fun W=>Jv t ((kv n:Int)-1) W ht.1 ht.2 (by omega);have hE:=ay (Ki (t:=t) (n:=n) seed);have hcb:=ay (zz seed (gS t n));have hlen:=iW seed (gS t n);generalize kv n=N at*;generalize gS t n=T at*;generalize pj n 8=x1 at*;generalize pj t ((N:Int)-1)=x2 at*;obtain⟨hN1,hN2,hN3⟩:=hN;obtain⟨hT1,hT2,hT3⟩:=hT;have e1:2+x1=(N:Int):=hN3.symm;have e2:2+x2=(T:Int):=hT3.symm;have HP1:=ay hp1;have HP2:=ay hp2;have HLEN:=ay hlen;obtain⟨hs0,hs1⟩:=hs;obtain⟨i1,hj,hy0,hy1,hy2⟩:=info_parts ru;clear hp1 hp2 ht hn hlen hN3 hT3;go_enter Try.func24,Try.ntmps24
 go_wp2_with fail
 refine(HP1.out _).mono ?_;rintro e w' ⟨rfl,rfl⟩;go_wp2_with fail
 refine(HP2.out _).mono ?_;rintro e w' ⟨rfl,rfl⟩;go_wp2_with fail
 go_loopw [12,28] (fun v i wr=>∃k:Nat,k<=T/\i=.int .i64 k/\wr.ownsRow w.heap.size 40 1 v k ((kG seed k).map (bV .u64))/\fF wr w.heap.size 31 #[.int .i64 0,.int .i64 0,.slice none 0 0]/\Below w.heap.size w wr) (fun _ i _=>T-(intOf i).toNat)
 case atStart=>exact⟨0,by omega,rfl,cB _ _ _ _,fF.new _ _ _,eD _ _⟩
 case round=>
  obtain⟨k,hk,rfl,hown,hblk,gy⟩:=hrel;have HO:=ay hown;clear hown;by_cases hlt:k<T
  ·have hkk:(k:Int)*(k:Int)<=9*9:=Int.mul_le_mul (show(k:Int)<=9 by omega) (show(k:Int)<=9 by omega) (show(0:Int)<=(k:Int) by omega) (by decide);have Ob:0<=(k:Int)*(k:Int):=dL (by omega) (by omega);have hst:=ay (UJ seed k);have JN:Hid (cf seed k=l8 (IntKind.u64.wrap (IntKind.u64.wrap (seed*(2*(k:Int)+1))+(k:Int)*(k:Int)))):=by
    show cf seed k=_;rfl
   have hnn:=lC (IntKind.u64.wrap (seed*(2*(k:Int)+1))+(k:Int)*(k:Int));go_wp2_with (first|(go_at_call 36;refine(CQ _ _ hnn).mono ?_;rintro e w' ⟨rfl,rfl⟩)|(at_builtin;rw[<-JN.out];refine wpList_append_own _ rfl (.tmp 31) (.tmp 44) _ rfl w.heap.size 40 i1 (.int .u64 0) 1 8 Try.underlying29 hj hy0 hy1 hy2 rfl (by decide) _ _ _ rfl (HO.out.alloc _) ⟨wr.heap.size,0,none⟩ 1 1 [.int .u64 (cf seed k)] rfl rfl (cell_one_new _ _ _) (by simp[cA]) (by unfold maxLen;omega) (by omega) (by have:=gy.size;simp<;>omega) ?_;intro v1 w1 hown1 hgrow1 _))
   refine⟨⟨k+1,by omega,by go_num,by rw[hst.out,cD];exact hown1,ij hblk HO.out (by decide) hgrow1,gV gy HO.out gy.size hgrow1⟩,by simp[intOf];omega⟩
  ·obtain rfl:k=T:=by omega
   have hv:=gA.own (l:=kG seed k) (by rw[HLEN.out];exact HO.out);have hdl:=Vh.ZX k N (kG seed k) u12 wr hv (by rw[HLEN.out];omega) (fun i hi=>by have:=hcb.out i hi;omega);have HDL:=ay hdl;clear hv hdl;go_wp2_with fail
   refine HDL.out.mono ?_;rintro e w2 ⟨hb2,⟨hne,rfl⟩|⟨h0,vc,vs,rfl,hc,hsn⟩⟩
   ·exact absurd hE.out hne
   have jh:=hblk.below hb2 hblk.lt;have lT:=gy.trans (hb2.mono gy.size);rw[Int.toNat_natCast]at hsn;obtain⟨A1,c1,rfl⟩:=Yp.jV hc;obtain⟨A2,c2,rfl⟩:=Yp.jV hsn;have l1:(comms (kG seed k) (kG seed k).length).length=k:=by rw[iu _ nle,HLEN.out]
   have l2:(jo (kG seed k) N).length=N:=oh _ _;rw[l1,l2];have HC:=ay hc;have HS:=ay hsn;have Yv:=ay jh;have HW2:=ay lT;have n1:((N:Int) != (N:Int))=false:=by rw[bne_eq_false_iff_eq]
   have n2:((k:Int) != (k:Int))=false:=by rw[bne_eq_false_iff_eq]
   have n3:((0:Int) != 0)=false:=rfl;clear hc hsn jh lT hblk gy hb2 HO HDL;obtain⟨i0,hi,hz0,hz1,hz2⟩:=info_parts CW;have hlv:(comms (kG seed k) (kG seed k).length).length=k:=l1;rw[l1]at HC;rw[l2]at HS;go_wp2_with fail
   go_loopw [17,18] (fun v i wr=>∃j:Nat,j<=N/\i=.int .i64 ((j:Int)+1)/\wr.ownsRow w2.heap.size 3 1 v (iN mask k N j).length ((ints (iN mask k N j)).map (bV .i64))/\
    fF wr w2.heap.size 31 #[.int .i64 k,.int .i64 N,.slice A1 k c1]/\Below w2.heap.size w2 wr) (fun _ i _=>((N:Int)+1-intOf i).toNat)
   case atStart=>exact⟨0,by omega,rfl,cB _ _ _ _,fF.new _ _ _,eD _ _⟩
   case round=>
    obtain⟨j,hj',rfl,hown,hblk,kj⟩:=hrel;have HO:=ay hown;obtain⟨A3,c3,rfl⟩:=ko hown;have hll:=JA mask k N j;have hst:Hid (iN mask k N (j+1)=if Dx mask (j+1)||decide ((iN mask k N j).length+N<k+(j+1))then iN mask k N j++[j+1]else iN mask k N j):=by
     show iN mask k N (j+1)=_;rfl
    have XF:Hid (Dx mask (j+1)=(bits BinOp.and IntKind.i64 (mask/2^(j+1)) 1==1)):=by
     show Dx mask (j+1)=_;rfl
    clear hown;by_cases hjN:j<N
    ·have q1:(j:Int)+1<=(N:Int):=by omega
     have q2:((j:Int)+1).toNat=j+1:=by omega
     have q3:(0:Int)<=(j:Int)+1:=by omega
     obtain⟨bb,hbb⟩:∃bb,(bits BinOp.and IntKind.i64 (mask/2^(j+1)) 1==1)=bb:=⟨_,rfl⟩;have aT4:Hid (Dx mask (j+1)=bb):=by
      show Dx mask (j+1)=bb;rw[XF.out,hbb]
     have aT6:bb=true\/(iN mask k N j).length+N<k+(j+1)->Hid (iN mask k N (j+1)=iN mask k N j++[j+1]):=fun h=>by
      show iN mask k N (j+1)=_;rw[hst.out,aT4.out,if_pos];rw[Bool.or_eq_true,decide_eq_true_iff];exact h
     have a41:=ay aT6;have hsame:bb=false->¬(iN mask k N j).length+N<k+(j+1)->Hid (iN mask k N (j+1)=iN mask k N j):=fun h1 h2=>by
      show iN mask k N (j+1)=_;rw[hst.out,aT4.out,if_neg];rw[Bool.or_eq_true,decide_eq_true_iff,h1];rintro (h|h)
      ·cases h
      ·exact h2 h
     have a12:=ay hsame;clear aT6 hsame;cases bb;case true=>
      have hap:=a41.out (.inl rfl);go_wp2_with (at_builtin;refine wpList_append_own _ rfl (.tmp 92) (.tmp 94) _ rfl w2.heap.size 3 i0 (.int .i64 0) 1 8 Try.underlying41 hi hz0 hz1 hz2 rfl (by decide) _ _ _ rfl (HO.out.alloc _) ⟨wr.heap.size,0,none⟩ 1 1 [.int .i64 ((j:Int)+1)] rfl rfl (cell_one_new _ _ _) (by simp[cA]) (by unfold maxLen;omega) (by omega) (by have:=kj.size;simp<;>omega) ?_;intro v1 w1 hown1 hgrow1 _)
      refine⟨⟨j+1,by omega,by go_num,?_,ij hblk HO.out (by decide) hgrow1,gV kj HO.out kj.size hgrow1⟩,by simp[intOf];omega⟩;rw[hap.out,dG,zQ,cD];exact hown1
     case false=>
      by_cases hle:(iN mask k N j).length+N<k+(j+1)
      ·have hap:=a41.out (.inr hle);go_wp2_with (at_builtin;refine wpList_append_own _ rfl (.tmp 92) (.tmp 94) _ rfl w2.heap.size 3 i0 (.int .i64 0) 1 8 Try.underlying41 hi hz0 hz1 hz2 rfl (by decide) _ _ _ rfl (HO.out.alloc _) ⟨wr.heap.size,0,none⟩ 1 1 [.int .i64 ((j:Int)+1)] rfl rfl (cell_one_new _ _ _) (by simp[cA]) (by unfold maxLen;omega) (by omega) (by have:=kj.size;simp<;>omega) ?_;intro v1 w1 hown1 hgrow1 _)
       refine⟨⟨j+1,by omega,by go_num,?_,ij hblk HO.out (by decide) hgrow1,gV kj HO.out kj.size hgrow1⟩,by simp[intOf];omega⟩;rw[hap.out,dG,zQ,cD];exact hown1
      ·have hsm:=a12.out rfl hle;go_wp2_with fail
       refine⟨⟨j+1,by omega,by go_num,by rw[hsm.out];exact HO.out,hblk,kj⟩,by simp[intOf];omega⟩
    ·obtain rfl:j=N:=by omega
     have jh:=Yv.out.below kj Yv.out.lt;have c0:wr.cell? ⟨w2.heap.size,0,none⟩=some (.int .i64 k):=hblk.cell 0;have c1':wr.cell? ⟨w2.heap.size,1,none⟩=some (.int .i64 j):=hblk.cell 1;have c2':wr.cell? ⟨w2.heap.size,2,none⟩=some (.slice A1 k c1):=hblk.cell 2;have d0:wr.cell? ⟨w.heap.size,0,none⟩=some (.int .i64 0):=jh.cell 0;have d1:wr.cell? ⟨w.heap.size,1,none⟩=some (.int .i64 0):=jh.cell 1;have d2:wr.cell? ⟨w.heap.size,2,none⟩=some (.slice none 0 0):=jh.cell 2;have f0:=jh.frozen 0;have f1:=jh.frozen 1;have f2:=jh.frozen 2;have hbf:=HW2.out.trans (kj.mono HW2.out.size);have HBF:=ay hbf;have hq:=ay (HC.out.later kj);have hq2:=ay (HS.out.later kj);have hq3:=ay (gA.own (l:=ints (iN mask k j j)) (by rw[pF];exact HO.out));have Zm:=pF (iN mask k j j);have HL3:=ay Zm;clear hbf Zm;go_wp2_with fail
     refine bodyPost_ret (v:=.tuple #[.agg #[.int .i64 k,.int .i64 j,.slice A1 k c1],.slice A2 j c2,.slice A3 (iN mask k j j).length c3,.bool true]) (by simp[results,Try.results24,go_sem,World.cell?_setCell_same,bY,d0,d1,d2]) rfl ?_;refine⟨_,_,_,rfl,?_,?_,?_,((HBF.out.setCell nle _).setCell nle _).setCell nle _⟩
     ·exact Ct (by simpa using hq.out) jh Sv (Im _ _ _ _ _)
     ·exact Ct (by simpa using hq2.out) jh Sv (Im _ _ _ _ _)
     ·have o3:=kL (kL (kL HO.out jh (by decide) 0 (.int .i64 k)) (jh.iK 0 (.int .i64 k)) (by decide) 1 (.int .i64 j)) ((jh.iK 0 (.int .i64 k)).iK 1 (.int .i64 j)) (by decide) 2 (.slice A1 k c1);exact gA.own (by rw[show(ints (ids mask k j)).length=(iN mask k j j).length from HL3.out];exact o3)
end Dlt
namespace Sgd
open Go.RowKit Pl ni oa ng Hv Ht OZ OX nU Mem yL nO xA Dlt O0 Bla
open tP (Only jI qN vM wU Hg GY N3)
theorem Xj:(Try.prog.info? 52).map (fun i=>(i.zero,i.size,i.bytes))=some (some (.agg #[.int .i64 0,.int .u64 0,.int .u64 0]),3,24):=by kernel_rfl
theorem ru:(Try.prog.info? 40).map (fun i=>(i.zero,i.size,i.bytes))=some (some (.int .u64 0),1,8):=by kernel_rfl
theorem Tb:(Try.prog.info? 90).map (fun i=>(i.zero,i.size,i.bytes))=some (some (.pointer none),1,8):=by kernel_rfl
theorem AH{k:IntKind}{w:ae}{B:Nat}{A:Option Addr}{n c:Nat}{l:List Int}(h:gA k w B (.slice A n c) l)(hp:0<l.length):
  ∃b off,A=some ⟨b,off,none⟩/\b<B/\∀i,i<l.length->w.cell? ⟨b,off+i,none⟩=some (.int k (l.getD i 0)):=by
 obtain⟨A',c',hv,_,h⟩:=h;obtain⟨b,off,hA,r⟩:=h hp;have:A=A':=by injection hv
 exact⟨b,off,this.trans hA,r⟩
theorem bh1{t n:Int}{cs:List Int}{v:af}{id share:Int}(w:ae)(hv:gA .u64 w w.heap.size v cs)(hl:cs.length<=65536)(hcb:∀i,i<cs.length->0<=cs.getD i 0)(hs:0<=share/\share<18446744073709551616)(h0:newE t n cs id share=0):
  Calls dS 51 #[.agg #[.int .i64 t,.int .i64 n,v],.int .i64 id,.int .u64 share] w fun e w'=>
   ∃a:tP.Loc,e=.returned (.tuple #[.pointer (some ⟨a.S,0,none⟩),.int .i64 0])/\jI w' a ⟨t,n,cs,id,share,[]⟩/\(∀k∈a.foot,w.heap.size<=k)/\Below w.heap.size w w':=
 (wU t n cs v id share w hv hl hcb hs).mono fun e w' ⟨hb,h⟩=>by
  rcases h with⟨h1,_⟩|⟨_,a,h1,h2,h3⟩
  ·exact absurd h0 h1
  ·exact⟨a,h1,h2,h3,hb⟩
theorem bf8(x:Int)(hx:0<=x/\x<18446744073709551616)(w:ae):Calls dS 37 #[.int .u64 x] w fun e w'=>e=.returned (.int .u64 (pw 4 x.toNat 2147483579))/\w=w':=by
 have:=Qa x.toNat w (by omega)
 rw[Int.toNat_of_nonneg hx.1]at this;exact this
theorem signedC(t n:Nat)(cf:List Int)(is:List Nat)(dX:Int)(msg:ByteArray)(w:ae)(vc vs vi:af)(hg:fW t n (comms cf cf.length)=true)(JN:∀i,i<cf.length->0<=cf.getD i 0/\cf.getD i 0<1073741789)(hcl:cf.length=t)(kZ:Hc t n is)(hN:0<=dX/\dX<18446744073709551616)(rH:msg.size<=1000000)
  (hc:gA .u64 w w.heap.size vc (comms cf cf.length))(hs:gA .u64 w w.heap.size vs (jo cf n))(hi:gA .i64 w w.heap.size vi (ints is)):
  Calls dS 25 #[.agg #[.int .i64 t,.int .i64 n,vc],vs,vi,.int .u64 dX,.string msg] w fun e w'=>Below w.heap.size w w'/\
   ((gI (fA dX is) ((comms cf cf.length).getD 0 0) msg=1/\e=.returned (.tuple #[.slice none 0 0,.slice none 0 0,.bool true,.bool true]))\/
    (gI (fA dX is) ((comms cf cf.length).getD 0 0) msg≠1/\∃vC vZ,e=.returned (.tuple #[vC,vZ,.bool false,.bool true])/\w'.ownsRow w.heap.size 52 3 vC is.length (eO (fA dX is))/\w'.ownsRow w.heap.size 40 1 vZ is.length ((bq is.length).map fun k=>.int .u64 (shr cf dX is msg k))/\vZ.ownBlock≠vC.ownBlock)):=by
 have hn9:=kZ.n9;have tO:=kZ.few;have bB2:=kZ.many;have Zt:(comms cf cf.length).length=t:=by rw[iu _ nle,hcl]
 have aN7:=oh cf n;have aQ8:(ints is).length=is.length:=by simp[ints]
 have aS7:∀i,i<(comms cf cf.length).length->0<=(comms cf cf.length).getD i 0:=fun i hi=>by
  rw[Zt]at hi;rw[rA _ (by omega)];exact(nL 4 _ (by omega)).1
 have KO:=jZ hg;have Tw:0<is.length:=by have:=kZ.many;omega
 have hnew:∀k,k<is.length->newE t n (comms cf cf.length) (is.getD k 0) (jG cf (is.getD k 0))=0:=fun k hk=>by
  have h1:=kZ.at_ hk;have c1:=QD hg JN (id:=(is.getD k 0:Nat)) (by omega) (by omega) (by omega);exact Nh c1.1 c1.2
 have hok:∀k,k<is.length->Ok (DZ t n cf dX is k):=fun k hk=>by
  have h1:=kZ.at_ hk;have p:=rQ cf (is.getD k 0);have b1:=z6 (dX:=dX) (is.getD k 0);have b2:=zY (dX:=dX) (is.getD k 0);exact⟨hg,by show(1:Int)<=((is.getD k 0:Nat):Int);omega,by show((is.getD k 0:Nat):Int)<=(n:Int);omega,p.1,p.2,by simp[DZ],fun q hq=>by rw[List.mem_singleton.1 hq];exact⟨b1,b2⟩,List.pairwise_singleton _ _⟩
 have hok0:∀k,k<is.length->Ok ⟨t,n,comms cf cf.length,is.getD k 0,jG cf (is.getD k 0),[]⟩:=fun k hk=>by
  have h1:=kZ.at_ hk;have p:=rQ cf (is.getD k 0);exact⟨hg,by show(1:Int)<=((is.getD k 0:Nat):Int);omega,by show((is.getD k 0:Nat):Int)<=(n:Int);omega,p.1,p.2,by simp,fun q hq=>absurd hq bB,List.Pairwise.nil⟩
 obtain⟨A1,k1,rfl⟩:=Yp.jV hc;obtain⟨A2,k2,rfl⟩:=Yp.jV hs;obtain⟨A3,k3,rfl⟩:=Yp.jV hi;obtain⟨bs,os,rfl,hbs,hcs⟩:=AH hs (by omega);obtain⟨bi,oi,rfl,Zw,hci⟩:=AH hi (by omega);rw[Zt]at hc ⊢;rw[aN7]at hcs ⊢;rw[aQ8]at hci ⊢;have HC:=ay hc;have bt8:=ay hnew;have QQ:=ay hok;have a16:=ay hok0;have HCN:=ay aS7;have HCS:=ay hcs;have HCI:=ay hci;have EB:=ay kZ;clear hc hs hi hnew hok hok0 aS7 hcs hci hg JN kZ KO;obtain⟨hN0,hN1⟩:=hN;go_enter Try.func25,Try.ntmps25
 go_wp2_with fail
 go_loopw [10,11,14,30] (fun v2 v3 v1 i wr=>∃(j:Nat) (L:List tP.Loc) (V1 V2:af),V1=v1/\V2=v2/\Value.slice none 0 0=v3/\j<=is.length/\i=.int .i64 j/\L.length=j/\SW w w.heap.size #[.int .i64 t,.int .i64 n,.slice A1 t k1] wr L (DZ t n cf dX is) j v1 v2 j (fA dX (is.take j))) (fun _ _ _ i _=>is.length-(intOf i).toNat)
 case atStart=>exact⟨0,[],_,_,rfl,rfl,rfl,by omega,rfl,rfl,⟨cB _ _ _ _,cB _ _ _ _,fF.new _ _ _,eD _ _,fun k a h=>by simp at h,fun a h=>by simp at h,fun i j a b h=>by simp at h⟩⟩
 case round=>
  obtain⟨j,L,V1,V2,rfl,rfl,rfl,hj,rfl,hL,hsw⟩:=hrel;have QP:=ay hsw;clear hsw;by_cases hlt:j<is.length
  ·have hid:=EB.out.at_ hlt;have hcI:wr.cell? ⟨bi,oi+j,none⟩=some (.int .i64 (is.getD j 0:Nat)):=by
    have h1:=HCI.out j hlt;have e:(ints is).getD j 0=((is.getD j 0:Nat):Int):=by simp[ints,aC,hlt]
    rw[e]at h1;exact(QP.out.bw.cell (p:=⟨bi,oi+j,none⟩) Zw).trans h1
   have hcS:wr.cell? ⟨bs,os+(is.getD j 0-1),none⟩=some (.int .u64 (jG cf (is.getD j 0))):=by
    have h1:=HCS.out (is.getD j 0-1) (by omega);rw[K5 _ (by omega)]at h1;have e:(((is.getD j 0-1:Nat):Int)+1)=((is.getD j 0:Nat):Int):=by omega
    rw[e]at h1;exact(QP.out.bw.cell (p:=⟨bs,os+(is.getD j 0-1),none⟩) hbs).trans h1
   have hp:=rQ cf (is.getD j 0);have hnw:=bt8.out j hlt;have ho0:=a16.out j hlt;have Zu:cmt dX (is.getD j 0)=iV ((is.getD j 0:Nat):Int) (dN dX (is.getD j 0),fN dX (is.getD j 0)):=rfl;have hst:DZ t n cf dX is j=⟨t,n,comms cf cf.length,is.getD j 0,jG cf (is.getD j 0),[(dN dX (is.getD j 0),fN dX (is.getD j 0))]⟩:=rfl;have htk:fA dX (is.take (j+1))=fA dX (is.take j)++[cmt dX (is.getD j 0)]:=by
    unfold fA;rw[List.take_add_one,cD];simp[aC,hlt]
   have hbd:=z6 (dX:=dX) (is.getD j 0);have hbf:=zY (dX:=dX) (is.getD j 0);have hdd:dN dX (is.getD j 0)=l8 (IntKind.u64.wrap (IntKind.u64.wrap (dX*((is.getD j 0:Nat):Int))+1)):=rfl;have hff:fN dX (is.getD j 0)=l8 (IntKind.u64.wrap (dX+((is.getD j 0:Nat):Int)*7919)):=rfl;generalize hID:is.getD j 0=ID at*;generalize jG cf (ID:Int)=SH at*;obtain⟨ap4,ap3⟩:=hid;have gl:=QP.out.gb.lt;have g0:wr.cell? ⟨w.heap.size,0,none⟩=some (.int .i64 t):=QP.out.gb.cell 0;have g1:wr.cell? ⟨w.heap.size,1,none⟩=some (.int .i64 n):=QP.out.gb.cell 1;have g2:wr.cell? ⟨w.heap.size,2,none⟩=some (.slice A1 t k1):=QP.out.gb.cell 2;have aP6:=HC.out.later QP.out.bw.drew;have aT1:bs<wr.heap.size:=bU hbs QP.out.bw.size;have HND:=ay aP6;have HO0:=ay ho0;have HCJ:=ay Zu;have HST:=ay hst;have HTK:=ay htk;have HNW:=ay hnw;have HDD:=ay hdd;have HFF:=ay hff;have t2:((ID:Int)-1).toNat=ID-1:=by omega
   have hb1:(0:Int)<=(ID:Int)-1:=by omega
   have hb2:(ID:Int)-1<(n:Int):=by omega
   have hb3:0<ID:=by omega
   have hb4:(1:Int)<=(ID:Int):=by omega
   have xB:(0:Int)<=(ID:Int)-1/\(ID:Int)-1<(n:Int):=by omega
   have hwrap:IntKind.i64.wrap ((ID:Int)-1)=(ID:Int)-1:=by rw[IntKind.wrap_i64];omega
   clear aP6 hnw hdd hff ho0 Zu hst htk;go_wp2_with fail
   go_region_held3 (fun w'=>(w'.cell? ⟨w.heap.size,0,none⟩=some (.int .i64 t)/\w'.cell? ⟨w.heap.size,1,none⟩=some (.int .i64 n)/\w'.cell? ⟨w.heap.size,2,none⟩=some (.slice A1 t k1))/\w'.cell? ⟨bs,os+(ID-1),none⟩=some (.int .u64 SH))
    (first|go_keep|(exact⟨⟨(hbk.cell (p:=⟨w.heap.size,0,none⟩) gl).trans g0,(hbk.cell (p:=⟨w.heap.size,1,none⟩) gl).trans g1,(hbk.cell (p:=⟨w.heap.size,2,none⟩) gl).trans g2⟩,(hbk.cell (p:=⟨bs,os+(ID-1),none⟩) aT1).trans hcS⟩))
    (first|(go_at_call 51;refine(bh1 _ HND.out (by omega) HCN.out (by omega) HNW.out).mono ?_;rintro e w3 ⟨a,rfl,hsa,hfa,hbk⟩))
   all_goals
    have an2:=QP.out.new (by omega) ((bre.drew).trans hbk) hsa hfa;rw[hL]at an2;have hLa:(L++[a])[j]?=some a:=by rw[List.getElem?_append,if_neg (by omega),hL];simp
    have a09:=ay an2;have Vb:=ay hLa;clear an2 hLa hfa hbk QP g0 g1 g2 gl aT1 hcI hcS HND HNW hwrap hb1 hb2 hb3 hb4 xB t2;have hcm:=tP.GY w3 a _ (dN dX ID) (fN dX ID) hsa HO0.out (by omega) (by omega);have hce:=OE (s:=⟨t,n,comms cf cf.length,ID,SH,[]⟩) (d:=dN dX ID) (e:=fN dX ID) (by omega) (by simp) (by simp);obtain⟨e1,e2⟩:=Kl hce;rw[e1,e2,hce]at hcm;clear hce e1 e2 hsa;rw[show ou (iV (⟨t,n,comms cf cf.length,ID,SH,[]⟩:St).id (dN dX ID,fN dX ID))=.agg #[.int .i64 ID,.int .u64 (pw 4 (dN dX ID).toNat 2147483579),.int .u64 (pw 4 (fN dX ID).toNat 2147483579)]from rfl]at hcm;have HCM:=ay hcm;clear hcm;go_upto_region 10 with(first|(go_at_call 36;refine(CQ _ _ (lC _)).mono ?_;rintro e w' ⟨rfl,rfl⟩))
    rw[<-HDD.out,<-HFF.out];generalize hDV:dN dX ID=DV at*;generalize hFV:fN dX ID=FV at*;go_wp2_with fail
    refine HCM.out.mono ?_;rintro e w5 ⟨rfl,hs5,ho5⟩;have aN2:=a09.out.only Vb.out ho5 hs5;have hOB:=fF.new w5 52 #[.int .i64 ID,.int .u64 (pw 4 DV.toNat 2147483579),.int .u64 (pw 4 FV.toNat 2147483579)];have aN1:=aN2.alloc (.cells #[.int .i64 ID,.int .u64 (pw 4 DV.toNat 2147483579),.int .u64 (pw 4 FV.toNat 2147483579)] 52);have ax7:=ay aN1;have HOB:=ay hOB;clear aN2 aN1 hOB hs5 ho5 HCM a09;go_wp2_with fail
    generalize w5.alloc (.cells #[.int .i64 ID,.int .u64 (pw 4 DV.toNat 2147483579),.int .u64 (pw 4 FV.toNat 2147483579)] 52)=w6 at*;generalize bn4:w5.heap.size=OB at*;clear bn4;have b0:w6.cell? ⟨OB,0,none⟩=some (.int .i64 ID):=HOB.out.cell 0;have b1:w6.cell? ⟨OB,1,none⟩=some (.int .u64 (pw 4 DV.toNat 2147483579)):=HOB.out.cell 1;have b2:w6.cell? ⟨OB,2,none⟩=some (.int .u64 (pw 4 FV.toNat 2147483579)):=HOB.out.cell 2;have Xn:=ax7.out.sg j a Vb.out;rw[if_pos rfl]at Xn;have hlf:=N3 w6.drew a _ (Ij Xn bre.drew);simp only[List.nil_append,List.length_singleton]at hlf;have hob:=JZ Xn HOB.out (by decide) (by decide) (by decide);have HLF:=ay hlf;clear Xn hlf;go_region_law (first|(go_simp;go_at_call 37;refine(bf8 _ (by omega) _).mono ?_;rintro e w' ⟨rfl,rfl⟩)|(go_simp;go_at_call 53;refine HLF.out.mono ?_;rintro e w7 ⟨rfl,hs7,ho7⟩))
    all_goals
     have an1:=ax7.out.drew.only Vb.out ho7 hs7;have aP1:=ho7.blk (show fF w6.drew OB _ _ from HOB.out) hob;have Yt:=ay an1;have a17:=ay aP1;have hz8:=an1.bw.size;obtain⟨i1,hj1,hy0,hy1,hy2⟩:=info_parts Tb;obtain⟨i0,hi0,hz0,hz1,hz2⟩:=info_parts Xj;clear an1 aP1 hob ho7 hs7 b0 b1 b2 HLF HOB ax7;go_upto_region 14 with(at_builtin;refine wpList_append_own _ rfl (.tmp 87) (.tmp 89) _ rfl w.heap.size 90 i1 (.pointer none) 1 8 Try.underlying89 hj1 hy0 hy1 hy2 rfl (by decide) _ _ _ rfl (Yt.out.wR.alloc _) ⟨w7.heap.size,0,none⟩ 1 1 [Ai a] rfl rfl (cell_one_new _ _ _) (by simp[cA,Ai]) (by unfold maxLen;omega) (by omega) (by simp<;>omega) ?_;intro v1 w9 hown1 hgrow1 _)
     have an0:=Yt.out.app1 hgrow1 Vb.out hown1;have Tp:=ij a17.out Yt.out.wR (by decide) hgrow1;have b0:w9.cell? ⟨OB,0,none⟩=some (.int .i64 ID):=Tp.cell 0;have b1:w9.cell? ⟨OB,1,none⟩=some (.int .u64 (pw 4 DV.toNat 2147483579)):=Tp.cell 1;have b2:w9.cell? ⟨OB,2,none⟩=some (.int .u64 (pw 4 FV.toNat 2147483579)):=Tp.cell 2;have wE:OB<w9.heap.size:=Tp.lt;have a08:=ay an0;have hz9:=an0.bw.size;clear an0 Tp a17 Yt hown1 hgrow1 hz8;go_wp2_with (at_builtin;refine wpList_append_own _ rfl (.tmp 91) (.tmp 93) _ rfl w.heap.size 52 i0 (.agg #[.int .i64 0,.int .u64 0,.int .u64 0]) 3 24 Try.underlying26 hi0 hz0 hz1 hz2 rfl (by decide) _ _ _ rfl (a08.out.vU.alloc _) ⟨w9.heap.size,0,none⟩ 1 1 [.int .i64 ID,.int .u64 (pw 4 DV.toNat 2147483579),.int .u64 (pw 4 FV.toNat 2147483579)] rfl rfl (World.news_of_block (ED.jx _ _ (by simp))) (by simp[cA]) (by unfold maxLen;omega) (by omega) (by simp<;>omega) ?_;intro v2 w10 hown2 hgrow2 _)
     have hl':eO (fA dX (is.take (j+1)))=eO (fA dX (is.take j))++[.int .i64 ID,.int .u64 (pw 4 DV.toNat 2147483579),.int .u64 (pw 4 FV.toNat 2147483579)]:=by
      rw[HTK.out,HCJ.out,tL,yA];rfl
     have aN3:=a08.out.br7 (l':=fA dX (is.take (j+1))) (n':=j+1) hgrow2 (by rw[hl'];exact hown2);refine⟨⟨j+1,L++[a],_,_,rfl,rfl,rfl,by omega,by go_num,by simp[hL],aN3.congr fun k hk=>?_⟩,by simp[intOf];omega⟩;simp only[dG,List.length_singleton,hL]at hk;by_cases hkj:k=j
     ·subst hkj;rw[if_pos rfl,HST.out]
     ·rw[if_neg hkj,if_neg hkj,if_neg hkj]
  ·have hje:j=is.length:=by omega
   subst hje;have hL':L.take is.length=L:=by rw[<-hL,List.take_length]
   have hSX:SX w w.heap.size #[.int .i64 t,.int .i64 n,.slice A1 t k1] wr L (fun k=>if k<0 then Pg t n cf is k else DZ t n cf dX is k) V1 V2 (.slice none 0 0) 0 is.length (fA dX is) ((bq 0).map fun k=>.int .u64 (shr cf dX is msg k)):=by
    have h1:=QP.out;rw[List.take_length]at h1;exact⟨h1.congr (F4:=fun k=>if k<0 then Pg t n cf is k else DZ t n cf dX is k) fun k _=>by rw[if_neg (Nat.not_lt_zero _)],cB _ _ _ _⟩
   obtain⟨bk,kc,hv,hbk,hbl⟩:=QP.out.wR.form Tw;subst hv;obtain⟨wo,rfl⟩:∃wo:ae,wo=wr:=⟨_,rfl⟩;have KE:=ay hSX;clear hSX QP hbl;go_wp2_with fail
   go_loopw [10,11,98] (fun v2 v3 i wr=>∃(m:Nat) (V3:af),V2=v2/\V3=v3/\m<=is.length/\i=.int .i64 m/\(m=0\/gI (fA dX is) ((comms cf cf.length).getD 0 0) msg≠1)/\SX w w.heap.size #[.int .i64 t,.int .i64 n,.slice A1 t k1] wr L (fun k=>if k<m then Pg t n cf is k else DZ t n cf dX is k) (.slice (some ⟨bk,0,none⟩) is.length kc) V2 V3 m is.length (fA dX is) ((bq m).map fun k=>.int .u64 (shr cf dX is msg k))) (fun _ _ i _=>is.length-(intOf i).toNat)
   case atStart=>exact⟨0,_,rfl,rfl,by omega,rfl,.inl rfl,KE.out⟩
   case round=>
    clear KE;obtain⟨m,V3,rfl,rfl,hm,rfl,hne,hsx⟩:=hrel;have KE:=ay hsx;clear hsx;by_cases VA:m<is.length
    ·have hLl:m<L.length:=by omega
     obtain⟨a,ha⟩:∃a,L[m]?=some a:=⟨_,aN hLl⟩;have hca:=ae1 KE.out.sw.wR (by rw[List.take_of_length_le (by omega)];exact ha) Tw;have Qe:=KE.out.sw.sg m a ha;rw[if_neg (Nat.lt_irrefl _)]at Qe;have hS1:=aG9 EB.out VA (QQ.out m VA) Qe KE.out.sw.vU rH;have HS1:=ay hS1;have Vb:=ay ha;clear hS1 Qe ha;unfold Ai at hca;go_upto_region 19 with fail
     go_wp2_with fail
     refine HS1.out.mono ?_;rintro e w1 ⟨ho1,hr1⟩;rcases hr1 with⟨hone,rfl⟩|⟨hno,rfl,hs1⟩
     ·go_wp2_with fail
      refine bodyPost_ret (v:=.tuple #[.slice none 0 0,.slice none 0 0,.bool true,.bool true]) (by simp[results,Try.results25,go_sem]) rfl ?_;exact⟨KE.out.sw.bw.trans (Dy ho1 (KE.out.sw.ft a (cj Vb.out)) KE.out.sw.bw.size),.inl ⟨hone,rfl⟩⟩
     ·have aN0:=KE.out.only Vb.out ho1 hs1;have aM9:=aN0.congr (F4:=fun k=>if k<m+1 then Pg t n cf is k else DZ t n cf dX is k) fun k _=>by
       by_cases Zn:k=m
       ·subst Zn;rw[if_pos rfl,if_pos (by omega)]
       ·rw[if_neg Zn];by_cases uN:k<m
        ·rw[if_pos uN,if_pos (by omega)]
        ·rw[if_neg uN,if_neg (by omega)]
      have Yr:=ay aM9;have HOE:=ay (a16.out m VA);clear aN0 aM9 KE hs1 ho1 hca;have an5:=Yr.out.sw.sg m a Vb.out;rw[if_pos (by omega)]at an5;have hS2:=aG8 EB.out VA HOE.out an5 Yr.out.sw.vU rH;have HS2:=ay hS2;clear hS2 an5 HS1;go_upto_region 22 with fail
      go_wp2_with fail
      refine HS2.out.mono ?_;rintro e w2 ⟨rfl,ho2,hs2⟩;have aM8:=(Yr.out.only Vb.out ho2 hs2).congr (F4:=fun k=>if k<m+1 then Pg t n cf is k else DZ t n cf dX is k) fun k _=>by
       by_cases Zn:k=m
       ·subst Zn;rw[if_pos rfl,if_pos (by omega)]
       ·rw[if_neg Zn]
      have ax6:=ay aM8;clear aM8 ho2 hs2 Yr HS2;have an4:=ax6.out.sw.sg m a Vb.out;rw[if_pos (by omega)]at an4;have HL3:=ay (aL9 an4);clear an4;go_upto_region 23 with fail
      go_wp2_with fail
      refine HL3.out.mono ?_;rintro e w3 ⟨rfl,ho3,hs3⟩;have am9:=(ax6.out.only Vb.out ho3 hs3).congr (F4:=fun k=>if k<m+1 then Pg t n cf is k else DZ t n cf dX is k) fun k _=>by
       by_cases Zn:k=m
       ·subst Zn;rw[if_pos rfl,if_pos (by omega)]
       ·rw[if_neg Zn]
      have a07:=ay am9;obtain⟨i0,hi0,hz0,hz1,hz2⟩:=info_parts ru;have hz4:=am9.sw.bw.size;clear am9 ho3 hs3 ax6 HL3;go_wp2_with (at_builtin;refine wpList_append_own _ rfl (.tmp 129) (.tmp 131) _ rfl w.heap.size 40 i0 (.int .u64 0) 1 8 Try.underlying29 hi0 hz0 hz1 hz2 rfl (by decide) _ _ _ rfl (a07.out.Aj.alloc _) ⟨w3.heap.size,0,none⟩ 1 1 [.int .u64 (shr cf dX is msg m)] rfl rfl (cell_one_new _ _ _) (by simp[cA]) (by unfold maxLen;omega) (by omega) (by simp<;>omega) ?_;intro v3 w4 C5 xa _)
      have bi7:=a07.out.br6 (m':=m+1) (zs':=(bq (m+1)).map fun k=>.int .u64 (shr cf dX is msg k)) xa (by rw[List.range_succ,cD];exact C5);exact⟨⟨m+1,_,rfl,rfl,by omega,by go_num,.inr hno,bi7⟩,by simp[intOf];omega⟩
    ·have hme:m=is.length:=by omega
     subst hme;go_wp2_with fail
     have hno:=hne.resolve_left (by omega);refine bodyPost_ret (v:=.tuple #[V2,V3,.bool false,.bool true]) (by simp[results,Try.results25,go_sem]) rfl ?_;refine⟨KE.out.sw.bw,.inr ⟨hno,V2,V3,rfl,KE.out.sw.vU,KE.out.Aj,?_⟩⟩;rcases wQ KE.out.Aj KE.out.sw.vU (by decide)with h|h
     ·obtain⟨b3,c3,rfl,-⟩:=KE.out.Aj.form Tw;cases h
     ·exact h
end Sgd
namespace Bla
open Go.RowKit Pl ni oa ng Hv Ht OZ OX nU Mem yL nO xA Dlt O0 Cc
open Sgd (signedC)
theorem Fw(t n mask:Int):∃c,ids mask (gS t n) (kv n)=oZ c (kv n):=⟨_,Qd mask (gS t n) (kv n) (kv n)⟩
theorem Fx(t n mask:Int):Hc (gS t n) (kv n) (ids mask (gS t n) (kv n)):=by
 have hN:=y8 n;have hT:=BV t n;obtain⟨c,hc⟩:=Fw t n mask;have h1:=GC mask (gS t n) (kv n) (kv n) hT.2.1 nle;have h2:=JA mask (gS t n) (kv n) (kv n);exact⟨fun x hx=>by rw[hc]at hx;exact Ay _ _ x hx,by rw[hc];exact Io _ _,by show _<=(iN mask (gS t n) (kv n) (kv n)).length;omega,h2,by omega⟩
theorem Dq(t n seed:Int):fW (gS t n) (kv n) (comms (kG seed (gS t n)) (kG seed (gS t n)).length)=true:=by
 have hN:=y8 n;have hT:=BV t n;have h0:(kG seed (gS t n)).getD 0 0=xA.cf seed 0:=Dt seed (by omega);exact JV (by omega) (by omega) (by omega) (by rw[iW]) (by rw[h0];exact jX.1) (by rw[h0];exact jX.2)
structure PO(T N:Nat)(cf:List Int)(is:List Nat)(dX:Int)(msg:ByteArray)(w w2:ae)(B gb:Nat)(A1:Option Addr)(k1:Nat)(vi vC vZ:af)(zero:Bool):Prop where
 bel:Below w.heap.size w w2
 wB:w.heap.size<=B
 Bw:B<=w2.heap.size
 gb1:w.heap.size<=gb
 gbB:gb<B
 rY:fF w2 gb 31 #[.int .i64 T,.int .i64 N,.slice A1 T k1]
 cs:gA .u64 w2 B (.slice A1 T k1) (comms cf cf.length)
 ids:gA .i64 w2 B vi (ints is)
 out:(zero=true/\gI (fA dX is) ((comms cf cf.length).getD 0 0) msg=1)\/(zero=false/\gI (fA dX is) ((comms cf cf.length).getD 0 0) msg≠1/\w2.ownsRow B 52 3 vC is.length (eO (fA dX is))/\w2.ownsRow B 40 1 vZ is.length ((bq is.length).map fun k=>.int .u64 (shr cf dX is msg k))/\vZ.ownBlock≠vC.ownBlock)
theorem Ig(t n seed mask dX:Int)(msg:ByteArray)(w w1:ae)(gb:Nat)(A1:Option Addr)(k1:Nat)(vs vi:af)(hN:0<=dX/\dX<18446744073709551616)(rH:msg.size<=1000000)(hb:Below w.heap.size w w1)(aR2:w.heap.size<=gb)(Xx:gb<w1.heap.size)
  (hg:fF w1 gb 31 #[.int .i64 (gS t n),.int .i64 (kv n),.slice A1 (gS t n) k1])(hc:gA .u64 w1 w1.heap.size (.slice A1 (gS t n) k1) (comms (kG seed (gS t n)) (kG seed (gS t n)).length))(hs:gA .u64 w1 w1.heap.size vs (jo (kG seed (gS t n)) (kv n))){is:List Nat}(kZ:Hc (gS t n) (kv n) is)(hi:gA .i64 w1 w1.heap.size vi (ints is)):
  Calls dS 25 #[.agg #[.int .i64 (gS t n),.int .i64 (kv n),.slice A1 (gS t n) k1],vs,vi,.int .u64 dX,.string msg] w1 fun e w2=>∃zero vC vZ,e=.returned (.tuple #[vC,vZ,.bool zero,.bool true])/\PO (gS t n) (kv n) (kG seed (gS t n)) is dX msg w w2 w1.heap.size gb A1 k1 vi vC vZ zero:=by
 refine(signedC (gS t n) (kv n) (kG seed (gS t n)) is dX msg w1 _ vs vi (Dq t n seed) (zz seed _) (iW seed _) kZ hN rH hc hs hi).mono ?_;rintro e w2 ⟨vW,⟨h1,rfl⟩|⟨h1,vC,vZ,rfl,h2,h3,h4⟩⟩
 ·exact⟨true,_,_,rfl,hb.trans (vW.mono hb.size),hb.size,vW.size,aR2,Xx,hg.below vW Xx,hc.below vW,hi.below vW,.inl ⟨rfl,h1⟩⟩
 ·exact⟨false,vC,vZ,rfl,hb.trans (vW.mono hb.size),hb.size,vW.size,aR2,Xx,hg.below vW Xx,hc.below vW,hi.below vW,.inr ⟨rfl,h1,h2,h3,h4⟩⟩
end Bla
namespace Bla
open Go.RowKit Pl ni oa ng Mem nO Odr Ht OX Hw KT Cc Hv O0 OZ xA nU Cpl
section
variable{t n:Nat}{is:List Nat}{dX:Int}
theorem rJ{F:Nat->Int}:∀{k:Nat},(∀j,j<k->0<=F j)->0<=lX F k
 |0,_=>Int.le_refl _
 |k+1,h=>by rw[lX];have:=rJ (k:=k) fun j hj=>h j (by omega);have:=h k (by omega);omega
theorem Ia(F G:Nat->Int):∀k,lX (fun j=>F j+G j) k=lX F k+lX G k
 |0=>rfl
 |k+1=>by rw[lX,lX,lX,Ia F G k];omega
theorem H9(c:Int)(F:Nat->Int):∀k,lX (fun j=>c*F j) k=c*lX F k
 |0=>by simp[lX]
 |k+1=>by rw[lX,lX,H9 c F k,Int.mul_add]
theorem Ic{zs:List Int}(hz:∀k,k<zs.length->0<=zs.getD k 0/\zs.getD k 0<1073741789):∀k,k<=zs.length->vO 0 zs k=lX (fun j=>zs.getD j 0) k%1073741789
 |0,_=>rfl
 |k+1,hk=>by
  have b:=hz k (by omega);have ih:=Ic hz k (by omega);rw[vO,lX,ih];have h1:0<=lX (fun j=>zs.getD j 0) k%1073741789/\lX (fun j=>zs.getD j 0) k%1073741789<1073741789:=by omega
  unfold mE;rw[kU (by omega) (by omega)];omega
def xP(dX:Int)(is:List Nat)(key:Int)(msg:ByteArray)(k:Nat):Int:=dN dX (is.getD k 0)+fN dX (is.getD k 0)*lN (fA dX is) key msg k
theorem Mz(key:Int)(msg:ByteArray)(k:Nat):0<=xP dX is key msg k:=by
 have b1:=z6 (dX:=dX) (is.getD k 0);have b2:=zY (dX:=dX) (is.getD k 0);have b3:=rD (fA dX is) key msg k;have:=dL (Int.le_of_lt b2.1) b3.1
 unfold xP;omega
theorem Sl(key:Int)(msg:ByteArray){k:Nat}(hk:k<is.length):l6 (fA dX is) key msg k=pw 4 (xP dX is key msg k).toNat 2147483579:=by
 have b1:=z6 (dX:=dX) (is.getD k 0);have b2:=zY (dX:=dX) (is.getD k 0);have b3:=rD (fA dX is) key msg k;unfold l6 xP;rw[jJ hk,od (by omega) (dL (by omega) b3.1),AB,rK (by omega) b3.1,lI];rfl
theorem G8(key:Int)(msg:ByteArray):∀k,k<=is.length->G9 (fA dX is) key msg k=pw 4 (lX (xP dX is key msg) k).toNat 2147483579
 |0,_=>by show(1:Int)=pw 4 0 2147483579;decide
 |k+1,hk=>by
  rw[G9,G8 key msg k (by omega),Sl key msg (by omega),lX,od (rJ fun j _=>Mz key msg j) (Mz key msg k),AB]
theorem LK:iO (fA dX is) is.length=ints is:=by
 refine List.ext_getElem (by simp[iO,ints]) fun i h1 h2=>?_;have hi:i<is.length:=by simpa [iO]using h1
 have:(iO (fA dX is) is.length).getD i 0=((is.getD i 0:Nat):Int):=by rw[Td _ hi,jJ hi];rfl
 have e1:(iO (fA dX is) is.length).getD i 0=(iO (fA dX is) is.length)[i]:=by simp[aC,h1]
 rw[<-e1,this];simp[ints,aC,hi]
theorem Pj{c:Nat->Bool}(kZ:is=oZ c n){cf:List Int}(hcl:cf.length=t)(ht:0<t)(JN:∀i,i<cf.length->0<=cf.getD i 0/\cf.getD i 0<1073741789)(h0:0<cf.getD 0 0)(h:Hc t n is)(msg:ByteArray)(ha:gI (fA dX is) ((comms cf cf.length).getD 0 0) msg≠1)(zs:List Int)(hl:zs.length=is.length)(hz:∀k,k<is.length->zs.getD k 0=shr cf dX is msg k):
  nC ((comms cf cf.length).getD 0 0) msg (gI (fA dX is) ((comms cf cf.length).getD 0 0) msg) (vO 0 zs zs.length)=true:=by
 have hkey:(comms cf cf.length).getD 0 0=pw 4 (cf.getD 0 0).toNat 2147483579:=rA cf (by omega);have hR:=G8 (dX:=dX) (is:=is) ((comms cf cf.length).getD 0 0) msg is.length nle;have hR2:gI (fA dX is) ((comms cf cf.length).getD 0 0) msg=pw 4 (lX (xP dX is ((comms cf cf.length).getD 0 0) msg) is.length).toNat 2147483579:=by rw[BK,fy];exact hR
 have hcb:=BH (gI (fA dX is) ((comms cf cf.length).getD 0 0) msg) ((comms cf cf.length).getD 0 0) msg;have hc0:=JN 0 (by omega);have zb:∀k,k<zs.length->0<=zs.getD k 0/\zs.getD k 0<1073741789:=fun k hk=>by rw[hz k (by omega)];exact Cf _ _ _ _ _
 have Xm:=Ic zb zs.length nle;have hsb:0<=vO 0 zs zs.length/\vO 0 zs zs.length<1073741789:=by rw[Xm];omega
 have bl9:lX (fun j=>zs.getD j 0) zs.length%1073741789=(lX (xP dX is ((comms cf cf.length).getD 0 0) msg) is.length+jR (gI (fA dX is) ((comms cf cf.length).getD 0 0) msg) ((comms cf cf.length).getD 0 0) msg*cf.getD 0 0)%1073741789:=by
  have hrec:=Pw (c:=c) (n:=n) h.n9 cf (ints is |>.map fun i=>jG cf i) (by omega) (by rw[<-kZ];have:=h.many;omega) JN (fun k hk=>by
   rw[<-kZ]at hk ⊢;simp[ints,aC,hk])
  rw[<-kZ,Ix]at hrec;have hw:∀k,k<is.length->iq (iO (fA dX is) is.length) k=weight (ints is) k:=fun k hk=>by
   rw[LK];refine Am (ints is) k (fun i hi=>?_) (by simpa [ints]using hk);have hi':i<is.length:=by simpa [ints]using hi
   have:=h.at_ hi'
   have h9:=h.n9;have e:(ints is).getD i 0=((is.getD i 0:Nat):Int):=by simp[ints,aC,hi']
   rw[e];omega
  rw[hl];have aS6:lX (fun j=>zs.getD j 0) is.length%1073741789=lX (fun j=>xP dX is ((comms cf cf.length).getD 0 0) msg j+jR (gI (fA dX is) ((comms cf cf.length).getD 0 0) msg) ((comms cf cf.length).getD 0 0) msg*((ints is |>.map fun i=>jG cf i).getD j 0*weight (ints is) j)) is.length%1073741789:=by
   refine EH fun k hk=>?_;have hp:(ints is |>.map fun i=>jG cf i).getD k 0=jG cf (is.getD k 0):=by simp[ints,aC,hk]
   rw[hz k hk,hp];have b1:=z6 (dX:=dX) (is.getD k 0);have b2:=zY (dX:=dX) (is.getD k 0);have b3:=rD (fA dX is) ((comms cf cf.length).getD 0 0) msg k;have b4:0<=iq (iO (fA dX is) is.length) k/\iq (iO (fA dX is) is.length) k<1073741789:=lZ _ _;have b5:=rQ cf (is.getD k 0);unfold shr;rw[sign_eq ⟨by omega,b1.2⟩ ⟨by omega,b2.2⟩ b3 b4 b5 hcb];unfold MN xP;rw[hw k hk];have x1:∀w s c:Int,w*s%1073741789*c%1073741789=(w*s*c)%1073741789:=fun w s c=>by rw[dA,Int.emod_emod_of_dvd _ (Int.dvd_refl _),<-dA]
   rw[x1];have x2:weight (ints is) k*jG cf (is.getD k 0)*jR (gI (fA dX is) ((comms cf cf.length).getD 0 0) msg) ((comms cf cf.length).getD 0 0) msg=jR (gI (fA dX is) ((comms cf cf.length).getD 0 0) msg) ((comms cf cf.length).getD 0 0) msg*(jG cf (is.getD k 0)*weight (ints is) k):=by
    rw[Int.mul_comm (weight _ _),Int.mul_comm]
   rw[x2];generalize jR _ _ _*(_*_)=y;generalize fN _ _*_=z;omega
  rw[aS6,Ia,H9];have e3:jR (gI (fA dX is) ((comms cf cf.length).getD 0 0) msg) ((comms cf cf.length).getD 0 0) msg*lX (fun j=>(ints is |>.map fun i=>jG cf i).getD j 0*weight (ints is) j) is.length%1073741789=jR (gI (fA dX is) ((comms cf cf.length).getD 0 0) msg) ((comms cf cf.length).getD 0 0) msg*cf.getD 0 0%1073741789:=by
   rw[dA,hrec];conv=>rhs;rw[dA,Int.emod_eq_of_lt hc0.1 hc0.2]
  rw[Int.add_emod,e3,<-Int.add_emod]
 unfold nC;simp only[Bool.and_eq_true,decide_eq_true_eq];refine⟨⟨⟨⟨⟨?_,?_⟩,hsb.2⟩,?_⟩,ha⟩,?_⟩
 ·rw[hkey];exact BA _
 ·rw[hR2];exact BA _
 ·rw[hkey];exact oG (by omega) (by show(cf.getD 0 0).toNat<1073741789;omega)
 ·have hcx:=dL hcb.1 hc0.1;have hxn:0<=lX (xP dX is ((comms cf cf.length).getD 0 0) msg) is.length:=rJ fun j _=>Mz _ msg j;have e1:pw ((comms cf cf.length).getD 0 0) (jR (gI (fA dX is) ((comms cf cf.length).getD 0 0) msg) ((comms cf cf.length).getD 0 0) msg).toNat 2147483579=pw 4 (jR (gI (fA dX is) ((comms cf cf.length).getD 0 0) msg) ((comms cf cf.length).getD 0 0) msg*cf.getD 0 0).toNat 2147483579:=by
   generalize jR (gI (fA dX is) ((comms cf cf.length).getD 0 0) msg) ((comms cf cf.length).getD 0 0) msg=ch at*;rw[hkey,<-lI,rK hcb.1 hc0.1,Nat.mul_comm]
  rw[e1,Xm,bl9,<-xR (by omega),od hxn hcx,yU];rw[<-hR2]
end
end Bla
namespace Bla
open Go.RowKit Odr Pl ni oa ng Hv Ht OZ OX nU Mem yL nO xA Dlt O0 Cc
def hello:ByteArray:=⟨#[104,101,108,108,111]⟩
def yM(y:Nat->af):Array af:=#[y 0,y 1,y 2,y 3,y 4,y 5,y 6,y 7,y 8,y 9,y 10,y 11,y 12,y 13,y 14,y 15,y 16,y 17,y 18,y 19,y 20,y 21,y 22,y 23,y 24,y 25,y 26,y 27,y 28,y 29,y 30,y 31,y 32,y 33,y 34,y 35,y 36,y 37,y 38,y 39,y 40,y 41,y 42,y 43,y 44,y 45,y 46,y 47,y 48,y 49,y 50,y 51,y 52,y 53,y 54,y 55]
theorem ML(T:Array af)(h:T.size=56):∃y:Nat->af,T=yM y/\∀i v,T[i]?=some v->y i=v:=by
 refine⟨fun i=>T.getD i av,?_,fun i v hv=>?_⟩
 ·have e:T=((bq 56).map fun i=>T.getD i av).toArray:=by
   refine Array.ext (by simp[h]) fun i h1 h2=>?_;simp[Array.getD,h1]
  exact e.trans rfl
 ·simp only[Array.getD];split
  ·rename_i hlt;rw[Array.getElem?_eq_getElem hlt]at hv;exact Option.some.inj hv
  ·rename_i hlt;rw[Array.getElem?_eq_none (by omega)]at hv;cases hv
theorem Z7:kv 1=3:=by decide
theorem Z6:gS 0 1=2:=by decide
theorem OS:Hc (gS 0 1) (kv 1) [1,3]:=by
 rw[Z6,Z7];exact⟨fun x hx=>by simp at hx<;>omega,by simp,by decide,by decide,by decide⟩
theorem Yh:0<(lX (xP 9 [1,3] ((comms (kG 5 (gS 0 1)) (kG 5 (gS 0 1)).length).getD 0 0) hello) 2%1073741789).toNat/\(lX (xP 9 [1,3] ((comms (kG 5 (gS 0 1)) (kG 5 (gS 0 1)).length).getD 0 0) hello) 2%1073741789).toNat<1073741789:=by decide+kernel
theorem Yi:gI (fA 9 [1,3]) ((comms (kG 5 (gS 0 1)) (kG 5 (gS 0 1)).length).getD 0 0) hello≠1:=by
 have h:=Yh;have e:=G8 (dX:=9) (is:=[1,3]) ((comms (kG 5 (gS 0 1)) (kG 5 (gS 0 1)).length).getD 0 0) hello 2 (by decide);have h0:0<=lX (xP 9 [1,3] ((comms (kG 5 (gS 0 1)) (kG 5 (gS 0 1)).length).getD 0 0) hello) 2:=rJ fun j _=>Mz _ hello j;rw[BK,fy,show [1,3].length=2 from rfl,e];generalize lX (xP 9 [1,3] ((comms (kG 5 (gS 0 1)) (kG 5 (gS 0 1)).length).getD 0 0) hello) 2=X at*;rw[xR (x:=X) h0];exact oG h.1 (by have e:qq=1073741789:=rfl;rw[e];exact h.2)
noncomputable def lA:Code:=Try.f26.body.getD .skip
noncomputable def wI:Code:=(iw 5 lA).2
noncomputable def vJ:Code:=match wI with|.seq _ b=>b|_=>.skip
def az4(w:ae)(a:Act)(w3:ae):Prop:=
 ∃B gb A1 k1 vi vC vZ,PO (gS 0 1) (kv 1) (kG 5 (gS 0 1)) [1,3] 9 hello w w3 B gb A1 k1 vi vC vZ false/\a.tmps.size=56/\a.tmps[1]?=some (.pointer (some ⟨gb,0,none⟩))/\a.tmps[5]?=some vC/\a.tmps[6]?=some vZ
theorem Yj{w:ae}:wpL dS (az4 w) (fun _ _=>False) (iw 5 lA).1 ⟨#[av,av,av,av,av,av,av,av,av,av,av,av,av,av,av,av,av,av,av,av,av,av,av,av,av,av,av,av,av,av,av,av,av,av,av,av,av,av,av,av,av,av,av,av,av,av,av,av,av,av,av,av,av,av,av,av],[]⟩ w:=by
 have HD:=ay (UA 0 1 5 0 w (by omega) (by omega) (by omega));have EB:=ay OS;have hneg:=Yi;simp only[lA,iw,Try.f26,aJ];refine kW ?_;go_wp2_with fail
 refine kW ?_;go_wp2_with fail
 refine HD.out.mono ?_;rintro e w1 ⟨vc,vs,vi,rfl,h1,h2,h3,hb⟩;obtain⟨A1,k1,e1⟩:=Yp.jV h1;rw[show(comms (kG 5 (gS 0 1)) (kG 5 (gS 0 1)).length).length=gS 0 1 by rw[iu _ nle,iW]]at e1;subst e1;have hnb:=eD w1 (.cells #[.int .i64 (gS 0 1),.int .i64 (kv 1),.slice A1 (gS 0 1) k1] 31);have oD:=fF.new w1 31 #[.int .i64 (gS 0 1),.int .i64 (kv 1),.slice A1 (gS 0 1) k1];have g0:(w1.alloc (.cells #[.int .i64 (gS 0 1),.int .i64 (kv 1),.slice A1 (gS 0 1) k1] 31)).cell? ⟨w1.heap.size,0,none⟩=some (.int .i64 (gS 0 1)):=oD.cell 0;have g1:(w1.alloc (.cells #[.int .i64 (gS 0 1),.int .i64 (kv 1),.slice A1 (gS 0 1) k1] 31)).cell? ⟨w1.heap.size,1,none⟩=some (.int .i64 (kv 1)):=oD.cell 1;have g2:(w1.alloc (.cells #[.int .i64 (gS 0 1),.int .i64 (kv 1),.slice A1 (gS 0 1) k1] 31)).cell? ⟨w1.heap.size,2,none⟩=some (.slice A1 (gS 0 1) k1):=oD.cell 2;have HB:=ay hb;have HGB:=ay (hb.trans (hnb.mono hb.size));have HGR:=ay oD;have HC:=ay (h1.later hnb);have HS:=ay (h2.later hnb);have KO:w.heap.size<=w1.heap.size:=hb.size;have hgl:w1.heap.size<(w1.alloc (.cells #[.int .i64 (gS 0 1),.int .i64 (kv 1),.slice A1 (gS 0 1) k1] 31)).heap.size:=by simp
 clear HD h1 h2 h3 hb hnb oD HB;go_wp2_with fail
 generalize w1.alloc (.cells #[.int .i64 (gS 0 1),.int .i64 (kv 1),.slice A1 (gS 0 1) k1] 31)=w2 at*;generalize w1.heap.size=gb at*;refine kW ?_;go_wp2_with fail
 refine kW ?_;have hnb:=eD w2 (.cells #[.int .i64 1,.int .i64 3] 3);have aQ2:gA .i64 (w2.alloc (.cells #[.int .i64 1,.int .i64 3] 3)) (w2.alloc (.cells #[.int .i64 1,.int .i64 3] 3)).heap.size (.slice (some ⟨w2.heap.size,0,none⟩) 2 2) (ints [1,3]):=by
  have:=gA.lit (k:=.i64) w2 [1,3] 3
  simpa [ints]using this
 have hS:=Ig 0 1 5 0 9 hello w (w2.alloc (.cells #[.int .i64 1,.int .i64 3] 3)) gb A1 k1 vs _ (by omega) (by decide) (HGB.out.trans (hnb.mono HGB.out.size)) KO (bU hgl hnb.size) (HGR.out.below hnb hgl) (HC.out.later hnb) (HS.out.later hnb) EB.out aQ2;have HS2:=ay hS;unfold hello at HS2;clear hS aQ2 hnb;go_wp2_with fail
 refine HS2.out.mono ?_;rintro e w3 ⟨zero,vC,vZ,rfl,Er⟩;have hz:zero=false:=by
  rcases Er.out with⟨-,h⟩|⟨h,-⟩
  ·exact absurd h hneg
  ·exact h
 subst hz;have VL:=ay Er;clear Er HS2 hneg;go_wp2_with fail
 refine kW ?_;go_wp2_with fail
 exact⟨_,_,_,_,_,_,_,VL.out,rfl,rfl,rfl,rfl⟩
theorem UY{w:ae}{cs:List Int}{A1:Option Addr}{c1 c gb b9:Nat}{A:Option Addr}{R Z:Int}{z:Nat->af}(z1:z 1=.pointer (some ⟨gb,0,none⟩))(z8:z 8=.pointer (some ⟨b9,0,none⟩))(z9:z 9=.slice A 0 c)(z10:z 10=.int .i64 0)
  (g2:w.cell? ⟨gb,2,none⟩=some (.slice A1 cs.length c1))(hv:gA .u64 w w.heap.size (.slice A1 cs.length c1) cs)(hcl:0<cs.length)(hk:0<=cs.getD 0 0/\cs.getD 0 0<18446744073709551616)(s0:w.cell? ⟨b9,0,none⟩=some (.int .u64 R))(s1:w.cell? ⟨b9,1,none⟩=some (.int .u64 Z))(hR:0<=R/\R<18446744073709551616)(hZ:0<=Z/\Z<18446744073709551616)
  (zj:nC (cs.getD 0 0) hello R Z=true):
  vJ.wp dS (fun e a w=>match e with|.ret=>a.defers=[]/\a.tmps[0]?=some (.bool true)|_=>False) ⟨yM z,[]⟩ w:=by
 obtain⟨bk,ok,rfl,hbk,yt⟩:=Sgd.AH hv hcl;have Ob:=yt 0 hcl;rw[Nat.add_zero]at Ob;have hkl:(0:Int)<(cs.length:Int):=by omega
 have HVF:=ay fun W=>MB (cs.getD 0 0) hello R Z W (by decide) hk hR hZ;rw[zj]at HVF;unfold hello at HVF;clear hv yt hk hR hZ zj;generalize cs.getD 0 0=KEY at*;simp only[vJ,wI,lA,iw,Try.f26,aJ,yM,z1,z8,z9,z10];have lg:=bZ w _ g2;have lb:=bZ w _ Ob;have l9:=bZ w _ s0;have l9':=bZ w _ s1;go_upto_region 8 with fail
 go_region_held3 (fun w'=>(w'.cell? ⟨gb,2,none⟩=some (.slice (some ⟨bk,ok,none⟩) cs.length c1)/\w'.cell? ⟨bk,ok,none⟩=some (.int .u64 KEY))/\(w'.cell? ⟨b9,0,none⟩=some (.int .u64 R)/\w'.cell? ⟨b9,1,none⟩=some (.int .u64 Z)))
  (first|go_keep|(exact⟨⟨(hb'.cell (p:=⟨gb,2,none⟩) lg).trans g2,(hb'.cell (p:=⟨bk,ok,none⟩) lb).trans Ob⟩,(hb'.cell (p:=⟨b9,0,none⟩) l9).trans s0,(hb'.cell (p:=⟨b9,1,none⟩) l9').trans s1⟩))
  (first|(go_at_call 28;refine(HVF.out _).mono ?_;rintro e w' ⟨rfl,hb'⟩))
 all_goals go_wp2_with fail
end Bla
namespace Cc
open Go.Conc Go.ConcN Go.ConcM Go.RowKit Go.Conc.Lib Go.ConcR.Gen
open Go.ConcR (KK wgBlock WgAt stA smA rd wr mk DC0)
open Pl ni oa ng Mem nO Au yL Hw KT ED Rag
open nU hiding base
open Bla
noncomputable def Z8:Code:=match wI with|.seq a _=>a|_=>.skip
theorem Ml:codeOk dS vS Ak vJ=true:=by kernel_rfl
theorem Ye:Try.f26.results=#[.tmp 0]:=by kernel_rfl
section
variable{q:iU}(hP:q.P=dS){t n:Int}{cs zs:List Int}{l:List Cm}{A1 A2 A3:Option Addr}{c1 c2 c3:Nat}
include hP
theorem UZ{st:St eH}{num gb b9:Nat}{K:List (Nat×Obj)}(hA:kH 0 num K st)(hI:Inv q st)(hg0:q.P.globals.size=0)(h1:lO K .u64 A1 c1 cs)(hcl:0<cs.length)(hk:0<=cs.getD 0 0/\cs.getD 0 0<18446744073709551616)
  (hK4:(gb,.cells #[.int .i64 t,.int .i64 n,.slice A1 cs.length c1] 31 (0,0))∈K){A:Option Addr}{c:Nat}{an:VN}(hK9:(b9,.cells #[.int .u64 an.r,.int .u64 an.z] 47 (0,0))∈K)(Tt:lO K .i64 A c an.ids)(hR:0<=an.r/\an.r<18446744073709551616)(hZ:0<=an.z/\an.z<18446744073709551616)
  (he:an.e=0)(LO:an.ids=[])(zj:nC (cs.getD 0 0) hello an.r an.z=true)
  {T:Array af}(hT:T.size=56)(t1:T[1]?=some (.pointer (some ⟨gb,0,none⟩)))(t8:T[8]?=some (.pointer (some ⟨b9,0,none⟩)))(t9:T[9]?=some (.slice A an.ids.length c))(t10:T[10]?=some (.int .i64 an.e))
  {cc:ai}{bs:List ai}(fin:∀dV,kH 0 num K dV->Inv q dV->TT (cfg q) 0 (TW (cfg q)) (G (cc.finish (.bool true)) bs) dV):
  TT (cfg q) 0 (TW (cfg q)) (G ((base 26).at ⟨T,[]⟩ [.code vJ]) (cc::bs)) st:=by
 have yq:=hA.MQ hg0;have hfn:Try.prog.funcs[(base 26).fn]?=some Try.f26:=Try.func26;have hil:an.ids.length=0:=by rw[LO];rfl
 refine TT.piece (S:=vS) (Ds:=Ak) (X:=fun _=>False) (N:=fun _ _=>False) (R:=fun a w=>a.tmps[0]?=some (.bool true)) hP YH hI Ml rfl (fun fn h=>wO fn h) (Φ:=fun a w=>(∃z,a=⟨yM z,[]⟩/\z 1=.pointer (some ⟨gb,0,none⟩)/\z 8=.pointer (some ⟨b9,0,none⟩)/\z 9=.slice A an.ids.length c/\z 10=.int .i64 an.e)/\∃τ d,w=World.on (kA vS st.w (Cc.vh K)) τ d) (ro:=tQ (Cc.vh K)) (fK:=st)
  (Sh.Zc yq hI ⟨?_,st.w.tape,st.w.drawn,rfl⟩) ?_ ?_ ?_
 ·obtain⟨z,hz1,hz2⟩:=ML (T.map (MP vS (Cc.vh K))) (by rw[Array.size_map];exact hT);refine⟨z,by rw[hz1],hz2 _ _ (kX t1 (.ptr _ _ (iP (hA.vh hK4)))),hz2 _ _ (kX t8 (.ptr _ _ (iP (hA.vh hK9)))),hz2 _ _ (kX t9 (Tt.2.1.vr hA _ _)),hz2 _ _ (kX t10 (.int _ _))⟩
 ·rintro a w τ d ⟨⟨z,rfl,z1,z8,z9,z10⟩,FM,d',rfl⟩;rw[he]at z10;rw[hil]at z9;refine Code.wp_mono ?_ (UY (w:=World.on (kA vS st.w (Cc.vh K)) τ d) z1 z8 z9 z10 (hA.Ab hK4 rfl (h1.2.1.vr hA _ _)) (h1.nums hA) hcl hk (hA.Ab hK9 rfl (.int _ _)) (hA.Ab hK9 rfl (.int _ _)) hR hZ zj);intro e a w h;cases e with
  |ret=>exact .inr ⟨rfl,h.1,h.2⟩
  |_=>exact h.elim
 ·rintro a2 st' ⟨_,_,_,_,_,_,_,_,_,_,_,hF⟩;exact hF.elim
 ·intro a2 st' todo hs;refine TT.ret (R:=fun v w=>v=.bool true) hP YH hI rfl hfn (wO _ hfn) (hs.mono fun a w h=>⟨.bool true,by unfold Go.results;rw[Ye];simp[go_sem,h],rfl⟩) fun v v' ρ s Vn hH hV hv hR=>?_;obtain⟨τ,d,rfl⟩:=hR;obtain rfl:=kY hv (by simp[fJ,jk]);exact fin Vn (hA.mn hV.2.2.2.1 fun _ _ _ h=>h) hV.2.1
theorem Yl{st:St eH}{num gb:Nat}{K:List (Nat×Obj)}(hA:kH 0 num K st)(hI:Inv q st)(hg0:q.P.globals.size=0)(hG:q.tG=137)(hZ:q.tZ=76)(hR:q.tR=4)(hW:q.tW=116)
  (h1:lO K .u64 A1 c1 cs)(h2:yI K A2 c2 l)(h3:lO K .u64 A3 c3 zs)(hcb:∀i,i<cs.length->0<=cs.getD i 0)(hb:∀i,i<l.length->0<=(l.getD i .zero).d/\0<=(l.getD i .zero).e)(hzb:∀k,k<zs.length->0<=zs.getD k 0/\zs.getD k 0<18446744073709551616)
  (JM:0<cs.length)(hk:0<=cs.getD 0 0/\cs.getD 0 0<18446744073709551616)(hcl:cs.length<=65536)(hll:l.length<=65536)(hzl:zs.length<=65536)(hK4:(gb,.cells #[.int .i64 t,.int .i64 n,.slice A1 cs.length c1] 31 (0,0))∈K)
  {an:VN}(han:rF t n cs l hello zs (fun k=>iB (zs.getD k 0) (jR (gI l (cs.getD 0 0) hello) (cs.getD 0 0) hello) cs l hello k)=an)(VG:0<=an.r/\an.r<18446744073709551616)(TP:0<=an.z/\an.z<18446744073709551616)
  (he:an.e=0)(LO:an.ids=[])(zj:nC (cs.getD 0 0) hello an.r an.z=true)
  {y:Nat->af}(y1:y 1=.pointer (some ⟨gb,0,none⟩))(y5:y 5=.slice A2 l.length c2)(y6:y 6=.slice A3 zs.length c3)
  {cc:ai}{bs:List ai}(fin:∀dV Ls K2,kH 0 Ls K2 dV->(∀b o,(b,o)∈K->(b,o)∈K2)->Inv q dV->TT (cfg q) 0 (TW (cfg q)) (G (cc.finish (.bool true)) bs) dV):
  TT (cfg q) 0 (TW (cfg q)) (G ((base 26).at ⟨yM y,[]⟩ [.code wI]) (cc::bs)) st:=by
 have e2:wI=.seq Z8 vJ:=rfl;obtain⟨AT,GL⟩:∃AT,AT=vJ:=⟨_,rfl⟩;rw[e2,<-GL];have QV:=ay GL;have hd2:∀L c A,(∀a,Value.slice A L c≠ .agg a)/\∀a,Value.slice A L c≠ .tuple a:=fun L c A=>⟨fun a e=>(by cases e),fun a e=>(by cases e)⟩;have HHE:=ay (show hello=⟨#[104,101,108,108,111]⟩from rfl);clear GL e2;simp only[Z8,wI,lA,iw,Try.f26,aJ,yM,y1,y5,y6];refine TT.oX hP 40 fun w₀ hF=>?_;repeat w_go ib
 refine stp rfl ?_;clear hF w₀;refine TT.RL hP hA (bl:=gb) (off:=0) (v:=.agg #[.int .i64 t,.int .i64 n,.slice A1 cs.length c1]) rfl rfl (by k_ne) rfl (by simp[Act.eval]) hK4 (fun w hw=>N4 t n _ (hd2 _ _ _) w hw) fun dZ eu eN _=>?_;clear hA hI hd2;walk_nrm;refine TT.oX hP 40 fun w₀ hF=>?_;repeat w_go ib
 refine stp rfl ?_;clear hF w₀;refine TT.YN hP (f:=27) (args:=#[.agg #[.int .i64 t,.int .i64 n,.slice A1 cs.length c1],.string ⟨#[104,101,108,108,111]⟩,.slice A2 l.length c2,.slice A3 zs.length c3]) rfl rfl (by k_ne) (fun w=>?_) (fun w=>?_) ?_
 ·unfold ax;simp[resolve,Deferred.ofValue,invoke,callFunc,Try.func27,Try.f27,Act.eval]
 ·unfold ax;simp[resolve,Deferred.ofValue,invoke,callFunc,Try.func27,Try.f27,Act.eval]
 rw[<-HHE.out];have yq:=eu.MQ hg0;refine aa0 hP eu eN hG hZ hR hW (md:=Cc.vh K) (sw:=kA aS dZ.w (Cc.vh K)) (mC ..) yq.lt (fun k1 k2 k3 k4=>Sh.S5 yq eN k1 k2 k3 k4) (S7 eu h1.2.1 h2.2.1 h3.2.1) (h1.nums eu) hcb hcl (h2.ja eu) hll hb hzl (by decide) (h3.sh eu) h3.1 hzb fun v fw TN fu=>?_;obtain⟨A,c,num',K',rfl,eK,Tf,Tt⟩:=DG (fun k hk=>(hzb k hk).1) TN;rw[han]at Tt ⊢;have HAN:=ay han;clear TN han yq eu eN;simp only[VN.val];have HNK:=ay Tt;clear Tt;obtain⟨R,hRe⟩:∃R,R=an.r:=⟨_,rfl⟩;obtain⟨Z,hZe⟩:∃Z,Z=an.z:=⟨_,rfl⟩;obtain⟨E,hEe⟩:∃E,E=an.e:=⟨_,rfl⟩;obtain⟨I,uS⟩:∃I,I=an.ids.length:=⟨_,rfl⟩;rw[<-hRe,<-hZe,<-hEe,<-uS];have HRe:=ay hRe;have HZe:=ay hZe;have HEe:=ay hEe;have HIe:=ay uS;clear hRe hZe hEe uS;rw[Frame.finish_at];walk_nrm;refine TT.oX hP 60 fun w₀ hF=>?_;repeat w_go ib
 refine stp rfl ?_;clear hF w₀;refine TT.RO hP eK rfl rfl (by k_ne) rfl (fun w=>OT w) fun fI b9 eF fO E9 uP uM _=>?_;walk_nrm;refine TT.MH hP eF (K':=(b9,.cells #[.int .u64 R,.int .u64 Z] 47 (0,0))::K') (bl:=b9) (off:=0) (v:=.agg #[.int .u64 R,.int .u64 Z]) (ob:=.cells #[.int .u64 0,.int .u64 0] 47 (0,0)) (ob':=.cells #[.int .u64 R,.int .u64 Z] 47 (0,0)) rfl rfl (by k_ne) rfl (by simp[Act.eval]) (by simp[Act.eval]) (dh ..) uP (fun b o hb=>?_) (fun w hw=>MF R Z w hw) fun eT fe gg _=>?_
 ·rcases List.mem_cons.1 hb with e|hb
  ·cases e;exact .inl ⟨rfl,rfl⟩
  ·exact .inr ⟨uM b o hb,aR _ hb⟩
 clear eF fO E9 uP uM eK fu;walk_nrm;refine TT.oX hP 60 fun w₀ hF=>?_;repeat w_go ib
 refine stp rfl ?_;clear hF w₀;obtain rfl:=QV.out;have hsub:∀b o,(b,o)∈K->(b,o)∈(b9,Obj.cells #[.int .u64 R,.int .u64 Z] 47 (0,0))::K':=fun b o h=>aR _ (Tf b o h);have ao8:=HNK.out.mono (K':=(b9,Obj.cells #[.int .u64 R,.int .u64 Z] 47 (0,0))::K') fun b o h=>aR _ h;refine UZ (c:=c) (an:=an) (b9:=b9) hP fe gg hg0 (h1.mono hsub) JM hk (hsub _ _ hK4) (by rw[HRe.out,HZe.out];exact dh ..) ao8 VG TP he LO zj rfl rfl rfl (by rw[HIe.out];rfl) (by rw[HEe.out];rfl) fun dV k1 k2=>fin dV _ _ k1 hsub k2
end
end Cc
namespace Bla
open Go.RowKit Pl ni oa ng Mem nO Odr Ht OX Hw KT Cc Hv O0 OZ xA nU Cpl Rag
theorem EG{bd:Nat->Bool}{is:List Nat}:∀{k:Nat},oc bd is k=[]->∀j,j<k->bd j=false
 |0,_,_,hj=>absurd hj (by omega)
 |k+1,h,j,hj=>by
  rw[oc]at h;cases hb:bd k with
  |true=>rw[hb,if_pos rfl]at h;exact absurd h (by simp)
  |false=>
   rw[hb,if_neg (by decide)]at h;rcases Nat.lt_or_ge j k with h1|h1
   ·exact EG h j h1
   ·obtain rfl:j=k:=by omega
    exact hb
theorem BP{bd:Nat->Bool}{is:List Nat}(h:∀j,bd j=false):∀k,oc bd is k=[]
 |0=>rfl
 |k+1=>by rw[oc,h k,if_neg (by decide)];exact BP h k
section
variable{t n:Nat}{is:List Nat}{dX:Int}
structure a48(cs:List Int)(msg:ByteArray)(want:List Int)(an:VN):Prop where
 none:want=[]->an.e=0/\an.ids=[]/\nC (cs.getD 0 0) msg an.r an.z=true
 some:want≠[]->an.e=14/\an.r=0/\an.z=0/\an.ids=want
 r:0<=an.r/\an.r<18446744073709551616
 z:0<=an.z/\an.z<18446744073709551616
theorem Kt{c:Nat->Bool}(kZ:is=oZ c n){cf:List Int}(hcl:cf.length=t)(ht:0<t)(JN:∀i,i<cf.length->0<=cf.getD i 0/\cf.getD i 0<1073741789)(h0:0<cf.getD 0 0)(h:Hc t n is)(hg:fW t n (comms cf cf.length)=true)(msg:ByteArray)(ha:gI (fA dX is) ((comms cf cf.length).getD 0 0) msg≠1)
  (OG:Int)(bd:Nat->Bool)(zs:List Int)(hl:zs.length=is.length)(hz:∀k,k<is.length->zs.getD k 0=ZZ OG (bd k) (shr cf dX is msg k)):
  a48 (comms cf cf.length) msg (oc bd is is.length) (rF t n (comms cf cf.length) (fA dX is) msg zs (fun k=>iB (zs.getD k 0) (jR (gI (fA dX is) ((comms cf cf.length).getD 0 0) msg) ((comms cf cf.length).getD 0 0) msg) (comms cf cf.length) (fA dX is) msg k)):=by
 have hb:=blame (dX:=dX) JN h msg OG bd (fun k=>zs.getD k 0) hz;have he:=aw7 (dX:=dX) hg h msg ha;have hall:=Yd (fA dX is) ((comms cf cf.length).getD 0 0) msg;unfold rF;rw[hl,he,if_neg (by simp),hb];by_cases hw:oc bd is is.length=[]
 ·rw[if_pos hw];have hno:=EG hw;have hz2:∀k,k<is.length->zs.getD k 0=shr cf dX is msg k:=fun k hk=>by
   rw[hz k hk,hno k hk];rfl
  have hzb:∀k,k<zs.length->0<=zs.getD k 0/\zs.getD k 0<1073741789:=fun k hk=>by rw[hz2 k (by omega)];exact Cf _ _ _ _ _
  have hright:=(EF _ (fA dX is) (fA dX is).length).1 (hb.trans hw);have Xm:=yO (fun k=>iB (zs.getD k 0) (jR (gI (fA dX is) ((comms cf cf.length).getD 0 0) msg) ((comms cf cf.length).getD 0 0) msg) (comms cf cf.length) (fA dX is) msg k) zs hzb zs.length nle (fun j hj=>hright j (by rw[fy];omega));have aN8:=Pj (dX:=dX) kZ hcl ht JN h0 h msg ha zs hl hz2;have hsb:=BX (fun k=>iB (zs.getD k 0) (jR (gI (fA dX is) ((comms cf cf.length).getD 0 0) msg) ((comms cf cf.length).getD 0 0) msg) (comms cf cf.length) (fA dX is) msg k) zs (fun k hk=>(hzb k hk).1) zs.length;rw[show(fA dX is).length=zs.length by rw[fy,hl]];refine⟨fun _=>⟨rfl,rfl,?_⟩,fun hn=>absurd hw hn,?_,?_⟩
  ·rw[<-Xm]at aN8;exact aN8
  ·show 0<=gI _ _ _/\gI _ _ _<_;omega
  ·show 0<=sumTo _ _ _/\sumTo _ _ _<_;omega
 ·rw[if_neg hw];exact⟨fun h=>absurd h hw,fun _=>⟨rfl,rfl,rfl,rfl⟩,⟨Int.le_refl _,by show(0:Int)<_;decide⟩,⟨Int.le_refl _,by show(0:Int)<_;decide⟩⟩
end
end Bla
namespace U6
open Go.Conc Go.ConcN Go.ConcM Go.RowKit Go.Conc.Lib Go.ConcR.Gen
open Go.ConcR (KK wgBlock WgAt stA smA rd wr mk DC0)
open Cc pH
open Pl ni oa ng Mem nO Au yL Hw KT ED Rag xA O0 OZ OX
open Bla
open nU hiding base
theorem OH{q:iU}{P:au}(hP:q.P=P){st:St eH}{num t:Nat}{K:List (Nat×Obj)}{Ch:Nat->ah->St eH->Prop}{fn:Func}{b:ai}{a':Act}{todo:List Item}(hk:b.kind=.normal)(hd:a'.defers=[])(hfn:P.funcs[b.fn]?=some fn)(hin:P.inits.idxOf? b.fn=none)(hres:fn.results=#[.tmp t])(ht:a'.tmps[t]?=some (.bool true))
  (hA:kH 0 num K st)(fin:∀dV,kH 0 num K dV->Inv q dV->q.Post (.bool true) dV.w):TT (cfg q) 0 Ch (G {b.at a' todo with mode:=.returning} []) st:=by
 refine TT.ends hP hA fun dV hr dY hi=>⟨.bool true,dV.w,xJ hk hd hfn hin ?_ ?_,fin dV dY hi⟩
 ·unfold Go.results;rw[hres];simp[go_sem,ht]
 ·unfold Go.results;rw[hres];simp[go_sem,ht]
theorem yz(cf:List Int):∀i,i<(comms cf cf.length).length->0<=(comms cf cf.length).getD i 0/\(comms cf cf.length).getD i 0<18446744073709551616:=fun i hi=>by
 rw[iu _ nle]at hi;rw[rA _ hi];have:=nL 4 (cf.getD i 0).toNat (m:=2147483579) (by omega)
 omega
theorem yC{dX:Int}{is:List Nat}:∀i,i<(fA dX is).length->0<=((fA dX is).getD i .zero).d/\0<=((fA dX is).getD i .zero).e:=fun i hi=>by
 rw[fy]at hi;rw[jJ hi];exact⟨(nL 4 _ (m:=2147483579) (by omega)).1,(nL 4 _ (m:=2147483579) (by omega)).1⟩
theorem sf{F:Nat->Int}{n k:Nat}(hk:k<n):((bq n).map F).getD k 0=F k:=by
 rw[aC,List.getElem?_map,List.getElem?_range hk];rfl
theorem QJ:(iw 5 lA).1.all (fun c=>Sg.fin (sg.items 26 (some 0) [.code c]))=true:=by kernel_rfl
theorem Yg:sg.vX 26=false:=by kernel_rfl
theorem aw3:sg.fs 26=[]:=by kernel_rfl
section
variable{q:iU}(hP:q.P=dS)
include hP
theorem aw4(hg0:q.P.globals.size=0)(hG:q.tG=137)(hZ:q.tZ=76)(hR:q.tR=4)(hW:q.tW=116){w w3:ae}{a2:Act}(hM:az4 w a2 w3)(hd:a2.defers=[]){st:St eH}(hA:kH 0 1 (yE w3) st)(hI:Inv q st)
  {cc:ai}{bs:List ai}(fin:∀dV Ls K2,kH 0 Ls K2 dV->(∀b o,(b,o)∈yE w3->(b,o)∈K2)->Inv q dV->TT (cfg q) 0 (TW (cfg q)) (G (cc.finish (.bool true)) bs) dV):
  TT (cfg q) 0 (TW (cfg q)) (G ((base 26).at a2 [.code wI]) (cc::bs)) st:=by
 obtain⟨B,gb,A1,k1,vi,vC,vZ,Er,hsz,s1,s5,s6⟩:=hM;obtain⟨ha,hoc,hoz⟩:gI (fA 9 [1,3]) ((comms (kG 5 (gS 0 1)) (kG 5 (gS 0 1)).length).getD 0 0) hello≠1/\w3.ownsRow B 52 3 vC [1,3].length (eO (fA 9 [1,3]))/\w3.ownsRow B 40 1 vZ [1,3].length ((bq [1,3].length).map fun k=>.int .u64 (shr (kG 5 (gS 0 1)) 9 [1,3] hello k)):=by
  rcases Er.out with⟨h,-⟩|⟨-,h1,h2,h3,-⟩
  ·cases h
  ·exact⟨h1,h2,h3⟩
 have hT:=Z6;have hcl:=iW 5 (gS 0 1);have hlen:(comms (kG 5 (gS 0 1)) (kG 5 (gS 0 1)).length).length=gS 0 1:=by rw[iu _ nle,hcl]
 have oD:fF w3 gb 31 #[.int .i64 (gS 0 1),.int .i64 (kv 1),.slice A1 (comms (kG 5 (gS 0 1)) (kG 5 (gS 0 1)).length).length k1]:=by rw[hlen];exact Er.rY
 obtain⟨-,q1⟩:=EU (Er.cs.more Er.Bw) (by rw[hlen,hT];omega);obtain⟨A2,c2,rfl,q2⟩:=Fz (fy (dX:=9) (is:=[1,3])).symm hoc;have ao1:w3.ownsRow B 40 1 vZ [1,3].length (((bq [1,3].length).map fun k=>shr (kG 5 (gS 0 1)) 9 [1,3] hello k).map (bV .u64)):=by rw[List.map_map];exact hoz
 obtain⟨A3,c3,rfl,q3⟩:=EW ao1;obtain⟨T,df⟩:=a2;obtain rfl:df=[]:=hd;obtain⟨y,rfl,hy⟩:=ML T hsz;have aN9:[1,3]=oZ (fun k=>k==0||k==2) (kv 1):=by rw[Z7];rfl
 have h0:(kG 5 (gS 0 1)).getD 0 0=xA.cf 5 0:=Dt 5 (by rw[hT];omega);have h00:0<(kG 5 (gS 0 1)).getD 0 0:=by rw[h0];exact jX.1
 have lK:=Kt (dX:=9) aN9 hcl (by rw[hT];omega) (zz 5 _) h00 OS (Dq 0 1 5) hello ha 0 (fun _=>false) ((bq [1,3].length).map fun k=>shr (kG 5 (gS 0 1)) 9 [1,3] hello k) (by rw[List.length_map,List.length_range]) (fun k hk=>by rw[sf hk];rfl);obtain⟨g1,g2,g3⟩:=lK.none (BP (fun _=>rfl) _);refine Yl hP hA hI hg0 hG hZ hR hW q1 q2 q3 (fun i hi=>(yz _ i hi).1) yC (fun k hk=>?_) (by rw[hlen,hT];omega) (yz _ 0 (by rw[hlen,hT];omega)) (by rw[hlen,hT];omega) (by rw[fy];decide) (by rw[List.length_map,List.length_range];decide) (kg.2 oD) rfl lK.r lK.z g1 g2 g3 (hy _ _ s1) (hy _ _ s5) (hy _ _ s6) fin;rw[List.length_map,List.length_range]at hk;rw[sf hk];have:=Cf (kG 5 (gS 0 1)) 9 [1,3] hello k
 omega
end
theorem LG{P:au}{f:ak}{args:Array af}{fr:ai}{W:ae}(h:bQ P f args .normal=fr):LR P (G (bQ P f args .normal) []) W (G fr []) W:=by
 rw[h];exact LR.start (by rw[<-h];rfl)
theorem Yf:bQ dS 26 #[] .normal=(base 26).at ⟨#[av,av,av,av,av,av,av,av,av,av,av,av,av,av,av,av,av,av,av,av,av,av,av,av,av,av,av,av,av,av,av,av,av,av,av,av,av,av,av,av,av,av,av,av,av,av,av,av,av,av,av,av,av,av,av,av],[]⟩ [.code (Ah (iw 5 lA).1 wI)]:=by
 rw[show Ah (iw 5 lA).1 wI=lA from rN 5 lA,enter_at (P:=dS) (c:=lA) _ Try.func26 rfl];kernel_rfl
theorem Yk{g₀:ah}{w₀ w:ae}{cst:List ai}{X:Prop}(hL:LR dS g₀ w₀ (G (bQ dS 26 #[] .normal) cst) w)
  (fin:∀a2 w3,a2.defers=[]->az4 w a2 w3->LR dS g₀ w₀ (G ((base 26).at a2 [.code wI]) cst) w3->X):X:=by
 rw[Yf]at hL;exact LR.pieces YM rfl Yg aw3 fin (fun _ _ _ _ h=>h.elim) (iw 5 lA).1 (fun c hc=>List.all_eq_true.1 QJ c hc) _ _ rfl hL Yj
end U6
end Go.Proofs.Ytpfpokjaeffbjaa
