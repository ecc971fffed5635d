/- Part of the proof: LkJ, LkU, LkV, DoF, DoA, DoB, DoC, DoW, AgO, DnF, MAdd. -/
import Derived.Test.YtpfpokjaeffbjaaKk0
import Derived.Test.YtpfpokjaeffbjaaKk7
import Derived.Test.YtpfpokjaeffbjaaKk4
import Derived.Test.YtpfpokjaeffbjaaKk6
import Derived.Lib.Hide
import Derived.Test.YtpfpokjaeffbjaaKk5
import Derived.Conc.WgArith
import Derived.Test.YtpfpokjaeffbjaaKk16
import Derived.Test.YtpfpokjaeffbjaaKk17
set_option linter.unusedVariables false
set_option linter.unusedSimpArgs false
set_option maxRecDepth 100000
set_option maxHeartbeats 16000000
open Go.Proofs.Try renaming prog→dS
open Go.BinOp renaming and→aZ
open Go.IntKind renaming i32→aK,wrap→bH,wrap_i32→dJ,wrap_i64→cE
open Option renaming getD_some→aJ
open Go.Act renaming eval→aU
open Nat renaming lt_of_le_of_ne→cV,le_trans→aY
open Go.Extern renaming findNext→bQ,find→cW
open Go.Frame renaming enter→bO,finish_at→dI
open Go.Region renaming wanted→bg
open Go.Instr renaming loadAt→aT,storeAt→bI,alloc→dw
open Go.World renaming cell?→bM
namespace Go.Proofs.Ytpfpokjaeffbjaa
open Go renaming World→ae,Value→af,Goroutine→ah,Frame→ai,TypeId→aj,FuncId→ak,Program→au,undef→av,execOp→ax
open Go.Lib renaming hid→ay
namespace Cc
open Go.Conc Go.ConcN Go.ConcM Go.RowKit Go.Conc.Lib Go.ConcR.Gen
open Go.ConcR (KK wgBlock WgAt stA smA rd wr mk DC0)
section
section
variable{q:iK}(hP:q.P=dS){i:Nat}{s:eI}{x:Wk}{Ch:Nat->ah->St eD->Prop}
variable{b₁:ai}{a₁:Act}{eA:Array Oper}{fH:Nat}{ey:List Nat}{k₁:List Item}{cs₁:List ai}
include hP
theorem ax5(hx:x.wg=.work)(hT:KT q i Ch s x b₁ a₁ eA fH ey k₁ cs₁):∀μ,RX q i Ch s x b₁ a₁ eA fH ey k₁ cs₁ μ:=by
 intro μ;induction μ using Nat.strongRecOn with
 |_ μ ih=>
 intro pr it aw sv nT l w z N st hμ h0 h4 hA hI hR ha hs;have hl:=hR.l1;have hz:=hR.z1;rcases (by omega:z=0\/z=1)with rfl|rfl
 ·rcases (by omega:l=0\/l=1)with rfl|rfl
  ·cases aw
   ·obtain rfl:=hs rfl;exact a59 hP hx hT ih h0 h4 hμ hA hI hR
   ·obtain⟨rfl,-⟩:=ha rfl;cases sv
    ·exact J2 hP hx hT ih h0 h4 hμ hA hR
    ·exact MD hP hx hT ih h0 h4 hμ hA hR
  ·cases aw
   ·obtain rfl:=hs rfl;exact Yg hP hx hT ih h0 h4 hμ hA hR
   ·obtain⟨rfl,-⟩:=ha rfl;cases sv
    ·exact Yf hP hx hT ih h0 h4 hμ hA hR
    ·exact Ye hP hx hT ih h0 h4 hμ hA hR
 ·cases aw
  ·obtain rfl:=hs rfl;rcases (by omega:l=0\/l=1)with rfl|rfl
   ·exact aj0 hP hx hT ih h0 h4 hμ hA hR
   ·exact ai9 hP hx hT ih h0 h4 hμ hA hR
  ·have:=(ha rfl).2
   omega
theorem aj4(hx:x.wg=.work)(hT:KT q i Ch s x b₁ a₁ eA fH ey k₁ cs₁){st:St eD}(hA:At s i {x with mx:=.fresh,df:=1} st):TT (cfg q) i Ch (G ((base 133).at ⟨#[.pointer (some ⟨s.Gb,4,none⟩),av,av,av,av,av,av,av,av,av,av,av,av,av,av,av,av,av,av,av,av,av,av,av,av,av,av,av,av,av,av,av,av,av,av,av,av,av,av,av,av,av,av,av,av,av,av,av,av,av,av,av,av,av,av,av,av,av,av,av,av,av,av,av,av,av,av,av,av,av,av,av,av,av,av,av,av,av,av,av,av,av,av,av,av,av,av,av,av,av,av,av,av,av,av,av,av,av,av,av,av,av,av,av,av,av,av,av,av,av,av,av,av,av,av,av,av,av,av,av,av,av,av,av,av,av,av,av,av,av,av,av,av,av,av,av,av,av,av],[]⟩ [.code il]) (b₁.at a₁ (.inRegion eA (fH::ey)::k₁)::cs₁)) st:=by
 simp only[il,Try.f133,aJ];refine TT.road hP hA (by simp[hx]) 80 fun w₀ hF=>?_;repeat w_go dW
 refine stp rfl ?_;clear hF w₀;refine TT.mu hP hA hx (mx:=.fresh) rfl (by simp) fun eT fh gB fD q1 q2 _ _=>⟨_,_,_,.cont false,1,eT.γ.L,eT.γ.W,eT.γ.S,eT.γ.N,eT.γ.tn,eT.γ.th,fF rfl rfl (by k_ne) rfl rfl fD.gb.cell.2.1 jm,rfl,rfl,by simp,by simp,fD.mu.slow fh.lo (fh.hi gB) (fY fh),fD.gb.stay rfl rfl,eW.refl _,.inl (by simp[kF]),.inl nle,gy,.inr nle,fun gN eY gu _ w₆ _ wM=>?_⟩;have jh:=Rd.now (gu.eZ s eY.sc).c;rw[w₆.1,w₆.2.1,w₆.2.2.1,w₆.2.2.2]at jh;refine TT.road hP eY (by simp[hx]) 60 fun w₀ hF=>?_;walk_nrm;repeat w_but "code.loop" dW
 u_c stepG_loop dW hF
 refine stp rfl ?_;exact ax5 hP hx hT _ _ 0 false false 0 _ _ _ _ gN rfl (by omega) (by omega) eY gu jh (by simp) (by simp) ..
noncomputable def Ju:Code:=Try.f82.body.getD .skip
theorem ar0(hx:x.wg=.work)(hT:KT q i Ch s x b₁ a₁ eA fH ey k₁ cs₁){st:St eD}(hA:At s i {x with mx:=.fresh,df:=0} st):TT (cfg q) i Ch (G ((base 82).at ⟨#[.pointer (some ⟨s.Gb,4,none⟩),av,av,av,av,av],[]⟩ [.code Ju]) (b₁.at a₁ (.inRegion eA (fH::ey)::k₁)::cs₁)) st:=by
 simp only[Ju,Try.f82,aJ];refine TT.road hP hA (by simp[hx]) 80 fun w₀ hF=>?_;repeat w_go dW
 u_call Try.func119 Xw Try.f119 dW hF
 repeat w_go dW
 refine stp rfl ?_;clear hF w₀;refine TT.lG hP hA hx (mx:=.fresh) rfl (by simp) fun dV dX eO ek=>⟨_,_,_,1,stepG_mark0 .disable (by simp) rfl rfl (by k_ne) rfl Try.func91 qW rA qN f_disable,rfl,U1 0,rfl,eW.refl _,oI .disable (by simp),fun dY eo eN _ w₂ f₂ _=>?_⟩;clear ek dX eO;refine TT.road hP eo (by simp[hx]) 80 fun w₀ hF=>?_;walk_nrm;repeat w_go dW
 refine stp rfl ?_;clear hF w₀;refine TT.mu hP eo hx (mx:=.fresh) rfl (by simp) fun fx eJ fw eV p1 p2 p3 p4=>?_;by_cases hit:enc fx.γ.L fx.γ.W fx.γ.S fx.γ.N=0
 ·obtain⟨e1,e2,e3,e4⟩:=jY (hit.trans (by simp[enc]:(0:Int)=enc 0 0 0 0)) eV.mu.bd (by omega);refine⟨_,_,_,.own .Ah,1,1,0,0,0,fx.γ.tn,fx.γ.th,stepG_cas_hit rfl rfl (by k_ne) rfl Try.func132 ju jw js .i32 jv rfl rfl rfl (hit ▸ eV.gb.cell.2.1) (eV.gb.cell.2.2.2 4),rfl,kQ _ _,by simp,by simp,eV.mu.fast eJ.lo (eJ.hi fw) (fY eJ) ⟨e1,e2,e3,e4⟩,eV.gb.swap rfl (by simp[enc]),eW.set _ 4 _ (by omega),.inl (by simp[kF]),.inl (by omega),jq 4 (.inl rfl),.inr nle,fun fJ eF fN _ _ _ _=>?_⟩;clear eV eJ fw hit e1 e2 e3 e4 p1 p2 p3 p4;refine TT.road hP eF (by simp[hx]) 80 fun w₀ hF=>?_;walk_nrm;repeat w_go dW
  refine stp rfl ?_;clear hF w₀;refine TT.lG hP eF hx (mx:=.own .Ah) rfl (by simp) fun eT fh gB fD=>⟨_,_,_,0,stepG_mark0 .enable (by simp) rfl rfl (by k_ne) rfl Try.func92 je jl jd f_enable,rfl,Fx 0,rfl,eW.refl _,oI .enable (by simp),fun gN eY gu _ w₆ wM _=>?_⟩;clear fD fh gB;refine TT.road hP eY (by simp[hx]) 80 fun w₀ hF=>?_;walk_nrm;repeat w_go dW
  m_convG dS Try.underlying174 Si ag3 hF.choose_spec dW hF
  refine stp rfl ?_;clear hF w₀;refine TT.lG hP eY hx (mx:=.own .Ah) rfl (by simp) fun gM iA lV jS=>⟨_,_,_,0,stepG_markAt .acquire (by simp) rfl rfl (by k_ne) rfl Try.func105 Oe Pv Nj O6 (by simp[aU];rfl),rfl,U3 _ _ (by simp),rfl,eW.refl _,oI _ (by simp),fun xB lB zQ _ DK QT _=>?_⟩;clear jS iA lV;refine TT.road hP lB (by simp[hx]) 80 fun w₀ hF=>?_;walk_nrm;repeat w_go dW
  u_leave0 Try.func119 dW hF
  repeat w_go dW
  u_leave0 Try.func82 dW hF
  refine stp rfl ?_;exact hT xB lB zQ
 ·refine⟨_,_,_,.fresh,1,fx.γ.L,fx.γ.W,fx.γ.S,fx.γ.N,fx.γ.tn,fx.γ.th,stepG_cas_miss rfl rfl (by k_ne) rfl Try.func132 ju jw js .i32 jv rfl rfl rfl eV.gb.cell.2.1 (eV.gb.cell.2.2.2 4) hit,rfl,uN _ _,by simp,by simp,jJ.still eV eJ rfl,eV.gb.stay rfl rfl,eW.refl _,.inr ⟨rfl,rfl,rfl,rfl,rfl⟩,.inl nle,oH 4 (by omega),.inr nle,fun fJ eF fN _ w₄ _ jy=>?_⟩;clear eV eJ fw hit p1 p2 p3 p4;refine TT.road hP eF (by simp[hx]) 80 fun w₀ hF=>?_;walk_nrm;repeat w_go dW
  u_call Try.func133 ap3 Try.f133 dW hF
  refine stp rfl ?_;clear hF w₀;refine aj4 hP hx ?_ eF;intro eT fh gB;walk_nrm;refine TT.road hP fh (by simp[hx]) 80 fun w₀ hF=>?_;repeat w_go dW
  u_leave0 Try.func119 dW hF
  repeat w_go dW
  u_leave0 Try.func82 dW hF
  refine stp rfl ?_;exact hT eT fh gB
end
end
section
section
variable{q:iK}(hP:q.P=dS){i:Nat}{s:eI}{x:Wk}{Ch:Nat->ah->St eD->Prop}
variable{b₁:ai}{a₁:Act}{eA:Array Oper}{fH:Nat}{ey:List Nat}{k₁:List Item}{cs₁:List ai}
structure Hd(p:Prop):Prop where
 un:p
noncomputable def FT:Code:=Try.f135.body.getD .skip
noncomputable def BF:Code:=(iN ((Fl 12 FT).getD .skip)).getD .skip
def bG7(q:iK)(i:Nat)(Ch:Nat->ah->St eD->Prop)(s:eI)(x:Wk)(b₁:ai)(a₁:Act)(eA:Array Oper)(fH:Nat)(ey:List Nat)(k₁:List Item)(cs₁:List ai):Prop:=
 ∀(mx:MX) (st:St eD),(mx=.out\/∃old:Int,mx=.ul old/\∀N':Nat,1<=N'->old≠(8*N':Nat))->At s i {x with mx:=mx,df:=1} st->TT (cfg q) i Ch (G (b₁.at (a₁.put ((eA[fH]?).bind (·.dst)) (.tuple #[])) (.inRegion eA ey::k₁)) cs₁) st
include hP
theorem ai1(hx:x.wg=.work)(hT:bG7 q i Ch s x b₁ a₁ eA fH ey k₁ cs₁):∀(pr l w z N:Nat) (st:St eD),At s i {x with mx:=.ul (enc l w z N),df:=1} st->Rd s st pr l w z N->∀j1 j2 j3 j5 j6 j7 j8 j9 j10 j11 j12 j13 tA tz tv tq vt pz pq tj s7 sZ sY sX sW sV sU sS sQ sP sO sN sM sL sK sJ sI sH y8 y7 yZ:af,∀old:Int,old=enc l w z N->TT (cfg q) i Ch (G ((base 135).at ⟨#[.pointer (some ⟨s.Gb,4,none⟩),j1,j2,j3,.int .i32 old,j5,j6,j7,j8,j9,j10,j11,j12,j13,tA,tz,tv,tq,vt,pz,pq,tj,s7,sZ,sY,sX,sW,sV,sU,sS,sQ,sP,sO,sN,sM,sL,sK,sJ,sI,sH,y8,y7,yZ],[]⟩ [.code BF,.inLoop BF,.inBlock 0]) (b₁.at a₁ (.inRegion eA (fH::ey)::k₁)::cs₁)) st:=by
 intro pr;induction pr using Nat.strongRecOn with
 |_ pr ih=>
 intro l w z N st hA hR j1 j2 j3 j5 j6 j7 j8 j9 j10 j11 j12 j13 tA tz tv tq vt pz pq tj s7 sZ sY sX sW sV sU sS sQ sP sO sN sM sL sK sJ sI sH y8 y7 yZ old ho;have b1:=hR.l1;have b2:=hR.w1;have b3:=hR.z1;have b4:=hR.n9;have h7:bits aZ aK old 7=((l+2*w+4*z:Nat):Int):=by rw[ho];exact aB4 _ _ _ _ b1 b2 b3 (by omega)
 obtain⟨nn,hd,hnn⟩:∃nn:Int,old/8=nn/\nn=N:=⟨_,by rw[ho];exact UX _ _ _ _ b1 b2 b3,rfl⟩;by_cases h0:N=0
 ·
  obtain rfl:nn=0:=by omega
  replace ho:=Hd.mk ho;clear h7 hnn;simp only[BF,FT,iN,Fl,Try.f135,aJ,Nat.reduceEqDiff,↓reduceIte];refine TT.road hP hA (by simp[hx]) 60 fun w₀ hF=>?_;repeat w_go dW
  u_leave0 Try.func135 dW hF
  refine stp rfl ?_;exact hT _ st (.inr ⟨_,rfl,fun N' h=>by unfold enc;omega⟩) hA
 have hz0:(nn==0)=false:=by simp<;>omega
 by_cases h8:l+2*w+4*z=0
 ·have h7:bits aZ aK old 7=0:=by rw[h7,h8];rfl
  obtain⟨rfl,rfl,rfl⟩:l=0/\w=0/\z=0:=by omega
  have h9:bH aK (old-8)=enc 0 0 0 (N-1):=by rw[ho];exact aB3 _ _ _ _ b1 b2 b3 (by omega) (by omega)
  have h2:bits BinOp.or aK (enc 0 0 0 (N-1)) 2=enc 0 1 0 (N-1):=ad9 _ _ _ _ b1 b2 b3 (by omega);replace ho:=Hd.mk ho;clear hnn;simp only[BF,FT,iN,Fl,Try.f135,aJ,Nat.reduceEqDiff,↓reduceIte];refine TT.road hP hA (by simp[hx]) 80 fun w₀ hF=>?_;repeat w_go dW
  refine stp rfl ?_;clear hF w₀;refine TT.mu hP hA hx (mx:=.ul (enc 0 0 0 N)) rfl (by simp) fun dV dX eO ek p1 p2 p3 p4=>?_;have fE:=hR.later p1 p2;replace ho:=ho.un;by_cases hit:enc dV.γ.L dV.γ.W dV.γ.S dV.γ.N=old
  ·obtain⟨e1,e2,e3,e4⟩:=jY (hit.trans ho) ek.mu.bd ⟨by omega,by omega,by omega⟩;refine⟨_,_,_,.rel,1,dV.γ.L,1,dV.γ.S,dV.γ.N-1,dV.γ.tn,dV.γ.th,stepG_cas_hit rfl rfl (by k_ne) rfl Try.func132 ju jw js .i32 jv rfl rfl rfl (hit ▸ ek.gb.cell.2.1) (ek.gb.cell.2.2.2 4),rfl,kQ _ _,by simp,by simp,ek.mu.bz0 dX.lo (dX.hi eO) (fY dX) ⟨e1,e2,e3,by omega⟩,ek.gb.swap rfl (by rw[e1,e3,e4]),eW.set _ 4 _ (by omega),.inl (by simp[kF]),.inr fun j _ j1 j2=>ek.mu.bp7 e3 j1 j2,jq 4 (.inl rfl),.inr nle,fun dY eo eN _ _ _ f₂=>?_⟩;clear hit fE ek dX eO ho e1 e2 e3 e4;refine TT.road hP eo (by simp[hx]) 80 fun w₀ hF=>?_;walk_nrm;repeat w_go dW
   refine stp rfl ?_;clear hF w₀;refine TT.mu hP eo hx (mx:=.rel) rfl (by simp) fun eT fh gB fD q1 q2 q3 q4=>?_;have ht:=(fD.mu.nine fD.n0.2.2.2).2;refine⟨_,_,_,.out,1,eT.γ.L,eT.γ.W,eT.γ.S,eT.γ.N,eT.γ.tn+1,eT.γ.th,stepG_semrelease rfl rfl (by k_ne) rfl Try.func145 TE G5 R4 UM (by simp[aU]) fD.gb.cell.2.2.1 (fD.gb.cell.2.2.2 5),rfl,ML _ _,by simp,by simp,fD.mu.ak7 fh.lo (fh.hi gB) (fY fh),fD.gb.sema (by rw[IntKind.wrap_u32];omega),eW.set _ 5 _ (by omega),.inl (by simp[kF]<;>omega),.inl nle,GU,.inl (mayWake_entry rfl rfl Try.func145 G5),fun gN eY gu _ _ _ _=>?_⟩;clear fD fh gB q1 q2 q3 q4 ht;refine TT.road hP eY (by simp[hx]) 80 fun w₀ hF=>?_;walk_nrm;repeat w_go dW
   u_leave0 Try.func135 dW hF
   refine stp rfl ?_;exact hT _ gN (.inl rfl) eY
  ·refine⟨_,_,_,.ul (enc 0 0 0 N),1,dV.γ.L,dV.γ.W,dV.γ.S,dV.γ.N,dV.γ.tn,dV.γ.th,stepG_cas_miss rfl rfl (by k_ne) rfl Try.func132 ju jw js .i32 jv rfl rfl rfl ek.gb.cell.2.1 (ek.gb.cell.2.2.2 4) hit,rfl,uN _ _,by simp,by simp,jJ.still ek dX rfl,ek.gb.stay rfl rfl,eW.refl _,.inr ⟨rfl,rfl,rfl,rfl,rfl⟩,.inl nle,oH 4 (by omega),.inr nle,fun dY eo eN _ w₂ _ f₂=>?_⟩;have hlt:phi dY.γ s<pr:=by
    refine cV (by have:=fE.le;omega) fun e=>hit ?_;obtain⟨a,b,c,d⟩:=fE.eq (by omega);rw[a,b,c,d,ho]
   clear hit fE ek dX eO ho;refine TT.road hP eo (by simp[hx]) 80 fun w₀ hF=>?_;walk_nrm;repeat w_go dW
   refine stp rfl ?_;clear hF w₀;refine TT.mu hP eo hx (mx:=.ul (enc 0 0 0 N)) rfl (by simp) fun eT fh gB fD q1 q2 _ _=>⟨_,_,_,.ul (enc eT.γ.L eT.γ.W eT.γ.S eT.γ.N),1,eT.γ.L,eT.γ.W,eT.γ.S,eT.γ.N,eT.γ.tn,eT.γ.th,fF rfl rfl (by k_ne) rfl rfl fD.gb.cell.2.1 WR,rfl,rfl,by simp,by simp,fD.mu.look fh.lo (fh.hi gB) (fY fh),fD.gb.stay rfl rfl,eW.refl _,.inr ⟨by simp[kF],rfl,rfl,rfl,rfl⟩,.inl nle,gy,.inr nle,fun gN eY gu _ w₆ _ wM=>?_⟩;have jh:=Rd.now (gu.eZ s eY.sc).c;rw[w₆.1,w₆.2.1,w₆.2.2.1,w₆.2.2.2]at jh;have wM:phi gN.γ s=phi eT.γ s:=by simp only[kF]at wM;omega
   refine TT.road hP eY (by simp[hx]) 60 fun w₀ hF=>?_;walk_nrm;repeat w_nl dW
   u_c stepG_inLoop dW hF
   refine stp rfl ?_;exact ih _ (by omega) _ _ _ _ gN eY jh _ _ _ _ _ _ _ _ _ _ _ _ _ _ _ _ _ _ _ _ _ _ _ _ _ _ _ _ _ _ _ _ _ _ _ _ _ _ _ _ _ _ rfl
 ·
  have h7':(bits aZ aK old 7 != 0)=true:=by rw[h7];simp<;>omega
  replace ho:=Hd.mk ho;clear h7 hnn;simp only[BF,FT,iN,Fl,Try.f135,aJ,Nat.reduceEqDiff,↓reduceIte];refine TT.road hP hA (by simp[hx]) 60 fun w₀ hF=>?_;repeat w_go dW
  u_leave0 Try.func135 dW hF
  refine stp rfl ?_;exact hT _ st (.inr ⟨_,rfl,fun N' h=>by unfold enc;omega⟩) hA
end
end
section
section
variable{q:iK}(hP:q.P=dS){i:Nat}{s:eI}{x:Wk}{Ch:Nat->ah->St eD->Prop}
variable{b₁:ai}{a₁:Act}{eA:Array Oper}{fH:Nat}{ey:List Nat}{k₁:List Item}{cs₁:List ai}
def bG6(q:iK)(i:Nat)(Ch:Nat->ah->St eD->Prop)(s:eI)(x:Wk)(b₁:ai)(a₁:Act)(eA:Array Oper)(fH:Nat)(ey:List Nat)(k₁:List Item)(cs₁:List ai):Prop:=
 ∀st:St eD,At s i {x with mx:=.out,df:=0} st->Inv q st->TT (cfg q) i Ch (G (b₁.at (a₁.put ((eA[fH]?).bind (·.dst)) (.tuple #[])) (.inRegion eA ey::k₁)) cs₁) st
noncomputable def OM:Code:=Try.f120.body.getD .skip
include hP
theorem QH(hx:x.wg=.work)(hT:bG6 q i Ch s x b₁ a₁ eA fH ey k₁ cs₁){o:Hg}(ho:o≠ .work){st:St eD}(hA:At s i {x with mx:=.own o,df:=0} st):TT (cfg q) i Ch (G ((base 120).at ⟨#[.pointer (some ⟨s.Gb,4,none⟩),av,av,av,av,av,av,av,av,av,av,av,av,av,av,av,av,av,av,av,av],[]⟩ [.code OM]) (b₁.at a₁ (.inRegion eA (fH::ey)::k₁)::cs₁)) st:=by
 have ho:MX.own o≠ .own .work:=by simpa using ho
 simp only[OM,Try.f120,aJ];refine TT.road hP hA (by simp[hx]) 80 fun w₀ hF=>?_;repeat w_go dW
 refine stp rfl ?_;clear hF w₀;refine TT.lG hP hA hx (mx:=.own o) rfl ho fun dV dX eO ek=>⟨_,_,_,0,fF rfl rfl (by k_ne) rfl rfl ek.gb.cell.2.1 P4,rfl,rfl,rfl,eW.refl _,gy,fun dY eo eN _ w₂ f₂ _=>?_⟩;clear ek dX eO;refine TT.road hP eo (by simp[hx]) 80 fun w₀ hF=>?_;walk_nrm;repeat w_go dW
 m_convG dS Try.underlying174 Si ag3 hF.choose_spec dW hF
 refine stp rfl ?_;clear hF w₀;refine TT.lG hP eo hx (mx:=.own o) rfl ho fun fx eJ fw eV=>⟨_,_,_,0,stepG_markAt .releaseMerge (by simp) rfl rfl (by k_ne) rfl Try.func90 ZT ae6 Zk ad7 (by simp[aU];rfl),rfl,U3 _ _ (by simp),rfl,eW.refl _,oI _ (by simp),fun fJ eF fN _ w₄ jy _=>?_⟩;clear eV eJ fw;refine TT.road hP eF (by simp[hx]) 80 fun w₀ hF=>?_;walk_nrm;repeat w_go dW
 refine stp rfl ?_;clear hF w₀;refine TT.lG hP eF hx (mx:=.own o) rfl ho fun eT fh gB fD=>⟨_,_,_,1,stepG_mark0 .disable (by simp) rfl rfl (by k_ne) rfl Try.func91 qW rA qN f_disable,rfl,U1 0,rfl,eW.refl _,oI .disable (by simp),fun gN eY gu _ w₆ wM _=>?_⟩;clear fD fh gB;refine TT.road hP eY (by simp[hx]) 80 fun w₀ hF=>?_;walk_nrm;repeat w_go dW
 refine stp rfl ?_;clear hF w₀;refine TT.mu hP eY hx (mx:=.own o) rfl ho fun gM iA lV jS p1 p2 p3 p4=>?_;have e1:=jS.mu.a95 iA.lo (iA.hi lV) (fY iA);have hn:=(jS.mu.nine jS.n0.2.2.2).1;have hb:=jS.mu.bd;have hv:bH .i32 (enc gM.γ.L gM.γ.W gM.γ.S gM.γ.N+ -1)=enc 0 gM.γ.W gM.γ.S gM.γ.N:=by rw[e1,dJ];unfold enc;omega
 by_cases hS:gM.γ.S=1
 ·
  refine⟨_,_,_,.unl,1,0,gM.γ.W,gM.γ.S,gM.γ.N,gM.γ.tn,gM.γ.th,stepG_add_atomic rfl rfl (by k_ne) rfl Try.func134 Ce Dq Bz .i32 f_add rfl rfl jS.gb.cell.2.1 (jS.gb.cell.2.2.2 4),rfl,kQ _ _,by simp,by simp,jS.mu.ar5 iA.lo (iA.hi lV) (fY iA) hS,jS.gb.swap rfl hv,eW.set _ 4 _ (by omega),.inl (by simp[kF]),.inl nle,jq 4 (.inl rfl),.inr nle,fun xB lB zQ _ DK _ QT=>?_⟩;rw[hv];rw[hS];have hw:=hb.2.1;generalize gM.γ.W=yA at hw ⊢;generalize gM.γ.N=nR at hn ⊢;have hne:(enc 0 yA 1 nR != 0)=true:=by simp[enc]<;>omega
  have h1:bH aK (enc 0 yA 1 nR+1)=enc 1 yA 1 nR:=by rw[dJ];unfold enc;omega
  have h11:bits aZ aK (enc 1 yA 1 nR) 1=1:=Df 1 yA 1 nR (by omega) hw (by omega) (by omega);have h4:bits aZ aK (enc 0 yA 1 nR) 4=4:=mB 0 yA 1 nR (by omega) hw (by omega) (by omega);clear hv e1 hS hb jS iA lV p1 p2 p3 p4 QT DK;refine TT.road hP lB (by simp[hx]) 80 fun w₀ hF=>?_;walk_nrm;repeat w_go dW
  u_call Try.func135 NW Try.f135 dW hF
  repeat w_go dW
  refine stp rfl ?_;clear hF w₀;refine TT.mu hP lB hx (mx:=.unl) rfl (by simp) fun stA Hw hIA QS q1 q2 q3 q4=>?_;have ht:=(QS.mu.nine QS.n0.2.2.2).2;refine⟨_,_,_,.out,1,stA.γ.L,stA.γ.W,stA.γ.S,stA.γ.N,stA.γ.tn,stA.γ.th+1,stepG_semrelease rfl rfl (by k_ne) rfl Try.func145 TE G5 R4 UM (by simp[aU]) QS.gb.cell.2.2.1 (QS.gb.cell.2.2.2 5),rfl,ML _ _,by simp,by simp,QS.mu.ak8 Hw.lo (Hw.hi hIA) (fY Hw),QS.gb.sema (by rw[IntKind.wrap_u32];omega),eW.set _ 5 _ (by omega),.inl (by simp[kF]<;>omega),.inl nle,GU,.inl (mayWake_entry rfl rfl Try.func145 G5),fun Sj tD O0 _ _ _ _=>?_⟩;clear QS Hw hIA q1 q2 q3 q4 ht;refine TT.road hP tD (by simp[hx]) 80 fun w₀ hF=>?_;walk_nrm;repeat w_go dW
  u_leave0 Try.func135 dW hF
  repeat w_go dW
  refine stp rfl ?_;clear hF w₀;refine TT.lG hP tD hx (mx:=.out) rfl (by simp) fun Nq El Mx O2=>⟨_,_,_,0,stepG_mark0 .enable (by simp) rfl rfl (by k_ne) rfl Try.func92 je jl jd f_enable,rfl,Fx 0,rfl,eW.refl _,oI .enable (by simp),fun VS KZ hIC _ wC fC _=>?_⟩;clear O2 El Mx;refine TT.road hP KZ (by simp[hx]) 80 fun w₀ hF=>?_;walk_nrm;repeat w_go dW
  u_leave0 Try.func120 dW hF
  refine stp rfl ?_;exact hT VS KZ hIC
 have hS:gM.γ.S=0:=by have:=hb.2.2;omega
 by_cases h0:gM.γ.W=0/\gM.γ.N=0
 ·
  refine⟨_,_,_,.out,1,0,gM.γ.W,gM.γ.S,gM.γ.N,gM.γ.tn,gM.γ.th,stepG_add_atomic rfl rfl (by k_ne) rfl Try.func134 Ce Dq Bz .i32 f_add rfl rfl jS.gb.cell.2.1 (jS.gb.cell.2.2.2 4),rfl,kQ _ _,by simp,by simp,jS.mu.aS8 iA.lo (iA.hi lV) (fY iA) ⟨h0.1,hS,h0.2⟩,jS.gb.swap rfl hv,eW.set _ 4 _ (by omega),.inl (by simp[kF]),.inl nle,jq 4 (.inl rfl),.inr nle,fun xB lB zQ _ DK _ QT=>?_⟩;rw[hv];have he:enc 0 gM.γ.W gM.γ.S gM.γ.N=0:=by rw[hS,h0.1,h0.2];rfl
  rw[he];clear hv e1 hS hb jS iA lV p1 p2 p3 p4 QT DK h0 he hn;refine TT.road hP lB (by simp[hx]) 80 fun w₀ hF=>?_;walk_nrm;repeat w_go dW
  refine stp rfl ?_;clear hF w₀;refine TT.lG hP lB hx (mx:=.out) rfl (by simp) fun Nq El Mx O2=>⟨_,_,_,0,stepG_mark0 .enable (by simp) rfl rfl (by k_ne) rfl Try.func92 je jl jd f_enable,rfl,Fx 0,rfl,eW.refl _,oI .enable (by simp),fun VS KZ hIC _ wC fC _=>?_⟩;clear O2 El Mx;refine TT.road hP KZ (by simp[hx]) 80 fun w₀ hF=>?_;walk_nrm;repeat w_go dW
  u_leave0 Try.func120 dW hF
  refine stp rfl ?_;exact hT VS KZ hIC
 ·
  have hul:enc 0 gM.γ.W 0 gM.γ.N=((2*gM.γ.W+8*gM.γ.N:Nat):Int):=by unfold enc;omega
  refine⟨_,_,_,.ul (enc 0 gM.γ.W 0 gM.γ.N),1,0,gM.γ.W,gM.γ.S,gM.γ.N,gM.γ.tn,gM.γ.th,stepG_add_atomic rfl rfl (by k_ne) rfl Try.func134 Ce Dq Bz .i32 f_add rfl rfl jS.gb.cell.2.1 (jS.gb.cell.2.2.2 4),rfl,kQ _ _,by simp,by simp,by rw[hul];exact jS.mu.ar4 iA.lo (iA.hi lV) (fY iA) hS,jS.gb.swap rfl hv,eW.set _ 4 _ (by omega),.inl (by simp[kF]),.inl nle,jq 4 (.inl rfl),.inr nle,fun xB lB zQ _ DK _ QT=>?_⟩;rw[hv];rw[hS];have ab9:=Rd.now (zQ.eZ s lB.sc).c;rw[DK.1,DK.2.1,DK.2.2.1,DK.2.2.2,hS]at ab9;have hw:=hb.2.1;have hne:(enc 0 gM.γ.W 0 gM.γ.N != 0)=true:=by simp[enc]<;>omega
  clear hv e1 hS hb jS iA lV p1 p2 p3 p4 QT DK hul h0;generalize gM.γ.W=yA at*;generalize gM.γ.N=nR at*;have h1:bH aK (enc 0 yA 0 nR+1)=enc 1 yA 0 nR:=by rw[dJ];unfold enc;omega
  have h11:bits aZ aK (enc 1 yA 0 nR) 1=1:=Df 1 yA 0 nR (by omega) hw (by omega) (by omega);have h4:bits aZ aK (enc 0 yA 0 nR) 4=0:=mB 0 yA 0 nR (by omega) hw (by omega) (by omega);refine TT.road hP lB (by simp[hx]) 80 fun w₀ hF=>?_;walk_nrm;repeat w_go dW
  u_call Try.func135 NW Try.f135 dW hF
  repeat w_but "code.loop" dW
  u_c stepG_loop dW hF
  refine stp rfl ?_;refine ai1 hP hx ?_ _ _ _ _ _ xB lB ab9 _ _ _ _ _ _ _ _ _ _ _ _ _ _ _ _ _ _ _ _ _ _ _ _ _ _ _ _ _ _ _ _ _ _ _ _ _ _ _ _ _ _ rfl;intro mx stA hm Hw;walk_nrm;refine TT.road hP Hw (by simp[hx]) 80 fun w₀ hF=>?_;repeat w_go dW
  refine stp rfl ?_;clear hF w₀;rcases hm with rfl|⟨old,rfl,hold⟩
  ·refine TT.lG hP Hw hx (mx:=.out) rfl (by simp) fun Nq El Mx O2=>⟨_,_,_,0,stepG_mark0 .enable (by simp) rfl rfl (by k_ne) rfl Try.func92 je jl jd f_enable,rfl,Fx 0,rfl,eW.refl _,oI .enable (by simp),fun VS KZ hIC _ _ _ _=>?_⟩;clear O2 El Mx;refine TT.road hP KZ (by simp[hx]) 80 fun w₀ hF=>?_;walk_nrm;repeat w_go dW
   u_leave0 Try.func120 dW hF
   refine stp rfl ?_;exact hT VS KZ hIC
  ·refine TT.mu hP Hw hx (mx:=.ul old) rfl (by simp) fun Nq El Mx O2 q1 q2 _ _=>⟨_,_,_,.out,0,Nq.γ.L,Nq.γ.W,Nq.γ.S,Nq.γ.N,Nq.γ.tn,Nq.γ.th,stepG_mark0 .enable (by simp) rfl rfl (by k_ne) rfl Try.func92 je jl jd f_enable,rfl,Fx 0,by simp,by simp,O2.mu.leave El.lo (El.hi Mx) (fY El) hold,O2.gb.stay rfl rfl,eW.refl _,.inl (by simp[kF]),.inl nle,oI .enable (by simp),.inr nle,fun VS KZ hIC _ _ _ _=>?_⟩;clear O2 El Mx q1 q2;refine TT.road hP KZ (by simp[hx]) 80 fun w₀ hF=>?_;walk_nrm;repeat w_go dW
   u_leave0 Try.func120 dW hF
   refine stp rfl ?_;exact hT VS KZ hIC
end
end
theorem ap7:(Try.f136.name== "runtime.NumGoroutine")=false:=kr
theorem aC4:Try.f136.body.isNone=true:=kr
theorem ag7:bQ Try.f136=none:=kr
theorem az9:cW Try.f136=some (Extern.Atomic.loadT (.int .u32)):=kr
theorem TB:(Try.f146.name== "runtime.NumGoroutine")=false:=kr
theorem Vn:Try.f146.body.isNone=true:=kr
theorem R3:bQ Try.f146=none:=kr
theorem UL:cW Try.f146=some Extern.Atomic.storeT:=kr
theorem N9:(Try.f126.name== "runtime.NumGoroutine")=false:=kr
theorem TH:(Try.f137.name== "runtime.NumGoroutine")=false:=kr
theorem aS0:(Try.f147.name== "runtime.NumGoroutine")=false:=kr
theorem aR9:(Try.f103.name== "runtime.NumGoroutine")=false:=kr
theorem TG:(Try.f127.name== "runtime.NumGoroutine")=false:=kr
theorem ap6:(Try.f82.name== "runtime.NumGoroutine")=false:=kr
theorem I3:(Try.f83.name== "runtime.NumGoroutine")=false:=kr
theorem ao9:(Try.f104.name== "runtime.NumGoroutine")=false:=kr
theorem Xu:(Try.f66.name== "runtime.NumGoroutine")=false:=kr
section
section
variable{q:iK}(hP:q.P=dS){i:Nat}{s:eI}{x:Wk}{Ch:Nat->ah->St eD->Prop}
variable{b₁:ai}{a₁:Act}{eA:Array Oper}{fH:Nat}{ey:List Nat}{k₁:List Item}{cs₁:List ai}
noncomputable def FB:Code:=Try.f126.body.getD .skip
include hP
theorem Pp(hx:x.wg=.work)(mg:x.df=0)(n1:x.mx≠ .own .work)
  (h1:∀st':St eD,At s i {x with syn:=true} st'->Inv q st'->st'.γ.D=1->TT (cfg q) i Ch (G (b₁.at (a₁.put ((eA[fH]?).bind (·.dst)) (.bool true)) (.inRegion eA ey::k₁)) cs₁) st')
  (h0:x.mx≠ .own .Ah->∀st':St eD,At s i x st'->Inv q st'->TT (cfg q) i Ch (G (b₁.at (a₁.put ((eA[fH]?).bind (·.dst)) (.bool false)) (.inRegion eA ey::k₁)) cs₁) st')
  (hw:x.mx=.own .Ah->∀st':St eD,At s i {x with mx:=.own .work} st'->Inv q st'->TT (cfg q) i Ch (G (b₁.at (a₁.put ((eA[fH]?).bind (·.dst)) (.bool false)) (.inRegion eA ey::k₁)) cs₁) st')
  {st:St eD}(hA:At s i x st):TT (cfg q) i Ch (G ((base 126).at ⟨#[.pointer (some ⟨s.Gb,3,none⟩),av,av,av,av,av,av,av],[]⟩ [.code FB]) (b₁.at a₁ (.inRegion eA (fH::ey)::k₁)::cs₁)) st:=by
 simp only[FB,Try.f126,aJ];refine TT.road hP hA (by simp[hx]) 60 fun w₀ hF=>?_;repeat w_go dW
 refine stp rfl ?_;clear hF w₀;refine TT.aS5 hP hA hx mg n1 fun dV dX eO ek=>⟨_,stepG_load_atomic rfl rfl (by k_ne) rfl Try.func136 ap7 aC4 ag7 .u32 az9 rfl ek.gb.cell.1,rfl,fun hD dY eo eN UA=>?_,fun hD hm dY eo eN=>?_,fun hD hm dY eo eN=>?_⟩;all_goals(rw[hD];clear hD ek eO dX)
 ·refine TT.road hP eo (by simp[hx]) 60 fun w₀ hF=>?_;walk_nrm;repeat w_go dW
  u_leave1 Try.func126 dW hF
  refine stp rfl ?_;exact h1 dY eo eN UA
 ·refine TT.road hP eo (by simp[hx]) 60 fun w₀ hF=>?_;walk_nrm;repeat w_go dW
  u_leave1 Try.func126 dW hF
  refine stp rfl ?_;exact h0 hm dY eo eN
 ·refine TT.road hP eo (by simp[hx]) 60 fun w₀ hF=>?_;walk_nrm;repeat w_go dW
  u_leave1 Try.func126 dW hF
  refine stp rfl ?_;exact hw hm dY eo eN
end
end
section
section
variable{q:iK}(hP:q.P=dS){i:Nat}{s:eI}{x:Wk}{Ch:Nat->ah->St eD->Prop}{cs₁:List ai}
noncomputable def Dn:Code:=Try.f137.body.getD .skip
def jW(q:iK)(i:Nat)(s:eI)(x:Wk)(l:Array Bool)(st:St eD):Prop:=
 if l.getD 5 true=true then At s i {x with mx:=.own .dn,syn:=true} st/\Inv q st
 else At s i x st/\Inv q st/\∀id,1<=id->id<=s.nn->st.w.cell? ⟨s.Gb,6+id,none⟩=some (.int .u64 (s.vals id))
theorem jW.keep{l:Array Bool}{j:Nat}(hj:j≠5){st:St eD}(hx:x.wg=.work)(n1:x.mx=.own .work)(hnn:s.nn<=9)(h:jW q i s x l st):(∃x:Wk,(x.wg≠ .lv/\x.wg≠ .gone/\x.wg≠ .idle)/\At s i x st)/\∀dV,Rl i st dV->Inv q dV->jW q i s x (l.setIfInBounds j true) dV:=by
 unfold jW at h ⊢;rw[getD_set_ne true hj];split at h
 ·rename_i e;refine⟨⟨_,by simp[hx],h.1⟩,fun dV hr hi=>?_⟩;rw[if_pos e];exact⟨h.1.rely (by simp[hx]) hr hi,hi⟩
 ·rename_i e;refine⟨⟨x,by simp[hx],h.1⟩,fun dV hr hi=>?_⟩;rw[if_neg e];refine⟨h.1.rely (by simp[hx]) hr hi,hi,fun id i1 i2=>?_⟩;exact(hr.work h.1.ne (by rw[h.1.me,hx];simp) (by rw[h.1.me,hx];simp) (by rw[h.1.me];exact n1) s h.1.sc (6+id) (by omega) (by omega)).trans (h.2.2 id i1 i2)
theorem jW.stay{l:Array Bool}{st:St eD}(hx:x.wg=.work)(n1:x.mx=.own .work)(hnn:s.nn<=9)(h:jW q i s x l st):(∃x:Wk,(x.wg≠ .lv/\x.wg≠ .gone/\x.wg≠ .idle)/\At s i x st)/\∀dV,Rl i st dV->Inv q dV->jW q i s x l dV:=by
 unfold jW at h ⊢;split at h
 ·rename_i e;refine⟨⟨_,by simp[hx],h.1⟩,fun dV hr hi=>?_⟩;rw[if_pos e];exact⟨h.1.rely (by simp[hx]) hr hi,hi⟩
 ·rename_i e;refine⟨⟨x,by simp[hx],h.1⟩,fun dV hr hi=>?_⟩;rw[if_neg e];refine⟨h.1.rely (by simp[hx]) hr hi,hi,fun id i1 i2=>?_⟩;exact(hr.work h.1.ne (by rw[h.1.me,hx];simp) (by rw[h.1.me,hx];simp) (by rw[h.1.me];exact n1) s h.1.sc (6+id) (by omega) (by omega)).trans (h.2.2 id i1 i2)
theorem jW.inv{l:Array Bool}{st:St eD}(h:jW q i s x l st):Inv q st:=by
 unfold jW at h;split at h
 ·exact h.2
 ·exact h.2.1
include hP
theorem a91{x':Wk}(hx:x'.wg≠ .lv/\x'.wg≠ .gone/\x'.wg≠ .idle){b₁:ai}{a₁:Act}{eA:Array Oper}{fH:Nat}{ey:List Nat}{k₁:List Item}{st:St eD}(hA:At s i x' st)
  (hT:TT (cfg q) i Ch (G (b₁.at (a₁.put ((eA[fH]?).bind (·.dst)) (.int .u32 1)) (.inRegion eA ey::k₁)) cs₁) st):
  TT (cfg q) i Ch (G (bO dS 147 #[.bool true] .normal) (b₁.at a₁ (.inRegion eA (fH::ey)::k₁)::cs₁)) st:=by
 rw[enter_at (P:=dS) _ Try.func147 rfl];simp only[Try.f147];refine TT.road hP hA hx 60 fun w₀ hF=>?_;walk_nrm;repeat w_go dW
 u_leave1 Try.func147 dW hF
 exact Goes.stop (fun w₁ r₁=>⟨rfl,hT⟩)
theorem Vi(hx:x.wg=.work)(mg:x.df=0)(n1:x.mx=.own .work)(hnn:s.nn<=9)(aw8:Try.prog.follows .mixedOrders=true){c:ai}(hc:c.mode=.returning)
  (hT:∀st':St eD,At s i {x with mx:=.own .dn,syn:=true} st'->Inv q st'->TT (cfg q) i Ch (G c cs₁) st')
  {st:St eD}(hA:At s i x st)(hv:∀id,1<=id->id<=s.nn->st.w.cell? ⟨s.Gb,6+id,none⟩=some (.int .u64 (s.vals id))):
  TT (cfg q) i Ch (G ((baseD 137).at ⟨#[.pointer (some ⟨s.Gb,3,none⟩),.bool true,av,av,av,av,av,av,av,av],[]⟩ [.code Dn]) (c::cs₁)) st:=by
 simp only[Dn,Try.f137,aJ];refine TT.ask hP hA hx fun dV dX eO=>⟨_,stepG_region_draw,rfl,fun dY eo eN hsh=>?_⟩;simp only[Region.schedule,aw8,Bool.true_or,if_true,Region.linearise];have aU6:∀id,1<=id->id<=s.nn->dY.w.cell? ⟨s.Gb,6+id,none⟩=some (.int .u64 (s.vals id)):=fun id i1 i2=>(hsh n1 (6+id) (by omega) (by omega)).trans (hv id i1 i2);refine Dr (S:=jW q i s x) (md:=.any) (F:=fun l a=>l.getD 5 true=true/\a.defers=[]) ?_ ?_ _ _ _ _ dY ?_ ?_
 ·intro l a st' ⟨hl,hd⟩ hs;unfold jW at hs;rw[if_pos hl]at hs;obtain⟨tm,df⟩:=a;simp only at hd;subst hd;refine TT.road hP hs.1 (by simp[hx]) 60 fun w₀ hF=>?_;repeat w_go dW
  u_in dW hF
  rw[stepG_leave_deferred rfl rfl Try.func137 (results_none rfl _ _ _) (events_results_none rfl _ _) hc];simp only[goes_go];refine⟨by u_nil,?_⟩;refine stp rfl ?_;exact hT st' hs.1 hs.2
 ·intro j l a o rest st' ho _ hw;exfalso;rcases j with _|_|_|_|_|_|j<;>simp at ho<;>subst ho<;>simp[bg]at hw
 ·have keep:∀(j:Nat),j≠5->∀(l:Array Bool) (st:St eD),l.getD j true=false->jW q i s x l st->(∃x:Wk,(x.wg≠ .lv/\x.wg≠ .gone/\x.wg≠ .idle)/\At s i x st)/\∀dV,Rl i st dV->Inv q dV->jW q i s x (l.setIfInBounds j true) dV:=fun j hj l st _ hs=>hs.keep hj hx n1 hnn;change Hq (cfg q) i Ch _ _ [] _ _ .any _ 6 #[false,false,false,false,false,false] _;refine eH (i':=0) (v:=.pointer (some ⟨s.Gb,3,none⟩)) rfl kr kr kr (.inl ⟨rfl,Does.quiet hP rfl (by decide) (keep 0 (by decide)) (fun w=>rfl) (fun a w h=>by unfold listed;rw[h];rfl)⟩) ?_;refine eH (i':=1) (v:=.pointer (some ⟨s.Gb,3,none⟩)) rfl kr kr kr (.inl ⟨rfl,Does.quiet hP rfl (by decide) (keep 1 (by decide)) (fun w=>rfl) (fun a w h=>by unfold listed;rw[h];rfl)⟩) ?_;refine eH (i':=2) (v:=.pointer (some ⟨s.Gb,3,none⟩)) rfl kr kr kr (.inl ⟨rfl,Does.quiet hP rfl (by decide) (keep 2 (by decide)) (fun w=>rfl) (fun a w h=>by unfold listed;rw[h];rfl)⟩) ?_;refine eH (i':=3) (v:=.bool true) rfl kr kr kr (.inl ⟨rfl,Does.quiet hP rfl (by decide) (keep 3 (by decide)) (fun w=>rfl) (fun a w h=>by unfold listed;rw[h];rfl)⟩) ?_;refine eH (i':=4) (v:=.int .u32 1) rfl kr kr kr (.inl ⟨rfl,Does.call hP rfl (by decide) rfl Try.func147 aS0 rfl (by simp[aU,Act.put];rfl) (fun l st hs=>hs.stay hx n1 hnn) ?_⟩) ?_
  ·intro l a rest st hl hs fin;obtain⟨⟨x',hx',hAx⟩,-⟩:=hs.stay hx n1 hnn;refine a91 hP hx' hAx ?_;exact fin st ((keep 4 (by decide) l st hl hs).2 st (Rl.refl i st) hs.inv)
  refine eH (i':=5) (v:=.tuple #[]) rfl kr kr kr (.inl ⟨rfl,?_⟩) ⟨kr,kr,rfl⟩;intro l a rest st hl hs he hw hn;have hlen:5<l.size:=by
   refine Nat.lt_of_not_le fun hge=>?_;simp[Array.getD,Nat.not_lt.2 hge]at hl
  unfold jW at hs;rw[if_neg (by rw[hl];decide)]at hs;have e1:=he.trans (show _=callFunc 146 #[.pointer (some ⟨s.Gb,3,none⟩),.int .u32 1]from(execOp_call_func rfl).trans (by simp[aU,Act.put]));refine TT.ai7 hP hs.1 hx mg n1 hs.2.2 hnn fun dV dX eO ek=>⟨_,?_,rfl,fun dY eo eN=>hn dY ?_⟩
  ·have hr:=run_call_store (P:=dS) Try.func146 TB Vn R3 UL ek.gb.cell.1 (ek.gb.cell.2.2.2 3) (k:=.u32) (y:=1);have hv:=events_call_store (P:=dS) Try.func146 TB Vn R3 UL ek.gb.cell.1 (ek.gb.cell.2.2.2 3) (k:=.u32) (y:=1);rw[stepG_value (v:=.tuple #[]) (w':=dV.w.setCell ⟨s.Gb,3,none⟩ (.int .u32 1)) rfl hw (by decide) (by rw[e1];exact hr)];unfold listed;rw[e1,hv,seen_extern_sync]
  ·unfold jW;rw[if_pos (by simp[Array.getD,hlen])];exact⟨eo,eN⟩
 ·unfold jW;rw[if_neg (by decide)];exact⟨eo,eN,aU6⟩
end
end
section
theorem MB{P:au}{main:Bool}{b:ai}{a:Act}{k:List Item}{cs:List ai}{w:ae}{ops:Array Oper}{i:Nat}{rest:List Nat}{o:Oper}{K:ah->ae->Array Event->Prop}{f:ak}{fn:Func}{c:Code}{y:Operand}{ats:Array aj}{first:Array af}
  (ho:ops[i]?=some o)(hw:bg o (yielded ops a.tmps)=true)(hk:b.kind≠ .early)(hop:o.op=.call {callee:=.value y,args:=#[],argTypes:=ats})(hy:a.eval y=.func (.func f) first #[])
  (hf:P.funcs[f]?=some fn)(hname:(fn.name== "runtime.NumGoroutine")=false)(hb:fn.body=some c)
  (h:K (G ((base f).at {tmps:=first++Array.replicate (fn.ntmps-first.size) av,defers:=[]} [.code c]) (b.at a (.inRegion ops (i::rest)::k)::cs)) w #[]):
  (stepG P main (G (b.at a (.inRegion ops (i::rest)::k)) cs) w).goes K:=by
 have h1:¬fn.name= "runtime.NumGoroutine" :=by simpa using hname
 have hr:(ax a.eval o).run P w=.ok (.enter f first) w:=by
  unfold ax;simp[hop,resolve,Deferred.ofValue,invoke,callFunc,hf,h1,hb,hy]
 have he:(ax a.eval o).events P w #[]=#[]:=by
  unfold ax;simp[hop,resolve,Deferred.ofValue,invoke,callFunc,hf,h1,hb,hy]
 rw[stepG_enter ho hw hk hr,enter_at _ hf hb];have:listed P b.fn a o w=#[]:=by unfold listed;rw[he];exact seen_none P _
 rw[this];exact h
section
variable{q:iK}(hP:q.P=dS){i:Nat}{s:eI}{x:Wk}{Ch:Nat->ah->St eD->Prop}
variable{b₁:ai}{a₁:Act}{eA:Array Oper}{fH:Nat}{ey:List Nat}{k₁:List Item}{cs₁:List ai}
def Laid(s:eI)(st:St eD):Prop:=∀id,1<=id->id<=s.nn->st.w.cell? ⟨s.Gb,6+id,none⟩=some (.int .u64 (s.vals id))
noncomputable def lL:Code:=Try.f104.body.getD .skip
def zx(q:iK)(i:Nat)(Ch:Nat->ah->St eD->Prop)(s:eI)(x:Wk):Prop:=
 ∀(b₁:ai) (a₁:Act) (eA:Array Oper) (fH:Nat) (ey:List Nat) (k₁:List Item) (cs₁:List ai) (st:St eD),At s i {x with mx:=.own .work,df:=0} st->Inv q st->
  (∀st':St eD,At s i {x with mx:=.own .work,df:=0} st'->Inv q st'->Laid s st'->TT (cfg q) i Ch (G (b₁.at (a₁.put ((eA[fH]?).bind (·.dst)) (.tuple #[])) (.inRegion eA ey::k₁)) cs₁) st')->
  TT (cfg q) i Ch (G ((base 104).at ⟨#[.pointer (some ⟨s.Gb,0,none⟩),av,av,av,av,av,av,av,av,av,av,av,av,av,av,av,av,av,av,av,av,av,av,av,av,av,av,av,av,av,av,av,av,av,av,av,av,av,av,av],[]⟩ [.code lL]) (b₁.at a₁ (.inRegion eA (fH::ey)::k₁)::cs₁)) st
noncomputable def BD:Code:=Try.f83.body.getD .skip
include hP
theorem Fu(hx:x.wg=.work){c:ai}(hc:c.mode=.returning)(hT:∀st':St eD,At s i {x with mx:=.out,df:=0} st'->Inv q st'->TT (cfg q) i Ch (G c cs₁) st'){o:Hg}(ho:o≠ .work){st:St eD}(hA:At s i {x with mx:=.own o,df:=0} st):
  TT (cfg q) i Ch (G ((baseD 83).at ⟨#[.pointer (some ⟨s.Gb,4,none⟩),av,av,av,av,av],[]⟩ [.code BD]) (c::cs₁)) st:=by
 simp only[BD,Try.f83,aJ];refine TT.road hP hA (by simp[hx]) 80 fun w₀ hF=>?_;repeat w_go dW
 u_call Try.func120 Qs Try.f120 dW hF
 refine stp rfl ?_;clear hF w₀;refine QH hP hx ?_ ho hA;intro eT fh gB;walk_nrm;refine TT.road hP fh (by simp[hx]) 80 fun w₀ hF=>?_;repeat w_go dW
 u_in dW hF
 rw[stepG_leave_deferred rfl rfl Try.func83 (results_none rfl _ _ _) (events_results_none rfl _ _) hc];simp only[goes_go];refine⟨by u_nil,?_⟩;exact Goes.stop (fun w₁ r₁=>⟨rfl,hT eT fh gB⟩)
noncomputable def Fv:Code:=Try.f127.body.getD .skip
theorem YF(hx:x.wg=.work)(hnn:s.nn<=9)(hW:zx q i Ch s x)
  (hT:∀st':St eD,At s i {x with mx:=.out,df:=0,syn:=true} st'->Inv q st'->TT (cfg q) i Ch (G (b₁.at (a₁.put ((eA[fH]?).bind (·.dst)) (.tuple #[])) (.inRegion eA ey::k₁)) cs₁) st')
  {st:St eD}(hA:At s i {x with mx:=.fresh,df:=0} st):
  TT (cfg q) i Ch (G ((base 127).at ⟨#[.pointer (some ⟨s.Gb,3,none⟩),.func (.func 104) #[.pointer (some ⟨s.Gb,0,none⟩)] #[],av,av,av,av,av,av,av,av,av,av,av,av,av,av,av,av,av,av,av],[]⟩ [.code Fv]) (b₁.at a₁ (.inRegion eA (fH::ey)::k₁)::cs₁)) st:=by
 simp only[Fv,Try.f127,aJ];refine TT.road hP hA (by simp[hx]) 80 fun w₀ hF=>?_;repeat w_go dW
 u_call Try.func82 ap6 Try.f82 dW hF
 refine stp rfl ?_;clear hF w₀;refine ar0 hP hx ?_ hA;intro dV dX eO;walk_nrm;refine TT.road hP dX (by simp[hx]) 80 fun w₀ hF=>?_;repeat w_go dW
 u_defer dW hF
 repeat w_go dW
 u_call Try.func126 N9 Try.f126 dW hF
 refine stp rfl ?_;clear hF w₀;refine Pp hP (x:={x with mx:=.own .Ah,df:=0}) hx rfl (by simp) ?_ (fun h=>absurd rfl h) ?_ dX
 ·
  intro dY eo eN UA;walk_nrm;refine TT.road hP eo (by simp[hx]) 80 fun w₀ hF=>?_;repeat w_go dW
  u_in dW hF
  rw[stepG_unwind_enter rfl Try.func83 I3 rfl];simp only[goes_go];refine⟨by u_nil,?_⟩;walk_nrmf Try.f83
  refine stp rfl ?_;clear hF w₀;refine Fu hP (x:={x with syn:=true}) hx rfl ?_ (o:=.Ah) (by simp) eo;intro fx eJ fw;refine TT.road hP eJ (by simp[hx]) 80 fun w₀ hF=>?_;u_leave0 Try.func127 dW hF
  exact Goes.stop (fun w₁ r₁=>⟨rfl,hT fx eJ fw⟩)
 ·intro _ dY eo eN;walk_nrm;refine TT.road hP eo (by simp[hx]) 80 fun w₀ hF=>?_;repeat w_go dW
  u_defer dW hF
  repeat w_go dW
  u_in dW hF
  refine MB rfl rfl (by k_ne) rfl rfl Try.func104 ao9 rfl ⟨by u_nil,?_⟩;walk_nrmf Try.f104
  refine stp rfl ?_;clear hF w₀;refine hW _ _ _ _ _ _ _ dY eo eN ?_;intro fx eJ fw a14;walk_nrm;refine TT.road hP eJ (by simp[hx]) 80 fun w₀ hF=>?_;repeat w_go dW
  u_in dW hF
  rw[stepG_unwind_enter rfl Try.func137 TH rfl];simp only[goes_go];refine⟨by u_nil,?_⟩;walk_nrmf Try.f137
  refine stp rfl ?_;clear hF w₀;refine Vi hP (x:={x with mx:=.own .work,df:=0}) hx rfl rfl hnn kr rfl ?_ eJ a14;intro fJ eF fN;refine TT.road hP eF (by simp[hx]) 80 fun w₀ hF=>?_;u_in dW hF
  rw[stepG_unwind_enter rfl Try.func83 I3 rfl];simp only[goes_go];refine⟨by u_nil,?_⟩;walk_nrmf Try.f83
  refine stp rfl ?_;clear hF w₀;refine Fu hP (x:={x with syn:=true}) hx rfl ?_ (o:=.dn) (by simp) eF;intro eT fh gB;refine TT.road hP fh (by simp[hx]) 80 fun w₀ hF=>?_;u_leave0 Try.func127 dW hF
  exact Goes.stop (fun w₁ r₁=>⟨rfl,hT eT fh gB⟩)
noncomputable def U0:Code:=Try.f103.body.getD .skip
theorem bA1(hx:x.wg=.work)(hnn:s.nn<=9)(hW:zx q i Ch s x)
  (hT:∀(mx:MX) (st':St eD),mx=.fresh\/mx=.out->At s i {x with mx:=mx,df:=0,syn:=true} st'->Inv q st'->TT (cfg q) i Ch (G (b₁.at (a₁.put ((eA[fH]?).bind (·.dst)) (.tuple #[])) (.inRegion eA ey::k₁)) cs₁) st')
  {st:St eD}(hA:At s i {x with mx:=.fresh,df:=0} st):
  TT (cfg q) i Ch (G ((base 103).at ⟨#[.pointer (some ⟨s.Gb,3,none⟩),.func (.func 104) #[.pointer (some ⟨s.Gb,0,none⟩)] #[],av,av,av,av,av,av,av,av,av,av],[]⟩ [.code U0]) (b₁.at a₁ (.inRegion eA (fH::ey)::k₁)::cs₁)) st:=by
 simp only[U0,Try.f103,aJ];refine TT.road hP hA (by simp[hx]) 80 fun w₀ hF=>?_;repeat w_go dW
 u_call Try.func126 N9 Try.f126 dW hF
 refine stp rfl ?_;clear hF w₀;refine Pp hP (x:={x with mx:=.fresh,df:=0}) hx rfl (by simp) ?_ (fun _=>?_) (fun h=>by cases h) hA
 ·intro dY eo eN UA;walk_nrm;refine TT.road hP eo (by simp[hx]) 80 fun w₀ hF=>?_;repeat w_go dW
  u_leave0 Try.func103 dW hF
  exact Goes.stop (fun w₁ r₁=>⟨rfl,hT .fresh dY (.inl rfl) eo eN⟩)
 ·intro dY eo eN;walk_nrm;refine TT.road hP eo (by simp[hx]) 80 fun w₀ hF=>?_;repeat w_go dW
  u_call Try.func127 TG Try.f127 dW hF
  refine stp rfl ?_;clear hF w₀;refine YF hP hx hnn hW ?_ eo;intro fx eJ fw;walk_nrm;refine TT.road hP eJ (by simp[hx]) 80 fun w₀ hF=>?_;repeat w_go dW
  u_leave0 Try.func103 dW hF
  exact Goes.stop (fun w₁ r₁=>⟨rfl,hT .out fx (.inr rfl) eJ fw⟩)
end
end
section
open Pl mJ nG ng
open uU hiding base
theorem EI{P:au}{main:Bool}{b:ai}{a:Act}{kk:List Item}{cs:List ai}{w:ae}{ops:Array Oper}{i:Nat}{rest:List Nat}{o:Oper}{t:aj}{x:Operand}{ad:Addr}{v:af}(ho:ops[i]?=some o)(hw:bg o (yielded ops a.tmps)=true)(hk:b.kind≠ .early)(hop:o.op=.load t x)(hx:a.eval x=.pointer (some ad))
  (h:(aT t (.pointer (some ad))).run P w=.ok v w/\(aT t (.pointer (some ad))).events P w #[]=#[⟨.cell ad,false,false⟩]):
  stepG P main (G (b.at a (.inRegion ops (i::rest)::kk)) cs) w=.go (G (b.at (a.put o.dst v) (.inRegion ops rest::kk)) cs) w (listed P b.fn a o w)/\∀e∈listed P b.fn a o w,e=⟨.cell ad,false,false⟩:=by
 have hr:(ax a.eval o).run P w=.ok (.value v) w:=by
  unfold ax;simp only[hop,hx];simp[h.1]
 have he:(ax a.eval o).events P w #[]=#[⟨.cell ad,false,false⟩]:=by
  unfold ax;simp only[hop,hx];simp[h.1,h.2]
 refine⟨stepG_value ho hw hk hr,fun e hm=>?_⟩;have:=mem_listed hm
 rw[he]at this;simpa using this
theorem wA{P:au}{main:Bool}{b:ai}{a:Act}{kk:List Item}{cs:List ai}{w:ae}{ops:Array Oper}{i:Nat}{rest:List Nat}{o:Oper}{t:aj}{x y:Operand}{ad:Addr}{v:af}(ho:ops[i]?=some o)(hw:bg o (yielded ops a.tmps)=true)(hk:b.kind≠ .early)(hop:o.op=.store t x y)(hx:a.eval x=.pointer (some ad))(hy:a.eval y=v)
  (h:(bI t (.pointer (some ad)) v).run P w=.ok () (w.setCell ad v)/\(bI t (.pointer (some ad)) v).events P w #[]=#[⟨.cell ad,true,false⟩])(hn:(P.funcs[b.fn]?).any (·.norace)=false):
  stepG P main (G (b.at a (.inRegion ops (i::rest)::kk)) cs) w=.go (G (b.at (a.put o.dst av) (.inRegion ops rest::kk)) cs) (w.setCell ad v) #[⟨.cell ad,true,false⟩]:=by
 have hr:(ax a.eval o).run P w=.ok .skip (w.setCell ad v):=by
  unfold ax;simp only[hop,hx,hy];simp[h.1]
 have he:(ax a.eval o).events P w #[]=#[⟨.cell ad,true,false⟩]:=by
  unfold ax;simp only[hop,hx,hy];simp[h.2]
 rw[stepG_none ho hw hk hr];unfold listed;rw[he,seen_def,hn];simp[seenStep]
theorem aN2{w:ae}{ad:Addr}{u:af}{v:Int}(hc:w.cell? ad=some u)(hz:w.frozen? ad=false):(bI 79 (.pointer (some ad)) (.int .u64 v)).run dS w=.ok () (w.setCell ad (.int .u64 v))/\(bI 79 (.pointer (some ad)) (.int .u64 v)).events dS w #[]=#[⟨.cell ad,true,false⟩]:=by
 constructor<;>simp[go_sem,hc,hz]
section
variable{q:iK}{i:Nat}{s:eI}{x:Wk}{Ch:Nat->ah->St eD->Prop}
theorem TT.load{P:au}(hP:q.P=P){b:ai}{a:Act}{kk:List Item}{cs:List ai}{ops:Array Oper}{j:Nat}{rest:List Nat}{o:Oper}{t:aj}{y:Operand}{bl off:Nat}{v:af}{st:St eD}(hA:At s i x st)(hx:x.wg=.work)
  (ho:ops[j]?=some o)(hw:bg o (yielded ops a.tmps)=true)(hk:b.kind≠ .early)(hop:o.op=.load t y)(hy:a.eval y=.pointer (some ⟨bl,off,none⟩))
  (hf:∀dV,Rl i st dV->Inv q dV->At s i x dV->dV.γ.rd i (ca bl off)/\(aT t (.pointer (some ⟨bl,off,none⟩))).run P dV.w=.ok v dV.w/\(aT t (.pointer (some ⟨bl,off,none⟩))).events P dV.w #[]=#[⟨.cell ⟨bl,off,none⟩,false,false⟩])
  (h:∀dY,Rl i st dY->Inv q dY->At s i x dY->TT (cfg q) i Ch (G (b.at (a.put o.dst v) (.inRegion ops rest::kk)) cs) dY):TT (cfg q) i Ch (G (b.at a (.inRegion ops (j::rest)::kk)) cs) st:=
 TT.read hP hA hx fun dV hr hi dX=>by
  obtain⟨f1,f2⟩:=hf dV hr hi dX;obtain⟨s1,s2⟩:=EI (main:=i==0) (cs:=cs) (kk:=kk) (rest:=rest) ho hw hk hop hy f2;exact⟨_,_,s1,rfl,fun e he=>⟨bl,off,s2 e he,f1⟩,h⟩
theorem Mc{w:ae}{ad:Addr}{v:Int}(hc:w.cell? ad=some (.int .i64 v)):(aT 3 (.pointer (some ad))).run dS w=.ok (.int .i64 v) w/\(aT 3 (.pointer (some ad))).events dS w #[]=#[⟨.cell ad,false,false⟩]:=by
 constructor<;>simp[go_sem,hc]
theorem ar9{w:ae}{ad:Addr}{v:af}(hc:w.cell? ad=some v):(aT 126 (.pointer (some ad))).run dS w=.ok v w/\(aT 126 (.pointer (some ad))).events dS w #[]=#[⟨.cell ad,false,false⟩]:=by
 constructor<;>simp[go_sem,hc]
theorem ZZ{w:ae}{ad:Addr}{v:af}(hc:w.cell? ad=some v):(aT 79 (.pointer (some ad))).run dS w=.ok v w/\(aT 79 (.pointer (some ad))).events dS w #[]=#[⟨.cell ad,false,false⟩]:=by
 constructor<;>simp[go_sem,hc]
theorem At.live{st:St eD}(h:At s i x st)(hx:x.wg≠ .lv/\x.wg≠ .gone):Live i st:=.inr (by rw[h.me];exact hx)
def Dz(i gc:Nat)(cs:List Int)(st:St eD):Prop:=(∀off,st.γ.rd i (ca gc off))/\∀j,j<cs.length->st.w.cell? ⟨gc,j,none⟩=some (.int .u64 (cs.getD j 0))
theorem Dz.rely{gc:Nat}{cs:List Int}{st dV:St eD}(h:Dz i gc cs st)(hl:Live i st)(hr:Rl i st dV):Dz i gc cs dV:=
 ⟨fun off=>hr.rd hl _ (h.1 off),fun j hj=>(cell_of (hr.blk hl gc (.inr h.1))).trans (h.2 j hj)⟩
theorem At.iJ{gc:Nat}{cs:List Int}{st:St eD}(h:At s i x st){C:Array af}{e:aj}{fz:Nat×Nat}(hk:(gc,Obj.cells C e fz)∈x.keep)(hc:∀j,j<cs.length->C[j]?=some (.int .u64 (cs.getD j 0))):Dz i gc cs st:=
 ⟨(h.fz _ _ hk).2,fun j hj=>by simp only[bM,(h.fz _ _ hk).1];exact hc j hj⟩
def Hh(s:eI)(k:Nat)(st:St eD):Prop:=∀id,1<=id->id<k->st.w.cell? ⟨s.Gb,6+id,none⟩=some (.int .u64 (s.vals id))
theorem Hh.rely{k:Nat}{st dV:St eD}(h:Hh s k st)(hk:k<=10)(hA:At s i x st)(hx:x.wg=.work)(n1:x.mx=.own .work)(hr:Rl i st dV):Hh s k dV:=fun id i1 i2=>
 (hr.work hA.ne (by rw[hA.me,hx];simp) (by rw[hA.me,hx];simp) (by rw[hA.me];exact n1) s hA.sc (6+id) (by omega) (by omega)).trans (h id i1 i2)
theorem gL.heads{st:St eD}(h:gL q s st):st.w.cell? ⟨s.Gb,0,none⟩=some s.g0/\st.w.cell? ⟨s.Gb,1,none⟩=some s.g1/\st.w.cell? ⟨s.Gb,2,none⟩=some s.g2:=by
 obtain⟨C,c1,c2,c3,c4,c5⟩:=h.head;refine⟨?_,?_,?_⟩<;>simp[bM,c1,c3,c4,c5]
theorem Bu{ρ:Nat->Option Nat}{S:ak->Prop}{l:List af}(h:∀v∈l,VR S ρ v v):AR S ρ l.toArray l.toArray:=⟨rfl,fun j v v' h1 h2=>by
 rw[h1]at h2;cases h2;simp at h1<;>exact h v (List.mem_of_getElem? h1)⟩
theorem ar1{S:ak->Prop}{ρ:Nat->Option Nat}{k1:IntKind}{n1:Int}:AR S ρ #[.int k1 n1] #[.int k1 n1]:=Bu (l:=[.int k1 n1]) (by intro v hv;simp at hv;subst hv;exact .int _ _)
theorem ar2{S:ak->Prop}{ρ:Nat->Option Nat}{k1 k2:IntKind}{n1 n2:Int}:AR S ρ #[.int k1 n1,.int k2 n2] #[.int k1 n1,.int k2 n2]:=Bu (l:=[.int k1 n1,.int k2 n2]) (by intro v hv;simp at hv;rcases hv with rfl|rfl<;>exact .int _ _)
variable(hP:q.P=dS){b₁:ai}{a₁:Act}{eA:Array Oper}{fH:Nat}{ey:List Nat}{k₁:List Item}{cs₁:List ai}
noncomputable def lJ:Code:=(iN lL).getD .skip
def a58:Code->Code
 |.seq a _=>a
 |c=>c
def unB:Code->Code
 |.block _ c=>c
 |c=>c
def zk:Code->Option Code
 |.loop c=>iN c
 |.seq x y=>match zk x with|some c=>some c|none=>zk y
 |.block _ c=>zk c
 |_=>none
noncomputable def FO:Code:=(zk lL).getD .skip
noncomputable def FN:Code:=rF (rF (rF (unB (a58 (rF lJ)))))
noncomputable def Lh:Code:=rF (rF lJ)
theorem oF{P:au}{main:Bool}{b:ai}{a:Act}{k:List Item}{cs:List ai}{w:ae}{ops:Array Oper}{i:Nat}{rest:List Nat}{o:Oper}{K:ah->ae->Array Event->Prop}{f:ak}{fn:Func}{c:Code}{args:Array Operand}{ats:Array aj}{vals:Array af}
  (ho:ops[i]?=some o)(hw:bg o (yielded ops a.tmps)=true)(hk:b.kind≠ .early)(hop:o.op=.call {callee:=.value (.func f),args,argTypes:=ats})
  (hf:P.funcs[f]?=some fn)(hname:(fn.name== "runtime.NumGoroutine")=false)(hb:fn.body=some c)(hv:args.map a.eval=vals)
  (h:K (G (bO P f vals .normal) (b.at a (.inRegion ops (i::rest)::k)::cs)) w #[]):
  (stepG P main (G (b.at a (.inRegion ops (i::rest)::k)) cs) w).goes K:=by
 have hb':fn.body.isNone=false:=by rw[hb];rfl
 subst hv;rw[stepG_enter ho hw hk (run_call_body hop hf hname hb')];have:listed P b.fn a o w=#[]:=by unfold listed;rw[events_call_body hop hf hname hb'];exact seen_none P _
 rw[this];exact h
structure WkS(q:iK)(i:Nat)(s:eI)(x:Wk)(gc:Nat)(cs:List Int)(k:Nat)(st:St eD):Prop where
 at_:At s i x st
 inv:Inv q st
 iJ:Dz i gc cs st
 laid:Hh s k st
theorem WkS.rely{gc:Nat}{cs:List Int}{k:Nat}{st dV:St eD}(h:WkS q i s x gc cs k st)(hx:x.wg=.work)(n1:x.mx=.own .work)(hk:k<=10)(hr:Rl i st dV)(hi:Inv q dV):WkS q i s x gc cs k dV:=
 ⟨h.at_.rely (by rw[hx];simp) hr hi,hi,h.iJ.rely (h.at_.live (by rw[hx];simp)) hr,h.laid.rely hk h.at_ hx n1 hr⟩
theorem ZU:(Try.f68.name== "runtime.NumGoroutine")=false:=kr
theorem I5:(Try.f65.name== "runtime.NumGoroutine")=false:=kr
theorem I4:(Try.f69.name== "runtime.NumGoroutine")=false:=kr
theorem Xt:(Try.f44.name== "runtime.NumGoroutine")=false:=kr
theorem LN(cs:List Int)(id:Int)(j:Nat):wF cs id (j+1)=mY (wF cs id j) (pw (cs.getD j 0) (wD id j).toNat 2147483579):=by
 have b1:=Ge cs id j;have b2:=EL (cs.getD j 0) (wD id j).toNat (m:=2147483579) (by omega);rw[wF,yo b1.1 (by omega) b2.1 (by omega)]
theorem PX{id:Int}(j:Nat)(h0:0<=id)(h1:id<100):wD id (j+1)=smul (wD id j) id:=by
 have b:=BV id j;rw[wD,xD b.1 (by omega) h0 (by omega)]
include hP
theorem R8{cs:List Int}{gc:Nat}{cap:Nat}(hx:x.wg=.work)(n1:x.mx=.own .work){k:Nat}(hk1:1<=k)(hk9:k<=9)(Ad:cs.length<=9)(hel:∀j,j<cs.length->jO (cs.getD j 0)=true)
  (hT:∀(st:St eD),WkS q i s x gc cs k st->∀(j1 j3 j5 j6 j7 j8 j9 j10 j11 j12 j13 tA tz tv tq vt pz pq tj s7 sZ sY sX sW sV sU sS sQ sP sO sN sM sL sK sJ sI sH:af),TT (cfg q) i Ch (G ((base 104).at ⟨#[.pointer (some ⟨s.Gb,0,none⟩),j1,.int .i64 k,j3,.int .u64 (EM cs k),j5,j6,j7,j8,j9,j10,j11,j12,j13,tA,tz,tv,tq,vt,pz,pq,tj,s7,sZ,sY,sX,sW,sV,sU,sS,sQ,sP,sO,sN,sM,sL,sK,sJ,sI,sH],[]⟩ [.code FN,.inBlock 1,.code Lh,.inLoop lJ,.inBlock 0]) (b₁.at a₁ (.inRegion eA (fH::ey)::k₁)::cs₁)) st):
  ∀(r j:Nat) (X O:Int) (st:St eD),j+r=cs.length->X=wD (k:Int) j->O=wF cs (k:Int) j->WkS q i s x gc cs k st->∀(j1 j5 j6 j7 j8 j9 j10 j11 j12 j13 tA tz tv tq tj s7 sZ sY sX sW sV sU sS sQ sP sO sN sM sL sK sJ sI sH:af),TT (cfg q) i Ch (G ((base 104).at ⟨#[.pointer (some ⟨s.Gb,0,none⟩),j1,.int .i64 k,.int .u64 X,.int .u64 O,j5,j6,j7,j8,j9,j10,j11,j12,j13,tA,tz,tv,tq,.slice (some ⟨gc,0,none⟩) cs.length cap,.int .i64 cs.length,.int .i64 j,tj,s7,sZ,sY,sX,sW,sV,sU,sS,sQ,sP,sO,sN,sM,sL,sK,sJ,sI,sH],[]⟩ [.code FO,.inLoop FO,.inBlock 2,.code FN,.inBlock 1,.code Lh,.inLoop lJ,.inBlock 0]) (b₁.at a₁ (.inRegion eA (fH::ey)::k₁)::cs₁)) st:=by
 intro r;induction r with
 |zero=>
  intro j X O st hj hX hO hW j1 j5 j6 j7 j8 j9 j10 j11 j12 j13 tA tz tv tq tj s7 sZ sY sX sW sV sU sS sQ sP sO sN sM sL sK sJ sI sH;obtain rfl:j=cs.length:=by omega
  have hlt:¬((cs.length:Int)<(cs.length:Int)):=by omega
  subst hO;replace hX:=Hd.mk hX;clear hj;simp only[FO,lL,iN,zk,Try.f104,aJ];refine TT.road hP hW.at_ (by simp[hx]) 60 fun w₀ hF=>?_;repeat w_go dW
  exact Goes.stop (fun w₁ r₁=>⟨rfl,hT st hW _ _ _ _ _ _ _ _ _ _ _ _ _ _ _ _ _ _ _ _ _ _ _ _ _ _ _ _ _ _ _ _ _ _ _ _ _⟩)
 |succ r ih=>
  intro j X O st hj hX hO hW j1 j5 j6 j7 j8 j9 j10 j11 j12 j13 tA tz tv tq tj s7 sZ sY sX sW sV sU sS sQ sP sO sN sM sL sK sJ sI sH;have hjl:j<cs.length:=by omega
  have hlt:((j:Int)<(cs.length:Int)):=by omega
  have he:=rR (hel j hjl);have b1:=BV (k:Int) j;have P1:=LN cs (k:Int) j;have P2:=PX (id:=(k:Int)) j (by omega) (by omega);rw[<-hO,<-hX]at P1;rw[<-hX]at P2 b1;have hcj:=hW.iJ.2 j hjl;have ab4:=fun(dV:St eD) (hr:Rl i st dV)=>(hW.iJ.rely (hW.at_.live (by rw[hx];simp)) hr).2 j hjl;generalize cs.getD j 0=C at he P1 ab4;obtain⟨he1,he2⟩:=he;obtain⟨b1,b2⟩:=b1;clear hcj hO hX;replace P1:=Hd.mk P1;replace P2:=Hd.mk P2;replace hj:=Hd.mk hj;have b1':=Hd.mk b1;have M0:=Hd.mk b2;have bv5:=Hd.mk he2;have bv6:=Hd.mk he1;clear b1 b2 he1 he2;simp only[FO,lL,iN,zk,Try.f104,aJ];refine TT.road hP hW.at_ (by simp[hx]) 60 fun w₀ hF=>?_;repeat w_go dW
  refine stp rfl ?_;clear hF w₀;refine TT.load hP hW.at_ hx rfl rfl (by k_ne) rfl rfl (fun dV hr hi dX=>⟨(hW.iJ.rely (hW.at_.live (by rw[hx];simp)) hr).1 j,ZZ (ab4 dV hr)⟩) fun dY yh eN eo=>?_;have Fh:=hW.rely hx n1 (by omega) yh eN;refine TT.road hP eo (by simp[hx]) 60 fun w₀ hF=>?_;walk_nrm;repeat w_go dW
  u_in dW hF
  refine oF rfl rfl (by k_ne) rfl Try.func68 ZU rfl (by simp[aU];rfl) ⟨by u_nil,?_⟩;refine stp rfl ?_;clear hF w₀;refine TT.call hP sF kr eo hx eN jL ar2 (.int _ _) (fun τ d=>(yM C X _ (by have:=bv6.un;omega) bv5.un b1'.un (by have:=M0.un;omega)).mono fun e w' h=>h.1) fun fx Fe fw eJ=>?_;have Uu:=Fh.rely hx n1 (by omega) Fe fw;rw[dI];refine TT.road hP eJ (by simp[hx]) 60 fun w₀ hF=>?_;walk_nrm;repeat w_go dW
  u_in dW hF
  refine oF rfl rfl (by k_ne) rfl Try.func65 I5 rfl (by simp[aU];rfl) ⟨by u_nil,?_⟩;refine stp rfl ?_;clear hF w₀;refine TT.call hP sF kr eJ hx fw jL ar2 (.int _ _) (fun τ d=>(qJ _ _ _).mono fun e w' h=>h.1) fun fJ Uc fN eF=>?_;have CX:=Uu.rely hx n1 (by omega) Uc fN;rw[dI];refine TT.road hP eF (by simp[hx]) 60 fun w₀ hF=>?_;walk_nrm;repeat w_go dW
  u_in dW hF
  refine oF rfl rfl (by k_ne) rfl Try.func44 Xt rfl (by simp[aU];rfl) ⟨by u_nil,?_⟩;refine stp rfl ?_;clear hF w₀;refine TT.call hP sF kr eF hx fN jL ar1 (.int _ _) (fun τ d=>(FZ k _ (by omega) (by omega)).mono fun e w' h=>h.1) fun eT JJ gB fh=>?_;have a05:=CX.rely hx n1 (by omega) JJ gB;rw[dI];refine TT.road hP fh (by simp[hx]) 60 fun w₀ hF=>?_;walk_nrm;repeat w_go dW
  u_in dW hF
  refine oF rfl rfl (by k_ne) rfl Try.func69 I4 rfl (by simp[aU];rfl) ⟨by u_nil,?_⟩;refine stp rfl ?_;clear hF w₀;refine TT.call hP sF kr fh hx gB jL ar2 (.int _ _) (fun τ d=>(lM _ _ _).mono fun e w' h=>h.1) fun gN Ub gu eY=>?_;have Ut:=a05.rely hx n1 (by omega) Ub gu;rw[dI];refine TT.road hP eY (by simp[hx]) 60 fun w₀ hF=>?_;have hj1:bH IntKind.i64 ((j:Int)+1)=((j+1:Nat):Int):=by rw[cE];omega
  walk_nrm;repeat w_nl dW
  u_c stepG_inLoop dW hF
  refine stp rfl ?_;clear hF w₀;exact ih (j+1) _ _ gN (by have:=hj.un;omega) P2.un.symm P1.un.symm Ut ..
omit hP in
theorem gL.room{st:St eD}(h:gL q s st){off:Nat}(o1:6<=off)(o2:off<16):∃u,st.w.cell? ⟨s.Gb,off,none⟩=some u:=by
 obtain⟨C,h1,h2,h3,h4,h5,h6,h7,h8,h9,h10⟩:=h.gb;obtain⟨v,hv⟩:=h9 off o1 o2;exact⟨_,by simp[bM,h1,hv];rfl⟩
theorem Li{cs:List Int}{gc:Nat}{cap:Nat}(hx:x.wg=.work)(n1:x.mx=.own .work)(hn9:s.nn<=9)(Ad:cs.length<=9)(hel:∀j,j<cs.length->jO (cs.getD j 0)=true)
  (hg1:s.g1=.int .i64 s.nn)(hg2:s.g2=.slice (some ⟨gc,0,none⟩) cs.length cap)(hvs:∀id:Nat,1<=id->id<=s.nn->s.vals id=EM cs id)
  (hT:∀st:St eD,WkS q i s x gc cs (s.nn+1) st->TT (cfg q) i Ch (G (b₁.at (a₁.put ((eA[fH]?).bind (·.dst)) (.tuple #[])) (.inRegion eA ey::k₁)) cs₁) st):
  ∀(r k:Nat) (st:St eD),k+r=s.nn+1->1<=k->WkS q i s x gc cs k st->∀(j1 j3 j4 j5 j6 j7 j8 j9 j10 j11 j12 j13 tA tz tv tq vt pz pq tj s7 sZ sY sX sW sV sU sS sQ sP sO sN sM sL sK sJ sI sH:af),TT (cfg q) i Ch (G ((base 104).at ⟨#[.pointer (some ⟨s.Gb,0,none⟩),j1,.int .i64 k,j3,j4,j5,j6,j7,j8,j9,j10,j11,j12,j13,tA,tz,tv,tq,vt,pz,pq,tj,s7,sZ,sY,sX,sW,sV,sU,sS,sQ,sP,sO,sN,sM,sL,sK,sJ,sI,sH],[]⟩ [.code lJ,.inLoop lJ,.inBlock 0]) (b₁.at a₁ (.inRegion eA (fH::ey)::k₁)::cs₁)) st:=by
 intro r;induction r with
 |zero=>
  intro k st hk hk1 hW j1 j3 j4 j5 j6 j7 j8 j9 j10 j11 j12 j13 tA tz tv tq vt pz pq tj s7 sZ sY sX sW sV sU sS sQ sP sO sN sM sL sK sJ sI sH;obtain CN:k=s.nn+1:=by omega
  have hlt:¬(k:Int)<=(s.nn:Int):=by omega
  clear hk;replace CN:=Hd.mk CN;have bu1:k<=10:=by have:=CN.un;omega
  simp only[lJ,lL,iN,Try.f104,aJ];refine TT.road hP hW.at_ (by simp[hx]) 60 fun w₀ hF=>?_;repeat w_go dW
  refine stp rfl ?_;clear hF w₀;refine TT.load hP hW.at_ hx rfl rfl (by k_ne) rfl rfl (fun dV hr hi dX=>⟨(hi.eZ s dX.sc).p.KW i dX.mem 1 (by omega),Mc ((hi.eZ s dX.sc).c.heads.2.1.trans (by rw[hg1]))⟩) fun dY yh eN eo=>?_;have Fh:=hW.rely hx n1 bu1 yh eN;rw[CN.un]at Fh;refine TT.road hP eo (by simp[hx]) 60 fun w₀ hF=>?_;walk_nrm;repeat w_go dW
  u_leave0 Try.func104 dW hF
  exact Goes.stop (fun w₁ r₁=>⟨rfl,hT dY Fh⟩)
 |succ r ih=>
  intro k st hk hk1 hW j1 j3 j4 j5 j6 j7 j8 j9 j10 j11 j12 j13 tA tz tv tq vt pz pq tj s7 sZ sY sX sW sV sU sS sQ sP sO sN sM sL sK sJ sI sH;have hkn:k<=s.nn:=by omega
  have hlt:(k:Int)<=(s.nn:Int):=by omega
  replace hk:=Hd.mk hk;simp only[lJ,lL,iN,Try.f104,aJ];refine TT.road hP hW.at_ (by simp[hx]) 60 fun w₀ hF=>?_;repeat w_go dW
  refine stp rfl ?_;clear hF w₀;refine TT.load hP hW.at_ hx rfl rfl (by k_ne) rfl rfl (fun dV hr hi dX=>⟨(hi.eZ s dX.sc).p.KW i dX.mem 1 (by omega),Mc ((hi.eZ s dX.sc).c.heads.2.1.trans (by rw[hg1]))⟩) fun dY yh eN eo=>?_;have Fh:=hW.rely hx n1 (by omega) yh eN;refine TT.road hP eo (by simp[hx]) 60 fun w₀ hF=>?_;walk_nrm;repeat w_go dW
  refine stp rfl ?_;clear hF w₀;refine TT.load hP eo hx rfl rfl (by k_ne) rfl rfl (fun dV hr hi dX=>⟨(hi.eZ s dX.sc).p.KW i dX.mem 2 (by omega),ar9 ((hi.eZ s dX.sc).c.heads.2.2.trans (by rw[hg2]))⟩) fun fx Fe fw eJ=>?_;have Uu:=Fh.rely hx n1 (by omega) Fe fw;refine TT.road hP eJ (by simp[hx]) 60 fun w₀ hF=>?_;walk_nrm;repeat w_but "code.loop" dW
  u_c stepG_loop dW hF
  refine stp rfl ?_;clear hF w₀;refine R8 hP hx n1 hk1 (by omega) Ad hel ?_ cs.length 0 1 1 fx (by omega) rfl rfl Uu ..;intro fJ CX j1 j3 j5 j6 j7 j8 j9 j10 j11 j12 j13 tA tz tv tq vt pz pq tj s7 sZ sY sX sW sV sU sS sQ sP sO sN sM sL sK sJ sI sH;simp only[FN,Lh,lJ,lL,iN,rF,a58,unB,Try.f104,aJ];have q1:(0:Int)<=(k:Int):=by omega
  have q2:(k:Int)<10:=by omega
  have q3:k<10:=by omega
  have hix:∀(w:ae) (es:Array Event),(Instr.indexAt 135 (.pointer (some ⟨s.Gb,6,none⟩)) (.int .i64 (k:Int))).events dS w es=es:=fun w es=>events_indexAt_array _ _ 10 _ _ _ Try.underlying135 ⟨q1,by simpa using q2⟩;refine TT.road hP CX.at_ (by simp[hx]) 60 fun w₀ hF=>?_;repeat w_go dW
  refine stp rfl ?_;clear hF w₀;refine TT.share hP CX.at_ hx n1 (off:=6+k) (by omega) (by omega) (EM cs k) fun eT JJ fh gB fD=>?_;obtain⟨u,hu⟩:=fD.room (off:=6+k) (by omega) (by omega);have hcm:=CX.iJ.rely (CX.at_.live (by rw[hx];simp)) JJ;have hne:gc≠s.Gb:=fun e=>by
   obtain⟨_,o,ho⟩:=(gB.eZ s fh.sc).p.spec i s.Gb (.inl rfl);exact ho (by rw[<-e];exact hcm.1 o)
  refine⟨_,wA rfl rfl (by k_ne) rfl rfl rfl (aN2 hu (fD.gb.cell.2.2.2 _)) kr,rfl,fun gN eY gu ab3 aa3 hγ ab5=>?_⟩;have Ut:WkS q i s x gc cs (k+1) gN:=by
   refine⟨eY,gu,⟨fun o=>by rw[hγ];exact hcm.1 o,fun j hj=>(cell_of (ab5 gc hne)).trans (hcm.2 j hj)⟩,fun id i1 i2=>?_⟩;by_cases e:id=k
   ·subst e;rw[ab3,hvs id i1 (by omega)]
   ·rw[aa3 (6+id) (by omega) (by omega) (by omega)];exact CX.laid id i1 (by omega)
  have Ya:bH IntKind.i64 ((k:Int)+1)=((k+1:Nat):Int):=by rw[cE];omega
  clear ab3 aa3 ab5 hγ hcm hu hix;refine TT.road hP eY (by simp[hx]) 60 fun w₀ hF=>?_;walk_nrm;repeat w_nl dW
  u_c stepG_inLoop dW hF
  refine stp rfl ?_;clear hF w₀;exact ih (k+1) gN (by have:=hk.un;omega) (by omega) Ut ..
theorem ag9{cs:List Int}{gc:Nat}{cap:Nat}(hx:x.wg=.work)(hn9:s.nn<=9)(Ad:cs.length<=9)(hel:∀j,j<cs.length->jO (cs.getD j 0)=true)
  (hg1:s.g1=.int .i64 s.nn)(hg2:s.g2=.slice (some ⟨gc,0,none⟩) cs.length cap)(hvs:∀id:Nat,1<=id->id<=s.nn->s.vals id=EM cs id){C:Array af}{e:aj}{fz:Nat×Nat}(Ff:(gc,Obj.cells C e fz)∈x.keep)(hcs:∀j,j<cs.length->C[j]?=some (.int .u64 (cs.getD j 0))):zx q i Ch s x:=by
 intro b₁ a₁ eA fH ey k₁ cs₁ st hA hI hT;simp only[lL,Try.f104,aJ];refine TT.road hP hA (by simp[hx]) 60 fun w₀ hF=>?_;repeat w_but "code.loop" dW
 u_c stepG_loop dW hF
 refine stp rfl ?_;clear hF w₀;refine Li hP (x:={x with mx:=.own .work,df:=0}) hx rfl hn9 Ad hel hg1 hg2 hvs (fun dY hW=>hT dY hW.at_ hW.inv fun id i1 i2=>hW.laid id i1 (by omega)) s.nn 1 st (by omega) (by omega) ⟨hA,hI,hA.iJ Ff hcs,fun id i1 i2=>by omega⟩ ..
end
end
end Cc
namespace Cc
open Go.Conc Go.ConcN
open Go.ConcM (OsLater)
theorem Dt{P:au}{main:Bool}{b:ai}{a:Act}{kk:List Item}{cs:List ai}{w:ae}{ops:Array Oper}{i:Nat}{rest:List Nat}{o:Oper}{t:aj}{ob:Obj}(ho:ops[i]?=some o)(hw:bg o (yielded ops a.tmps)=true)(hk:b.kind≠ .early)(hop:o.op=.alloc t)
  (h:(dw t true (.tuple #[])).run P w=.ok (.pointer (some ⟨w.heap.size,0,none⟩)) (w.alloc ob)/\(dw t true (.tuple #[])).events P w #[]=#[]):
  stepG P main (G (b.at a (.inRegion ops (i::rest)::kk)) cs) w=.go (G (b.at (a.put o.dst (.pointer (some ⟨w.heap.size,0,none⟩))) (.inRegion ops rest::kk)) cs) (w.alloc ob) #[]:=by
 have hr:(ax a.eval o).run P w=.ok (.value (.pointer (some ⟨w.heap.size,0,none⟩))) (w.alloc ob):=by
  unfold ax;simp only[hop];simp[h.1]
 have he:(ax a.eval o).events P w #[]=#[]:=by
  unfold ax;simp only[hop];simp[h.1,h.2]
 rw[stepG_value ho hw hk hr];unfold listed;rw[he,seen_none]
section
variable{q:iK}{s:eI}{mw:MW}{dm num:Nat}{K:List (Nat×Obj)}{Ch:Nat->ah->St eD->Prop}{P:au}(hP:q.P=P){b:ai}{a:Act}{kk:List Item}{cs:List ai}{ops:Array Oper}{j:Nat}{rest:List Nat}{o:Oper}
theorem ni.keeps{st:St eD}(h:ni s mw dm num K st){w':ae}(hw:∀b,b<st.w.heap.size->w'.heap[b]?=st.w.heap[b]?):Dw st w' K:=fun b o hb=>by
 obtain⟨h1,h2⟩:=h.fz b o hb;exact⟨(hw b (lt_of_block h1)).trans h1,h2.imp id .inl,h.nd b o hb⟩
include hP
theorem TT.aS2{st:St eD}(hA:ni s mw dm num K st){t:aj}{y:Operand}{bl off:Nat}{v:af}{ob:Obj}(ho:ops[j]?=some o)(hw:bg o (yielded ops a.tmps)=true)(hk:b.kind≠ .early)(hop:o.op=.load t y)(hy:a.eval y=.pointer (some ⟨bl,off,none⟩))(hK:(bl,ob)∈K)
  (hf:∀w:ae,w.heap[bl]?=some ob->(aT t (.pointer (some ⟨bl,off,none⟩))).run P w=.ok v w/\(aT t (.pointer (some ⟨bl,off,none⟩))).events P w #[]=#[⟨.cell ⟨bl,off,none⟩,false,false⟩])
  (h:∀dY,ni s mw dm num K dY->Inv q dY->(∀l,st.γ.ex 0 l->dY.γ.ex 0 l)->TT (cfg q) 0 Ch (G (b.at (a.put o.dst v) (.inRegion ops rest::kk)) cs) dY):TT (cfg q) 0 Ch (G (b.at a (.inRegion ops (j::rest)::kk)) cs) st:=by
 refine TT.ap9 hP hA fun dV hr dX hi=>?_;obtain⟨f1,f2⟩:=dX.fz _ _ hK;obtain⟨a1,_⟩:=dX.apart hi hK;obtain⟨s1,s2⟩:=EI (P:=P) (main:=(0:Nat)==0) (cs:=cs) (kk:=kk) (rest:=rest) ho hw hk hop hy (hf dV.w f1);refine⟨_,_,_,K,s1,rfl,⟨Nat.le_refl _,fun e he=>⟨bl,off,false,s2 e he,lt_of_block f1,fun s' hs'=>?_,f2.elim (fun f=>.inl (f off)) fun f=>.inr (.inl ⟨rfl,f off⟩)⟩,rfl,rfl,fun _ _=>.inl rfl⟩,dX.keeps fun _ _=>rfl,fun dY _ eo eN hex _=>h dY eo eN fun l hl=>hex l (hr.ex (.inl rfl) l hl)⟩;rw[dX.sc]at hs';cases hs';exact a1
theorem TT.TL{st:St eD}(hA:ni s mw dm num K st){t:aj}{ob:Obj}(ho:ops[j]?=some o)(hw:bg o (yielded ops a.tmps)=true)(hk:b.kind≠ .early)(hop:o.op=.alloc t)
  (hf:∀w:ae,(dw t true (.tuple #[])).run P w=.ok (.pointer (some ⟨w.heap.size,0,none⟩)) (w.alloc ob)/\(dw t true (.tuple #[])).events P w #[]=#[])
  (h:∀dY bl,ni s mw dm num ((bl,ob)::K) dY->Inv q dY->(∀l,st.γ.ex 0 l->dY.γ.ex 0 l)->(∀off,dY.γ.ex 0 (ca bl off))->(∀b o,(b,o)∈K->b≠bl)->(∀l b,st.γ.ex 0 l->ij l=some b->b≠bl)->TT (cfg q) 0 Ch (G (b.at (a.put o.dst (.pointer (some ⟨bl,0,none⟩))) (.inRegion ops rest::kk)) cs) dY):TT (cfg q) 0 Ch (G (b.at a (.inRegion ops (j::rest)::kk)) cs) st:=by
 refine TT.ap9 hP hA fun dV hr dX hi=>?_;have hsz:(dV.w.alloc ob).heap.size=dV.w.heap.size+1:=Array.size_push ..;have hold:∀b,b<dV.w.heap.size->(dV.w.alloc ob).heap[b]?=dV.w.heap[b]?:=fun b hb=>(Array.getElem?_push ..).trans (if_neg (by omega));have hnew:(dV.w.alloc ob).heap[dV.w.heap.size]?=some ob:=(Array.getElem?_push ..).trans (if_pos rfl);refine⟨_,_,_,(dV.w.heap.size,ob)::K,Dt ho hw hk hop (hf dV.w),rfl,⟨by omega,fun e he=>by simp at he,rfl,rfl,fun b hb=>.inl (hold b hb)⟩,fun b o' hb=>?_,fun dY _ eo eN hex zL=>h dY _ eo eN (fun l hl=>hex l (hr.ex (.inl rfl) l hl)) (fun off=>zL _ off nle (by omega)) (fun b o' hb e=>?_) fun l b hl hb e=>?_⟩
 ·rcases List.mem_cons.1 hb with e|hb
  ·cases e;exact⟨hnew,.inr (.inr nle),fun hd=>by have:=hi.base.dead _ hd;omega⟩
  ·exact(dX.keeps hold) b o' hb
 ·have:=lt_of_block (dX.fz _ _ hb).1
  omega
 ·have:=hi.base.tr.FD.low 0 l (hr.ex (.inl rfl) l hl) b hb
  omega
theorem TT.TJ{st:St eD}(hA:ni s mw dm num K st){K':List (Nat×Obj)}{t:aj}{y z:Operand}{bl off:Nat}{v:af}{C:Array af}{e:aj}(ho:ops[j]?=some o)(hw:bg o (yielded ops a.tmps)=true)(hk:b.kind≠ .early)(hop:o.op=.store t y z)(hy:a.eval y=.pointer (some ⟨bl,off,none⟩))(hz:a.eval z=v)(hK:(bl,.cells C e (0,0))∈K)(hlt:off<C.size)
  (hex:∀off,st.γ.ex 0 (ca bl off))(hK':∀b o,(b,o)∈K'->(b=bl/\o=.cells (C.setIfInBounds off v) e (0,0))\/(b≠bl/\(b,o)∈K))(hn:(P.funcs[b.fn]?).any (·.norace)=false)
  (hf:∀(w:ae) (u:af),w.cell? ⟨bl,off,none⟩=some u->w.frozen? ⟨bl,off,none⟩=false->(bI t (.pointer (some ⟨bl,off,none⟩)) v).run P w=.ok () (w.setCell ⟨bl,off,none⟩ v)/\(bI t (.pointer (some ⟨bl,off,none⟩)) v).events P w #[]=#[⟨.cell ⟨bl,off,none⟩,true,false⟩])
  (h:∀dY,ni s mw dm num K' dY->Inv q dY->(∀l,st.γ.ex 0 l->dY.γ.ex 0 l)->TT (cfg q) 0 Ch (G (b.at (a.put o.dst av) (.inRegion ops rest::kk)) cs) dY):TT (cfg q) 0 Ch (G (b.at a (.inRegion ops (j::rest)::kk)) cs) st:=by
 refine TT.ap9 hP hA fun dV hr dX hi=>?_;obtain⟨f1,f2⟩:=dX.fz _ _ hK;obtain⟨a1,_⟩:=dX.apart hi hK;have hcell:dV.w.cell? ⟨bl,off,none⟩=some C[off]:=by simp only[bM,f1];exact Array.getElem?_eq_getElem hlt
 have bu9:dV.w.frozen? ⟨bl,off,none⟩=false:=by simp[World.frozen?,f1]
 have W:=aside_setCell dV.w ⟨bl,off,none⟩ v;have hblk:(dV.w.setCell ⟨bl,off,none⟩ v).heap[bl]?=some (.cells (C.setIfInBounds off v) e (0,0)):=by
  simp[World.setCell,Array.getElem?_modify,f1]
 refine⟨_,_,_,K',wA ho hw hk hop hy hz (hf dV.w _ hcell bu9) hn,rfl,⟨Nat.le_of_eq W.size.symm,fun e' he=>?_,W.os,W.output,fun b hb=>?_⟩,fun b o' hb=>?_,fun dY _ eo eN hx _=>h dY eo eN fun l hl=>hx l (hr.ex (.inl rfl) l hl)⟩
 ·simp at he;subst he;exact⟨bl,off,true,rfl,by rw[W.size];exact lt_of_block f1,fun s' hs'=>(by rw[dX.sc]at hs';cases hs';exact a1),.inl (hr.ex (.inl rfl) _ (hex off))⟩
 ·by_cases e1:b=bl
  ·subst e1;exact .inr fun off=>hr.ex (.inl rfl) _ (hex off)
  ·exact .inl (W.block b e1)
 ·rcases hK' b o' hb with⟨rfl,rfl⟩|⟨e1,hb'⟩
  ·exact⟨hblk,.inl fun off=>hr.ex (.inl rfl) _ (hex off),dX.nd _ _ hK⟩
  ·obtain⟨g1,g2⟩:=dX.fz _ _ hb';exact⟨(W.block b e1).trans g1,g2.imp id .inl,dX.nd _ _ hb'⟩
end
end Cc
namespace Cc
open Go.Conc Go.ConcN Go.ConcM Go.RowKit Go.Conc.Lib Go.ConcR.Gen
open Go.ConcR (KK wgBlock WgAt stA smA rd wr mk DC0)
section
theorem ZV:(Try.f93.name== "runtime.NumGoroutine")=false:=kr
theorem ae7:Try.f93.body.isNone=true:=kr
theorem Zl:bQ Try.f93=none:=kr
theorem ad8:cW Try.f93=some (fun _=>pure (.bool false)):=kr
theorem Gs:(Try.f123.name== "runtime.NumGoroutine")=false:=kr
theorem G7:Try.f123.body.isNone=true:=kr
theorem FM:bQ Try.f123=none:=kr
theorem GR:cW Try.f123=some (Extern.Atomic.update (Op.intArith .add) .u64 true):=kr
theorem Gr:(Try.f124.name== "runtime.NumGoroutine")=false:=kr
theorem G6:Try.f124.body.isNone=true:=kr
theorem FL:bQ Try.f124=none:=kr
theorem GQ:cW Try.f124=some (Extern.Atomic.loadT (.int .u64)):=kr
theorem ap2:(Try.f125.name== "runtime.NumGoroutine")=false:=kr
theorem aC3:Try.f125.body.isNone=true:=kr
theorem ag6:bQ Try.f125=none:=kr
theorem az8:cW Try.f125=some (Extern.Atomic.storeT):=kr
theorem N8:(Try.f128.name== "runtime.NumGoroutine")=false:=kr
theorem Pt:Try.f128.body.isNone=true:=kr
theorem Ni:bQ Try.f128=none:=kr
theorem O5:cW Try.f128=some (Extern.Atomic.casT (.int .u64)):=kr
theorem Xp:(Try.f102.name== "runtime.NumGoroutine")=false:=kr
theorem Pr:Try.f102.body.isNone=true:=kr
theorem Wm:bQ Try.f102=none:=kr
theorem Yz:cW Try.f102=some (Extern.Sync.semrelease):=kr
theorem Tq:(Try.f109.name== "runtime.NumGoroutine")=false:=kr
theorem Vm:Try.f109.body.isNone=true:=kr
theorem RZ:bQ Try.f109=none:=kr
theorem UK:cW Try.f109=some (Extern.Sync.semacquire):=kr
theorem Xv:(Try.f98.name== "runtime.NumGoroutine")=false:=kr
theorem YW:Try.f98.body.isNone=true:=kr
theorem Wn:bQ Try.f98=none:=kr
theorem YA:cW Try.f98=some (Extern.Race.marked .read):=kr
theorem TF:(Try.f108.name== "runtime.NumGoroutine")=false:=kr
theorem Vo:Try.f108.body.isNone=true:=kr
theorem R5:bQ Try.f108=none:=kr
theorem UN:cW Try.f108=some (Extern.Race.marked .write):=kr
theorem ap0:(Try.f61.name== "runtime.NumGoroutine")=false:=kr
theorem Xr:(Try.f63.name== "runtime.NumGoroutine")=false:=kr
theorem Tz:(Try.f97.name== "runtime.NumGoroutine")=false:=kr
theorem Gq:(Try.f99.name== "runtime.NumGoroutine")=false:=kr
theorem Tx:(Try.f100.name== "runtime.NumGoroutine")=false:=kr
theorem ap1:(Try.f107.name== "runtime.NumGoroutine")=false:=kr
theorem Sc:Try.prog.underlying 172=some (.pointer 116):=kr
theorem ag2:(Try.prog.info? 116).map (fun i=>decide (i.size=0))=some false:=kr
theorem Sd:Try.prog.underlying 178=some (.pointer 114):=kr
theorem Zg:(Try.prog.info? 114).map (fun i=>decide (i.size=0))=some false:=kr
section
variable{q:iK}{i:Nat}{s:eI}{x:Wk}{Ch:Nat->ah->St eD->Prop}
theorem TT.qQ{P:au}(hP:q.P=P){g:ah}{st:St eD}(hA:At s i x st)(hx:x.wg≠ .lv/\x.wg≠ .gone/\x.wg≠ .idle)(n:Nat)
  (h:∀w:ae,(∃v,w.cell? ⟨s.Wg,0,none⟩=some v)->Goes P (i==0) (fun _ w₁=>∃v,w₁.cell? ⟨s.Wg,0,none⟩=some v) DC0 (fun g' _=>g'.status=.running/\TT (cfg q) i Ch g' st) n g w):TT (cfg q) i Ch g st:=by
 subst hP;exact TT.step fun dV hr hi=>by
  have hr:Rl i st dV:=hr;have hi:Inv q dV:=hi;have f:∀dV,Rl i st dV->Inv q dV->∃v,dV.w.cell? ⟨s.Wg,0,none⟩=some v:=fun dV hr hi=>⟨_,((hi.eZ s (hA.rely hx hr hi).sc).c.qL.cellSt)⟩;exact(TT.walk (C:=cfg q) Dk (F:=fun w₁=>∃v,w₁.cell? ⟨s.Wg,0,none⟩=some v) f (fun dV hr hi=>(hA.rely hx hr hi).nH ⟨hx.1,hx.2.1⟩) n g dV.w (h dV.w (f dV hr hi))).elim dV hr hi
theorem eU{s:eI}{w₀ w₁:ae}(_:∃v,w₀.cell? ⟨s.Wg,0,none⟩=some v)(r:∃v,w₁.cell? ⟨s.Wg,0,none⟩=some v):∃v,w₁.cell? ⟨s.Wg,0,none⟩=some v:=r
end
end
section
open Go.ConcM (OsLater)
section
variable{q:iK}{s:eI}
theorem zm(m:Mark)(h:(∀a,m≠ .release a)/\(∀a,m≠ .read a)/\∀a,m≠ .write a):∀e∈(#[⟨.mark m,false,true⟩]:Array Event),EvM s e:=by
 intro e he;simp at he;subst he;exact .inl ⟨m,rfl,h⟩
theorem UT(off:Nat)(h:off<2):∀e∈(#[⟨.cell ⟨s.Wg,off,none⟩,false,true⟩,⟨.cell ⟨s.Wg,off,none⟩,true,true⟩]:Array Event),EvM s e:=by
 intro e he;simp at he;rcases he with rfl|rfl
 ·exact .inr (.inl ⟨off,false,rfl,h⟩)
 ·exact .inr (.inl ⟨off,true,rfl,h⟩)
theorem O9(off:Nat)(h:off<2):∀e∈(#[⟨.cell ⟨s.Wg,off,none⟩,false,true⟩]:Array Event),EvM s e:=by
 intro e he;simp at he;subst he;exact .inr (.inl ⟨off,false,rfl,h⟩)
theorem UR:∀e∈(#[⟨.mark (.read ⟨s.Wg,1,none⟩),false,true⟩]:Array Event),EvM s e:=by
 intro e he;simp at he;subst he;exact .inr (.inr ⟨1,by omega,.inl rfl⟩)
theorem QV:∀e∈(#[⟨.mark (.write ⟨s.Wg,1,none⟩),false,true⟩]:Array Event),EvM s e:=by
 intro e he;simp at he;subst he;exact .inr (.inr ⟨1,by omega,.inr rfl⟩)
theorem Ou{st:St eD}(off:Nat)(v:af):(st.w.setCell ⟨s.Wg,off,none⟩ v).heap.size=st.w.heap.size/\(∀b,b≠s.Wg->(st.w.setCell ⟨s.Wg,off,none⟩ v).heap[b]?=st.w.heap[b]?)/\OsLater st.w.os (st.w.setCell ⟨s.Wg,off,none⟩ v).os/\(st.w.setCell ⟨s.Wg,off,none⟩ v).output=st.w.output:=by
 have A:=aside_setCell st.w ⟨s.Wg,off,none⟩ v;exact⟨A.size,fun b hb=>A.block b hb,by rw[A.os];exact .refl _,A.output⟩
theorem Ky{st:St eD}(c:gL q s st)(p:WG->Bool):gj p st.γ s<=9:=by
 unfold gj;exact aY (aY List.countP_le_length (by simp)) c.n0.2.2.2
variable(hP:q.P=dS){num:Nat}{K:List (Nat×Obj)}{Ch:Nat->ah->St eD->Prop}
variable{b₁:ai}{a₁:Act}{eA:Array Oper}{fH:Nat}{ey:List Nat}{k₁:List Item}{cs₁:List ai}
noncomputable def Pz:Code:=Try.f61.body.getD .skip
include hP
theorem aq2(hT:∀st':St eD,ni s .ad 0 num K st'->Inv q st'->TT (cfg q) 0 Ch (G (b₁.at (a₁.put ((eA[fH]?).bind (·.dst)) (.tuple #[])) (.inRegion eA ey::k₁)) cs₁) st'){st:St eD}(hA:ni s .sp 0 num K st):
  TT (cfg q) 0 Ch (G ((base 61).at ⟨#[.pointer (some ⟨s.Wg,0,none⟩),.int .i64 1,av,av,av,av,av,av,av,av,av,av,av,av,av,av,av,av,av,av,av,av,av,av,av,av,av,av,av,av,av,av,av,av,av,av,av,av,av,av,av,av,av,av,av,av,av,av,av,av,av,av,av,av,av,av,av,av,av,av,av,av,av,av,av,av,av,av,av,av,av,av,av,av,av,av,av,av,av,av,av,av,av,av,av,av,av,av,av,av,av,av,av,av,av,av,av,av,av,av,av,av,av,av,av,av,av,av,av,av,av,av,av,av,av,av,av],[]⟩ [.code Pz]) (b₁.at a₁ (.inRegion eA (fH::ey)::k₁)::cs₁)) st:=by
 simp only[Pz,Try.f61,aJ];refine TT.jQ hP hA 80 fun w₀ hF=>?_;repeat w_go ez
 refine stp rfl ?_;clear hF w₀;refine TT.L9 hP hA fun dV dX eO ek _ _=>⟨_,_,_,.sp,dV.γ.gs,dV.γ.gm,stepG_mark0 .disable (by simp) rfl rfl (by k_ne) rfl Try.func91 qW rA qN f_disable,rfl,zm .disable (by simp),⟨rfl,fun _ _=>rfl,.refl _,rfl⟩,ek.qL,by simp,by simp,by have:=ek.sD;rw[dX.mw]at this;exact this,fun dY eo eN _ _=>?_⟩;clear ek eO dX;refine TT.jQ hP eo 80 fun w₀ hF=>?_;walk_nrm;repeat w_go ez
 u_defer ez hF
 repeat w_go ez
 u_in ez hF
 rw[stepG_entry_pure (.bool false) rfl rfl (by k_ne) rfl Try.func93 ZV ae7 Zl ad8];simp only[goes_go];refine⟨by u_nil,?_⟩;walk_nrm;repeat w_go ez
 u_call Try.func97 Tz Try.f97 ez hF
 repeat w_go ez
 refine stp rfl ?_;clear hF w₀;refine TT.L9 hP eo fun fx eJ fw eV _ _=>?_;have hL:=eV.sD;rw[eJ.mw]at hL;obtain⟨w1,w2,w3,w4,w5⟩:=hL;have Uo:=Ky eV WG.cd;have hw:=eV.qL;rw[w1,w2]at hw;generalize hcc:gj WG.cd fx.γ s=c at*;have e1:IntKind.u64.wrap (((c*4294967296:Nat):Int)+4294967296)=(((c+1)*4294967296:Nat):Int):=by rw[IntKind.wrap_u64];omega
 refine⟨_,_,_,.ad,(c+1)*4294967296,0,(stepG_add_atomic rfl rfl (by k_ne) rfl Try.func123 Gs G7 FM .u64 GR rfl rfl hw.cellSt (hw.thaw 0)).trans (by rw[e1];rfl),rfl,UT 0 (by omega),Ou 0 _,hw.setSt _,by simp,by simp,?_,fun fJ eF fN JQ _=>?_⟩
 ·exact⟨rfl,rfl,w3,w4,w5⟩
 clear hw e1 w1 w2 w3 w4 w5 hcc eV fw eJ JQ;have hS0:(((c+1)*4294967296:Nat):Int)=((c+1:Nat):Int)*4294967296+((0:Nat):Int):=by omega
 rw[hS0];have b1:bits .and .u64 (((c+1:Nat):Int)*4294967296+((0:Nat):Int)) 2147483648=0:=st_flag (c+1) 0 (by omega) (by omega);have b2:bits .and .u64 (((c+1:Nat):Int)*4294967296+((0:Nat):Int)) 2147483647=((0:Nat):Int):=st_waiters (c+1) 0 (by omega) (by omega);have a1:(((c+1:Nat):Int)*4294967296+((0:Nat):Int))/4294967296=((c+1:Nat):Int):=by omega
 have a2:0<=((c+1:Nat):Int)*4294967296+((0:Nat):Int)/\((c+1:Nat):Int)*4294967296+((0:Nat):Int)<9223372036854775808:=by omega
 generalize((c+1:Nat):Int)*4294967296+((0:Nat):Int)=S at*;simp only[Int.natCast_zero]at b2;have b3:bH .u32 0=0:=by decide
 obtain⟨V,hV⟩:∃V:Int,V=((c+1:Nat):Int):=⟨_,rfl⟩;rw[<-hV]at a1;have v1:bH .i32 V=V:=by rw[dJ];omega
 have v2:(0:Int)<V:=by omega
 have v3:¬V<0:=by omega
 have hdm:deafBehind (deafBehind 0 #[⟨.mark .disable,false,true⟩]) #[⟨.cell (stA s.Wg),false,true⟩,⟨.cell (stA s.Wg),true,true⟩]=1:=rfl;replace eF:ni s .ad 1 num K fJ:=eF;clear hdm eo eN hS0;refine TT.jQ hP eF 200 fun w₀ hF=>?_;walk_nrm;by_cases hc0:c=0
 ·have hV1:V=1:=by omega
  subst hV1;clear hV Uo hc0 v2 v3 v1;have v1:bH .i32 1=1:=by decide
  repeat w_go ez
  u_leave1 Try.func97 ez hF
  repeat w_go ez
  m_convG dS Try.underlying174 Sd Zg hF.2.choose_spec ez hF
  refine stp rfl ?_;clear hF w₀;refine TT.L9 hP eF fun eT fh gB fD _ _=>⟨_,_,_,.ad,eT.γ.gs,eT.γ.gm,stepG_markAt .read (by simp) rfl rfl (by k_ne) rfl Try.func98 Xv YW Wn YA (ad:=⟨s.Wg,1,none⟩) (by simp[aU]<;>rfl),rfl,UR,⟨rfl,fun _ _=>rfl,.refl _,rfl⟩,fD.qL,by simp,by simp,by have:=fD.sD;rw[fh.mw]at this;exact this,fun gN eY gu _ _=>?_⟩;replace eY:ni s .ad 1 num K gN:=eY;refine TT.jQ hP eY 200 fun w₀ hF=>?_;walk_nrm;repeat w_go ez
  refine stp rfl ?_;clear hF w₀;refine TT.L9 hP eY fun stA Hw hIA QS _ _=>⟨_,_,_,.ad,stA.γ.gs,stA.γ.gm,stepG_unwind_entry (v:=.tuple #[]) rfl Try.func92 je jl jd f_enable (by simp[Extern.Race.none_]) (by simp) (by intro x hx;simp at hx;subst hx;exact⟨rfl,fun g h=>by cases h⟩),rfl,zm .enable (by simp),⟨rfl,fun _ _=>rfl,.refl _,rfl⟩,QS.qL,by simp,by simp,by have:=QS.sD;rw[Hw.mw]at this;exact this,fun Nq El Mx _ _=>?_⟩;refine TT.jQ hP El 40 fun w₀ hF=>?_;u_leave0 Try.func61 ez hF
  refine stp rfl ?_;exact hT Nq (by have e:deafBehind 1 #[⟨.mark .enable,false,true⟩]=0:=rfl;rw[<-e];exact El) Mx
 ·have hV1:(V==1)=false:=by simp<;>omega
  clear hV Uo hc0;repeat w_go ez
  u_leave1 Try.func97 ez hF
  repeat w_go ez
  refine stp rfl ?_;clear hF w₀;refine TT.L9 hP eF fun stA Hw hIA QS _ _=>⟨_,_,_,.ad,stA.γ.gs,stA.γ.gm,stepG_unwind_entry (v:=.tuple #[]) rfl Try.func92 je jl jd f_enable (by simp[Extern.Race.none_]) (by simp) (by intro x hx;simp at hx;subst hx;exact⟨rfl,fun g h=>by cases h⟩),rfl,zm .enable (by simp),⟨rfl,fun _ _=>rfl,.refl _,rfl⟩,QS.qL,by simp,by simp,by have:=QS.sD;rw[Hw.mw]at this;exact this,fun Nq El Mx _ _=>?_⟩;refine TT.jQ hP El 40 fun w₀ hF=>?_;u_leave0 Try.func61 ez hF
  refine stp rfl ?_;exact hT Nq (by have e:deafBehind 1 #[⟨.mark .enable,false,true⟩]=0:=rfl;rw[<-e];exact El) Mx
end
end
end Cc
end Go.Proofs.Ytpfpokjaeffbjaa
