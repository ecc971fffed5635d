/- Part of the proof: LkJ, LkU, LkV, DoF, DoA, DoB, DoC, DoW. -/
import Derived.Test.YtpfpokjaeffbjaaHh0
import Derived.Test.YtpfpokjaeffbjaaHh7
import Derived.Test.YtpfpokjaeffbjaaHh4
import Derived.Test.YtpfpokjaeffbjaaHh6
import Derived.Lib.Hide
import Derived.Test.YtpfpokjaeffbjaaHh16
import Derived.Test.YtpfpokjaeffbjaaHh17
set_option linter.unusedVariables false
set_option linter.unusedSimpArgs false
set_option maxRecDepth 100000
set_option maxHeartbeats 16000000
open Go.Proofs.Try renaming prog→dS
open Go.BinOp renaming and→aZ
open Go.IntKind renaming i32→aK,wrap→bI,wrap_i32→dJ,wrap_i64→cG
open Option renaming getD_some→aJ
open Nat renaming lt_of_le_of_ne→cV
open Go.Act renaming eval→aU
open Go.Frame renaming enter→bQ,finish_at→dI
open Go.Region renaming wanted→bg
open Go.Instr renaming loadAt→aT,storeAt→bJ
namespace Go.Proofs.Ytpfpokjaeffbjaa
open Go renaming World→ae,Value→af,Goroutine→ah,Frame→ai,TypeId→aj,FuncId→ak,Program→au,undef→av,execOp→ax
open Go.Lib renaming hid→ay
namespace Cc
open Go.Conc Go.ConcN Go.ConcM Go.RowKit Go.Conc.Lib Go.ConcR.Gen
open Go.ConcR (KK wgBlock WgAt stA smA rd wr mk DC0)
section
section
variable{q:iU}(hP:q.P=dS){i:Nat}{s:eJ}{x:Wk}{Ch:Nat->ah->St eH->Prop}
variable{b₁:ai}{a₁:Act}{eB:Array Oper}{fE:Nat}{ez:List Nat}{k₁:List Item}{cs₁:List ai}
include hP
theorem ap9(hx:x.wg=.work)(hT:KG q i Ch s x b₁ a₁ eB fE ez k₁ cs₁):∀μ,Rh q i Ch s x b₁ a₁ eB fE ez k₁ cs₁ μ:=by
 intro μ;induction μ using Nat.strongRecOn with
 |_ μ ih=>
 intro pr it aw sv nW l w z N st hμ h0 h4 hA hI hR ha hs;have hl:=hR.l1;have hz:=hR.z1;rcases (by omega:z=0\/z=1)with rfl|rfl
 ·rcases (by omega:l=0\/l=1)with rfl|rfl
  ·cases aw
   ·obtain rfl:=hs rfl;exact aW3 hP hx hT ih h0 h4 hμ hA hI hR
   ·obtain⟨rfl,-⟩:=ha rfl;cases sv
    ·exact JY hP hx hT ih h0 h4 hμ hA hR
    ·exact L1 hP hx hT ih h0 h4 hμ hA hR
  ·cases aw
   ·obtain rfl:=hs rfl;exact XA hP hx hT ih h0 h4 hμ hA hR
   ·obtain⟨rfl,-⟩:=ha rfl;cases sv
    ·exact Xz hP hx hT ih h0 h4 hμ hA hR
    ·exact Xy hP hx hT ih h0 h4 hμ hA hR
 ·cases aw
  ·obtain rfl:=hs rfl;rcases (by omega:l=0\/l=1)with rfl|rfl
   ·exact ad3 hP hx hT ih h0 h4 hμ hA hR
   ·exact ad2 hP hx hT ih h0 h4 hμ hA hR
  ·have:=(ha rfl).2
   omega
theorem ad8(hx:x.wg=.work)(hT:KG q i Ch s x b₁ a₁ eB fE ez k₁ cs₁){st:St eH}(hA:At s i {x with mx:=.fresh,df:=1} st):TT (cfg q) i Ch (G ((base 133).at ⟨#[.pointer (some ⟨s.Gb,4,none⟩),av,av,av,av,av,av,av,av,av,av,av,av,av,av,av,av,av,av,av,av,av,av,av,av,av,av,av,av,av,av,av,av,av,av,av,av,av,av,av,av,av,av,av,av,av,av,av,av,av,av,av,av,av,av,av,av,av,av,av,av,av,av,av,av,av,av,av,av,av,av,av,av,av,av,av,av,av,av,av,av,av,av,av,av,av,av,av,av,av,av,av,av,av,av,av,av,av,av,av,av,av,av,av,av,av,av,av,av,av,av,av,av,av,av,av,av,av,av,av,av,av,av,av,av,av,av,av,av,av,av,av,av,av,av,av,av,av,av],[]⟩ [.code iz]) (b₁.at a₁ (.inRegion eB (fE::ez)::k₁)::cs₁)) st:=by
 simp only[iz,Try.f133,aJ];refine TT.road hP hA (by simp[hx]) 80 fun w₀ hF=>?_;repeat w_go dW
 refine stp rfl ?_;clear hF w₀;refine TT.mu hP hA hx (mx:=.fresh) rfl (by simp) fun eT fe gg fx q1 q2 _ _=>⟨_,_,_,.cont false,1,eT.γ.L,eT.γ.W,eT.γ.S,eT.γ.N,eT.γ.tn,eT.γ.th,fD rfl rfl (by k_ne) rfl rfl fx.gb.cell.2.1 jz,rfl,rfl,by simp,by simp,fx.mu.slow fe.lo (fe.hi gg) (fX fe),fx.gb.stay rfl rfl,eW.refl _,.inl (by simp[kP]),.inl nle,gj,.inr nle,fun gU eZ gD _ w₆ _ xe=>?_⟩;have ju:=Rd.now (gD.eX s eZ.sc).c;rw[w₆.1,w₆.2.1,w₆.2.2.1,w₆.2.2.2]at ju;refine TT.road hP eZ (by simp[hx]) 60 fun w₀ hF=>?_;walk_nrm;repeat w_but "code.loop" dW
 u_c stepG_loop dW hF
 refine stp rfl ?_;exact ap9 hP hx hT _ _ 0 false false 0 _ _ _ _ gU rfl (by omega) (by omega) eZ gD ju (by simp) (by simp) ..
noncomputable def Jr:Code:=Try.f82.body.getD .skip
theorem al6(hx:x.wg=.work)(hT:KG q i Ch s x b₁ a₁ eB fE ez k₁ cs₁){st:St eH}(hA:At s i {x with mx:=.fresh,df:=0} st):TT (cfg q) i Ch (G ((base 82).at ⟨#[.pointer (some ⟨s.Gb,4,none⟩),av,av,av,av,av],[]⟩ [.code Jr]) (b₁.at a₁ (.inRegion eB (fE::ez)::k₁)::cs₁)) st:=by
 simp only[Jr,Try.f82,aJ];refine TT.road hP hA (by simp[hx]) 80 fun w₀ hF=>?_;repeat w_go dW
 u_call Try.func119 WL Try.f119 dW hF
 repeat w_go dW
 refine stp rfl ?_;clear hF w₀;refine TT.lR hP hA hx (mx:=.fresh) rfl (by simp) fun dV dY eQ eo=>⟨_,_,_,1,stepG_mark0 .disable (by simp) rfl rfl (by k_ne) rfl Try.func91 qZ rE qQ f_disable,rfl,Ux 0,rfl,eW.refl _,oK .disable (by simp),fun dZ eu eN _ w₂ f₂ _=>?_⟩;clear eo dY eQ;refine TT.road hP eu (by simp[hx]) 80 fun w₀ hF=>?_;walk_nrm;repeat w_go dW
 refine stp rfl ?_;clear hF w₀;refine TT.mu hP eu hx (mx:=.fresh) rfl (by simp) fun fw eK fu eV p1 p2 p3 p4=>?_;by_cases hit:enc fw.γ.L fw.γ.W fw.γ.S fw.γ.N=0
 ·obtain⟨e1,e2,e3,e4⟩:=kE (hit.trans (by simp[enc]:(0:Int)=enc 0 0 0 0)) eV.mu.bd (by omega);refine⟨_,_,_,.own .xC,1,1,0,0,0,fw.γ.tn,fw.γ.th,stepG_cas_hit rfl rfl (by k_ne) rfl Try.func132 jD jF jC .i32 jE rfl rfl rfl (hit ▸ eV.gb.cell.2.1) (eV.gb.cell.2.2.2 4),rfl,lq _ _,by simp,by simp,eV.mu.fast eK.lo (eK.hi fu) (fX eK) ⟨e1,e2,e3,e4⟩,eV.gb.swap rfl (by simp[enc]),eW.set _ 4 _ (by omega),.inl (by simp[kP]),.inl (by omega),jB 4 (.inl rfl),.inr nle,fun fI eF fO _ _ _ _=>?_⟩;clear eV eK fu hit e1 e2 e3 e4 p1 p2 p3 p4;refine TT.road hP eF (by simp[hx]) 80 fun w₀ hF=>?_;walk_nrm;repeat w_go dW
  refine stp rfl ?_;clear hF w₀;refine TT.lR hP eF hx (mx:=.own .xC) rfl (by simp) fun eT fe gg fx=>⟨_,_,_,0,stepG_mark0 .enable (by simp) rfl rfl (by k_ne) rfl Try.func92 jq jy jm f_enable,rfl,Fv 0,rfl,eW.refl _,oK .enable (by simp),fun gU eZ gD _ w₆ xe _=>?_⟩;clear fx fe gg;refine TT.road hP eZ (by simp[hx]) 80 fun w₀ hF=>?_;walk_nrm;repeat w_go dW
  m_convG dS Try.underlying174 Rz ab1 hF.choose_spec dW hF
  refine stp rfl ?_;clear hF w₀;refine TT.lR hP eZ hx (mx:=.own .xC) rfl (by simp) fun gT iT mY km=>⟨_,_,_,0,stepG_markAt .acquire (by simp) rfl rfl (by k_ne) rfl Try.func105 Nz OO Mx Ot (by simp[aU];rfl),rfl,Uz _ _ (by simp),rfl,eW.refl _,oK _ (by simp),fun xH lL zV _ DX Qo _=>?_⟩;clear km iT mY;refine TT.road hP lL (by simp[hx]) 80 fun w₀ hF=>?_;walk_nrm;repeat w_go dW
  u_leave0 Try.func119 dW hF
  repeat w_go dW
  u_leave0 Try.func82 dW hF
  refine stp rfl ?_;exact hT xH lL zV
 ·refine⟨_,_,_,.fresh,1,fw.γ.L,fw.γ.W,fw.γ.S,fw.γ.N,fw.γ.tn,fw.γ.th,stepG_cas_miss rfl rfl (by k_ne) rfl Try.func132 jD jF jC .i32 jE rfl rfl rfl eV.gb.cell.2.1 (eV.gb.cell.2.2.2 4) hit,rfl,uV _ _,by simp,by simp,jS.still eV eK rfl,eV.gb.stay rfl rfl,eW.refl _,.inr ⟨rfl,rfl,rfl,rfl,rfl⟩,.inl nle,oJ 4 (by omega),.inr nle,fun fI eF fO _ w₄ _ jH=>?_⟩;clear eV eK fu hit p1 p2 p3 p4;refine TT.road hP eF (by simp[hx]) 80 fun w₀ hF=>?_;walk_nrm;repeat w_go dW
  u_call Try.func133 aj8 Try.f133 dW hF
  refine stp rfl ?_;clear hF w₀;refine ad8 hP hx ?_ eF;intro eT fe gg;walk_nrm;refine TT.road hP fe (by simp[hx]) 80 fun w₀ hF=>?_;repeat w_go dW
  u_leave0 Try.func119 dW hF
  repeat w_go dW
  u_leave0 Try.func82 dW hF
  refine stp rfl ?_;exact hT eT fe gg
end
end
section
section
variable{q:iU}(hP:q.P=dS){i:Nat}{s:eJ}{x:Wk}{Ch:Nat->ah->St eH->Prop}
variable{b₁:ai}{a₁:Act}{eB:Array Oper}{fE:Nat}{ez:List Nat}{k₁:List Item}{cs₁:List ai}
structure Hd(p:Prop):Prop where
 un:p
noncomputable def FX:Code:=Try.f135.body.getD .skip
noncomputable def BS:Code:=(iX ((Fh 12 FX).getD .skip)).getD .skip
def bv9(q:iU)(i:Nat)(Ch:Nat->ah->St eH->Prop)(s:eJ)(x:Wk)(b₁:ai)(a₁:Act)(eB:Array Oper)(fE:Nat)(ez:List Nat)(k₁:List Item)(cs₁:List ai):Prop:=
 ∀(mx:MX) (st:St eH),(mx=.out\/∃old:Int,mx=.ul old/\∀N':Nat,1<=N'->old≠(8*N':Nat))->At s i {x with mx:=mx,df:=1} st->TT (cfg q) i Ch (G (b₁.at (a₁.put ((eB[fE]?).bind (·.dst)) (.tuple #[])) (.inRegion eB ez::k₁)) cs₁) st
include hP
theorem ac5(hx:x.wg=.work)(hT:bv9 q i Ch s x b₁ a₁ eB fE ez k₁ cs₁):∀(pr l w z N:Nat) (st:St eH),At s i {x with mx:=.ul (enc l w z N),df:=1} st->Rd s st pr l w z N->∀j1 j2 j3 j5 j6 j7 j8 j9 j10 j11 j12 j13 tI tH tF tE vA pE pD tD tC tB tA tz tv tq tj s7 sZ sY sX sW sV sU sS sQ sP sO zg zf ze:af,∀old:Int,old=enc l w z N->TT (cfg q) i Ch (G ((base 135).at ⟨#[.pointer (some ⟨s.Gb,4,none⟩),j1,j2,j3,.int .i32 old,j5,j6,j7,j8,j9,j10,j11,j12,j13,tI,tH,tF,tE,vA,pE,pD,tD,tC,tB,tA,tz,tv,tq,tj,s7,sZ,sY,sX,sW,sV,sU,sS,sQ,sP,sO,zg,zf,ze],[]⟩ [.code BS,.inLoop BS,.inBlock 0]) (b₁.at a₁ (.inRegion eB (fE::ez)::k₁)::cs₁)) st:=by
 intro pr;induction pr using Nat.strongRecOn with
 |_ pr ih=>
 intro l w z N st hA hR j1 j2 j3 j5 j6 j7 j8 j9 j10 j11 j12 j13 tI tH tF tE vA pE pD tD tC tB tA tz tv tq tj s7 sZ sY sX sW sV sU sS sQ sP sO zg zf ze old ho;have b1:=hR.l1;have b2:=hR.w1;have b3:=hR.z1;have b4:=hR.n9;have h7:bits aZ aK old 7=((l+2*w+4*z:Nat):Int):=by rw[ho];exact au5 _ _ _ _ b1 b2 b3 (by omega)
 obtain⟨nn,hd,hnn⟩:∃nn:Int,old/8=nn/\nn=N:=⟨_,by rw[ho];exact Uv _ _ _ _ b1 b2 b3,rfl⟩;by_cases h0:N=0
 ·
  obtain rfl:nn=0:=by omega
  replace ho:=Hd.mk ho;clear h7 hnn;simp only[BS,FX,iX,Fh,Try.f135,aJ,Nat.reduceEqDiff,↓reduceIte];refine TT.road hP hA (by simp[hx]) 60 fun w₀ hF=>?_;repeat w_go dW
  u_leave0 Try.func135 dW hF
  refine stp rfl ?_;exact hT _ st (.inr ⟨_,rfl,fun N' h=>by unfold enc;omega⟩) hA
 have hz0:(nn==0)=false:=by simp<;>omega
 by_cases h8:l+2*w+4*z=0
 ·have h7:bits aZ aK old 7=0:=by rw[h7,h8];rfl
  obtain⟨rfl,rfl,rfl⟩:l=0/\w=0/\z=0:=by omega
  have h9:bI aK (old-8)=enc 0 0 0 (N-1):=by rw[ho];exact au4 _ _ _ _ b1 b2 b3 (by omega) (by omega)
  have h2:bits BinOp.or aK (enc 0 0 0 (N-1)) 2=enc 0 1 0 (N-1):=ZV _ _ _ _ b1 b2 b3 (by omega);replace ho:=Hd.mk ho;clear hnn;simp only[BS,FX,iX,Fh,Try.f135,aJ,Nat.reduceEqDiff,↓reduceIte];refine TT.road hP hA (by simp[hx]) 80 fun w₀ hF=>?_;repeat w_go dW
  refine stp rfl ?_;clear hF w₀;refine TT.mu hP hA hx (mx:=.ul (enc 0 0 0 N)) rfl (by simp) fun dV dY eQ eo p1 p2 p3 p4=>?_;have fB:=hR.later p1 p2;replace ho:=ho.un;by_cases hit:enc dV.γ.L dV.γ.W dV.γ.S dV.γ.N=old
  ·obtain⟨e1,e2,e3,e4⟩:=kE (hit.trans ho) eo.mu.bd ⟨by omega,by omega,by omega⟩;refine⟨_,_,_,.rel,1,dV.γ.L,1,dV.γ.S,dV.γ.N-1,dV.γ.tn,dV.γ.th,stepG_cas_hit rfl rfl (by k_ne) rfl Try.func132 jD jF jC .i32 jE rfl rfl rfl (hit ▸ eo.gb.cell.2.1) (eo.gb.cell.2.2.2 4),rfl,lq _ _,by simp,by simp,eo.mu.bp4 dY.lo (dY.hi eQ) (fX dY) ⟨e1,e2,e3,by omega⟩,eo.gb.swap rfl (by rw[e1,e3,e4]),eW.set _ 4 _ (by omega),.inl (by simp[kP]),.inr fun j _ j1 j2=>eo.mu.bg7 e3 j1 j2,jB 4 (.inl rfl),.inr nle,fun dZ eu eN _ _ _ f₂=>?_⟩;clear hit fB eo dY eQ ho e1 e2 e3 e4;refine TT.road hP eu (by simp[hx]) 80 fun w₀ hF=>?_;walk_nrm;repeat w_go dW
   refine stp rfl ?_;clear hF w₀;refine TT.mu hP eu hx (mx:=.rel) rfl (by simp) fun eT fe gg fx q1 q2 q3 q4=>?_;have ht:=(fx.mu.nine fx.n0.2.2.2).2;refine⟨_,_,_,.out,1,eT.γ.L,eT.γ.W,eT.γ.S,eT.γ.N,eT.γ.tn+1,eT.γ.th,stepG_semrelease rfl rfl (by k_ne) rfl Try.func145 SS G0 Rm Ul (by simp[aU]) fx.gb.cell.2.2.1 (fx.gb.cell.2.2.2 5),rfl,Ma _ _,by simp,by simp,fx.mu.af0 fe.lo (fe.hi gg) (fX fe),fx.gb.sema (by rw[IntKind.wrap_u32];omega),eW.set _ 5 _ (by omega),.inl (by simp[kP];omega),.inl nle,GV,.inl (mayWake_entry rfl rfl Try.func145 G0),fun gU eZ gD _ _ _ _=>?_⟩;clear fx fe gg q1 q2 q3 q4 ht;refine TT.road hP eZ (by simp[hx]) 80 fun w₀ hF=>?_;walk_nrm;repeat w_go dW
   u_leave0 Try.func135 dW hF
   refine stp rfl ?_;exact hT _ gU (.inl rfl) eZ
  ·refine⟨_,_,_,.ul (enc 0 0 0 N),1,dV.γ.L,dV.γ.W,dV.γ.S,dV.γ.N,dV.γ.tn,dV.γ.th,stepG_cas_miss rfl rfl (by k_ne) rfl Try.func132 jD jF jC .i32 jE rfl rfl rfl eo.gb.cell.2.1 (eo.gb.cell.2.2.2 4) hit,rfl,uV _ _,by simp,by simp,jS.still eo dY rfl,eo.gb.stay rfl rfl,eW.refl _,.inr ⟨rfl,rfl,rfl,rfl,rfl⟩,.inl nle,oJ 4 (by omega),.inr nle,fun dZ eu eN _ w₂ _ f₂=>?_⟩;have hlt:phi dZ.γ s<pr:=by
    refine cV (by have:=fB.le;omega) fun e=>hit ?_;obtain⟨a,b,c,d⟩:=fB.eq (by omega);rw[a,b,c,d,ho]
   clear hit fB eo dY eQ ho;refine TT.road hP eu (by simp[hx]) 80 fun w₀ hF=>?_;walk_nrm;repeat w_go dW
   refine stp rfl ?_;clear hF w₀;refine TT.mu hP eu hx (mx:=.ul (enc 0 0 0 N)) rfl (by simp) fun eT fe gg fx q1 q2 _ _=>⟨_,_,_,.ul (enc eT.γ.L eT.γ.W eT.γ.S eT.γ.N),1,eT.γ.L,eT.γ.W,eT.γ.S,eT.γ.N,eT.γ.tn,eT.γ.th,fD rfl rfl (by k_ne) rfl rfl fx.gb.cell.2.1 Wi,rfl,rfl,by simp,by simp,fx.mu.look fe.lo (fe.hi gg) (fX fe),fx.gb.stay rfl rfl,eW.refl _,.inr ⟨by simp[kP],rfl,rfl,rfl,rfl⟩,.inl nle,gj,.inr nle,fun gU eZ gD _ w₆ _ xe=>?_⟩;have ju:=Rd.now (gD.eX s eZ.sc).c;rw[w₆.1,w₆.2.1,w₆.2.2.1,w₆.2.2.2]at ju;have xe:phi gU.γ s=phi eT.γ s:=by simp only[kP]at xe;omega
   refine TT.road hP eZ (by simp[hx]) 60 fun w₀ hF=>?_;walk_nrm;repeat w_nl dW
   u_c stepG_inLoop dW hF
   refine stp rfl ?_;exact ih _ (by omega) _ _ _ _ gU eZ ju _ _ _ _ _ _ _ _ _ _ _ _ _ _ _ _ _ _ _ _ _ _ _ _ _ _ _ _ _ _ _ _ _ _ _ _ _ _ _ _ _ _ rfl
 ·
  have h7':(bits aZ aK old 7 != 0)=true:=by rw[h7];simp<;>omega
  replace ho:=Hd.mk ho;clear h7 hnn;simp only[BS,FX,iX,Fh,Try.f135,aJ,Nat.reduceEqDiff,↓reduceIte];refine TT.road hP hA (by simp[hx]) 60 fun w₀ hF=>?_;repeat w_go dW
  u_leave0 Try.func135 dW hF
  refine stp rfl ?_;exact hT _ st (.inr ⟨_,rfl,fun N' h=>by unfold enc;omega⟩) hA
end
end
section
section
variable{q:iU}(hP:q.P=dS){i:Nat}{s:eJ}{x:Wk}{Ch:Nat->ah->St eH->Prop}
variable{b₁:ai}{a₁:Act}{eB:Array Oper}{fE:Nat}{ez:List Nat}{k₁:List Item}{cs₁:List ai}
def bv8(q:iU)(i:Nat)(Ch:Nat->ah->St eH->Prop)(s:eJ)(x:Wk)(b₁:ai)(a₁:Act)(eB:Array Oper)(fE:Nat)(ez:List Nat)(k₁:List Item)(cs₁:List ai):Prop:=
 ∀st:St eH,At s i {x with mx:=.out,df:=0} st->Inv q st->TT (cfg q) i Ch (G (b₁.at (a₁.put ((eB[fE]?).bind (·.dst)) (.tuple #[])) (.inRegion eB ez::k₁)) cs₁) st
noncomputable def N6:Code:=Try.f120.body.getD .skip
include hP
theorem Qb(hx:x.wg=.work)(hT:bv8 q i Ch s x b₁ a₁ eB fE ez k₁ cs₁){o:Hf}(ho:o≠ .work){st:St eH}(hA:At s i {x with mx:=.own o,df:=0} st):TT (cfg q) i Ch (G ((base 120).at ⟨#[.pointer (some ⟨s.Gb,4,none⟩),av,av,av,av,av,av,av,av,av,av,av,av,av,av,av,av,av,av,av,av],[]⟩ [.code N6]) (b₁.at a₁ (.inRegion eB (fE::ez)::k₁)::cs₁)) st:=by
 have ho:MX.own o≠ .own .work:=by simpa using ho
 simp only[N6,Try.f120,aJ];refine TT.road hP hA (by simp[hx]) 80 fun w₀ hF=>?_;repeat w_go dW
 refine stp rfl ?_;clear hF w₀;refine TT.lR hP hA hx (mx:=.own o) rfl ho fun dV dY eQ eo=>⟨_,_,_,0,fD rfl rfl (by k_ne) rfl rfl eo.gb.cell.2.1 Py,rfl,rfl,rfl,eW.refl _,gj,fun dZ eu eN _ w₂ f₂ _=>?_⟩;clear eo dY eQ;refine TT.road hP eu (by simp[hx]) 80 fun w₀ hF=>?_;walk_nrm;repeat w_go dW
 m_convG dS Try.underlying174 Rz ab1 hF.choose_spec dW hF
 refine stp rfl ?_;clear hF w₀;refine TT.lR hP eu hx (mx:=.own o) rfl ho fun fw eK fu eV=>⟨_,_,_,0,stepG_markAt .releaseMerge (by simp) rfl rfl (by k_ne) rfl Try.func90 Y7 Z4 YD ZT (by simp[aU];rfl),rfl,Uz _ _ (by simp),rfl,eW.refl _,oK _ (by simp),fun fI eF fO _ w₄ jH _=>?_⟩;clear eV eK fu;refine TT.road hP eF (by simp[hx]) 80 fun w₀ hF=>?_;walk_nrm;repeat w_go dW
 refine stp rfl ?_;clear hF w₀;refine TT.lR hP eF hx (mx:=.own o) rfl ho fun eT fe gg fx=>⟨_,_,_,1,stepG_mark0 .disable (by simp) rfl rfl (by k_ne) rfl Try.func91 qZ rE qQ f_disable,rfl,Ux 0,rfl,eW.refl _,oK .disable (by simp),fun gU eZ gD _ w₆ xe _=>?_⟩;clear fx fe gg;refine TT.road hP eZ (by simp[hx]) 80 fun w₀ hF=>?_;walk_nrm;repeat w_go dW
 refine stp rfl ?_;clear hF w₀;refine TT.mu hP eZ hx (mx:=.own o) rfl ho fun gT iT mY km p1 p2 p3 p4=>?_;have e1:=km.mu.aZ4 iT.lo (iT.hi mY) (fX iT);have hn:=(km.mu.nine km.n0.2.2.2).1;have hb:=km.mu.bd;have hv:bI .i32 (enc gT.γ.L gT.γ.W gT.γ.S gT.γ.N+ -1)=enc 0 gT.γ.W gT.γ.S gT.γ.N:=by rw[e1,dJ];unfold enc;omega
 by_cases hS:gT.γ.S=1
 ·
  refine⟨_,_,_,.unl,1,0,gT.γ.W,gT.γ.S,gT.γ.N,gT.γ.tn,gT.γ.th,stepG_add_atomic rfl rfl (by k_ne) rfl Try.func134 Cz Dz BN .i32 f_add rfl rfl km.gb.cell.2.1 (km.gb.cell.2.2.2 4),rfl,lq _ _,by simp,by simp,km.mu.al8 iT.lo (iT.hi mY) (fX iT) hS,km.gb.swap rfl hv,eW.set _ 4 _ (by omega),.inl (by simp[kP]),.inl nle,jB 4 (.inl rfl),.inr nle,fun xH lL zV _ DX _ Qo=>?_⟩;rw[hv];rw[hS];have hw:=hb.2.1;generalize gT.γ.W=yG at hw ⊢;generalize gT.γ.N=nT at hn ⊢;have hne:(enc 0 yG 1 nT != 0)=true:=by simp[enc];omega
  have h1:bI aK (enc 0 yG 1 nT+1)=enc 1 yG 1 nT:=by rw[dJ];unfold enc;omega
  have h11:bits aZ aK (enc 1 yG 1 nT) 1=1:=Dn 1 yG 1 nT (by omega) hw (by omega) (by omega);have h4:bits aZ aK (enc 0 yG 1 nT) 4=4:=mJ 0 yG 1 nT (by omega) hw (by omega) (by omega);clear hv e1 hS hb km iT mY p1 p2 p3 p4 Qo DX;refine TT.road hP lL (by simp[hx]) 80 fun w₀ hF=>?_;walk_nrm;repeat w_go dW
  u_call Try.func135 Nj Try.f135 dW hF
  repeat w_go dW
  refine stp rfl ?_;clear hF w₀;refine TT.mu hP lL hx (mx:=.unl) rfl (by simp) fun stA Hr hIA Qn q1 q2 q3 q4=>?_;have ht:=(Qn.mu.nine Qn.n0.2.2.2).2;refine⟨_,_,_,.out,1,stA.γ.L,stA.γ.W,stA.γ.S,stA.γ.N,stA.γ.tn,stA.γ.th+1,stepG_semrelease rfl rfl (by k_ne) rfl Try.func145 SS G0 Rm Ul (by simp[aU]) Qn.gb.cell.2.2.1 (Qn.gb.cell.2.2.2 5),rfl,Ma _ _,by simp,by simp,Qn.mu.af2 Hr.lo (Hr.hi hIA) (fX Hr),Qn.gb.sema (by rw[IntKind.wrap_u32];omega),eW.set _ 5 _ (by omega),.inl (by simp[kP];omega),.inl nle,GV,.inl (mayWake_entry rfl rfl Try.func145 G0),fun RG tK Oi _ _ _ _=>?_⟩;clear Qn Hr hIA q1 q2 q3 q4 ht;refine TT.road hP tK (by simp[hx]) 80 fun w₀ hF=>?_;walk_nrm;repeat w_go dW
  u_leave0 Try.func135 dW hF
  repeat w_go dW
  refine stp rfl ?_;clear hF w₀;refine TT.lR hP tK hx (mx:=.out) rfl (by simp) fun MG Es LW Ol=>⟨_,_,_,0,stepG_mark0 .enable (by simp) rfl rfl (by k_ne) rfl Try.func92 jq jy jm f_enable,rfl,Fv 0,rfl,eW.refl _,oK .enable (by simp),fun Vm KP ZF _ wC fC _=>?_⟩;clear Ol Es LW;refine TT.road hP KP (by simp[hx]) 80 fun w₀ hF=>?_;walk_nrm;repeat w_go dW
  u_leave0 Try.func120 dW hF
  refine stp rfl ?_;exact hT Vm KP ZF
 have hS:gT.γ.S=0:=by have:=hb.2.2;omega
 by_cases h0:gT.γ.W=0/\gT.γ.N=0
 ·
  refine⟨_,_,_,.out,1,0,gT.γ.W,gT.γ.S,gT.γ.N,gT.γ.tn,gT.γ.th,stepG_add_atomic rfl rfl (by k_ne) rfl Try.func134 Cz Dz BN .i32 f_add rfl rfl km.gb.cell.2.1 (km.gb.cell.2.2.2 4),rfl,lq _ _,by simp,by simp,km.mu.aL7 iT.lo (iT.hi mY) (fX iT) ⟨h0.1,hS,h0.2⟩,km.gb.swap rfl hv,eW.set _ 4 _ (by omega),.inl (by simp[kP]),.inl nle,jB 4 (.inl rfl),.inr nle,fun xH lL zV _ DX _ Qo=>?_⟩;rw[hv];have he:enc 0 gT.γ.W gT.γ.S gT.γ.N=0:=by rw[hS,h0.1,h0.2];rfl
  rw[he];clear hv e1 hS hb km iT mY p1 p2 p3 p4 Qo DX h0 he hn;refine TT.road hP lL (by simp[hx]) 80 fun w₀ hF=>?_;walk_nrm;repeat w_go dW
  refine stp rfl ?_;clear hF w₀;refine TT.lR hP lL hx (mx:=.out) rfl (by simp) fun MG Es LW Ol=>⟨_,_,_,0,stepG_mark0 .enable (by simp) rfl rfl (by k_ne) rfl Try.func92 jq jy jm f_enable,rfl,Fv 0,rfl,eW.refl _,oK .enable (by simp),fun Vm KP ZF _ wC fC _=>?_⟩;clear Ol Es LW;refine TT.road hP KP (by simp[hx]) 80 fun w₀ hF=>?_;walk_nrm;repeat w_go dW
  u_leave0 Try.func120 dW hF
  refine stp rfl ?_;exact hT Vm KP ZF
 ·
  have hul:enc 0 gT.γ.W 0 gT.γ.N=((2*gT.γ.W+8*gT.γ.N:Nat):Int):=by unfold enc;omega
  refine⟨_,_,_,.ul (enc 0 gT.γ.W 0 gT.γ.N),1,0,gT.γ.W,gT.γ.S,gT.γ.N,gT.γ.tn,gT.γ.th,stepG_add_atomic rfl rfl (by k_ne) rfl Try.func134 Cz Dz BN .i32 f_add rfl rfl km.gb.cell.2.1 (km.gb.cell.2.2.2 4),rfl,lq _ _,by simp,by simp,by rw[hul];exact km.mu.al7 iT.lo (iT.hi mY) (fX iT) hS,km.gb.swap rfl hv,eW.set _ 4 _ (by omega),.inl (by simp[kP]),.inl nle,jB 4 (.inl rfl),.inr nle,fun xH lL zV _ DX _ Qo=>?_⟩;rw[hv];rw[hS];have ZA:=Rd.now (zV.eX s lL.sc).c;rw[DX.1,DX.2.1,DX.2.2.1,DX.2.2.2,hS]at ZA;have hw:=hb.2.1;have hne:(enc 0 gT.γ.W 0 gT.γ.N != 0)=true:=by simp[enc];omega
  clear hv e1 hS hb km iT mY p1 p2 p3 p4 Qo DX hul h0;generalize gT.γ.W=yG at*;generalize gT.γ.N=nT at*;have h1:bI aK (enc 0 yG 0 nT+1)=enc 1 yG 0 nT:=by rw[dJ];unfold enc;omega
  have h11:bits aZ aK (enc 1 yG 0 nT) 1=1:=Dn 1 yG 0 nT (by omega) hw (by omega) (by omega);have h4:bits aZ aK (enc 0 yG 0 nT) 4=0:=mJ 0 yG 0 nT (by omega) hw (by omega) (by omega);refine TT.road hP lL (by simp[hx]) 80 fun w₀ hF=>?_;walk_nrm;repeat w_go dW
  u_call Try.func135 Nj Try.f135 dW hF
  repeat w_but "code.loop" dW
  u_c stepG_loop dW hF
  refine stp rfl ?_;refine ac5 hP hx ?_ _ _ _ _ _ xH lL ZA _ _ _ _ _ _ _ _ _ _ _ _ _ _ _ _ _ _ _ _ _ _ _ _ _ _ _ _ _ _ _ _ _ _ _ _ _ _ _ _ _ _ rfl;intro mx stA hm Hr;walk_nrm;refine TT.road hP Hr (by simp[hx]) 80 fun w₀ hF=>?_;repeat w_go dW
  refine stp rfl ?_;clear hF w₀;rcases hm with rfl|⟨old,rfl,hold⟩
  ·refine TT.lR hP Hr hx (mx:=.out) rfl (by simp) fun MG Es LW Ol=>⟨_,_,_,0,stepG_mark0 .enable (by simp) rfl rfl (by k_ne) rfl Try.func92 jq jy jm f_enable,rfl,Fv 0,rfl,eW.refl _,oK .enable (by simp),fun Vm KP ZF _ _ _ _=>?_⟩;clear Ol Es LW;refine TT.road hP KP (by simp[hx]) 80 fun w₀ hF=>?_;walk_nrm;repeat w_go dW
   u_leave0 Try.func120 dW hF
   refine stp rfl ?_;exact hT Vm KP ZF
  ·refine TT.mu hP Hr hx (mx:=.ul old) rfl (by simp) fun MG Es LW Ol q1 q2 _ _=>⟨_,_,_,.out,0,MG.γ.L,MG.γ.W,MG.γ.S,MG.γ.N,MG.γ.tn,MG.γ.th,stepG_mark0 .enable (by simp) rfl rfl (by k_ne) rfl Try.func92 jq jy jm f_enable,rfl,Fv 0,by simp,by simp,Ol.mu.leave Es.lo (Es.hi LW) (fX Es) hold,Ol.gb.stay rfl rfl,eW.refl _,.inl (by simp[kP]),.inl nle,oK .enable (by simp),.inr nle,fun Vm KP ZF _ _ _ _=>?_⟩;clear Ol Es LW q1 q2;refine TT.road hP KP (by simp[hx]) 80 fun w₀ hF=>?_;walk_nrm;repeat w_go dW
   u_leave0 Try.func120 dW hF
   refine stp rfl ?_;exact hT Vm KP ZF
end
end
theorem ak2:(Try.f136.name== "runtime.NumGoroutine")=false:=by kernel_rfl
theorem av7:Try.f136.body.isNone=true:=by kernel_rfl
theorem ab4:Extern.findNext Try.f136=none:=by kernel_rfl
theorem as8:Extern.find Try.f136=some (Extern.Atomic.loadT (.int .u32)):=by kernel_rfl
theorem SQ:(Try.f146.name== "runtime.NumGoroutine")=false:=by kernel_rfl
theorem UR:Try.f146.body.isNone=true:=by kernel_rfl
theorem Rj:Extern.findNext Try.f146=none:=by kernel_rfl
theorem Uk:Extern.find Try.f146=some Extern.Atomic.storeT:=by kernel_rfl
theorem Nt:(Try.f126.name== "runtime.NumGoroutine")=false:=by kernel_rfl
theorem SY:(Try.f137.name== "runtime.NumGoroutine")=false:=by kernel_rfl
theorem aL1:(Try.f147.name== "runtime.NumGoroutine")=false:=by kernel_rfl
theorem aL0:(Try.f103.name== "runtime.NumGoroutine")=false:=by kernel_rfl
theorem SV:(Try.f127.name== "runtime.NumGoroutine")=false:=by kernel_rfl
theorem ak1:(Try.f82.name== "runtime.NumGoroutine")=false:=by kernel_rfl
theorem IZ:(Try.f83.name== "runtime.NumGoroutine")=false:=by kernel_rfl
theorem aj4:(Try.f104.name== "runtime.NumGoroutine")=false:=by kernel_rfl
theorem WJ:(Try.f66.name== "runtime.NumGoroutine")=false:=by kernel_rfl
section
section
variable{q:iU}(hP:q.P=dS){i:Nat}{s:eJ}{x:Wk}{Ch:Nat->ah->St eH->Prop}
variable{b₁:ai}{a₁:Act}{eB:Array Oper}{fE:Nat}{ez:List Nat}{k₁:List Item}{cs₁:List ai}
noncomputable def FE:Code:=Try.f126.body.getD .skip
include hP
theorem OI(hx:x.wg=.work)(mz:x.df=0)(n1:x.mx≠ .own .work)
  (h1:∀st':St eH,At s i {x with syn:=true} st'->Inv q st'->st'.γ.D=1->TT (cfg q) i Ch (G (b₁.at (a₁.put ((eB[fE]?).bind (·.dst)) (.bool true)) (.inRegion eB ez::k₁)) cs₁) st')
  (h0:x.mx≠ .own .xC->∀st':St eH,At s i x st'->Inv q st'->TT (cfg q) i Ch (G (b₁.at (a₁.put ((eB[fE]?).bind (·.dst)) (.bool false)) (.inRegion eB ez::k₁)) cs₁) st')
  (hw:x.mx=.own .xC->∀st':St eH,At s i {x with mx:=.own .work} st'->Inv q st'->TT (cfg q) i Ch (G (b₁.at (a₁.put ((eB[fE]?).bind (·.dst)) (.bool false)) (.inRegion eB ez::k₁)) cs₁) st')
  {st:St eH}(hA:At s i x st):TT (cfg q) i Ch (G ((base 126).at ⟨#[.pointer (some ⟨s.Gb,3,none⟩),av,av,av,av,av,av,av],[]⟩ [.code FE]) (b₁.at a₁ (.inRegion eB (fE::ez)::k₁)::cs₁)) st:=by
 simp only[FE,Try.f126,aJ];refine TT.road hP hA (by simp[hx]) 60 fun w₀ hF=>?_;repeat w_go dW
 refine stp rfl ?_;clear hF w₀;refine TT.aL4 hP hA hx mz n1 fun dV dY eQ eo=>⟨_,stepG_load_atomic rfl rfl (by k_ne) rfl Try.func136 ak2 av7 ab4 .u32 as8 rfl eo.gb.cell.1,rfl,fun hD dZ eu eN T6=>?_,fun hD hm dZ eu eN=>?_,fun hD hm dZ eu eN=>?_⟩;all_goals(rw[hD];clear hD eo eQ dY)
 ·refine TT.road hP eu (by simp[hx]) 60 fun w₀ hF=>?_;walk_nrm;repeat w_go dW
  u_leave1 Try.func126 dW hF
  refine stp rfl ?_;exact h1 dZ eu eN T6
 ·refine TT.road hP eu (by simp[hx]) 60 fun w₀ hF=>?_;walk_nrm;repeat w_go dW
  u_leave1 Try.func126 dW hF
  refine stp rfl ?_;exact h0 hm dZ eu eN
 ·refine TT.road hP eu (by simp[hx]) 60 fun w₀ hF=>?_;walk_nrm;repeat w_go dW
  u_leave1 Try.func126 dW hF
  refine stp rfl ?_;exact hw hm dZ eu eN
end
end
section
section
variable{q:iU}(hP:q.P=dS){i:Nat}{s:eJ}{x:Wk}{Ch:Nat->ah->St eH->Prop}{cs₁:List ai}
noncomputable def Dw:Code:=Try.f137.body.getD .skip
def kz(q:iU)(i:Nat)(s:eJ)(x:Wk)(l:Array Bool)(st:St eH):Prop:=
 if l.getD 5 true=true then At s i {x with mx:=.own .dn,syn:=true} st/\Inv q st
 else At s i x st/\Inv q st/\∀id,1<=id->id<=s.nn->st.w.cell? ⟨s.Gb,6+id,none⟩=some (.int .u64 (s.vals id))
theorem kz.keep{l:Array Bool}{j:Nat}(hj:j≠5){st:St eH}(hx:x.wg=.work)(n1:x.mx=.own .work)(hnn:s.nn<=9)(h:kz q i s x l st):(∃x:Wk,(x.wg≠ .lv/\x.wg≠ .gone/\x.wg≠ .idle)/\At s i x st)/\∀dV,Rl i st dV->Inv q dV->kz q i s x (l.setIfInBounds j true) dV:=by
 unfold kz at h ⊢;rw[getD_set_ne true hj];split at h
 ·rename_i e;refine⟨⟨_,by simp[hx],h.1⟩,fun dV hr hi=>?_⟩;rw[if_pos e];exact⟨h.1.rely (by simp[hx]) hr hi,hi⟩
 ·rename_i e;refine⟨⟨x,by simp[hx],h.1⟩,fun dV hr hi=>?_⟩;rw[if_neg e];refine⟨h.1.rely (by simp[hx]) hr hi,hi,fun id i1 i2=>?_⟩;exact(hr.work h.1.ne (by rw[h.1.me,hx];simp) (by rw[h.1.me,hx];simp) (by rw[h.1.me];exact n1) s h.1.sc (6+id) (by omega) (by omega)).trans (h.2.2 id i1 i2)
theorem kz.stay{l:Array Bool}{st:St eH}(hx:x.wg=.work)(n1:x.mx=.own .work)(hnn:s.nn<=9)(h:kz q i s x l st):(∃x:Wk,(x.wg≠ .lv/\x.wg≠ .gone/\x.wg≠ .idle)/\At s i x st)/\∀dV,Rl i st dV->Inv q dV->kz q i s x l dV:=by
 unfold kz at h ⊢;split at h
 ·rename_i e;refine⟨⟨_,by simp[hx],h.1⟩,fun dV hr hi=>?_⟩;rw[if_pos e];exact⟨h.1.rely (by simp[hx]) hr hi,hi⟩
 ·rename_i e;refine⟨⟨x,by simp[hx],h.1⟩,fun dV hr hi=>?_⟩;rw[if_neg e];refine⟨h.1.rely (by simp[hx]) hr hi,hi,fun id i1 i2=>?_⟩;exact(hr.work h.1.ne (by rw[h.1.me,hx];simp) (by rw[h.1.me,hx];simp) (by rw[h.1.me];exact n1) s h.1.sc (6+id) (by omega) (by omega)).trans (h.2.2 id i1 i2)
theorem kz.inv{l:Array Bool}{st:St eH}(h:kz q i s x l st):Inv q st:=by
 unfold kz at h;split at h
 ·exact h.2
 ·exact h.2.1
include hP
theorem aZ0{x':Wk}(hx:x'.wg≠ .lv/\x'.wg≠ .gone/\x'.wg≠ .idle){b₁:ai}{a₁:Act}{eB:Array Oper}{fE:Nat}{ez:List Nat}{k₁:List Item}{st:St eH}(hA:At s i x' st)
  (hT:TT (cfg q) i Ch (G (b₁.at (a₁.put ((eB[fE]?).bind (·.dst)) (.int .u32 1)) (.inRegion eB ez::k₁)) cs₁) st):
  TT (cfg q) i Ch (G (bQ dS 147 #[.bool true] .normal) (b₁.at a₁ (.inRegion eB (fE::ez)::k₁)::cs₁)) st:=by
 rw[enter_at (P:=dS) _ Try.func147 rfl];simp only[Try.f147];refine TT.road hP hA hx 60 fun w₀ hF=>?_;walk_nrm;repeat w_go dW
 u_leave1 Try.func147 dW hF
 exact Goes.stop (fun w₁ r₁=>⟨rfl,hT⟩)
theorem UM(hx:x.wg=.work)(mz:x.df=0)(n1:x.mx=.own .work)(hnn:s.nn<=9)(ap0:Try.prog.follows .mixedOrders=true){c:ai}(hc:c.mode=.returning)
  (hT:∀st':St eH,At s i {x with mx:=.own .dn,syn:=true} st'->Inv q st'->TT (cfg q) i Ch (G c cs₁) st')
  {st:St eH}(hA:At s i x st)(hv:∀id,1<=id->id<=s.nn->st.w.cell? ⟨s.Gb,6+id,none⟩=some (.int .u64 (s.vals id))):
  TT (cfg q) i Ch (G ((baseD 137).at ⟨#[.pointer (some ⟨s.Gb,3,none⟩),.bool true,av,av,av,av,av,av,av,av],[]⟩ [.code Dw]) (c::cs₁)) st:=by
 simp only[Dw,Try.f137,aJ];refine TT.ask hP hA hx fun dV dY eQ=>⟨_,stepG_region_draw,rfl,fun dZ eu eN hsh=>?_⟩;simp only[Region.schedule,ap0,Bool.true_or,if_true,Region.linearise];have aM5:∀id,1<=id->id<=s.nn->dZ.w.cell? ⟨s.Gb,6+id,none⟩=some (.int .u64 (s.vals id)):=fun id i1 i2=>(hsh n1 (6+id) (by omega) (by omega)).trans (hv id i1 i2);refine DC (S:=kz q i s x) (md:=.any) (F:=fun l a=>l.getD 5 true=true/\a.defers=[]) ?_ ?_ _ _ _ _ dZ ?_ ?_
 ·intro l a st' ⟨hl,hd⟩ hs;unfold kz at hs;rw[if_pos hl]at hs;obtain⟨tm,df⟩:=a;simp only at hd;subst hd;refine TT.road hP hs.1 (by simp[hx]) 60 fun w₀ hF=>?_;repeat w_go dW
  u_in dW hF
  rw[stepG_leave_deferred rfl rfl Try.func137 (results_none rfl _ _ _) (events_results_none rfl _ _) hc];simp only[goes_go];refine⟨by u_nil,?_⟩;refine stp rfl ?_;exact hT st' hs.1 hs.2
 ·intro j l a o rest st' ho _ hw;exfalso;rcases j with _|_|_|_|_|_|j<;>simp at ho<;>subst ho<;>simp[bg]at hw
 ·have keep:∀(j:Nat),j≠5->∀(l:Array Bool) (st:St eH),l.getD j true=false->kz q i s x l st->(∃x:Wk,(x.wg≠ .lv/\x.wg≠ .gone/\x.wg≠ .idle)/\At s i x st)/\∀dV,Rl i st dV->Inv q dV->kz q i s x (l.setIfInBounds j true) dV:=fun j hj l st _ hs=>hs.keep hj hx n1 hnn;change Hp (cfg q) i Ch _ _ [] _ _ .any _ 6 #[false,false,false,false,false,false] _;refine eI (i':=0) (v:=.pointer (some ⟨s.Gb,3,none⟩)) rfl (by kernel_rfl) (by kernel_rfl) (by kernel_rfl) (.inl ⟨rfl,Does.quiet hP rfl (by decide) (keep 0 (by decide)) (fun w=>rfl) (fun a w h=>by unfold listed;rw[h];rfl)⟩) ?_;refine eI (i':=1) (v:=.pointer (some ⟨s.Gb,3,none⟩)) rfl (by kernel_rfl) (by kernel_rfl) (by kernel_rfl) (.inl ⟨rfl,Does.quiet hP rfl (by decide) (keep 1 (by decide)) (fun w=>rfl) (fun a w h=>by unfold listed;rw[h];rfl)⟩) ?_;refine eI (i':=2) (v:=.pointer (some ⟨s.Gb,3,none⟩)) rfl (by kernel_rfl) (by kernel_rfl) (by kernel_rfl) (.inl ⟨rfl,Does.quiet hP rfl (by decide) (keep 2 (by decide)) (fun w=>rfl) (fun a w h=>by unfold listed;rw[h];rfl)⟩) ?_;refine eI (i':=3) (v:=.bool true) rfl (by kernel_rfl) (by kernel_rfl) (by kernel_rfl) (.inl ⟨rfl,Does.quiet hP rfl (by decide) (keep 3 (by decide)) (fun w=>rfl) (fun a w h=>by unfold listed;rw[h];rfl)⟩) ?_;refine eI (i':=4) (v:=.int .u32 1) rfl (by kernel_rfl) (by kernel_rfl) (by kernel_rfl) (.inl ⟨rfl,Does.call hP rfl (by decide) rfl Try.func147 aL1 rfl (by simp[aU,Act.put];rfl) (fun l st hs=>hs.stay hx n1 hnn) ?_⟩) ?_
  ·intro l a rest st hl hs fin;obtain⟨⟨x',hx',hAx⟩,-⟩:=hs.stay hx n1 hnn;refine aZ0 hP hx' hAx ?_;exact fin st ((keep 4 (by decide) l st hl hs).2 st (Rl.refl i st) hs.inv)
  refine eI (i':=5) (v:=.tuple #[]) rfl (by kernel_rfl) (by kernel_rfl) (by kernel_rfl) (.inl ⟨rfl,?_⟩) ⟨by kernel_rfl,by kernel_rfl,rfl⟩;intro l a rest st hl hs he hw hn;have hlen:5<l.size:=by
   refine Nat.lt_of_not_le fun hge=>?_;simp[Array.getD,Nat.not_lt.2 hge]at hl
  unfold kz at hs;rw[if_neg (by rw[hl];decide)]at hs;have e1:=he.trans (show _=callFunc 146 #[.pointer (some ⟨s.Gb,3,none⟩),.int .u32 1]from(execOp_call_func rfl).trans (by simp[aU,Act.put]));refine TT.ad0 hP hs.1 hx mz n1 hs.2.2 hnn fun dV dY eQ eo=>⟨_,?_,rfl,fun dZ eu eN=>hn dZ ?_⟩
  ·have hr:=run_call_store (P:=dS) Try.func146 SQ UR Rj Uk eo.gb.cell.1 (eo.gb.cell.2.2.2 3) (k:=.u32) (y:=1);have hv:=events_call_store (P:=dS) Try.func146 SQ UR Rj Uk eo.gb.cell.1 (eo.gb.cell.2.2.2 3) (k:=.u32) (y:=1);rw[stepG_value (v:=.tuple #[]) (w':=dV.w.setCell ⟨s.Gb,3,none⟩ (.int .u32 1)) rfl hw (by decide) (by rw[e1];exact hr)];unfold listed;rw[e1,hv,seen_extern_sync]
  ·unfold kz;rw[if_pos (by simp[Array.getD,hlen])];exact⟨eu,eN⟩
 ·unfold kz;rw[if_neg (by decide)];exact⟨eu,eN,aM5⟩
end
end
section
theorem LZ{P:au}{main:Bool}{b:ai}{a:Act}{k:List Item}{cs:List ai}{w:ae}{ops:Array Oper}{i:Nat}{rest:List Nat}{o:Oper}{K:ah->ae->Array Event->Prop}{f:ak}{fn:Func}{c:Code}{y:Operand}{ats:Array aj}{first:Array af}
  (ho:ops[i]?=some o)(hw:bg o (yielded ops a.tmps)=true)(hk:b.kind≠ .early)(hop:o.op=.call {callee:=.value y,args:=#[],argTypes:=ats})(hy:a.eval y=.func (.func f) first #[])
  (hf:P.funcs[f]?=some fn)(hname:(fn.name== "runtime.NumGoroutine")=false)(hb:fn.body=some c)
  (h:K (G ((base f).at {tmps:=first++Array.replicate (fn.ntmps-first.size) av,defers:=[]} [.code c]) (b.at a (.inRegion ops (i::rest)::k)::cs)) w #[]):
  (stepG P main (G (b.at a (.inRegion ops (i::rest)::k)) cs) w).goes K:=by
 have h1:¬fn.name= "runtime.NumGoroutine" :=by simpa using hname
 have hr:(ax a.eval o).run P w=.ok (.enter f first) w:=by
  unfold ax;simp[hop,resolve,Deferred.ofValue,invoke,callFunc,hf,h1,hb,hy]
 have he:(ax a.eval o).events P w #[]=#[]:=by
  unfold ax;simp[hop,resolve,Deferred.ofValue,invoke,callFunc,hf,h1,hb,hy]
 rw[stepG_enter ho hw hk hr,enter_at _ hf hb];have:listed P b.fn a o w=#[]:=by unfold listed;rw[he];exact seen_none P _
 rw[this];exact h
section
variable{q:iU}(hP:q.P=dS){i:Nat}{s:eJ}{x:Wk}{Ch:Nat->ah->St eH->Prop}
variable{b₁:ai}{a₁:Act}{eB:Array Oper}{fE:Nat}{ez:List Nat}{k₁:List Item}{cs₁:List ai}
def Laid(s:eJ)(st:St eH):Prop:=∀id,1<=id->id<=s.nn->st.w.cell? ⟨s.Gb,6+id,none⟩=some (.int .u64 (s.vals id))
noncomputable def lW:Code:=Try.f104.body.getD .skip
def zD(q:iU)(i:Nat)(Ch:Nat->ah->St eH->Prop)(s:eJ)(x:Wk):Prop:=
 ∀(b₁:ai) (a₁:Act) (eB:Array Oper) (fE:Nat) (ez:List Nat) (k₁:List Item) (cs₁:List ai) (st:St eH),At s i {x with mx:=.own .work,df:=0} st->Inv q st->
  (∀st':St eH,At s i {x with mx:=.own .work,df:=0} st'->Inv q st'->Laid s st'->TT (cfg q) i Ch (G (b₁.at (a₁.put ((eB[fE]?).bind (·.dst)) (.tuple #[])) (.inRegion eB ez::k₁)) cs₁) st')->
  TT (cfg q) i Ch (G ((base 104).at ⟨#[.pointer (some ⟨s.Gb,0,none⟩),av,av,av,av,av,av,av,av,av,av,av,av,av,av,av,av,av,av,av,av,av,av,av,av,av,av,av,av,av,av,av,av,av,av,av,av,av,av,av],[]⟩ [.code lW]) (b₁.at a₁ (.inRegion eB (fE::ez)::k₁)::cs₁)) st
noncomputable def BR:Code:=Try.f83.body.getD .skip
include hP
theorem Fq(hx:x.wg=.work){c:ai}(hc:c.mode=.returning)(hT:∀st':St eH,At s i {x with mx:=.out,df:=0} st'->Inv q st'->TT (cfg q) i Ch (G c cs₁) st'){o:Hf}(ho:o≠ .work){st:St eH}(hA:At s i {x with mx:=.own o,df:=0} st):
  TT (cfg q) i Ch (G ((baseD 83).at ⟨#[.pointer (some ⟨s.Gb,4,none⟩),av,av,av,av,av],[]⟩ [.code BR]) (c::cs₁)) st:=by
 simp only[BR,Try.f83,aJ];refine TT.road hP hA (by simp[hx]) 80 fun w₀ hF=>?_;repeat w_go dW
 u_call Try.func120 PX Try.f120 dW hF
 refine stp rfl ?_;clear hF w₀;refine Qb hP hx ?_ ho hA;intro eT fe gg;walk_nrm;refine TT.road hP fe (by simp[hx]) 80 fun w₀ hF=>?_;repeat w_go dW
 u_in dW hF
 rw[stepG_leave_deferred rfl rfl Try.func83 (results_none rfl _ _ _) (events_results_none rfl _ _) hc];simp only[goes_go];refine⟨by u_nil,?_⟩;exact Goes.stop (fun w₁ r₁=>⟨rfl,hT eT fe gg⟩)
noncomputable def Fs:Code:=Try.f127.body.getD .skip
theorem XW(hx:x.wg=.work)(hnn:s.nn<=9)(hW:zD q i Ch s x)
  (hT:∀st':St eH,At s i {x with mx:=.out,df:=0,syn:=true} st'->Inv q st'->TT (cfg q) i Ch (G (b₁.at (a₁.put ((eB[fE]?).bind (·.dst)) (.tuple #[])) (.inRegion eB ez::k₁)) cs₁) st')
  {st:St eH}(hA:At s i {x with mx:=.fresh,df:=0} st):
  TT (cfg q) i Ch (G ((base 127).at ⟨#[.pointer (some ⟨s.Gb,3,none⟩),.func (.func 104) #[.pointer (some ⟨s.Gb,0,none⟩)] #[],av,av,av,av,av,av,av,av,av,av,av,av,av,av,av,av,av,av,av],[]⟩ [.code Fs]) (b₁.at a₁ (.inRegion eB (fE::ez)::k₁)::cs₁)) st:=by
 simp only[Fs,Try.f127,aJ];refine TT.road hP hA (by simp[hx]) 80 fun w₀ hF=>?_;repeat w_go dW
 u_call Try.func82 ak1 Try.f82 dW hF
 refine stp rfl ?_;clear hF w₀;refine al6 hP hx ?_ hA;intro dV dY eQ;walk_nrm;refine TT.road hP dY (by simp[hx]) 80 fun w₀ hF=>?_;repeat w_go dW
 u_defer dW hF
 repeat w_go dW
 u_call Try.func126 Nt Try.f126 dW hF
 refine stp rfl ?_;clear hF w₀;refine OI hP (x:={x with mx:=.own .xC,df:=0}) hx rfl (by simp) ?_ (fun h=>absurd rfl h) ?_ dY
 ·
  intro dZ eu eN T6;walk_nrm;refine TT.road hP eu (by simp[hx]) 80 fun w₀ hF=>?_;repeat w_go dW
  u_in dW hF
  rw[stepG_unwind_enter rfl Try.func83 IZ rfl];simp only[goes_go];refine⟨by u_nil,?_⟩;walk_nrmf Try.f83
  refine stp rfl ?_;clear hF w₀;refine Fq hP (x:={x with syn:=true}) hx rfl ?_ (o:=.xC) (by simp) eu;intro fw eK fu;refine TT.road hP eK (by simp[hx]) 80 fun w₀ hF=>?_;u_leave0 Try.func127 dW hF
  exact Goes.stop (fun w₁ r₁=>⟨rfl,hT fw eK fu⟩)
 ·intro _ dZ eu eN;walk_nrm;refine TT.road hP eu (by simp[hx]) 80 fun w₀ hF=>?_;repeat w_go dW
  u_defer dW hF
  repeat w_go dW
  u_in dW hF
  refine LZ rfl rfl (by k_ne) rfl rfl Try.func104 aj4 rfl ⟨by u_nil,?_⟩;walk_nrmf Try.f104
  refine stp rfl ?_;clear hF w₀;refine hW _ _ _ _ _ _ _ dZ eu eN ?_;intro fw eK fu aU7;walk_nrm;refine TT.road hP eK (by simp[hx]) 80 fun w₀ hF=>?_;repeat w_go dW
  u_in dW hF
  rw[stepG_unwind_enter rfl Try.func137 SY rfl];simp only[goes_go];refine⟨by u_nil,?_⟩;walk_nrmf Try.f137
  refine stp rfl ?_;clear hF w₀;refine UM hP (x:={x with mx:=.own .work,df:=0}) hx rfl rfl hnn (by kernel_rfl) rfl ?_ eK aU7;intro fI eF fO;refine TT.road hP eF (by simp[hx]) 80 fun w₀ hF=>?_;u_in dW hF
  rw[stepG_unwind_enter rfl Try.func83 IZ rfl];simp only[goes_go];refine⟨by u_nil,?_⟩;walk_nrmf Try.f83
  refine stp rfl ?_;clear hF w₀;refine Fq hP (x:={x with syn:=true}) hx rfl ?_ (o:=.dn) (by simp) eF;intro eT fe gg;refine TT.road hP fe (by simp[hx]) 80 fun w₀ hF=>?_;u_leave0 Try.func127 dW hF
  exact Goes.stop (fun w₁ r₁=>⟨rfl,hT eT fe gg⟩)
noncomputable def Uw:Code:=Try.f103.body.getD .skip
theorem bq4(hx:x.wg=.work)(hnn:s.nn<=9)(hW:zD q i Ch s x)
  (hT:∀(mx:MX) (st':St eH),mx=.fresh\/mx=.out->At s i {x with mx:=mx,df:=0,syn:=true} st'->Inv q st'->TT (cfg q) i Ch (G (b₁.at (a₁.put ((eB[fE]?).bind (·.dst)) (.tuple #[])) (.inRegion eB ez::k₁)) cs₁) st')
  {st:St eH}(hA:At s i {x with mx:=.fresh,df:=0} st):
  TT (cfg q) i Ch (G ((base 103).at ⟨#[.pointer (some ⟨s.Gb,3,none⟩),.func (.func 104) #[.pointer (some ⟨s.Gb,0,none⟩)] #[],av,av,av,av,av,av,av,av,av,av],[]⟩ [.code Uw]) (b₁.at a₁ (.inRegion eB (fE::ez)::k₁)::cs₁)) st:=by
 simp only[Uw,Try.f103,aJ];refine TT.road hP hA (by simp[hx]) 80 fun w₀ hF=>?_;repeat w_go dW
 u_call Try.func126 Nt Try.f126 dW hF
 refine stp rfl ?_;clear hF w₀;refine OI hP (x:={x with mx:=.fresh,df:=0}) hx rfl (by simp) ?_ (fun _=>?_) (fun h=>by cases h) hA
 ·intro dZ eu eN T6;walk_nrm;refine TT.road hP eu (by simp[hx]) 80 fun w₀ hF=>?_;repeat w_go dW
  u_leave0 Try.func103 dW hF
  exact Goes.stop (fun w₁ r₁=>⟨rfl,hT .fresh dZ (.inl rfl) eu eN⟩)
 ·intro dZ eu eN;walk_nrm;refine TT.road hP eu (by simp[hx]) 80 fun w₀ hF=>?_;repeat w_go dW
  u_call Try.func127 SV Try.f127 dW hF
  refine stp rfl ?_;clear hF w₀;refine XW hP hx hnn hW ?_ eu;intro fw eK fu;walk_nrm;refine TT.road hP eK (by simp[hx]) 80 fun w₀ hF=>?_;repeat w_go dW
  u_leave0 Try.func103 dW hF
  exact Goes.stop (fun w₁ r₁=>⟨rfl,hT .out fw (.inr rfl) eK fu⟩)
end
end
section
open Pl ni oa nO
open nU hiding base
theorem EN{P:au}{main:Bool}{b:ai}{a:Act}{kk:List Item}{cs:List ai}{w:ae}{ops:Array Oper}{i:Nat}{rest:List Nat}{o:Oper}{t:aj}{x:Operand}{ad:Addr}{v:af}(ho:ops[i]?=some o)(hw:bg o (yielded ops a.tmps)=true)(hk:b.kind≠ .early)(hop:o.op=.load t x)(hx:a.eval x=.pointer (some ad))
  (h:(aT t (.pointer (some ad))).run P w=.ok v w/\(aT t (.pointer (some ad))).events P w #[]=#[⟨.cell ad,false,false⟩]):
  stepG P main (G (b.at a (.inRegion ops (i::rest)::kk)) cs) w=.go (G (b.at (a.put o.dst v) (.inRegion ops rest::kk)) cs) w (listed P b.fn a o w)/\∀e∈listed P b.fn a o w,e=⟨.cell ad,false,false⟩:=by
 have hr:(ax a.eval o).run P w=.ok (.value v) w:=by
  unfold ax;simp only[hop,hx];simp[h.1]
 have he:(ax a.eval o).events P w #[]=#[⟨.cell ad,false,false⟩]:=by
  unfold ax;simp only[hop,hx];simp[h.1,h.2]
 refine⟨stepG_value ho hw hk hr,fun e hm=>?_⟩;have:=mem_listed hm
 rw[he]at this;simpa using this
theorem wM{P:au}{main:Bool}{b:ai}{a:Act}{kk:List Item}{cs:List ai}{w:ae}{ops:Array Oper}{i:Nat}{rest:List Nat}{o:Oper}{t:aj}{x y:Operand}{ad:Addr}{v:af}(ho:ops[i]?=some o)(hw:bg o (yielded ops a.tmps)=true)(hk:b.kind≠ .early)(hop:o.op=.store t x y)(hx:a.eval x=.pointer (some ad))(hy:a.eval y=v)
  (h:(bJ t (.pointer (some ad)) v).run P w=.ok () (w.setCell ad v)/\(bJ t (.pointer (some ad)) v).events P w #[]=#[⟨.cell ad,true,false⟩])(hn:(P.funcs[b.fn]?).any (·.norace)=false):
  stepG P main (G (b.at a (.inRegion ops (i::rest)::kk)) cs) w=.go (G (b.at (a.put o.dst av) (.inRegion ops rest::kk)) cs) (w.setCell ad v) #[⟨.cell ad,true,false⟩]:=by
 have hr:(ax a.eval o).run P w=.ok .skip (w.setCell ad v):=by
  unfold ax;simp only[hop,hx,hy];simp[h.1]
 have he:(ax a.eval o).events P w #[]=#[⟨.cell ad,true,false⟩]:=by
  unfold ax;simp only[hop,hx,hy];simp[h.2]
 rw[stepG_none ho hw hk hr];unfold listed;rw[he,seen_def,hn];simp[seenStep]
theorem aG4{w:ae}{ad:Addr}{u:af}{v:Int}(hc:w.cell? ad=some u)(hz:w.frozen? ad=false):(bJ 79 (.pointer (some ad)) (.int .u64 v)).run dS w=.ok () (w.setCell ad (.int .u64 v))/\(bJ 79 (.pointer (some ad)) (.int .u64 v)).events dS w #[]=#[⟨.cell ad,true,false⟩]:=by
 constructor<;>simp[go_sem,hc,hz]
section
variable{q:iU}{i:Nat}{s:eJ}{x:Wk}{Ch:Nat->ah->St eH->Prop}
theorem TT.load{P:au}(hP:q.P=P){b:ai}{a:Act}{kk:List Item}{cs:List ai}{ops:Array Oper}{j:Nat}{rest:List Nat}{o:Oper}{t:aj}{y:Operand}{bl off:Nat}{v:af}{st:St eH}(hA:At s i x st)(hx:x.wg=.work)
  (ho:ops[j]?=some o)(hw:bg o (yielded ops a.tmps)=true)(hk:b.kind≠ .early)(hop:o.op=.load t y)(hy:a.eval y=.pointer (some ⟨bl,off,none⟩))
  (hf:∀dV,Rl i st dV->Inv q dV->At s i x dV->dV.γ.rd i (ca bl off)/\(aT t (.pointer (some ⟨bl,off,none⟩))).run P dV.w=.ok v dV.w/\(aT t (.pointer (some ⟨bl,off,none⟩))).events P dV.w #[]=#[⟨.cell ⟨bl,off,none⟩,false,false⟩])
  (h:∀dZ,Rl i st dZ->Inv q dZ->At s i x dZ->TT (cfg q) i Ch (G (b.at (a.put o.dst v) (.inRegion ops rest::kk)) cs) dZ):TT (cfg q) i Ch (G (b.at a (.inRegion ops (j::rest)::kk)) cs) st:=
 TT.read hP hA hx fun dV hr hi dY=>by
  obtain⟨f1,f2⟩:=hf dV hr hi dY;obtain⟨s1,s2⟩:=EN (main:=i==0) (cs:=cs) (kk:=kk) (rest:=rest) ho hw hk hop hy f2;exact⟨_,_,s1,rfl,fun e he=>⟨bl,off,s2 e he,f1⟩,h⟩
theorem LI{w:ae}{ad:Addr}{v:Int}(hc:w.cell? ad=some (.int .i64 v)):(aT 3 (.pointer (some ad))).run dS w=.ok (.int .i64 v) w/\(aT 3 (.pointer (some ad))).events dS w #[]=#[⟨.cell ad,false,false⟩]:=by
 constructor<;>simp[go_sem,hc]
theorem am2{w:ae}{ad:Addr}{v:af}(hc:w.cell? ad=some v):(aT 126 (.pointer (some ad))).run dS w=.ok v w/\(aT 126 (.pointer (some ad))).events dS w #[]=#[⟨.cell ad,false,false⟩]:=by
 constructor<;>simp[go_sem,hc]
theorem Ze{w:ae}{ad:Addr}{v:af}(hc:w.cell? ad=some v):(aT 79 (.pointer (some ad))).run dS w=.ok v w/\(aT 79 (.pointer (some ad))).events dS w #[]=#[⟨.cell ad,false,false⟩]:=by
 constructor<;>simp[go_sem,hc]
theorem At.live{st:St eH}(h:At s i x st)(hx:x.wg≠ .lv/\x.wg≠ .gone):Live i st:=.inr (by rw[h.me];exact hx)
def DT(i gc:Nat)(cs:List Int)(st:St eH):Prop:=(∀off,st.γ.rd i (ca gc off))/\∀j,j<cs.length->st.w.cell? ⟨gc,j,none⟩=some (.int .u64 (cs.getD j 0))
theorem DT.rely{gc:Nat}{cs:List Int}{st dV:St eH}(h:DT i gc cs st)(hl:Live i st)(hr:Rl i st dV):DT i gc cs dV:=
 ⟨fun off=>hr.rd hl _ (h.1 off),fun j hj=>(cell_of (hr.blk hl gc (.inr h.1))).trans (h.2 j hj)⟩
theorem At.ja{gc:Nat}{cs:List Int}{st:St eH}(h:At s i x st){C:Array af}{e:aj}{fz:Nat×Nat}(hk:(gc,Obj.cells C e fz)∈x.keep)(hc:∀j,j<cs.length->C[j]?=some (.int .u64 (cs.getD j 0))):DT i gc cs st:=
 ⟨(h.fz _ _ hk).2,fun j hj=>by simp only[World.cell?,(h.fz _ _ hk).1];exact hc j hj⟩
def Hh(s:eJ)(k:Nat)(st:St eH):Prop:=∀id,1<=id->id<k->st.w.cell? ⟨s.Gb,6+id,none⟩=some (.int .u64 (s.vals id))
theorem Hh.rely{k:Nat}{st dV:St eH}(h:Hh s k st)(hk:k<=10)(hA:At s i x st)(hx:x.wg=.work)(n1:x.mx=.own .work)(hr:Rl i st dV):Hh s k dV:=fun id i1 i2=>
 (hr.work hA.ne (by rw[hA.me,hx];simp) (by rw[hA.me,hx];simp) (by rw[hA.me];exact n1) s hA.sc (6+id) (by omega) (by omega)).trans (h id i1 i2)
theorem gL.heads{st:St eH}(h:gL q s st):st.w.cell? ⟨s.Gb,0,none⟩=some s.g0/\st.w.cell? ⟨s.Gb,1,none⟩=some s.g1/\st.w.cell? ⟨s.Gb,2,none⟩=some s.g2:=by
 obtain⟨C,c1,c2,c3,c4,c5⟩:=h.head;refine⟨?_,?_,?_⟩<;>simp[World.cell?,c1,c3,c4,c5]
theorem BJ{ρ:Nat->Option Nat}{S:ak->Prop}{l:List af}(h:∀v∈l,VR S ρ v v):AR S ρ l.toArray l.toArray:=⟨rfl,fun j v v' h1 h2=>by
 rw[h1]at h2;cases h2;simp at h1<;>exact h v (List.mem_of_getElem? h1)⟩
theorem ar1{S:ak->Prop}{ρ:Nat->Option Nat}{k1:IntKind}{n1:Int}:AR S ρ #[.int k1 n1] #[.int k1 n1]:=BJ (l:=[.int k1 n1]) (by intro v hv;simp at hv;subst hv;exact .int _ _)
theorem ar2{S:ak->Prop}{ρ:Nat->Option Nat}{k1 k2:IntKind}{n1 n2:Int}:AR S ρ #[.int k1 n1,.int k2 n2] #[.int k1 n1,.int k2 n2]:=BJ (l:=[.int k1 n1,.int k2 n2]) (by intro v hv;simp at hv;rcases hv with rfl|rfl<;>exact .int _ _)
variable(hP:q.P=dS){b₁:ai}{a₁:Act}{eB:Array Oper}{fE:Nat}{ez:List Nat}{k₁:List Item}{cs₁:List ai}
noncomputable def lV:Code:=(iX lW).getD .skip
def aW2:Code->Code
 |.seq a _=>a
 |c=>c
def unB:Code->Code
 |.block _ c=>c
 |c=>c
def zr:Code->Option Code
 |.loop c=>iX c
 |.seq x y=>match zr x with|some c=>some c|none=>zr y
 |.block _ c=>zr c
 |_=>none
noncomputable def FQ:Code:=(zr lW).getD .skip
noncomputable def FP:Code:=rL (rL (rL (unB (aW2 (rL lV)))))
noncomputable def KV:Code:=rL (rL lV)
theorem oF{P:au}{main:Bool}{b:ai}{a:Act}{k:List Item}{cs:List ai}{w:ae}{ops:Array Oper}{i:Nat}{rest:List Nat}{o:Oper}{K:ah->ae->Array Event->Prop}{f:ak}{fn:Func}{c:Code}{args:Array Operand}{ats:Array aj}{vals:Array af}
  (ho:ops[i]?=some o)(hw:bg o (yielded ops a.tmps)=true)(hk:b.kind≠ .early)(hop:o.op=.call {callee:=.value (.func f),args,argTypes:=ats})
  (hf:P.funcs[f]?=some fn)(hname:(fn.name== "runtime.NumGoroutine")=false)(hb:fn.body=some c)(hv:args.map a.eval=vals)
  (h:K (G (bQ P f vals .normal) (b.at a (.inRegion ops (i::rest)::k)::cs)) w #[]):
  (stepG P main (G (b.at a (.inRegion ops (i::rest)::k)) cs) w).goes K:=by
 have hb':fn.body.isNone=false:=by rw[hb];rfl
 subst hv;rw[stepG_enter ho hw hk (run_call_body hop hf hname hb')];have:listed P b.fn a o w=#[]:=by unfold listed;rw[events_call_body hop hf hname hb'];exact seen_none P _
 rw[this];exact h
structure WkS(q:iU)(i:Nat)(s:eJ)(x:Wk)(gc:Nat)(cs:List Int)(k:Nat)(st:St eH):Prop where
 at_:At s i x st
 inv:Inv q st
 ja:DT i gc cs st
 laid:Hh s k st
theorem WkS.rely{gc:Nat}{cs:List Int}{k:Nat}{st dV:St eH}(h:WkS q i s x gc cs k st)(hx:x.wg=.work)(n1:x.mx=.own .work)(hk:k<=10)(hr:Rl i st dV)(hi:Inv q dV):WkS q i s x gc cs k dV:=
 ⟨h.at_.rely (by rw[hx];simp) hr hi,hi,h.ja.rely (h.at_.live (by rw[hx];simp)) hr,h.laid.rely hk h.at_ hx n1 hr⟩
theorem Y8:(Try.f68.name== "runtime.NumGoroutine")=false:=by kernel_rfl
theorem I3:(Try.f65.name== "runtime.NumGoroutine")=false:=by kernel_rfl
theorem I0:(Try.f69.name== "runtime.NumGoroutine")=false:=by kernel_rfl
theorem WI:(Try.f44.name== "runtime.NumGoroutine")=false:=by kernel_rfl
theorem Li(cs:List Int)(id:Int)(j:Nat):tY cs id (j+1)=mI (tY cs id j) (pw (cs.getD j 0) (vR id j).toNat 2147483579):=by
 have b1:=Gg cs id j;have b2:=nL (cs.getD j 0) (vR id j).toNat (m:=2147483579) (by omega);rw[tY,vF b1.1 (by omega) b2.1 (by omega)]
theorem Pr{id:Int}(j:Nat)(h0:0<=id)(h1:id<100):vR id (j+1)=smul (vR id j) id:=by
 have b:=tX id j;rw[vR,lu b.1 (by omega) h0 (by omega)]
include hP
theorem Rt{cs:List Int}{gc:Nat}{cap:Nat}(hx:x.wg=.work)(n1:x.mx=.own .work){k:Nat}(hk1:1<=k)(hk9:k<=9)(wE:cs.length<=9)(hel:∀j,j<cs.length->jQ (cs.getD j 0)=true)
  (hT:∀(st:St eH),WkS q i s x gc cs k st->∀(j1 j3 j5 j6 j7 j8 j9 j10 j11 j12 j13 tI tH tF tE vA pE pD tD tC tB tA tz tv tq tj s7 sZ sY sX sW sV sU sS sQ sP sO:af),TT (cfg q) i Ch (G ((base 104).at ⟨#[.pointer (some ⟨s.Gb,0,none⟩),j1,.int .i64 k,j3,.int .u64 (ER cs k),j5,j6,j7,j8,j9,j10,j11,j12,j13,tI,tH,tF,tE,vA,pE,pD,tD,tC,tB,tA,tz,tv,tq,tj,s7,sZ,sY,sX,sW,sV,sU,sS,sQ,sP,sO],[]⟩ [.code FP,.inBlock 1,.code KV,.inLoop lV,.inBlock 0]) (b₁.at a₁ (.inRegion eB (fE::ez)::k₁)::cs₁)) st):
  ∀(r j:Nat) (X O:Int) (st:St eH),j+r=cs.length->X=vR (k:Int) j->O=tY cs (k:Int) j->WkS q i s x gc cs k st->∀(j1 j5 j6 j7 j8 j9 j10 j11 j12 j13 tI tH tF tE tD tC tB tA tz tv tq tj s7 sZ sY sX sW sV sU sS sQ sP sO:af),TT (cfg q) i Ch (G ((base 104).at ⟨#[.pointer (some ⟨s.Gb,0,none⟩),j1,.int .i64 k,.int .u64 X,.int .u64 O,j5,j6,j7,j8,j9,j10,j11,j12,j13,tI,tH,tF,tE,.slice (some ⟨gc,0,none⟩) cs.length cap,.int .i64 cs.length,.int .i64 j,tD,tC,tB,tA,tz,tv,tq,tj,s7,sZ,sY,sX,sW,sV,sU,sS,sQ,sP,sO],[]⟩ [.code FQ,.inLoop FQ,.inBlock 2,.code FP,.inBlock 1,.code KV,.inLoop lV,.inBlock 0]) (b₁.at a₁ (.inRegion eB (fE::ez)::k₁)::cs₁)) st:=by
 intro r;induction r with
 |zero=>
  intro j X O st hj hX hO hW j1 j5 j6 j7 j8 j9 j10 j11 j12 j13 tI tH tF tE tD tC tB tA tz tv tq tj s7 sZ sY sX sW sV sU sS sQ sP sO;obtain rfl:j=cs.length:=by omega
  have hlt:¬((cs.length:Int)<(cs.length:Int)):=by omega
  subst hO;replace hX:=Hd.mk hX;clear hj;simp only[FQ,lW,iX,zr,Try.f104,aJ];refine TT.road hP hW.at_ (by simp[hx]) 60 fun w₀ hF=>?_;repeat w_go dW
  exact Goes.stop (fun w₁ r₁=>⟨rfl,hT st hW _ _ _ _ _ _ _ _ _ _ _ _ _ _ _ _ _ _ _ _ _ _ _ _ _ _ _ _ _ _ _ _ _ _ _ _ _⟩)
 |succ r ih=>
  intro j X O st hj hX hO hW j1 j5 j6 j7 j8 j9 j10 j11 j12 j13 tI tH tF tE tD tC tB tA tz tv tq tj s7 sZ sY sX sW sV sU sS sQ sP sO;have hjl:j<cs.length:=by omega
  have hlt:((j:Int)<(cs.length:Int)):=by omega
  have he:=rX (hel j hjl);have b1:=tX (k:Int) j;have P1:=Li cs (k:Int) j;have P2:=Pr (id:=(k:Int)) j (by omega) (by omega);rw[<-hO,<-hX]at P1;rw[<-hX]at P2 b1;have Zu:=hW.ja.2 j hjl;have Zr:=fun(dV:St eH) (hr:Rl i st dV)=>(hW.ja.rely (hW.at_.live (by rw[hx];simp)) hr).2 j hjl;generalize cs.getD j 0=C at he P1 Zr;obtain⟨he1,Zp⟩:=he;obtain⟨b1,b2⟩:=b1;clear Zu hO hX;replace P1:=Hd.mk P1;replace P2:=Hd.mk P2;replace hj:=Hd.mk hj;have b1':=Hd.mk b1;have Mh:=Hd.mk b2;have bm1:=Hd.mk Zp;have bm2:=Hd.mk he1;clear b1 b2 he1 Zp;simp only[FQ,lW,iX,zr,Try.f104,aJ];refine TT.road hP hW.at_ (by simp[hx]) 60 fun w₀ hF=>?_;repeat w_go dW
  refine stp rfl ?_;clear hF w₀;refine TT.load hP hW.at_ hx rfl rfl (by k_ne) rfl rfl (fun dV hr hi dY=>⟨(hW.ja.rely (hW.at_.live (by rw[hx];simp)) hr).1 j,Ze (Zr dV hr)⟩) fun dZ yr eN eu=>?_;have Ff:=hW.rely hx n1 (by omega) yr eN;refine TT.road hP eu (by simp[hx]) 60 fun w₀ hF=>?_;walk_nrm;repeat w_go dW
  u_in dW hF
  refine oF rfl rfl (by k_ne) rfl Try.func68 Y8 rfl (by simp[aU];rfl) ⟨by u_nil,?_⟩;refine stp rfl ?_;clear hF w₀;refine TT.call hP sL (by kernel_rfl) eu hx eN jW ar2 (.int _ _) (fun τ d=>(yV C X _ (by have:=bm2.un;omega) bm1.un b1'.un (by have:=Mh.un;omega)).mono fun e w' h=>h.1) fun fw Fa fu eK=>?_;have TR:=Ff.rely hx n1 (by omega) Fa fu;rw[dI];refine TT.road hP eK (by simp[hx]) 60 fun w₀ hF=>?_;walk_nrm;repeat w_go dW
  u_in dW hF
  refine oF rfl rfl (by k_ne) rfl Try.func65 I3 rfl (by simp[aU];rfl) ⟨by u_nil,?_⟩;refine stp rfl ?_;clear hF w₀;refine TT.call hP sL (by kernel_rfl) eK hx fu jW ar2 (.int _ _) (fun τ d=>(qK _ _ _).mono fun e w' h=>h.1) fun fI Ti fO eF=>?_;have Da:=TR.rely hx n1 (by omega) Ti fO;rw[dI];refine TT.road hP eF (by simp[hx]) 60 fun w₀ hF=>?_;walk_nrm;repeat w_go dW
  u_in dW hF
  refine oF rfl rfl (by k_ne) rfl Try.func44 WI rfl (by simp[aU];rfl) ⟨by u_nil,?_⟩;refine stp rfl ?_;clear hF w₀;refine TT.call hP sL (by kernel_rfl) eF hx fO jW ar1 (.int _ _) (fun τ d=>(F7 k _ (by omega) (by omega)).mono fun e w' h=>h.1) fun eT JE gg fe=>?_;have aT8:=Da.rely hx n1 (by omega) JE gg;rw[dI];refine TT.road hP fe (by simp[hx]) 60 fun w₀ hF=>?_;walk_nrm;repeat w_go dW
  u_in dW hF
  refine oF rfl rfl (by k_ne) rfl Try.func69 I0 rfl (by simp[aU];rfl) ⟨by u_nil,?_⟩;refine stp rfl ?_;clear hF w₀;refine TT.call hP sL (by kernel_rfl) fe hx gg jW ar2 (.int _ _) (fun τ d=>(nE _ _ _).mono fun e w' h=>h.1) fun gU Tg gD eZ=>?_;have TQ:=aT8.rely hx n1 (by omega) Tg gD;rw[dI];refine TT.road hP eZ (by simp[hx]) 60 fun w₀ hF=>?_;have hj1:bI IntKind.i64 ((j:Int)+1)=((j+1:Nat):Int):=by rw[cG];omega
  walk_nrm;repeat w_nl dW
  u_c stepG_inLoop dW hF
  refine stp rfl ?_;clear hF w₀;exact ih (j+1) _ _ gU (by have:=hj.un;omega) P2.un.symm P1.un.symm TQ ..
omit hP in
theorem gL.room{st:St eH}(h:gL q s st){off:Nat}(o1:6<=off)(o2:off<16):∃u,st.w.cell? ⟨s.Gb,off,none⟩=some u:=by
 obtain⟨C,h1,h2,h3,h4,h5,h6,h7,h8,h9,h10⟩:=h.gb;obtain⟨v,hv⟩:=h9 off o1 o2;exact⟨_,by simp[World.cell?,h1,hv];rfl⟩
theorem KW{cs:List Int}{gc:Nat}{cap:Nat}(hx:x.wg=.work)(n1:x.mx=.own .work)(hn9:s.nn<=9)(wE:cs.length<=9)(hel:∀j,j<cs.length->jQ (cs.getD j 0)=true)
  (hg1:s.g1=.int .i64 s.nn)(hg2:s.g2=.slice (some ⟨gc,0,none⟩) cs.length cap)(hvs:∀id:Nat,1<=id->id<=s.nn->s.vals id=ER cs id)
  (hT:∀st:St eH,WkS q i s x gc cs (s.nn+1) st->TT (cfg q) i Ch (G (b₁.at (a₁.put ((eB[fE]?).bind (·.dst)) (.tuple #[])) (.inRegion eB ez::k₁)) cs₁) st):
  ∀(r k:Nat) (st:St eH),k+r=s.nn+1->1<=k->WkS q i s x gc cs k st->∀(j1 j3 j4 j5 j6 j7 j8 j9 j10 j11 j12 j13 tI tH tF tE vA pE pD tD tC tB tA tz tv tq tj s7 sZ sY sX sW sV sU sS sQ sP sO:af),TT (cfg q) i Ch (G ((base 104).at ⟨#[.pointer (some ⟨s.Gb,0,none⟩),j1,.int .i64 k,j3,j4,j5,j6,j7,j8,j9,j10,j11,j12,j13,tI,tH,tF,tE,vA,pE,pD,tD,tC,tB,tA,tz,tv,tq,tj,s7,sZ,sY,sX,sW,sV,sU,sS,sQ,sP,sO],[]⟩ [.code lV,.inLoop lV,.inBlock 0]) (b₁.at a₁ (.inRegion eB (fE::ez)::k₁)::cs₁)) st:=by
 intro r;induction r with
 |zero=>
  intro k st hk hk1 hW j1 j3 j4 j5 j6 j7 j8 j9 j10 j11 j12 j13 tI tH tF tE vA pE pD tD tC tB tA tz tv tq tj s7 sZ sY sX sW sV sU sS sQ sP sO;obtain C7:k=s.nn+1:=by omega
  have hlt:¬(k:Int)<=(s.nn:Int):=by omega
  clear hk;replace C7:=Hd.mk C7;have bl1:k<=10:=by have:=C7.un;omega
  simp only[lV,lW,iX,Try.f104,aJ];refine TT.road hP hW.at_ (by simp[hx]) 60 fun w₀ hF=>?_;repeat w_go dW
  refine stp rfl ?_;clear hF w₀;refine TT.load hP hW.at_ hx rfl rfl (by k_ne) rfl rfl (fun dV hr hi dY=>⟨(hi.eX s dY.sc).p.KI i dY.mem 1 (by omega),LI ((hi.eX s dY.sc).c.heads.2.1.trans (by rw[hg1]))⟩) fun dZ yr eN eu=>?_;have Ff:=hW.rely hx n1 bl1 yr eN;rw[C7.un]at Ff;refine TT.road hP eu (by simp[hx]) 60 fun w₀ hF=>?_;walk_nrm;repeat w_go dW
  u_leave0 Try.func104 dW hF
  exact Goes.stop (fun w₁ r₁=>⟨rfl,hT dZ Ff⟩)
 |succ r ih=>
  intro k st hk hk1 hW j1 j3 j4 j5 j6 j7 j8 j9 j10 j11 j12 j13 tI tH tF tE vA pE pD tD tC tB tA tz tv tq tj s7 sZ sY sX sW sV sU sS sQ sP sO;have hkn:k<=s.nn:=by omega
  have hlt:(k:Int)<=(s.nn:Int):=by omega
  replace hk:=Hd.mk hk;simp only[lV,lW,iX,Try.f104,aJ];refine TT.road hP hW.at_ (by simp[hx]) 60 fun w₀ hF=>?_;repeat w_go dW
  refine stp rfl ?_;clear hF w₀;refine TT.load hP hW.at_ hx rfl rfl (by k_ne) rfl rfl (fun dV hr hi dY=>⟨(hi.eX s dY.sc).p.KI i dY.mem 1 (by omega),LI ((hi.eX s dY.sc).c.heads.2.1.trans (by rw[hg1]))⟩) fun dZ yr eN eu=>?_;have Ff:=hW.rely hx n1 (by omega) yr eN;refine TT.road hP eu (by simp[hx]) 60 fun w₀ hF=>?_;walk_nrm;repeat w_go dW
  refine stp rfl ?_;clear hF w₀;refine TT.load hP eu hx rfl rfl (by k_ne) rfl rfl (fun dV hr hi dY=>⟨(hi.eX s dY.sc).p.KI i dY.mem 2 (by omega),am2 ((hi.eX s dY.sc).c.heads.2.2.trans (by rw[hg2]))⟩) fun fw Fa fu eK=>?_;have TR:=Ff.rely hx n1 (by omega) Fa fu;refine TT.road hP eK (by simp[hx]) 60 fun w₀ hF=>?_;walk_nrm;repeat w_but "code.loop" dW
  u_c stepG_loop dW hF
  refine stp rfl ?_;clear hF w₀;refine Rt hP hx n1 hk1 (by omega) wE hel ?_ cs.length 0 1 1 fw (by omega) rfl rfl TR ..;intro fI Da j1 j3 j5 j6 j7 j8 j9 j10 j11 j12 j13 tI tH tF tE vA pE pD tD tC tB tA tz tv tq tj s7 sZ sY sX sW sV sU sS sQ sP sO;simp only[FP,KV,lV,lW,iX,rL,aW2,unB,Try.f104,aJ];have q1:(0:Int)<=(k:Int):=by omega
  have q2:(k:Int)<10:=by omega
  have q3:k<10:=by omega
  have hix:∀(w:ae) (es:Array Event),(Instr.indexAt 135 (.pointer (some ⟨s.Gb,6,none⟩)) (.int .i64 (k:Int))).events dS w es=es:=fun w es=>events_indexAt_array _ _ 10 _ _ _ Try.underlying135 ⟨q1,by simpa using q2⟩;refine TT.road hP Da.at_ (by simp[hx]) 60 fun w₀ hF=>?_;repeat w_go dW
  refine stp rfl ?_;clear hF w₀;refine TT.share hP Da.at_ hx n1 (off:=6+k) (by omega) (by omega) (ER cs k) fun eT JE fe gg fx=>?_;obtain⟨u,hu⟩:=fx.room (off:=6+k) (by omega) (by omega);have hcm:=Da.ja.rely (Da.at_.live (by rw[hx];simp)) JE;have hne:gc≠s.Gb:=fun e=>by
   obtain⟨_,o,ho⟩:=(gg.eX s fe.sc).p.spec i s.Gb (.inl rfl);exact ho (by rw[<-e];exact hcm.1 o)
  refine⟨_,wM rfl rfl (by k_ne) rfl rfl rfl (aG4 hu (fx.gb.cell.2.2.2 _)) (by kernel_rfl),rfl,fun gU eZ gD Zq Zg hγ Zv=>?_⟩;have TQ:WkS q i s x gc cs (k+1) gU:=by
   refine⟨eZ,gD,⟨fun o=>by rw[hγ];exact hcm.1 o,fun j hj=>(cell_of (Zv gc hne)).trans (hcm.2 j hj)⟩,fun id i1 i2=>?_⟩;by_cases e:id=k
   ·subst e;rw[Zq,hvs id i1 (by omega)]
   ·rw[Zg (6+id) (by omega) (by omega) (by omega)];exact Da.laid id i1 (by omega)
  have Xu:bI IntKind.i64 ((k:Int)+1)=((k+1:Nat):Int):=by rw[cG];omega
  clear Zq Zg Zv hγ hcm hu hix;refine TT.road hP eZ (by simp[hx]) 60 fun w₀ hF=>?_;walk_nrm;repeat w_nl dW
  u_c stepG_inLoop dW hF
  refine stp rfl ?_;clear hF w₀;exact ih (k+1) gU (by have:=hk.un;omega) (by omega) TQ ..
theorem ab5{cs:List Int}{gc:Nat}{cap:Nat}(hx:x.wg=.work)(hn9:s.nn<=9)(wE:cs.length<=9)(hel:∀j,j<cs.length->jQ (cs.getD j 0)=true)
  (hg1:s.g1=.int .i64 s.nn)(hg2:s.g2=.slice (some ⟨gc,0,none⟩) cs.length cap)(hvs:∀id:Nat,1<=id->id<=s.nn->s.vals id=ER cs id){C:Array af}{e:aj}{fz:Nat×Nat}(Fb:(gc,Obj.cells C e fz)∈x.keep)(hcs:∀j,j<cs.length->C[j]?=some (.int .u64 (cs.getD j 0))):zD q i Ch s x:=by
 intro b₁ a₁ eB fE ez k₁ cs₁ st hA hI hT;simp only[lW,Try.f104,aJ];refine TT.road hP hA (by simp[hx]) 60 fun w₀ hF=>?_;repeat w_but "code.loop" dW
 u_c stepG_loop dW hF
 refine stp rfl ?_;clear hF w₀;refine KW hP (x:={x with mx:=.own .work,df:=0}) hx rfl hn9 wE hel hg1 hg2 hvs (fun dZ hW=>hT dZ hW.at_ hW.inv fun id i1 i2=>hW.laid id i1 (by omega)) s.nn 1 st (by omega) (by omega) ⟨hA,hI,hA.ja Fb hcs,fun id i1 i2=>by omega⟩ ..
end
end
end Cc
end Go.Proofs.Ytpfpokjaeffbjaa
