/- Part of the proof: LkU, LkV, DoF, DoA, DoB, DoC, DoW. -/
import Derived.Test.YtpfpokjaeffbjabBb13
import Derived.Test.YtpfpokjaeffbjabBb7
import Derived.Test.YtpfpokjaeffbjabBb14
import Derived.Test.YtpfpokjaeffbjabBb12
import Derived.Test.YtpfpokjaeffbjabBb10
import Derived.Lib.Hide
set_option linter.unusedVariables false
set_option linter.unusedSimpArgs false
set_option maxRecDepth 100000
set_option maxHeartbeats 16000000
namespace Go.Proofs.Ytpfpokjaeffbjab
namespace Cc
open Go.Conc Go.ConcN Go.ConcM Go.RowKit Go.Conc.Lib Go.ConcR.Gen
open Go.ConcR (KK wgBlock WgAt stA smA rd wr mk DC0)
section
section
variable{q:ig}(hP:q.P=Try.prog){i:Nat}{s:aO}{x:Wk}{Ch:Nat->Goroutine->St aJ->Prop}
variable{b₁:Frame}{a₁:Act}{ops₁:Array Oper}{i₁:Nat}{rest₁:List Nat}{k₁:List Item}{cs₁:List Frame}
structure Hd(p:Prop):Prop where
 un:p
noncomputable def Ir:Code:=Try.f107.body.getD .skip
noncomputable def D8:Code:=(iy ((G9 12 Ir).getD .skip)).getD .skip
def bI4(q:ig)(i:Nat)(Ch:Nat->Goroutine->St aJ->Prop)(s:aO)(x:Wk)(b₁:Frame)(a₁:Act)(ops₁:Array Oper)(i₁:Nat)(rest₁:List Nat)(k₁:List Item)(cs₁:List Frame):Prop:=
 ∀(mx:MX) (st:St aJ),(mx=.out\/∃old:Int,mx=.ul old/\∀N':Nat,1<=N'->old≠(8*N':Nat))->At s i {x with mx:=mx,df:=1} st->TT (cfg q) i Ch (G (b₁.at (a₁.put ((ops₁[i₁]?).bind (·.dst)) (.tuple #[])) (.inRegion ops₁ rest₁::k₁)) cs₁) st
include hP
theorem ay7(hx:x.wg=.work)(hT:bI4 q i Ch s x b₁ a₁ ops₁ i₁ rest₁ k₁ cs₁):∀(pr l w z N:Nat) (st:St aJ),At s i {x with mx:=.ul (enc l w z N),df:=1} st->Rd s st pr l w z N->∀j1 j2 j3 j5 j6 j7 j8 j9 j10 j11 j12 j13 j14 j15 j16 j17 j18 j19 j20 j21 j22 j23 j24 j25 j26 j27 j28 j29 j30 j31 j32 j33 j34 j35 j36 j37 j38 j39 j40 j41 j42:Value,∀old:Int,old=enc l w z N->TT (cfg q) i Ch (G ((base 107).at ⟨#[.pointer (some ⟨s.Gb,4,none⟩),j1,j2,j3,.int .i32 old,j5,j6,j7,j8,j9,j10,j11,j12,j13,j14,j15,j16,j17,j18,j19,j20,j21,j22,j23,j24,j25,j26,j27,j28,j29,j30,j31,j32,j33,j34,j35,j36,j37,j38,j39,j40,j41,j42],[]⟩ [.code D8,.inLoop D8,.inBlock 0]) (b₁.at a₁ (.inRegion ops₁ (i₁::rest₁)::k₁)::cs₁)) st:=by
 intro pr
 induction pr using Nat.strongRecOn with
 |_ pr ih=>
 intro l w z N st hA hR j1 j2 j3 j5 j6 j7 j8 j9 j10 j11 j12 j13 j14 j15 j16 j17 j18 j19 j20 j21 j22 j23 j24 j25 j26 j27 j28 j29 j30 j31 j32 j33 j34 j35 j36 j37 j38 j39 j40 j41 j42 old ho;have b1:=hR.l1;have b2:=hR.w1;have b3:=hR.z1;have b4:=hR.n9;have h7:bits BinOp.and IntKind.i32 old 7=((l+2*w+4*z:Nat):Int):=by rw[ho];exact aN4 _ _ _ _ b1 b2 b3 (by omega)
 obtain⟨nn,hd,hnn⟩:∃nn:Int,old/8=nn/\nn=N:=⟨_,by rw[ho];exact YN _ _ _ _ b1 b2 b3,rfl⟩;by_cases h0:N=0
 ·
  obtain rfl:nn=0:=by omega
  replace ho:=Hd.mk ho;clear h7 hnn;simp only[D8,Ir,iy,G9,Try.f107,Option.getD_some,Nat.reduceEqDiff,↓reduceIte];refine TT.road hP hA (by simp[hx]) 60 fun w₀ hF=>?_
  repeat w_go aj
  u_leave0 Try.func107 aj hF
  refine Goes.stop (fun w₁ r₁=>⟨rfl,?_⟩);exact hT _ st (.inr ⟨_,rfl,fun N' h=>by unfold enc;omega⟩) hA
 have hz0:(nn==0)=false:=by simp;omega
 by_cases h8:l+2*w+4*z=0
 ·have h7:bits BinOp.and IntKind.i32 old 7=0:=by rw[h7,h8];rfl
  obtain⟨rfl,rfl,rfl⟩:l=0/\w=0/\z=0:=by omega
  have h9:IntKind.wrap IntKind.i32 (old-8)=enc 0 0 0 (N-1):=by rw[ho];exact aN3 _ _ _ _ b1 b2 b3 (by omega) (by omega)
  have h2:bits BinOp.or IntKind.i32 (enc 0 0 0 (N-1)) 2=enc 0 1 0 (N-1):=av1 _ _ _ _ b1 b2 b3 (by omega);replace ho:=Hd.mk ho;clear hnn;simp only[D8,Ir,iy,G9,Try.f107,Option.getD_some,Nat.reduceEqDiff,↓reduceIte];refine TT.road hP hA (by simp[hx]) 80 fun w₀ hF=>?_
  repeat w_go aj
  refine Goes.stop (fun w₁ r₁=>⟨rfl,?_⟩);clear hF w₀;refine TT.mu hP hA hx (mx:=.ul (enc 0 0 0 N)) rfl (by simp) fun ah au hI₁ aB p1 p2 p3 p4=>?_
  have bJ:=hR.later p1 p2;replace ho:=ho.un;by_cases hit:enc ah.γ.L ah.γ.W ah.γ.S ah.γ.N=old
  ·obtain⟨e1,e2,e3,e4⟩:=jW (hit.trans ho) aB.mu.bd ⟨by omega,by omega,by omega⟩;refine⟨_,_,_,.rel,1,ah.γ.L,1,ah.γ.S,ah.γ.N-1,ah.γ.tn,ah.γ.th,stepG_cas_hit rfl rfl (by k_ne) rfl Try.func104 jk jm ji .i32 jl rfl rfl rfl (hit ▸ aB.gb.cell.2.1) (aB.gb.cell.2.2.2 4),rfl,kU _ _,by simp,by simp,aB.mu.grab au.lo (au.hi hI₁) (dA au) ⟨e1,e2,e3,by omega⟩,aB.gb.swap rfl (by rw[e1,e3,e4]),aY.set _ 4 _ (by omega),.inl (by simp[kM]),.inr fun j _ j1 j2=>aB.mu.bw8 e3 j1 j2,jh 4 (.inl rfl),.inr (Nat.le_refl _),fun ay aC aT _ _ _ f₂=>?_⟩;clear hit bJ aB au hI₁ ho e1 e2 e3 e4;refine TT.road hP aC (by simp[hx]) 80 fun w₀ hF=>?_
   walk_nrm
   repeat w_go aj
   refine Goes.stop (fun w₁ r₁=>⟨rfl,?_⟩);clear hF w₀;refine TT.mu hP aC hx (mx:=.rel) rfl (by simp) fun aV bg dD bI q1 q2 q3 q4=>?_
   have ht:=(bI.mu.nine bI.n0.2.2.2).2;refine⟨_,_,_,.out,1,aV.γ.L,aV.γ.W,aV.γ.S,aV.γ.N,aV.γ.tn+1,aV.γ.th,stepG_semrelease rfl rfl (by k_ne) rfl Try.func124 XL Jz Wj YF (by simp[Act.eval]) bI.gb.cell.2.2.1 (bI.gb.cell.2.2.2 5),rfl,Qm _ _,by simp,by simp,bI.mu.aA7 bg.lo (bg.hi dD) (dA bg),bI.gb.sema (by rw[IntKind.wrap_u32];omega),aY.set _ 5 _ (by omega),.inl (by simp[kM];omega),.inl (Nat.le_refl _),Js,.inl (mayWake_entry rfl rfl Try.func124 Jz),fun eH bf dK _ _ _ _=>?_⟩;clear bI bg dD q1 q2 q3 q4 ht;refine TT.road hP bf (by simp[hx]) 80 fun w₀ hF=>?_
   walk_nrm
   repeat w_go aj
   u_leave0 Try.func107 aj hF
   refine Goes.stop (fun w₁ r₁=>⟨rfl,?_⟩);exact hT _ eH (.inl rfl) bf
  ·refine⟨_,_,_,.ul (enc 0 0 0 N),1,ah.γ.L,ah.γ.W,ah.γ.S,ah.γ.N,ah.γ.tn,ah.γ.th,stepG_cas_miss rfl rfl (by k_ne) rfl Try.func104 jk jm ji .i32 jl rfl rfl rfl aB.gb.cell.2.1 (aB.gb.cell.2.2.2 4) hit,rfl,wz _ _,by simp,by simp,jC.still aB au rfl,aB.gb.stay rfl rfl,aY.refl _,.inr ⟨rfl,rfl,rfl,rfl,rfl⟩,.inl (Nat.le_refl _),pW 4 (by omega),.inr (Nat.le_refl _),fun ay aC aT _ w₂ _ f₂=>?_⟩;have hlt:phi ay.γ s<pr:=by
    refine Nat.lt_of_le_of_ne (by have:=bJ.le;omega) fun e=>hit ?_
    obtain⟨a,b,c,d⟩:=bJ.eq (by omega);rw[a,b,c,d,ho]
   clear hit bJ aB au hI₁ ho;refine TT.road hP aC (by simp[hx]) 80 fun w₀ hF=>?_
   walk_nrm
   repeat w_go aj
   refine Goes.stop (fun w₁ r₁=>⟨rfl,?_⟩);clear hF w₀;refine TT.mu hP aC hx (mx:=.ul (enc 0 0 0 N)) rfl (by simp) fun aV bg dD bI q1 q2 _ _=>⟨_,_,_,.ul (enc aV.γ.L aV.γ.W aV.γ.S aV.γ.N),1,aV.γ.L,aV.γ.W,aV.γ.S,aV.γ.N,aV.γ.tn,aV.γ.th,stepG_loadQ rfl rfl (by k_ne) rfl rfl bI.gb.cell.2.1 ac3,rfl,rfl,by simp,by simp,bI.mu.look bg.lo (bg.hi dD) (dA bg),bI.gb.stay rfl rfl,aY.refl _,.inr ⟨by simp[kM],rfl,rfl,rfl,rfl⟩,.inl (Nat.le_refl _),dG,.inr (Nat.le_refl _),fun eH bf dK _ w₆ _ yF=>?_⟩
   have iY:=Rd.now (dK.aZ s bf.sc).c;rw[w₆.1,w₆.2.1,w₆.2.2.1,w₆.2.2.2]at iY;have yF:phi eH.γ s=phi aV.γ s:=by simp only[kM]at yF;omega
   refine TT.road hP bf (by simp[hx]) 60 fun w₀ hF=>?_
   walk_nrm
   repeat w_nl aj
   u_c stepG_inLoop aj hF
   refine Goes.stop (fun w₁ r₁=>⟨rfl,?_⟩);exact ih _ (by omega) _ _ _ _ eH bf iY _ _ _ _ _ _ _ _ _ _ _ _ _ _ _ _ _ _ _ _ _ _ _ _ _ _ _ _ _ _ _ _ _ _ _ _ _ _ _ _ _ _ rfl
 ·
  have h7':(bits BinOp.and IntKind.i32 old 7 != 0)=true:=by rw[h7];simp;omega
  replace ho:=Hd.mk ho;clear h7 hnn;simp only[D8,Ir,iy,G9,Try.f107,Option.getD_some,Nat.reduceEqDiff,↓reduceIte];refine TT.road hP hA (by simp[hx]) 60 fun w₀ hF=>?_
  repeat w_go aj
  u_leave0 Try.func107 aj hF
  refine Goes.stop (fun w₁ r₁=>⟨rfl,?_⟩);exact hT _ st (.inr ⟨_,rfl,fun N' h=>by unfold enc;omega⟩) hA
end
end
section
section
variable{q:ig}(hP:q.P=Try.prog){i:Nat}{s:aO}{x:Wk}{Ch:Nat->Goroutine->St aJ->Prop}
variable{b₁:Frame}{a₁:Act}{ops₁:Array Oper}{i₁:Nat}{rest₁:List Nat}{k₁:List Item}{cs₁:List Frame}
def bI3(q:ig)(i:Nat)(Ch:Nat->Goroutine->St aJ->Prop)(s:aO)(x:Wk)(b₁:Frame)(a₁:Act)(ops₁:Array Oper)(i₁:Nat)(rest₁:List Nat)(k₁:List Item)(cs₁:List Frame):Prop:=
 ∀st:St aJ,At s i {x with mx:=.out,df:=0} st->Inv q st->TT (cfg q) i Ch (G (b₁.at (a₁.put ((ops₁[i₁]?).bind (·.dst)) (.tuple #[])) (.inRegion ops₁ rest₁::k₁)) cs₁) st
noncomputable def Tc:Code:=Try.f72.body.getD .skip
include hP
theorem U8(hx:x.wg=.work)(hT:bI3 q i Ch s x b₁ a₁ ops₁ i₁ rest₁ k₁ cs₁){o:JL}(ho:o≠ .work){st:St aJ}(hA:At s i {x with mx:=.own o,df:=0} st):TT (cfg q) i Ch (G ((base 72).at ⟨#[.pointer (some ⟨s.Gb,4,none⟩),undef,undef,undef,undef,undef,undef,undef,undef,undef,undef,undef,undef,undef,undef,undef,undef,undef,undef,undef,undef],[]⟩ [.code Tc]) (b₁.at a₁ (.inRegion ops₁ (i₁::rest₁)::k₁)::cs₁)) st:=by
 have ho:MX.own o≠ .own .work:=by simpa using ho
 simp only[Tc,Try.f72,Option.getD_some];refine TT.road hP hA (by simp[hx]) 80 fun w₀ hF=>?_
 repeat w_go aj
 refine Goes.stop (fun w₁ r₁=>⟨rfl,?_⟩);clear hF w₀;refine TT.lI hP hA hx (mx:=.own o) rfl ho fun ah au hI₁ aB=>⟨_,_,_,0,stepG_loadQ rfl rfl (by k_ne) rfl rfl aB.gb.cell.2.1 Uz,rfl,rfl,rfl,aY.refl _,dG,fun ay aC aT _ w₂ f₂ _=>?_⟩
 clear aB au hI₁;refine TT.road hP aC (by simp[hx]) 80 fun w₀ hF=>?_
 walk_nrm
 repeat w_go aj
 m_convG Try.prog Try.underlying157 WE ax4 hF.choose_spec aj hF
 refine Goes.stop (fun w₁ r₁=>⟨rfl,?_⟩);clear hF w₀;refine TT.lI hP aC hx (mx:=.own o) rfl ho fun bH aQ bF aX=>⟨_,_,_,0,stepG_markAt .releaseMerge (by simp) rfl rfl (by k_ne) rfl Try.func79 aq3 av8 an6 au8 (by simp[Act.eval];rfl),rfl,YR _ _ (by simp),rfl,aY.refl _,pX _ (by simp),fun bM aI bY _ w₄ jo _=>?_⟩
 clear aX aQ bF;refine TT.road hP aI (by simp[hx]) 80 fun w₀ hF=>?_
 walk_nrm
 repeat w_go aj
 refine Goes.stop (fun w₁ r₁=>⟨rfl,?_⟩);clear hF w₀;refine TT.lI hP aI hx (mx:=.own o) rfl ho fun aV bg dD bI=>⟨_,_,_,1,stepG_mark0 .disable (by simp) rfl rfl (by k_ne) rfl Try.func80 rF rW qX f_disable,rfl,YP 0,rfl,aY.refl _,pX .disable (by simp),fun eH bf dK _ w₆ yF _=>?_⟩
 clear bI bg dD;refine TT.road hP bf (by simp[hx]) 80 fun w₀ hF=>?_
 walk_nrm
 repeat w_go aj
 refine Goes.stop (fun w₁ r₁=>⟨rfl,?_⟩);clear hF w₀;refine TT.mu hP bf hx (mx:=.own o) rfl ho fun eF gY nJ jJ p1 p2 p3 p4=>?_
 have e1:=jJ.mu.bl9 gY.lo (gY.hi nJ) (dA gY);have hn:=(jJ.mu.nine jJ.n0.2.2.2).1;have hb:=jJ.mu.bd;have hv:IntKind.wrap .i32 (enc eF.γ.L eF.γ.W eF.γ.S eF.γ.N+ -1)=enc 0 eF.γ.W eF.γ.S eF.γ.N:=by rw[e1,IntKind.wrap_i32];unfold enc;omega
 by_cases hS:eF.γ.S=1
 ·
  refine⟨_,_,_,.unl,1,0,eF.γ.W,eF.γ.S,eF.γ.N,eF.γ.tn,eF.γ.th,stepG_add_atomic rfl rfl (by k_ne) rfl Try.func106 EG FI DY .i32 f_add rfl rfl jJ.gb.cell.2.1 (jJ.gb.cell.2.2.2 4),rfl,kU _ _,by simp,by simp,jJ.mu.aG9 gY.lo (gY.hi nJ) (dA gY) hS,jJ.gb.swap rfl hv,aY.set _ 4 _ (by omega),.inl (by simp[kM]),.inl (Nat.le_refl _),jh 4 (.inl rfl),.inr (Nat.le_refl _),fun yU lF BU _ FZ _ Vh=>?_⟩;rw[hv];rw[hS];have hw:=hb.2.1;generalize eF.γ.W=Ac at hw ⊢;generalize eF.γ.N=oH at hn ⊢;have hne:(enc 0 Ac 1 oH != 0)=true:=by simp[enc];omega
  have h1:IntKind.wrap IntKind.i32 (enc 0 Ac 1 oH+1)=enc 1 Ac 1 oH:=by rw[IntKind.wrap_i32];unfold enc;omega
  have h11:bits BinOp.and IntKind.i32 (enc 1 Ac 1 oH) 1=1:=Fh 1 Ac 1 oH (by omega) hw (by omega) (by omega);have h4:bits BinOp.and IntKind.i32 (enc 0 Ac 1 oH) 4=4:=mW 0 Ac 1 oH (by omega) hw (by omega) (by omega);clear hv e1 hS hb jJ gY nJ p1 p2 p3 p4 Vh FZ;refine TT.road hP lF (by simp[hx]) 80 fun w₀ hF=>?_
  walk_nrm
  repeat w_go aj
  u_call Try.func107 Ry Try.f107 aj hF
  repeat w_go aj
  refine Goes.stop (fun w₁ r₁=>⟨rfl,?_⟩);clear hF w₀;refine TT.mu hP lF hx (mx:=.unl) rfl (by simp) fun stA JZ hIA Vg q1 q2 q3 q4=>?_
  have ht:=(Vg.mu.nine Vg.n0.2.2.2).2;refine⟨_,_,_,.out,1,stA.γ.L,stA.γ.W,stA.γ.S,stA.γ.N,stA.γ.tn,stA.γ.th+1,stepG_semrelease rfl rfl (by k_ne) rfl Try.func124 XL Jz Wj YF (by simp[Act.eval]) Vg.gb.cell.2.2.1 (Vg.gb.cell.2.2.2 5),rfl,Qm _ _,by simp,by simp,Vg.mu.aA8 JZ.lo (JZ.hi hIA) (dA JZ),Vg.gb.sema (by rw[IntKind.wrap_u32];omega),aY.set _ 5 _ (by omega),.inl (by simp[kM];omega),.inl (Nat.le_refl _),Js,.inl (mayWake_entry rfl rfl Try.func124 Jz),fun WL uq Tj _ _ _ _=>?_⟩;clear Vg JZ hIA q1 q2 q3 q4 ht;refine TT.road hP uq (by simp[hx]) 80 fun w₀ hF=>?_
  walk_nrm
  repeat w_go aj
  u_leave0 Try.func107 aj hF
  repeat w_go aj
  refine Goes.stop (fun w₁ r₁=>⟨rfl,?_⟩);clear hF w₀;refine TT.lI hP uq hx (mx:=.out) rfl (by simp) fun stB hAB hIB Tn=>⟨_,_,_,0,stepG_mark0 .enable (by simp) rfl rfl (by k_ne) rfl Try.func81 iU jd iT f_enable,rfl,Hr 0,rfl,aY.refl _,pX .enable (by simp),fun ZJ OJ hIC _ wC fC _=>?_⟩
  clear Tn hAB hIB;refine TT.road hP OJ (by simp[hx]) 80 fun w₀ hF=>?_
  walk_nrm
  repeat w_go aj
  u_leave0 Try.func72 aj hF
  refine Goes.stop (fun w₁ r₁=>⟨rfl,?_⟩);exact hT ZJ OJ hIC
 have hS:eF.γ.S=0:=by have:=hb.2.2;omega
 by_cases h0:eF.γ.W=0/\eF.γ.N=0
 ·
  refine⟨_,_,_,.out,1,0,eF.γ.W,eF.γ.S,eF.γ.N,eF.γ.tn,eF.γ.th,stepG_add_atomic rfl rfl (by k_ne) rfl Try.func106 EG FI DY .i32 f_add rfl rfl jJ.gb.cell.2.1 (jJ.gb.cell.2.2.2 4),rfl,kU _ _,by simp,by simp,jJ.mu.ba6 gY.lo (gY.hi nJ) (dA gY) ⟨h0.1,hS,h0.2⟩,jJ.gb.swap rfl hv,aY.set _ 4 _ (by omega),.inl (by simp[kM]),.inl (Nat.le_refl _),jh 4 (.inl rfl),.inr (Nat.le_refl _),fun yU lF BU _ FZ _ Vh=>?_⟩;rw[hv];have he:enc 0 eF.γ.W eF.γ.S eF.γ.N=0:=by rw[hS,h0.1,h0.2];rfl
  rw[he];clear hv e1 hS hb jJ gY nJ p1 p2 p3 p4 Vh FZ h0 he hn;refine TT.road hP lF (by simp[hx]) 80 fun w₀ hF=>?_
  walk_nrm
  repeat w_go aj
  refine Goes.stop (fun w₁ r₁=>⟨rfl,?_⟩);clear hF w₀;refine TT.lI hP lF hx (mx:=.out) rfl (by simp) fun stB hAB hIB Tn=>⟨_,_,_,0,stepG_mark0 .enable (by simp) rfl rfl (by k_ne) rfl Try.func81 iU jd iT f_enable,rfl,Hr 0,rfl,aY.refl _,pX .enable (by simp),fun ZJ OJ hIC _ wC fC _=>?_⟩
  clear Tn hAB hIB;refine TT.road hP OJ (by simp[hx]) 80 fun w₀ hF=>?_
  walk_nrm
  repeat w_go aj
  u_leave0 Try.func72 aj hF
  refine Goes.stop (fun w₁ r₁=>⟨rfl,?_⟩);exact hT ZJ OJ hIC
 ·
  have hul:enc 0 eF.γ.W 0 eF.γ.N=((2*eF.γ.W+8*eF.γ.N:Nat):Int):=by unfold enc;omega
  refine⟨_,_,_,.ul (enc 0 eF.γ.W 0 eF.γ.N),1,0,eF.γ.W,eF.γ.S,eF.γ.N,eF.γ.tn,eF.γ.th,stepG_add_atomic rfl rfl (by k_ne) rfl Try.func106 EG FI DY .i32 f_add rfl rfl jJ.gb.cell.2.1 (jJ.gb.cell.2.2.2 4),rfl,kU _ _,by simp,by simp,by rw[hul];exact jJ.mu.aG8 gY.lo (gY.hi nJ) (dA gY) hS,jJ.gb.swap rfl hv,aY.set _ 4 _ (by omega),.inl (by simp[kM]),.inl (Nat.le_refl _),jh 4 (.inl rfl),.inr (Nat.le_refl _),fun yU lF BU _ FZ _ Vh=>?_⟩;rw[hv];rw[hS];have as6:=Rd.now (BU.aZ s lF.sc).c;rw[FZ.1,FZ.2.1,FZ.2.2.1,FZ.2.2.2,hS]at as6;have hw:=hb.2.1;have hne:(enc 0 eF.γ.W 0 eF.γ.N != 0)=true:=by simp[enc];omega
  clear hv e1 hS hb jJ gY nJ p1 p2 p3 p4 Vh FZ hul h0;generalize eF.γ.W=Ac at*;generalize eF.γ.N=oH at*;have h1:IntKind.wrap IntKind.i32 (enc 0 Ac 0 oH+1)=enc 1 Ac 0 oH:=by rw[IntKind.wrap_i32];unfold enc;omega
  have h11:bits BinOp.and IntKind.i32 (enc 1 Ac 0 oH) 1=1:=Fh 1 Ac 0 oH (by omega) hw (by omega) (by omega);have h4:bits BinOp.and IntKind.i32 (enc 0 Ac 0 oH) 4=0:=mW 0 Ac 0 oH (by omega) hw (by omega) (by omega);refine TT.road hP lF (by simp[hx]) 80 fun w₀ hF=>?_
  walk_nrm
  repeat w_go aj
  u_call Try.func107 Ry Try.f107 aj hF
  repeat w_but "code.loop" aj
  u_c stepG_loop aj hF
  refine Goes.stop (fun w₁ r₁=>⟨rfl,?_⟩);refine ay7 hP hx ?_ _ _ _ _ _ yU lF as6 _ _ _ _ _ _ _ _ _ _ _ _ _ _ _ _ _ _ _ _ _ _ _ _ _ _ _ _ _ _ _ _ _ _ _ _ _ _ _ _ _ _ rfl;intro mx stA hm JZ;walk_nrm;refine TT.road hP JZ (by simp[hx]) 80 fun w₀ hF=>?_
  repeat w_go aj
  refine Goes.stop (fun w₁ r₁=>⟨rfl,?_⟩);clear hF w₀;rcases hm with rfl|⟨old,rfl,hold⟩
  ·refine TT.lI hP JZ hx (mx:=.out) rfl (by simp) fun stB hAB hIB Tn=>⟨_,_,_,0,stepG_mark0 .enable (by simp) rfl rfl (by k_ne) rfl Try.func81 iU jd iT f_enable,rfl,Hr 0,rfl,aY.refl _,pX .enable (by simp),fun ZJ OJ hIC _ _ _ _=>?_⟩
   clear Tn hAB hIB;refine TT.road hP OJ (by simp[hx]) 80 fun w₀ hF=>?_
   walk_nrm
   repeat w_go aj
   u_leave0 Try.func72 aj hF
   refine Goes.stop (fun w₁ r₁=>⟨rfl,?_⟩);exact hT ZJ OJ hIC
  ·refine TT.mu hP JZ hx (mx:=.ul old) rfl (by simp) fun stB hAB hIB Tn q1 q2 _ _=>⟨_,_,_,.out,0,stB.γ.L,stB.γ.W,stB.γ.S,stB.γ.N,stB.γ.tn,stB.γ.th,stepG_mark0 .enable (by simp) rfl rfl (by k_ne) rfl Try.func81 iU jd iT f_enable,rfl,Hr 0,by simp,by simp,Tn.mu.leave hAB.lo (hAB.hi hIB) (dA hAB) hold,Tn.gb.stay rfl rfl,aY.refl _,.inl (by simp[kM]),.inl (Nat.le_refl _),pX .enable (by simp),.inr (Nat.le_refl _),fun ZJ OJ hIC _ _ _ _=>?_⟩
   clear Tn hAB hIB q1 q2;refine TT.road hP OJ (by simp[hx]) 80 fun w₀ hF=>?_
   walk_nrm
   repeat w_go aj
   u_leave0 Try.func72 aj hF
   refine Goes.stop (fun w₁ r₁=>⟨rfl,?_⟩);exact hT ZJ OJ hIC
end
end
theorem aF6:(Try.f125.name== "runtime.NumGoroutine")=false:=by kernel_rfl
theorem aO8:Try.f125.body.isNone=true:=by kernel_rfl
theorem ax7:Extern.findNext Try.f125=none:=by kernel_rfl
theorem aL9:Extern.find Try.f125=some (Extern.Atomic.loadT (.int .u32)):=by kernel_rfl
theorem XK:(Try.f127.name== "runtime.NumGoroutine")=false:=by kernel_rfl
theorem Zd:Try.f127.body.isNone=true:=by kernel_rfl
theorem Wi:Extern.findNext Try.f127=none:=by kernel_rfl
theorem YE:Extern.find Try.f127=some Extern.Atomic.storeT:=by kernel_rfl
theorem RN:(Try.f115.name== "runtime.NumGoroutine")=false:=by kernel_rfl
theorem XP:(Try.f126.name== "runtime.NumGoroutine")=false:=by kernel_rfl
theorem ba0:(Try.f128.name== "runtime.NumGoroutine")=false:=by kernel_rfl
theorem a99:(Try.f92.name== "runtime.NumGoroutine")=false:=by kernel_rfl
theorem XO:(Try.f116.name== "runtime.NumGoroutine")=false:=by kernel_rfl
theorem aF5:(Try.f28.name== "runtime.NumGoroutine")=false:=by kernel_rfl
theorem LC:(Try.f29.name== "runtime.NumGoroutine")=false:=by kernel_rfl
theorem aE8:(Try.f93.name== "runtime.NumGoroutine")=false:=by kernel_rfl
theorem ae6:(Try.f47.name== "runtime.NumGoroutine")=false:=by kernel_rfl
section
section
variable{q:ig}(hP:q.P=Try.prog){i:Nat}{s:aO}{x:Wk}{Ch:Nat->Goroutine->St aJ->Prop}
variable{b₁:Frame}{a₁:Act}{ops₁:Array Oper}{i₁:Nat}{rest₁:List Nat}{k₁:List Item}{cs₁:List Frame}
noncomputable def Ia:Code:=Try.f115.body.getD .skip
include hP
theorem TN(hx:x.wg=.work)(hdf:x.df=0)(n1:x.mx≠ .own .work)
  (h1:∀st':St aJ,At s i {x with syn:=true} st'->Inv q st'->st'.γ.D=1->TT (cfg q) i Ch (G (b₁.at (a₁.put ((ops₁[i₁]?).bind (·.dst)) (.bool true)) (.inRegion ops₁ rest₁::k₁)) cs₁) st')
  (h0:x.mx≠ .own .chk->∀st':St aJ,At s i x st'->Inv q st'->TT (cfg q) i Ch (G (b₁.at (a₁.put ((ops₁[i₁]?).bind (·.dst)) (.bool false)) (.inRegion ops₁ rest₁::k₁)) cs₁) st')
  (hw:x.mx=.own .chk->∀st':St aJ,At s i {x with mx:=.own .work} st'->Inv q st'->TT (cfg q) i Ch (G (b₁.at (a₁.put ((ops₁[i₁]?).bind (·.dst)) (.bool false)) (.inRegion ops₁ rest₁::k₁)) cs₁) st')
  {st:St aJ}(hA:At s i x st):TT (cfg q) i Ch (G ((base 115).at ⟨#[.pointer (some ⟨s.Gb,3,none⟩),undef,undef,undef,undef,undef,undef,undef],[]⟩ [.code Ia]) (b₁.at a₁ (.inRegion ops₁ (i₁::rest₁)::k₁)::cs₁)) st:=by
 simp only[Ia,Try.f115,Option.getD_some];refine TT.road hP hA (by simp[hx]) 60 fun w₀ hF=>?_
 repeat w_go aj
 refine Goes.stop (fun w₁ r₁=>⟨rfl,?_⟩);clear hF w₀;refine TT.ba3 hP hA hx hdf n1 fun ah au hI₁ aB=>⟨_,stepG_load_atomic rfl rfl (by k_ne) rfl Try.func125 aF6 aO8 ax7 .u32 aL9 rfl aB.gb.cell.1,rfl,fun hD ay aC aT Yr=>?_,fun hD hm ay aC aT=>?_,fun hD hm ay aC aT=>?_⟩
 all_goals(rw[hD];clear hD aB hI₁ au)
 ·refine TT.road hP aC (by simp[hx]) 60 fun w₀ hF=>?_
  walk_nrm
  repeat w_go aj
  u_leave1 Try.func115 aj hF
  refine Goes.stop (fun w₁ r₁=>⟨rfl,?_⟩);exact h1 ay aC aT Yr
 ·refine TT.road hP aC (by simp[hx]) 60 fun w₀ hF=>?_
  walk_nrm
  repeat w_go aj
  u_leave1 Try.func115 aj hF
  refine Goes.stop (fun w₁ r₁=>⟨rfl,?_⟩);exact h0 hm ay aC aT
 ·refine TT.road hP aC (by simp[hx]) 60 fun w₀ hF=>?_
  walk_nrm
  repeat w_go aj
  u_leave1 Try.func115 aj hF
  refine Goes.stop (fun w₁ r₁=>⟨rfl,?_⟩);exact hw hm ay aC aT
end
end
section
section
variable{q:ig}(hP:q.P=Try.prog){i:Nat}{s:aO}{x:Wk}{Ch:Nat->Goroutine->St aJ->Prop}{cs₁:List Frame}
noncomputable def FD:Code:=Try.f126.body.getD .skip
def jQ(q:ig)(i:Nat)(s:aO)(x:Wk)(l:Array Bool)(st:St aJ):Prop:=
 if l.getD 5 true=true then At s i {x with mx:=.own .dn,syn:=true} st/\Inv q st
 else At s i x st/\Inv q st/\∀id,1<=id->id<=s.nn->st.w.cell? ⟨s.Gb,6+id,none⟩=some (.int .u64 (s.vals id))
theorem jQ.keep{l:Array Bool}{j:Nat}(hj:j≠5){st:St aJ}(hx:x.wg=.work)(n1:x.mx=.own .work)(hnn:s.nn<=9)(h:jQ q i s x l st):(∃x:Wk,(x.wg≠ .lv/\x.wg≠ .gone/\x.wg≠ .idle)/\At s i x st)/\∀ah,Rl i st ah->Inv q ah->jQ q i s x (l.setIfInBounds j true) ah:=by
 unfold jQ at h ⊢;rw[getD_set_ne true hj];split at h
 ·rename_i e;refine⟨⟨_,by simp[hx],h.1⟩,fun ah hr hi=>?_⟩;rw[if_pos e];exact⟨h.1.rely (by simp[hx]) hr hi,hi⟩
 ·rename_i e;refine⟨⟨x,by simp[hx],h.1⟩,fun ah hr hi=>?_⟩;rw[if_neg e];refine⟨h.1.rely (by simp[hx]) hr hi,hi,fun id i1 i2=>?_⟩;exact(hr.work h.1.ne (by rw[h.1.me,hx];simp) (by rw[h.1.me,hx];simp) (by rw[h.1.me];exact n1) s h.1.sc (6+id) (by omega) (by omega)).trans (h.2.2 id i1 i2)
theorem jQ.stay{l:Array Bool}{st:St aJ}(hx:x.wg=.work)(n1:x.mx=.own .work)(hnn:s.nn<=9)(h:jQ q i s x l st):(∃x:Wk,(x.wg≠ .lv/\x.wg≠ .gone/\x.wg≠ .idle)/\At s i x st)/\∀ah,Rl i st ah->Inv q ah->jQ q i s x l ah:=by
 unfold jQ at h ⊢;split at h
 ·rename_i e;refine⟨⟨_,by simp[hx],h.1⟩,fun ah hr hi=>?_⟩;rw[if_pos e];exact⟨h.1.rely (by simp[hx]) hr hi,hi⟩
 ·rename_i e;refine⟨⟨x,by simp[hx],h.1⟩,fun ah hr hi=>?_⟩;rw[if_neg e];refine⟨h.1.rely (by simp[hx]) hr hi,hi,fun id i1 i2=>?_⟩;exact(hr.work h.1.ne (by rw[h.1.me,hx];simp) (by rw[h.1.me,hx];simp) (by rw[h.1.me];exact n1) s h.1.sc (6+id) (by omega) (by omega)).trans (h.2.2 id i1 i2)
theorem jQ.inv{l:Array Bool}{st:St aJ}(h:jQ q i s x l st):Inv q st:=by
 unfold jQ at h;split at h
 ·exact h.2
 ·exact h.2.1
include hP
theorem bl6{x':Wk}(hx:x'.wg≠ .lv/\x'.wg≠ .gone/\x'.wg≠ .idle){b₁:Frame}{a₁:Act}{ops₁:Array Oper}{i₁:Nat}{rest₁:List Nat}{k₁:List Item}{st:St aJ}(hA:At s i x' st)
  (hT:TT (cfg q) i Ch (G (b₁.at (a₁.put ((ops₁[i₁]?).bind (·.dst)) (.int .u32 1)) (.inRegion ops₁ rest₁::k₁)) cs₁) st):
  TT (cfg q) i Ch (G (Frame.enter Try.prog 128 #[.bool true] .normal) (b₁.at a₁ (.inRegion ops₁ (i₁::rest₁)::k₁)::cs₁)) st:=by
 rw[enter_at (P:=Try.prog) _ Try.func128 rfl];simp only[Try.f128];refine TT.road hP hA hx 60 fun w₀ hF=>?_
 walk_nrm
 repeat w_go aj
 u_leave1 Try.func128 aj hF
 exact Goes.stop (fun w₁ r₁=>⟨rfl,hT⟩)
theorem Y6(hx:x.wg=.work)(hdf:x.df=0)(n1:x.mx=.own .work)(hnn:s.nn<=9)(aJ1:Try.prog.follows .mixedOrders=true){c:Frame}(hc:c.mode=.returning)
  (hT:∀st':St aJ,At s i {x with mx:=.own .dn,syn:=true} st'->Inv q st'->TT (cfg q) i Ch (G c cs₁) st')
  {st:St aJ}(hA:At s i x st)(hv:∀id,1<=id->id<=s.nn->st.w.cell? ⟨s.Gb,6+id,none⟩=some (.int .u64 (s.vals id))):
  TT (cfg q) i Ch (G ((baseD 126).at ⟨#[.pointer (some ⟨s.Gb,3,none⟩),.bool true,undef,undef,undef,undef,undef,undef,undef,undef],[]⟩ [.code FD]) (c::cs₁)) st:=by
 simp only[FD,Try.f126,Option.getD_some];refine TT.ask hP hA hx fun ah au hI₁=>⟨_,stepG_region_draw,rfl,fun ay aC aT hsh=>?_⟩
 simp only[Region.schedule,aJ1,Bool.true_or,if_true,Region.linearise];have bb7:∀id,1<=id->id<=s.nn->ay.w.cell? ⟨s.Gb,6+id,none⟩=some (.int .u64 (s.vals id)):=fun id i1 i2=>(hsh n1 (6+id) (by omega) (by omega)).trans (hv id i1 i2)
 refine FK (S:=jQ q i s x) (md:=.any) (F:=fun l a=>l.getD 5 true=true/\a.defers=[]) ?_ ?_ _ _ _ _ ay ?_ ?_
 ·intro l a st' ⟨hl,hd⟩ hs;unfold jQ at hs;rw[if_pos hl]at hs;obtain⟨tm,df⟩:=a;simp only at hd;subst hd;refine TT.road hP hs.1 (by simp[hx]) 60 fun w₀ hF=>?_
  repeat w_go aj
  u_in aj hF
  rw[stepG_leave_deferred rfl rfl Try.func126 (results_none rfl _ _ _) (events_results_none rfl _ _) hc];simp only[goes_go];refine⟨by u_nil,?_⟩;refine Goes.stop (fun w₁ r₁=>⟨rfl,?_⟩);exact hT st' hs.1 hs.2
 ·intro j l a o rest st' ho _ hw;exfalso;rcases j with _|_|_|_|_|_|j<;>simp at ho<;>subst ho<;>simp[Region.wanted]at hw
 ·have keep:∀(j:Nat),j≠5->∀(l:Array Bool) (st:St aJ),l.getD j true=false->jQ q i s x l st->(∃x:Wk,(x.wg≠ .lv/\x.wg≠ .gone/\x.wg≠ .idle)/\At s i x st)/\∀ah,Rl i st ah->Inv q ah->jQ q i s x (l.setIfInBounds j true) ah:=fun j hj l st _ hs=>hs.keep hj hx n1 hnn
  change JY (cfg q) i Ch _ _ [] _ _ .any _ 6 #[false,false,false,false,false,false] _;refine aN (i':=0) (v:=.pointer (some ⟨s.Gb,3,none⟩)) rfl (by kernel_rfl) (by kernel_rfl) (by kernel_rfl) (.inl ⟨rfl,Does.quiet hP rfl (by decide) (keep 0 (by decide)) (fun w=>rfl) (fun a w h=>by unfold listed;rw[h];rfl)⟩) ?_;refine aN (i':=1) (v:=.pointer (some ⟨s.Gb,3,none⟩)) rfl (by kernel_rfl) (by kernel_rfl) (by kernel_rfl) (.inl ⟨rfl,Does.quiet hP rfl (by decide) (keep 1 (by decide)) (fun w=>rfl) (fun a w h=>by unfold listed;rw[h];rfl)⟩) ?_;refine aN (i':=2) (v:=.pointer (some ⟨s.Gb,3,none⟩)) rfl (by kernel_rfl) (by kernel_rfl) (by kernel_rfl) (.inl ⟨rfl,Does.quiet hP rfl (by decide) (keep 2 (by decide)) (fun w=>rfl) (fun a w h=>by unfold listed;rw[h];rfl)⟩) ?_;refine aN (i':=3) (v:=.bool true) rfl (by kernel_rfl) (by kernel_rfl) (by kernel_rfl) (.inl ⟨rfl,Does.quiet hP rfl (by decide) (keep 3 (by decide)) (fun w=>rfl) (fun a w h=>by unfold listed;rw[h];rfl)⟩) ?_;refine aN (i':=4) (v:=.int .u32 1) rfl (by kernel_rfl) (by kernel_rfl) (by kernel_rfl) (.inl ⟨rfl,Does.call hP rfl (by decide) rfl Try.func128 ba0 rfl (by simp[Act.eval,Act.put];rfl) (fun l st hs=>hs.stay hx n1 hnn) ?_⟩) ?_
  ·intro l a rest st hl hs fin;obtain⟨⟨x',hx',hAx⟩,-⟩:=hs.stay hx n1 hnn;refine bl6 hP hx' hAx ?_;exact fin st ((keep 4 (by decide) l st hl hs).2 st (Rl.refl i st) hs.inv)
  refine aN (i':=5) (v:=.tuple #[]) rfl (by kernel_rfl) (by kernel_rfl) (by kernel_rfl) (.inl ⟨rfl,?_⟩) ⟨by kernel_rfl,by kernel_rfl,rfl⟩;intro l a rest st hl hs he hw hn;have hlen:5<l.size:=by
   refine Nat.lt_of_not_le fun hge=>?_
   simp[Array.getD,Nat.not_lt.2 hge]at hl
  unfold jQ at hs;rw[if_neg (by rw[hl];decide)]at hs;have e1:=he.trans (show _=callFunc 127 #[.pointer (some ⟨s.Gb,3,none⟩),.int .u32 1]from(execOp_call_func rfl).trans (by simp[Act.eval,Act.put]));refine TT.az1 hP hs.1 hx hdf n1 hs.2.2 hnn fun ah au hI₁ aB=>⟨_,?_,rfl,fun ay aC aT=>hn ay ?_⟩
  ·have hr:=run_call_store (P:=Try.prog) Try.func127 XK Zd Wi YE aB.gb.cell.1 (aB.gb.cell.2.2.2 3) (k:=.u32) (y:=1);have hv:=events_call_store (P:=Try.prog) Try.func127 XK Zd Wi YE aB.gb.cell.1 (aB.gb.cell.2.2.2 3) (k:=.u32) (y:=1);rw[stepG_value (v:=.tuple #[]) (w':=ah.w.setCell ⟨s.Gb,3,none⟩ (.int .u32 1)) rfl hw (by decide) (by rw[e1];exact hr)];unfold listed;rw[e1,hv,seen_extern_sync]
  ·unfold jQ;rw[if_pos (by simp[Array.getD,hlen])];exact⟨aC,aT⟩
 ·unfold jQ;rw[if_neg (by decide)];exact⟨aC,aT,bb7⟩
end
end
section
theorem Qd{P:Program}{main:Bool}{b:Frame}{a:Act}{k:List Item}{cs:List Frame}{w:World}{ops:Array Oper}{i:Nat}{rest:List Nat}{o:Oper}{K:Goroutine->World->Array Event->Prop}{f:FuncId}{fn:Func}{c:Code}{y:Operand}{ats:Array TypeId}{first:Array Value}
  (ho:ops[i]?=some o)(hw:Region.wanted o (yielded ops a.tmps)=true)(hk:b.kind≠ .early)(hop:o.op=.call {callee:=.value y,args:=#[],argTypes:=ats})(hy:a.eval y=.func (.func f) first #[])
  (hf:P.funcs[f]?=some fn)(hname:(fn.name== "runtime.NumGoroutine")=false)(hb:fn.body=some c)
  (h:K (G ((base f).at {tmps:=first++Array.replicate (fn.ntmps-first.size) undef,defers:=[]} [.code c]) (b.at a (.inRegion ops (i::rest)::k)::cs)) w #[]):
  (stepG P main (G (b.at a (.inRegion ops (i::rest)::k)) cs) w).goes K:=by
 have h1:¬fn.name= "runtime.NumGoroutine" :=by simpa using hname
 have hr:(execOp a.eval o).run P w=.ok (.enter f first) w:=by
  unfold execOp;simp[hop,resolve,Deferred.ofValue,invoke,callFunc,hf,h1,hb,hy]
 have he:(execOp a.eval o).events P w #[]=#[]:=by
  unfold execOp;simp[hop,resolve,Deferred.ofValue,invoke,callFunc,hf,h1,hb,hy]
 rw[stepG_enter ho hw hk hr,enter_at _ hf hb];have:listed P b.fn a o w=#[]:=by unfold listed;rw[he];exact seen_none P _
 rw[this];exact h
section
variable{q:ig}(hP:q.P=Try.prog){i:Nat}{s:aO}{x:Wk}{Ch:Nat->Goroutine->St aJ->Prop}
variable{b₁:Frame}{a₁:Act}{ops₁:Array Oper}{i₁:Nat}{rest₁:List Nat}{k₁:List Item}{cs₁:List Frame}
def Laid(s:aO)(st:St aJ):Prop:=∀id,1<=id->id<=s.nn->st.w.cell? ⟨s.Gb,6+id,none⟩=some (.int .u64 (s.vals id))
noncomputable def lM:Code:=Try.f93.body.getD .skip
def BA(q:ig)(i:Nat)(Ch:Nat->Goroutine->St aJ->Prop)(s:aO)(x:Wk):Prop:=
 ∀(b₁:Frame) (a₁:Act) (ops₁:Array Oper) (i₁:Nat) (rest₁:List Nat) (k₁:List Item) (cs₁:List Frame) (st:St aJ),At s i {x with mx:=.own .work,df:=0} st->Inv q st->
  (∀st':St aJ,At s i {x with mx:=.own .work,df:=0} st'->Inv q st'->Laid s st'->TT (cfg q) i Ch (G (b₁.at (a₁.put ((ops₁[i₁]?).bind (·.dst)) (.tuple #[])) (.inRegion ops₁ rest₁::k₁)) cs₁) st')->
  TT (cfg q) i Ch (G ((base 93).at ⟨#[.pointer (some ⟨s.Gb,0,none⟩),undef,undef,undef,undef,undef,undef,undef,undef,undef,undef,undef,undef,undef,undef,undef,undef,undef,undef,undef,undef,undef,undef,undef,undef,undef,undef,undef,undef,undef,undef,undef,undef,undef,undef,undef,undef,undef,undef,undef],[]⟩ [.code lM]) (b₁.at a₁ (.inRegion ops₁ (i₁::rest₁)::k₁)::cs₁)) st
noncomputable def D7:Code:=Try.f29.body.getD .skip
include hP
theorem Hl(hx:x.wg=.work){c:Frame}(hc:c.mode=.returning)(hT:∀st':St aJ,At s i {x with mx:=.out,df:=0} st'->Inv q st'->TT (cfg q) i Ch (G c cs₁) st'){o:JL}(ho:o≠ .work){st:St aJ}(hA:At s i {x with mx:=.own o,df:=0} st):
  TT (cfg q) i Ch (G ((baseD 29).at ⟨#[.pointer (some ⟨s.Gb,4,none⟩),undef,undef,undef,undef,undef],[]⟩ [.code D7]) (c::cs₁)) st:=by
 simp only[D7,Try.f29,Option.getD_some];refine TT.road hP hA (by simp[hx]) 80 fun w₀ hF=>?_
 repeat w_go aj
 u_call Try.func72 UY Try.f72 aj hF
 refine Goes.stop (fun w₁ r₁=>⟨rfl,?_⟩);clear hF w₀;refine U8 hP hx ?_ ho hA;intro aV bg dD;walk_nrm;refine TT.road hP bg (by simp[hx]) 80 fun w₀ hF=>?_
 repeat w_go aj
 u_in aj hF
 rw[stepG_leave_deferred rfl rfl Try.func29 (results_none rfl _ _ _) (events_results_none rfl _ _) hc];simp only[goes_go];refine⟨by u_nil,?_⟩;exact Goes.stop (fun w₁ r₁=>⟨rfl,hT aV bg dD⟩)
noncomputable def Ho:Code:=Try.f116.body.getD .skip
theorem aj9(hx:x.wg=.work)(hnn:s.nn<=9)(hW:BA q i Ch s x)
  (hT:∀st':St aJ,At s i {x with mx:=.out,df:=0,syn:=true} st'->Inv q st'->TT (cfg q) i Ch (G (b₁.at (a₁.put ((ops₁[i₁]?).bind (·.dst)) (.tuple #[])) (.inRegion ops₁ rest₁::k₁)) cs₁) st')
  {st:St aJ}(hA:At s i {x with mx:=.fresh,df:=0} st):
  TT (cfg q) i Ch (G ((base 116).at ⟨#[.pointer (some ⟨s.Gb,3,none⟩),.func (.func 93) #[.pointer (some ⟨s.Gb,0,none⟩)] #[],undef,undef,undef,undef,undef,undef,undef,undef,undef,undef,undef,undef,undef,undef,undef,undef,undef,undef,undef],[]⟩ [.code Ho]) (b₁.at a₁ (.inRegion ops₁ (i₁::rest₁)::k₁)::cs₁)) st:=by
 simp only[Ho,Try.f116,Option.getD_some];refine TT.road hP hA (by simp[hx]) 80 fun w₀ hF=>?_
 repeat w_go aj
 u_call Try.func28 aF5 Try.f28 aj hF
 refine Goes.stop (fun w₁ r₁=>⟨rfl,?_⟩);clear hF w₀;refine lockGo hP hx ?_ hA;intro ah au hI₁;walk_nrm;refine TT.road hP au (by simp[hx]) 80 fun w₀ hF=>?_
 repeat w_go aj
 u_defer aj hF
 repeat w_go aj
 u_call Try.func115 RN Try.f115 aj hF
 refine Goes.stop (fun w₁ r₁=>⟨rfl,?_⟩);clear hF w₀;refine TN hP (x:={x with mx:=.own .chk,df:=0}) hx rfl (by simp) ?_ (fun h=>absurd rfl h) ?_ au
 ·
  intro ay aC aT Yr;walk_nrm;refine TT.road hP aC (by simp[hx]) 80 fun w₀ hF=>?_
  repeat w_go aj
  u_in aj hF
  rw[stepG_unwind_enter rfl Try.func29 LC rfl];simp only[goes_go];refine⟨by u_nil,?_⟩
  walk_nrmf Try.f29
  refine Goes.stop (fun w₁ r₁=>⟨rfl,?_⟩);clear hF w₀;refine Hl hP (x:={x with syn:=true}) hx rfl ?_ (o:=.chk) (by simp) aC;intro bH aQ bF;refine TT.road hP aQ (by simp[hx]) 80 fun w₀ hF=>?_
  u_leave0 Try.func116 aj hF
  exact Goes.stop (fun w₁ r₁=>⟨rfl,hT bH aQ bF⟩)
 ·intro _ ay aC aT;walk_nrm;refine TT.road hP aC (by simp[hx]) 80 fun w₀ hF=>?_
  repeat w_go aj
  u_defer aj hF
  repeat w_go aj
  u_in aj hF
  refine Qd rfl rfl (by k_ne) rfl rfl Try.func93 aE8 rfl ⟨by u_nil,?_⟩
  walk_nrmf Try.f93
  refine Goes.stop (fun w₁ r₁=>⟨rfl,?_⟩);clear hF w₀;refine hW _ _ _ _ _ _ _ ay aC aT ?_;intro bH aQ bF bh4;walk_nrm;refine TT.road hP aQ (by simp[hx]) 80 fun w₀ hF=>?_
  repeat w_go aj
  u_in aj hF
  rw[stepG_unwind_enter rfl Try.func126 XP rfl];simp only[goes_go];refine⟨by u_nil,?_⟩
  walk_nrmf Try.f126
  refine Goes.stop (fun w₁ r₁=>⟨rfl,?_⟩);clear hF w₀;refine Y6 hP (x:={x with mx:=.own .work,df:=0}) hx rfl rfl hnn (by kernel_rfl) rfl ?_ aQ bh4;intro bM aI bY;refine TT.road hP aI (by simp[hx]) 80 fun w₀ hF=>?_
  u_in aj hF
  rw[stepG_unwind_enter rfl Try.func29 LC rfl];simp only[goes_go];refine⟨by u_nil,?_⟩
  walk_nrmf Try.f29
  refine Goes.stop (fun w₁ r₁=>⟨rfl,?_⟩);clear hF w₀;refine Hl hP (x:={x with syn:=true}) hx rfl ?_ (o:=.dn) (by simp) aI;intro aV bg dD;refine TT.road hP bg (by simp[hx]) 80 fun w₀ hF=>?_
  u_leave0 Try.func116 aj hF
  exact Goes.stop (fun w₁ r₁=>⟨rfl,hT aV bg dD⟩)
noncomputable def YO:Code:=Try.f92.body.getD .skip
theorem bE0(hx:x.wg=.work)(hnn:s.nn<=9)(hW:BA q i Ch s x)
  (hT:∀(mx:MX) (st':St aJ),mx=.fresh\/mx=.out->At s i {x with mx:=mx,df:=0,syn:=true} st'->Inv q st'->TT (cfg q) i Ch (G (b₁.at (a₁.put ((ops₁[i₁]?).bind (·.dst)) (.tuple #[])) (.inRegion ops₁ rest₁::k₁)) cs₁) st')
  {st:St aJ}(hA:At s i {x with mx:=.fresh,df:=0} st):
  TT (cfg q) i Ch (G ((base 92).at ⟨#[.pointer (some ⟨s.Gb,3,none⟩),.func (.func 93) #[.pointer (some ⟨s.Gb,0,none⟩)] #[],undef,undef,undef,undef,undef,undef,undef,undef,undef,undef],[]⟩ [.code YO]) (b₁.at a₁ (.inRegion ops₁ (i₁::rest₁)::k₁)::cs₁)) st:=by
 simp only[YO,Try.f92,Option.getD_some];refine TT.road hP hA (by simp[hx]) 80 fun w₀ hF=>?_
 repeat w_go aj
 u_call Try.func115 RN Try.f115 aj hF
 refine Goes.stop (fun w₁ r₁=>⟨rfl,?_⟩);clear hF w₀;refine TN hP (x:={x with mx:=.fresh,df:=0}) hx rfl (by simp) ?_ (fun _=>?_) (fun h=>by cases h) hA
 ·intro ay aC aT Yr;walk_nrm;refine TT.road hP aC (by simp[hx]) 80 fun w₀ hF=>?_
  repeat w_go aj
  u_leave0 Try.func92 aj hF
  exact Goes.stop (fun w₁ r₁=>⟨rfl,hT .fresh ay (.inl rfl) aC aT⟩)
 ·intro ay aC aT;walk_nrm;refine TT.road hP aC (by simp[hx]) 80 fun w₀ hF=>?_
  repeat w_go aj
  u_call Try.func116 XO Try.f116 aj hF
  refine Goes.stop (fun w₁ r₁=>⟨rfl,?_⟩);clear hF w₀;refine aj9 hP hx hnn hW ?_ aC;intro bH aQ bF;walk_nrm;refine TT.road hP aQ (by simp[hx]) 80 fun w₀ hF=>?_
  repeat w_go aj
  u_leave0 Try.func92 aj hF
  exact Goes.stop (fun w₁ r₁=>⟨rfl,hT .out bH (.inr rfl) aQ bF⟩)
end
end
section
open Pl ny oI oG
open qj hiding base
theorem Gx{P:Program}{main:Bool}{b:Frame}{a:Act}{kk:List Item}{cs:List Frame}{w:World}{ops:Array Oper}{i:Nat}{rest:List Nat}{o:Oper}{t:TypeId}{x:Operand}{ad:Addr}{v:Value}(ho:ops[i]?=some o)(hw:Region.wanted o (yielded ops a.tmps)=true)(hk:b.kind≠ .early)(hop:o.op=.load t x)(hx:a.eval x=.pointer (some ad))
  (h:(Instr.loadAt t (.pointer (some ad))).run P w=.ok v w/\(Instr.loadAt t (.pointer (some ad))).events P w #[]=#[⟨.cell ad,false,false⟩]):
  stepG P main (G (b.at a (.inRegion ops (i::rest)::kk)) cs) w=.go (G (b.at (a.put o.dst v) (.inRegion ops rest::kk)) cs) w (listed P b.fn a o w)/\∀e∈listed P b.fn a o w,e=⟨.cell ad,false,false⟩:=by
 have hr:(execOp a.eval o).run P w=.ok (.value v) w:=by
  unfold execOp;simp only[hop,hx];simp[h.1]
 have he:(execOp a.eval o).events P w #[]=#[⟨.cell ad,false,false⟩]:=by
  unfold execOp;simp only[hop,hx];simp[h.1,h.2]
 refine⟨stepG_value ho hw hk hr,fun e hm=>?_⟩;have:=mem_listed hm;rw[he]at this
 simpa using this
theorem xZ{P:Program}{main:Bool}{b:Frame}{a:Act}{kk:List Item}{cs:List Frame}{w:World}{ops:Array Oper}{i:Nat}{rest:List Nat}{o:Oper}{t:TypeId}{x y:Operand}{ad:Addr}{v:Value}(ho:ops[i]?=some o)(hw:Region.wanted o (yielded ops a.tmps)=true)(hk:b.kind≠ .early)(hop:o.op=.store t x y)(hx:a.eval x=.pointer (some ad))(hy:a.eval y=v)
  (h:(Instr.storeAt t (.pointer (some ad)) v).run P w=.ok () (w.setCell ad v)/\(Instr.storeAt t (.pointer (some ad)) v).events P w #[]=#[⟨.cell ad,true,false⟩])(hn:(P.funcs[b.fn]?).any (·.norace)=false):
  stepG P main (G (b.at a (.inRegion ops (i::rest)::kk)) cs) w=.go (G (b.at (a.put o.dst undef) (.inRegion ops rest::kk)) cs) (w.setCell ad v) #[⟨.cell ad,true,false⟩]:=by
 have hr:(execOp a.eval o).run P w=.ok .skip (w.setCell ad v):=by
  unfold execOp;simp only[hop,hx,hy];simp[h.1]
 have he:(execOp a.eval o).events P w #[]=#[⟨.cell ad,true,false⟩]:=by
  unfold execOp;simp only[hop,hx,hy];simp[h.2]
 rw[stepG_none ho hw hk hr];unfold listed;rw[he,seen_def,hn];simp[seenStep]
theorem aY0{w:World}{ad:Addr}{u:Value}{v:Int}(hc:w.cell? ad=some u)(hz:w.frozen? ad=false):(Instr.storeAt 85 (.pointer (some ad)) (.int .u64 v)).run Try.prog w=.ok () (w.setCell ad (.int .u64 v))/\(Instr.storeAt 85 (.pointer (some ad)) (.int .u64 v)).events Try.prog w #[]=#[⟨.cell ad,true,false⟩]:=by
 constructor<;>simp[go_sem,hc,hz]
section
variable{q:ig}{i:Nat}{s:aO}{x:Wk}{Ch:Nat->Goroutine->St aJ->Prop}
theorem TT.load{P:Program}(hP:q.P=P){b:Frame}{a:Act}{kk:List Item}{cs:List Frame}{ops:Array Oper}{j:Nat}{rest:List Nat}{o:Oper}{t:TypeId}{y:Operand}{bl off:Nat}{v:Value}{st:St aJ}(hA:At s i x st)(hx:x.wg=.work)
  (ho:ops[j]?=some o)(hw:Region.wanted o (yielded ops a.tmps)=true)(hk:b.kind≠ .early)(hop:o.op=.load t y)(hy:a.eval y=.pointer (some ⟨bl,off,none⟩))
  (hf:∀ah,Rl i st ah->Inv q ah->At s i x ah->ah.γ.rd i (ca bl off)/\(Instr.loadAt t (.pointer (some ⟨bl,off,none⟩))).run P ah.w=.ok v ah.w/\(Instr.loadAt t (.pointer (some ⟨bl,off,none⟩))).events P ah.w #[]=#[⟨.cell ⟨bl,off,none⟩,false,false⟩])
  (h:∀ay,Rl i st ay->Inv q ay->At s i x ay->TT (cfg q) i Ch (G (b.at (a.put o.dst v) (.inRegion ops rest::kk)) cs) ay):TT (cfg q) i Ch (G (b.at a (.inRegion ops (j::rest)::kk)) cs) st:=
 TT.read hP hA hx fun ah hr hi au=>by
  obtain⟨f1,f2⟩:=hf ah hr hi au;obtain⟨s1,s2⟩:=Gx (main:=i==0) (cs:=cs) (kk:=kk) (rest:=rest) ho hw hk hop hy f2;exact⟨_,_,s1,rfl,fun e he=>⟨bl,off,s2 e he,f1⟩,h⟩
theorem PY{w:World}{ad:Addr}{v:Int}(hc:w.cell? ad=some (.int .i64 v)):(Instr.loadAt 3 (.pointer (some ad))).run Try.prog w=.ok (.int .i64 v) w/\(Instr.loadAt 3 (.pointer (some ad))).events Try.prog w #[]=#[⟨.cell ad,false,false⟩]:=by
 constructor<;>simp[go_sem,hc]
theorem aH2{w:World}{ad:Addr}{v:Value}(hc:w.cell? ad=some v):(Instr.loadAt 136 (.pointer (some ad))).run Try.prog w=.ok v w/\(Instr.loadAt 136 (.pointer (some ad))).events Try.prog w #[]=#[⟨.cell ad,false,false⟩]:=by
 constructor<;>simp[go_sem,hc]
theorem aq9{w:World}{ad:Addr}{v:Value}(hc:w.cell? ad=some v):(Instr.loadAt 85 (.pointer (some ad))).run Try.prog w=.ok v w/\(Instr.loadAt 85 (.pointer (some ad))).events Try.prog w #[]=#[⟨.cell ad,false,false⟩]:=by
 constructor<;>simp[go_sem,hc]
theorem At.live{st:St aJ}(h:At s i x st)(hx:x.wg≠ .lv/\x.wg≠ .gone):Live i st:=.inr (by rw[h.me];exact hx)
def FW(i gc:Nat)(cs:List Int)(st:St aJ):Prop:=(∀off,st.γ.rd i (ca gc off))/\∀j,j<cs.length->st.w.cell? ⟨gc,j,none⟩=some (.int .u64 (cs.getD j 0))
theorem FW.rely{gc:Nat}{cs:List Int}{st ah:St aJ}(h:FW i gc cs st)(hl:Live i st)(hr:Rl i st ah):FW i gc cs ah:=
 ⟨fun off=>hr.rd hl _ (h.1 off),fun j hj=>(cell_of (hr.blk hl gc (.inr h.1))).trans (h.2 j hj)⟩
theorem At.iJ{gc:Nat}{cs:List Int}{st:St aJ}(h:At s i x st){C:Array Value}{e:TypeId}{fz:Nat×Nat}(hk:(gc,Obj.cells C e fz)∈x.keep)(hc:∀j,j<cs.length->C[j]?=some (.int .u64 (cs.getD j 0))):FW i gc cs st:=
 ⟨(h.fz _ _ hk).2,fun j hj=>by simp only[World.cell?,(h.fz _ _ hk).1];exact hc j hj⟩
def JQ(s:aO)(k:Nat)(st:St aJ):Prop:=∀id,1<=id->id<k->st.w.cell? ⟨s.Gb,6+id,none⟩=some (.int .u64 (s.vals id))
theorem JQ.rely{k:Nat}{st ah:St aJ}(h:JQ s k st)(hk:k<=10)(hA:At s i x st)(hx:x.wg=.work)(n1:x.mx=.own .work)(hr:Rl i st ah):JQ s k ah:=fun id i1 i2=>
 (hr.work hA.ne (by rw[hA.me,hx];simp) (by rw[hA.me,hx];simp) (by rw[hA.me];exact n1) s hA.sc (6+id) (by omega) (by omega)).trans (h id i1 i2)
theorem dX.heads{st:St aJ}(h:dX q s st):st.w.cell? ⟨s.Gb,0,none⟩=some s.g0/\st.w.cell? ⟨s.Gb,1,none⟩=some s.g1/\st.w.cell? ⟨s.Gb,2,none⟩=some s.g2:=by
 obtain⟨C,c1,c2,c3,c4,c5⟩:=h.head;refine⟨?_,?_,?_⟩<;>simp[World.cell?,c1,c3,c4,c5]
theorem DT{ρ:Nat->Option Nat}{S:FuncId->Prop}{l:List Value}(h:∀v∈l,VR S ρ v v):AR S ρ l.toArray l.toArray:=⟨rfl,fun j v v' h1 h2=>by
 rw[h1]at h2;cases h2;simp at h1;exact h v (List.mem_of_getElem? h1)⟩
theorem ar1{S:FuncId->Prop}{ρ:Nat->Option Nat}{k1:IntKind}{n1:Int}:AR S ρ #[.int k1 n1] #[.int k1 n1]:=DT (l:=[.int k1 n1]) (by intro v hv;simp at hv;subst hv;exact .int _ _)
theorem ar2{S:FuncId->Prop}{ρ:Nat->Option Nat}{k1 k2:IntKind}{n1 n2:Int}:AR S ρ #[.int k1 n1,.int k2 n2] #[.int k1 n1,.int k2 n2]:=DT (l:=[.int k1 n1,.int k2 n2]) (by intro v hv;simp at hv;rcases hv with rfl|rfl<;>exact .int _ _)
variable(hP:q.P=Try.prog){b₁:Frame}{a₁:Act}{ops₁:Array Oper}{i₁:Nat}{rest₁:List Nat}{k₁:List Item}{cs₁:List Frame}
noncomputable def lK:Code:=(iy lM).getD .skip
def bi5:Code->Code
 |.seq a _=>a
 |c=>c
def unB:Code->Code
 |.block _ c=>c
 |c=>c
def Bf:Code->Option Code
 |.loop c=>iy c
 |.seq x y=>match Bf x with|some c=>some c|none=>Bf y
 |.block _ c=>Bf c
 |_=>none
noncomputable def Il:Code:=(Bf lM).getD .skip
noncomputable def Ik:Code:=sF (sF (sF (unB (bi5 (sF lK)))))
noncomputable def OT:Code:=sF (sF lK)
theorem pO{P:Program}{main:Bool}{b:Frame}{a:Act}{k:List Item}{cs:List Frame}{w:World}{ops:Array Oper}{i:Nat}{rest:List Nat}{o:Oper}{K:Goroutine->World->Array Event->Prop}{f:FuncId}{fn:Func}{c:Code}{args:Array Operand}{ats:Array TypeId}{vals:Array Value}
  (ho:ops[i]?=some o)(hw:Region.wanted o (yielded ops a.tmps)=true)(hk:b.kind≠ .early)(hop:o.op=.call {callee:=.value (.func f),args,argTypes:=ats})
  (hf:P.funcs[f]?=some fn)(hname:(fn.name== "runtime.NumGoroutine")=false)(hb:fn.body=some c)(hv:args.map a.eval=vals)
  (h:K (G (Frame.enter P f vals .normal) (b.at a (.inRegion ops (i::rest)::k)::cs)) w #[]):
  (stepG P main (G (b.at a (.inRegion ops (i::rest)::k)) cs) w).goes K:=by
 have hb':fn.body.isNone=false:=by rw[hb];rfl
 subst hv;rw[stepG_enter ho hw hk (run_call_body hop hf hname hb')];have:listed P b.fn a o w=#[]:=by unfold listed;rw[events_call_body hop hf hname hb'];exact seen_none P _
 rw[this];exact h
structure WkS(q:ig)(i:Nat)(s:aO)(x:Wk)(gc:Nat)(cs:List Int)(k:Nat)(st:St aJ):Prop where
 at_:At s i x st
 inv:Inv q st
 iJ:FW i gc cs st
 laid:JQ s k st
theorem WkS.rely{gc:Nat}{cs:List Int}{k:Nat}{st ah:St aJ}(h:WkS q i s x gc cs k st)(hx:x.wg=.work)(n1:x.mx=.own .work)(hk:k<=10)(hr:Rl i st ah)(hi:Inv q ah):WkS q i s x gc cs k ah:=
 ⟨h.at_.rely (by rw[hx];simp) hr hi,hi,h.iJ.rely (h.at_.live (by rw[hx];simp)) hr,h.laid.rely hk h.at_ hx n1 hr⟩
theorem aq4:(Try.f48.name== "runtime.NumGoroutine")=false:=by kernel_rfl
theorem LG:(Try.f46.name== "runtime.NumGoroutine")=false:=by kernel_rfl
theorem LD:(Try.f37.name== "runtime.NumGoroutine")=false:=by kernel_rfl
theorem ae5:(Try.f70.name== "runtime.NumGoroutine")=false:=by kernel_rfl
theorem Pq(cs:List Int)(id:Int)(j:Nat):uK cs id (j+1)=mV (uK cs id j) (pw (cs.getD j 0) (CU id j).toNat 2147483579):=by
 have b1:=IL cs id j;have b2:=og (cs.getD j 0) (CU id j).toNat (m:=2147483579) (by omega);rw[uK,wV b1.1 (by omega) b2.1 (by omega)]
theorem Uu{id:Int}(j:Nat)(h0:0<=id)(h1:id<100):CU id (j+1)=smul (CU id j) id:=by
 have b:=yc id j;rw[CU,kV b.1 (by omega) h0 (by omega)]
include hP
theorem Wv{cs:List Int}{gc:Nat}{cap:Nat}(hx:x.wg=.work)(n1:x.mx=.own .work){k:Nat}(hk1:1<=k)(hk9:k<=9)(Dh:cs.length<=9)(hel:∀j,j<cs.length->jM (cs.getD j 0)=true)
  (hT:∀(st:St aJ),WkS q i s x gc cs k st->∀(j1 j3 j5 j6 j7 j8 j9 j10 j11 j12 j13 j14 j15 j16 j17 j18 j19 j20 j21 j22 j23 j24 j25 j26 j27 j28 j29 j30 j31 j32 j33 j34 j35 j36 j37 j38 j39:Value),TT (cfg q) i Ch (G ((base 93).at ⟨#[.pointer (some ⟨s.Gb,0,none⟩),j1,.int .i64 k,j3,.int .u64 (pub cs k),j5,j6,j7,j8,j9,j10,j11,j12,j13,j14,j15,j16,j17,j18,j19,j20,j21,j22,j23,j24,j25,j26,j27,j28,j29,j30,j31,j32,j33,j34,j35,j36,j37,j38,j39],[]⟩ [.code Ik,.inBlock 1,.code OT,.inLoop lK,.inBlock 0]) (b₁.at a₁ (.inRegion ops₁ (i₁::rest₁)::k₁)::cs₁)) st):
  ∀(r j:Nat) (X O:Int) (st:St aJ),j+r=cs.length->X=CU (k:Int) j->O=uK cs (k:Int) j->WkS q i s x gc cs k st->∀(j1 j5 j6 j7 j8 j9 j10 j11 j12 j13 j14 j15 j16 j17 j21 j22 j23 j24 j25 j26 j27 j28 j29 j30 j31 j32 j33 j34 j35 j36 j37 j38 j39:Value),TT (cfg q) i Ch (G ((base 93).at ⟨#[.pointer (some ⟨s.Gb,0,none⟩),j1,.int .i64 k,.int .u64 X,.int .u64 O,j5,j6,j7,j8,j9,j10,j11,j12,j13,j14,j15,j16,j17,.slice (some ⟨gc,0,none⟩) cs.length cap,.int .i64 cs.length,.int .i64 j,j21,j22,j23,j24,j25,j26,j27,j28,j29,j30,j31,j32,j33,j34,j35,j36,j37,j38,j39],[]⟩ [.code Il,.inLoop Il,.inBlock 2,.code Ik,.inBlock 1,.code OT,.inLoop lK,.inBlock 0]) (b₁.at a₁ (.inRegion ops₁ (i₁::rest₁)::k₁)::cs₁)) st:=by
 intro r
 induction r with
 |zero=>
  intro j X O st hj hX hO hW j1 j5 j6 j7 j8 j9 j10 j11 j12 j13 j14 j15 j16 j17 j21 j22 j23 j24 j25 j26 j27 j28 j29 j30 j31 j32 j33 j34 j35 j36 j37 j38 j39;obtain rfl:j=cs.length:=by omega
  have hlt:¬((cs.length:Int)<(cs.length:Int)):=by omega
  subst hO;replace hX:=Hd.mk hX;clear hj;simp only[Il,lM,iy,Bf,Try.f93,Option.getD_some];refine TT.road hP hW.at_ (by simp[hx]) 60 fun w₀ hF=>?_
  repeat w_go aj
  exact Goes.stop (fun w₁ r₁=>⟨rfl,hT st hW _ _ _ _ _ _ _ _ _ _ _ _ _ _ _ _ _ _ _ _ _ _ _ _ _ _ _ _ _ _ _ _ _ _ _ _ _⟩)
 |succ r ih=>
  intro j X O st hj hX hO hW j1 j5 j6 j7 j8 j9 j10 j11 j12 j13 j14 j15 j16 j17 j21 j22 j23 j24 j25 j26 j27 j28 j29 j30 j31 j32 j33 j34 j35 j36 j37 j38 j39;have hjl:j<cs.length:=by omega
  have hlt:((j:Int)<(cs.length:Int)):=by omega
  have he:=sW (hel j hjl);have b1:=yc (k:Int) j;have P1:=Pq cs (k:Int) j;have P2:=Uu (id:=(k:Int)) j (by omega) (by omega);rw[<-hO,<-hX]at P1;rw[<-hX]at P2 b1;have hcj:=hW.iJ.2 j hjl;have as1:=fun(ah:St aJ) (hr:Rl i st ah)=>(hW.iJ.rely (hW.at_.live (by rw[hx];simp)) hr).2 j hjl
  generalize cs.getD j 0=C at he P1 as1;obtain⟨he1,he2⟩:=he;obtain⟨b1,b2⟩:=b1;clear hcj hO hX;replace P1:=Hd.mk P1;replace P2:=Hd.mk P2;replace hj:=Hd.mk hj;have b1':=Hd.mk b1;have b2':=Hd.mk b2;have bA6:=Hd.mk he2;have he1':=Hd.mk he1;clear b1 b2 he1 he2;simp only[Il,lM,iy,Bf,Try.f93,Option.getD_some];refine TT.road hP hW.at_ (by simp[hx]) 60 fun w₀ hF=>?_
  repeat w_go aj
  refine Goes.stop (fun w₁ r₁=>⟨rfl,?_⟩);clear hF w₀;refine TT.load hP hW.at_ hx rfl rfl (by k_ne) rfl rfl (fun ah hr hi au=>⟨(hW.iJ.rely (hW.at_.live (by rw[hx];simp)) hr).1 j,aq9 (as1 ah hr)⟩) fun ay hr₂ aT aC=>?_
  have G8:=hW.rely hx n1 (by omega) hr₂ aT;refine TT.road hP aC (by simp[hx]) 60 fun w₀ hF=>?_
  walk_nrm
  repeat w_go aj
  u_in aj hF
  refine pO rfl rfl (by k_ne) rfl Try.func48 aq4 rfl (by simp[Act.eval];rfl) ⟨by u_nil,?_⟩;refine Goes.stop (fun w₁ r₁=>⟨rfl,?_⟩);clear hF w₀;refine TT.call hP uj (by kernel_rfl) aC hx aT jE ar2 (.int _ _) (fun τ d=>(AL C X _ (by have:=he1'.un;omega) bA6.un b1'.un (by have:=b2'.un;omega)).mono fun e w' h=>h.1) fun bH G7 bF aQ=>?_
  have Ym:=G8.rely hx n1 (by omega) G7 bF;rw[Frame.finish_at];refine TT.road hP aQ (by simp[hx]) 60 fun w₀ hF=>?_
  walk_nrm
  repeat w_go aj
  u_in aj hF
  refine pO rfl rfl (by k_ne) rfl Try.func46 LG rfl (by simp[Act.eval];rfl) ⟨by u_nil,?_⟩;refine Goes.stop (fun w₁ r₁=>⟨rfl,?_⟩);clear hF w₀;refine TT.call hP uj (by kernel_rfl) aQ hx bF jE ar2 (.int _ _) (fun τ d=>(qP _ _ _).mono fun e w' h=>h.1) fun bM X8 bY aI=>?_
  have EX:=Ym.rely hx n1 (by omega) X8 bY;rw[Frame.finish_at];refine TT.road hP aI (by simp[hx]) 60 fun w₀ hF=>?_
  walk_nrm
  repeat w_go aj
  u_in aj hF
  refine pO rfl rfl (by k_ne) rfl Try.func70 ae5 rfl (by simp[Act.eval];rfl) ⟨by u_nil,?_⟩;refine Goes.stop (fun w₁ r₁=>⟨rfl,?_⟩);clear hF w₀;refine TT.call hP uj (by kernel_rfl) aI hx bY jE ar1 (.int _ _) (fun τ d=>(IE k _ (by omega) (by omega)).mono fun e w' h=>h.1) fun aV Nc dD bg=>?_
  have bg5:=EX.rely hx n1 (by omega) Nc dD;rw[Frame.finish_at];refine TT.road hP bg (by simp[hx]) 60 fun w₀ hF=>?_
  walk_nrm
  repeat w_go aj
  u_in aj hF
  refine pO rfl rfl (by k_ne) rfl Try.func37 LD rfl (by simp[Act.eval];rfl) ⟨by u_nil,?_⟩;refine Goes.stop (fun w₁ r₁=>⟨rfl,?_⟩);clear hF w₀;refine TT.call hP uj (by kernel_rfl) bg hx dD jE ar2 (.int _ _) (fun τ d=>(nT _ _ _).mono fun e w' h=>h.1) fun eH X7 dK bf=>?_
  have Yl:=bg5.rely hx n1 (by omega) X7 dK;rw[Frame.finish_at];refine TT.road hP bf (by simp[hx]) 60 fun w₀ hF=>?_
  have hj1:IntKind.wrap IntKind.i64 ((j:Int)+1)=((j+1:Nat):Int):=by rw[IntKind.wrap_i64];omega
  walk_nrm
  repeat w_nl aj
  u_c stepG_inLoop aj hF
  refine Goes.stop (fun w₁ r₁=>⟨rfl,?_⟩);clear hF w₀;exact ih (j+1) _ _ eH (by have:=hj.un;omega) P2.un.symm P1.un.symm Yl ..
omit hP in
theorem dX.room{st:St aJ}(h:dX q s st){off:Nat}(o1:6<=off)(o2:off<16):∃u,st.w.cell? ⟨s.Gb,off,none⟩=some u:=by
 obtain⟨C,h1,h2,h3,h4,h5,h6,h7,h8,h9,h10⟩:=h.gb;obtain⟨v,hv⟩:=h9 off o1 o2;exact⟨_,by simp[World.cell?,h1,hv];rfl⟩
theorem OU{cs:List Int}{gc:Nat}{cap:Nat}(hx:x.wg=.work)(n1:x.mx=.own .work)(hn9:s.nn<=9)(Dh:cs.length<=9)(hel:∀j,j<cs.length->jM (cs.getD j 0)=true)
  (hg1:s.g1=.int .i64 s.nn)(hg2:s.g2=.slice (some ⟨gc,0,none⟩) cs.length cap)(hvs:∀id:Nat,1<=id->id<=s.nn->s.vals id=pub cs id)
  (hT:∀st:St aJ,WkS q i s x gc cs (s.nn+1) st->TT (cfg q) i Ch (G (b₁.at (a₁.put ((ops₁[i₁]?).bind (·.dst)) (.tuple #[])) (.inRegion ops₁ rest₁::k₁)) cs₁) st):
  ∀(r k:Nat) (st:St aJ),k+r=s.nn+1->1<=k->WkS q i s x gc cs k st->∀(j1 j3 j4 j5 j6 j7 j8 j9 j10 j11 j12 j13 j14 j15 j16 j17 j18 j19 j20 j21 j22 j23 j24 j25 j26 j27 j28 j29 j30 j31 j32 j33 j34 j35 j36 j37 j38 j39:Value),TT (cfg q) i Ch (G ((base 93).at ⟨#[.pointer (some ⟨s.Gb,0,none⟩),j1,.int .i64 k,j3,j4,j5,j6,j7,j8,j9,j10,j11,j12,j13,j14,j15,j16,j17,j18,j19,j20,j21,j22,j23,j24,j25,j26,j27,j28,j29,j30,j31,j32,j33,j34,j35,j36,j37,j38,j39],[]⟩ [.code lK,.inLoop lK,.inBlock 0]) (b₁.at a₁ (.inRegion ops₁ (i₁::rest₁)::k₁)::cs₁)) st:=by
 intro r
 induction r with
 |zero=>
  intro k st hk hk1 hW j1 j3 j4 j5 j6 j7 j8 j9 j10 j11 j12 j13 j14 j15 j16 j17 j18 j19 j20 j21 j22 j23 j24 j25 j26 j27 j28 j29 j30 j31 j32 j33 j34 j35 j36 j37 j38 j39;obtain hke:k=s.nn+1:=by omega
  have hlt:¬(k:Int)<=(s.nn:Int):=by omega
  clear hk;replace hke:=Hd.mk hke;have hk10:k<=10:=by have:=hke.un;omega
  simp only[lK,lM,iy,Try.f93,Option.getD_some];refine TT.road hP hW.at_ (by simp[hx]) 60 fun w₀ hF=>?_
  repeat w_go aj
  refine Goes.stop (fun w₁ r₁=>⟨rfl,?_⟩);clear hF w₀;refine TT.load hP hW.at_ hx rfl rfl (by k_ne) rfl rfl (fun ah hr hi au=>⟨(hi.aZ s au.sc).p.OE i au.mem 1 (by omega),PY ((hi.aZ s au.sc).c.heads.2.1.trans (by rw[hg1]))⟩) fun ay hr₂ aT aC=>?_
  have G8:=hW.rely hx n1 hk10 hr₂ aT;rw[hke.un]at G8;refine TT.road hP aC (by simp[hx]) 60 fun w₀ hF=>?_
  walk_nrm
  repeat w_go aj
  u_leave0 Try.func93 aj hF
  exact Goes.stop (fun w₁ r₁=>⟨rfl,hT ay G8⟩)
 |succ r ih=>
  intro k st hk hk1 hW j1 j3 j4 j5 j6 j7 j8 j9 j10 j11 j12 j13 j14 j15 j16 j17 j18 j19 j20 j21 j22 j23 j24 j25 j26 j27 j28 j29 j30 j31 j32 j33 j34 j35 j36 j37 j38 j39;have hkn:k<=s.nn:=by omega
  have hlt:(k:Int)<=(s.nn:Int):=by omega
  replace hk:=Hd.mk hk;simp only[lK,lM,iy,Try.f93,Option.getD_some];refine TT.road hP hW.at_ (by simp[hx]) 60 fun w₀ hF=>?_
  repeat w_go aj
  refine Goes.stop (fun w₁ r₁=>⟨rfl,?_⟩);clear hF w₀;refine TT.load hP hW.at_ hx rfl rfl (by k_ne) rfl rfl (fun ah hr hi au=>⟨(hi.aZ s au.sc).p.OE i au.mem 1 (by omega),PY ((hi.aZ s au.sc).c.heads.2.1.trans (by rw[hg1]))⟩) fun ay hr₂ aT aC=>?_
  have G8:=hW.rely hx n1 (by omega) hr₂ aT;refine TT.road hP aC (by simp[hx]) 60 fun w₀ hF=>?_
  walk_nrm
  repeat w_go aj
  refine Goes.stop (fun w₁ r₁=>⟨rfl,?_⟩);clear hF w₀;refine TT.load hP aC hx rfl rfl (by k_ne) rfl rfl (fun ah hr hi au=>⟨(hi.aZ s au.sc).p.OE i au.mem 2 (by omega),aH2 ((hi.aZ s au.sc).c.heads.2.2.trans (by rw[hg2]))⟩) fun bH G7 bF aQ=>?_
  have Ym:=G8.rely hx n1 (by omega) G7 bF;refine TT.road hP aQ (by simp[hx]) 60 fun w₀ hF=>?_
  walk_nrm
  repeat w_but "code.loop" aj
  u_c stepG_loop aj hF
  refine Goes.stop (fun w₁ r₁=>⟨rfl,?_⟩);clear hF w₀;refine Wv hP hx n1 hk1 (by omega) Dh hel ?_ cs.length 0 1 1 bH (by omega) rfl rfl Ym ..;intro bM EX j1 j3 j5 j6 j7 j8 j9 j10 j11 j12 j13 j14 j15 j16 j17 j18 j19 j20 j21 j22 j23 j24 j25 j26 j27 j28 j29 j30 j31 j32 j33 j34 j35 j36 j37 j38 j39;simp only[Ik,OT,lK,lM,iy,sF,bi5,unB,Try.f93,Option.getD_some];have q1:(0:Int)<=(k:Int):=by omega
  have q2:(k:Int)<10:=by omega
  have q3:k<10:=by omega
  have hix:∀(w:World) (es:Array Event),(Instr.indexAt 141 (.pointer (some ⟨s.Gb,6,none⟩)) (.int .i64 (k:Int))).events Try.prog w es=es:=fun w es=>events_indexAt_array _ _ 10 _ _ _ Try.underlying141 ⟨q1,by simpa using q2⟩
  refine TT.road hP EX.at_ (by simp[hx]) 60 fun w₀ hF=>?_
  repeat w_go aj
  refine Goes.stop (fun w₁ r₁=>⟨rfl,?_⟩);clear hF w₀;refine TT.share hP EX.at_ hx n1 (off:=6+k) (by omega) (by omega) (pub cs k) fun aV Nc bg dD bI=>?_
  obtain⟨u,hu⟩:=bI.room (off:=6+k) (by omega) (by omega);have hcm:=EX.iJ.rely (EX.at_.live (by rw[hx];simp)) Nc;have hne:gc≠s.Gb:=fun e=>by
   obtain⟨_,o,ho⟩:=(dD.aZ s bg.sc).p.spec i s.Gb (.inl rfl);exact ho (by rw[<-e];exact hcm.1 o)
  refine⟨_,xZ rfl rfl (by k_ne) rfl rfl rfl (aY0 hu (bI.gb.cell.2.2.2 _)) (by kernel_rfl),rfl,fun eH bf dK ar9 ar4 hγ as3=>?_⟩;have Yl:WkS q i s x gc cs (k+1) eH:=by
   refine⟨bf,dK,⟨fun o=>by rw[hγ];exact hcm.1 o,fun j hj=>(cell_of (as3 gc hne)).trans (hcm.2 j hj)⟩,fun id i1 i2=>?_⟩;by_cases e:id=k
   ·subst e;rw[ar9,hvs id i1 (by omega)]
   ·rw[ar4 (6+id) (by omega) (by omega) (by omega)];exact EX.laid id i1 (by omega)
  have ah7:IntKind.wrap IntKind.i64 ((k:Int)+1)=((k+1:Nat):Int):=by rw[IntKind.wrap_i64];omega
  clear ar9 ar4 as3 hγ hcm hu hix;refine TT.road hP bf (by simp[hx]) 60 fun w₀ hF=>?_
  walk_nrm
  repeat w_nl aj
  u_c stepG_inLoop aj hF
  refine Goes.stop (fun w₁ r₁=>⟨rfl,?_⟩);clear hF w₀;exact ih (k+1) eH (by have:=hk.un;omega) (by omega) Yl ..
theorem ax9{cs:List Int}{gc:Nat}{cap:Nat}(hx:x.wg=.work)(hn9:s.nn<=9)(Dh:cs.length<=9)(hel:∀j,j<cs.length->jM (cs.getD j 0)=true)
  (hg1:s.g1=.int .i64 s.nn)(hg2:s.g2=.slice (some ⟨gc,0,none⟩) cs.length cap)(hvs:∀id:Nat,1<=id->id<=s.nn->s.vals id=pub cs id){C:Array Value}{e:TypeId}{fz:Nat×Nat}(hkeep:(gc,Obj.cells C e fz)∈x.keep)(hcs:∀j,j<cs.length->C[j]?=some (.int .u64 (cs.getD j 0))):BA q i Ch s x:=by
 intro b₁ a₁ ops₁ i₁ rest₁ k₁ cs₁ st hA hI hT;simp only[lM,Try.f93,Option.getD_some];refine TT.road hP hA (by simp[hx]) 60 fun w₀ hF=>?_
 repeat w_but "code.loop" aj
 u_c stepG_loop aj hF
 refine Goes.stop (fun w₁ r₁=>⟨rfl,?_⟩);clear hF w₀;refine OU hP (x:={x with mx:=.own .work,df:=0}) hx rfl hn9 Dh hel hg1 hg2 hvs (fun ay hW=>hT ay hW.at_ hW.inv fun id i1 i2=>hW.laid id i1 (by omega)) s.nn 1 st (by omega) (by omega) ⟨hA,hI,hA.iJ hkeep hcs,fun id i1 i2=>by omega⟩ ..
end
end
end Cc
end Go.Proofs.Ytpfpokjaeffbjab
