/- Part of the proof: LkItf, LkItt. -/
import Derived.Test.YtpfpokjaeffbjaaKk0
import Derived.Test.YtpfpokjaeffbjaaKk7
import Derived.Test.YtpfpokjaeffbjaaKk4
import Derived.Test.YtpfpokjaeffbjaaKk6
import Derived.Lib.Hide
import Derived.Test.YtpfpokjaeffbjaaKk5
import Derived.Conc.WgArith
set_option linter.unusedVariables false
set_option linter.unusedSimpArgs false
set_option maxRecDepth 100000
set_option maxHeartbeats 16000000
open Go.Proofs.Try renaming prog→dS
open Go.BinOp renaming and→aZ
open Go.IntKind renaming i32→aK,wrap→bH,wrap_i32→dJ,wrap_i64→cE
open Option renaming getD_some→aJ
open Go.Act renaming eval→aU
open Nat renaming lt_of_le_of_ne→cV,le_trans→aY
open Go.Extern renaming findNext→bQ,find→cW
open Go.Frame renaming enter→bO,finish_at→dI
open Go.Region renaming wanted→bg
open Go.Instr renaming loadAt→aT,storeAt→bI,alloc→dw
open Go.World renaming cell?→bM
namespace Go.Proofs.Ytpfpokjaeffbjaa
open Go renaming World→ae,Value→af,Goroutine→ah,Frame→ai,TypeId→aj,FuncId→ak,Program→au,undef→av,execOp→ax
open Go.Lib renaming hid→ay
namespace Cc
open Go.Conc Go.ConcN Go.ConcM Go.RowKit Go.Conc.Lib Go.ConcR.Gen
open Go.ConcR (KK wgBlock WgAt stA smA rd wr mk DC0)
section
section
variable{q:iK}(hP:q.P=dS){i:Nat}{s:eI}{x:Wk}{Ch:Nat->ah->St eD->Prop}
variable{b₁:ai}{a₁:Act}{eA:Array Oper}{fH:Nat}{ey:List Nat}{k₁:List Item}{cs₁:List ai}
include hP
theorem Yf(hx:x.wg=.work)(hT:KT q i Ch s x b₁ a₁ eA fH ey k₁ cs₁){μ pr:Nat}(ih:∀nk,nk<μ->RX q i Ch s x b₁ a₁ eA fH ey k₁ cs₁ nk){it nT:Int}{st:St eD}(h0:0<=it)(h4':it<=4){N:Nat}(hμ:5*pr+(4-it).toNat=μ)(hA:At s i {x with mx:=.cont true,df:=1} st)(hR:Rd s st pr 1 1 0 N):
  Hi q i Ch s b₁ a₁ eA fH ey k₁ cs₁ true false it nT (enc 1 1 0 N) st:=by
 have h5:bits aZ aK (enc 1 1 0 N) 5=1:=uK 1 1 0 N (by omega) (by first|omega|exact hR.w1) (by omega) (by have:=hR.n9;omega);have h4:bits aZ aK (enc 1 1 0 N) 4=0:=mB 1 1 0 N (by omega) (by first|omega|exact hR.w1) (by omega) (by have:=hR.n9;omega);have o1:bits BinOp.or aK (enc 1 1 0 N) 1=(enc 1 1 0 N):=Fq 1 1 0 N (by omega) (by first|omega|exact hR.w1) (by omega) (by have:=hR.n9;omega);have o8:bH aK (enc 1 1 0 N+8)=enc 1 1 0 (N+1):=Dg 1 1 0 N (by omega) (by first|omega|exact hR.w1) (by omega) (by have:=hR.n9;omega);have h2:bits aZ aK (enc 1 1 0 (N+1)) 2=2:=zn 1 1 0 (N+1) (by omega) (by first|omega|exact hR.w1) (by omega) (by have:=hR.n9;omega);have n2:bits BinOp.andNot aK (enc 1 1 0 (N+1)) 2=enc 1 0 0 (N+1):=GW 1 1 0 (N+1) (by omega) (by first|omega|exact hR.w1) (by omega) (by have:=hR.n9;omega);have hlt:it<4->bH IntKind.i64 (it+1)=it+1:=fun h=>by unfold bH;simp[IntKind.bits,IntKind.signed]<;>omega
 intro j1 j7 j8 j9 j10 j11 j12 j13 tA tz tv tq vt pz pq tj s7 sZ sY sX sW sV sU sS sQ sP sO sN sM sL sK sJ sI sH y8 y7 yZ Bj Bi Bh Bg Bf Be Bc Bb Ba A9 A8 A6 AZ AY AX AW AV AU AQ AP AO AL AK AJ AH AG AE AB AA Az vq vp vo vk vh ve vd Ay Aw Av Au Ej Ei Eh Eg Ef Ee Ed Ec Eb Ea D9 D8 D7 D6 D5 DZ qI qH qG qF qE qD qC qB qA qz qy qx qw qu qp qo qm ql qj qi qh qg qf qd qc qb p9 pZ pY pX pW pV pU pT pS pR pQ pP pO;simp only[gX,gV,il,iN,mW,Try.f133,aJ];refine TT.road hP hA (by simp[hx]) 140 fun w₀ hF=>?_;repeat w_go dW
 refine stp rfl ?_;clear hF w₀;by_cases h4i:it<4
 ·have hw:=hlt h4i;clear hlt;refine TT.lG hP hA hx (mx:=.cont true) rfl (by simp) fun fx eJ fw eV=>⟨_,_,_,1,stepG_canSpin_ask rfl rfl (by k_ne) rfl Try.func139 yS zr yE zj (k:=.i64) (n:=it) (by simp[aU]) h4i,rfl,rfl,rfl,eW.asked _,gy,fun fJ eF fN _ _ jy _=>?_⟩;generalize fx.w.spins=sp;clear eV eJ fw hA;cases sp
  ·have hR:=hR.later jy.1 jy.2;have hA:At s i {x with mx:=.cont true,df:=1} fJ:=eF;clear eF;refine TT.road hP hA (by simp[hx]) 140 fun w₀ hF=>?_;walk_nrm;repeat w_go dW
   refine stp rfl ?_;clear hF w₀;refine TT.mu hP hA hx (mx:=.cont true) rfl (by simp) fun dV dX eO ek p1 p2 p3 p4=>?_;have fE:=hR.later p1 p2;by_cases hit:enc dV.γ.L dV.γ.W dV.γ.S dV.γ.N=enc 1 1 0 N
   ·obtain⟨e1,e2,e3,e4⟩:=jY hit ek.mu.bd ⟨by omega,by first|omega|exact hR.w1,by omega⟩;refine⟨_,_,_,.iF,1,dV.γ.L,dV.γ.W-Bool.toNat true,dV.γ.S,dV.γ.N+1,dV.γ.tn,dV.γ.th,stepG_cas_hit rfl rfl (by k_ne) rfl Try.func132 ju jw js .i32 jv rfl rfl rfl (hit ▸ ek.gb.cell.2.1) (ek.gb.cell.2.2.2 4),rfl,kQ _ _,by simp,by simp,ek.mu.queue dX.lo (dX.hi eO) true (fY dX) (.inl e1),ek.gb.swap rfl (by rw[e1,e2,e3,e4];rfl),eW.set _ 4 _ (by omega),.inl (by simp[kF]),.inl (by omega),jq 4 (.inl rfl),.inr nle,fun dY eo eN _ _ _ f₂=>?_⟩;have ot:phi dY.γ s<pr:=by have:=fE.le;simp only[kF]at f₂;omega
    clear hit fE ek dX eO;refine TT.road hP eo (by simp[hx]) 60 fun w₀ hF=>?_;walk_nrm;w_but "code.seq" dW
    w_but "code.seq" dW
    w_go dW
    w_go dW
    repeat w_but "code.seq" dW
    refine stp rfl ?_;exact oW hP hx hT (fun nk h=>ih nk (by omega)) eo eN ot ..
   ·refine⟨_,_,_,.cont true,1,dV.γ.L,dV.γ.W,dV.γ.S,dV.γ.N,dV.γ.tn,dV.γ.th,stepG_cas_miss rfl rfl (by k_ne) rfl Try.func132 ju jw js .i32 jv rfl rfl rfl ek.gb.cell.2.1 (ek.gb.cell.2.2.2 4) hit,rfl,uN _ _,by simp,by simp,jJ.still ek dX rfl,ek.gb.stay rfl rfl,eW.refl _,.inr ⟨rfl,rfl,rfl,rfl,rfl⟩,.inl nle,oH 4 (by omega),.inr nle,fun dY eo eN _ w₂ _ f₂=>?_⟩;have hlt:phi dY.γ s<pr:=by
     refine cV (by have:=fE.le;omega) fun e=>hit ?_;obtain⟨a,b,c,d⟩:=fE.eq (by omega);rw[a,b,c,d]
    clear hit fE ek dX eO;refine TT.road hP eo (by simp[hx]) 60 fun w₀ hF=>?_;walk_nrm;repeat w_go dW
    refine stp rfl ?_;clear hF w₀;refine TT.lG hP eo hx (mx:=.cont true) rfl (by simp) fun fx eJ fw eV=>⟨_,_,_,1,fF rfl rfl (by k_ne) rfl rfl eV.gb.cell.2.1 jm,rfl,rfl,rfl,eW.refl _,gy,fun fJ eF fN _ w₄ jy _=>?_⟩;have iQ:=Rd.now (fN.eZ s eF.sc).c;rw[w₄.1,w₄.2.1,w₄.2.2.1,w₄.2.2.2]at iQ;refine TT.road hP eF (by simp[hx]) 60 fun w₀ hF=>?_;walk_nrm;repeat w_nl dW
    u_c stepG_inLoop dW hF
    refine stp rfl ?_;have zP:=eV.mu.G8 eJ.lo (eJ.hi fw) (fY eJ);exact ih _ (by omega) _ it true false nT _ _ _ _ fJ rfl h0 h4' eF fN iQ (fun _=>⟨zP.1,zP.2.1⟩) (by simp) ..
  ·have hle:phi fJ.γ s<=pr:=(hR.later jy.1 jy.2).le;refine TT.road hP eF (by simp[hx]) 80 fun w₀ hF=>?_;walk_nrm;repeat w_go dW
   u_in dW hF
   rw[stepG_entry_pure (.tuple #[]) rfl rfl (by k_ne) rfl Try.func140 Qt Rm PI QU];simp only[goes_go];refine⟨by u_nil,?_⟩;walk_nrm;repeat w_go dW
   refine stp rfl ?_;clear hF w₀;refine TT.lG hP eF hx (mx:=.cont true) rfl (by simp) fun eT fh gB fD=>⟨_,_,_,1,fF rfl rfl (by k_ne) rfl rfl fD.gb.cell.2.1 jm,rfl,rfl,rfl,eW.refl _,gy,fun gN eY gu _ w₆ wM _=>?_⟩;have jh:=Rd.now (gu.eZ s eY.sc).c;rw[w₆.1,w₆.2.1,w₆.2.2.1,w₆.2.2.2]at jh;refine TT.road hP eY (by simp[hx]) 60 fun w₀ hF=>?_;walk_nrm;repeat w_nl dW
   u_c stepG_inLoop dW hF
   refine stp rfl ?_;have zP:=fD.mu.G8 fh.lo (fh.hi gB) (fY fh);exact ih _ (by omega) _ (it+1) true false nT _ _ _ _ gN rfl (by omega) (by omega) eY gu jh (fun _=>⟨zP.1,zP.2.1⟩) (by simp) ..
 ·clear hlt;refine TT.lG hP hA hx (mx:=.cont true) rfl (by simp) fun fx eJ fw eV=>⟨_,_,_,1,stepG_canSpin_no rfl rfl (by k_ne) rfl Try.func139 yS zr yE zj (k:=.i64) (n:=it) (by simp[aU]) (by omega),rfl,rfl,rfl,eW.refl _,gy,fun fJ eF fN _ _ jy _=>?_⟩;clear eV eJ fw hA;have hR:=hR.later jy.1 jy.2;have hA:At s i {x with mx:=.cont true,df:=1} fJ:=eF;clear eF;refine TT.road hP hA (by simp[hx]) 140 fun w₀ hF=>?_;walk_nrm;repeat w_go dW
  refine stp rfl ?_;clear hF w₀;refine TT.mu hP hA hx (mx:=.cont true) rfl (by simp) fun dV dX eO ek p1 p2 p3 p4=>?_;have fE:=hR.later p1 p2;by_cases hit:enc dV.γ.L dV.γ.W dV.γ.S dV.γ.N=enc 1 1 0 N
  ·obtain⟨e1,e2,e3,e4⟩:=jY hit ek.mu.bd ⟨by omega,by first|omega|exact hR.w1,by omega⟩;refine⟨_,_,_,.iF,1,dV.γ.L,dV.γ.W-Bool.toNat true,dV.γ.S,dV.γ.N+1,dV.γ.tn,dV.γ.th,stepG_cas_hit rfl rfl (by k_ne) rfl Try.func132 ju jw js .i32 jv rfl rfl rfl (hit ▸ ek.gb.cell.2.1) (ek.gb.cell.2.2.2 4),rfl,kQ _ _,by simp,by simp,ek.mu.queue dX.lo (dX.hi eO) true (fY dX) (.inl e1),ek.gb.swap rfl (by rw[e1,e2,e3,e4];rfl),eW.set _ 4 _ (by omega),.inl (by simp[kF]),.inl (by omega),jq 4 (.inl rfl),.inr nle,fun dY eo eN _ _ _ f₂=>?_⟩;have ot:phi dY.γ s<pr:=by have:=fE.le;simp only[kF]at f₂;omega
   clear hit fE ek dX eO;refine TT.road hP eo (by simp[hx]) 60 fun w₀ hF=>?_;walk_nrm;w_but "code.seq" dW
   w_but "code.seq" dW
   w_go dW
   w_go dW
   repeat w_but "code.seq" dW
   refine stp rfl ?_;exact oW hP hx hT (fun nk h=>ih nk (by omega)) eo eN ot ..
  ·refine⟨_,_,_,.cont true,1,dV.γ.L,dV.γ.W,dV.γ.S,dV.γ.N,dV.γ.tn,dV.γ.th,stepG_cas_miss rfl rfl (by k_ne) rfl Try.func132 ju jw js .i32 jv rfl rfl rfl ek.gb.cell.2.1 (ek.gb.cell.2.2.2 4) hit,rfl,uN _ _,by simp,by simp,jJ.still ek dX rfl,ek.gb.stay rfl rfl,eW.refl _,.inr ⟨rfl,rfl,rfl,rfl,rfl⟩,.inl nle,oH 4 (by omega),.inr nle,fun dY eo eN _ w₂ _ f₂=>?_⟩;have hlt:phi dY.γ s<pr:=by
    refine cV (by have:=fE.le;omega) fun e=>hit ?_;obtain⟨a,b,c,d⟩:=fE.eq (by omega);rw[a,b,c,d]
   clear hit fE ek dX eO;refine TT.road hP eo (by simp[hx]) 60 fun w₀ hF=>?_;walk_nrm;repeat w_go dW
   refine stp rfl ?_;clear hF w₀;refine TT.lG hP eo hx (mx:=.cont true) rfl (by simp) fun fx eJ fw eV=>⟨_,_,_,1,fF rfl rfl (by k_ne) rfl rfl eV.gb.cell.2.1 jm,rfl,rfl,rfl,eW.refl _,gy,fun fJ eF fN _ w₄ jy _=>?_⟩;have iQ:=Rd.now (fN.eZ s eF.sc).c;rw[w₄.1,w₄.2.1,w₄.2.2.1,w₄.2.2.2]at iQ;refine TT.road hP eF (by simp[hx]) 60 fun w₀ hF=>?_;walk_nrm;repeat w_nl dW
   u_c stepG_inLoop dW hF
   refine stp rfl ?_;have zP:=eV.mu.G8 eJ.lo (eJ.hi fw) (fY eJ);exact ih _ (by omega) _ it true false nT _ _ _ _ fJ rfl h0 h4' eF fN iQ (fun _=>⟨zP.1,zP.2.1⟩) (by simp) ..
end
end
section
section
variable{q:iK}(hP:q.P=dS){i:Nat}{s:eI}{x:Wk}{Ch:Nat->ah->St eD->Prop}
variable{b₁:ai}{a₁:Act}{eA:Array Oper}{fH:Nat}{ey:List Nat}{k₁:List Item}{cs₁:List ai}
include hP
theorem Ye(hx:x.wg=.work)(hT:KT q i Ch s x b₁ a₁ eA fH ey k₁ cs₁){μ pr:Nat}(ih:∀nk,nk<μ->RX q i Ch s x b₁ a₁ eA fH ey k₁ cs₁ nk){it nT:Int}{st:St eD}(h0:0<=it)(h4':it<=4){N:Nat}(hμ:5*pr+(4-it).toNat=μ)(hA:At s i {x with mx:=.cont true,df:=1} st)(hR:Rd s st pr 1 1 0 N):
  Hi q i Ch s b₁ a₁ eA fH ey k₁ cs₁ true true it nT (enc 1 1 0 N) st:=by
 have h5:bits aZ aK (enc 1 1 0 N) 5=1:=uK 1 1 0 N (by omega) (by first|omega|exact hR.w1) (by omega) (by have:=hR.n9;omega);have h4:bits aZ aK (enc 1 1 0 N) 4=0:=mB 1 1 0 N (by omega) (by first|omega|exact hR.w1) (by omega) (by have:=hR.n9;omega);have o1:bits BinOp.or aK (enc 1 1 0 N) 1=(enc 1 1 0 N):=Fq 1 1 0 N (by omega) (by first|omega|exact hR.w1) (by omega) (by have:=hR.n9;omega);have o8:bH aK (enc 1 1 0 N+8)=enc 1 1 0 (N+1):=Dg 1 1 0 N (by omega) (by first|omega|exact hR.w1) (by omega) (by have:=hR.n9;omega);have h1:bits aZ aK (enc 1 1 0 N) 1=1:=Df 1 1 0 N (by omega) (by first|omega|exact hR.w1) (by omega) (by have:=hR.n9;omega);have o4:bits BinOp.or aK (enc 1 1 0 (N+1)) 4=enc 1 1 1 (N+1):=a84 1 1 0 (N+1) (by omega) (by first|omega|exact hR.w1) (by omega) (by have:=hR.n9;omega);have h2:bits aZ aK (enc 1 1 1 (N+1)) 2=2:=zn 1 1 1 (N+1) (by omega) (by first|omega|exact hR.w1) (by omega) (by have:=hR.n9;omega);have n2:bits BinOp.andNot aK (enc 1 1 1 (N+1)) 2=enc 1 0 1 (N+1):=GW 1 1 1 (N+1) (by omega) (by first|omega|exact hR.w1) (by omega) (by have:=hR.n9;omega);have hlt:it<4->bH IntKind.i64 (it+1)=it+1:=fun h=>by unfold bH;simp[IntKind.bits,IntKind.signed]<;>omega
 intro j1 j7 j8 j9 j10 j11 j12 j13 tA tz tv tq vt pz pq tj s7 sZ sY sX sW sV sU sS sQ sP sO sN sM sL sK sJ sI sH y8 y7 yZ Bj Bi Bh Bg Bf Be Bc Bb Ba A9 A8 A6 AZ AY AX AW AV AU AQ AP AO AL AK AJ AH AG AE AB AA Az vq vp vo vk vh ve vd Ay Aw Av Au Ej Ei Eh Eg Ef Ee Ed Ec Eb Ea D9 D8 D7 D6 D5 DZ qI qH qG qF qE qD qC qB qA qz qy qx qw qu qp qo qm ql qj qi qh qg qf qd qc qb p9 pZ pY pX pW pV pU pT pS pR pQ pP pO;simp only[gX,gV,il,iN,mW,Try.f133,aJ];refine TT.road hP hA (by simp[hx]) 140 fun w₀ hF=>?_;repeat w_go dW
 refine stp rfl ?_;clear hF w₀;by_cases h4i:it<4
 ·have hw:=hlt h4i;clear hlt;refine TT.lG hP hA hx (mx:=.cont true) rfl (by simp) fun fx eJ fw eV=>⟨_,_,_,1,stepG_canSpin_ask rfl rfl (by k_ne) rfl Try.func139 yS zr yE zj (k:=.i64) (n:=it) (by simp[aU]) h4i,rfl,rfl,rfl,eW.asked _,gy,fun fJ eF fN _ _ jy _=>?_⟩;generalize fx.w.spins=sp;clear eV eJ fw hA;cases sp
  ·have hR:=hR.later jy.1 jy.2;have hA:At s i {x with mx:=.cont true,df:=1} fJ:=eF;clear eF;refine TT.road hP hA (by simp[hx]) 140 fun w₀ hF=>?_;walk_nrm;repeat w_go dW
   refine stp rfl ?_;clear hF w₀;refine TT.mu hP hA hx (mx:=.cont true) rfl (by simp) fun dV dX eO ek p1 p2 p3 p4=>?_;have fE:=hR.later p1 p2;by_cases hit:enc dV.γ.L dV.γ.W dV.γ.S dV.γ.N=enc 1 1 0 N
   ·obtain⟨e1,e2,e3,e4⟩:=jY hit ek.mu.bd ⟨by omega,by first|omega|exact hR.w1,by omega⟩;refine⟨_,_,_,.iF,1,dV.γ.L,dV.γ.W-1,1,dV.γ.N+1,dV.γ.tn,dV.γ.th,stepG_cas_hit rfl rfl (by k_ne) rfl Try.func132 ju jw js .i32 jv rfl rfl rfl (hit ▸ ek.gb.cell.2.1) (ek.gb.cell.2.2.2 4),rfl,kQ _ _,by simp,by simp,ek.mu.Sm dX.lo (dX.hi eO) (fY dX) e1,ek.gb.swap rfl (by simp[e1,e2,e4]),eW.set _ 4 _ (by omega),.inl (by simp[kF]),.inl (by omega),jq 4 (.inl rfl),.inr nle,fun dY eo eN _ _ _ f₂=>?_⟩;have ot:phi dY.γ s<pr:=by have:=fE.le;simp only[kF]at f₂;omega
    clear hit fE ek dX eO;refine TT.road hP eo (by simp[hx]) 60 fun w₀ hF=>?_;walk_nrm;w_but "code.seq" dW
    w_but "code.seq" dW
    w_go dW
    w_go dW
    repeat w_but "code.seq" dW
    refine stp rfl ?_;exact oW hP hx hT (fun nk h=>ih nk (by omega)) eo eN ot ..
   ·refine⟨_,_,_,.cont true,1,dV.γ.L,dV.γ.W,dV.γ.S,dV.γ.N,dV.γ.tn,dV.γ.th,stepG_cas_miss rfl rfl (by k_ne) rfl Try.func132 ju jw js .i32 jv rfl rfl rfl ek.gb.cell.2.1 (ek.gb.cell.2.2.2 4) hit,rfl,uN _ _,by simp,by simp,jJ.still ek dX rfl,ek.gb.stay rfl rfl,eW.refl _,.inr ⟨rfl,rfl,rfl,rfl,rfl⟩,.inl nle,oH 4 (by omega),.inr nle,fun dY eo eN _ w₂ _ f₂=>?_⟩;have hlt:phi dY.γ s<pr:=by
     refine cV (by have:=fE.le;omega) fun e=>hit ?_;obtain⟨a,b,c,d⟩:=fE.eq (by omega);rw[a,b,c,d]
    clear hit fE ek dX eO;refine TT.road hP eo (by simp[hx]) 60 fun w₀ hF=>?_;walk_nrm;repeat w_go dW
    refine stp rfl ?_;clear hF w₀;refine TT.lG hP eo hx (mx:=.cont true) rfl (by simp) fun fx eJ fw eV=>⟨_,_,_,1,fF rfl rfl (by k_ne) rfl rfl eV.gb.cell.2.1 jm,rfl,rfl,rfl,eW.refl _,gy,fun fJ eF fN _ w₄ jy _=>?_⟩;have iQ:=Rd.now (fN.eZ s eF.sc).c;rw[w₄.1,w₄.2.1,w₄.2.2.1,w₄.2.2.2]at iQ;refine TT.road hP eF (by simp[hx]) 60 fun w₀ hF=>?_;walk_nrm;repeat w_nl dW
    u_c stepG_inLoop dW hF
    refine stp rfl ?_;have zP:=eV.mu.G8 eJ.lo (eJ.hi fw) (fY eJ);exact ih _ (by omega) _ it true true nT _ _ _ _ fJ rfl h0 h4' eF fN iQ (fun _=>⟨zP.1,zP.2.1⟩) (by simp) ..
  ·have hle:phi fJ.γ s<=pr:=(hR.later jy.1 jy.2).le;refine TT.road hP eF (by simp[hx]) 80 fun w₀ hF=>?_;walk_nrm;repeat w_go dW
   u_in dW hF
   rw[stepG_entry_pure (.tuple #[]) rfl rfl (by k_ne) rfl Try.func140 Qt Rm PI QU];simp only[goes_go];refine⟨by u_nil,?_⟩;walk_nrm;repeat w_go dW
   refine stp rfl ?_;clear hF w₀;refine TT.lG hP eF hx (mx:=.cont true) rfl (by simp) fun eT fh gB fD=>⟨_,_,_,1,fF rfl rfl (by k_ne) rfl rfl fD.gb.cell.2.1 jm,rfl,rfl,rfl,eW.refl _,gy,fun gN eY gu _ w₆ wM _=>?_⟩;have jh:=Rd.now (gu.eZ s eY.sc).c;rw[w₆.1,w₆.2.1,w₆.2.2.1,w₆.2.2.2]at jh;refine TT.road hP eY (by simp[hx]) 60 fun w₀ hF=>?_;walk_nrm;repeat w_nl dW
   u_c stepG_inLoop dW hF
   refine stp rfl ?_;have zP:=fD.mu.G8 fh.lo (fh.hi gB) (fY fh);exact ih _ (by omega) _ (it+1) true true nT _ _ _ _ gN rfl (by omega) (by omega) eY gu jh (fun _=>⟨zP.1,zP.2.1⟩) (by simp) ..
 ·clear hlt;refine TT.lG hP hA hx (mx:=.cont true) rfl (by simp) fun fx eJ fw eV=>⟨_,_,_,1,stepG_canSpin_no rfl rfl (by k_ne) rfl Try.func139 yS zr yE zj (k:=.i64) (n:=it) (by simp[aU]) (by omega),rfl,rfl,rfl,eW.refl _,gy,fun fJ eF fN _ _ jy _=>?_⟩;clear eV eJ fw hA;have hR:=hR.later jy.1 jy.2;have hA:At s i {x with mx:=.cont true,df:=1} fJ:=eF;clear eF;refine TT.road hP hA (by simp[hx]) 140 fun w₀ hF=>?_;walk_nrm;repeat w_go dW
  refine stp rfl ?_;clear hF w₀;refine TT.mu hP hA hx (mx:=.cont true) rfl (by simp) fun dV dX eO ek p1 p2 p3 p4=>?_;have fE:=hR.later p1 p2;by_cases hit:enc dV.γ.L dV.γ.W dV.γ.S dV.γ.N=enc 1 1 0 N
  ·obtain⟨e1,e2,e3,e4⟩:=jY hit ek.mu.bd ⟨by omega,by first|omega|exact hR.w1,by omega⟩;refine⟨_,_,_,.iF,1,dV.γ.L,dV.γ.W-1,1,dV.γ.N+1,dV.γ.tn,dV.γ.th,stepG_cas_hit rfl rfl (by k_ne) rfl Try.func132 ju jw js .i32 jv rfl rfl rfl (hit ▸ ek.gb.cell.2.1) (ek.gb.cell.2.2.2 4),rfl,kQ _ _,by simp,by simp,ek.mu.Sm dX.lo (dX.hi eO) (fY dX) e1,ek.gb.swap rfl (by simp[e1,e2,e4]),eW.set _ 4 _ (by omega),.inl (by simp[kF]),.inl (by omega),jq 4 (.inl rfl),.inr nle,fun dY eo eN _ _ _ f₂=>?_⟩;have ot:phi dY.γ s<pr:=by have:=fE.le;simp only[kF]at f₂;omega
   clear hit fE ek dX eO;refine TT.road hP eo (by simp[hx]) 60 fun w₀ hF=>?_;walk_nrm;w_but "code.seq" dW
   w_but "code.seq" dW
   w_go dW
   w_go dW
   repeat w_but "code.seq" dW
   refine stp rfl ?_;exact oW hP hx hT (fun nk h=>ih nk (by omega)) eo eN ot ..
  ·refine⟨_,_,_,.cont true,1,dV.γ.L,dV.γ.W,dV.γ.S,dV.γ.N,dV.γ.tn,dV.γ.th,stepG_cas_miss rfl rfl (by k_ne) rfl Try.func132 ju jw js .i32 jv rfl rfl rfl ek.gb.cell.2.1 (ek.gb.cell.2.2.2 4) hit,rfl,uN _ _,by simp,by simp,jJ.still ek dX rfl,ek.gb.stay rfl rfl,eW.refl _,.inr ⟨rfl,rfl,rfl,rfl,rfl⟩,.inl nle,oH 4 (by omega),.inr nle,fun dY eo eN _ w₂ _ f₂=>?_⟩;have hlt:phi dY.γ s<pr:=by
    refine cV (by have:=fE.le;omega) fun e=>hit ?_;obtain⟨a,b,c,d⟩:=fE.eq (by omega);rw[a,b,c,d]
   clear hit fE ek dX eO;refine TT.road hP eo (by simp[hx]) 60 fun w₀ hF=>?_;walk_nrm;repeat w_go dW
   refine stp rfl ?_;clear hF w₀;refine TT.lG hP eo hx (mx:=.cont true) rfl (by simp) fun fx eJ fw eV=>⟨_,_,_,1,fF rfl rfl (by k_ne) rfl rfl eV.gb.cell.2.1 jm,rfl,rfl,rfl,eW.refl _,gy,fun fJ eF fN _ w₄ jy _=>?_⟩;have iQ:=Rd.now (fN.eZ s eF.sc).c;rw[w₄.1,w₄.2.1,w₄.2.2.1,w₄.2.2.2]at iQ;refine TT.road hP eF (by simp[hx]) 60 fun w₀ hF=>?_;walk_nrm;repeat w_nl dW
   u_c stepG_inLoop dW hF
   refine stp rfl ?_;have zP:=eV.mu.G8 eJ.lo (eJ.hi fw) (fY eJ);exact ih _ (by omega) _ it true true nT _ _ _ _ fJ rfl h0 h4' eF fN iQ (fun _=>⟨zP.1,zP.2.1⟩) (by simp) ..
end
end
end Cc
end Go.Proofs.Ytpfpokjaeffbjaa
