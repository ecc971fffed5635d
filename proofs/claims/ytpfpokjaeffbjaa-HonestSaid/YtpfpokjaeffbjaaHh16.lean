/- Part of the proof: LkG, LkIff. -/
import Derived.Test.YtpfpokjaeffbjaaHh0
import Derived.Test.YtpfpokjaeffbjaaHh7
import Derived.Test.YtpfpokjaeffbjaaHh4
import Derived.Test.YtpfpokjaeffbjaaHh6
import Derived.Lib.Hide
set_option linter.unusedVariables false
set_option linter.unusedSimpArgs false
set_option maxRecDepth 100000
set_option maxHeartbeats 16000000
open Go.Proofs.Try renaming prog→dS
open Go.BinOp renaming and→aZ
open Go.IntKind renaming i32→aK,wrap→bI,wrap_i32→dJ,wrap_i64→cG
open Option renaming getD_some→aJ
open Nat renaming lt_of_le_of_ne→cV
open Go.Act renaming eval→aU
open Go.Frame renaming enter→bQ,finish_at→dI
open Go.Region renaming wanted→bg
open Go.Instr renaming loadAt→aT,storeAt→bJ
namespace Go.Proofs.Ytpfpokjaeffbjaa
open Go renaming World→ae,Value→af,Goroutine→ah,Frame→ai,TypeId→aj,FuncId→ak,Program→au,undef→av,execOp→ax
open Go.Lib renaming hid→ay
namespace Cc
open Go.Conc Go.ConcN Go.ConcM Go.RowKit Go.Conc.Lib Go.ConcR.Gen
open Go.ConcR (KK wgBlock WgAt stA smA rd wr mk DC0)
section
section
variable{q:iU}(hP:q.P=dS){i:Nat}{s:eJ}{x:Wk}{Ch:Nat->ah->St eH->Prop}
variable{b₁:ai}{a₁:Act}{eB:Array Oper}{fE:Nat}{ez:List Nat}{k₁:List Item}{cs₁:List ai}
include hP
theorem JY(hx:x.wg=.work)(hT:KG q i Ch s x b₁ a₁ eB fE ez k₁ cs₁){μ pr:Nat}(ih:∀nA,nA<μ->Rh q i Ch s x b₁ a₁ eB fE ez k₁ cs₁ nA){it nW:Int}{st:St eH}(h0:0<=it)(h4':it<=4){N:Nat}(hμ:5*pr+(4-it).toNat=μ)(hA:At s i {x with mx:=.cont true,df:=1} st)(hR:Rd s st pr 0 1 0 N):
  Hi q i Ch s b₁ a₁ eB fE ez k₁ cs₁ true false it nW (enc 0 1 0 N) st:=by
 have h5:bits aZ aK (enc 0 1 0 N) 5=0:=uU 0 1 0 N (by omega) (by first|omega|exact hR.w1) (by omega) (by have:=hR.n9;omega);have h4:bits aZ aK (enc 0 1 0 N) 4=0:=mJ 0 1 0 N (by omega) (by first|omega|exact hR.w1) (by omega) (by have:=hR.n9;omega);have h1:bits aZ aK (enc 0 1 0 N) 1=0:=Dn 0 1 0 N (by omega) (by first|omega|exact hR.w1) (by omega) (by have:=hR.n9;omega);have o1:bits BinOp.or aK (enc 0 1 0 N) 1=enc 1 1 0 N:=Fl 0 1 0 N (by omega) (by first|omega|exact hR.w1) (by omega) (by have:=hR.n9;omega);have h2:bits aZ aK (enc 1 1 0 N) 2=2:=zx 1 1 0 N (by omega) (by first|omega|exact hR.w1) (by omega) (by have:=hR.n9;omega);have n2:bits BinOp.andNot aK (enc 1 1 0 N) 2=enc 1 0 0 N:=GX 1 1 0 N (by omega) (by first|omega|exact hR.w1) (by omega) (by have:=hR.n9;omega);intro j1 j7 j8 j9 j10 j11 j12 j13 tI tH tF tE vA pE pD tD tC tB tA tz tv tq tj s7 sZ sY sX sW sV sU sS sQ sP sO zg zf ze Bx Bv Bu Bt Br Bq Bp Bo Bn Bl Bj Bi Bh Bg Bf Be Bc Bb Ba A9 A8 A7 A6 A0 AZ AY AX AW AV AU vz vw vv vt vq vp vo AQ AP AO AL Eo En Em El Ek Ej Ei Eh Eg Ef Ee Ed Ec Eb Ea D9 qJ qI qH qG qF qE qD qC qB qA qz qy qx qw qu qp qo qm ql qj qi qh qg qf qd qc qb p9 pZ pY pX pW pV pU pT pS pR pQ pP;simp only[ia,gY,iz,iX,mZ,Try.f133,aJ];refine TT.road hP hA (by simp[hx]) 140 fun w₀ hF=>?_;repeat w_go dW
 refine stp rfl ?_;clear hF w₀;refine TT.mu hP hA hx (mx:=.cont true) rfl (by simp) fun dV dY eQ eo p1 p2 p3 p4=>?_;have fB:=hR.later p1 p2;by_cases hit:enc dV.γ.L dV.γ.W dV.γ.S dV.γ.N=enc 0 1 0 N
 ·obtain⟨e1,e2,e3,e4⟩:=kE hit eo.mu.bd ⟨by omega,by first|omega|exact hR.w1,by omega⟩;refine⟨_,_,_,.own .xC,1,1,dV.γ.W-Bool.toNat true,dV.γ.S,dV.γ.N,dV.γ.tn,dV.γ.th,stepG_cas_hit rfl rfl (by k_ne) rfl Try.func132 jD jF jC .i32 jE rfl rfl rfl (hit ▸ eo.gb.cell.2.1) (eo.gb.cell.2.2.2 4),rfl,lq _ _,by simp,by simp,eo.mu.take dY.lo (dY.hi eQ) true (fX dY) ⟨e1,e3⟩,eo.gb.swap rfl (by rw[e2,e3,e4];rfl),eW.set _ 4 _ (by omega),.inl (by simp[kP]),.inl nle,jB 4 (.inl rfl),.inr nle,fun dZ eu eN _ _ _ _=>?_⟩;clear hit fB eo dY eQ;refine TT.road hP eu (by simp[hx]) 60 fun w₀ hF=>?_;walk_nrm;repeat w_but "code.exit" dW
  w_go dW
  refine stp rfl ?_;exact ot hP hx hT eu ..
 ·refine⟨_,_,_,.cont true,1,dV.γ.L,dV.γ.W,dV.γ.S,dV.γ.N,dV.γ.tn,dV.γ.th,stepG_cas_miss rfl rfl (by k_ne) rfl Try.func132 jD jF jC .i32 jE rfl rfl rfl eo.gb.cell.2.1 (eo.gb.cell.2.2.2 4) hit,rfl,uV _ _,by simp,by simp,jS.still eo dY rfl,eo.gb.stay rfl rfl,eW.refl _,.inr ⟨rfl,rfl,rfl,rfl,rfl⟩,.inl nle,oJ 4 (by omega),.inr nle,fun dZ eu eN _ w₂ _ f₂=>?_⟩;have hlt:phi dZ.γ s<pr:=by
   refine cV (by have:=fB.le;omega) fun e=>hit ?_;obtain⟨a,b,c,d⟩:=fB.eq (by omega);rw[a,b,c,d]
  clear hit fB eo dY eQ;refine TT.road hP eu (by simp[hx]) 60 fun w₀ hF=>?_;walk_nrm;repeat w_go dW
  refine stp rfl ?_;clear hF w₀;refine TT.lR hP eu hx (mx:=.cont true) rfl (by simp) fun fw eK fu eV=>⟨_,_,_,1,fD rfl rfl (by k_ne) rfl rfl eV.gb.cell.2.1 jz,rfl,rfl,rfl,eW.refl _,gj,fun fI eF fO _ w₄ jH _=>?_⟩;have jd:=Rd.now (fO.eX s eF.sc).c;rw[w₄.1,w₄.2.1,w₄.2.2.1,w₄.2.2.2]at jd;refine TT.road hP eF (by simp[hx]) 60 fun w₀ hF=>?_;walk_nrm;repeat w_nl dW
  u_c stepG_inLoop dW hF
  refine stp rfl ?_;have zU:=eV.mu.G7 eK.lo (eK.hi fu) (fX eK);exact ih _ (by omega) _ it true false nW _ _ _ _ fI rfl h0 h4' eF fO jd (fun _=>⟨zU.1,zU.2.1⟩) (by simp) ..
theorem L1(hx:x.wg=.work)(hT:KG q i Ch s x b₁ a₁ eB fE ez k₁ cs₁){μ pr:Nat}(ih:∀nA,nA<μ->Rh q i Ch s x b₁ a₁ eB fE ez k₁ cs₁ nA){it nW:Int}{st:St eH}(h0:0<=it)(h4':it<=4){N:Nat}(hμ:5*pr+(4-it).toNat=μ)(hA:At s i {x with mx:=.cont true,df:=1} st)(hR:Rd s st pr 0 1 0 N):
  Hi q i Ch s b₁ a₁ eB fE ez k₁ cs₁ true true it nW (enc 0 1 0 N) st:=by
 have h5:bits aZ aK (enc 0 1 0 N) 5=0:=uU 0 1 0 N (by omega) (by first|omega|exact hR.w1) (by omega) (by have:=hR.n9;omega);have h4:bits aZ aK (enc 0 1 0 N) 4=0:=mJ 0 1 0 N (by omega) (by first|omega|exact hR.w1) (by omega) (by have:=hR.n9;omega);have h1:bits aZ aK (enc 0 1 0 N) 1=0:=Dn 0 1 0 N (by omega) (by first|omega|exact hR.w1) (by omega) (by have:=hR.n9;omega);have o1:bits BinOp.or aK (enc 0 1 0 N) 1=enc 1 1 0 N:=Fl 0 1 0 N (by omega) (by first|omega|exact hR.w1) (by omega) (by have:=hR.n9;omega);have h2:bits aZ aK (enc 1 1 0 N) 2=2:=zx 1 1 0 N (by omega) (by first|omega|exact hR.w1) (by omega) (by have:=hR.n9;omega);have n2:bits BinOp.andNot aK (enc 1 1 0 N) 2=enc 1 0 0 N:=GX 1 1 0 N (by omega) (by first|omega|exact hR.w1) (by omega) (by have:=hR.n9;omega);intro j1 j7 j8 j9 j10 j11 j12 j13 tI tH tF tE vA pE pD tD tC tB tA tz tv tq tj s7 sZ sY sX sW sV sU sS sQ sP sO zg zf ze Bx Bv Bu Bt Br Bq Bp Bo Bn Bl Bj Bi Bh Bg Bf Be Bc Bb Ba A9 A8 A7 A6 A0 AZ AY AX AW AV AU vz vw vv vt vq vp vo AQ AP AO AL Eo En Em El Ek Ej Ei Eh Eg Ef Ee Ed Ec Eb Ea D9 qJ qI qH qG qF qE qD qC qB qA qz qy qx qw qu qp qo qm ql qj qi qh qg qf qd qc qb p9 pZ pY pX pW pV pU pT pS pR pQ pP;simp only[ia,gY,iz,iX,mZ,Try.f133,aJ];refine TT.road hP hA (by simp[hx]) 140 fun w₀ hF=>?_;repeat w_go dW
 refine stp rfl ?_;clear hF w₀;refine TT.mu hP hA hx (mx:=.cont true) rfl (by simp) fun dV dY eQ eo p1 p2 p3 p4=>?_;have fB:=hR.later p1 p2;by_cases hit:enc dV.γ.L dV.γ.W dV.γ.S dV.γ.N=enc 0 1 0 N
 ·obtain⟨e1,e2,e3,e4⟩:=kE hit eo.mu.bd ⟨by omega,by first|omega|exact hR.w1,by omega⟩;refine⟨_,_,_,.own .xC,1,1,dV.γ.W-Bool.toNat true,dV.γ.S,dV.γ.N,dV.γ.tn,dV.γ.th,stepG_cas_hit rfl rfl (by k_ne) rfl Try.func132 jD jF jC .i32 jE rfl rfl rfl (hit ▸ eo.gb.cell.2.1) (eo.gb.cell.2.2.2 4),rfl,lq _ _,by simp,by simp,eo.mu.take dY.lo (dY.hi eQ) true (fX dY) ⟨e1,e3⟩,eo.gb.swap rfl (by rw[e2,e3,e4];rfl),eW.set _ 4 _ (by omega),.inl (by simp[kP]),.inl nle,jB 4 (.inl rfl),.inr nle,fun dZ eu eN _ _ _ _=>?_⟩;clear hit fB eo dY eQ;refine TT.road hP eu (by simp[hx]) 60 fun w₀ hF=>?_;walk_nrm;repeat w_but "code.exit" dW
  w_go dW
  refine stp rfl ?_;exact ot hP hx hT eu ..
 ·refine⟨_,_,_,.cont true,1,dV.γ.L,dV.γ.W,dV.γ.S,dV.γ.N,dV.γ.tn,dV.γ.th,stepG_cas_miss rfl rfl (by k_ne) rfl Try.func132 jD jF jC .i32 jE rfl rfl rfl eo.gb.cell.2.1 (eo.gb.cell.2.2.2 4) hit,rfl,uV _ _,by simp,by simp,jS.still eo dY rfl,eo.gb.stay rfl rfl,eW.refl _,.inr ⟨rfl,rfl,rfl,rfl,rfl⟩,.inl nle,oJ 4 (by omega),.inr nle,fun dZ eu eN _ w₂ _ f₂=>?_⟩;have hlt:phi dZ.γ s<pr:=by
   refine cV (by have:=fB.le;omega) fun e=>hit ?_;obtain⟨a,b,c,d⟩:=fB.eq (by omega);rw[a,b,c,d]
  clear hit fB eo dY eQ;refine TT.road hP eu (by simp[hx]) 60 fun w₀ hF=>?_;walk_nrm;repeat w_go dW
  refine stp rfl ?_;clear hF w₀;refine TT.lR hP eu hx (mx:=.cont true) rfl (by simp) fun fw eK fu eV=>⟨_,_,_,1,fD rfl rfl (by k_ne) rfl rfl eV.gb.cell.2.1 jz,rfl,rfl,rfl,eW.refl _,gj,fun fI eF fO _ w₄ jH _=>?_⟩;have jd:=Rd.now (fO.eX s eF.sc).c;rw[w₄.1,w₄.2.1,w₄.2.2.1,w₄.2.2.2]at jd;refine TT.road hP eF (by simp[hx]) 60 fun w₀ hF=>?_;walk_nrm;repeat w_nl dW
  u_c stepG_inLoop dW hF
  refine stp rfl ?_;have zU:=eV.mu.G7 eK.lo (eK.hi fu) (fX eK);exact ih _ (by omega) _ it true true nW _ _ _ _ fI rfl h0 h4' eF fO jd (fun _=>⟨zU.1,zU.2.1⟩) (by simp) ..
theorem ad3(hx:x.wg=.work)(hT:KG q i Ch s x b₁ a₁ eB fE ez k₁ cs₁){μ pr:Nat}(ih:∀nA,nA<μ->Rh q i Ch s x b₁ a₁ eB fE ez k₁ cs₁ nA){it nW:Int}{st:St eH}(h0:0<=it)(h4':it<=4){w N:Nat}(hμ:5*pr+(4-it).toNat=μ)(hA:At s i {x with mx:=.cont false,df:=1} st)(hR:Rd s st pr 0 w 1 N):
  Hi q i Ch s b₁ a₁ eB fE ez k₁ cs₁ false false it nW (enc 0 w 1 N) st:=by
 have h5:bits aZ aK (enc 0 w 1 N) 5=4:=uU 0 w 1 N (by omega) (by first|omega|exact hR.w1) (by omega) (by have:=hR.n9;omega);have h4:bits aZ aK (enc 0 w 1 N) 4=4:=mJ 0 w 1 N (by omega) (by first|omega|exact hR.w1) (by omega) (by have:=hR.n9;omega);have o8:bI aK (enc 0 w 1 N+8)=enc 0 w 1 (N+1):=Dp 0 w 1 N (by omega) (by first|omega|exact hR.w1) (by omega) (by have:=hR.n9;omega);intro j1 j7 j8 j9 j10 j11 j12 j13 tI tH tF tE vA pE pD tD tC tB tA tz tv tq tj s7 sZ sY sX sW sV sU sS sQ sP sO zg zf ze Bx Bv Bu Bt Br Bq Bp Bo Bn Bl Bj Bi Bh Bg Bf Be Bc Bb Ba A9 A8 A7 A6 A0 AZ AY AX AW AV AU vz vw vv vt vq vp vo AQ AP AO AL Eo En Em El Ek Ej Ei Eh Eg Ef Ee Ed Ec Eb Ea D9 qJ qI qH qG qF qE qD qC qB qA qz qy qx qw qu qp qo qm ql qj qi qh qg qf qd qc qb p9 pZ pY pX pW pV pU pT pS pR pQ pP;simp only[ia,gY,iz,iX,mZ,Try.f133,aJ];refine TT.road hP hA (by simp[hx]) 140 fun w₀ hF=>?_;repeat w_go dW
 refine stp rfl ?_;clear hF w₀;refine TT.mu hP hA hx (mx:=.cont false) rfl (by simp) fun dV dY eQ eo p1 p2 p3 p4=>?_;have fB:=hR.later p1 p2;by_cases hit:enc dV.γ.L dV.γ.W dV.γ.S dV.γ.N=enc 0 w 1 N
 ·obtain⟨e1,e2,e3,e4⟩:=kE hit eo.mu.bd ⟨by omega,by first|omega|exact hR.w1,by omega⟩;refine⟨_,_,_,.iM,1,dV.γ.L,dV.γ.W-Bool.toNat false,dV.γ.S,dV.γ.N+1,dV.γ.tn,dV.γ.th,stepG_cas_hit rfl rfl (by k_ne) rfl Try.func132 jD jF jC .i32 jE rfl rfl rfl (hit ▸ eo.gb.cell.2.1) (eo.gb.cell.2.2.2 4),rfl,lq _ _,by simp,by simp,eo.mu.queue dY.lo (dY.hi eQ) false (fX dY) (.inr e3),eo.gb.swap rfl (by rw[e1,e2,e3,e4];rfl),eW.set _ 4 _ (by omega),.inl (by simp[kP]),.inl (by omega),jB 4 (.inl rfl),.inr nle,fun dZ eu eN _ _ _ f₂=>?_⟩;have oo:phi dZ.γ s<pr:=by have:=fB.le;simp only[kP]at f₂;omega
  clear hit fB eo dY eQ;refine TT.road hP eu (by simp[hx]) 60 fun w₀ hF=>?_;walk_nrm;w_but "code.seq" dW
  w_but "code.seq" dW
  w_go dW
  w_go dW
  repeat w_but "code.seq" dW
  refine stp rfl ?_;exact o9 hP hx hT (fun nA h=>ih nA (by omega)) eu eN oo ..
 ·refine⟨_,_,_,.cont false,1,dV.γ.L,dV.γ.W,dV.γ.S,dV.γ.N,dV.γ.tn,dV.γ.th,stepG_cas_miss rfl rfl (by k_ne) rfl Try.func132 jD jF jC .i32 jE rfl rfl rfl eo.gb.cell.2.1 (eo.gb.cell.2.2.2 4) hit,rfl,uV _ _,by simp,by simp,jS.still eo dY rfl,eo.gb.stay rfl rfl,eW.refl _,.inr ⟨rfl,rfl,rfl,rfl,rfl⟩,.inl nle,oJ 4 (by omega),.inr nle,fun dZ eu eN _ w₂ _ f₂=>?_⟩;have hlt:phi dZ.γ s<pr:=by
   refine cV (by have:=fB.le;omega) fun e=>hit ?_;obtain⟨a,b,c,d⟩:=fB.eq (by omega);rw[a,b,c,d]
  clear hit fB eo dY eQ;refine TT.road hP eu (by simp[hx]) 60 fun w₀ hF=>?_;walk_nrm;repeat w_go dW
  refine stp rfl ?_;clear hF w₀;refine TT.lR hP eu hx (mx:=.cont false) rfl (by simp) fun fw eK fu eV=>⟨_,_,_,1,fD rfl rfl (by k_ne) rfl rfl eV.gb.cell.2.1 jz,rfl,rfl,rfl,eW.refl _,gj,fun fI eF fO _ w₄ jH _=>?_⟩;have jd:=Rd.now (fO.eX s eF.sc).c;rw[w₄.1,w₄.2.1,w₄.2.2.1,w₄.2.2.2]at jd;clear eV eK fu;refine TT.road hP eF (by simp[hx]) 60 fun w₀ hF=>?_;walk_nrm;repeat w_nl dW
  u_c stepG_inLoop dW hF
  refine stp rfl ?_;exact ih _ (by omega) _ it false false nW _ _ _ _ fI rfl h0 h4' eF fO jd (by simp) (by simp) ..
theorem ad2(hx:x.wg=.work)(hT:KG q i Ch s x b₁ a₁ eB fE ez k₁ cs₁){μ pr:Nat}(ih:∀nA,nA<μ->Rh q i Ch s x b₁ a₁ eB fE ez k₁ cs₁ nA){it nW:Int}{st:St eH}(h0:0<=it)(h4':it<=4){w N:Nat}(hμ:5*pr+(4-it).toNat=μ)(hA:At s i {x with mx:=.cont false,df:=1} st)(hR:Rd s st pr 1 w 1 N):
  Hi q i Ch s b₁ a₁ eB fE ez k₁ cs₁ false false it nW (enc 1 w 1 N) st:=by
 have h5:bits aZ aK (enc 1 w 1 N) 5=5:=uU 1 w 1 N (by omega) (by first|omega|exact hR.w1) (by omega) (by have:=hR.n9;omega);have h4:bits aZ aK (enc 1 w 1 N) 4=4:=mJ 1 w 1 N (by omega) (by first|omega|exact hR.w1) (by omega) (by have:=hR.n9;omega);have o8:bI aK (enc 1 w 1 N+8)=enc 1 w 1 (N+1):=Dp 1 w 1 N (by omega) (by first|omega|exact hR.w1) (by omega) (by have:=hR.n9;omega);intro j1 j7 j8 j9 j10 j11 j12 j13 tI tH tF tE vA pE pD tD tC tB tA tz tv tq tj s7 sZ sY sX sW sV sU sS sQ sP sO zg zf ze Bx Bv Bu Bt Br Bq Bp Bo Bn Bl Bj Bi Bh Bg Bf Be Bc Bb Ba A9 A8 A7 A6 A0 AZ AY AX AW AV AU vz vw vv vt vq vp vo AQ AP AO AL Eo En Em El Ek Ej Ei Eh Eg Ef Ee Ed Ec Eb Ea D9 qJ qI qH qG qF qE qD qC qB qA qz qy qx qw qu qp qo qm ql qj qi qh qg qf qd qc qb p9 pZ pY pX pW pV pU pT pS pR pQ pP;simp only[ia,gY,iz,iX,mZ,Try.f133,aJ];refine TT.road hP hA (by simp[hx]) 140 fun w₀ hF=>?_;repeat w_go dW
 refine stp rfl ?_;clear hF w₀;refine TT.mu hP hA hx (mx:=.cont false) rfl (by simp) fun dV dY eQ eo p1 p2 p3 p4=>?_;have fB:=hR.later p1 p2;by_cases hit:enc dV.γ.L dV.γ.W dV.γ.S dV.γ.N=enc 1 w 1 N
 ·obtain⟨e1,e2,e3,e4⟩:=kE hit eo.mu.bd ⟨by omega,by first|omega|exact hR.w1,by omega⟩;refine⟨_,_,_,.iM,1,dV.γ.L,dV.γ.W-Bool.toNat false,dV.γ.S,dV.γ.N+1,dV.γ.tn,dV.γ.th,stepG_cas_hit rfl rfl (by k_ne) rfl Try.func132 jD jF jC .i32 jE rfl rfl rfl (hit ▸ eo.gb.cell.2.1) (eo.gb.cell.2.2.2 4),rfl,lq _ _,by simp,by simp,eo.mu.queue dY.lo (dY.hi eQ) false (fX dY) (.inr e3),eo.gb.swap rfl (by rw[e1,e2,e3,e4];rfl),eW.set _ 4 _ (by omega),.inl (by simp[kP]),.inl (by omega),jB 4 (.inl rfl),.inr nle,fun dZ eu eN _ _ _ f₂=>?_⟩;have oo:phi dZ.γ s<pr:=by have:=fB.le;simp only[kP]at f₂;omega
  clear hit fB eo dY eQ;refine TT.road hP eu (by simp[hx]) 60 fun w₀ hF=>?_;walk_nrm;w_but "code.seq" dW
  w_but "code.seq" dW
  w_go dW
  w_go dW
  repeat w_but "code.seq" dW
  refine stp rfl ?_;exact o9 hP hx hT (fun nA h=>ih nA (by omega)) eu eN oo ..
 ·refine⟨_,_,_,.cont false,1,dV.γ.L,dV.γ.W,dV.γ.S,dV.γ.N,dV.γ.tn,dV.γ.th,stepG_cas_miss rfl rfl (by k_ne) rfl Try.func132 jD jF jC .i32 jE rfl rfl rfl eo.gb.cell.2.1 (eo.gb.cell.2.2.2 4) hit,rfl,uV _ _,by simp,by simp,jS.still eo dY rfl,eo.gb.stay rfl rfl,eW.refl _,.inr ⟨rfl,rfl,rfl,rfl,rfl⟩,.inl nle,oJ 4 (by omega),.inr nle,fun dZ eu eN _ w₂ _ f₂=>?_⟩;have hlt:phi dZ.γ s<pr:=by
   refine cV (by have:=fB.le;omega) fun e=>hit ?_;obtain⟨a,b,c,d⟩:=fB.eq (by omega);rw[a,b,c,d]
  clear hit fB eo dY eQ;refine TT.road hP eu (by simp[hx]) 60 fun w₀ hF=>?_;walk_nrm;repeat w_go dW
  refine stp rfl ?_;clear hF w₀;refine TT.lR hP eu hx (mx:=.cont false) rfl (by simp) fun fw eK fu eV=>⟨_,_,_,1,fD rfl rfl (by k_ne) rfl rfl eV.gb.cell.2.1 jz,rfl,rfl,rfl,eW.refl _,gj,fun fI eF fO _ w₄ jH _=>?_⟩;have jd:=Rd.now (fO.eX s eF.sc).c;rw[w₄.1,w₄.2.1,w₄.2.2.1,w₄.2.2.2]at jd;clear eV eK fu;refine TT.road hP eF (by simp[hx]) 60 fun w₀ hF=>?_;walk_nrm;repeat w_nl dW
  u_c stepG_inLoop dW hF
  refine stp rfl ?_;exact ih _ (by omega) _ it false false nW _ _ _ _ fI rfl h0 h4' eF fO jd (by simp) (by simp) ..
end
end
section
section
variable{q:iU}(hP:q.P=dS){i:Nat}{s:eJ}{x:Wk}{Ch:Nat->ah->St eH->Prop}
variable{b₁:ai}{a₁:Act}{eB:Array Oper}{fE:Nat}{ez:List Nat}{k₁:List Item}{cs₁:List ai}
include hP
theorem XA(hx:x.wg=.work)(hT:KG q i Ch s x b₁ a₁ eB fE ez k₁ cs₁){μ pr:Nat}(ih:∀nA,nA<μ->Rh q i Ch s x b₁ a₁ eB fE ez k₁ cs₁ nA){it nW:Int}{st:St eH}(h0:0<=it)(h4':it<=4){w N:Nat}(hμ:5*pr+(4-it).toNat=μ)(hA:At s i {x with mx:=.cont false,df:=1} st)(hR:Rd s st pr 1 w 0 N):
  Hi q i Ch s b₁ a₁ eB fE ez k₁ cs₁ false false it nW (enc 1 w 0 N) st:=by
 have h5:bits aZ aK (enc 1 w 0 N) 5=1:=uU 1 w 0 N (by omega) (by first|omega|exact hR.w1) (by omega) (by have:=hR.n9;omega);have h4:bits aZ aK (enc 1 w 0 N) 4=0:=mJ 1 w 0 N (by omega) (by first|omega|exact hR.w1) (by omega) (by have:=hR.n9;omega);have o1:bits BinOp.or aK (enc 1 w 0 N) 1=(enc 1 w 0 N):=Fl 1 w 0 N (by omega) (by first|omega|exact hR.w1) (by omega) (by have:=hR.n9;omega);have o8:bI aK (enc 1 w 0 N+8)=enc 1 w 0 (N+1):=Dp 1 w 0 N (by omega) (by first|omega|exact hR.w1) (by omega) (by have:=hR.n9;omega);have hlt:it<4->bI IntKind.i64 (it+1)=it+1:=fun h=>by unfold bI;simp[IntKind.bits,IntKind.signed];omega
 intro j1 j7 j8 j9 j10 j11 j12 j13 tI tH tF tE vA pE pD tD tC tB tA tz tv tq tj s7 sZ sY sX sW sV sU sS sQ sP sO zg zf ze Bx Bv Bu Bt Br Bq Bp Bo Bn Bl Bj Bi Bh Bg Bf Be Bc Bb Ba A9 A8 A7 A6 A0 AZ AY AX AW AV AU vz vw vv vt vq vp vo AQ AP AO AL Eo En Em El Ek Ej Ei Eh Eg Ef Ee Ed Ec Eb Ea D9 qJ qI qH qG qF qE qD qC qB qA qz qy qx qw qu qp qo qm ql qj qi qh qg qf qd qc qb p9 pZ pY pX pW pV pU pT pS pR pQ pP;simp only[ia,gY,iz,iX,mZ,Try.f133,aJ];refine TT.road hP hA (by simp[hx]) 140 fun w₀ hF=>?_;repeat w_go dW
 refine stp rfl ?_;clear hF w₀;by_cases ZI:it<4
 ·have hw:=hlt ZI;clear hlt;refine TT.lR hP hA hx (mx:=.cont false) rfl (by simp) fun fw eK fu eV=>⟨_,_,_,1,stepG_canSpin_ask rfl rfl (by k_ne) rfl Try.func139 y7 zB yN zq (k:=.i64) (n:=it) (by simp[aU]) ZI,rfl,rfl,rfl,eW.asked _,gj,fun fI eF fO _ _ jH _=>?_⟩;generalize fw.w.spins=sp;clear eV eK fu hA;cases sp
  ·have hR:=hR.later jH.1 jH.2;have hA:At s i {x with mx:=.cont false,df:=1} fI:=eF;clear eF;refine TT.road hP hA (by simp[hx]) 140 fun w₀ hF=>?_;walk_nrm;repeat w_go dW
   refine stp rfl ?_;clear hF w₀;refine TT.mu hP hA hx (mx:=.cont false) rfl (by simp) fun dV dY eQ eo p1 p2 p3 p4=>?_;have fB:=hR.later p1 p2;by_cases hit:enc dV.γ.L dV.γ.W dV.γ.S dV.γ.N=enc 1 w 0 N
   ·obtain⟨e1,e2,e3,e4⟩:=kE hit eo.mu.bd ⟨by omega,by first|omega|exact hR.w1,by omega⟩;refine⟨_,_,_,.iM,1,dV.γ.L,dV.γ.W-Bool.toNat false,dV.γ.S,dV.γ.N+1,dV.γ.tn,dV.γ.th,stepG_cas_hit rfl rfl (by k_ne) rfl Try.func132 jD jF jC .i32 jE rfl rfl rfl (hit ▸ eo.gb.cell.2.1) (eo.gb.cell.2.2.2 4),rfl,lq _ _,by simp,by simp,eo.mu.queue dY.lo (dY.hi eQ) false (fX dY) (.inl e1),eo.gb.swap rfl (by rw[e1,e2,e3,e4];rfl),eW.set _ 4 _ (by omega),.inl (by simp[kP]),.inl (by omega),jB 4 (.inl rfl),.inr nle,fun dZ eu eN _ _ _ f₂=>?_⟩;have oo:phi dZ.γ s<pr:=by have:=fB.le;simp only[kP]at f₂;omega
    clear hit fB eo dY eQ;refine TT.road hP eu (by simp[hx]) 60 fun w₀ hF=>?_;walk_nrm;w_but "code.seq" dW
    w_but "code.seq" dW
    w_go dW
    w_go dW
    repeat w_but "code.seq" dW
    refine stp rfl ?_;exact o9 hP hx hT (fun nA h=>ih nA (by omega)) eu eN oo ..
   ·refine⟨_,_,_,.cont false,1,dV.γ.L,dV.γ.W,dV.γ.S,dV.γ.N,dV.γ.tn,dV.γ.th,stepG_cas_miss rfl rfl (by k_ne) rfl Try.func132 jD jF jC .i32 jE rfl rfl rfl eo.gb.cell.2.1 (eo.gb.cell.2.2.2 4) hit,rfl,uV _ _,by simp,by simp,jS.still eo dY rfl,eo.gb.stay rfl rfl,eW.refl _,.inr ⟨rfl,rfl,rfl,rfl,rfl⟩,.inl nle,oJ 4 (by omega),.inr nle,fun dZ eu eN _ w₂ _ f₂=>?_⟩;have hlt:phi dZ.γ s<pr:=by
     refine cV (by have:=fB.le;omega) fun e=>hit ?_;obtain⟨a,b,c,d⟩:=fB.eq (by omega);rw[a,b,c,d]
    clear hit fB eo dY eQ;refine TT.road hP eu (by simp[hx]) 60 fun w₀ hF=>?_;walk_nrm;repeat w_go dW
    refine stp rfl ?_;clear hF w₀;refine TT.lR hP eu hx (mx:=.cont false) rfl (by simp) fun fw eK fu eV=>⟨_,_,_,1,fD rfl rfl (by k_ne) rfl rfl eV.gb.cell.2.1 jz,rfl,rfl,rfl,eW.refl _,gj,fun fI eF fO _ w₄ jH _=>?_⟩;have jd:=Rd.now (fO.eX s eF.sc).c;rw[w₄.1,w₄.2.1,w₄.2.2.1,w₄.2.2.2]at jd;clear eV eK fu;refine TT.road hP eF (by simp[hx]) 60 fun w₀ hF=>?_;walk_nrm;repeat w_nl dW
    u_c stepG_inLoop dW hF
    refine stp rfl ?_;exact ih _ (by omega) _ it false false nW _ _ _ _ fI rfl h0 h4' eF fO jd (by simp) (by simp) ..
  ·have hR:=hR.later jH.1 jH.2;have hA:At s i {x with mx:=.cont false,df:=1} fI:=eF;clear eF;rcases (by have:=hR.w1;omega:w=0\/w=1)with rfl|rfl
   ·have h2:bits aZ aK (enc 1 0 0 N) 2=0:=zx 1 0 0 N (by omega) (by omega) (by omega) (by have:=hR.n9;omega);have o2:bits BinOp.or aK (enc 1 0 0 N) 2=enc 1 1 0 N:=ZV 1 0 0 N (by omega) (by omega) (by omega) (by have:=hR.n9;omega);obtain⟨nn,hd,hnn⟩:∃nn:Int,enc 1 0 0 N/8=nn/\nn=N:=⟨_,Uv 1 0 0 N (by omega) (by omega) (by omega),rfl⟩;clear hnn;have hnz:nn=0\/(nn != 0)=true:=by by_cases h:nn=0<;>simp[h]
    rcases hnz with rfl|hnz
    ·have hle:phi fI.γ s<=pr:=hR.le;refine TT.road hP hA (by simp[hx]) 80 fun w₀ hF=>?_;walk_nrm;repeat w_go dW
     u_in dW hF
     rw[stepG_entry_pure (.tuple #[]) rfl rfl (by k_ne) rfl Try.func140 PY QG O4 Qp];simp only[goes_go];refine⟨by u_nil,?_⟩;walk_nrm;repeat w_go dW
     refine stp rfl ?_;clear hF w₀;refine TT.lR hP hA hx (mx:=.cont false) rfl (by simp) fun eT fe gg fx=>⟨_,_,_,1,fD rfl rfl (by k_ne) rfl rfl fx.gb.cell.2.1 jz,rfl,rfl,rfl,eW.refl _,gj,fun gU eZ gD _ w₆ xe _=>?_⟩;have ju:=Rd.now (gD.eX s eZ.sc).c;rw[w₆.1,w₆.2.1,w₆.2.2.1,w₆.2.2.2]at ju;refine TT.road hP eZ (by simp[hx]) 60 fun w₀ hF=>?_;walk_nrm;repeat w_nl dW
     u_c stepG_inLoop dW hF
     refine stp rfl ?_;exact ih _ (by omega) _ (it+1) false false nW _ _ _ _ gU rfl (by omega) (by omega) eZ gD ju (by simp) (by simp) ..
    ·refine TT.road hP hA (by simp[hx]) 140 fun w₀ hF=>?_;walk_nrm;repeat w_go dW
     refine stp rfl ?_;clear hF w₀;refine TT.mu hP hA hx (mx:=.cont false) rfl (by simp) fun dV dY eQ eo p1 p2 p3 p4=>?_;have fB:=hR.later p1 p2;by_cases hit:enc dV.γ.L dV.γ.W dV.γ.S dV.γ.N=enc 1 0 0 N
     ·obtain⟨e1,e2,e3,e4⟩:=kE hit eo.mu.bd ⟨by omega,by omega,by omega⟩;refine⟨_,_,_,.cont true,1,dV.γ.L,1,dV.γ.S,dV.γ.N,dV.γ.tn,dV.γ.th,stepG_cas_hit rfl rfl (by k_ne) rfl Try.func132 jD jF jC .i32 jE rfl rfl rfl (hit ▸ eo.gb.cell.2.1) (eo.gb.cell.2.2.2 4),rfl,lq _ _,by simp,by simp,eo.mu.spin dY.lo (dY.hi eQ) (fX dY) ⟨e1,e2,e3⟩,eo.gb.swap rfl (by rw[e1,e3,e4]),eW.set _ 4 _ (by omega),.inl (by simp[kP]),.inl nle,jB 4 (.inl rfl),.inr nle,fun dZ eu eN _ _ _ f₂=>?_⟩;have hle:phi dZ.γ s<pr:=by have:=fB.le;simp only[kP]at f₂;omega
      clear hit fB eo dY eQ e1 e2 e3 e4;refine TT.road hP eu (by simp[hx]) 80 fun w₀ hF=>?_;walk_nrm;repeat w_go dW
      u_in dW hF
      rw[stepG_entry_pure (.tuple #[]) rfl rfl (by k_ne) rfl Try.func140 PY QG O4 Qp];simp only[goes_go];refine⟨by u_nil,?_⟩;walk_nrm;repeat w_go dW
      refine stp rfl ?_;clear hF w₀;refine TT.lR hP eu hx (mx:=.cont true) rfl (by simp) fun eT fe gg fx=>⟨_,_,_,1,fD rfl rfl (by k_ne) rfl rfl fx.gb.cell.2.1 jz,rfl,rfl,rfl,eW.refl _,gj,fun gU eZ gD _ w₆ xe _=>?_⟩;have ju:=Rd.now (gD.eX s eZ.sc).c;rw[w₆.1,w₆.2.1,w₆.2.2.1,w₆.2.2.2]at ju;refine TT.road hP eZ (by simp[hx]) 60 fun w₀ hF=>?_;walk_nrm;repeat w_nl dW
      u_c stepG_inLoop dW hF
      refine stp rfl ?_;have zU:=fx.mu.G7 fe.lo (fe.hi gg) (fX fe);exact ih _ (by omega) _ (it+1) true false nW _ _ _ _ gU rfl (by omega) (by omega) eZ gD ju (fun _=>⟨zU.1,zU.2.1⟩) (by simp) ..
     ·refine⟨_,_,_,.cont false,1,dV.γ.L,dV.γ.W,dV.γ.S,dV.γ.N,dV.γ.tn,dV.γ.th,stepG_cas_miss rfl rfl (by k_ne) rfl Try.func132 jD jF jC .i32 jE rfl rfl rfl eo.gb.cell.2.1 (eo.gb.cell.2.2.2 4) hit,rfl,uV _ _,by simp,by simp,jS.still eo dY rfl,eo.gb.stay rfl rfl,eW.refl _,.inr ⟨rfl,rfl,rfl,rfl,rfl⟩,.inl nle,oJ 4 (by omega),.inr nle,fun dZ eu eN _ w₂ _ f₂=>?_⟩;have hle:phi dZ.γ s<=pr:=by have:=fB.le;omega
      clear hit fB eo dY eQ;refine TT.road hP eu (by simp[hx]) 80 fun w₀ hF=>?_;walk_nrm;repeat w_go dW
      u_in dW hF
      rw[stepG_entry_pure (.tuple #[]) rfl rfl (by k_ne) rfl Try.func140 PY QG O4 Qp];simp only[goes_go];refine⟨by u_nil,?_⟩;walk_nrm;repeat w_go dW
      refine stp rfl ?_;clear hF w₀;refine TT.lR hP eu hx (mx:=.cont false) rfl (by simp) fun eT fe gg fx=>⟨_,_,_,1,fD rfl rfl (by k_ne) rfl rfl fx.gb.cell.2.1 jz,rfl,rfl,rfl,eW.refl _,gj,fun gU eZ gD _ w₆ xe _=>?_⟩;have ju:=Rd.now (gD.eX s eZ.sc).c;rw[w₆.1,w₆.2.1,w₆.2.2.1,w₆.2.2.2]at ju;refine TT.road hP eZ (by simp[hx]) 60 fun w₀ hF=>?_;walk_nrm;repeat w_nl dW
      u_c stepG_inLoop dW hF
      refine stp rfl ?_;exact ih _ (by omega) _ (it+1) false false nW _ _ _ _ gU rfl (by omega) (by omega) eZ gD ju (by simp) (by simp) ..
   ·have h2:bits aZ aK (enc 1 1 0 N) 2=2:=zx 1 1 0 N (by omega) (by omega) (by omega) (by have:=hR.n9;omega);have hle:phi fI.γ s<=pr:=hR.le;refine TT.road hP hA (by simp[hx]) 80 fun w₀ hF=>?_;walk_nrm;repeat w_go dW
    u_in dW hF
    rw[stepG_entry_pure (.tuple #[]) rfl rfl (by k_ne) rfl Try.func140 PY QG O4 Qp];simp only[goes_go];refine⟨by u_nil,?_⟩;walk_nrm;repeat w_go dW
    refine stp rfl ?_;clear hF w₀;refine TT.lR hP hA hx (mx:=.cont false) rfl (by simp) fun eT fe gg fx=>⟨_,_,_,1,fD rfl rfl (by k_ne) rfl rfl fx.gb.cell.2.1 jz,rfl,rfl,rfl,eW.refl _,gj,fun gU eZ gD _ w₆ xe _=>?_⟩;have ju:=Rd.now (gD.eX s eZ.sc).c;rw[w₆.1,w₆.2.1,w₆.2.2.1,w₆.2.2.2]at ju;refine TT.road hP eZ (by simp[hx]) 60 fun w₀ hF=>?_;walk_nrm;repeat w_nl dW
    u_c stepG_inLoop dW hF
    refine stp rfl ?_;exact ih _ (by omega) _ (it+1) false false nW _ _ _ _ gU rfl (by omega) (by omega) eZ gD ju (by simp) (by simp) ..
 ·clear hlt;refine TT.lR hP hA hx (mx:=.cont false) rfl (by simp) fun fw eK fu eV=>⟨_,_,_,1,stepG_canSpin_no rfl rfl (by k_ne) rfl Try.func139 y7 zB yN zq (k:=.i64) (n:=it) (by simp[aU]) (by omega),rfl,rfl,rfl,eW.refl _,gj,fun fI eF fO _ _ jH _=>?_⟩;clear eV eK fu hA;have hR:=hR.later jH.1 jH.2;have hA:At s i {x with mx:=.cont false,df:=1} fI:=eF;clear eF;refine TT.road hP hA (by simp[hx]) 140 fun w₀ hF=>?_;walk_nrm;repeat w_go dW
  refine stp rfl ?_;clear hF w₀;refine TT.mu hP hA hx (mx:=.cont false) rfl (by simp) fun dV dY eQ eo p1 p2 p3 p4=>?_;have fB:=hR.later p1 p2;by_cases hit:enc dV.γ.L dV.γ.W dV.γ.S dV.γ.N=enc 1 w 0 N
  ·obtain⟨e1,e2,e3,e4⟩:=kE hit eo.mu.bd ⟨by omega,by first|omega|exact hR.w1,by omega⟩;refine⟨_,_,_,.iM,1,dV.γ.L,dV.γ.W-Bool.toNat false,dV.γ.S,dV.γ.N+1,dV.γ.tn,dV.γ.th,stepG_cas_hit rfl rfl (by k_ne) rfl Try.func132 jD jF jC .i32 jE rfl rfl rfl (hit ▸ eo.gb.cell.2.1) (eo.gb.cell.2.2.2 4),rfl,lq _ _,by simp,by simp,eo.mu.queue dY.lo (dY.hi eQ) false (fX dY) (.inl e1),eo.gb.swap rfl (by rw[e1,e2,e3,e4];rfl),eW.set _ 4 _ (by omega),.inl (by simp[kP]),.inl (by omega),jB 4 (.inl rfl),.inr nle,fun dZ eu eN _ _ _ f₂=>?_⟩;have oo:phi dZ.γ s<pr:=by have:=fB.le;simp only[kP]at f₂;omega
   clear hit fB eo dY eQ;refine TT.road hP eu (by simp[hx]) 60 fun w₀ hF=>?_;walk_nrm;w_but "code.seq" dW
   w_but "code.seq" dW
   w_go dW
   w_go dW
   repeat w_but "code.seq" dW
   refine stp rfl ?_;exact o9 hP hx hT (fun nA h=>ih nA (by omega)) eu eN oo ..
  ·refine⟨_,_,_,.cont false,1,dV.γ.L,dV.γ.W,dV.γ.S,dV.γ.N,dV.γ.tn,dV.γ.th,stepG_cas_miss rfl rfl (by k_ne) rfl Try.func132 jD jF jC .i32 jE rfl rfl rfl eo.gb.cell.2.1 (eo.gb.cell.2.2.2 4) hit,rfl,uV _ _,by simp,by simp,jS.still eo dY rfl,eo.gb.stay rfl rfl,eW.refl _,.inr ⟨rfl,rfl,rfl,rfl,rfl⟩,.inl nle,oJ 4 (by omega),.inr nle,fun dZ eu eN _ w₂ _ f₂=>?_⟩;have hlt:phi dZ.γ s<pr:=by
    refine cV (by have:=fB.le;omega) fun e=>hit ?_;obtain⟨a,b,c,d⟩:=fB.eq (by omega);rw[a,b,c,d]
   clear hit fB eo dY eQ;refine TT.road hP eu (by simp[hx]) 60 fun w₀ hF=>?_;walk_nrm;repeat w_go dW
   refine stp rfl ?_;clear hF w₀;refine TT.lR hP eu hx (mx:=.cont false) rfl (by simp) fun fw eK fu eV=>⟨_,_,_,1,fD rfl rfl (by k_ne) rfl rfl eV.gb.cell.2.1 jz,rfl,rfl,rfl,eW.refl _,gj,fun fI eF fO _ w₄ jH _=>?_⟩;have jd:=Rd.now (fO.eX s eF.sc).c;rw[w₄.1,w₄.2.1,w₄.2.2.1,w₄.2.2.2]at jd;clear eV eK fu;refine TT.road hP eF (by simp[hx]) 60 fun w₀ hF=>?_;walk_nrm;repeat w_nl dW
   u_c stepG_inLoop dW hF
   refine stp rfl ?_;exact ih _ (by omega) _ it false false nW _ _ _ _ fI rfl h0 h4' eF fO jd (by simp) (by simp) ..
end
end
end Cc
end Go.Proofs.Ytpfpokjaeffbjaa
