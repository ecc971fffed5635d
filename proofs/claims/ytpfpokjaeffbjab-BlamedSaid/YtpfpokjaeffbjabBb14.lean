/- Part of the proof: LkG, LkIff, LkItf, LkItt, LkJ. -/
import Derived.Test.YtpfpokjaeffbjabBb13
set_option linter.unusedVariables false
set_option linter.unusedSimpArgs false
set_option maxRecDepth 100000
set_option maxHeartbeats 16000000
namespace Go.Proofs.Ytpfpokjaeffbjab
namespace Cc
open Go.Conc Go.ConcN Go.ConcM Go.RowKit Go.Conc.Lib Go.ConcR.Gen
open Go.ConcR (KK wgBlock WgAt stA smA rd wr mk DC0)
section
section
variable{q:ig}(hP:q.P=Try.prog){i:Nat}{s:aO}{x:Wk}{Ch:Nat->Goroutine->St aJ->Prop}
variable{b₁:Frame}{a₁:Act}{ops₁:Array Oper}{i₁:Nat}{rest₁:List Nat}{k₁:List Item}{cs₁:List Frame}
include hP
theorem Nz(hx:x.wg=.work)(hT:OA q i Ch s x b₁ a₁ ops₁ i₁ rest₁ k₁ cs₁){μ pr:Nat}(ih:∀μ',μ'<μ->V9 q i Ch s x b₁ a₁ ops₁ i₁ rest₁ k₁ cs₁ μ'){it wst:Int}{st:St aJ}(h0:0<=it)(h4':it<=4){N:Nat}(hμ:5*pr+(4-it).toNat=μ)(hA:At s i {x with mx:=.cont true,df:=1} st)(hR:Rd s st pr 0 1 0 N):
  JR q i Ch s b₁ a₁ ops₁ i₁ rest₁ k₁ cs₁ true false it wst (enc 0 1 0 N) st:=by
 have h5:bits BinOp.and IntKind.i32 (enc 0 1 0 N) 5=0:=wu 0 1 0 N (by omega) (by first|omega|exact hR.w1) (by omega) (by have:=hR.n9;omega);have h4:bits BinOp.and IntKind.i32 (enc 0 1 0 N) 4=0:=mW 0 1 0 N (by omega) (by first|omega|exact hR.w1) (by omega) (by have:=hR.n9;omega);have h1:bits BinOp.and IntKind.i32 (enc 0 1 0 N) 1=0:=Fh 0 1 0 N (by omega) (by first|omega|exact hR.w1) (by omega) (by have:=hR.n9;omega);have o1:bits BinOp.or IntKind.i32 (enc 0 1 0 N) 1=enc 1 1 0 N:=Hf 0 1 0 N (by omega) (by first|omega|exact hR.w1) (by omega) (by have:=hR.n9;omega);have h2:bits BinOp.and IntKind.i32 (enc 1 1 0 N) 2=2:=Bh 1 1 0 N (by omega) (by first|omega|exact hR.w1) (by omega) (by have:=hR.n9;omega);have n2:bits BinOp.andNot IntKind.i32 (enc 1 1 0 N) 2=enc 1 0 0 N:=Ju 1 1 0 N (by omega) (by first|omega|exact hR.w1) (by omega) (by have:=hR.n9;omega);intro j1 j7 j8 j9 j10 j11 j12 j13 j14 j15 j16 j17 j18 j19 j20 j21 j22 j23 j24 j25 j26 j27 j28 j29 j30 j31 j32 j33 j34 j35 j36 j37 j38 j39 j40 j41 j42 j43 j44 j45 j46 j47 j48 j49 j50 j51 j52 j53 j54 j55 j56 j57 j58 j59 j60 j61 j62 j63 j64 j65 j66 j67 j68 j69 j70 j71 j72 j73 j74 j75 j76 j77 j78 j79 j80 j81 j82 j83 j84 j85 j86 j87 j88 j89 j90 j91 j92 j93 j94 j95 j96 j97 j98 j99 j100 j101 j102 j103 j104 j105 j106 j107 j108 j109 j110 j111 j112 j113 j114 j115 j116 j117 j118 j119 j120 j121 j122 j123 j124 j125 j126 j127 j128 j129 j130 j131 j132 j133 j134 j135 j136 j137 j138;simp only[eX,eU,fK,iy,nK,Try.f105,Option.getD_some];refine TT.road hP hA (by simp[hx]) 140 fun w₀ hF=>?_
 repeat w_go aj
 refine Goes.stop (fun w₁ r₁=>⟨rfl,?_⟩);clear hF w₀;refine TT.mu hP hA hx (mx:=.cont true) rfl (by simp) fun ah au hI₁ aB p1 p2 p3 p4=>?_
 have bJ:=hR.later p1 p2;by_cases hit:enc ah.γ.L ah.γ.W ah.γ.S ah.γ.N=enc 0 1 0 N
 ·obtain⟨e1,e2,e3,e4⟩:=jW hit aB.mu.bd ⟨by omega,by first|omega|exact hR.w1,by omega⟩;refine⟨_,_,_,.own .chk,1,1,ah.γ.W-Bool.toNat true,ah.γ.S,ah.γ.N,ah.γ.tn,ah.γ.th,stepG_cas_hit rfl rfl (by k_ne) rfl Try.func104 jk jm ji .i32 jl rfl rfl rfl (hit ▸ aB.gb.cell.2.1) (aB.gb.cell.2.2.2 4),rfl,kU _ _,by simp,by simp,aB.mu.take au.lo (au.hi hI₁) true (dA au) ⟨e1,e3⟩,aB.gb.swap rfl (by rw[e2,e3,e4];rfl),aY.set _ 4 _ (by omega),.inl (by simp[kM]),.inl (Nat.le_refl _),jh 4 (.inl rfl),.inr (Nat.le_refl _),fun ay aC aT _ _ _ _=>?_⟩;clear hit bJ aB au hI₁;refine TT.road hP aC (by simp[hx]) 60 fun w₀ hF=>?_
  walk_nrm
  repeat w_but "code.exit" aj
  w_go aj
  refine Goes.stop (fun w₁ r₁=>⟨rfl,?_⟩);exact pq hP hx hT aC ..
 ·refine⟨_,_,_,.cont true,1,ah.γ.L,ah.γ.W,ah.γ.S,ah.γ.N,ah.γ.tn,ah.γ.th,stepG_cas_miss rfl rfl (by k_ne) rfl Try.func104 jk jm ji .i32 jl rfl rfl rfl aB.gb.cell.2.1 (aB.gb.cell.2.2.2 4) hit,rfl,wz _ _,by simp,by simp,jC.still aB au rfl,aB.gb.stay rfl rfl,aY.refl _,.inr ⟨rfl,rfl,rfl,rfl,rfl⟩,.inl (Nat.le_refl _),pW 4 (by omega),.inr (Nat.le_refl _),fun ay aC aT _ w₂ _ f₂=>?_⟩;have hlt:phi ay.γ s<pr:=by
   refine Nat.lt_of_le_of_ne (by have:=bJ.le;omega) fun e=>hit ?_
   obtain⟨a,b,c,d⟩:=bJ.eq (by omega);rw[a,b,c,d]
  clear hit bJ aB au hI₁;refine TT.road hP aC (by simp[hx]) 60 fun w₀ hF=>?_
  walk_nrm
  repeat w_go aj
  refine Goes.stop (fun w₁ r₁=>⟨rfl,?_⟩);clear hF w₀;refine TT.lI hP aC hx (mx:=.cont true) rfl (by simp) fun bH aQ bF aX=>⟨_,_,_,1,stepG_loadQ rfl rfl (by k_ne) rfl rfl aX.gb.cell.2.1 je,rfl,rfl,rfl,aY.refl _,dG,fun bM aI bY _ w₄ jo _=>?_⟩
  have iF:=Rd.now (bY.aZ s aI.sc).c;rw[w₄.1,w₄.2.1,w₄.2.2.1,w₄.2.2.2]at iF;refine TT.road hP aI (by simp[hx]) 60 fun w₀ hF=>?_
  walk_nrm
  repeat w_nl aj
  u_c stepG_inLoop aj hF
  refine Goes.stop (fun w₁ r₁=>⟨rfl,?_⟩);have hWS:=aX.mu.JC aQ.lo (aQ.hi bF) (dA aQ);exact ih _ (by omega) _ it true false wst _ _ _ _ bM rfl h0 h4' aI bY iF (fun _=>⟨hWS.1,hWS.2.1⟩) (by simp) ..
theorem Qe(hx:x.wg=.work)(hT:OA q i Ch s x b₁ a₁ ops₁ i₁ rest₁ k₁ cs₁){μ pr:Nat}(ih:∀μ',μ'<μ->V9 q i Ch s x b₁ a₁ ops₁ i₁ rest₁ k₁ cs₁ μ'){it wst:Int}{st:St aJ}(h0:0<=it)(h4':it<=4){N:Nat}(hμ:5*pr+(4-it).toNat=μ)(hA:At s i {x with mx:=.cont true,df:=1} st)(hR:Rd s st pr 0 1 0 N):
  JR q i Ch s b₁ a₁ ops₁ i₁ rest₁ k₁ cs₁ true true it wst (enc 0 1 0 N) st:=by
 have h5:bits BinOp.and IntKind.i32 (enc 0 1 0 N) 5=0:=wu 0 1 0 N (by omega) (by first|omega|exact hR.w1) (by omega) (by have:=hR.n9;omega);have h4:bits BinOp.and IntKind.i32 (enc 0 1 0 N) 4=0:=mW 0 1 0 N (by omega) (by first|omega|exact hR.w1) (by omega) (by have:=hR.n9;omega);have h1:bits BinOp.and IntKind.i32 (enc 0 1 0 N) 1=0:=Fh 0 1 0 N (by omega) (by first|omega|exact hR.w1) (by omega) (by have:=hR.n9;omega);have o1:bits BinOp.or IntKind.i32 (enc 0 1 0 N) 1=enc 1 1 0 N:=Hf 0 1 0 N (by omega) (by first|omega|exact hR.w1) (by omega) (by have:=hR.n9;omega);have h2:bits BinOp.and IntKind.i32 (enc 1 1 0 N) 2=2:=Bh 1 1 0 N (by omega) (by first|omega|exact hR.w1) (by omega) (by have:=hR.n9;omega);have n2:bits BinOp.andNot IntKind.i32 (enc 1 1 0 N) 2=enc 1 0 0 N:=Ju 1 1 0 N (by omega) (by first|omega|exact hR.w1) (by omega) (by have:=hR.n9;omega);intro j1 j7 j8 j9 j10 j11 j12 j13 j14 j15 j16 j17 j18 j19 j20 j21 j22 j23 j24 j25 j26 j27 j28 j29 j30 j31 j32 j33 j34 j35 j36 j37 j38 j39 j40 j41 j42 j43 j44 j45 j46 j47 j48 j49 j50 j51 j52 j53 j54 j55 j56 j57 j58 j59 j60 j61 j62 j63 j64 j65 j66 j67 j68 j69 j70 j71 j72 j73 j74 j75 j76 j77 j78 j79 j80 j81 j82 j83 j84 j85 j86 j87 j88 j89 j90 j91 j92 j93 j94 j95 j96 j97 j98 j99 j100 j101 j102 j103 j104 j105 j106 j107 j108 j109 j110 j111 j112 j113 j114 j115 j116 j117 j118 j119 j120 j121 j122 j123 j124 j125 j126 j127 j128 j129 j130 j131 j132 j133 j134 j135 j136 j137 j138;simp only[eX,eU,fK,iy,nK,Try.f105,Option.getD_some];refine TT.road hP hA (by simp[hx]) 140 fun w₀ hF=>?_
 repeat w_go aj
 refine Goes.stop (fun w₁ r₁=>⟨rfl,?_⟩);clear hF w₀;refine TT.mu hP hA hx (mx:=.cont true) rfl (by simp) fun ah au hI₁ aB p1 p2 p3 p4=>?_
 have bJ:=hR.later p1 p2;by_cases hit:enc ah.γ.L ah.γ.W ah.γ.S ah.γ.N=enc 0 1 0 N
 ·obtain⟨e1,e2,e3,e4⟩:=jW hit aB.mu.bd ⟨by omega,by first|omega|exact hR.w1,by omega⟩;refine⟨_,_,_,.own .chk,1,1,ah.γ.W-Bool.toNat true,ah.γ.S,ah.γ.N,ah.γ.tn,ah.γ.th,stepG_cas_hit rfl rfl (by k_ne) rfl Try.func104 jk jm ji .i32 jl rfl rfl rfl (hit ▸ aB.gb.cell.2.1) (aB.gb.cell.2.2.2 4),rfl,kU _ _,by simp,by simp,aB.mu.take au.lo (au.hi hI₁) true (dA au) ⟨e1,e3⟩,aB.gb.swap rfl (by rw[e2,e3,e4];rfl),aY.set _ 4 _ (by omega),.inl (by simp[kM]),.inl (Nat.le_refl _),jh 4 (.inl rfl),.inr (Nat.le_refl _),fun ay aC aT _ _ _ _=>?_⟩;clear hit bJ aB au hI₁;refine TT.road hP aC (by simp[hx]) 60 fun w₀ hF=>?_
  walk_nrm
  repeat w_but "code.exit" aj
  w_go aj
  refine Goes.stop (fun w₁ r₁=>⟨rfl,?_⟩);exact pq hP hx hT aC ..
 ·refine⟨_,_,_,.cont true,1,ah.γ.L,ah.γ.W,ah.γ.S,ah.γ.N,ah.γ.tn,ah.γ.th,stepG_cas_miss rfl rfl (by k_ne) rfl Try.func104 jk jm ji .i32 jl rfl rfl rfl aB.gb.cell.2.1 (aB.gb.cell.2.2.2 4) hit,rfl,wz _ _,by simp,by simp,jC.still aB au rfl,aB.gb.stay rfl rfl,aY.refl _,.inr ⟨rfl,rfl,rfl,rfl,rfl⟩,.inl (Nat.le_refl _),pW 4 (by omega),.inr (Nat.le_refl _),fun ay aC aT _ w₂ _ f₂=>?_⟩;have hlt:phi ay.γ s<pr:=by
   refine Nat.lt_of_le_of_ne (by have:=bJ.le;omega) fun e=>hit ?_
   obtain⟨a,b,c,d⟩:=bJ.eq (by omega);rw[a,b,c,d]
  clear hit bJ aB au hI₁;refine TT.road hP aC (by simp[hx]) 60 fun w₀ hF=>?_
  walk_nrm
  repeat w_go aj
  refine Goes.stop (fun w₁ r₁=>⟨rfl,?_⟩);clear hF w₀;refine TT.lI hP aC hx (mx:=.cont true) rfl (by simp) fun bH aQ bF aX=>⟨_,_,_,1,stepG_loadQ rfl rfl (by k_ne) rfl rfl aX.gb.cell.2.1 je,rfl,rfl,rfl,aY.refl _,dG,fun bM aI bY _ w₄ jo _=>?_⟩
  have iF:=Rd.now (bY.aZ s aI.sc).c;rw[w₄.1,w₄.2.1,w₄.2.2.1,w₄.2.2.2]at iF;refine TT.road hP aI (by simp[hx]) 60 fun w₀ hF=>?_
  walk_nrm
  repeat w_nl aj
  u_c stepG_inLoop aj hF
  refine Goes.stop (fun w₁ r₁=>⟨rfl,?_⟩);have hWS:=aX.mu.JC aQ.lo (aQ.hi bF) (dA aQ);exact ih _ (by omega) _ it true true wst _ _ _ _ bM rfl h0 h4' aI bY iF (fun _=>⟨hWS.1,hWS.2.1⟩) (by simp) ..
theorem az3(hx:x.wg=.work)(hT:OA q i Ch s x b₁ a₁ ops₁ i₁ rest₁ k₁ cs₁){μ pr:Nat}(ih:∀μ',μ'<μ->V9 q i Ch s x b₁ a₁ ops₁ i₁ rest₁ k₁ cs₁ μ'){it wst:Int}{st:St aJ}(h0:0<=it)(h4':it<=4){w N:Nat}(hμ:5*pr+(4-it).toNat=μ)(hA:At s i {x with mx:=.cont false,df:=1} st)(hR:Rd s st pr 0 w 1 N):
  JR q i Ch s b₁ a₁ ops₁ i₁ rest₁ k₁ cs₁ false false it wst (enc 0 w 1 N) st:=by
 have h5:bits BinOp.and IntKind.i32 (enc 0 w 1 N) 5=4:=wu 0 w 1 N (by omega) (by first|omega|exact hR.w1) (by omega) (by have:=hR.n9;omega);have h4:bits BinOp.and IntKind.i32 (enc 0 w 1 N) 4=4:=mW 0 w 1 N (by omega) (by first|omega|exact hR.w1) (by omega) (by have:=hR.n9;omega);have o8:IntKind.wrap IntKind.i32 (enc 0 w 1 N+8)=enc 0 w 1 (N+1):=Fj 0 w 1 N (by omega) (by first|omega|exact hR.w1) (by omega) (by have:=hR.n9;omega);intro j1 j7 j8 j9 j10 j11 j12 j13 j14 j15 j16 j17 j18 j19 j20 j21 j22 j23 j24 j25 j26 j27 j28 j29 j30 j31 j32 j33 j34 j35 j36 j37 j38 j39 j40 j41 j42 j43 j44 j45 j46 j47 j48 j49 j50 j51 j52 j53 j54 j55 j56 j57 j58 j59 j60 j61 j62 j63 j64 j65 j66 j67 j68 j69 j70 j71 j72 j73 j74 j75 j76 j77 j78 j79 j80 j81 j82 j83 j84 j85 j86 j87 j88 j89 j90 j91 j92 j93 j94 j95 j96 j97 j98 j99 j100 j101 j102 j103 j104 j105 j106 j107 j108 j109 j110 j111 j112 j113 j114 j115 j116 j117 j118 j119 j120 j121 j122 j123 j124 j125 j126 j127 j128 j129 j130 j131 j132 j133 j134 j135 j136 j137 j138;simp only[eX,eU,fK,iy,nK,Try.f105,Option.getD_some];refine TT.road hP hA (by simp[hx]) 140 fun w₀ hF=>?_
 repeat w_go aj
 refine Goes.stop (fun w₁ r₁=>⟨rfl,?_⟩);clear hF w₀;refine TT.mu hP hA hx (mx:=.cont false) rfl (by simp) fun ah au hI₁ aB p1 p2 p3 p4=>?_
 have bJ:=hR.later p1 p2;by_cases hit:enc ah.γ.L ah.γ.W ah.γ.S ah.γ.N=enc 0 w 1 N
 ·obtain⟨e1,e2,e3,e4⟩:=jW hit aB.mu.bd ⟨by omega,by first|omega|exact hR.w1,by omega⟩;refine⟨_,_,_,.queued,1,ah.γ.L,ah.γ.W-Bool.toNat false,ah.γ.S,ah.γ.N+1,ah.γ.tn,ah.γ.th,stepG_cas_hit rfl rfl (by k_ne) rfl Try.func104 jk jm ji .i32 jl rfl rfl rfl (hit ▸ aB.gb.cell.2.1) (aB.gb.cell.2.2.2 4),rfl,kU _ _,by simp,by simp,aB.mu.queue au.lo (au.hi hI₁) false (dA au) (.inr e3),aB.gb.swap rfl (by rw[e1,e2,e3,e4];rfl),aY.set _ 4 _ (by omega),.inl (by simp[kM]),.inl (by omega),jh 4 (.inl rfl),.inr (Nat.le_refl _),fun ay aC aT _ _ _ f₂=>?_⟩;have oZ:phi ay.γ s<pr:=by have:=bJ.le;simp only[kM]at f₂;omega
  clear hit bJ aB au hI₁;refine TT.road hP aC (by simp[hx]) 60 fun w₀ hF=>?_
  walk_nrm
  w_but "code.seq" aj
  w_but "code.seq" aj
  w_go aj
  w_go aj
  repeat w_but "code.seq" aj
  refine Goes.stop (fun w₁ r₁=>⟨rfl,?_⟩);exact qx hP hx hT (fun μ' h=>ih μ' (by omega)) aC aT oZ ..
 ·refine⟨_,_,_,.cont false,1,ah.γ.L,ah.γ.W,ah.γ.S,ah.γ.N,ah.γ.tn,ah.γ.th,stepG_cas_miss rfl rfl (by k_ne) rfl Try.func104 jk jm ji .i32 jl rfl rfl rfl aB.gb.cell.2.1 (aB.gb.cell.2.2.2 4) hit,rfl,wz _ _,by simp,by simp,jC.still aB au rfl,aB.gb.stay rfl rfl,aY.refl _,.inr ⟨rfl,rfl,rfl,rfl,rfl⟩,.inl (Nat.le_refl _),pW 4 (by omega),.inr (Nat.le_refl _),fun ay aC aT _ w₂ _ f₂=>?_⟩;have hlt:phi ay.γ s<pr:=by
   refine Nat.lt_of_le_of_ne (by have:=bJ.le;omega) fun e=>hit ?_
   obtain⟨a,b,c,d⟩:=bJ.eq (by omega);rw[a,b,c,d]
  clear hit bJ aB au hI₁;refine TT.road hP aC (by simp[hx]) 60 fun w₀ hF=>?_
  walk_nrm
  repeat w_go aj
  refine Goes.stop (fun w₁ r₁=>⟨rfl,?_⟩);clear hF w₀;refine TT.lI hP aC hx (mx:=.cont false) rfl (by simp) fun bH aQ bF aX=>⟨_,_,_,1,stepG_loadQ rfl rfl (by k_ne) rfl rfl aX.gb.cell.2.1 je,rfl,rfl,rfl,aY.refl _,dG,fun bM aI bY _ w₄ jo _=>?_⟩
  have iF:=Rd.now (bY.aZ s aI.sc).c;rw[w₄.1,w₄.2.1,w₄.2.2.1,w₄.2.2.2]at iF;clear aX aQ bF;refine TT.road hP aI (by simp[hx]) 60 fun w₀ hF=>?_
  walk_nrm
  repeat w_nl aj
  u_c stepG_inLoop aj hF
  refine Goes.stop (fun w₁ r₁=>⟨rfl,?_⟩);exact ih _ (by omega) _ it false false wst _ _ _ _ bM rfl h0 h4' aI bY iF (by simp) (by simp) ..
theorem az2(hx:x.wg=.work)(hT:OA q i Ch s x b₁ a₁ ops₁ i₁ rest₁ k₁ cs₁){μ pr:Nat}(ih:∀μ',μ'<μ->V9 q i Ch s x b₁ a₁ ops₁ i₁ rest₁ k₁ cs₁ μ'){it wst:Int}{st:St aJ}(h0:0<=it)(h4':it<=4){w N:Nat}(hμ:5*pr+(4-it).toNat=μ)(hA:At s i {x with mx:=.cont false,df:=1} st)(hR:Rd s st pr 1 w 1 N):
  JR q i Ch s b₁ a₁ ops₁ i₁ rest₁ k₁ cs₁ false false it wst (enc 1 w 1 N) st:=by
 have h5:bits BinOp.and IntKind.i32 (enc 1 w 1 N) 5=5:=wu 1 w 1 N (by omega) (by first|omega|exact hR.w1) (by omega) (by have:=hR.n9;omega);have h4:bits BinOp.and IntKind.i32 (enc 1 w 1 N) 4=4:=mW 1 w 1 N (by omega) (by first|omega|exact hR.w1) (by omega) (by have:=hR.n9;omega);have o8:IntKind.wrap IntKind.i32 (enc 1 w 1 N+8)=enc 1 w 1 (N+1):=Fj 1 w 1 N (by omega) (by first|omega|exact hR.w1) (by omega) (by have:=hR.n9;omega);intro j1 j7 j8 j9 j10 j11 j12 j13 j14 j15 j16 j17 j18 j19 j20 j21 j22 j23 j24 j25 j26 j27 j28 j29 j30 j31 j32 j33 j34 j35 j36 j37 j38 j39 j40 j41 j42 j43 j44 j45 j46 j47 j48 j49 j50 j51 j52 j53 j54 j55 j56 j57 j58 j59 j60 j61 j62 j63 j64 j65 j66 j67 j68 j69 j70 j71 j72 j73 j74 j75 j76 j77 j78 j79 j80 j81 j82 j83 j84 j85 j86 j87 j88 j89 j90 j91 j92 j93 j94 j95 j96 j97 j98 j99 j100 j101 j102 j103 j104 j105 j106 j107 j108 j109 j110 j111 j112 j113 j114 j115 j116 j117 j118 j119 j120 j121 j122 j123 j124 j125 j126 j127 j128 j129 j130 j131 j132 j133 j134 j135 j136 j137 j138;simp only[eX,eU,fK,iy,nK,Try.f105,Option.getD_some];refine TT.road hP hA (by simp[hx]) 140 fun w₀ hF=>?_
 repeat w_go aj
 refine Goes.stop (fun w₁ r₁=>⟨rfl,?_⟩);clear hF w₀;refine TT.mu hP hA hx (mx:=.cont false) rfl (by simp) fun ah au hI₁ aB p1 p2 p3 p4=>?_
 have bJ:=hR.later p1 p2;by_cases hit:enc ah.γ.L ah.γ.W ah.γ.S ah.γ.N=enc 1 w 1 N
 ·obtain⟨e1,e2,e3,e4⟩:=jW hit aB.mu.bd ⟨by omega,by first|omega|exact hR.w1,by omega⟩;refine⟨_,_,_,.queued,1,ah.γ.L,ah.γ.W-Bool.toNat false,ah.γ.S,ah.γ.N+1,ah.γ.tn,ah.γ.th,stepG_cas_hit rfl rfl (by k_ne) rfl Try.func104 jk jm ji .i32 jl rfl rfl rfl (hit ▸ aB.gb.cell.2.1) (aB.gb.cell.2.2.2 4),rfl,kU _ _,by simp,by simp,aB.mu.queue au.lo (au.hi hI₁) false (dA au) (.inr e3),aB.gb.swap rfl (by rw[e1,e2,e3,e4];rfl),aY.set _ 4 _ (by omega),.inl (by simp[kM]),.inl (by omega),jh 4 (.inl rfl),.inr (Nat.le_refl _),fun ay aC aT _ _ _ f₂=>?_⟩;have oZ:phi ay.γ s<pr:=by have:=bJ.le;simp only[kM]at f₂;omega
  clear hit bJ aB au hI₁;refine TT.road hP aC (by simp[hx]) 60 fun w₀ hF=>?_
  walk_nrm
  w_but "code.seq" aj
  w_but "code.seq" aj
  w_go aj
  w_go aj
  repeat w_but "code.seq" aj
  refine Goes.stop (fun w₁ r₁=>⟨rfl,?_⟩);exact qx hP hx hT (fun μ' h=>ih μ' (by omega)) aC aT oZ ..
 ·refine⟨_,_,_,.cont false,1,ah.γ.L,ah.γ.W,ah.γ.S,ah.γ.N,ah.γ.tn,ah.γ.th,stepG_cas_miss rfl rfl (by k_ne) rfl Try.func104 jk jm ji .i32 jl rfl rfl rfl aB.gb.cell.2.1 (aB.gb.cell.2.2.2 4) hit,rfl,wz _ _,by simp,by simp,jC.still aB au rfl,aB.gb.stay rfl rfl,aY.refl _,.inr ⟨rfl,rfl,rfl,rfl,rfl⟩,.inl (Nat.le_refl _),pW 4 (by omega),.inr (Nat.le_refl _),fun ay aC aT _ w₂ _ f₂=>?_⟩;have hlt:phi ay.γ s<pr:=by
   refine Nat.lt_of_le_of_ne (by have:=bJ.le;omega) fun e=>hit ?_
   obtain⟨a,b,c,d⟩:=bJ.eq (by omega);rw[a,b,c,d]
  clear hit bJ aB au hI₁;refine TT.road hP aC (by simp[hx]) 60 fun w₀ hF=>?_
  walk_nrm
  repeat w_go aj
  refine Goes.stop (fun w₁ r₁=>⟨rfl,?_⟩);clear hF w₀;refine TT.lI hP aC hx (mx:=.cont false) rfl (by simp) fun bH aQ bF aX=>⟨_,_,_,1,stepG_loadQ rfl rfl (by k_ne) rfl rfl aX.gb.cell.2.1 je,rfl,rfl,rfl,aY.refl _,dG,fun bM aI bY _ w₄ jo _=>?_⟩
  have iF:=Rd.now (bY.aZ s aI.sc).c;rw[w₄.1,w₄.2.1,w₄.2.2.1,w₄.2.2.2]at iF;clear aX aQ bF;refine TT.road hP aI (by simp[hx]) 60 fun w₀ hF=>?_
  walk_nrm
  repeat w_nl aj
  u_c stepG_inLoop aj hF
  refine Goes.stop (fun w₁ r₁=>⟨rfl,?_⟩);exact ih _ (by omega) _ it false false wst _ _ _ _ bM rfl h0 h4' aI bY iF (by simp) (by simp) ..
end
end
section
section
variable{q:ig}(hP:q.P=Try.prog){i:Nat}{s:aO}{x:Wk}{Ch:Nat->Goroutine->St aJ->Prop}
variable{b₁:Frame}{a₁:Act}{ops₁:Array Oper}{i₁:Nat}{rest₁:List Nat}{k₁:List Item}{cs₁:List Frame}
include hP
theorem ai1(hx:x.wg=.work)(hT:OA q i Ch s x b₁ a₁ ops₁ i₁ rest₁ k₁ cs₁){μ pr:Nat}(ih:∀μ',μ'<μ->V9 q i Ch s x b₁ a₁ ops₁ i₁ rest₁ k₁ cs₁ μ'){it wst:Int}{st:St aJ}(h0:0<=it)(h4':it<=4){w N:Nat}(hμ:5*pr+(4-it).toNat=μ)(hA:At s i {x with mx:=.cont false,df:=1} st)(hR:Rd s st pr 1 w 0 N):
  JR q i Ch s b₁ a₁ ops₁ i₁ rest₁ k₁ cs₁ false false it wst (enc 1 w 0 N) st:=by
 have h5:bits BinOp.and IntKind.i32 (enc 1 w 0 N) 5=1:=wu 1 w 0 N (by omega) (by first|omega|exact hR.w1) (by omega) (by have:=hR.n9;omega);have h4:bits BinOp.and IntKind.i32 (enc 1 w 0 N) 4=0:=mW 1 w 0 N (by omega) (by first|omega|exact hR.w1) (by omega) (by have:=hR.n9;omega);have o1:bits BinOp.or IntKind.i32 (enc 1 w 0 N) 1=(enc 1 w 0 N):=Hf 1 w 0 N (by omega) (by first|omega|exact hR.w1) (by omega) (by have:=hR.n9;omega);have o8:IntKind.wrap IntKind.i32 (enc 1 w 0 N+8)=enc 1 w 0 (N+1):=Fj 1 w 0 N (by omega) (by first|omega|exact hR.w1) (by omega) (by have:=hR.n9;omega);have hlt:it<4->IntKind.wrap IntKind.i64 (it+1)=it+1:=fun h=>by unfold IntKind.wrap;simp[IntKind.bits,IntKind.signed];omega
 intro j1 j7 j8 j9 j10 j11 j12 j13 j14 j15 j16 j17 j18 j19 j20 j21 j22 j23 j24 j25 j26 j27 j28 j29 j30 j31 j32 j33 j34 j35 j36 j37 j38 j39 j40 j41 j42 j43 j44 j45 j46 j47 j48 j49 j50 j51 j52 j53 j54 j55 j56 j57 j58 j59 j60 j61 j62 j63 j64 j65 j66 j67 j68 j69 j70 j71 j72 j73 j74 j75 j76 j77 j78 j79 j80 j81 j82 j83 j84 j85 j86 j87 j88 j89 j90 j91 j92 j93 j94 j95 j96 j97 j98 j99 j100 j101 j102 j103 j104 j105 j106 j107 j108 j109 j110 j111 j112 j113 j114 j115 j116 j117 j118 j119 j120 j121 j122 j123 j124 j125 j126 j127 j128 j129 j130 j131 j132 j133 j134 j135 j136 j137 j138;simp only[eX,eU,fK,iy,nK,Try.f105,Option.getD_some];refine TT.road hP hA (by simp[hx]) 140 fun w₀ hF=>?_
 repeat w_go aj
 refine Goes.stop (fun w₁ r₁=>⟨rfl,?_⟩);clear hF w₀;by_cases h4i:it<4
 ·have hw:=hlt h4i;clear hlt;refine TT.lI hP hA hx (mx:=.cont false) rfl (by simp) fun bH aQ bF aX=>⟨_,_,_,1,stepG_canSpin_ask rfl rfl (by k_ne) rfl Try.func118 AV Bv Aj Bc (k:=.i64) (n:=it) (by simp[Act.eval]) h4i,rfl,rfl,rfl,aY.asked _,dG,fun bM aI bY _ _ jo _=>?_⟩
  generalize bH.w.spins=sp;clear aX aQ bF hA;cases sp
  ·have hR:=hR.later jo.1 jo.2;have hA:At s i {x with mx:=.cont false,df:=1} bM:=aI;clear aI;refine TT.road hP hA (by simp[hx]) 140 fun w₀ hF=>?_
   walk_nrm
   repeat w_go aj
   refine Goes.stop (fun w₁ r₁=>⟨rfl,?_⟩);clear hF w₀;refine TT.mu hP hA hx (mx:=.cont false) rfl (by simp) fun ah au hI₁ aB p1 p2 p3 p4=>?_
   have bJ:=hR.later p1 p2;by_cases hit:enc ah.γ.L ah.γ.W ah.γ.S ah.γ.N=enc 1 w 0 N
   ·obtain⟨e1,e2,e3,e4⟩:=jW hit aB.mu.bd ⟨by omega,by first|omega|exact hR.w1,by omega⟩;refine⟨_,_,_,.queued,1,ah.γ.L,ah.γ.W-Bool.toNat false,ah.γ.S,ah.γ.N+1,ah.γ.tn,ah.γ.th,stepG_cas_hit rfl rfl (by k_ne) rfl Try.func104 jk jm ji .i32 jl rfl rfl rfl (hit ▸ aB.gb.cell.2.1) (aB.gb.cell.2.2.2 4),rfl,kU _ _,by simp,by simp,aB.mu.queue au.lo (au.hi hI₁) false (dA au) (.inl e1),aB.gb.swap rfl (by rw[e1,e2,e3,e4];rfl),aY.set _ 4 _ (by omega),.inl (by simp[kM]),.inl (by omega),jh 4 (.inl rfl),.inr (Nat.le_refl _),fun ay aC aT _ _ _ f₂=>?_⟩;have oZ:phi ay.γ s<pr:=by have:=bJ.le;simp only[kM]at f₂;omega
    clear hit bJ aB au hI₁;refine TT.road hP aC (by simp[hx]) 60 fun w₀ hF=>?_
    walk_nrm
    w_but "code.seq" aj
    w_but "code.seq" aj
    w_go aj
    w_go aj
    repeat w_but "code.seq" aj
    refine Goes.stop (fun w₁ r₁=>⟨rfl,?_⟩);exact qx hP hx hT (fun μ' h=>ih μ' (by omega)) aC aT oZ ..
   ·refine⟨_,_,_,.cont false,1,ah.γ.L,ah.γ.W,ah.γ.S,ah.γ.N,ah.γ.tn,ah.γ.th,stepG_cas_miss rfl rfl (by k_ne) rfl Try.func104 jk jm ji .i32 jl rfl rfl rfl aB.gb.cell.2.1 (aB.gb.cell.2.2.2 4) hit,rfl,wz _ _,by simp,by simp,jC.still aB au rfl,aB.gb.stay rfl rfl,aY.refl _,.inr ⟨rfl,rfl,rfl,rfl,rfl⟩,.inl (Nat.le_refl _),pW 4 (by omega),.inr (Nat.le_refl _),fun ay aC aT _ w₂ _ f₂=>?_⟩;have hlt:phi ay.γ s<pr:=by
     refine Nat.lt_of_le_of_ne (by have:=bJ.le;omega) fun e=>hit ?_
     obtain⟨a,b,c,d⟩:=bJ.eq (by omega);rw[a,b,c,d]
    clear hit bJ aB au hI₁;refine TT.road hP aC (by simp[hx]) 60 fun w₀ hF=>?_
    walk_nrm
    repeat w_go aj
    refine Goes.stop (fun w₁ r₁=>⟨rfl,?_⟩);clear hF w₀;refine TT.lI hP aC hx (mx:=.cont false) rfl (by simp) fun bH aQ bF aX=>⟨_,_,_,1,stepG_loadQ rfl rfl (by k_ne) rfl rfl aX.gb.cell.2.1 je,rfl,rfl,rfl,aY.refl _,dG,fun bM aI bY _ w₄ jo _=>?_⟩
    have iF:=Rd.now (bY.aZ s aI.sc).c;rw[w₄.1,w₄.2.1,w₄.2.2.1,w₄.2.2.2]at iF;clear aX aQ bF;refine TT.road hP aI (by simp[hx]) 60 fun w₀ hF=>?_
    walk_nrm
    repeat w_nl aj
    u_c stepG_inLoop aj hF
    refine Goes.stop (fun w₁ r₁=>⟨rfl,?_⟩);exact ih _ (by omega) _ it false false wst _ _ _ _ bM rfl h0 h4' aI bY iF (by simp) (by simp) ..
  ·have hR:=hR.later jo.1 jo.2;have hA:At s i {x with mx:=.cont false,df:=1} bM:=aI;clear aI;rcases (by have:=hR.w1;omega:w=0\/w=1)with rfl|rfl
   ·have h2:bits BinOp.and IntKind.i32 (enc 1 0 0 N) 2=0:=Bh 1 0 0 N (by omega) (by omega) (by omega) (by have:=hR.n9;omega);have o2:bits BinOp.or IntKind.i32 (enc 1 0 0 N) 2=enc 1 1 0 N:=av1 1 0 0 N (by omega) (by omega) (by omega) (by have:=hR.n9;omega);obtain⟨nn,hd,hnn⟩:∃nn:Int,enc 1 0 0 N/8=nn/\nn=N:=⟨_,YN 1 0 0 N (by omega) (by omega) (by omega),rfl⟩;clear hnn;have hnz:nn=0\/(nn != 0)=true:=by by_cases h:nn=0<;>simp[h]
    rcases hnz with rfl|hnz
    ·have hle:phi bM.γ s<=pr:=hR.le;refine TT.road hP hA (by simp[hx]) 80 fun w₀ hF=>?_
     walk_nrm
     repeat w_go aj
     u_in aj hF
     rw[stepG_entry_pure (.tuple #[]) rfl rfl (by k_ne) rfl Try.func119 UZ VF Uf Vj];simp only[goes_go];refine⟨by u_nil,?_⟩;walk_nrm
     repeat w_go aj
     refine Goes.stop (fun w₁ r₁=>⟨rfl,?_⟩);clear hF w₀;refine TT.lI hP hA hx (mx:=.cont false) rfl (by simp) fun aV bg dD bI=>⟨_,_,_,1,stepG_loadQ rfl rfl (by k_ne) rfl rfl bI.gb.cell.2.1 je,rfl,rfl,rfl,aY.refl _,dG,fun eH bf dK _ w₆ yF _=>?_⟩
     have iY:=Rd.now (dK.aZ s bf.sc).c;rw[w₆.1,w₆.2.1,w₆.2.2.1,w₆.2.2.2]at iY;refine TT.road hP bf (by simp[hx]) 60 fun w₀ hF=>?_
     walk_nrm
     repeat w_nl aj
     u_c stepG_inLoop aj hF
     refine Goes.stop (fun w₁ r₁=>⟨rfl,?_⟩);exact ih _ (by omega) _ (it+1) false false wst _ _ _ _ eH rfl (by omega) (by omega) bf dK iY (by simp) (by simp) ..
    ·refine TT.road hP hA (by simp[hx]) 140 fun w₀ hF=>?_
     walk_nrm
     repeat w_go aj
     refine Goes.stop (fun w₁ r₁=>⟨rfl,?_⟩);clear hF w₀;refine TT.mu hP hA hx (mx:=.cont false) rfl (by simp) fun ah au hI₁ aB p1 p2 p3 p4=>?_
     have bJ:=hR.later p1 p2;by_cases hit:enc ah.γ.L ah.γ.W ah.γ.S ah.γ.N=enc 1 0 0 N
     ·obtain⟨e1,e2,e3,e4⟩:=jW hit aB.mu.bd ⟨by omega,by omega,by omega⟩;refine⟨_,_,_,.cont true,1,ah.γ.L,1,ah.γ.S,ah.γ.N,ah.γ.tn,ah.γ.th,stepG_cas_hit rfl rfl (by k_ne) rfl Try.func104 jk jm ji .i32 jl rfl rfl rfl (hit ▸ aB.gb.cell.2.1) (aB.gb.cell.2.2.2 4),rfl,kU _ _,by simp,by simp,aB.mu.spin au.lo (au.hi hI₁) (dA au) ⟨e1,e2,e3⟩,aB.gb.swap rfl (by rw[e1,e3,e4]),aY.set _ 4 _ (by omega),.inl (by simp[kM]),.inl (Nat.le_refl _),jh 4 (.inl rfl),.inr (Nat.le_refl _),fun ay aC aT _ _ _ f₂=>?_⟩;have hle:phi ay.γ s<pr:=by have:=bJ.le;simp only[kM]at f₂;omega
      clear hit bJ aB au hI₁ e1 e2 e3 e4;refine TT.road hP aC (by simp[hx]) 80 fun w₀ hF=>?_
      walk_nrm
      repeat w_go aj
      u_in aj hF
      rw[stepG_entry_pure (.tuple #[]) rfl rfl (by k_ne) rfl Try.func119 UZ VF Uf Vj];simp only[goes_go];refine⟨by u_nil,?_⟩;walk_nrm
      repeat w_go aj
      refine Goes.stop (fun w₁ r₁=>⟨rfl,?_⟩);clear hF w₀;refine TT.lI hP aC hx (mx:=.cont true) rfl (by simp) fun aV bg dD bI=>⟨_,_,_,1,stepG_loadQ rfl rfl (by k_ne) rfl rfl bI.gb.cell.2.1 je,rfl,rfl,rfl,aY.refl _,dG,fun eH bf dK _ w₆ yF _=>?_⟩
      have iY:=Rd.now (dK.aZ s bf.sc).c;rw[w₆.1,w₆.2.1,w₆.2.2.1,w₆.2.2.2]at iY;refine TT.road hP bf (by simp[hx]) 60 fun w₀ hF=>?_
      walk_nrm
      repeat w_nl aj
      u_c stepG_inLoop aj hF
      refine Goes.stop (fun w₁ r₁=>⟨rfl,?_⟩);have hWS:=bI.mu.JC bg.lo (bg.hi dD) (dA bg);exact ih _ (by omega) _ (it+1) true false wst _ _ _ _ eH rfl (by omega) (by omega) bf dK iY (fun _=>⟨hWS.1,hWS.2.1⟩) (by simp) ..
     ·refine⟨_,_,_,.cont false,1,ah.γ.L,ah.γ.W,ah.γ.S,ah.γ.N,ah.γ.tn,ah.γ.th,stepG_cas_miss rfl rfl (by k_ne) rfl Try.func104 jk jm ji .i32 jl rfl rfl rfl aB.gb.cell.2.1 (aB.gb.cell.2.2.2 4) hit,rfl,wz _ _,by simp,by simp,jC.still aB au rfl,aB.gb.stay rfl rfl,aY.refl _,.inr ⟨rfl,rfl,rfl,rfl,rfl⟩,.inl (Nat.le_refl _),pW 4 (by omega),.inr (Nat.le_refl _),fun ay aC aT _ w₂ _ f₂=>?_⟩;have hle:phi ay.γ s<=pr:=by have:=bJ.le;omega
      clear hit bJ aB au hI₁;refine TT.road hP aC (by simp[hx]) 80 fun w₀ hF=>?_
      walk_nrm
      repeat w_go aj
      u_in aj hF
      rw[stepG_entry_pure (.tuple #[]) rfl rfl (by k_ne) rfl Try.func119 UZ VF Uf Vj];simp only[goes_go];refine⟨by u_nil,?_⟩;walk_nrm
      repeat w_go aj
      refine Goes.stop (fun w₁ r₁=>⟨rfl,?_⟩);clear hF w₀;refine TT.lI hP aC hx (mx:=.cont false) rfl (by simp) fun aV bg dD bI=>⟨_,_,_,1,stepG_loadQ rfl rfl (by k_ne) rfl rfl bI.gb.cell.2.1 je,rfl,rfl,rfl,aY.refl _,dG,fun eH bf dK _ w₆ yF _=>?_⟩
      have iY:=Rd.now (dK.aZ s bf.sc).c;rw[w₆.1,w₆.2.1,w₆.2.2.1,w₆.2.2.2]at iY;refine TT.road hP bf (by simp[hx]) 60 fun w₀ hF=>?_
      walk_nrm
      repeat w_nl aj
      u_c stepG_inLoop aj hF
      refine Goes.stop (fun w₁ r₁=>⟨rfl,?_⟩);exact ih _ (by omega) _ (it+1) false false wst _ _ _ _ eH rfl (by omega) (by omega) bf dK iY (by simp) (by simp) ..
   ·have h2:bits BinOp.and IntKind.i32 (enc 1 1 0 N) 2=2:=Bh 1 1 0 N (by omega) (by omega) (by omega) (by have:=hR.n9;omega);have hle:phi bM.γ s<=pr:=hR.le;refine TT.road hP hA (by simp[hx]) 80 fun w₀ hF=>?_
    walk_nrm
    repeat w_go aj
    u_in aj hF
    rw[stepG_entry_pure (.tuple #[]) rfl rfl (by k_ne) rfl Try.func119 UZ VF Uf Vj];simp only[goes_go];refine⟨by u_nil,?_⟩;walk_nrm
    repeat w_go aj
    refine Goes.stop (fun w₁ r₁=>⟨rfl,?_⟩);clear hF w₀;refine TT.lI hP hA hx (mx:=.cont false) rfl (by simp) fun aV bg dD bI=>⟨_,_,_,1,stepG_loadQ rfl rfl (by k_ne) rfl rfl bI.gb.cell.2.1 je,rfl,rfl,rfl,aY.refl _,dG,fun eH bf dK _ w₆ yF _=>?_⟩
    have iY:=Rd.now (dK.aZ s bf.sc).c;rw[w₆.1,w₆.2.1,w₆.2.2.1,w₆.2.2.2]at iY;refine TT.road hP bf (by simp[hx]) 60 fun w₀ hF=>?_
    walk_nrm
    repeat w_nl aj
    u_c stepG_inLoop aj hF
    refine Goes.stop (fun w₁ r₁=>⟨rfl,?_⟩);exact ih _ (by omega) _ (it+1) false false wst _ _ _ _ eH rfl (by omega) (by omega) bf dK iY (by simp) (by simp) ..
 ·clear hlt;refine TT.lI hP hA hx (mx:=.cont false) rfl (by simp) fun bH aQ bF aX=>⟨_,_,_,1,stepG_canSpin_no rfl rfl (by k_ne) rfl Try.func118 AV Bv Aj Bc (k:=.i64) (n:=it) (by simp[Act.eval]) (by omega),rfl,rfl,rfl,aY.refl _,dG,fun bM aI bY _ _ jo _=>?_⟩
  clear aX aQ bF hA;have hR:=hR.later jo.1 jo.2;have hA:At s i {x with mx:=.cont false,df:=1} bM:=aI;clear aI;refine TT.road hP hA (by simp[hx]) 140 fun w₀ hF=>?_
  walk_nrm
  repeat w_go aj
  refine Goes.stop (fun w₁ r₁=>⟨rfl,?_⟩);clear hF w₀;refine TT.mu hP hA hx (mx:=.cont false) rfl (by simp) fun ah au hI₁ aB p1 p2 p3 p4=>?_
  have bJ:=hR.later p1 p2;by_cases hit:enc ah.γ.L ah.γ.W ah.γ.S ah.γ.N=enc 1 w 0 N
  ·obtain⟨e1,e2,e3,e4⟩:=jW hit aB.mu.bd ⟨by omega,by first|omega|exact hR.w1,by omega⟩;refine⟨_,_,_,.queued,1,ah.γ.L,ah.γ.W-Bool.toNat false,ah.γ.S,ah.γ.N+1,ah.γ.tn,ah.γ.th,stepG_cas_hit rfl rfl (by k_ne) rfl Try.func104 jk jm ji .i32 jl rfl rfl rfl (hit ▸ aB.gb.cell.2.1) (aB.gb.cell.2.2.2 4),rfl,kU _ _,by simp,by simp,aB.mu.queue au.lo (au.hi hI₁) false (dA au) (.inl e1),aB.gb.swap rfl (by rw[e1,e2,e3,e4];rfl),aY.set _ 4 _ (by omega),.inl (by simp[kM]),.inl (by omega),jh 4 (.inl rfl),.inr (Nat.le_refl _),fun ay aC aT _ _ _ f₂=>?_⟩;have oZ:phi ay.γ s<pr:=by have:=bJ.le;simp only[kM]at f₂;omega
   clear hit bJ aB au hI₁;refine TT.road hP aC (by simp[hx]) 60 fun w₀ hF=>?_
   walk_nrm
   w_but "code.seq" aj
   w_but "code.seq" aj
   w_go aj
   w_go aj
   repeat w_but "code.seq" aj
   refine Goes.stop (fun w₁ r₁=>⟨rfl,?_⟩);exact qx hP hx hT (fun μ' h=>ih μ' (by omega)) aC aT oZ ..
  ·refine⟨_,_,_,.cont false,1,ah.γ.L,ah.γ.W,ah.γ.S,ah.γ.N,ah.γ.tn,ah.γ.th,stepG_cas_miss rfl rfl (by k_ne) rfl Try.func104 jk jm ji .i32 jl rfl rfl rfl aB.gb.cell.2.1 (aB.gb.cell.2.2.2 4) hit,rfl,wz _ _,by simp,by simp,jC.still aB au rfl,aB.gb.stay rfl rfl,aY.refl _,.inr ⟨rfl,rfl,rfl,rfl,rfl⟩,.inl (Nat.le_refl _),pW 4 (by omega),.inr (Nat.le_refl _),fun ay aC aT _ w₂ _ f₂=>?_⟩;have hlt:phi ay.γ s<pr:=by
    refine Nat.lt_of_le_of_ne (by have:=bJ.le;omega) fun e=>hit ?_
    obtain⟨a,b,c,d⟩:=bJ.eq (by omega);rw[a,b,c,d]
   clear hit bJ aB au hI₁;refine TT.road hP aC (by simp[hx]) 60 fun w₀ hF=>?_
   walk_nrm
   repeat w_go aj
   refine Goes.stop (fun w₁ r₁=>⟨rfl,?_⟩);clear hF w₀;refine TT.lI hP aC hx (mx:=.cont false) rfl (by simp) fun bH aQ bF aX=>⟨_,_,_,1,stepG_loadQ rfl rfl (by k_ne) rfl rfl aX.gb.cell.2.1 je,rfl,rfl,rfl,aY.refl _,dG,fun bM aI bY _ w₄ jo _=>?_⟩
   have iF:=Rd.now (bY.aZ s aI.sc).c;rw[w₄.1,w₄.2.1,w₄.2.2.1,w₄.2.2.2]at iF;clear aX aQ bF;refine TT.road hP aI (by simp[hx]) 60 fun w₀ hF=>?_
   walk_nrm
   repeat w_nl aj
   u_c stepG_inLoop aj hF
   refine Goes.stop (fun w₁ r₁=>⟨rfl,?_⟩);exact ih _ (by omega) _ it false false wst _ _ _ _ bM rfl h0 h4' aI bY iF (by simp) (by simp) ..
end
end
section
section
variable{q:ig}(hP:q.P=Try.prog){i:Nat}{s:aO}{x:Wk}{Ch:Nat->Goroutine->St aJ->Prop}
variable{b₁:Frame}{a₁:Act}{ops₁:Array Oper}{i₁:Nat}{rest₁:List Nat}{k₁:List Item}{cs₁:List Frame}
include hP
theorem ai0(hx:x.wg=.work)(hT:OA q i Ch s x b₁ a₁ ops₁ i₁ rest₁ k₁ cs₁){μ pr:Nat}(ih:∀μ',μ'<μ->V9 q i Ch s x b₁ a₁ ops₁ i₁ rest₁ k₁ cs₁ μ'){it wst:Int}{st:St aJ}(h0:0<=it)(h4':it<=4){N:Nat}(hμ:5*pr+(4-it).toNat=μ)(hA:At s i {x with mx:=.cont true,df:=1} st)(hR:Rd s st pr 1 1 0 N):
  JR q i Ch s b₁ a₁ ops₁ i₁ rest₁ k₁ cs₁ true false it wst (enc 1 1 0 N) st:=by
 have h5:bits BinOp.and IntKind.i32 (enc 1 1 0 N) 5=1:=wu 1 1 0 N (by omega) (by first|omega|exact hR.w1) (by omega) (by have:=hR.n9;omega);have h4:bits BinOp.and IntKind.i32 (enc 1 1 0 N) 4=0:=mW 1 1 0 N (by omega) (by first|omega|exact hR.w1) (by omega) (by have:=hR.n9;omega);have o1:bits BinOp.or IntKind.i32 (enc 1 1 0 N) 1=(enc 1 1 0 N):=Hf 1 1 0 N (by omega) (by first|omega|exact hR.w1) (by omega) (by have:=hR.n9;omega);have o8:IntKind.wrap IntKind.i32 (enc 1 1 0 N+8)=enc 1 1 0 (N+1):=Fj 1 1 0 N (by omega) (by first|omega|exact hR.w1) (by omega) (by have:=hR.n9;omega);have h2:bits BinOp.and IntKind.i32 (enc 1 1 0 (N+1)) 2=2:=Bh 1 1 0 (N+1) (by omega) (by first|omega|exact hR.w1) (by omega) (by have:=hR.n9;omega);have n2:bits BinOp.andNot IntKind.i32 (enc 1 1 0 (N+1)) 2=enc 1 0 0 (N+1):=Ju 1 1 0 (N+1) (by omega) (by first|omega|exact hR.w1) (by omega) (by have:=hR.n9;omega);have hlt:it<4->IntKind.wrap IntKind.i64 (it+1)=it+1:=fun h=>by unfold IntKind.wrap;simp[IntKind.bits,IntKind.signed];omega
 intro j1 j7 j8 j9 j10 j11 j12 j13 j14 j15 j16 j17 j18 j19 j20 j21 j22 j23 j24 j25 j26 j27 j28 j29 j30 j31 j32 j33 j34 j35 j36 j37 j38 j39 j40 j41 j42 j43 j44 j45 j46 j47 j48 j49 j50 j51 j52 j53 j54 j55 j56 j57 j58 j59 j60 j61 j62 j63 j64 j65 j66 j67 j68 j69 j70 j71 j72 j73 j74 j75 j76 j77 j78 j79 j80 j81 j82 j83 j84 j85 j86 j87 j88 j89 j90 j91 j92 j93 j94 j95 j96 j97 j98 j99 j100 j101 j102 j103 j104 j105 j106 j107 j108 j109 j110 j111 j112 j113 j114 j115 j116 j117 j118 j119 j120 j121 j122 j123 j124 j125 j126 j127 j128 j129 j130 j131 j132 j133 j134 j135 j136 j137 j138;simp only[eX,eU,fK,iy,nK,Try.f105,Option.getD_some];refine TT.road hP hA (by simp[hx]) 140 fun w₀ hF=>?_
 repeat w_go aj
 refine Goes.stop (fun w₁ r₁=>⟨rfl,?_⟩);clear hF w₀;by_cases h4i:it<4
 ·have hw:=hlt h4i;clear hlt;refine TT.lI hP hA hx (mx:=.cont true) rfl (by simp) fun bH aQ bF aX=>⟨_,_,_,1,stepG_canSpin_ask rfl rfl (by k_ne) rfl Try.func118 AV Bv Aj Bc (k:=.i64) (n:=it) (by simp[Act.eval]) h4i,rfl,rfl,rfl,aY.asked _,dG,fun bM aI bY _ _ jo _=>?_⟩
  generalize bH.w.spins=sp;clear aX aQ bF hA;cases sp
  ·have hR:=hR.later jo.1 jo.2;have hA:At s i {x with mx:=.cont true,df:=1} bM:=aI;clear aI;refine TT.road hP hA (by simp[hx]) 140 fun w₀ hF=>?_
   walk_nrm
   repeat w_go aj
   refine Goes.stop (fun w₁ r₁=>⟨rfl,?_⟩);clear hF w₀;refine TT.mu hP hA hx (mx:=.cont true) rfl (by simp) fun ah au hI₁ aB p1 p2 p3 p4=>?_
   have bJ:=hR.later p1 p2;by_cases hit:enc ah.γ.L ah.γ.W ah.γ.S ah.γ.N=enc 1 1 0 N
   ·obtain⟨e1,e2,e3,e4⟩:=jW hit aB.mu.bd ⟨by omega,by first|omega|exact hR.w1,by omega⟩;refine⟨_,_,_,.queued,1,ah.γ.L,ah.γ.W-Bool.toNat true,ah.γ.S,ah.γ.N+1,ah.γ.tn,ah.γ.th,stepG_cas_hit rfl rfl (by k_ne) rfl Try.func104 jk jm ji .i32 jl rfl rfl rfl (hit ▸ aB.gb.cell.2.1) (aB.gb.cell.2.2.2 4),rfl,kU _ _,by simp,by simp,aB.mu.queue au.lo (au.hi hI₁) true (dA au) (.inl e1),aB.gb.swap rfl (by rw[e1,e2,e3,e4];rfl),aY.set _ 4 _ (by omega),.inl (by simp[kM]),.inl (by omega),jh 4 (.inl rfl),.inr (Nat.le_refl _),fun ay aC aT _ _ _ f₂=>?_⟩;have oZ:phi ay.γ s<pr:=by have:=bJ.le;simp only[kM]at f₂;omega
    clear hit bJ aB au hI₁;refine TT.road hP aC (by simp[hx]) 60 fun w₀ hF=>?_
    walk_nrm
    w_but "code.seq" aj
    w_but "code.seq" aj
    w_go aj
    w_go aj
    repeat w_but "code.seq" aj
    refine Goes.stop (fun w₁ r₁=>⟨rfl,?_⟩);exact qx hP hx hT (fun μ' h=>ih μ' (by omega)) aC aT oZ ..
   ·refine⟨_,_,_,.cont true,1,ah.γ.L,ah.γ.W,ah.γ.S,ah.γ.N,ah.γ.tn,ah.γ.th,stepG_cas_miss rfl rfl (by k_ne) rfl Try.func104 jk jm ji .i32 jl rfl rfl rfl aB.gb.cell.2.1 (aB.gb.cell.2.2.2 4) hit,rfl,wz _ _,by simp,by simp,jC.still aB au rfl,aB.gb.stay rfl rfl,aY.refl _,.inr ⟨rfl,rfl,rfl,rfl,rfl⟩,.inl (Nat.le_refl _),pW 4 (by omega),.inr (Nat.le_refl _),fun ay aC aT _ w₂ _ f₂=>?_⟩;have hlt:phi ay.γ s<pr:=by
     refine Nat.lt_of_le_of_ne (by have:=bJ.le;omega) fun e=>hit ?_
     obtain⟨a,b,c,d⟩:=bJ.eq (by omega);rw[a,b,c,d]
    clear hit bJ aB au hI₁;refine TT.road hP aC (by simp[hx]) 60 fun w₀ hF=>?_
    walk_nrm
    repeat w_go aj
    refine Goes.stop (fun w₁ r₁=>⟨rfl,?_⟩);clear hF w₀;refine TT.lI hP aC hx (mx:=.cont true) rfl (by simp) fun bH aQ bF aX=>⟨_,_,_,1,stepG_loadQ rfl rfl (by k_ne) rfl rfl aX.gb.cell.2.1 je,rfl,rfl,rfl,aY.refl _,dG,fun bM aI bY _ w₄ jo _=>?_⟩
    have iF:=Rd.now (bY.aZ s aI.sc).c;rw[w₄.1,w₄.2.1,w₄.2.2.1,w₄.2.2.2]at iF;refine TT.road hP aI (by simp[hx]) 60 fun w₀ hF=>?_
    walk_nrm
    repeat w_nl aj
    u_c stepG_inLoop aj hF
    refine Goes.stop (fun w₁ r₁=>⟨rfl,?_⟩);have hWS:=aX.mu.JC aQ.lo (aQ.hi bF) (dA aQ);exact ih _ (by omega) _ it true false wst _ _ _ _ bM rfl h0 h4' aI bY iF (fun _=>⟨hWS.1,hWS.2.1⟩) (by simp) ..
  ·have hle:phi bM.γ s<=pr:=(hR.later jo.1 jo.2).le;refine TT.road hP aI (by simp[hx]) 80 fun w₀ hF=>?_
   walk_nrm
   repeat w_go aj
   u_in aj hF
   rw[stepG_entry_pure (.tuple #[]) rfl rfl (by k_ne) rfl Try.func119 UZ VF Uf Vj];simp only[goes_go];refine⟨by u_nil,?_⟩;walk_nrm
   repeat w_go aj
   refine Goes.stop (fun w₁ r₁=>⟨rfl,?_⟩);clear hF w₀;refine TT.lI hP aI hx (mx:=.cont true) rfl (by simp) fun aV bg dD bI=>⟨_,_,_,1,stepG_loadQ rfl rfl (by k_ne) rfl rfl bI.gb.cell.2.1 je,rfl,rfl,rfl,aY.refl _,dG,fun eH bf dK _ w₆ yF _=>?_⟩
   have iY:=Rd.now (dK.aZ s bf.sc).c;rw[w₆.1,w₆.2.1,w₆.2.2.1,w₆.2.2.2]at iY;refine TT.road hP bf (by simp[hx]) 60 fun w₀ hF=>?_
   walk_nrm
   repeat w_nl aj
   u_c stepG_inLoop aj hF
   refine Goes.stop (fun w₁ r₁=>⟨rfl,?_⟩);have hWS:=bI.mu.JC bg.lo (bg.hi dD) (dA bg);exact ih _ (by omega) _ (it+1) true false wst _ _ _ _ eH rfl (by omega) (by omega) bf dK iY (fun _=>⟨hWS.1,hWS.2.1⟩) (by simp) ..
 ·clear hlt;refine TT.lI hP hA hx (mx:=.cont true) rfl (by simp) fun bH aQ bF aX=>⟨_,_,_,1,stepG_canSpin_no rfl rfl (by k_ne) rfl Try.func118 AV Bv Aj Bc (k:=.i64) (n:=it) (by simp[Act.eval]) (by omega),rfl,rfl,rfl,aY.refl _,dG,fun bM aI bY _ _ jo _=>?_⟩
  clear aX aQ bF hA;have hR:=hR.later jo.1 jo.2;have hA:At s i {x with mx:=.cont true,df:=1} bM:=aI;clear aI;refine TT.road hP hA (by simp[hx]) 140 fun w₀ hF=>?_
  walk_nrm
  repeat w_go aj
  refine Goes.stop (fun w₁ r₁=>⟨rfl,?_⟩);clear hF w₀;refine TT.mu hP hA hx (mx:=.cont true) rfl (by simp) fun ah au hI₁ aB p1 p2 p3 p4=>?_
  have bJ:=hR.later p1 p2;by_cases hit:enc ah.γ.L ah.γ.W ah.γ.S ah.γ.N=enc 1 1 0 N
  ·obtain⟨e1,e2,e3,e4⟩:=jW hit aB.mu.bd ⟨by omega,by first|omega|exact hR.w1,by omega⟩;refine⟨_,_,_,.queued,1,ah.γ.L,ah.γ.W-Bool.toNat true,ah.γ.S,ah.γ.N+1,ah.γ.tn,ah.γ.th,stepG_cas_hit rfl rfl (by k_ne) rfl Try.func104 jk jm ji .i32 jl rfl rfl rfl (hit ▸ aB.gb.cell.2.1) (aB.gb.cell.2.2.2 4),rfl,kU _ _,by simp,by simp,aB.mu.queue au.lo (au.hi hI₁) true (dA au) (.inl e1),aB.gb.swap rfl (by rw[e1,e2,e3,e4];rfl),aY.set _ 4 _ (by omega),.inl (by simp[kM]),.inl (by omega),jh 4 (.inl rfl),.inr (Nat.le_refl _),fun ay aC aT _ _ _ f₂=>?_⟩;have oZ:phi ay.γ s<pr:=by have:=bJ.le;simp only[kM]at f₂;omega
   clear hit bJ aB au hI₁;refine TT.road hP aC (by simp[hx]) 60 fun w₀ hF=>?_
   walk_nrm
   w_but "code.seq" aj
   w_but "code.seq" aj
   w_go aj
   w_go aj
   repeat w_but "code.seq" aj
   refine Goes.stop (fun w₁ r₁=>⟨rfl,?_⟩);exact qx hP hx hT (fun μ' h=>ih μ' (by omega)) aC aT oZ ..
  ·refine⟨_,_,_,.cont true,1,ah.γ.L,ah.γ.W,ah.γ.S,ah.γ.N,ah.γ.tn,ah.γ.th,stepG_cas_miss rfl rfl (by k_ne) rfl Try.func104 jk jm ji .i32 jl rfl rfl rfl aB.gb.cell.2.1 (aB.gb.cell.2.2.2 4) hit,rfl,wz _ _,by simp,by simp,jC.still aB au rfl,aB.gb.stay rfl rfl,aY.refl _,.inr ⟨rfl,rfl,rfl,rfl,rfl⟩,.inl (Nat.le_refl _),pW 4 (by omega),.inr (Nat.le_refl _),fun ay aC aT _ w₂ _ f₂=>?_⟩;have hlt:phi ay.γ s<pr:=by
    refine Nat.lt_of_le_of_ne (by have:=bJ.le;omega) fun e=>hit ?_
    obtain⟨a,b,c,d⟩:=bJ.eq (by omega);rw[a,b,c,d]
   clear hit bJ aB au hI₁;refine TT.road hP aC (by simp[hx]) 60 fun w₀ hF=>?_
   walk_nrm
   repeat w_go aj
   refine Goes.stop (fun w₁ r₁=>⟨rfl,?_⟩);clear hF w₀;refine TT.lI hP aC hx (mx:=.cont true) rfl (by simp) fun bH aQ bF aX=>⟨_,_,_,1,stepG_loadQ rfl rfl (by k_ne) rfl rfl aX.gb.cell.2.1 je,rfl,rfl,rfl,aY.refl _,dG,fun bM aI bY _ w₄ jo _=>?_⟩
   have iF:=Rd.now (bY.aZ s aI.sc).c;rw[w₄.1,w₄.2.1,w₄.2.2.1,w₄.2.2.2]at iF;refine TT.road hP aI (by simp[hx]) 60 fun w₀ hF=>?_
   walk_nrm
   repeat w_nl aj
   u_c stepG_inLoop aj hF
   refine Goes.stop (fun w₁ r₁=>⟨rfl,?_⟩);have hWS:=aX.mu.JC aQ.lo (aQ.hi bF) (dA aQ);exact ih _ (by omega) _ it true false wst _ _ _ _ bM rfl h0 h4' aI bY iF (fun _=>⟨hWS.1,hWS.2.1⟩) (by simp) ..
end
end
section
section
variable{q:ig}(hP:q.P=Try.prog){i:Nat}{s:aO}{x:Wk}{Ch:Nat->Goroutine->St aJ->Prop}
variable{b₁:Frame}{a₁:Act}{ops₁:Array Oper}{i₁:Nat}{rest₁:List Nat}{k₁:List Item}{cs₁:List Frame}
include hP
theorem ah9(hx:x.wg=.work)(hT:OA q i Ch s x b₁ a₁ ops₁ i₁ rest₁ k₁ cs₁){μ pr:Nat}(ih:∀μ',μ'<μ->V9 q i Ch s x b₁ a₁ ops₁ i₁ rest₁ k₁ cs₁ μ'){it wst:Int}{st:St aJ}(h0:0<=it)(h4':it<=4){N:Nat}(hμ:5*pr+(4-it).toNat=μ)(hA:At s i {x with mx:=.cont true,df:=1} st)(hR:Rd s st pr 1 1 0 N):
  JR q i Ch s b₁ a₁ ops₁ i₁ rest₁ k₁ cs₁ true true it wst (enc 1 1 0 N) st:=by
 have h5:bits BinOp.and IntKind.i32 (enc 1 1 0 N) 5=1:=wu 1 1 0 N (by omega) (by first|omega|exact hR.w1) (by omega) (by have:=hR.n9;omega);have h4:bits BinOp.and IntKind.i32 (enc 1 1 0 N) 4=0:=mW 1 1 0 N (by omega) (by first|omega|exact hR.w1) (by omega) (by have:=hR.n9;omega);have o1:bits BinOp.or IntKind.i32 (enc 1 1 0 N) 1=(enc 1 1 0 N):=Hf 1 1 0 N (by omega) (by first|omega|exact hR.w1) (by omega) (by have:=hR.n9;omega);have o8:IntKind.wrap IntKind.i32 (enc 1 1 0 N+8)=enc 1 1 0 (N+1):=Fj 1 1 0 N (by omega) (by first|omega|exact hR.w1) (by omega) (by have:=hR.n9;omega);have h1:bits BinOp.and IntKind.i32 (enc 1 1 0 N) 1=1:=Fh 1 1 0 N (by omega) (by first|omega|exact hR.w1) (by omega) (by have:=hR.n9;omega);have o4:bits BinOp.or IntKind.i32 (enc 1 1 0 (N+1)) 4=enc 1 1 1 (N+1):=bk7 1 1 0 (N+1) (by omega) (by first|omega|exact hR.w1) (by omega) (by have:=hR.n9;omega);have h2:bits BinOp.and IntKind.i32 (enc 1 1 1 (N+1)) 2=2:=Bh 1 1 1 (N+1) (by omega) (by first|omega|exact hR.w1) (by omega) (by have:=hR.n9;omega);have n2:bits BinOp.andNot IntKind.i32 (enc 1 1 1 (N+1)) 2=enc 1 0 1 (N+1):=Ju 1 1 1 (N+1) (by omega) (by first|omega|exact hR.w1) (by omega) (by have:=hR.n9;omega);have hlt:it<4->IntKind.wrap IntKind.i64 (it+1)=it+1:=fun h=>by unfold IntKind.wrap;simp[IntKind.bits,IntKind.signed];omega
 intro j1 j7 j8 j9 j10 j11 j12 j13 j14 j15 j16 j17 j18 j19 j20 j21 j22 j23 j24 j25 j26 j27 j28 j29 j30 j31 j32 j33 j34 j35 j36 j37 j38 j39 j40 j41 j42 j43 j44 j45 j46 j47 j48 j49 j50 j51 j52 j53 j54 j55 j56 j57 j58 j59 j60 j61 j62 j63 j64 j65 j66 j67 j68 j69 j70 j71 j72 j73 j74 j75 j76 j77 j78 j79 j80 j81 j82 j83 j84 j85 j86 j87 j88 j89 j90 j91 j92 j93 j94 j95 j96 j97 j98 j99 j100 j101 j102 j103 j104 j105 j106 j107 j108 j109 j110 j111 j112 j113 j114 j115 j116 j117 j118 j119 j120 j121 j122 j123 j124 j125 j126 j127 j128 j129 j130 j131 j132 j133 j134 j135 j136 j137 j138;simp only[eX,eU,fK,iy,nK,Try.f105,Option.getD_some];refine TT.road hP hA (by simp[hx]) 140 fun w₀ hF=>?_
 repeat w_go aj
 refine Goes.stop (fun w₁ r₁=>⟨rfl,?_⟩);clear hF w₀;by_cases h4i:it<4
 ·have hw:=hlt h4i;clear hlt;refine TT.lI hP hA hx (mx:=.cont true) rfl (by simp) fun bH aQ bF aX=>⟨_,_,_,1,stepG_canSpin_ask rfl rfl (by k_ne) rfl Try.func118 AV Bv Aj Bc (k:=.i64) (n:=it) (by simp[Act.eval]) h4i,rfl,rfl,rfl,aY.asked _,dG,fun bM aI bY _ _ jo _=>?_⟩
  generalize bH.w.spins=sp;clear aX aQ bF hA;cases sp
  ·have hR:=hR.later jo.1 jo.2;have hA:At s i {x with mx:=.cont true,df:=1} bM:=aI;clear aI;refine TT.road hP hA (by simp[hx]) 140 fun w₀ hF=>?_
   walk_nrm
   repeat w_go aj
   refine Goes.stop (fun w₁ r₁=>⟨rfl,?_⟩);clear hF w₀;refine TT.mu hP hA hx (mx:=.cont true) rfl (by simp) fun ah au hI₁ aB p1 p2 p3 p4=>?_
   have bJ:=hR.later p1 p2;by_cases hit:enc ah.γ.L ah.γ.W ah.γ.S ah.γ.N=enc 1 1 0 N
   ·obtain⟨e1,e2,e3,e4⟩:=jW hit aB.mu.bd ⟨by omega,by first|omega|exact hR.w1,by omega⟩;refine⟨_,_,_,.queued,1,ah.γ.L,ah.γ.W-1,1,ah.γ.N+1,ah.γ.tn,ah.γ.th,stepG_cas_hit rfl rfl (by k_ne) rfl Try.func104 jk jm ji .i32 jl rfl rfl rfl (hit ▸ aB.gb.cell.2.1) (aB.gb.cell.2.2.2 4),rfl,kU _ _,by simp,by simp,aB.mu.starve au.lo (au.hi hI₁) (dA au) e1,aB.gb.swap rfl (by simp[e1,e2,e4]),aY.set _ 4 _ (by omega),.inl (by simp[kM]),.inl (by omega),jh 4 (.inl rfl),.inr (Nat.le_refl _),fun ay aC aT _ _ _ f₂=>?_⟩;have oZ:phi ay.γ s<pr:=by have:=bJ.le;simp only[kM]at f₂;omega
    clear hit bJ aB au hI₁;refine TT.road hP aC (by simp[hx]) 60 fun w₀ hF=>?_
    walk_nrm
    w_but "code.seq" aj
    w_but "code.seq" aj
    w_go aj
    w_go aj
    repeat w_but "code.seq" aj
    refine Goes.stop (fun w₁ r₁=>⟨rfl,?_⟩);exact qx hP hx hT (fun μ' h=>ih μ' (by omega)) aC aT oZ ..
   ·refine⟨_,_,_,.cont true,1,ah.γ.L,ah.γ.W,ah.γ.S,ah.γ.N,ah.γ.tn,ah.γ.th,stepG_cas_miss rfl rfl (by k_ne) rfl Try.func104 jk jm ji .i32 jl rfl rfl rfl aB.gb.cell.2.1 (aB.gb.cell.2.2.2 4) hit,rfl,wz _ _,by simp,by simp,jC.still aB au rfl,aB.gb.stay rfl rfl,aY.refl _,.inr ⟨rfl,rfl,rfl,rfl,rfl⟩,.inl (Nat.le_refl _),pW 4 (by omega),.inr (Nat.le_refl _),fun ay aC aT _ w₂ _ f₂=>?_⟩;have hlt:phi ay.γ s<pr:=by
     refine Nat.lt_of_le_of_ne (by have:=bJ.le;omega) fun e=>hit ?_
     obtain⟨a,b,c,d⟩:=bJ.eq (by omega);rw[a,b,c,d]
    clear hit bJ aB au hI₁;refine TT.road hP aC (by simp[hx]) 60 fun w₀ hF=>?_
    walk_nrm
    repeat w_go aj
    refine Goes.stop (fun w₁ r₁=>⟨rfl,?_⟩);clear hF w₀;refine TT.lI hP aC hx (mx:=.cont true) rfl (by simp) fun bH aQ bF aX=>⟨_,_,_,1,stepG_loadQ rfl rfl (by k_ne) rfl rfl aX.gb.cell.2.1 je,rfl,rfl,rfl,aY.refl _,dG,fun bM aI bY _ w₄ jo _=>?_⟩
    have iF:=Rd.now (bY.aZ s aI.sc).c;rw[w₄.1,w₄.2.1,w₄.2.2.1,w₄.2.2.2]at iF;refine TT.road hP aI (by simp[hx]) 60 fun w₀ hF=>?_
    walk_nrm
    repeat w_nl aj
    u_c stepG_inLoop aj hF
    refine Goes.stop (fun w₁ r₁=>⟨rfl,?_⟩);have hWS:=aX.mu.JC aQ.lo (aQ.hi bF) (dA aQ);exact ih _ (by omega) _ it true true wst _ _ _ _ bM rfl h0 h4' aI bY iF (fun _=>⟨hWS.1,hWS.2.1⟩) (by simp) ..
  ·have hle:phi bM.γ s<=pr:=(hR.later jo.1 jo.2).le;refine TT.road hP aI (by simp[hx]) 80 fun w₀ hF=>?_
   walk_nrm
   repeat w_go aj
   u_in aj hF
   rw[stepG_entry_pure (.tuple #[]) rfl rfl (by k_ne) rfl Try.func119 UZ VF Uf Vj];simp only[goes_go];refine⟨by u_nil,?_⟩;walk_nrm
   repeat w_go aj
   refine Goes.stop (fun w₁ r₁=>⟨rfl,?_⟩);clear hF w₀;refine TT.lI hP aI hx (mx:=.cont true) rfl (by simp) fun aV bg dD bI=>⟨_,_,_,1,stepG_loadQ rfl rfl (by k_ne) rfl rfl bI.gb.cell.2.1 je,rfl,rfl,rfl,aY.refl _,dG,fun eH bf dK _ w₆ yF _=>?_⟩
   have iY:=Rd.now (dK.aZ s bf.sc).c;rw[w₆.1,w₆.2.1,w₆.2.2.1,w₆.2.2.2]at iY;refine TT.road hP bf (by simp[hx]) 60 fun w₀ hF=>?_
   walk_nrm
   repeat w_nl aj
   u_c stepG_inLoop aj hF
   refine Goes.stop (fun w₁ r₁=>⟨rfl,?_⟩);have hWS:=bI.mu.JC bg.lo (bg.hi dD) (dA bg);exact ih _ (by omega) _ (it+1) true true wst _ _ _ _ eH rfl (by omega) (by omega) bf dK iY (fun _=>⟨hWS.1,hWS.2.1⟩) (by simp) ..
 ·clear hlt;refine TT.lI hP hA hx (mx:=.cont true) rfl (by simp) fun bH aQ bF aX=>⟨_,_,_,1,stepG_canSpin_no rfl rfl (by k_ne) rfl Try.func118 AV Bv Aj Bc (k:=.i64) (n:=it) (by simp[Act.eval]) (by omega),rfl,rfl,rfl,aY.refl _,dG,fun bM aI bY _ _ jo _=>?_⟩
  clear aX aQ bF hA;have hR:=hR.later jo.1 jo.2;have hA:At s i {x with mx:=.cont true,df:=1} bM:=aI;clear aI;refine TT.road hP hA (by simp[hx]) 140 fun w₀ hF=>?_
  walk_nrm
  repeat w_go aj
  refine Goes.stop (fun w₁ r₁=>⟨rfl,?_⟩);clear hF w₀;refine TT.mu hP hA hx (mx:=.cont true) rfl (by simp) fun ah au hI₁ aB p1 p2 p3 p4=>?_
  have bJ:=hR.later p1 p2;by_cases hit:enc ah.γ.L ah.γ.W ah.γ.S ah.γ.N=enc 1 1 0 N
  ·obtain⟨e1,e2,e3,e4⟩:=jW hit aB.mu.bd ⟨by omega,by first|omega|exact hR.w1,by omega⟩;refine⟨_,_,_,.queued,1,ah.γ.L,ah.γ.W-1,1,ah.γ.N+1,ah.γ.tn,ah.γ.th,stepG_cas_hit rfl rfl (by k_ne) rfl Try.func104 jk jm ji .i32 jl rfl rfl rfl (hit ▸ aB.gb.cell.2.1) (aB.gb.cell.2.2.2 4),rfl,kU _ _,by simp,by simp,aB.mu.starve au.lo (au.hi hI₁) (dA au) e1,aB.gb.swap rfl (by simp[e1,e2,e4]),aY.set _ 4 _ (by omega),.inl (by simp[kM]),.inl (by omega),jh 4 (.inl rfl),.inr (Nat.le_refl _),fun ay aC aT _ _ _ f₂=>?_⟩;have oZ:phi ay.γ s<pr:=by have:=bJ.le;simp only[kM]at f₂;omega
   clear hit bJ aB au hI₁;refine TT.road hP aC (by simp[hx]) 60 fun w₀ hF=>?_
   walk_nrm
   w_but "code.seq" aj
   w_but "code.seq" aj
   w_go aj
   w_go aj
   repeat w_but "code.seq" aj
   refine Goes.stop (fun w₁ r₁=>⟨rfl,?_⟩);exact qx hP hx hT (fun μ' h=>ih μ' (by omega)) aC aT oZ ..
  ·refine⟨_,_,_,.cont true,1,ah.γ.L,ah.γ.W,ah.γ.S,ah.γ.N,ah.γ.tn,ah.γ.th,stepG_cas_miss rfl rfl (by k_ne) rfl Try.func104 jk jm ji .i32 jl rfl rfl rfl aB.gb.cell.2.1 (aB.gb.cell.2.2.2 4) hit,rfl,wz _ _,by simp,by simp,jC.still aB au rfl,aB.gb.stay rfl rfl,aY.refl _,.inr ⟨rfl,rfl,rfl,rfl,rfl⟩,.inl (Nat.le_refl _),pW 4 (by omega),.inr (Nat.le_refl _),fun ay aC aT _ w₂ _ f₂=>?_⟩;have hlt:phi ay.γ s<pr:=by
    refine Nat.lt_of_le_of_ne (by have:=bJ.le;omega) fun e=>hit ?_
    obtain⟨a,b,c,d⟩:=bJ.eq (by omega);rw[a,b,c,d]
   clear hit bJ aB au hI₁;refine TT.road hP aC (by simp[hx]) 60 fun w₀ hF=>?_
   walk_nrm
   repeat w_go aj
   refine Goes.stop (fun w₁ r₁=>⟨rfl,?_⟩);clear hF w₀;refine TT.lI hP aC hx (mx:=.cont true) rfl (by simp) fun bH aQ bF aX=>⟨_,_,_,1,stepG_loadQ rfl rfl (by k_ne) rfl rfl aX.gb.cell.2.1 je,rfl,rfl,rfl,aY.refl _,dG,fun bM aI bY _ w₄ jo _=>?_⟩
   have iF:=Rd.now (bY.aZ s aI.sc).c;rw[w₄.1,w₄.2.1,w₄.2.2.1,w₄.2.2.2]at iF;refine TT.road hP aI (by simp[hx]) 60 fun w₀ hF=>?_
   walk_nrm
   repeat w_nl aj
   u_c stepG_inLoop aj hF
   refine Goes.stop (fun w₁ r₁=>⟨rfl,?_⟩);have hWS:=aX.mu.JC aQ.lo (aQ.hi bF) (dA aQ);exact ih _ (by omega) _ it true true wst _ _ _ _ bM rfl h0 h4' aI bY iF (fun _=>⟨hWS.1,hWS.2.1⟩) (by simp) ..
end
end
section
section
variable{q:ig}(hP:q.P=Try.prog){i:Nat}{s:aO}{x:Wk}{Ch:Nat->Goroutine->St aJ->Prop}
variable{b₁:Frame}{a₁:Act}{ops₁:Array Oper}{i₁:Nat}{rest₁:List Nat}{k₁:List Item}{cs₁:List Frame}
include hP
theorem headGo(hx:x.wg=.work)(hT:OA q i Ch s x b₁ a₁ ops₁ i₁ rest₁ k₁ cs₁):∀μ,V9 q i Ch s x b₁ a₁ ops₁ i₁ rest₁ k₁ cs₁ μ:=by
 intro μ
 induction μ using Nat.strongRecOn with
 |_ μ ih=>
 intro pr it aw sv wst l w z N st hμ h0 h4 hA hI hR ha hs;have hl:=hR.l1;have hz:=hR.z1;rcases (by omega:z=0\/z=1)with rfl|rfl
 ·rcases (by omega:l=0\/l=1)with rfl|rfl
  ·cases aw
   ·obtain rfl:=hs rfl;exact bi6 hP hx hT ih h0 h4 hμ hA hI hR
   ·obtain⟨rfl,-⟩:=ha rfl;cases sv
    ·exact Nz hP hx hT ih h0 h4 hμ hA hR
    ·exact Qe hP hx hT ih h0 h4 hμ hA hR
  ·cases aw
   ·obtain rfl:=hs rfl;exact ai1 hP hx hT ih h0 h4 hμ hA hR
   ·obtain⟨rfl,-⟩:=ha rfl;cases sv
    ·exact ai0 hP hx hT ih h0 h4 hμ hA hR
    ·exact ah9 hP hx hT ih h0 h4 hμ hA hR
 ·cases aw
  ·obtain rfl:=hs rfl;rcases (by omega:l=0\/l=1)with rfl|rfl
   ·exact az3 hP hx hT ih h0 h4 hμ hA hR
   ·exact az2 hP hx hT ih h0 h4 hμ hA hR
  ·have:=(ha rfl).2;omega
theorem slowGo(hx:x.wg=.work)(hT:OA q i Ch s x b₁ a₁ ops₁ i₁ rest₁ k₁ cs₁){st:St aJ}(hA:At s i {x with mx:=.fresh,df:=1} st):TT (cfg q) i Ch (G ((base 105).at ⟨#[.pointer (some ⟨s.Gb,4,none⟩),undef,undef,undef,undef,undef,undef,undef,undef,undef,undef,undef,undef,undef,undef,undef,undef,undef,undef,undef,undef,undef,undef,undef,undef,undef,undef,undef,undef,undef,undef,undef,undef,undef,undef,undef,undef,undef,undef,undef,undef,undef,undef,undef,undef,undef,undef,undef,undef,undef,undef,undef,undef,undef,undef,undef,undef,undef,undef,undef,undef,undef,undef,undef,undef,undef,undef,undef,undef,undef,undef,undef,undef,undef,undef,undef,undef,undef,undef,undef,undef,undef,undef,undef,undef,undef,undef,undef,undef,undef,undef,undef,undef,undef,undef,undef,undef,undef,undef,undef,undef,undef,undef,undef,undef,undef,undef,undef,undef,undef,undef,undef,undef,undef,undef,undef,undef,undef,undef,undef,undef,undef,undef,undef,undef,undef,undef,undef,undef,undef,undef,undef,undef,undef,undef,undef,undef,undef,undef],[]⟩ [.code fK]) (b₁.at a₁ (.inRegion ops₁ (i₁::rest₁)::k₁)::cs₁)) st:=by
 simp only[fK,Try.f105,Option.getD_some];refine TT.road hP hA (by simp[hx]) 80 fun w₀ hF=>?_
 repeat w_go aj
 refine Goes.stop (fun w₁ r₁=>⟨rfl,?_⟩);clear hF w₀;refine TT.mu hP hA hx (mx:=.fresh) rfl (by simp) fun aV bg dD bI q1 q2 _ _=>⟨_,_,_,.cont false,1,aV.γ.L,aV.γ.W,aV.γ.S,aV.γ.N,aV.γ.tn,aV.γ.th,stepG_loadQ rfl rfl (by k_ne) rfl rfl bI.gb.cell.2.1 je,rfl,rfl,by simp,by simp,bI.mu.slow bg.lo (bg.hi dD) (dA bg),bI.gb.stay rfl rfl,aY.refl _,.inl (by simp[kM]),.inl (Nat.le_refl _),dG,.inr (Nat.le_refl _),fun eH bf dK _ w₆ _ yF=>?_⟩
 have iY:=Rd.now (dK.aZ s bf.sc).c;rw[w₆.1,w₆.2.1,w₆.2.2.1,w₆.2.2.2]at iY;refine TT.road hP bf (by simp[hx]) 60 fun w₀ hF=>?_
 walk_nrm
 repeat w_but "code.loop" aj
 u_c stepG_loop aj hF
 refine Goes.stop (fun w₁ r₁=>⟨rfl,?_⟩);exact headGo hP hx hT _ _ 0 false false 0 _ _ _ _ eH rfl (by omega) (by omega) bf dK iY (by simp) (by simp) ..
noncomputable def ML:Code:=Try.f28.body.getD .skip
theorem lockGo(hx:x.wg=.work)(hT:OA q i Ch s x b₁ a₁ ops₁ i₁ rest₁ k₁ cs₁){st:St aJ}(hA:At s i {x with mx:=.fresh,df:=0} st):TT (cfg q) i Ch (G ((base 28).at ⟨#[.pointer (some ⟨s.Gb,4,none⟩),undef,undef,undef,undef,undef],[]⟩ [.code ML]) (b₁.at a₁ (.inRegion ops₁ (i₁::rest₁)::k₁)::cs₁)) st:=by
 simp only[ML,Try.f28,Option.getD_some];refine TT.road hP hA (by simp[hx]) 80 fun w₀ hF=>?_
 repeat w_go aj
 u_call Try.func71 ae8 Try.f71 aj hF
 repeat w_go aj
 refine Goes.stop (fun w₁ r₁=>⟨rfl,?_⟩);clear hF w₀;refine TT.lI hP hA hx (mx:=.fresh) rfl (by simp) fun ah au hI₁ aB=>⟨_,_,_,1,stepG_mark0 .disable (by simp) rfl rfl (by k_ne) rfl Try.func80 rF rW qX f_disable,rfl,YP 0,rfl,aY.refl _,pX .disable (by simp),fun ay aC aT _ w₂ f₂ _=>?_⟩
 clear aB au hI₁;refine TT.road hP aC (by simp[hx]) 80 fun w₀ hF=>?_
 walk_nrm
 repeat w_go aj
 refine Goes.stop (fun w₁ r₁=>⟨rfl,?_⟩);clear hF w₀;refine TT.mu hP aC hx (mx:=.fresh) rfl (by simp) fun bH aQ bF aX p1 p2 p3 p4=>?_
 by_cases hit:enc bH.γ.L bH.γ.W bH.γ.S bH.γ.N=0
 ·obtain⟨e1,e2,e3,e4⟩:=jW (hit.trans (by simp[enc]:(0:Int)=enc 0 0 0 0)) aX.mu.bd (by omega);refine⟨_,_,_,.own .chk,1,1,0,0,0,bH.γ.tn,bH.γ.th,stepG_cas_hit rfl rfl (by k_ne) rfl Try.func104 jk jm ji .i32 jl rfl rfl rfl (hit ▸ aX.gb.cell.2.1) (aX.gb.cell.2.2.2 4),rfl,kU _ _,by simp,by simp,aX.mu.fast aQ.lo (aQ.hi bF) (dA aQ) ⟨e1,e2,e3,e4⟩,aX.gb.swap rfl (by simp[enc]),aY.set _ 4 _ (by omega),.inl (by simp[kM]),.inl (by omega),jh 4 (.inl rfl),.inr (Nat.le_refl _),fun bM aI bY _ _ _ _=>?_⟩;clear aX aQ bF hit e1 e2 e3 e4 p1 p2 p3 p4;refine TT.road hP aI (by simp[hx]) 80 fun w₀ hF=>?_
  walk_nrm
  repeat w_go aj
  refine Goes.stop (fun w₁ r₁=>⟨rfl,?_⟩);clear hF w₀;refine TT.lI hP aI hx (mx:=.own .chk) rfl (by simp) fun aV bg dD bI=>⟨_,_,_,0,stepG_mark0 .enable (by simp) rfl rfl (by k_ne) rfl Try.func81 iU jd iT f_enable,rfl,Hr 0,rfl,aY.refl _,pX .enable (by simp),fun eH bf dK _ w₆ yF _=>?_⟩
  clear bI bg dD;refine TT.road hP bf (by simp[hx]) 80 fun w₀ hF=>?_
  walk_nrm
  repeat w_go aj
  m_convG Try.prog Try.underlying157 WE ax4 hF.choose_spec aj hF
  refine Goes.stop (fun w₁ r₁=>⟨rfl,?_⟩);clear hF w₀;refine TT.lI hP bf hx (mx:=.own .chk) rfl (by simp) fun eF gY nJ jJ=>⟨_,_,_,0,stepG_markAt .acquire (by simp) rfl rfl (by k_ne) rfl Try.func94 RV TS QF Tv (by simp[Act.eval];rfl),rfl,YR _ _ (by simp),rfl,aY.refl _,pX _ (by simp),fun yU lF BU _ FZ Vh _=>?_⟩
  clear jJ gY nJ;refine TT.road hP lF (by simp[hx]) 80 fun w₀ hF=>?_
  walk_nrm
  repeat w_go aj
  u_leave0 Try.func71 aj hF
  repeat w_go aj
  u_leave0 Try.func28 aj hF
  refine Goes.stop (fun w₁ r₁=>⟨rfl,?_⟩);exact hT yU lF BU
 ·refine⟨_,_,_,.fresh,1,bH.γ.L,bH.γ.W,bH.γ.S,bH.γ.N,bH.γ.tn,bH.γ.th,stepG_cas_miss rfl rfl (by k_ne) rfl Try.func104 jk jm ji .i32 jl rfl rfl rfl aX.gb.cell.2.1 (aX.gb.cell.2.2.2 4) hit,rfl,wz _ _,by simp,by simp,jC.still aX aQ rfl,aX.gb.stay rfl rfl,aY.refl _,.inr ⟨rfl,rfl,rfl,rfl,rfl⟩,.inl (Nat.le_refl _),pW 4 (by omega),.inr (Nat.le_refl _),fun bM aI bY _ w₄ _ jo=>?_⟩;clear aX aQ bF hit p1 p2 p3 p4;refine TT.road hP aI (by simp[hx]) 80 fun w₀ hF=>?_
  walk_nrm
  repeat w_go aj
  u_call Try.func105 aF2 Try.f105 aj hF
  refine Goes.stop (fun w₁ r₁=>⟨rfl,?_⟩);clear hF w₀;refine slowGo hP hx ?_ aI;intro aV bg dD;walk_nrm;refine TT.road hP bg (by simp[hx]) 80 fun w₀ hF=>?_
  repeat w_go aj
  u_leave0 Try.func71 aj hF
  repeat w_go aj
  u_leave0 Try.func28 aj hF
  refine Goes.stop (fun w₁ r₁=>⟨rfl,?_⟩);exact hT aV bg dD
end
end
end Cc
end Go.Proofs.Ytpfpokjaeffbjab
