/- Part of the proof: Dn, Wrk, AgL. -/
import Derived.Test.YtpfpokjaeffbjabBb16
import Derived.Conc.WgArith
import Derived.Test.YtpfpokjaeffbjabBb10
set_option linter.unusedVariables false
set_option linter.unusedSimpArgs false
set_option maxRecDepth 100000
set_option maxHeartbeats 16000000
namespace Go.Proofs.Ytpfpokjaeffbjab
namespace Cc
open Go.Conc Go.ConcN Go.ConcM Go.RowKit Go.Conc.Lib Go.ConcR.Gen
open Go.ConcR (KK wgBlock WgAt stA smA rd wr mk DC0)
section
open Go.ConcM (OsLater)
theorem ru{P:Program}:∀{n d:Nat} {g:Goroutine},QuitsD P n d g->∀k,QuitsD P (n+k) d g
 |0,d,g,h,0=>h
 |0,d,g,h,k+1=>by rw[Nat.zero_add];exact .inl h
 |n+1,d,g,h,k=>by
  rw[Nat.add_right_comm];exact h.imp id fun⟨a,g',es,b,c,e⟩=>⟨a,g',es,b,c,ru e k⟩
theorem ak6(p:WG->Bool)(γ:aJ)(s:aO):dF p γ s<=s.n:=by
 unfold dF;exact Nat.le_trans (List.countP_le_length) (by simp)
section
variable{q:ig}{i:Nat}{s:aO}{x:Wk}
theorem YI(off:Nat)(h:off<2):∀e∈(#[⟨.cell ⟨s.Wg,off,none⟩,false,true⟩,⟨.cell ⟨s.Wg,off,none⟩,true,true⟩]:Array Event),∃o y,e=⟨ca s.Wg o,y,true⟩/\o<2:=by
 intro e he;simp at he;rcases he with rfl|rfl
 ·exact⟨off,false,rfl,h⟩
 ·exact⟨off,true,rfl,h⟩
theorem bk6(off:Nat)(h:off<2):∀e∈(#[⟨.cell ⟨s.Wg,off,none⟩,false,true⟩]:Array Event),∃o y,e=⟨ca s.Wg o,y,true⟩/\o<2:=by
 intro e he;simp at he;subst he;exact⟨off,false,rfl,h⟩
theorem bk5(off:Nat)(h:off<2):∀e∈(#[⟨.cell ⟨s.Wg,off,none⟩,true,true⟩]:Array Event),∃o y,e=⟨ca s.Wg o,y,true⟩/\o<2:=by
 intro e he;simp at he;subst he;exact⟨off,true,rfl,h⟩
theorem ay2{mw:MW}{c d2 d3 d4 st sm:Nat}(h:yO mw c d2 d3 d4 st sm)(h2:1<=d2):mw=.rg/\c=0/\st=1/\sm=0/\d2+d3=1/\d4=0:=by
 cases mw<;>simp only[yO]at h
 all_goals(first|(exfalso;omega)|skip)
 rcases h with h|h|h|h
 ·exfalso;omega
 ·exact⟨rfl,h⟩
 ·exfalso;omega
 ·exfalso;omega
theorem ay1{mw:MW}{c d2 d3 d4 st sm:Nat}(h:yO mw c d2 d3 d4 st sm)(h2:1<=d3):mw=.rg/\c=0/\st=1/\sm=0/\d2+d3=1/\d4=0:=by
 cases mw<;>simp only[yO]at h
 all_goals(first|(exfalso;omega)|skip)
 rcases h with h|h|h|h
 ·exfalso;omega
 ·exact⟨rfl,h⟩
 ·exfalso;omega
 ·exfalso;omega
theorem ay0{mw:MW}{c d2 d3 d4 st sm:Nat}(h:yO mw c d2 d3 d4 st sm)(h2:1<=d4):mw=.rg/\c=0/\st=0/\sm=0/\d2+d3=0/\d4=1:=by
 cases mw<;>simp only[yO]at h
 all_goals(first|(exfalso;omega)|skip)
 rcases h with h|h|h|h
 ·exfalso;omega
 ·exfalso;omega
 ·exact⟨rfl,h.1,h.2.1,h.2.2.1,by omega,h.2.2.2.2.2⟩
 ·exfalso;omega
theorem Io{st:St aJ}(c:dX q s st)(off:Nat)(v:Value):(st.w.setCell ⟨s.Wg,off,none⟩ v).heap.size=st.w.heap.size/\(∀b,b≠s.Wg->(st.w.setCell ⟨s.Wg,off,none⟩ v).heap[b]?=st.w.heap[b]?)/\OsLater st.w.os (st.w.setCell ⟨s.Wg,off,none⟩ v).os/\(st.w.setCell ⟨s.Wg,off,none⟩ v).output=st.w.output:=by
 have A:=aside_setCell st.w ⟨s.Wg,off,none⟩ v;exact⟨A.size,fun b hb=>A.block b hb,by rw[A.os];exact .refl _,A.output⟩
end
section
variable{q:ig}(hP:q.P=Try.prog){i:Nat}{s:aO}{x:Wk}{Ch:Nat->Goroutine->St aJ->Prop}
noncomputable def NW:Code:=Try.f44.body.getD .skip
include hP
theorem doneGo{c:Frame}{av3:List Frame}(hc:c.mode=.returning){qt:Nat}(hq:QuitsD Try.prog qt 0 (G c av3))(hx:x.wg=.work)(hdf:x.df=0)(hz:x.zw=true)(hr:x.rw=true)(hm:x.mx=.fresh\/x.mx=.out){st:St aJ}(hA:At s i x st):
  TT (cfg q) i Ch (G ((baseD 44).at ⟨#[.pointer (some ⟨s.Wg,0,none⟩),undef,undef,undef],[]⟩ [.code NW]) (c::av3)) st:=by
 simp only[NW,Try.f44,Option.getD_some];refine TT.qZ hP hA (by simp[hx]) 80 fun w₀ hF=>?_
 repeat w_go aW
 u_call Try.func42 aE9 Try.f42 aW hF
 repeat w_go aW
 m_convG Try.prog Try.underlying157 WB ax3 hF.choose_spec aW hF
 refine Goes.stop (fun w₁ r₁=>⟨rfl,?_⟩);clear hF w₀;refine TT.rel hP hA hx hdf hz hr hm fun ah au hI₁ aB=>⟨_,stepG_markAt .releaseMerge (by simp) rfl rfl (by k_ne) rfl Try.func79 aq3 av8 an6 au8 (by simp[Act.eval];rfl),rfl,fun ay aC aT=>?_⟩
 clear aB hI₁ au;refine TT.qZ hP aC (by simp) 80 fun w₀ hF=>?_
 walk_nrm
 repeat w_go aW
 refine Goes.stop (fun w₁ r₁=>⟨rfl,?_⟩);clear hF w₀;refine TT.Uh hP aC (by simp) fun bH aQ bF aX=>⟨_,_,_,.deaf,bH.γ.gs,bH.γ.gm,stepG_mark0 .disable (by simp) rfl rfl (by k_ne) rfl Try.func80 rF rW qX f_disable,rfl,by simp[WG.cr],Ui (by simp[Event.mute]),⟨rfl,fun _ _=>rfl,.refl _,rfl⟩,aX.qV,?_,.inr rfl,fun bM aI bY _=>?_⟩
 ·intro c d2 d3 d4 h1 h2 h3 h4;simp[WG.cd]at h1 h2 h3 h4;rw[h1,h2,h3,h4];exact aX.uh
 clear aX bF aQ;refine TT.qZ hP aI (by simp) 80 fun w₀ hF=>?_
 walk_nrm
 repeat w_go aW
 u_defer aW hF
 repeat w_go aW
 u_in aW hF
 rw[stepG_entry_pure (.bool false) rfl rfl (by k_ne) rfl Try.func82 aq5 av9 an7 au9];simp only[goes_go];refine⟨by u_nil,?_⟩;walk_nrm
 repeat w_go aW
 u_call Try.func86 XJ Try.f86 aW hF
 repeat w_go aW
 refine Goes.stop (fun w₁ r₁=>⟨rfl,?_⟩);clear hF w₀;refine TT.Uh hP aI (by simp) fun aV bg dD bI=>?_
 have hL:=bI.uh;have hn:=bI.n0.2.2.2;have hc1:1<=dF WG.cd aV.γ s:=wE bg.lo (bg.hi dD) (by rw[bg.me];rfl);have Yh:dF WG.cd aV.γ s<=9:=Nat.le_trans (ak6 _ _ _) hn;by_cases hlast:aV.γ.mw=.rg/\dF WG.cd aV.γ s=1
 ·
  obtain⟨hgs,hgm⟩:aV.γ.gs=4294967297/\aV.γ.gm=0:=by
   rw[hlast.1]at hL;simp only[yO]at hL;omega
  have hw:=bI.qV;rw[hgs,hgm]at hw;have e1:IntKind.u64.wrap ((4294967297:Nat)+18446744069414584320:Int)=((1:Nat):Int):=by decide
  refine⟨_,_,_,.d2,1,0,(stepG_add_atomic rfl rfl (by k_ne) rfl Try.func112 I9 JB Ij .u64 Jr rfl rfl hw.cellSt (hw.thaw 0)).trans (by rw[e1];rfl),rfl,by simp[WG.cr],rY (by show 0<deafBehind x.df #[⟨.mark .disable,false,true⟩];rw[hdf];decide) (YI 0 (by omega)),Io bI 0 _,hw.setSt 1,?_,.inr hgm.symm,fun eH bf dK Yd=>?_⟩
  ·intro c d2 d3 d4 h1 h2 h3 h4;have hL:=hL;rw[hlast.1]at hL ⊢;simp only[yO]at hL ⊢;simp[WG.cd]at h1 h2 h3 h4;have hl:=hlast.2;obtain⟨k2,k3,k4⟩:dF (·== .d2) aV.γ s=0/\dF (·== .d3) aV.γ s=0/\dF (·== .d4) aV.γ s=0:=by
    rcases hL with h|h|h|h
    ·exact⟨h.2.2.2.1,h.2.2.2.2.1,h.2.2.2.2.2⟩
    all_goals(have:=h.1;omega)
   exact .inr (.inl ⟨by omega,trivial,trivial,by omega,by omega⟩)
  clear hw e1 hgs hgm hL hc1 Yh hlast bI dD bg Yd hn;have b1:bits .and .u64 1 2147483648=0:=by decide
  have b2:bits .and .u64 1 2147483647=1:=by decide
  have b3:IntKind.wrap .u32 1=1:=by decide
  have b4:IntKind.wrap .i32 0=0:=by decide
  refine TT.qZ hP bf (by simp) 160 fun w₀ hF=>?_
  simp only[Int.natCast_one];walk_nrm
  repeat w_go aW
  u_leave1 Try.func86 aW hF
  repeat w_go aW
  u_call Try.func88 I7 Try.f88 aW hF
  repeat w_go aW
  refine Goes.stop (fun w₁ r₁=>⟨rfl,?_⟩);clear hF w₀;have hd6:0<deafBehind (deafBehind x.df #[⟨.mark .disable,false,true⟩]) #[⟨.cell (stA s.Wg),false,true⟩,⟨.cell (stA s.Wg),true,true⟩]:=by rw[hdf];exact Nat.lt_of_lt_of_eq (by omega:0<1) rfl
  refine TT.Uh hP bf (by simp) fun eF gY nJ jJ=>?_
  obtain⟨k1,k2,k3,k4,k5,k6⟩:=ay2 jJ.uh (wE gY.lo (gY.hi nJ) (by rw[gY.me];rfl));have hw:=jJ.qV;rw[k3,k4]at hw;refine⟨_,_,_,.d3,1,0,stepG_load_atomic rfl rfl (by k_ne) rfl Try.func113 I8 JA Ii .u64 Jq rfl hw.cellSt,rfl,by simp[WG.cr],rY hd6 (bk6 0 (by omega)),⟨rfl,fun _ _=>rfl,.refl _,rfl⟩,hw,?_,.inr k4.symm,fun yU lF BU be7=>?_⟩
  ·intro c d2 d3 d4 h1 h2 h3 h4;rw[k1];simp only[yO];simp[WG.cd]at h1 h2 h3 h4;exact .inr (.inl ⟨by omega,trivial,trivial,by omega,by omega⟩)
  clear hw k1 k2 k3 k4 k5 k6 jJ nJ gY be7;refine TT.qZ hP lF (by simp) 160 fun w₀ hF=>?_
  simp only[Int.natCast_one];walk_nrm
  repeat w_go aW
  u_leave1 Try.func88 aW hF
  repeat w_go aW
  u_call Try.func89 XI Try.f89 aW hF
  repeat w_go aW
  refine Goes.stop (fun w₁ r₁=>⟨rfl,?_⟩);clear hF w₀;refine TT.Uh hP lF (by simp) fun WL uq Tj Tm=>?_
  obtain⟨k1,k2,k3,k4,k5,k6⟩:=ay1 Tm.uh (wE uq.lo (uq.hi Tj) (by rw[uq.me];rfl));have hw:=Tm.qV;rw[k3,k4]at hw;refine⟨_,_,_,.d4,0,0,stepG_store_atomic rfl rfl (by k_ne) rfl Try.func114 aF1 aO7 ax6 aL8 rfl rfl hw.cellSt (hw.thaw 0),rfl,by simp[WG.cr],rY hd6 (bk5 0 (by omega)),Io Tm 0 _,hw.setSt 0,?_,.inr k4.symm,fun stV JZ hIA hgA=>?_⟩
  ·intro c d2 d3 d4 h1 h2 h3 h4;rw[k1];simp only[yO];simp[WG.cd]at h1 h2 h3 h4;exact .inr (.inr (.inl ⟨by omega,trivial,trivial,by omega,by omega,by omega⟩))
  clear hw k1 k2 k3 k4 k5 k6 Tm Tj uq hgA;refine TT.qZ hP JZ (by simp) 160 fun w₀ hF=>?_
  walk_nrm
  repeat w_go aW
  u_leave0 Try.func89 aW hF
  repeat w_go aW
  refine Goes.stop (fun w₁ r₁=>⟨rfl,?_⟩);clear hF w₀;refine TT.Uh hP JZ (by simp) fun stB hAB hIB Tn=>?_
  obtain⟨k1,k2,k3,k4,k5,k6⟩:=ay0 Tn.uh (wE hAB.lo (hAB.hi hIB) (by rw[hAB.me];rfl));have hw:=Tn.qV;rw[k3,k4]at hw;have e1:IntKind.u32.wrap ((0:Nat)+1:Int)=((1:Nat):Int):=by decide
  refine⟨_,_,_,.lv,0,1,(stepG_semrelease rfl rfl (by k_ne) rfl Try.func91 ae2 TQ aa2 aj3 (by simp[Act.eval];rfl) hw.cellSm (hw.thaw 1)).trans (by rw[e1];rfl),rfl,by simp[WG.cr],Wx,Io Tn 1 _,hw.setSm 1,?_,.inl (mayWake_entry rfl rfl Try.func91 TQ),fun ZJ OJ hIC hgC=>?_⟩
  ·intro c d2 d3 d4 h1 h2 h3 h4;rw[k1];simp only[yO];simp[WG.cd]at h1 h2 h3 h4;exact .inr (.inr (.inr ⟨by omega,trivial,trivial,by omega,by omega,by omega⟩))
  clear hw k1 k2 k3 k4 k5 k6 e1 Tn hIB hAB hgC;have quit:∀g:Goroutine,g.status=.running->(∃n,QuitsD Try.prog n 1 g)->TT (cfg q) i Ch g ZJ:=fun g hg ⟨n,hn⟩=>TT.quits hP n g ZJ OJ.ne OJ.lt (congrArg Wk.wg OJ.me) hg (by
   rw[OJ.me];have e:deafBehind (deafBehind (deafBehind (deafBehind (deafBehind x.df #[⟨.mark .disable,false,true⟩]) #[⟨.cell (stA s.Wg),false,true⟩,⟨.cell (stA s.Wg),true,true⟩]) #[⟨.cell (stA s.Wg),false,true⟩]) #[⟨.cell (stA s.Wg),true,true⟩]) (semEvents (smA s.Wg))=1:=by rw[hdf];rfl
   exact(congrArg (fun d=>QuitsD Try.prog n d g) e).mpr hn)
  refine quit _ rfl ?_;clear quit;refine⟨qt+300,?_⟩;walk_nrm
  repeat q_go
  refine QuitsD.unwind_mark .enable rfl (by simp) rfl Try.func81 iU jd iT f_enable ?_;simp only[deafBehind_enable1]
  q_leave0 Try.func42
  repeat q_go
  exact QuitsD.leaveD rfl rfl Try.func44 rfl hc (ru hq _)
 ·obtain⟨v,wt,hgs,hwt,hv,h0,hgm⟩:∃v wt:Nat,aV.γ.gs=(v+1)*4294967296+wt/\wt<=1/\v<=10/\(v=0->wt=0)/\aV.γ.gm=0:=by
   have key:∀(mw:MW) (c d2 d3 d4 gs gm:Nat),yO mw c d2 d3 d4 gs gm->1<=c->c<=9->¬(mw=.rg/\c=1)->∃v wt:Nat,gs=(v+1)*4294967296+wt/\wt<=1/\v<=10/\(v=0->wt=0)/\gm=0:=by
    intro mw c d2 d3 d4 gs gm h h1 h9 hne;cases mw<;>simp only[yO]at h
    ·exact⟨c-1,0,by omega,by omega,by omega,by omega,by omega⟩
    ·exact⟨c,0,by omega,by omega,by omega,by omega,by omega⟩
    ·exact⟨c-1,0,by omega,by omega,by omega,by omega,by omega⟩
    ·have:c≠1:=fun e=>hne ⟨rfl,e⟩
     rcases h with h|h|h|h
     ·exact⟨c-1,1,by omega,by omega,by omega,by omega,by omega⟩
     all_goals(have:=h.1;omega)
    ·omega
   exact key _ _ _ _ _ _ _ hL hc1 Yh hlast
  have hw:=bI.qV;rw[hgs,hgm]at hw;have e1:IntKind.u64.wrap ((((v+1)*4294967296+wt:Nat):Int)+18446744069414584320)=((v*4294967296+wt:Nat):Int):=by rw[IntKind.wrap_u64];omega
  refine⟨_,_,_,.lv,v*4294967296+wt,0,(stepG_add_atomic rfl rfl (by k_ne) rfl Try.func112 I9 JB Ij .u64 Jr rfl rfl hw.cellSt (hw.thaw 0)).trans (by rw[e1];rfl),rfl,by simp[WG.cr],rY (by show 0<deafBehind x.df #[⟨.mark .disable,false,true⟩];rw[hdf];decide) (YI 0 (by omega)),Io bI 0 _,hw.setSt _,?_,.inr hgm.symm,fun eH bf dK Yd=>?_⟩
  ·intro c d2 d3 d4 h1 h2 h3 h4;simp[WG.cd]at h1 h2 h3 h4;have key:∀(mw:MW) (C D2 D3 D4 gs gm c d2 d3 d4:Nat),yO mw C D2 D3 D4 gs gm->1<=C->C<=9->¬(mw=.rg/\C=1)->gs=(v+1)*4294967296+wt->gm=0->c+1=C->d2=D2->d3=D3->d4=D4->yO mw c d2 d3 d4 (v*4294967296+wt) 0:=by
    intro mw C D2 D3 D4 gs gm c d2 d3 d4 h a1 a9 hne e1 e2 e3 e4 e5 e6;subst e4 e5 e6;cases mw<;>simp only[yO]at h ⊢
    ·exact⟨by omega,trivial,h.2.2.1,h.2.2.2.1,h.2.2.2.2⟩
    ·exact⟨by omega,trivial,h.2.2.1,h.2.2.2.1,h.2.2.2.2⟩
    ·exact⟨by omega,trivial,h.2.2.1,h.2.2.2.1,h.2.2.2.2⟩
    ·have:C≠1:=fun e=>hne ⟨rfl,e⟩
     rcases h with h|h|h|h
     ·exact .inl ⟨by omega,by omega,trivial,h.2.2.2⟩
     all_goals(have:=h.1;omega)
    ·omega
   exact key _ _ _ _ _ _ _ _ _ _ _ hL hc1 Yh hlast hgs hgm h1 h2 h3 h4
  have quit:∀g:Goroutine,g.status=.running->(∃n,QuitsD Try.prog n 1 g)->TT (cfg q) i Ch g eH:=fun g hg ⟨n,hn⟩=>TT.quits hP n g eH bf.ne bf.lt (congrArg Wk.wg bf.me) hg (by
   rw[bf.me];have e:deafBehind (deafBehind x.df #[⟨.mark .disable,false,true⟩]) #[⟨.cell (stA s.Wg),false,true⟩,⟨.cell (stA s.Wg),true,true⟩]=1:=by rw[hdf];rfl
   exact(congrArg (fun d=>QuitsD Try.prog n d g) e).mpr hn)
  refine quit _ rfl ?_;clear quit bf dK Yd hw e1 hgs hgm hL hc1 Yh hlast bI dD bg;rcases Nat.eq_zero_or_pos v with rfl|hvp
  ·obtain rfl:=h0 rfl;clear h0 hwt hv;simp only[Nat.zero_mul,Nat.zero_add,Nat.add_zero,Int.natCast_zero];have b1:bits .and .u64 0 2147483648=0:=by decide
   have b2:bits .and .u64 0 2147483647=0:=by decide
   have b3:IntKind.wrap .u32 0=0:=by decide
   have b4:IntKind.wrap .i32 0=0:=by decide
   refine⟨qt+300,?_⟩;walk_nrm
   repeat q_go
   q_leave1 Try.func86
   repeat q_go
   refine QuitsD.unwind_mark .enable rfl (by simp) rfl Try.func81 iU jd iT f_enable ?_;simp only[deafBehind_enable1]
   q_leave0 Try.func42
   repeat q_go
   exact QuitsD.leaveD rfl rfl Try.func44 rfl hc (ru hq _)
  ·have hS0:((v*4294967296+wt:Nat):Int)=(v:Int)*4294967296+(wt:Int):=by omega
   rw[hS0];have b1:bits .and .u64 ((v:Int)*4294967296+(wt:Int)) 2147483648=0:=st_flag v wt (by omega) hwt;have b2:bits .and .u64 ((v:Int)*4294967296+(wt:Int)) 2147483647=(wt:Int):=st_waiters v wt (by omega) hwt;have a1:((v:Int)*4294967296+(wt:Int))/4294967296=(v:Int):=by omega
   have a2:0<=(v:Int)*4294967296+(wt:Int)/\(v:Int)*4294967296+(wt:Int)<9223372036854775808:=by omega
   generalize(v:Int)*4294967296+(wt:Int)=S at*;have v1:IntKind.wrap .i32 (v:Int)=(v:Int):=by rw[IntKind.wrap_i32];omega
   have v2:(0:Int)<(v:Int):=by omega
   have v3:¬(v:Int)<0:=by omega
   have v4:(decide ((0:Int)<(v:Int)))=true:=decide_eq_true v2;have v5:(decide ((v:Int)<0))=false:=decide_eq_false v3;clear hS0 h0;obtain rfl|rfl:wt=0\/wt=1:=by omega
   ·simp only[Int.natCast_zero]at b2 ⊢;have b3:IntKind.wrap .u32 0=0:=by decide
    refine⟨qt+300,?_⟩;walk_nrm
    repeat q_go
    q_leave1 Try.func86
    repeat q_go
    refine QuitsD.unwind_mark .enable rfl (by simp) rfl Try.func81 iU jd iT f_enable ?_;simp only[deafBehind_enable1]
    q_leave0 Try.func42
    repeat q_go
    exact QuitsD.leaveD rfl rfl Try.func44 rfl hc (ru hq _)
   ·simp only[Int.natCast_one]at b2 ⊢;have b3:IntKind.wrap .u32 1=1:=by decide
    refine⟨qt+300,?_⟩;walk_nrm
    repeat q_go
    q_leave1 Try.func86
    repeat q_go
    refine QuitsD.unwind_mark .enable rfl (by simp) rfl Try.func81 iU jd iT f_enable ?_;simp only[deafBehind_enable1]
    q_leave0 Try.func42
    repeat q_go
    exact QuitsD.leaveD rfl rfl Try.func44 rfl hc (ru hq _)
end
end
section
open Pl ny oI ni Mem oG Dl
open qj hiding base
def bot(P:Program):Frame:={(default:Frame)with fn:=P.funcs.size,defers:=[],mode:=.panicking [goexitEntry]}
theorem OY{P:Program}{b:Frame}{a:Act}{todo:List Item}{fn:Func}(hn:b.kind=.deferred)(hd:a.defers=[])(hf:P.funcs[b.fn]?=some fn)(hr:fn.results=#[])(w:World):stepG P false (G {b.at a todo with mode:=.returning} [bot P]) w=.go (G (bot P) []) w #[]:=by
 have h1:=results_none hr a.tmps P w;have h2:=events_results_none (P:=P) (w:=w) hr a.tmps #[];simp[G,stepG,unwind,doReturn,Frame.at,hn,hd,hf,h1,h2,seen,GStep.after,bot,goexitEntry]
theorem Ul(P:Program)(w:World):stepG P false (G (bot P) []) w=.go {G (bot P) []with status:=.finished} w #[]:=by
 have h:(bot P).catches P=false:=by
  have e:P.funcs[P.funcs.size]?=none:=by simp
  unfold Frame.catches bot;simp only[e];rfl
 simp[G,stepG,unwind,bot,goexitEntry]at h ⊢;simp[h]
theorem Pj{P:Program}{b:Frame}{a:Act}{todo:List Item}{fn:Func}(hn:b.kind=.deferred)(hd:a.defers=[])(hf:P.funcs[b.fn]?=some fn)(hr:fn.results=#[]):QuitsD P 2 0 (G {b.at a todo with mode:=.returning} [bot P]):=
 .inr ⟨rfl,_,#[],by simp,fun w=>OY hn hd hf hr w,.inr ⟨rfl,_,#[],by simp,fun w=>Ul P w,rfl,rfl⟩⟩
theorem aF3:(Try.f30.name== "runtime.NumGoroutine")=false:=by kernel_rfl
theorem ae9:(Try.f31.name== "runtime.NumGoroutine")=false:=by kernel_rfl
theorem aF4:(Try.f45.name== "runtime.NumGoroutine")=false:=by kernel_rfl
theorem a98:(Try.f34.name== "runtime.NumGoroutine")=false:=by kernel_rfl
theorem XH:(Try.f41.name== "runtime.NumGoroutine")=false:=by kernel_rfl
theorem XW{w:World}{ad:Addr}{v:Value}(hc:w.cell? ad=some v):(Instr.loadAt 25 (.pointer (some ad))).run Try.prog w=.ok v w/\(Instr.loadAt 25 (.pointer (some ad))).events Try.prog w #[]=#[⟨.cell ad,false,false⟩]:=by
 constructor<;>simp[go_sem,hc]
theorem aH0{w:World}{ad:Addr}{v:Value}(hc:w.cell? ad=some v):(Instr.loadAt 101 (.pointer (some ad))).run Try.prog w=.ok v w/\(Instr.loadAt 101 (.pointer (some ad))).events Try.prog w #[]=#[⟨.cell ad,false,false⟩]:=by
 constructor<;>simp[go_sem,hc]
theorem ba9{w:World}{ad:Addr}{v:Value}(hc:w.cell? ad=some v):(Instr.loadAt 72 (.pointer (some ad))).run Try.prog w=.ok v w/\(Instr.loadAt 72 (.pointer (some ad))).events Try.prog w #[]=#[⟨.cell ad,false,false⟩]:=by
 constructor<;>simp[go_sem,hc]
theorem MN{w:World}{ad:Addr}{v:Value}(hc:w.cell? ad=some v):(Instr.loadAt 100 (.pointer (some ad))).run Try.prog w=.ok v w/\(Instr.loadAt 100 (.pointer (some ad))).events Try.prog w #[]=#[⟨.cell ad,false,false⟩]:=by
 constructor<;>simp[go_sem,hc]
theorem PX{w:World}{ad:Addr}{v:Value}(hc:w.cell? ad=some v):(Instr.loadAt 90 (.pointer (some ad))).run Try.prog w=.ok v w/\(Instr.loadAt 90 (.pointer (some ad))).events Try.prog w #[]=#[⟨.cell ad,false,false⟩]:=by
 constructor<;>simp[go_sem,hc]
theorem aH1{w:World}{ad:Addr}{v:Value}(hc:w.cell? ad=some v):(Instr.loadAt 69 (.pointer (some ad))).run Try.prog w=.ok v w/\(Instr.loadAt 69 (.pointer (some ad))).events Try.prog w #[]=#[⟨.cell ad,false,false⟩]:=by
 constructor<;>simp[go_sem,hc]
theorem zM{w:World}{ad:Addr}{v:Value}(hc:w.cell? ad=some v):(Instr.loadAt 3 (.pointer (some ad))).run Try.prog w=.ok v w/\(Instr.loadAt 3 (.pointer (some ad))).events Try.prog w #[]=#[⟨.cell ad,false,false⟩]:=by
 constructor<;>simp[go_sem,hc]
theorem aX9{w:World}{ad:Addr}{u:Value}{v:Int}(hc:w.cell? ad=some u)(hz:w.frozen? ad=false):(Instr.storeAt 72 (.pointer (some ad)) (.int .u64 v)).run Try.prog w=.ok () (w.setCell ad (.int .u64 v))/\(Instr.storeAt 72 (.pointer (some ad)) (.int .u64 v)).events Try.prog w #[]=#[⟨.cell ad,true,false⟩]:=by
 constructor<;>simp[go_sem,hc,hz]
theorem wJ{w:World}{ad:Addr}{u:Value}{v:Bool}(hc:w.cell? ad=some u)(hz:w.frozen? ad=false):(Instr.storeAt 4 (.pointer (some ad)) (.bool v)).run Try.prog w=.ok () (w.setCell ad (.bool v))/\(Instr.storeAt 4 (.pointer (some ad)) (.bool v)).events Try.prog w #[]=#[⟨.cell ad,true,false⟩]:=by
 constructor
 ·simp[go_sem,hc,hz]
 ·simp[go_sem,hc,hz];rw[events_store _ _ _ _ _ _ rfl];simp[hc,hz]
theorem uy.room{b n:Nat}{t:TypeId}{f:Nat->Bool}{v:Nat->Value}{w:World}(h:uy b n t f v w){k:Nat}(hk:k<n):(∃u,w.cell? ⟨b,k,none⟩=some u)/\w.frozen? ⟨b,k,none⟩=false:=by
 obtain⟨Z,z1,z2,_⟩:=h;exact⟨⟨Z[k]'(by omega),by simp only[World.cell?,z1];exact Array.getElem?_eq_getElem (by omega)⟩,by simp[World.frozen?,z1]⟩
section
variable{q:ig}{i:Nat}{s:aO}{x:Wk}{Ch:Nat->Goroutine->St aJ->Prop}{K:List (Nat×Obj)}{k:Nat}{nv cv:Int}{Pb gc lb:Nat}{cs:List Int}{l:List Cm}{msg:ByteArray}{bn bz bk bp bx bc br:Nat}
noncomputable def Dn:Code:=Try.f43.body.getD .skip
def jA(q:ig)(i:Nat)(s:aO)(x:Wk)(lst:Array Bool)(st:St aJ):Prop:=
 Inv q st/\∃x',At s i x' st/\x'.keep=x.keep/\x'.wg=.work/\x'.df=0/\x'.zw=true/\(lst.getD 14 true=false->x'={x with rw:=x'.rw})/\(lst.getD 25 true=true->x'.rw=true)/\(x'.mx=.fresh\/x'.mx=.out)
theorem jA.stay{lst:Array Bool}{st ah:St aJ}(h:jA q i s x lst st)(hr:Rl i st ah)(hi:Inv q ah):jA q i s x lst ah:=by
 obtain⟨_,x',hA,h1,h2,h3⟩:=h;exact⟨hi,x',hA.rely (kG h2) hr hi,h1,h2,h3⟩
theorem jA.set{lst:Array Bool}{st:St aJ}{j:Nat}(h:jA q i s x lst st)(h25:j≠25):jA q i s x (lst.setIfInBounds j true) st:=by
 obtain⟨hi,x',hA,h1,h2,h3,h4,h5,h6,h7⟩:=h;refine⟨hi,x',hA,h1,h2,h3,h4,fun h=>h5 ?_,?_,h7⟩
 ·by_cases e:j=14
  ·subst e;by_cases hl:14<lst.size
   ·simp[Array.getD,hl]at h
   ·simp[Array.getD,hl]at h
  ·rw[getD_set_ne true e]at h;exact h
 ·rw[getD_set_ne true h25];exact h6
theorem jA.ground(hK:x.keep=K){j:Nat}(h25:j≠25):Ground q s i K (jA q i s x) j where
 at_:=fun l st h=>by
  obtain⟨hi,x',hA,h1,h2,_⟩:=h;exact⟨hi,x',h2,h1.trans hK,hA⟩
 stay:=fun l st ah h hr hi=>h.stay hr hi
 set:=fun l st _ h=>h.set h25
theorem F7{lst:Array Bool}{j:Nat}(h:lst.getD j true=false):j<lst.size:=by
 refine Nat.lt_of_not_le fun hge=>?_
 simp[Array.getD,Nat.not_lt.2 hge]at h
theorem Gg{lst:Array Bool}{j:Nat}(h:j<lst.size):(lst.setIfInBounds j true).getD j true=true:=by simp[Array.getD,h]
theorem BH{P:Program}{main:Bool}{b:Frame}{a:Act}{kk:List Item}{cs:List Frame}{w:World}{ops:Array Oper}{i:Nat}{rest:List Nat}{o:Oper}{X:Sem Next}{ad:Addr}{v:Value}(ho:ops[i]?=some o)(hw:Region.wanted o (yielded ops a.tmps)=true)(hk:b.kind≠ .early)(he:execOp a.eval o=X)(hr:X.run P w=.ok .skip (w.setCell ad v))(hev:X.events P w #[]=#[⟨.cell ad,true,false⟩])(hn:(P.funcs[b.fn]?).any (·.norace)=false):
  stepG P main (G (b.at a (.inRegion ops (i::rest)::kk)) cs) w=.go (G (b.at (a.put o.dst undef) (.inRegion ops rest::kk)) cs) (w.setCell ad v) #[⟨.cell ad,true,false⟩]:=by
 rw[stepG_none ho hw hk (by rw[he];exact hr)];unfold listed;rw[he,hev,seen_def,hn];simp[seenStep]
theorem Ej(x d e:Int)(w:World):(Instr.field 37 (.agg #[.int .i64 x,.int .u64 d,.int .u64 e]) 0).run Try.prog w=.ok (.int .i64 x) w:=by kernel_rfl
theorem NK(x d e:Int)(w:World)(es:Array Event):(Instr.field 37 (.agg #[.int .i64 x,.int .u64 d,.int .u64 e]) 0).events Try.prog w es=es:=by kernel_rfl
theorem Zg{S:FuncId->Prop}{ρ:Nat->Option Nat}{b:Nat}{k1:IntKind}{n1:Int}(h:ρ b=some b):AR S ρ #[.pointer (some ⟨b,0,none⟩),.int k1 n1] #[.pointer (some ⟨b,0,none⟩),.int k1 n1]:=DT (l:=[.pointer (some ⟨b,0,none⟩),.int k1 n1]) (by intro v hv;simp at hv;rcases hv with rfl|rfl;exact .ptr _ _ h;exact .int _ _)
theorem aX5{S:FuncId->Prop}{ρ:Nat->Option Nat}{k1 k2 k3:IntKind}{n1 n2 n3:Int}:VR S ρ (.agg #[.int k1 n1,.int k2 n2,.int k3 n3]) (.agg #[.int k1 n1,.int k2 n2,.int k3 n3]):=.agg' (DT (l:=[.int k1 n1,.int k2 n2,.int k3 n3]) (by intro v hv;simp at hv;rcases hv with rfl|rfl|rfl<;>exact .int _ _))
variable(hP:q.P=Try.prog)
include hP
theorem Us(D:JH q s K k nv cv Pb gc lb cs l msg bn bz bk bp bx bc br)(hK:x.keep=K)(hx:x={mx:=.fresh,zw:=true,rw:=false,syn:=false,wg:=.work,df:=0,keep:=K}){id:Nat}(i1:1<=id)(i2:id<=s.nn){B:Int}(hB:s.vals id=B){b:Frame}{ops:Array Oper}{kk:List Item}{cc:List Frame}{dst:Option Tmp}
  (lst:Array Bool)(a:Act)(rest:List Nat)(st:St aJ)(hl:lst.getD 14 true=false)(hs:jA q i s x lst st)(fin:∀st',jA q i s x (lst.setIfInBounds 14 true) st'->TT (cfg q) i Ch (G (b.at (a.put dst (.int .u64 B)) (.inRegion ops rest::kk)) cc) st')(ho:(ops[14]?).bind (·.dst)=dst):
  TT (cfg q) i Ch (G (Frame.enter Try.prog 47 #[.pointer (some ⟨s.Gb,0,none⟩),.int .i64 id] .normal) (b.at a (.inRegion ops (14::rest)::kk)::cc)) st:=by
 obtain⟨hi,x',hA,h1,h2,h3,h4,h5,h6,h7⟩:=hs;have e:=h5 hl;rw[enter_at (P:=Try.prog) _ Try.func47 rfl];have hW:BA q i Ch s x':=D.vals h2 (h1.trans hK) hP;have hA':At s i {x' with mx:=.fresh,df:=0} st:=by
  have:({x' with mx:=.fresh,df:=0}:Wk)=x':=by rw[e,hx]
  rw[this];exact hA
 refine ab1 hP h2 D.n9 hW i1 i2 (fun mx st' hm au hI₁=>?_) hA';rw[hB,ho];refine fin st' ⟨hI₁,_,au,h1,h2,rfl,h4,fun h=>?_,fun h=>?_,hm⟩
 ·rw[Gg (F7 hl)]at h;cases h
 ·rw[getD_set_ne true (by decide:(14:Nat)≠25)]at h;exact h6 h
theorem aW7(D:JH q s K k nv cv Pb gc lb cs l msg bn bz bk bp bx bc br)(hi:i=s.n0+k)(hxx:x={mx:=.fresh,zw:=false,rw:=false,syn:=false,wg:=.work,df:=0,keep:=K}){st:St aJ}(hA:At s i x st)(hI:Inv q st):
  TT (cfg q) i Ch (G ((baseD 43).at ⟨#[.pointer (some ⟨s.Wg,0,none⟩),.pointer (some ⟨bn,0,none⟩),.pointer (some ⟨bz,0,none⟩),.pointer (some ⟨bk,0,none⟩),.pointer (some ⟨bp,0,none⟩),.pointer (some ⟨bx,0,none⟩),.pointer (some ⟨bc,0,none⟩),.pointer (some ⟨br,0,none⟩),undef,undef,undef,undef,undef,undef,undef,undef,undef,undef,undef,undef,undef,undef,undef,undef,undef,undef,undef,undef,undef,undef,undef,undef,undef,undef,undef,undef,undef,undef,undef,undef,undef,undef,undef,undef],[]⟩ [.code Dn]) [bot Try.prog]) st:=by
 have hx:x.wg=.work:=by rw[hxx]
 have hK:x.keep=K:=by rw[hxx]
 simp only[Dn,Try.f43,Option.getD_some];refine TT.qZ hP hA (kG hx) 80 fun w₀ hF=>?_
 repeat w_go aW
 u_defer aW hF
 repeat w_go aW
 refine Goes.stop (fun w₁ r₁=>⟨rfl,?_⟩);clear hF w₀;refine TT.load hP hA hx rfl rfl (by k_ne) rfl rfl (fun ah hr hi au=>⟨(au.box hK D.hn).1,XW (au.box hK D.hn).2⟩) fun ay hr₂ aT aC=>?_
 refine TT.qZ hP aC (kG hx) 80 fun w₀ hF=>?_
 walk_nrm
 repeat w_go aW
 u_in aW hF
 refine pO rfl rfl (by k_ne) rfl Try.func30 aF3 rfl (by simp[Act.eval];rfl) ⟨by u_nil,?_⟩;refine Goes.stop (fun w₁ r₁=>⟨rfl,?_⟩);clear hF w₀;refine TT.call hP uj (by kernel_rfl) aC hx aT jE ar1 (.tuple rfl fun j v v' h1 h2=>?_) (fun τ d=>(KL nv _).mono fun e w' h=>h.1) fun bH G7 bF aQ=>?_
 ·rw[h1]at h2;cases h2
  match j,h1 with
  |0,h1=>simp at h1;subst h1;exact .int _ _
  |1,h1=>simp at h1;subst h1;exact .bool _
  |j+2,h1=>simp at h1
 rw[Frame.finish_at];refine TT.qZ hP aQ (kG hx) 80 fun w₀ hF=>?_
 walk_nrm
 repeat w_go aW
 refine Goes.stop (fun w₁ r₁=>⟨rfl,?_⟩);clear hF w₀ G7 hr₂ aT aC;obtain⟨b65,hz⟩:=D.hz;refine TT.load hP aQ hx rfl rfl (by k_ne) rfl rfl (fun ah hr hi au=>⟨(au.box hK hz).1,aH0 (au.box hK hz).2⟩) fun bM X8 bY aI=>?_
 walk_nrm;refine TT.load hP aI hx rfl rfl (by k_ne) rfl rfl (fun ah hr hi au=>⟨(au.box hK D.hk).1,PY (au.box hK D.hk).2⟩) fun aV Nc dD bg=>?_
 have hks:k<s.n:=by rw[<-D.ln];exact D.kl
 have k1:(0:Int)<=(k:Int):=by omega
 have k2:(k:Int)<(s.n:Int):=by omega
 refine TT.qZ hP bg (kG hx) 80 fun w₀ hF=>?_
 walk_nrm
 repeat w_go aW
 refine Goes.stop (fun w₁ r₁=>⟨rfl,?_⟩);clear hF w₀ X8 Nc bY aI;refine TT.WY hP bg hx hi (by rw[D.zv];simp) fun eH X7 dK bf at1=>?_
 obtain⟨⟨u,hu⟩,hf⟩:=at1.zb.room hks;refine⟨_,by rw[D.zv];exact xZ rfl rfl (by k_ne) rfl rfl rfl (aX9 hu hf) (by kernel_rfl),rfl,fun eF gY nJ _ _=>?_⟩;clear hu hf at1 bf dK X7;refine TT.qZ hP gY (kG hx) 80 fun w₀ hF=>?_
 walk_nrm
 repeat w_but "code.region" aW
 refine Goes.stop (fun w₁ r₁=>⟨rfl,?_⟩);clear hF w₀;obtain⟨y,hy⟩:∃y:Wk,y={x with zw:=true}:=⟨_,rfl⟩;have yE:y.keep=K:=by rw[hy];exact hK
 have lF:At s i y eF:=by rw[hy];exact gY
 have hy':y={mx:=.fresh,zw:=true,rw:=false,syn:=false,wg:=.work,df:=0,keep:=K}:=by rw[hy,hxx]
 have hxy:y.wg=.work:=by rw[hy']
 clear gY bg dD hA hI aQ bF hz;obtain⟨bl3,hr⟩:=D.hr;refine TT.ask hP lF hxy fun ah au hI₁=>⟨_,stepG_region_draw,rfl,fun ay aC aT hsh=>?_⟩
 have aJ1:Try.prog.follows .mixedOrders=true:=by kernel_rfl
 simp only[Region.schedule,aJ1,Bool.true_or,if_true,Region.linearise];refine FK (S:=jA q i s y) (md:=.any) (F:=fun l a=>l.getD 25 true=true/\a.defers=[dcall 44 #[.pointer (some ⟨s.Wg,0,none⟩)]]) ?_ ?_ _ _ _ _ ay ?_ ?_
 ·intro lst a st' ⟨hl,hd⟩ hs;obtain⟨hI',x',hA',h1,h2,h3,h4,_,h6,h7⟩:=hs;obtain⟨tm,df⟩:=a;simp only at hd;subst hd;refine TT.qZ hP hA' (kG h2) 60 fun w₀ hF=>?_
  repeat w_go aW
  u_in aW hF
  rw[stepG_unwind_enter rfl Try.func44 ae4 rfl];simp only[goes_go];refine⟨by u_nil,?_⟩
  walk_nrmf Try.f44
  refine Goes.stop (fun w₁ r₁=>⟨rfl,?_⟩);exact doneGo hP rfl (Pj rfl rfl Try.func43 rfl) h2 h3 h4 (h6 hl) h7 hA'
 ·intro j lst a o rest st' ho hl hw hs h;refine O1 (s:=s) hP (fun l st hs=>?_) (fun st hs=>hs.set ?_) ho hw hs h
  ·have hs2:=hs;obtain⟨_,x',hA',_,h2,_⟩:=hs2;exact⟨⟨x',kG h2,hA'⟩,fun ah hr hi=>hs.stay hr hi⟩
  ·rintro rfl;simp at ho;subst ho;simp[Region.wanted]at hw
 ·by_cases hok:nv<1073741789
  ·obtain⟨be6,Tf⟩:=sW (D.el 0 D.c0);have hkey:0<=cs.getD 0 0/\cs.getD 0 0<18446744073709551616:=⟨by omega,by omega⟩;obtain⟨⟨i1,i2⟩,-⟩:=D.gd k D.kl;obtain⟨id,hid⟩:=Int.eq_ofNat_of_zero_le (show 0<=(l.getD k .zero).id by omega);have aJ6:1<=id:=by omega
   obtain⟨cd,hcd⟩:∃cd,(l.getD k .zero).d=cd:=⟨_,rfl⟩;obtain⟨ce,hce⟩:∃ce,(l.getD k .zero).e=ce:=⟨_,rfl⟩;have hfr:=Ej id cd ce;have hfe:=NK id cd ce;have aJ5:id<=s.nn:=by omega
   have ZX:=D.rv;unfold fQ at ZX;rw[hid,decide_eq_true hok,Bool.true_and]at ZX;obtain⟨Z,hZ⟩:∃Z,Z=pw 4 nv.toNat 2147483579:=⟨_,rfl⟩;obtain⟨A,JZ⟩:∃A,A=lV l (cs.getD 0 0) msg k:=⟨_,rfl⟩;obtain⟨B,hBB⟩:∃B,B=pub cs id:=⟨_,rfl⟩;obtain⟨W,hW⟩:∃W,W=fF (gV l l.length) k:=⟨_,rfl⟩;obtain⟨X,hX⟩:∃X,X=smul cv W:=⟨_,rfl⟩;obtain⟨E,hE⟩:∃E,E=pw B X.toNat 2147483579:=⟨_,rfl⟩;obtain⟨M,hM⟩:∃M,M=mV A E:=⟨_,rfl⟩;rw[<-hZ,<-JZ,<-hBB,<-hW,<-hX,<-hE,<-hM]at ZX;have hB:0<=B/\B<2147483579:=by rw[hBB];exact aB3 _ _
   have hXb:0<=X/\X<1073741789:=by rw[hX];exact lS _ _
   have hPb:yC (nR Pb s.Gb gc lb cs.length (3*l.length)) Pb=some Pb:=rM (n:=3) (by simp[nR]);have hB':s.vals id=B:=by rw[hBB];exact D.vs id aJ6 aJ5
   simp only[hok,decide_true];clear i1 i2 be6 Tf hsh hI₁ au;change JY (cfg q) i Ch _ _ [] _ _ .any _ 26 #[false,false,false,false,false,false,false,false,false,false,false,false,false,false,false,false,false,false,false,false,false,false,false,false,false,false] _;refine aN (i':=0) (v:=.slice (some ⟨s.Rb,0,none⟩) s.n bl3) rfl (by kernel_rfl) (by kernel_rfl) (by kernel_rfl) (.inl ⟨rfl,Does.box hP (jA.ground yE (by decide)) rfl (by decide) rfl rfl hr fun w hc=>MN hc⟩) ?_;walk_nrm;refine aN (i':=1) (v:=.int .i64 k) rfl (by kernel_rfl) (by kernel_rfl) (by kernel_rfl) (.inl ⟨rfl,Does.box hP (jA.ground yE (by decide)) rfl (by decide) rfl rfl D.hk fun w hc=>zM hc⟩) ?_;walk_nrm;refine aN (i':=2) (v:=.bool true) rfl (by kernel_rfl) (by kernel_rfl) (by kernel_rfl) (.inl ⟨rfl,Does.calm hP (jA.ground yE (by decide)) rfl (by decide) (fun w=>by go_simp) (fun w=>by simp[go_sem,Act.eval,Act.put, *])⟩) ?_;walk_nrm;refine aN (i':=3) (v:=.bool true) rfl (by kernel_rfl) (by kernel_rfl) (by kernel_rfl) (.inl ⟨rfl,Does.calm hP (jA.ground yE (by decide)) rfl (by decide) (fun w=>by go_simp) (fun w=>by simp[go_sem,Act.eval,Act.put, *])⟩) ?_;walk_nrm;refine aN (i':=4) (v:=.int .u64 nv) rfl (by kernel_rfl) (by kernel_rfl) (by kernel_rfl) (.inl ⟨rfl,Does.calm hP (jA.ground yE (by decide)) rfl (by decide) (fun w=>by go_simp) (fun w=>by simp[go_sem,Act.eval,Act.put, *])⟩) ?_;walk_nrm;refine aN (i':=5) (v:=.int .u64 Z) rfl (by kernel_rfl) (by kernel_rfl) (by kernel_rfl) (.inl ⟨rfl,Does.lone (args:=#[.int .u64 nv]) hP uj (jA.ground yE (by decide)) (by kernel_rfl) rfl (by decide) rfl Try.func31 ae9 rfl (by first|(simp[Act.eval];done)|(simp[Act.eval];rfl)) (fun _ _ _ _ _=>jE) ar1 (.int _ _) (fun _ _ _ _ _ _ _=>(Ib nv _ D.nb.1 D.nb.2).mono fun e w' h=>by rw[hZ];exact h.1)⟩) ?_;walk_nrm;refine aN (i':=6) (v:=.pointer (some ⟨Pb,0,none⟩)) rfl (by kernel_rfl) (by kernel_rfl) (by kernel_rfl) (.inl ⟨rfl,Does.box hP (jA.ground yE (by decide)) rfl (by decide) rfl rfl D.hp fun w hc=>PX hc⟩) ?_;walk_nrm;refine aN (i':=7) (v:=.int .i64 k) rfl (by kernel_rfl) (by kernel_rfl) (by kernel_rfl) (.inl ⟨rfl,Does.box hP (jA.ground yE (by decide)) rfl (by decide) rfl rfl D.hk fun w hc=>zM hc⟩) ?_;walk_nrm;refine aN (i':=8) (v:=.int .u64 A) rfl (by kernel_rfl) (by kernel_rfl) (by kernel_rfl) (.inl ⟨rfl,Does.lone (args:=#[.pointer (some ⟨Pb,0,none⟩),.int .i64 k]) hP uj (jA.ground yE (by decide)) (by kernel_rfl) rfl (by decide) rfl Try.func45 aF4 rfl (by first|(simp[Act.eval];done)|(simp[Act.eval];rfl)) (fun x' st hA hk hI=>D.sees hA hk hI) (Zg hPb) (.int _ _) (fun x' st τ d hA hk hI=>by obtain⟨lv,hpk⟩:=D.pkw hA hk hI τ d;exact(aY8 hpk D.gd (by have:=D.n9;omega) D.l9 D.c0 hkey D.ms D.kl).mono fun e w' h=>by rw[JZ];exact h.1)⟩) ?_;walk_nrm;refine aN (i':=9) (v:=.pointer (some ⟨s.Gb,0,none⟩)) rfl (by kernel_rfl) (by kernel_rfl) (by kernel_rfl) (.inl ⟨rfl,Does.box hP (jA.ground yE (by decide)) rfl (by decide) rfl rfl D.hx fun w hc=>aH1 hc⟩) ?_;walk_nrm;refine aN (i':=10) (v:=.pointer (some ⟨Pb,0,none⟩)) rfl (by kernel_rfl) (by kernel_rfl) (by kernel_rfl) (.inl ⟨rfl,Does.box hP (jA.ground yE (by decide)) rfl (by decide) rfl rfl D.hp fun w hc=>PX hc⟩) ?_;walk_nrm;refine aN (i':=11) (v:=.int .i64 k) rfl (by kernel_rfl) (by kernel_rfl) (by kernel_rfl) (.inl ⟨rfl,Does.box hP (jA.ground yE (by decide)) rfl (by decide) rfl rfl D.hk fun w hc=>zM hc⟩) ?_;walk_nrm;refine aN (i':=12) (v:=.agg #[.int .i64 id,.int .u64 cd,.int .u64 ce]) rfl (by kernel_rfl) (by kernel_rfl) (by kernel_rfl) (.inl ⟨rfl,Does.lone (args:=#[.pointer (some ⟨Pb,0,none⟩),.int .i64 k]) hP uj (jA.ground yE (by decide)) (by kernel_rfl) rfl (by decide) rfl Try.func34 a98 rfl (by first|(simp[Act.eval];done)|(simp[Act.eval];rfl)) (fun x' st hA hk hI=>D.sees hA hk hI) (Zg hPb) aX5 (fun x' st τ d hA hk hI=>by obtain⟨lv,hpk⟩:=D.pkw hA hk hI τ d;exact(atW hpk D.kl).mono fun e w' h=>by rw[<-hid,<-hcd,<-hce];exact h.1)⟩) ?_;walk_nrm;refine aN (i':=13) (v:=.int .i64 id) rfl (by kernel_rfl) (by kernel_rfl) (by kernel_rfl) (.inl ⟨rfl,Does.calm hP (jA.ground yE (by decide)) rfl (by decide) (fun w=>by go_simp) (fun w=>by simp[go_sem,Act.eval,Act.put, *])⟩) ?_;walk_nrm;refine aN (i':=14) (v:=.int .u64 B) rfl (by kernel_rfl) (by kernel_rfl) (by kernel_rfl) (.inl ⟨rfl,Does.call (s:=s) (args:=#[.pointer (some ⟨s.Gb,0,none⟩),.int .i64 id]) hP rfl (by decide) rfl Try.func47 ae6 rfl (by first|(simp[Act.eval];done)|(simp[Act.eval];rfl)) (fun l st hs=>by have hs2:=hs;obtain⟨_,x',hA',_,h2,_⟩:=hs2;exact⟨⟨x',kG h2,hA'⟩,fun ah hr hi=>hs.stay hr hi⟩) (fun lst a rest st hl hs fin=>Us hP D yE hy' aJ6 aJ5 hB' lst a rest st hl hs fin rfl)⟩) ?_;walk_nrm;refine aN (i':=15) (v:=.int .u64 cv) rfl (by kernel_rfl) (by kernel_rfl) (by kernel_rfl) (.inl ⟨rfl,Does.box hP (jA.ground yE (by decide)) rfl (by decide) rfl rfl D.hc fun w hc=>ba9 hc⟩) ?_;walk_nrm;refine aN (i':=16) (v:=.pointer (some ⟨Pb,0,none⟩)) rfl (by kernel_rfl) (by kernel_rfl) (by kernel_rfl) (.inl ⟨rfl,Does.box hP (jA.ground yE (by decide)) rfl (by decide) rfl rfl D.hp fun w hc=>PX hc⟩) ?_;walk_nrm;refine aN (i':=17) (v:=.int .i64 k) rfl (by kernel_rfl) (by kernel_rfl) (by kernel_rfl) (.inl ⟨rfl,Does.box hP (jA.ground yE (by decide)) rfl (by decide) rfl rfl D.hk fun w hc=>zM hc⟩) ?_;walk_nrm;refine aN (i':=18) (v:=.int .u64 W) rfl (by kernel_rfl) (by kernel_rfl) (by kernel_rfl) (.inl ⟨rfl,Does.lone (args:=#[.pointer (some ⟨Pb,0,none⟩),.int .i64 k]) hP uj (jA.ground yE (by decide)) (by kernel_rfl) rfl (by decide) rfl Try.func41 XH rfl (by first|(simp[Act.eval];done)|(simp[Act.eval];rfl)) (fun x' st hA hk hI=>D.sees hA hk hI) (Zg hPb) (.int _ _) (fun x' st τ d hA hk hI=>by obtain⟨lv,hpk⟩:=D.pkw hA hk hI τ d;exact(Pv hpk D.l9 D.kl).mono fun e w' h=>by rw[hW];exact h.1)⟩) ?_;walk_nrm;refine aN (i':=19) (v:=.int .u64 X) rfl (by kernel_rfl) (by kernel_rfl) (by kernel_rfl) (.inl ⟨rfl,Does.lone (args:=#[.int .u64 cv,.int .u64 W]) hP uj (jA.ground yE (by decide)) (by kernel_rfl) rfl (by decide) rfl Try.func37 LD rfl (by first|(simp[Act.eval];done)|(simp[Act.eval];rfl)) (fun _ _ _ _ _=>jE) ar2 (.int _ _) (fun _ _ _ _ _ _ _=>(nT _ _ _).mono fun e w' h=>by rw[hX];exact h.1)⟩) ?_;walk_nrm;refine aN (i':=20) (v:=.int .u64 E) rfl (by kernel_rfl) (by kernel_rfl) (by kernel_rfl) (.inl ⟨rfl,Does.lone (args:=#[.int .u64 B,.int .u64 X]) hP uj (jA.ground yE (by decide)) (by kernel_rfl) rfl (by decide) rfl Try.func48 aq4 rfl (by first|(simp[Act.eval];done)|(simp[Act.eval];rfl)) (fun _ _ _ _ _=>jE) ar2 (.int _ _) (fun _ _ _ _ _ _ _=>(AL B X _ hB.1 hB.2 hXb.1 (by omega)).mono fun e w' h=>by rw[hE];exact h.1)⟩) ?_;walk_nrm;refine aN (i':=21) (v:=.int .u64 M) rfl (by kernel_rfl) (by kernel_rfl) (by kernel_rfl) (.inl ⟨rfl,Does.lone (args:=#[.int .u64 A,.int .u64 E]) hP uj (jA.ground yE (by decide)) (by kernel_rfl) rfl (by decide) rfl Try.func46 LG rfl (by first|(simp[Act.eval];done)|(simp[Act.eval];rfl)) (fun _ _ _ _ _=>jE) ar2 (.int _ _) (fun _ _ _ _ _ _ _=>(qP _ _ _).mono fun e w' h=>by rw[hM];exact h.1)⟩) ?_;walk_nrm;refine aN (i':=22) (v:=.bool (Z==M)) rfl (by kernel_rfl) (by kernel_rfl) (by kernel_rfl) (.inl ⟨rfl,Does.calm hP (jA.ground yE (by decide)) rfl (by decide) (fun w=>by go_simp) (fun w=>by simp[go_sem,Act.eval,Act.put, *])⟩) ?_;walk_nrm;refine aN (i':=23) (v:=.bool (Z==M)) rfl (by kernel_rfl) (by kernel_rfl) (by kernel_rfl) (.inl ⟨rfl,Does.calm hP (jA.ground yE (by decide)) rfl (by decide) (fun w=>by go_simp) (fun w=>by simp[go_sem,Act.eval,Act.put, *])⟩) ?_;walk_nrm;refine aN (i':=24) (v:=.pointer (some ⟨s.Rb,k,none⟩)) rfl (by kernel_rfl) (by kernel_rfl) (by kernel_rfl) (.inl ⟨rfl,Does.calm hP (jA.ground yE (by decide)) rfl (by decide) (fun w=>by go_simp) (fun w=>by simp[go_sem,Act.eval,Act.put, *])⟩) ?_;walk_nrm;replace ZX:s.rv k=.bool (Z==M):=ZX;refine aN (i':=25) (v:=undef) rfl (by kernel_rfl) (by kernel_rfl) (by kernel_rfl) (.inl ⟨rfl,?_⟩) ⟨by kernel_rfl,by kernel_rfl,rfl⟩;intro lst a rest st hl hs he hw hn;obtain⟨hi',x',hA',h1,h2,h3,h4,h5,h6,h7⟩:=hs;refine TT.QY hP hA' h2 hi (by rw[ZX];simp) fun ah bd2 hI₁ au aB=>?_
   obtain⟨⟨u,hu⟩,hf⟩:=aB.rb.room hks;refine⟨_,?_,rfl,fun ay aC aT _ _=>hn ay ?_⟩
   ·rw[ZX];refine BH rfl hw (by decide) he ?_ ?_ (by kernel_rfl)
    ·unfold execOp;simp[Act.eval,Act.put,(wJ hu hf).1]
    ·unfold execOp;simp[Act.eval,Act.put,(wJ hu hf).1,(wJ hu hf).2]
   ·refine⟨aT,_,aC,h1,h2,h3,h4,fun h=>?_,fun _=>rfl,h7⟩;rw[getD_set_ne true (by decide:(25:Nat)≠14)]at h;have e:=h5 h;rw[e]
  ·have hok':decide (nv<1073741789)=false:=decide_eq_false hok;rw[hok'];clear hsh hI₁ au;change JY (cfg q) i Ch _ _ [] _ _ .any _ 26 #[false,false,false,false,false,false,false,false,false,false,false,false,false,false,false,false,false,false,false,false,false,false,false,false,false,false] _;refine aN (i':=0) (v:=.slice (some ⟨s.Rb,0,none⟩) s.n bl3) rfl (by kernel_rfl) (by kernel_rfl) (by kernel_rfl) (.inl ⟨rfl,Does.box hP (jA.ground yE (by decide)) rfl (by decide) rfl rfl hr fun w hc=>MN hc⟩) ?_;walk_nrm;refine aN (i':=1) (v:=.int .i64 k) rfl (by kernel_rfl) (by kernel_rfl) (by kernel_rfl) (.inl ⟨rfl,Does.box hP (jA.ground yE (by decide)) rfl (by decide) rfl rfl D.hk fun w hc=>zM hc⟩) ?_;walk_nrm;refine aN (i':=2) (v:=.bool false) rfl (by kernel_rfl) (by kernel_rfl) (by kernel_rfl) (.inl ⟨rfl,Does.calm hP (jA.ground yE (by decide)) rfl (by decide) (fun w=>by go_simp) (fun w=>by simp[go_sem,Act.eval,Act.put, *])⟩) ?_;walk_nrm;refine aN (i':=3) (v:=.bool false) rfl (by kernel_rfl) (by kernel_rfl) (by kernel_rfl) (.inl ⟨rfl,Does.calm hP (jA.ground yE (by decide)) rfl (by decide) (fun w=>by go_simp) (fun w=>by simp[go_sem,Act.eval,Act.put, *])⟩) ?_;walk_nrm;refine aN (i':=4) (v:=undef) rfl (by kernel_rfl) (by kernel_rfl) (by kernel_rfl) (.inr ⟨rfl,rfl⟩) ?_;walk_nrm;refine aN (i':=5) (v:=undef) rfl (by kernel_rfl) (by kernel_rfl) (by kernel_rfl) (.inr ⟨rfl,rfl⟩) ?_;walk_nrm;refine aN (i':=6) (v:=undef) rfl (by kernel_rfl) (by kernel_rfl) (by kernel_rfl) (.inr ⟨rfl,rfl⟩) ?_;walk_nrm;refine aN (i':=7) (v:=undef) rfl (by kernel_rfl) (by kernel_rfl) (by kernel_rfl) (.inr ⟨rfl,rfl⟩) ?_;walk_nrm;refine aN (i':=8) (v:=undef) rfl (by kernel_rfl) (by kernel_rfl) (by kernel_rfl) (.inr ⟨rfl,rfl⟩) ?_;walk_nrm;refine aN (i':=9) (v:=undef) rfl (by kernel_rfl) (by kernel_rfl) (by kernel_rfl) (.inr ⟨rfl,rfl⟩) ?_;walk_nrm;refine aN (i':=10) (v:=undef) rfl (by kernel_rfl) (by kernel_rfl) (by kernel_rfl) (.inr ⟨rfl,rfl⟩) ?_;walk_nrm;refine aN (i':=11) (v:=undef) rfl (by kernel_rfl) (by kernel_rfl) (by kernel_rfl) (.inr ⟨rfl,rfl⟩) ?_;walk_nrm;refine aN (i':=12) (v:=undef) rfl (by kernel_rfl) (by kernel_rfl) (by kernel_rfl) (.inr ⟨rfl,rfl⟩) ?_;walk_nrm;refine aN (i':=13) (v:=undef) rfl (by kernel_rfl) (by kernel_rfl) (by kernel_rfl) (.inr ⟨rfl,rfl⟩) ?_;walk_nrm;refine aN (i':=14) (v:=undef) rfl (by kernel_rfl) (by kernel_rfl) (by kernel_rfl) (.inr ⟨rfl,rfl⟩) ?_;walk_nrm;refine aN (i':=15) (v:=undef) rfl (by kernel_rfl) (by kernel_rfl) (by kernel_rfl) (.inr ⟨rfl,rfl⟩) ?_;walk_nrm;refine aN (i':=16) (v:=undef) rfl (by kernel_rfl) (by kernel_rfl) (by kernel_rfl) (.inr ⟨rfl,rfl⟩) ?_;walk_nrm;refine aN (i':=17) (v:=undef) rfl (by kernel_rfl) (by kernel_rfl) (by kernel_rfl) (.inr ⟨rfl,rfl⟩) ?_;walk_nrm;refine aN (i':=18) (v:=undef) rfl (by kernel_rfl) (by kernel_rfl) (by kernel_rfl) (.inr ⟨rfl,rfl⟩) ?_;walk_nrm;refine aN (i':=19) (v:=undef) rfl (by kernel_rfl) (by kernel_rfl) (by kernel_rfl) (.inr ⟨rfl,rfl⟩) ?_;walk_nrm;refine aN (i':=20) (v:=undef) rfl (by kernel_rfl) (by kernel_rfl) (by kernel_rfl) (.inr ⟨rfl,rfl⟩) ?_;walk_nrm;refine aN (i':=21) (v:=undef) rfl (by kernel_rfl) (by kernel_rfl) (by kernel_rfl) (.inr ⟨rfl,rfl⟩) ?_;walk_nrm;refine aN (i':=22) (v:=undef) rfl (by kernel_rfl) (by kernel_rfl) (by kernel_rfl) (.inr ⟨rfl,rfl⟩) ?_;walk_nrm;refine aN (i':=23) (v:=.bool false) rfl (by kernel_rfl) (by kernel_rfl) (by kernel_rfl) (.inl ⟨rfl,Does.calm hP (jA.ground yE (by decide)) rfl (by decide) (fun w=>by go_simp) (fun w=>by simp[go_sem,Act.eval,Act.put, *])⟩) ?_;walk_nrm;refine aN (i':=24) (v:=.pointer (some ⟨s.Rb,k,none⟩)) rfl (by kernel_rfl) (by kernel_rfl) (by kernel_rfl) (.inl ⟨rfl,Does.calm hP (jA.ground yE (by decide)) rfl (by decide) (fun w=>by go_simp) (fun w=>by simp[go_sem,Act.eval,Act.put, *])⟩) ?_;walk_nrm;have ZX:s.rv k=.bool false:=by rw[D.rv];unfold fQ;rw[hok',Bool.false_and]
   refine aN (i':=25) (v:=undef) rfl (by kernel_rfl) (by kernel_rfl) (by kernel_rfl) (.inl ⟨rfl,?_⟩) ⟨by kernel_rfl,by kernel_rfl,rfl⟩;intro lst a rest st hl hs he hw hn;obtain⟨hi',x',hA',h1,h2,h3,h4,h5,h6,h7⟩:=hs;refine TT.QY hP hA' h2 hi (by rw[ZX];simp) fun ah bd2 hI₁ au aB=>?_
   obtain⟨⟨u,hu⟩,hf⟩:=aB.rb.room hks;refine⟨_,?_,rfl,fun ay aC aT _ _=>hn ay ?_⟩
   ·rw[ZX];refine BH rfl hw (by decide) he ?_ ?_ (by kernel_rfl)
    ·unfold execOp;simp[Act.eval,Act.put,(wJ hu hf).1]
    ·unfold execOp;simp[Act.eval,Act.put,(wJ hu hf).1,(wJ hu hf).2]
   ·refine⟨aT,_,aC,h1,h2,h3,h4,fun h=>?_,fun _=>rfl,h7⟩;rw[getD_set_ne true (by decide:(25:Nat)≠14)]at h;have e:=h5 h;rw[e]
 ·exact⟨aT,y,aC,rfl,hxy,by rw[hy'],by rw[hy'],fun _=>rfl,fun h=>by simp at h,by rw[hy'];exact .inl rfl⟩
end
end
section
open Pl ny oI ni Mem oG Dl
open qj hiding base
def agT(y:Nat->Value)(bx bp bc br bz Wg bS oS cap n:Nat)(k:Int)(j19 j20 j73 j74 j75 j76 j77 j78 j79:Value):Array Value:=#[y 0,y 1,y 2,y 3,y 4,y 5,y 6,y 7,y 8,y 9,y 10,.pointer (some ⟨bx,0,none⟩),y 12,.pointer (some ⟨bp,0,none⟩),y 14,.pointer (some ⟨bc,0,none⟩),.pointer (some ⟨br,0,none⟩),.pointer (some ⟨bz,0,none⟩),.pointer (some ⟨Wg,0,none⟩),j19,j20,y 21,y 22,y 23,y 24,y 25,y 26,y 27,y 28,y 29,y 30,y 31,y 32,y 33,y 34,y 35,y 36,y 37,y 38,y 39,y 40,y 41,y 42,y 43,y 44,y 45,y 46,y 47,y 48,y 49,y 50,y 51,y 52,y 53,y 54,y 55,y 56,y 57,y 58,y 59,y 60,y 61,y 62,y 63,y 64,y 65,y 66,y 67,y 68,y 69,.slice (some ⟨bS,oS,none⟩) n cap,.int .i64 n,.int .i64 k,j73,j74,j75,j76,j77,j78,j79,y 80,y 81,y 82,y 83,y 84,y 85,y 86,y 87,y 88,y 89,y 90,y 91,y 92,y 93,y 94,y 95,y 96,y 97,y 98,y 99,y 100,y 101,y 102,y 103,y 104,y 105,y 106]
structure AgD(q:ig)(s:aO)(K kp:List (Nat×Obj))(nv:Nat->Int)(cv:Int)(Pb gc lb:Nat)(cs:List Int)(l:List Cm)(msg:ByteArray)(bz bp bx bc br bS oS:Nat):Prop where
 sub:∀b o,(b,o)∈kp->(b,o)∈K
 sh:∃ob,(bS,ob)∈K/\∀(w:World) (k:Nat),w.heap[bS]?=some ob->k<s.n->w.cell? ⟨bS,oS+k,none⟩=some (.int .u64 (nv k))
 hz:∃cap,Box kp bz (.slice (some ⟨s.Zb,0,none⟩) s.n cap)
 hp:Box kp bp (.pointer (some ⟨Pb,0,none⟩))
 hx:Box kp bx (.pointer (some ⟨s.Gb,0,none⟩))
 hc:Box kp bc (.int .u64 cv)
 hr:∃cap,Box kp br (.slice (some ⟨s.Rb,0,none⟩) s.n cap)
 pk:∃C e fz cap,(Pb,Obj.cells C e fz)∈kp/\C.size=3/\C[0]?=some (.pointer (some ⟨s.Gb,0,none⟩))/\C[1]?=some (.slice (some ⟨lb,0,none⟩) l.length cap)/\C[2]?=some (.string msg)/\l.length<=cap
 gcB:∃C e fz,(gc,Obj.cells C e fz)∈kp/\cs.length<=C.size/\∀j,j<cs.length->C[j]?=some (.int .u64 (cs.getD j 0))
 lbB:∃C e fz,(lb,Obj.cells C e fz)∈kp/\3*l.length<=C.size/\∀j u,j<3*l.length->(aU l)[j]?=some u->C[j]?=some u
 gp:gc≠Pb
 lp:lb≠Pb
 lg:lb≠gc
 low:q.P.globals.size<=Pb/\q.P.globals.size<=gc/\q.P.globals.size<=lb/\q.P.globals.size<=s.Gb
 g0:∃t,s.g0=.int .i64 t
 g1:s.g1=.int .i64 s.nn
 g2:∃cap,s.g2=.slice (some ⟨gc,0,none⟩) cs.length cap
 n9:s.nn<=9
 c9:cs.length<=9
 c0:0<cs.length
 el:∀j,j<cs.length->jM (cs.getD j 0)=true
 vs:∀id:Nat,1<=id->id<=s.nn->s.vals id=pub cs id
 gd:ni.Good s.nn l
 l9:l.length<=9
 ln:l.length=s.n
 ms:msg.size<=1000000
 nb:∀k,k<s.n->0<=nv k/\nv k<18446744073709551616
 cb:0<=cv/\cv<18446744073709551616
 zv:∀k,k<s.n->s.zv k=.int .u64 (nv k)
 rv:∀k,k<s.n->s.rv k=.bool (fQ (nv k) cv cs l msg k)
section
variable{q:ig}{s:aO}{K kp:List (Nat×Obj)}{nv:Nat->Int}{cv:Int}{Pb gc lb:Nat}{cs:List Int}{l:List Cm}{msg:ByteArray}{bz bp bx bc br bS oS:Nat}
theorem Box.mono{kp kp':List (Nat×Obj)}{b:Nat}{v:Value}(h:Box kp b v)(hs:∀b o,(b,o)∈kp->(b,o)∈kp'):Box kp' b v:=by
 obtain⟨C,e,fz,h1,h2⟩:=h;exact⟨C,e,fz,hs _ _ h1,h2⟩
theorem AgD.wrk(D:AgD q s K kp nv cv Pb gc lb cs l msg bz bp bx bc br bS oS){k bn bk:Nat}(hk:k<s.n){kq:List (Nat×Obj)}(hs:∀b o,(b,o)∈kp->(b,o)∈kq)(hn:Box kq bn (.int .u64 (nv k)))(hkb:Box kq bk (.int .i64 k)):
  JH q s kq k (nv k) cv Pb gc lb cs l msg bn bz bk bp bx bc br where
 hn:=hn
 hz:=let⟨c,h⟩:=D.hz;⟨c,h.mono hs⟩
 hk:=hkb
 hp:=D.hp.mono hs
 hx:=D.hx.mono hs
 hc:=D.hc.mono hs
 hr:=let⟨c,h⟩:=D.hr;⟨c,h.mono hs⟩
 pk:=let⟨C,e,fz,cap,h1,h2⟩:=D.pk;⟨C,e,fz,cap,hs _ _ h1,h2⟩
 gcB:=let⟨C,e,fz,h1,h2⟩:=D.gcB;⟨C,e,fz,hs _ _ h1,h2⟩
 lbB:=let⟨C,e,fz,h1,h2⟩:=D.lbB;⟨C,e,fz,hs _ _ h1,h2⟩
 gp:=D.gp
 lp:=D.lp
 lg:=D.lg
 low:=D.low
 g0:=D.g0
 g1:=D.g1
 g2:=D.g2
 n9:=D.n9
 c9:=D.c9
 c0:=D.c0
 el:=D.el
 vs:=D.vs
 gd:=D.gd
 l9:=D.l9
 kl:=by rw[D.ln];exact hk
 ln:=D.ln
 ms:=D.ms
 nb:=D.nb k hk
 cb:=D.cb
 zv:=D.zv k hk
 rv:=D.rv k hk
theorem nP.sub{mw:MW}{dm num:Nat}{K K':List (Nat×Obj)}{st:St aJ}(h:nP s mw dm num K st)(hs:∀b o,(b,o)∈K'->(b,o)∈K):nP s mw dm num K' st:=⟨h.sc,h.mw,h.dm,h.num,fun b o hb=>h.fz b o (hs b o hb),fun b o hb=>h.nd b o (hs b o hb)⟩
theorem aP6(w:World):(Instr.alloc 3 true (.tuple #[])).run Try.prog w=.ok (.pointer (some ⟨w.heap.size,0,none⟩)) (w.alloc (.cells #[.int .i64 0] 3))/\(Instr.alloc 3 true (.tuple #[])).events Try.prog w #[]=#[]:=by
 constructor<;>simp[go_sem]
theorem aP5(w:World):(Instr.alloc 25 true (.tuple #[])).run Try.prog w=.ok (.pointer (some ⟨w.heap.size,0,none⟩)) (w.alloc (.cells #[.int .u64 0] 25))/\(Instr.alloc 25 true (.tuple #[])).events Try.prog w #[]=#[]:=by
 constructor<;>simp[go_sem]
theorem az5{w:World}{ad:Addr}{u:Value}{v:Int}(hc:w.cell? ad=some u)(hz:w.frozen? ad=false):(Instr.storeAt 3 (.pointer (some ad)) (.int .i64 v)).run Try.prog w=.ok () (w.setCell ad (.int .i64 v))/\(Instr.storeAt 3 (.pointer (some ad)) (.int .i64 v)).events Try.prog w #[]=#[⟨.cell ad,true,false⟩]:=by
 constructor<;>simp[go_sem,hc,hz]
theorem az4{w:World}{ad:Addr}{u:Value}{v:Int}(hc:w.cell? ad=some u)(hz:w.frozen? ad=false):(Instr.storeAt 25 (.pointer (some ad)) (.int .u64 v)).run Try.prog w=.ok () (w.setCell ad (.int .u64 v))/\(Instr.storeAt 25 (.pointer (some ad)) (.int .u64 v)).events Try.prog w #[]=#[⟨.cell ad,true,false⟩]:=by
 constructor<;>simp[go_sem,hc,hz]
theorem ae3:(Try.f42.name== "runtime.NumGoroutine")=false:=by kernel_rfl
def yT(Wg bn bz bk bp bx bc br:Nat):Deferred:={target:=.fn (.func 43) #[.pointer (some ⟨Wg,0,none⟩),.pointer (some ⟨bn,0,none⟩),.pointer (some ⟨bz,0,none⟩),.pointer (some ⟨bk,0,none⟩),.pointer (some ⟨bp,0,none⟩),.pointer (some ⟨bx,0,none⟩),.pointer (some ⟨bc,0,none⟩),.pointer (some ⟨br,0,none⟩)],args:=#[]}
theorem OZ{P:Program}{main:Bool}{b:Frame}{a:Act}{kk:List Item}{cs:List Frame}{w:World}{ops:Array Oper}{i:Nat}{rest:List Nat}{o:Oper}{d:Deferred}{f:Fn}{c:Array Value}(ho:ops[i]?=some o)(hw:Region.wanted o (yielded ops a.tmps)=true)
  (hk:b.kind≠ .early)(hr:(execOp a.eval o).run P w=.ok (.spawn d) w)(hd:d.target=.fn f c)(he:(execOp a.eval o).events P w #[]=#[]):
  stepG P main (G (b.at a (.inRegion ops (i::rest)::kk)) cs) w=.spawn (G (b.at (a.put o.dst undef) (.inRegion ops rest::kk)) cs) (born P d) w #[]:=by
 rw[stepG_spawn ho hw hk hr hd];unfold listed;rw[he,seen_none]
theorem Y7(Wg bn bz bk bp bx bc br:Nat)(w:World):stepG Try.prog false (born Try.prog (yT Wg bn bz bk bp bx bc br)) w=
  .go (G ((baseD 43).at ⟨#[.pointer (some ⟨Wg,0,none⟩),.pointer (some ⟨bn,0,none⟩),.pointer (some ⟨bz,0,none⟩),.pointer (some ⟨bk,0,none⟩),.pointer (some ⟨bp,0,none⟩),.pointer (some ⟨bx,0,none⟩),.pointer (some ⟨bc,0,none⟩),.pointer (some ⟨br,0,none⟩),undef,undef,undef,undef,undef,undef,undef,undef,undef,undef,undef,undef,undef,undef,undef,undef,undef,undef,undef,undef,undef,undef,undef,undef,undef,undef,undef,undef,undef,undef,undef,undef,undef,undef,undef,undef],[]⟩ [.code Dn]) [bot Try.prog]) w #[]:=by
 simp[born,yT,stepG,unwind,callDeferred,invoke,callFunc,Try.func43,Try.f43,seen,GStep.after,G,Frame.enter,Frame.at,baseD,bot,Dn]
variable(hP:q.P=Try.prog){bs:List Frame}{y:Nat->Value}{cap:Nat}
include hP
theorem Oq(D:AgD q s K kp nv cv Pb gc lb cs l msg bz bp bx bc br bS oS)(hcap:s.n<=cap)
  (hT:∀(st':St aJ) (j19 j20 j73 j74 j75 j76 j77 j78 j79:Value),nP s .sp 0 (s.n0+s.n) K st'->Inv q st'->TT (cfg q) 0 (TW (cfg q)) (G ((base 16).at ⟨agT y bx bp bc br bz s.Wg bS oS cap s.n (s.n:Int) j19 j20 j73 j74 j75 j76 j77 j78 j79,[]⟩ [.code tV]) bs) st'):
  ∀(m k:Nat) (st:St aJ) (j19 j20 j73 j74 j75 j76 j77 j78 j79:Value),m+k=s.n->nP s .sp 0 (s.n0+k) K st->Inv q st->TT (cfg q) 0 (TW (cfg q)) (G ((base 16).at ⟨agT y bx bp bc br bz s.Wg bS oS cap s.n (k:Int) j19 j20 j73 j74 j75 j76 j77 j78 j79,[]⟩ [.code Ol,.inLoop Ol,.inBlock 0,.code tV]) bs) st
 |0,k,st,j19,j20,j73,j74,j75,j76,j77,j78,j79,hm,hA,hI=>by
  obtain rfl:k=s.n:=by omega
  simp only[Ol,Ua,xk,jP,dP,Try.f16,Option.getD_some,agT];have k0:¬((s.n:Int)<(s.n:Int)):=by omega
  have k1:decide ((s.n:Int)<(s.n:Int))=false:=by simp
  refine TT.jH hP hA 80 fun w₀ hF=>?_
  repeat w_go aH
  refine Goes.stop (fun w₁ r₁=>⟨rfl,?_⟩);exact hT st _ _ _ _ _ _ _ _ _ hA hI
 |m+1,k,st,j19,j20,j73,j74,j75,j76,j77,j78,j79,hm,hA,hI=>by
  have hk:k<s.n:=by omega
  have k0:(k:Int)<(s.n:Int):=by omega
  have k1:decide ((k:Int)<(s.n:Int))=true:=by simpa using k0
  have k2:(0:Int)<=(k:Int):=by omega
  obtain⟨obS,sh1,sh2⟩:=D.sh;have ih:=Oq D hcap hT m (k+1);simp only[Ol,Ua,xk,jP,dP,Try.f16,Option.getD_some,agT]at ih ⊢;refine TT.jH hP hA 80 fun w₀ hF=>?_
  repeat w_go aH
  refine Goes.stop (fun w₁ r₁=>⟨rfl,?_⟩);clear hF w₀;refine TT.ba1 hP hA (bl:=bS) (off:=oS+k) (v:=.int .u64 (nv k)) (ob:=obS) rfl rfl (by k_ne) rfl (by simp[Act.eval]) sh1 (fun w hw=>XW (sh2 w k hw hk)) fun ay aC aT hx₂=>?_
  walk_nrm;refine TT.malloc hP aC rfl rfl (by k_ne) rfl (fun w=>aP6 w) fun bH bk aQ bF bb5 Yf aJ0 _=>?_
  walk_nrm;refine TT.malloc hP aQ rfl rfl (by k_ne) rfl (fun w=>aP5 w) fun bM bn aI bY G6 vV vT bz9=>?_
  walk_nrm;have bg2:bk≠bn:=vT bk (.cells #[.int .i64 0] 3 (0,0)) (by simp);refine TT.XR hP aI (K':=(bn,.cells #[.int .u64 0] 25 (0,0))::(bk,.cells #[.int .i64 k] 3 (0,0))::K) (bl:=bk) (off:=0) (v:=.int .i64 k) (C:=#[.int .i64 0]) (e:=3) rfl rfl (by k_ne) rfl (by simp[Act.eval]) (by simp[Act.eval]) (by simp) (by simp) (fun off=>G6 _ (Yf off)) (fun b o hb=>?_) (by kernel_rfl) (fun w u hc hz=>az5 hc hz) fun aV bg dD ar0=>?_
  ·rcases List.mem_cons.1 hb with e|hb
   ·cases e;exact .inr ⟨bg2.symm,by simp⟩
   ·rcases List.mem_cons.1 hb with e|hb
    ·cases e;exact .inl ⟨rfl,rfl⟩
    ·exact .inr ⟨aJ0 b o hb,by simp[hb]⟩
  walk_nrm;refine TT.XR hP bg (K':=(bn,.cells #[.int .u64 (nv k)] 25 (0,0))::(bk,.cells #[.int .i64 k] 3 (0,0))::K) (bl:=bn) (off:=0) (v:=.int .u64 (nv k)) (C:=#[.int .u64 0]) (e:=25) rfl rfl (by k_ne) rfl (by simp[Act.eval]) (by simp[Act.eval]) (by simp) (by simp) (fun off=>ar0 _ (vV off)) (fun b o hb=>?_) (by kernel_rfl) (fun w u hc hz=>az4 hc hz) fun eH bf dK _=>?_
  ·rcases List.mem_cons.1 hb with e|hb
   ·cases e;exact .inl ⟨rfl,rfl⟩
   ·rcases List.mem_cons.1 hb with e|hb
    ·cases e;exact .inr ⟨bg2,by simp⟩
    ·exact .inr ⟨vT b o (by simp[hb]),by simp[hb]⟩
  clear bg dD ar0 aI bY G6 vV aQ bF bb5 Yf aC aT hx₂ hA hI;walk_nrm;refine TT.jH hP bf 80 fun w₀ hF=>?_
  repeat w_go aH
  u_call Try.func42 ae3 Try.f42 aH hF
  refine Goes.stop (fun w₁ r₁=>⟨rfl,?_⟩);clear hF w₀;refine aG0 hP (fun eF gY nJ=>?_) bf;clear bf dK;walk_nrm;refine TT.jH hP gY 40 fun w₀ hF=>?_
  repeat w_go aH
  refine Goes.stop (fun w₁ r₁=>⟨rfl,?_⟩);clear hF w₀;have w1:IntKind.i64.wrap ((k:Int)+1)=((k+1:Nat):Int):=by
   have:=D.l9;have:=D.ln;rw[IntKind.wrap_i64];omega
  refine TT.fork hP gY (k:=k) rfl hk fun ah au hI₁ aB=>⟨_,_,OZ (d:=yT s.Wg bn bz bk bp bx bc br) (f:=.func 43) (c:=#[.pointer (some ⟨s.Wg,0,none⟩),.pointer (some ⟨bn,0,none⟩),.pointer (some ⟨bz,0,none⟩),.pointer (some ⟨bk,0,none⟩),.pointer (some ⟨bp,0,none⟩),.pointer (some ⟨bx,0,none⟩),.pointer (some ⟨bc,0,none⟩),.pointer (some ⟨br,0,none⟩)]) rfl rfl (by k_ne) (by simp[go_sem,yT,Deferred.ofValue]) rfl (by simp[go_sem,Deferred.ofValue]),rfl,rfl,(bn,.cells #[.int .u64 (nv k)] 25 (0,0))::(bk,.cells #[.int .i64 k] 3 (0,0))::kp,(fun b=>(∃o,(b,o)∈(bn,Obj.cells #[.int .u64 (nv k)] 25 (0,0))::(bk,Obj.cells #[.int .i64 k] 3 (0,0))::kp)/\∀off,ah.γ.ex 0 (ca b off)),(fun b=>∀off,ah.γ.rd 0 (ca b off)),fun b hb=>hb.2,fun b hb=>hb,fun b o hb=>?_,fun ay aC aT=>?_,fun ay aC aT=>?_⟩
  ·have hin:(b,o)∈(bn,Obj.cells #[.int .u64 (nv k)] 25 (0,0))::(bk,Obj.cells #[.int .i64 k] 3 (0,0))::K:=by
    rcases List.mem_cons.1 hb with e|hb
    ·rw[e];simp
    ·rcases List.mem_cons.1 hb with e|hb
     ·rw[e];simp
     ·exact List.mem_cons_of_mem _ (List.mem_cons_of_mem _ (D.sub b o hb))
   obtain⟨f1,f2⟩:=au.fz b o hin;exact⟨f2.imp (fun f=>⟨⟨o,hb⟩,f⟩) id,f1⟩
  ·have hne:(s.n0+k==0)=false:=by
    have:=aB.n0.1;simp;omega
   refine TT.qZ hP aC (kG rfl) 4 fun w₀ hF=>Goes.step rfl fun w₁ hw=>?_
   show(stepG Try.prog (s.n0+k==0) (born Try.prog (yT s.Wg bn bz bk bp bx bc br)) w₁).goes _;rw[hne,Y7];refine⟨by u_nil,Goes.stop fun w₂ _=>⟨rfl,?_⟩⟩;exact aW7 hP (D.wrk hk (fun b o hb=>by simp[hb]) ⟨_,_,_,List.mem_cons_self ..,rfl⟩ ⟨_,_,_,List.mem_cons_of_mem _ (List.mem_cons_self ..),rfl⟩) rfl rfl aC aT
  ·clear au hI₁ aB gY nJ;walk_nrm;refine TT.jH hP aC 60 fun w₀ hF=>?_
   repeat w_nl aH
   u_c stepG_inLoop aH hF
   refine Goes.stop (fun w₁ r₁=>⟨rfl,?_⟩);exact ih ay _ _ _ _ _ _ _ _ _ (by omega) (aC.sub fun b o hb=>by simp[hb]) aT
end
end
end Cc
end Go.Proofs.Ytpfpokjaeffbjab
