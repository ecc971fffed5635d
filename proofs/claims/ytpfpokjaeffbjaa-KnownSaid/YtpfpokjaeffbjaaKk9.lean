/- Part of the proof: MWait, MWt, DoS, WrkD, Dn, Wrk, AgL, AgP. -/
import Derived.Test.YtpfpokjaeffbjaaKk0
import Derived.Test.YtpfpokjaeffbjaaKk8
import Derived.Test.YtpfpokjaeffbjaaKk4
import Derived.Test.YtpfpokjaeffbjaaKk7
import Derived.Conc.WgArith
import Derived.Test.YtpfpokjaeffbjaaKk5
import Derived.Test.YtpfpokjaeffbjaaKk6
set_option linter.unusedVariables false
set_option linter.unusedSimpArgs false
set_option maxRecDepth 100000
set_option maxHeartbeats 16000000
open Go.Proofs.Try renaming prog→dS
open Option renaming getD_some→aJ
open Go.IntKind renaming wrap→bH,wrap_i32→dJ
open Go.Act renaming eval→aU
open Nat renaming le_trans→aY,le_refl→aH,zero_add→cZ
open Go.World renaming cell?→bM
open Go.Obj renaming cells→az
open List renaming mem_cons→aM,not_mem_nil→bA,mem_cons_of_mem→aR,mem_cons_self→dh
open Go.Instr renaming loadAt→aT,storeAt→bI,alloc→dw
open Go.Region renaming wanted→bg
namespace Go.Proofs.Ytpfpokjaeffbjaa
open Go renaming World→ae,Value→af,Goroutine→ah,Frame→ai,TypeId→aj,FuncId→ak,Program→au,undef→av,execOp→ax
open Go.Lib renaming hid→ay
namespace Cc
open Go.Conc Go.ConcN Go.ConcM Go.RowKit Go.Conc.Lib Go.ConcR.Gen
open Go.ConcR (KK wgBlock WgAt stA smA rd wr mk DC0)
section
open Go.ConcM (OsLater)
section
variable{q:iK}{s:eI}
variable(hP:q.P=dS){num:Nat}{K:List (Nat×Obj)}{Ch:Nat->ah->St eD->Prop}
variable{b₁:ai}{a₁:Act}{eA:Array Oper}{fH:Nat}{ey:List Nat}{k₁:List Item}{cs₁:List ai}
noncomputable def tK:Code:=Try.f71.body.getD .skip
noncomputable def waitLoop:Code:=(iN tK).getD .skip
def bf4(q:iK)(s:eI)(num:Nat)(K:List (Nat×Obj))(Ch:Nat->ah->St eD->Prop)(b₁:ai)(a₁:Act)(eA:Array Oper)(fH:Nat)(ey:List Nat)(k₁:List Item)(cs₁:List ai):Prop:=
 ∀dY,kv 0 num K dY->Inv q dY->Dx q s dY.w->
    (∃Z:Array af,dY.w.heap[s.Zb]?=some (.cells Z q.tZ)/\Z.size=s.n/\∀k,k<s.n->Z[k]?=some (s.zv k))->(∃R:Array af,dY.w.heap[s.Rb]?=some (.cells R q.tR)/\R.size=s.n/\∀k,k<s.n->R[k]?=some (s.rv k))->
    (∀l b,l.isMemory=true->ij l=some b->b<dY.w.heap.size->¬dY.γ.dead b->dY.γ.ex 0 l)->¬dY.γ.dead s.Gb->¬dY.γ.dead s.Zb->¬dY.γ.dead s.Rb->TT (cfg q) 0 Ch (G (b₁.at (a₁.put ((eA[fH]?).bind (·.dst)) (.tuple #[])) (.inRegion eA ey::k₁)) cs₁) dY
include hP
theorem Ll(hT:bf4 q s num K Ch b₁ a₁ eA fH ey k₁ cs₁)(iC:num=s.n0+s.n):∀(μ:Nat) (mw:MW) (st:St eD),(mw=.sp\/mw=.wt)->ni s mw 1 num K st->pI st.γ s<=μ->∀(j1 j2 j3 j4 j5 j6 j7 j8 j9 j10 j11 j12 j13 tA tz tv tq vt pz pq tj s7 sZ sY sX sW sV sU sS sQ sP sO sN sM sL sK sJ sI sH y8 y7 yZ Bj Bi Bh Bg Bf Be Bc Bb Ba A9 A8 A6 AZ AY AX AW AV AU AQ AP AO AL AK AJ AH AG AE AB AA Az vq vp vo vk vh ve vd Ay Aw Av Au:af),TT (cfg q) 0 Ch (G ((base 71).at ⟨#[.pointer (some ⟨s.Wg,0,none⟩),j1,j2,j3,j4,j5,j6,j7,j8,j9,j10,j11,j12,j13,tA,tz,tv,tq,vt,pz,pq,tj,s7,sZ,sY,sX,sW,sV,sU,sS,sQ,sP,sO,sN,sM,sL,sK,sJ,sI,sH,y8,y7,yZ,Bj,Bi,Bh,Bg,Bf,Be,Bc,Bb,Ba,A9,A8,A6,AZ,AY,AX,AW,AV,AU,AQ,AP,AO,AL,AK,AJ,AH,AG,AE,AB,AA,Az,vq,vp,vo,vk,vh,ve,vd,Ay,Aw,Av,Au],[]⟩ [.code waitLoop,.inLoop waitLoop,.inBlock 0]) (b₁.at a₁ (.inRegion eA (fH::ey)::k₁)::cs₁)) st:=by
 intro μ;induction μ using Nat.strongRecOn with
 |_ μ ih=>
 intro mw st zM hA hμ j1 j2 j3 j4 j5 j6 j7 j8 j9 j10 j11 j12 j13 tA tz tv tq vt pz pq tj s7 sZ sY sX sW sV sU sS sQ sP sO sN sM sL sK sJ sI sH y8 y7 yZ Bj Bi Bh Bg Bf Be Bc Bb Ba A9 A8 A6 AZ AY AX AW AV AU AQ AP AO AL AK AJ AH AG AE AB AA Az vq vp vo vk vh ve vd Ay Aw Av Au;have hL0:∀(c d2 d3 d4 st sm:Nat),xh mw c d2 d3 d4 st sm->st=c*4294967296/\sm=0/\d2=0/\d3=0/\d4=0:=by
  intro c d2 d3 d4 st sm h;rcases zM with rfl|rfl<;>exact h
 replace hL0:=Hd.mk hL0;simp only[waitLoop,tK,iN,Try.f71,aJ];refine TT.jQ hP hA 80 fun w₀ hF=>?_;repeat w_go ez
 u_call Try.func99 Gq Try.f99 ez hF
 repeat w_go ez
 refine stp rfl ?_;clear hF w₀;refine TT.L9 hP hA fun dV dX eO ek p1 p2=>?_;have hL:=ek.sD;rw[dX.mw]at hL;obtain⟨w1,w2,w3,w4,w5⟩:=hL0.un _ _ _ _ _ _ hL;have Uo:=Ky ek WG.cd;have hw:=ek.qL;rw[w1,w2]at hw;by_cases hc0:gj WG.cd dV.γ s=0
 ·
  rw[hc0]at hw w1;refine⟨_,_,_,.lG,0,0,stepG_load_atomic rfl rfl (by k_ne) rfl Try.func124 Gr G6 FL .u64 GQ rfl hw.cellSt,rfl,O9 0 (by omega),⟨rfl,fun _ _=>rfl,.refl _,rfl⟩,hw,by simp,fun _=>iC,by rw[hc0];exact⟨rfl,rfl,rfl,w3,w4,w5⟩,fun dY eo eN _ _=>?_⟩;replace eo:ni s .lG 1 num K dY:=eo;clear hw w1 w2 w3 w4 w5 hc0 Uo ek eO dX p1 p2 hL ih hμ;have b2:bits .and .u64 0 2147483647=0:=by decide
  have b3:bH .u32 0=0:=by decide
  have b4:bH .i32 0=0:=by decide
  refine TT.jQ hP eo 80 fun w₀ hF=>?_;simp only[Nat.zero_mul,Int.natCast_zero];walk_nrm;repeat w_go ez
  u_leave1 Try.func99 ez hF
  repeat w_go ez
  refine stp rfl ?_;clear hF w₀;refine TT.L9 hP eo fun fx eJ fw eV _ _=>⟨_,_,_,.lG,fx.γ.gs,fx.γ.gm,stepG_mark0 .enable (by simp) rfl rfl (by k_ne) rfl Try.func92 je jl jd f_enable,rfl,zm .enable (by simp),⟨rfl,fun _ _=>rfl,.refl _,rfl⟩,eV.qL,by simp,fun _=>iC,by have:=eV.sD;rw[eJ.mw]at this;exact this,fun fJ eF fN _ _=>?_⟩;replace eF:ni s .lG 0 num K fJ:=eF;clear eV fw eJ eo eN;refine TT.jQ hP eF 80 fun w₀ hF=>?_;walk_nrm;repeat w_go ez
  m_convG dS Try.underlying174 Sc ag2 hF.1.choose_spec ez hF
  refine stp rfl ?_;clear hF w₀;refine TT.join hP eF fun eT fh gB fD=>⟨_,stepG_markAt .acquire (by simp) rfl rfl (by k_ne) rfl Try.func105 Oe Pv Nj O6 (by simp[aU];rfl),rfl,fun gN eY gu f1 f2 f3 f4 f5 f6 f7=>?_⟩;refine TT.lO hP 80 fun w₀ hF=>?_;walk_nrm;repeat w_go eQ
  u_leave0 Try.func71 eQ hF
  exact Goes.stop (fun w₁ r₁=>⟨rfl,hT gN eY gu f1 f2 f3 f4 f5 f6 f7⟩)
 ·refine⟨_,_,_,.wt,gj WG.cd dV.γ s*4294967296,0,stepG_load_atomic rfl rfl (by k_ne) rfl Try.func124 Gr G6 FL .u64 GQ rfl hw.cellSt,rfl,O9 0 (by omega),⟨rfl,fun _ _=>rfl,.refl _,rfl⟩,hw,by simp,fun _=>iC,⟨rfl,rfl,w3,w4,w5⟩,fun dY eo eN JR aw4=>?_⟩;replace eo:ni s .wt 1 num K dY:=eo;have Ml:pI dY.γ s<=μ:=by omega
  clear hw w1 w2 w3 w4 w5 ek eO dX p1 p2 hL aw4 hμ;generalize gj WG.cd dV.γ s=c at*;have hS0:((c*4294967296:Nat):Int)=((c:Nat):Int)*4294967296+((0:Nat):Int):=by omega
  rw[hS0];have b1:bits .and .u64 (((c:Nat):Int)*4294967296+((0:Nat):Int)) 2147483648=0:=st_flag c 0 (by omega) (by omega);have b2:bits .and .u64 (((c:Nat):Int)*4294967296+((0:Nat):Int)) 2147483647=((0:Nat):Int):=st_waiters c 0 (by omega) (by omega);have a1:(((c:Nat):Int)*4294967296+((0:Nat):Int))/4294967296=((c:Nat):Int):=by omega
  have a2:0<=((c:Nat):Int)*4294967296+((0:Nat):Int)/\((c:Nat):Int)*4294967296+((0:Nat):Int)<9223372036854775808:=by omega
  obtain⟨S,hS⟩:∃S:Int,S=((c:Nat):Int)*4294967296+((0:Nat):Int):=⟨_,rfl⟩;rw[<-hS]at b1 b2 a1 a2 ⊢;have a3:bH .u64 (S+1)=S+1:=by rw[IntKind.wrap_u64];omega
  obtain⟨V,hV⟩:∃V:Int,V=(c:Int):=⟨_,rfl⟩;rw[<-hV]at a1;have v1:bH .i32 V=V:=by rw[dJ];omega
  have v2:(V==0)=false:=by simp<;>omega
  have b3:bH .u32 0=0:=by decide
  simp only[Int.natCast_zero]at b2;replace hS:=Hd.mk hS;replace hV:=Hd.mk hV;replace JR:=Hd.mk JR;replace hc0:=Hd.mk hc0;replace Uo:=Hd.mk Uo;clear hS0;refine TT.jQ hP eo 160 fun w₀ hF=>?_;walk_nrm;repeat w_go ez
  u_leave1 Try.func99 ez hF
  repeat w_go ez
  u_call Try.func107 ap1 Try.f107 ez hF
  repeat w_go ez
  refine stp rfl ?_;clear hF w₀;refine TT.L9 hP eo fun fx eJ fw eV p1 p2=>?_;have hL:=eV.sD;rw[eJ.mw]at hL;obtain⟨w1,w2,w3,w4,w5⟩:=hL;have hw:=eV.qL;rw[w2]at hw;have hSv:((c*4294967296:Nat):Int)=S:=by have:=hS.un;omega
  by_cases hhit:fx.γ.gs=c*4294967296
  ·
   have hcc:gj WG.cd fx.γ s=c:=by omega
   rw[hhit,hSv]at hw;have hS1:S+1=((c*4294967296+1:Nat):Int):=by omega
   refine⟨_,_,_,.rg,c*4294967296+1,0,stepG_cas_hit rfl rfl (by k_ne) rfl Try.func128 N8 Pt Ni .u64 O5 rfl rfl rfl hw.cellSt (hw.thaw 0),rfl,UT 0 (by omega),Ou 0 _,by have:=hw.setSt (S+1);rw[hS1]at this;rw[hS1];exact this,by simp,fun _=>iC,by rw[hcc];exact .inl ⟨by have:=hc0.un;omega,rfl,rfl,w3,w4,w5⟩,fun fJ eF fN JQ _=>?_⟩;replace eF:ni s .rg 1 num K fJ:=eF;clear hw w1 w2 w3 w4 w5 hcc hhit eV fw eJ p1 p2 ih Ml JR JQ hS1 hSv eo eN;refine TT.jQ hP eF 160 fun w₀ hF=>?_;walk_nrm;repeat w_go ez
   u_leave1 Try.func107 ez hF
   repeat w_go ez
   m_convG dS Try.underlying174 Sd Zg hF.2.choose_spec ez hF
   refine stp rfl ?_;clear hF w₀;refine TT.L9 hP eF fun eT fh gB fD _ _=>⟨_,_,_,.rg,eT.γ.gs,eT.γ.gm,stepG_markAt .write (by simp) rfl rfl (by k_ne) rfl Try.func108 TF Vo R5 UN (ad:=⟨s.Wg,1,none⟩) (by simp[aU]<;>rfl),rfl,QV,⟨rfl,fun _ _=>rfl,.refl _,rfl⟩,fD.qL,by simp,fun _=>iC,by have:=fD.sD;rw[fh.mw]at this;exact this,fun gN eY gu _ _=>?_⟩;replace eY:ni s .rg 1 num K gN:=eY;clear fD gB fh eF fN;refine TT.jQ hP eY 160 fun w₀ hF=>?_;walk_nrm;repeat w_go ez
   refine stp rfl ?_;clear hF w₀;refine TT.bq7 hP eY iC rfl rfl (fun w hc=>stepG_semacquire_wait rfl rfl rfl Try.func109 Tq Vm RZ UK (by simp[aU];rfl) hc) (fun w hc hz=>stepG_semacquire rfl rfl (by k_ne) rfl Try.func109 Tq Vm RZ UK (by simp[aU];rfl) hc (by simp) hz) fun gM iA lV=>?_;clear eY gu;refine TT.jQ hP iA 160 fun w₀ hF=>?_;walk_nrm;repeat w_go ez
   u_call Try.func99 Gq Try.f99 ez hF
   repeat w_go ez
   refine stp rfl ?_;clear hF w₀;refine TT.L9 hP iA fun xB lB zQ UB _ _=>?_;have hL:=UB.sD;rw[lB.mw]at hL;have RN:xB.γ.gs=0:=hL.2.1;have Hu:xB.γ.gm=0:=hL.2.2.1;have hw:=UB.qL;rw[RN,Hu]at hw;rw[RN,Hu]at hL;refine⟨_,_,_,.lG,0,0,stepG_load_atomic rfl rfl (by k_ne) rfl Try.func124 Gr G6 FL .u64 GQ rfl hw.cellSt,rfl,O9 0 (by omega),⟨rfl,fun _ _=>rfl,.refl _,rfl⟩,hw,by simp,fun _=>iC,hL,fun Sj tD O0 _ _=>?_⟩;replace tD:ni s .lG 1 num K Sj:=tD;clear hw hL RN Hu UB zQ lB iA lV;refine TT.jQ hP tD 80 fun w₀ hF=>?_;simp only[Int.natCast_zero];walk_nrm;repeat w_go ez
   u_leave1 Try.func99 ez hF
   repeat w_go ez
   refine stp rfl ?_;clear hF w₀;refine TT.L9 hP tD fun fx eJ fw eV _ _=>⟨_,_,_,.lG,fx.γ.gs,fx.γ.gm,stepG_mark0 .enable (by simp) rfl rfl (by k_ne) rfl Try.func92 je jl jd f_enable,rfl,zm .enable (by simp),⟨rfl,fun _ _=>rfl,.refl _,rfl⟩,eV.qL,by simp,fun _=>iC,by have:=eV.sD;rw[eJ.mw]at this;exact this,fun fJ eF fN _ _=>?_⟩;replace eF:ni s .lG 0 num K fJ:=eF;clear eV fw eJ;refine TT.jQ hP eF 80 fun w₀ hF=>?_;walk_nrm;repeat w_go ez
   m_convG dS Try.underlying174 Sc ag2 hF.1.choose_spec ez hF
   refine stp rfl ?_;clear hF w₀;refine TT.join hP eF fun eT fh gB fD=>⟨_,stepG_markAt .acquire (by simp) rfl rfl (by k_ne) rfl Try.func105 Oe Pv Nj O6 (by simp[aU];rfl),rfl,fun gN eY gu f1 f2 f3 f4 f5 f6 f7=>?_⟩;refine TT.lO hP 80 fun w₀ hF=>?_;walk_nrm;repeat w_go eQ
   u_leave0 Try.func71 eQ hF
   exact Goes.stop (fun w₁ r₁=>⟨rfl,hT gN eY gu f1 f2 f3 f4 f5 f6 f7⟩)
  ·
   have hlt:pI fx.γ s<μ:=by
    refine Nat.lt_of_le_of_ne (aY p1 Ml) fun e=>?_;have:=p2 (by omega)
    have:=JR.un
    omega
   have ab0:((fx.γ.gs:Nat):Int)≠S:=by omega
   refine⟨_,_,_,.wt,fx.γ.gs,0,stepG_cas_miss rfl rfl (by k_ne) rfl Try.func128 N8 Pt Ni .u64 O5 rfl rfl rfl hw.cellSt (hw.thaw 0) ab0,rfl,O9 0 (by omega),⟨rfl,fun _ _=>rfl,.refl _,rfl⟩,hw,by simp,fun _=>iC,⟨w1,rfl,w3,w4,w5⟩,fun fJ eF fN JQ aw3=>?_⟩;replace eF:ni s .wt 1 num K fJ:=eF;have hps:pI fJ.γ s<μ:=by omega
   clear hw w1 w2 w3 w4 w5 eV fw eJ p1 p2 Ml JR JQ hSv eo eN hhit ab0 hlt aw3;refine TT.jQ hP eF 160 fun w₀ hF=>?_;walk_nrm;repeat w_go ez
   u_leave1 Try.func107 ez hF
   repeat w_nl ez
   u_c stepG_inLoop ez hF
   refine stp rfl ?_;clear hF w₀;exact ih _ hps .wt fJ (.inr rfl) eF nle ..
end
end
section
open Go.ConcM (OsLater)
section
variable{q:iK}{s:eI}
variable(hP:q.P=dS){num:Nat}{K:List (Nat×Obj)}{Ch:Nat->ah->St eD->Prop}
variable{b₁:ai}{a₁:Act}{eA:Array Oper}{fH:Nat}{ey:List Nat}{k₁:List Item}{cs₁:List ai}
include hP
theorem ah3(hT:bf4 q s num K Ch b₁ a₁ eA fH ey k₁ cs₁)(iC:num=s.n0+s.n){st:St eD}(hA:ni s .sp 0 num K st):
  TT (cfg q) 0 Ch (G ((base 71).at ⟨#[.pointer (some ⟨s.Wg,0,none⟩),av,av,av,av,av,av,av,av,av,av,av,av,av,av,av,av,av,av,av,av,av,av,av,av,av,av,av,av,av,av,av,av,av,av,av,av,av,av,av,av,av,av,av,av,av,av,av,av,av,av,av,av,av,av,av,av,av,av,av,av,av,av,av,av,av,av,av,av,av,av,av,av,av,av,av,av,av,av,av,av,av,av,av],[]⟩ [.code tK]) (b₁.at a₁ (.inRegion eA (fH::ey)::k₁)::cs₁)) st:=by
 simp only[tK,Try.f71,aJ];refine TT.jQ hP hA 80 fun w₀ hF=>?_;repeat w_go ez
 refine stp rfl ?_;clear hF w₀;refine TT.L9 hP hA fun dV dX eO ek _ _=>⟨_,_,_,.sp,dV.γ.gs,dV.γ.gm,stepG_mark0 .disable (by simp) rfl rfl (by k_ne) rfl Try.func91 qW rA qN f_disable,rfl,zm .disable (by simp),⟨rfl,fun _ _=>rfl,.refl _,rfl⟩,ek.qL,by simp,by simp,by have:=ek.sD;rw[dX.mw]at this;exact this,fun dY eo eN _ _=>?_⟩;replace eo:ni s .sp 1 num K dY:=eo;clear ek eO dX;refine TT.jQ hP eo 80 fun w₀ hF=>?_;walk_nrm;repeat w_but "code.loop" ez
 u_c stepG_loop ez hF
 refine stp rfl ?_;clear hF w₀;have h:=Ll hP hT iC (pI dY.γ s) .sp dY (.inl rfl) eo nle;simp only[waitLoop,tK,iN,Try.f71,aJ]at h;exact h ..
end
end
section
section
variable{q:iK}(hP:q.P=dS){i:Nat}{s:eI}{x:Wk}{Ch:Nat->ah->St eD->Prop}
variable{b₁:ai}{a₁:Act}{eA:Array Oper}{fH:Nat}{ey:List Nat}{k₁:List Item}{cs₁:List ai}
noncomputable def EE:Code:=Try.f66.body.getD .skip
theorem gL.share{st:St eD}(h:gL q s st)(hD:st.γ.D=1){id:Nat}(i1:1<=id)(i2:id<=s.nn):st.w.cell? ⟨s.Gb,6+id,none⟩=some (.int .u64 (s.vals id)):=by
 obtain⟨C,h1,h2,h3,h4,h5,h6,h7,h8,h9,h10⟩:=h.gb;simp only[bM,h1];exact h10 hD id i1 i2
include hP
theorem WB(hx:x.wg=.work)(hnn:s.nn<=9)(hW:zx q i Ch s x){id:Nat}(i1:1<=id)(i2:id<=s.nn)
  (hT:∀(mx:MX) (st':St eD),mx=.fresh\/mx=.out->At s i {x with mx:=mx,df:=0,syn:=true} st'->Inv q st'->TT (cfg q) i Ch (G (b₁.at (a₁.put ((eA[fH]?).bind (·.dst)) (.int .u64 (s.vals id))) (.inRegion eA ey::k₁)) cs₁) st')
  {st:St eD}(hA:At s i {x with mx:=.fresh,df:=0} st):
  TT (cfg q) i Ch (G ((base 66).at ⟨#[.pointer (some ⟨s.Gb,0,none⟩),.int .i64 id,av,av,av,av,av,av,av,av,av,av,av,av,av,av,av],[]⟩ [.code EE]) (b₁.at a₁ (.inRegion eA (fH::ey)::k₁)::cs₁)) st:=by
 have hmf:∀(fn:Fn) (first cap:Array af) (w:ae),(Instr.makeFunc fn first cap).run dS w=.ok (.func fn first cap) w:=fun _ _ _ _=>rfl;have hme:∀(fn:Fn) (first cap:Array af) (w:ae) (es:Array Event),(Instr.makeFunc fn first cap).events dS w es=es:=fun _ _ _ _ _=>rfl;have q1:(0:Int)<=(id:Int):=by omega
 have q2:(id:Int)<10:=by omega
 have q3:id<10:=by omega
 have hix:∀(w:ae) (es:Array Event),(Instr.indexAt 135 (.pointer (some ⟨s.Gb,6,none⟩)) (.int .i64 (id:Int))).events dS w es=es:=fun w es=>events_indexAt_array _ _ 10 _ _ _ Try.underlying135 ⟨q1,by simpa using q2⟩;simp only[EE,Try.f66,aJ];refine TT.road hP hA (by simp[hx]) 80 fun w₀ hF=>?_;repeat w_go dW
 u_call Try.func103 aR9 Try.f103 dW hF
 refine stp rfl ?_;clear hF w₀;refine bA1 hP hx hnn hW ?_ hA;intro mx dV hm dX eO;walk_nrm;refine TT.road hP dX (by simp[hx]) 80 fun w₀ hF=>?_;repeat w_go dW
 refine stp rfl ?_;clear hF w₀;refine TT.load hP dX hx rfl rfl (by k_ne) rfl rfl (fun dY hr hi eo=>⟨(hi.eZ s eo.sc).p.SP i eo.lo (by rw[eo.me]) (6+id) (by omega) (by omega),ZZ ((hi.eZ s eo.sc).c.share ((hi.eZ s eo.sc).c.syn i eo.lo (by rw[eo.me])) i1 i2)⟩) fun fx Fe fw eJ=>?_;refine TT.road hP eJ (by simp[hx]) 80 fun w₀ hF=>?_;walk_nrm;repeat w_go dW
 u_leave1 Try.func66 dW hF
 exact Goes.stop (fun w₁ r₁=>⟨rfl,hT mx fx hm eJ fw⟩)
end
end
section
open Pl mJ nG mI Mem ng Ew
open uU hiding base
def Hn(K:List (Nat×Obj))(b:Nat)(v:af):Prop:=∃C e fz,(b,az C e fz)∈K/\C[0]?=some v
def iE(nv cv:Int)(cs:List Int)(l:List Cm)(msg:ByteArray)(k:Nat):Bool:=
 decide (nv<1073741789)&&decide (pw 4 nv.toNat 2147483579=mY (mM l (cs.getD 0 0) msg k) (pw (EM cs (l.getD k .zero).id) (smul cv (iz (kM l l.length) k)).toNat 2147483579))
structure He(q:iK)(s:eI)(K:List (Nat×Obj))(k:Nat)(nv cv:Int)(Pb gc lb:Nat)(cs:List Int)(l:List Cm)(msg:ByteArray)(bn bz bk bp bx bc br:Nat):Prop where
 hn:Hn K bn (.int .u64 nv)
 hz:∃cap,Hn K bz (.slice (some ⟨s.Zb,0,none⟩) s.n cap)
 hk:Hn K bk (.int .i64 k)
 hp:Hn K bp (.pointer (some ⟨Pb,0,none⟩))
 hx:Hn K bx (.pointer (some ⟨s.Gb,0,none⟩))
 hc:Hn K bc (.int .u64 cv)
 hr:∃cap,Hn K br (.slice (some ⟨s.Rb,0,none⟩) s.n cap)
 pk:∃C e fz cap,(Pb,az C e fz)∈K/\C.size=3/\C[0]?=some (.pointer (some ⟨s.Gb,0,none⟩))/\C[1]?=some (.slice (some ⟨lb,0,none⟩) l.length cap)/\C[2]?=some (.string msg)/\l.length<=cap
 gcB:∃C e fz,(gc,az C e fz)∈K/\cs.length<=C.size/\∀j,j<cs.length->C[j]?=some (.int .u64 (cs.getD j 0))
 lbB:∃C e fz,(lb,az C e fz)∈K/\3*l.length<=C.size/\∀j u,j<3*l.length->(eX l)[j]?=some u->C[j]?=some u
 gp:gc≠Pb
 lp:lb≠Pb
 lg:lb≠gc
 low:q.P.globals.size<=Pb/\q.P.globals.size<=gc/\q.P.globals.size<=lb/\q.P.globals.size<=s.Gb
 g0:∃t,s.g0=.int .i64 t
 g1:s.g1=.int .i64 s.nn
 g2:∃cap,s.g2=.slice (some ⟨gc,0,none⟩) cs.length cap
 n9:s.nn<=9
 c9:cs.length<=9
 c0:0<cs.length
 el:∀j,j<cs.length->jO (cs.getD j 0)=true
 vs:∀id:Nat,1<=id->id<=s.nn->s.vals id=EM cs id
 gd:mI.Good s.nn l
 l9:l.length<=9
 kl:k<l.length
 ln:l.length=s.n
 ms:msg.size<=1000000
 nb:0<=nv/\nv<18446744073709551616
 cb:0<=cv/\cv<18446744073709551616
 zv:s.zv k=.int .u64 nv
 rv:s.rv k=.bool (iE nv cv cs l msg k)
def nu(Pb Gb gc lb m n:Nat):Nat->Option Nat:=fun b=>if b=Pb then some 3 else if b=Gb then some 3 else if b=gc then some m else if b=lb then some n else none
section
variable{q:iK}{i:Nat}{s:eI}{x:Wk}{K:List (Nat×Obj)}{k:Nat}{nv cv:Int}{Pb gc lb:Nat}{cs:List Int}{l:List Cm}{msg:ByteArray}{bn bz bk bp bx bc br:Nat}
theorem At.box{st:St eD}(hA:At s i x st)(hK:x.keep=K){b:Nat}{v:af}(hb:Hn K b v):st.γ.rd i (ca b 0)/\st.w.cell? ⟨b,0,none⟩=some v:=by
 obtain⟨C,e,fz,h1,h2⟩:=hb;rw[<-hK]at h1;obtain⟨a,b⟩:=hA.fz _ _ h1;exact⟨b 0,by simp only[bM,a];exact h2⟩
theorem He.vals(D:He q s K k nv cv Pb gc lb cs l msg bn bz bk bp bx bc br)(hx:x.wg=.work)(hK:x.keep=K)(hP:q.P=dS){Ch:Nat->ah->St eD->Prop}:zx q i Ch s x:=by
 obtain⟨cap,hg2⟩:=D.g2;obtain⟨C,e,fz,h1,h2,h3⟩:=D.gcB;exact ag9 hP hx D.n9 D.c9 D.el D.g1 hg2 D.vs (by rw[hK];exact h1) h3
theorem He.sees(D:He q s K k nv cv Pb gc lb cs l msg bn bz bk bp bx bc br){S:ak->Bool}{st:St eD}(hA:At s i x st)(hK:x.keep=K)(hI:Inv q st):Ev q S i (nu Pb s.Gb gc lb cs.length (3*l.length)) st:=by
 obtain⟨CP,eP,fP,cap,p1,p2,p3,p4,p5,p6⟩:=D.pk;obtain⟨CG,eG,fG,g1,g2,g3⟩:=D.gcB;obtain⟨CL,eL,fL,l1,l2,l3⟩:=D.lbB;rw[<-hK]at p1 g1 l1;have aP:=hA.apart hI p1;have aG:=hA.apart hI g1;have aL:=hA.apart hI l1;have vP:nu Pb s.Gb gc lb cs.length (3*l.length) Pb=some 3:=by simp[nu]
 have vS:nu Pb s.Gb gc lb cs.length (3*l.length) s.Gb=some 3:=by simp[nu]
 have vG:nu Pb s.Gb gc lb cs.length (3*l.length) gc=some cs.length:=by simp[nu,D.gp,aG.1]
 have vL:nu Pb s.Gb gc lb cs.length (3*l.length) lb=some (3*l.length):=by simp[nu,D.lp,aL.1,D.lg]
 have iS:=rf vS;have iG:=rf vG;have iL:=rf vL;obtain⟨C0,a1,a2,a3,a4,a5⟩:=(hI.eZ s hA.sc).c.head;obtain⟨t0,ht0⟩:=D.g0;obtain⟨iX,hg2⟩:=D.g2;intro b n hv;unfold nu at hv;split at hv
 ·rename_i e;subst e;cases hv;refine⟨D.low.1,.inl (hA.fz _ _ p1).2,CP,eP,fP,(hA.fz _ _ p1).1,by omega,fun j v hj hv=>?_⟩;match j,hj with
  |0,_=>rw[p3]at hv;cases hv;exact .ptr _ _ iS
  |1,_=>rw[p4]at hv;cases hv;exact .slice _ _ _ _ iL
  |2,_=>rw[p5]at hv;cases hv;exact .string _
  |j+3,hj=>omega
 split at hv
 ·rename_i e;subst e;cases hv;refine⟨D.low.2.2.2,.inr ⟨aH _,s,hA.sc,rfl⟩,C0,_,_,a1,a2,fun j v hj hv=>?_⟩;match j,hj with
  |0,_=>rw[a3,ht0]at hv;cases hv;exact .int _ _
  |1,_=>rw[a4,D.g1]at hv;cases hv;exact .int _ _
  |2,_=>rw[a5,hg2]at hv;cases hv;exact .slice _ _ _ _ iG
  |j+3,hj=>omega
 split at hv
 ·rename_i e;subst e;cases hv;refine⟨D.low.2.1,.inl (hA.fz _ _ g1).2,CG,eG,fG,(hA.fz _ _ g1).1,g2,fun j v hj hv=>?_⟩;rw[g3 j hj]at hv;cases hv;exact .int _ _
 split at hv
 ·rename_i e;subst e;cases hv;refine⟨D.low.2.2.1,.inl (hA.fz _ _ l1).2,CL,eL,fL,(hA.fz _ _ l1).1,l2,fun j v hj hv=>?_⟩;have hlen:j<(eX l).length:=by rw[gg];omega
  have:=l3 j _ hj (List.getElem?_eq_getElem hlen)
  rw[this]at hv;cases hv;have hm:=List.getElem_mem hlen;generalize(eX l)[j]=u at hm ⊢;simp only[eX,List.mem_flatMap]at hm;obtain⟨c,_,hu⟩:=hm;simp only[Cm.cells,aM,bA,or_false]at hu;rcases hu with rfl|rfl|rfl<;>exact .int _ _
 ·cases hv
theorem He.pkw(D:He q s K k nv cv Pb gc lb cs l msg bn bz bk bp bx bc br){st:St eD}(hA:At s i x st)(hK:x.keep=K)(hI:Inv q st)(τ:Nat->Question->Nat)(d:Nat):
  ∃lv,RU (World.on (iy st.w (nu Pb s.Gb gc lb cs.length (3*l.length))) τ d) Pb s.Gb lv cs l msg:=by
 obtain⟨CP,eP,fP,cap,p1,p2,p3,p4,p5,p6⟩:=D.pk;obtain⟨CG,eG,fG,g1,g2,g3⟩:=D.gcB;obtain⟨CL,eL,fL,l1,l2,l3⟩:=D.lbB;rw[<-hK]at p1 g1 l1;have aP:=hA.apart hI p1;have aG:=hA.apart hI g1;have aL:=hA.apart hI l1;have vP:nu Pb s.Gb gc lb cs.length (3*l.length) Pb=some 3:=by simp[nu]
 have vS:nu Pb s.Gb gc lb cs.length (3*l.length) s.Gb=some 3:=by simp[nu]
 have vG:nu Pb s.Gb gc lb cs.length (3*l.length) gc=some cs.length:=by simp[nu,D.gp,aG.1]
 have vL:nu Pb s.Gb gc lb cs.length (3*l.length) lb=some (3*l.length):=by simp[nu,D.lp,aL.1,D.lg]
 obtain⟨C0,a1,a2,a3,a4,a5⟩:=(hI.eZ s hA.sc).c.head;obtain⟨iX,hg2⟩:=D.g2;have bP:=lQ vP (hA.fz _ _ p1).1;have bS:=lQ vS a1;have bG:=lQ vG (hA.fz _ _ g1).1;have bL:=lQ vL (hA.fz _ _ l1).1;have hs:=tN st.w (nu Pb s.Gb gc lb cs.length (3*l.length));have cell:∀{b n:Nat} {C:Array af} {e:aj},(iy st.w (nu Pb s.Gb gc lb cs.length (3*l.length))).heap[b]?=some (.cells (C.extract 0 n) e (0,n))->∀{o:Nat},o<n->n<=C.size->(World.on (iy st.w (nu Pb s.Gb gc lb cs.length (3*l.length))) τ d).cell? ⟨b,o,none⟩=C[o]?:=by
  intro b n C e hb o ho hn;show bM (iy st.w _) _=_;simp only[bM,hb];have e1:(C.extract 0 n)[o]?=C[o]?:=by
   rw[Array.getElem?_extract];simp only[cZ];by_cases h:o<n-0
   ·simp<;>omega
   ·omega
  exact e1
 have lt:∀{b:Nat} {o:Obj},st.w.heap[b]?=some o->b<(World.on (iy st.w (nu Pb s.Gb gc lb cs.length (3*l.length))) τ d).heap.size:=fun h=>by
  show _<(iy st.w _).heap.size;rw[hs];exact lt_of_block h
 refine⟨_,⟨⟨(cell bP (by omega) (by omega)).trans p3,(cell bP (by omega) (by omega)).trans p4,(cell bP (by omega) (by omega)).trans p5⟩,lt (hA.fz _ _ p1).1,?_,gc,iX,(cell bS (by omega) (by omega)).trans (a5.trans (by rw[hg2])),lt a1,lt (hA.fz _ _ g1).1,fun h=>(cell bG h g2).trans (g3 0 h)⟩⟩;refine⟨by rw[gg],_,_,rfl,p6,fun hp=>⟨lb,0,rfl,lt (hA.fz _ _ l1).1,fun j u hj=>?_⟩⟩;have hlt:=(List.getElem?_eq_some_iff.1 hj).1;rw[gg]at hlt;rw[cZ];exact(cell bL (by omega) l2).trans (l3 j u (by omega) hj)
variable{Ch:Nat->ah->St eD->Prop}{b:ai}{ops:Array Oper}{kk:List Item}{cc:List ai}{S:Array Bool->St eD->Prop}
structure Ground(q:iK)(s:eI)(i:Nat)(K:List (Nat×Obj))(S:Array Bool->St eD->Prop)(j:Nat):Prop where
 at_:∀l st,S l st->Inv q st/\∃x:Wk,x.wg=.work/\x.keep=K/\At s i x st
 stay:∀l st dV,S l st->Rl i st dV->Inv q dV->S l dV
 set:∀l st,l.getD j true=false->S l st->S (l.setIfInBounds j true) st
theorem kx{w:WG}(h:w=.work):w≠ .lv/\w≠ .gone/\w≠ .idle:=by rw[h];simp
theorem Does.calm{P:au}(hP:q.P=P){j:Nat}{o:Oper}{X:Sem Next}{v:af}(G:Ground q s i K S j)(ho:ops[j]?=some o)(hk:b.kind≠ .early)
  (hrun:∀w,X.run P w=.ok (.value v) w)(hev:∀w,X.events P w #[]=#[]):Does (cfg q) i Ch b ops kk cc S j o X v:=
 Does.quiet hP ho hk (fun l st hl hs=>by
  obtain⟨_,x,hx,_,hA⟩:=G.at_ l st hs;exact⟨⟨x,kx hx,hA⟩,fun dV hr hi=>G.stay _ _ _ (G.set l st hl hs) hr hi⟩) hrun fun a w h=>by unfold listed;rw[h,hev];exact seen_none P _
theorem Does.box{P:au}(hP:q.P=P){j:Nat}{o:Oper}{a₀:Act}{v:af}{bb:Nat}{t:aj}{y:Operand}(G:Ground q s i K S j)(ho:ops[j]?=some o)(hk:b.kind≠ .early)(hop:o.op=.load t y)(hy:a₀.eval y=.pointer (some ⟨bb,0,none⟩))(hb:Hn K bb v)
  (hld:∀w:ae,w.cell? ⟨bb,0,none⟩=some v->(aT t (.pointer (some ⟨bb,0,none⟩))).run P w=.ok v w/\(aT t (.pointer (some ⟨bb,0,none⟩))).events P w #[]=#[⟨.cell ⟨bb,0,none⟩,false,false⟩]):Does (cfg q) i Ch b ops kk cc S j o (ax a₀.eval o) v:=
 Does.reads hP ho hk fun l st hl hs=>by
  obtain⟨_,x,hx,hK,hA⟩:=G.at_ l st hs;refine⟨⟨x,hx,hA⟩,fun dV hr hi=>?_⟩;have dX:=hA.rely (kx hx) hr hi;obtain⟨b1,b2⟩:=dX.box hK hb;obtain⟨r1,r2⟩:=hld dV.w b2;have hr':(ax a₀.eval o).run P dV.w=.ok (.value v) dV.w:=by
   unfold ax;simp only[hop,hy];simp[r1]
  have he':(ax a₀.eval o).events P dV.w #[]=#[⟨.cell ⟨bb,0,none⟩,false,false⟩]:=by
   unfold ax;simp only[hop,hy];simp[r1,r2]
  refine⟨G.stay _ _ _ (G.set l st hl hs) hr hi,hr',fun a he e hm=>?_⟩;have:=mem_listed hm
  rw[he,he']at this;simp at this<;>exact⟨bb,0,this,b1⟩
theorem Does.lone{P:au}(hP:q.P=P){SF:ak->Bool}(F:nL P SF){j:Nat}{o:Oper}{a₀:Act}{v:af}{f:ak}{fn:Func}{c:Code}{ars:Array Operand}{ats:Array aj}{args:Array af}(G:Ground q s i K S j)(hS:SF f=true)(ho:ops[j]?=some o)(hk:b.kind≠ .early)(hop:o.op=.call {callee:=.value (.func f),args:=ars,argTypes:=ats})
  (hf:P.funcs[f]?=some fn)(hname:(fn.name== "runtime.NumGoroutine")=false)(hb:fn.body=some c)(hargs:ars.map a₀.eval=args){ly:Nat->Option Nat}(hV:∀(x:Wk) (st:St eD),At s i x st->x.keep=K->Inv q st->Ev q SF i ly st)
  (ha:AR (fun f=>SF f=true) (wJ ly) args args)(hv:VR (fun f=>SF f=true) (wJ ly) v v)(hC:∀(x:Wk) (st:St eD) τ d,At s i x st->x.keep=K->Inv q st->Calls P f args (World.on (iy st.w ly) τ d) fun e w'=>e=.returned v)(bs4:iV 4 v=true:=by first|rfl|simp[iV]):Does (cfg q) i Ch b ops kk cc S j o (ax a₀.eval o) v:=by
 refine Does.call (s:=s) hP ho hk hop hf hname hb hargs (fun l st hs=>?_) fun l a rest st hl hs fin=>?_
 ·obtain⟨_,x,hx,_,hA⟩:=G.at_ l st hs;exact⟨⟨x,kx hx,hA⟩,fun dV hr hi=>G.stay _ _ _ hs hr hi⟩
 ·obtain⟨hI,x,hx,hK,hA⟩:=G.at_ l st hs;refine TT.call hP F hS hA hx hI (hV x st hA hK hI) ha hv (fun τ d=>hC x st τ d hA hK hI) (hs:=bs4) fun st' hr hi _=>?_;have e:(b.at a (.inRegion ops (j::rest)::kk)).finish v=b.at (a.put o.dst v) (.inRegion ops rest::kk):=by rw[Frame.finish_at,ho];rfl
  rw[e];exact fin st' (G.stay _ _ _ (G.set l st hl hs) hr hi)
theorem Lt{P:au}(hP:q.P=P)(hS:∀l st,S l st->(∃x:Wk,(x.wg≠ .lv/\x.wg≠ .gone/\x.wg≠ .idle)/\At s i x st)/\∀dV,Rl i st dV->Inv q dV->S l dV){j:Nat}{l:Array Bool}{a:Act}{o:Oper}{rest:List Nat}{st:St eD}
  (bs6:∀st,S l st->S (l.setIfInBounds j true) st)(ho:ops[j]?=some o)(hw:bg o (yielded ops a.tmps)=false)(hs:S l st)(h:∀st',S (l.setIfInBounds j true) st'->TT (cfg q) i Ch (Go.Conc.G (b.at (a.put o.dst av) (.inRegion ops rest::kk)) cc) st'):TT (cfg q) i Ch (Go.Conc.G (b.at a (.inRegion ops (j::rest)::kk)) cc) st:=by
 subst hP;obtain⟨⟨x,hx,hA⟩,Yl⟩:=hS l st hs;refine TT.step fun dV hr hi=>⟨fun hl=>absurd hl ((hA.rely hx hr hi).nH ⟨hx.1,hx.2.1⟩),?_⟩;have hstep:stepG (cfg q).P (i==0) (Go.Conc.G (b.at a (.inRegion ops (j::rest)::kk)) cc) dV.w=.go (Go.Conc.G (b.at (a.put o.dst av) (.inRegion ops rest::kk)) cc) dV.w #[]:=stepG_unwanted ho hw;unfold iR;rw[hstep];have e:(⟨dV.w,dV.t++MemOp.ofEvents i (Go.Conc.G (b.at a (.inRegion ops (j::rest)::kk)) cc).frame.fn (Go.Conc.G (b.at a (.inRegion ops (j::rest)::kk)) cc).frame.place #[],dV.γ⟩:St eD)=dV:=by rw[ofEvents_none,Array.append_empty]
 refine .inr ⟨dV.γ,by rw[e];exact hi,by rw[e],fun j hj=>by rw[e];exact Rl.refl j dV,.inr fun k _ hw=>by rw[e];exact hw,?_⟩;rw[e];exact .inl ⟨rfl,h dV (bs6 dV (Yl dV hr hi))⟩
end
end
section
open Go.ConcM (OsLater)
theorem qR{P:au}:∀{n d:Nat} {g:ah},QuitsD P n d g->∀k,QuitsD P (n+k) d g
 |0,d,g,h,0=>h
 |0,d,g,h,k+1=>by rw[cZ];exact .inl h
 |n+1,d,g,h,k=>by
  rw[Nat.add_right_comm];exact h.imp id fun⟨a,g',es,b,c,e⟩=>⟨a,g',es,b,c,qR e k⟩
theorem YP(p:WG->Bool)(γ:eD)(s:eI):gj p γ s<=s.n:=by
 unfold gj;exact aY (List.countP_le_length) (by simp)
section
variable{q:iK}{i:Nat}{s:eI}{x:Wk}
theorem UQ(off:Nat)(h:off<2):∀e∈(#[⟨.cell ⟨s.Wg,off,none⟩,false,true⟩,⟨.cell ⟨s.Wg,off,none⟩,true,true⟩]:Array Event),∃o y,e=⟨ca s.Wg o,y,true⟩/\o<2:=by
 intro e he;simp at he;rcases he with rfl|rfl
 ·exact⟨off,false,rfl,h⟩
 ·exact⟨off,true,rfl,h⟩
theorem a82(off:Nat)(h:off<2):∀e∈(#[⟨.cell ⟨s.Wg,off,none⟩,false,true⟩]:Array Event),∃o y,e=⟨ca s.Wg o,y,true⟩/\o<2:=by
 intro e he;simp at he;subst he;exact⟨off,false,rfl,h⟩
theorem a81(off:Nat)(h:off<2):∀e∈(#[⟨.cell ⟨s.Wg,off,none⟩,true,true⟩]:Array Event),∃o y,e=⟨ca s.Wg o,y,true⟩/\o<2:=by
 intro e he;simp at he;subst he;exact⟨off,true,rfl,h⟩
theorem ah2{mw:MW}{c d2 d3 d4 st sm:Nat}(h:xh mw c d2 d3 d4 st sm)(h2:1<=d2):mw=.rg/\c=0/\st=1/\sm=0/\d2+d3=1/\d4=0:=by
 cases mw<;>simp only[xh]at h
 all_goals(first|(exfalso;omega)|skip)
 rcases h with h|h|h|h
 ·exfalso;omega
 ·exact⟨rfl,h⟩
 ·exfalso;omega
 ·exfalso;omega
theorem ah1{mw:MW}{c d2 d3 d4 st sm:Nat}(h:xh mw c d2 d3 d4 st sm)(h2:1<=d3):mw=.rg/\c=0/\st=1/\sm=0/\d2+d3=1/\d4=0:=by
 cases mw<;>simp only[xh]at h
 all_goals(first|(exfalso;omega)|skip)
 rcases h with h|h|h|h
 ·exfalso;omega
 ·exact⟨rfl,h⟩
 ·exfalso;omega
 ·exfalso;omega
theorem ah0{mw:MW}{c d2 d3 d4 st sm:Nat}(h:xh mw c d2 d3 d4 st sm)(h2:1<=d4):mw=.rg/\c=0/\st=0/\sm=0/\d2+d3=0/\d4=1:=by
 cases mw<;>simp only[xh]at h
 all_goals(first|(exfalso;omega)|skip)
 rcases h with h|h|h|h
 ·exfalso;omega
 ·exfalso;omega
 ·exact⟨rfl,h.1,h.2.1,h.2.2.1,by omega,h.2.2.2.2.2⟩
 ·exfalso;omega
theorem FP{st:St eD}(c:gL q s st)(off:Nat)(v:af):(st.w.setCell ⟨s.Wg,off,none⟩ v).heap.size=st.w.heap.size/\(∀b,b≠s.Wg->(st.w.setCell ⟨s.Wg,off,none⟩ v).heap[b]?=st.w.heap[b]?)/\OsLater st.w.os (st.w.setCell ⟨s.Wg,off,none⟩ v).os/\(st.w.setCell ⟨s.Wg,off,none⟩ v).output=st.w.output:=by
 have A:=aside_setCell st.w ⟨s.Wg,off,none⟩ v;exact⟨A.size,fun b hb=>A.block b hb,by rw[A.os];exact .refl _,A.output⟩
end
section
variable{q:iK}(hP:q.P=dS){i:Nat}{s:eI}{x:Wk}{Ch:Nat->ah->St eD->Prop}
noncomputable def Kl:Code:=Try.f63.body.getD .skip
include hP
theorem aB6{c:ai}{ae1:List ai}(hc:c.mode=.returning){qt:Nat}(hq:QuitsD dS qt 0 (G c ae1))(hx:x.wg=.work)(mg:x.df=0)(hz:x.zw=true)(hr:x.rw=true)(hm:x.mx=.fresh\/x.mx=.out){st:St eD}(hA:At s i x st):
  TT (cfg q) i Ch (G ((baseD 63).at ⟨#[.pointer (some ⟨s.Wg,0,none⟩),av,av,av],[]⟩ [.code Kl]) (c::ae1)) st:=by
 simp only[Kl,Try.f63,aJ];refine TT.qQ hP hA (by simp[hx]) 80 fun w₀ hF=>?_;repeat w_go eU
 u_call Try.func61 ap0 Try.f61 eU hF
 repeat w_go eU
 m_convG dS Try.underlying174 Sc ag2 hF.choose_spec eU hF
 refine stp rfl ?_;clear hF w₀;refine TT.rel hP hA hx mg hz hr hm fun dV dX eO ek=>⟨_,stepG_markAt .releaseMerge (by simp) rfl rfl (by k_ne) rfl Try.func90 ZT ae6 Zk ad7 (by simp[aU];rfl),rfl,fun dY eo eN=>?_⟩;clear ek eO dX;refine TT.qQ hP eo (by simp) 80 fun w₀ hF=>?_;walk_nrm;repeat w_go eU
 refine stp rfl ?_;clear hF w₀;refine TT.PN hP eo (by simp) fun fx eJ fw eV=>⟨_,_,_,.deaf,fx.γ.gs,fx.γ.gm,stepG_mark0 .disable (by simp) rfl rfl (by k_ne) rfl Try.func91 qW rA qN f_disable,rfl,by simp[WG.cr],PO (by simp[Event.mute]),⟨rfl,fun _ _=>rfl,.refl _,rfl⟩,eV.qL,?_,.inr rfl,fun fJ eF fN _=>?_⟩
 ·intro c d2 d3 d4 h1 h2 h3 h4;simp[WG.cd]at h1 h2 h3 h4;rw[h1,h2,h3,h4];exact eV.sD
 clear eV fw eJ;refine TT.qQ hP eF (by simp) 80 fun w₀ hF=>?_;walk_nrm;repeat w_go eU
 u_defer eU hF
 repeat w_go eU
 u_in eU hF
 rw[stepG_entry_pure (.bool false) rfl rfl (by k_ne) rfl Try.func93 ZV ae7 Zl ad8];simp only[goes_go];refine⟨by u_nil,?_⟩;walk_nrm;repeat w_go eU
 u_call Try.func97 Tz Try.f97 eU hF
 repeat w_go eU
 refine stp rfl ?_;clear hF w₀;refine TT.PN hP eF (by simp) fun eT fh gB fD=>?_;have hL:=fD.sD;have hn:=fD.n0.2.2.2;have hc1:1<=gj WG.cd eT.γ s:=uP fh.lo (fh.hi gB) (by rw[fh.me];rfl);have Uo:gj WG.cd eT.γ s<=9:=aY (YP _ _ _) hn;by_cases hlast:eT.γ.mw=.rg/\gj WG.cd eT.γ s=1
 ·
  obtain⟨RN,Hu⟩:eT.γ.gs=4294967297/\eT.γ.gm=0:=by
   rw[hlast.1]at hL;simp only[xh]at hL;omega
  have hw:=fD.qL;rw[RN,Hu]at hw;have e1:IntKind.u64.wrap ((4294967297:Nat)+18446744069414584320:Int)=((1:Nat):Int):=by decide
  refine⟨_,_,_,.d2,1,0,(stepG_add_atomic rfl rfl (by k_ne) rfl Try.func123 Gs G7 FM .u64 GR rfl rfl hw.cellSt (hw.thaw 0)).trans (by rw[e1];rfl),rfl,by simp[WG.cr],rE (by show 0<deafBehind x.df #[⟨.mark .disable,false,true⟩];rw[mg];decide) (UQ 0 (by omega)),FP fD 0 _,hw.setSt 1,?_,.inr Hu.symm,fun gN eY gu Uj=>?_⟩
  ·intro c d2 d3 d4 h1 h2 h3 h4;have hL:=hL;rw[hlast.1]at hL ⊢;simp only[xh]at hL ⊢;simp[WG.cd]at h1 h2 h3 h4;have hl:=hlast.2;obtain⟨k2,k3,k4⟩:gj (·== .d2) eT.γ s=0/\gj (·== .d3) eT.γ s=0/\gj (·== .d4) eT.γ s=0:=by
    rcases hL with h|h|h|h
    ·exact⟨h.2.2.2.1,h.2.2.2.2.1,h.2.2.2.2.2⟩
    all_goals(have:=h.1;omega)
   exact .inr (.inl ⟨by omega,trivial,trivial,by omega,by omega⟩)
  clear hw e1 RN Hu hL hc1 Uo hlast fD gB fh Uj hn;have b1:bits .and .u64 1 2147483648=0:=by decide
  have b2:bits .and .u64 1 2147483647=1:=by decide
  have b3:bH .u32 1=1:=by decide
  have b4:bH .i32 0=0:=by decide
  refine TT.qQ hP eY (by simp) 160 fun w₀ hF=>?_;simp only[Int.natCast_one];walk_nrm;repeat w_go eU
  u_leave1 Try.func97 eU hF
  repeat w_go eU
  u_call Try.func99 Gq Try.f99 eU hF
  repeat w_go eU
  refine stp rfl ?_;clear hF w₀;have hd6:0<deafBehind (deafBehind x.df #[⟨.mark .disable,false,true⟩]) #[⟨.cell (stA s.Wg),false,true⟩,⟨.cell (stA s.Wg),true,true⟩]:=by rw[mg];exact Nat.lt_of_lt_of_eq (by omega:0<1) rfl
  refine TT.PN hP eY (by simp) fun gM iA lV jS=>?_;obtain⟨k1,k2,k3,k4,k5,k6⟩:=ah2 jS.sD (uP iA.lo (iA.hi lV) (by rw[iA.me];rfl));have hw:=jS.qL;rw[k3,k4]at hw;refine⟨_,_,_,.d3,1,0,stepG_load_atomic rfl rfl (by k_ne) rfl Try.func124 Gr G6 FL .u64 GQ rfl hw.cellSt,rfl,by simp[WG.cr],rE hd6 (a82 0 (by omega)),⟨rfl,fun _ _=>rfl,.refl _,rfl⟩,hw,?_,.inr k4.symm,fun xB lB zQ aY1=>?_⟩
  ·intro c d2 d3 d4 h1 h2 h3 h4;rw[k1];simp only[xh];simp[WG.cd]at h1 h2 h3 h4;exact .inr (.inl ⟨by omega,trivial,trivial,by omega,by omega⟩)
  clear hw k1 k2 k3 k4 k5 k6 jS lV iA aY1;refine TT.qQ hP lB (by simp) 160 fun w₀ hF=>?_;simp only[Int.natCast_one];walk_nrm;repeat w_go eU
  u_leave1 Try.func99 eU hF
  repeat w_go eU
  u_call Try.func100 Tx Try.f100 eU hF
  repeat w_go eU
  refine stp rfl ?_;clear hF w₀;refine TT.PN hP lB (by simp) fun Sj tD O0 O1=>?_;obtain⟨k1,k2,k3,k4,k5,k6⟩:=ah1 O1.sD (uP tD.lo (tD.hi O0) (by rw[tD.me];rfl));have hw:=O1.qL;rw[k3,k4]at hw;refine⟨_,_,_,.d4,0,0,stepG_store_atomic rfl rfl (by k_ne) rfl Try.func125 ap2 aC3 ag6 az8 rfl rfl hw.cellSt (hw.thaw 0),rfl,by simp[WG.cr],rE hd6 (a81 0 (by omega)),FP O1 0 _,hw.setSt 0,?_,.inr k4.symm,fun stV Hw hIA hgA=>?_⟩
  ·intro c d2 d3 d4 h1 h2 h3 h4;rw[k1];simp only[xh];simp[WG.cd]at h1 h2 h3 h4;exact .inr (.inr (.inl ⟨by omega,trivial,trivial,by omega,by omega,by omega⟩))
  clear hw k1 k2 k3 k4 k5 k6 O1 O0 tD hgA;refine TT.qQ hP Hw (by simp) 160 fun w₀ hF=>?_;walk_nrm;repeat w_go eU
  u_leave0 Try.func100 eU hF
  repeat w_go eU
  refine stp rfl ?_;clear hF w₀;refine TT.PN hP Hw (by simp) fun Nq El Mx O2=>?_;obtain⟨k1,k2,k3,k4,k5,k6⟩:=ah0 O2.sD (uP El.lo (El.hi Mx) (by rw[El.me];rfl));have hw:=O2.qL;rw[k3,k4]at hw;have e1:IntKind.u32.wrap ((0:Nat)+1:Int)=((1:Nat):Int):=by decide
  refine⟨_,_,_,.lv,0,1,(stepG_semrelease rfl rfl (by k_ne) rfl Try.func102 Xp Pr Wm Yz (by simp[aU];rfl) hw.cellSm (hw.thaw 1)).trans (by rw[e1];rfl),rfl,by simp[WG.cr],R9,FP O2 1 _,hw.setSm 1,?_,.inl (mayWake_entry rfl rfl Try.func102 Pr),fun VS KZ hIC hgC=>?_⟩
  ·intro c d2 d3 d4 h1 h2 h3 h4;rw[k1];simp only[xh];simp[WG.cd]at h1 h2 h3 h4;exact .inr (.inr (.inr ⟨by omega,trivial,trivial,by omega,by omega,by omega⟩))
  clear hw k1 k2 k3 k4 k5 k6 e1 O2 Mx El hgC;have quit:∀g:ah,g.status=.running->(∃n,QuitsD dS n 1 g)->TT (cfg q) i Ch g VS:=fun g hg ⟨n,hn⟩=>TT.quits hP n g VS KZ.ne KZ.lt (congrArg Wk.wg KZ.me) hg (by
   rw[KZ.me];have e:deafBehind (deafBehind (deafBehind (deafBehind (deafBehind x.df #[⟨.mark .disable,false,true⟩]) #[⟨.cell (stA s.Wg),false,true⟩,⟨.cell (stA s.Wg),true,true⟩]) #[⟨.cell (stA s.Wg),false,true⟩]) #[⟨.cell (stA s.Wg),true,true⟩]) (semEvents (smA s.Wg))=1:=by rw[mg];rfl
   exact(congrArg (fun d=>QuitsD dS n d g) e).mpr hn)
  refine quit _ rfl ?_;clear quit;refine⟨qt+300,?_⟩;walk_nrm;repeat q_go
  refine QuitsD.unwind_mark .enable rfl (by simp) rfl Try.func92 je jl jd f_enable ?_;simp only[deafBehind_enable1];q_leave0 Try.func61
  repeat q_go
  exact QuitsD.leaveD rfl rfl Try.func63 rfl hc (qR hq _)
 ·obtain⟨v,wt,RN,hwt,hv,h0,Hu⟩:∃v wt:Nat,eT.γ.gs=(v+1)*4294967296+wt/\wt<=1/\v<=10/\(v=0->wt=0)/\eT.γ.gm=0:=by
   have key:∀(mw:MW) (c d2 d3 d4 gs gm:Nat),xh mw c d2 d3 d4 gs gm->1<=c->c<=9->¬(mw=.rg/\c=1)->∃v wt:Nat,gs=(v+1)*4294967296+wt/\wt<=1/\v<=10/\(v=0->wt=0)/\gm=0:=by
    intro mw c d2 d3 d4 gs gm h h1 h9 hne;cases mw<;>simp only[xh]at h
    ·exact⟨c-1,0,by omega,by omega,by omega,by omega,by omega⟩
    ·exact⟨c,0,by omega,by omega,by omega,by omega,by omega⟩
    ·exact⟨c-1,0,by omega,by omega,by omega,by omega,by omega⟩
    ·have:c≠1:=fun e=>hne ⟨rfl,e⟩
     rcases h with h|h|h|h
     ·exact⟨c-1,1,by omega,by omega,by omega,by omega,by omega⟩
     all_goals(have:=h.1;omega)
    ·omega
   exact key _ _ _ _ _ _ _ hL hc1 Uo hlast
  have hw:=fD.qL;rw[RN,Hu]at hw;have e1:IntKind.u64.wrap ((((v+1)*4294967296+wt:Nat):Int)+18446744069414584320)=((v*4294967296+wt:Nat):Int):=by rw[IntKind.wrap_u64];omega
  refine⟨_,_,_,.lv,v*4294967296+wt,0,(stepG_add_atomic rfl rfl (by k_ne) rfl Try.func123 Gs G7 FM .u64 GR rfl rfl hw.cellSt (hw.thaw 0)).trans (by rw[e1];rfl),rfl,by simp[WG.cr],rE (by show 0<deafBehind x.df #[⟨.mark .disable,false,true⟩];rw[mg];decide) (UQ 0 (by omega)),FP fD 0 _,hw.setSt _,?_,.inr Hu.symm,fun gN eY gu Uj=>?_⟩
  ·intro c d2 d3 d4 h1 h2 h3 h4;simp[WG.cd]at h1 h2 h3 h4;have key:∀(mw:MW) (C D2 D3 D4 gs gm c d2 d3 d4:Nat),xh mw C D2 D3 D4 gs gm->1<=C->C<=9->¬(mw=.rg/\C=1)->gs=(v+1)*4294967296+wt->gm=0->c+1=C->d2=D2->d3=D3->d4=D4->xh mw c d2 d3 d4 (v*4294967296+wt) 0:=by
    intro mw C D2 D3 D4 gs gm c d2 d3 d4 h a1 a9 hne e1 e2 e3 e4 e5 e6;subst e4 e5 e6;cases mw<;>simp only[xh]at h ⊢
    ·exact⟨by omega,trivial,h.2.2.1,h.2.2.2.1,h.2.2.2.2⟩
    ·exact⟨by omega,trivial,h.2.2.1,h.2.2.2.1,h.2.2.2.2⟩
    ·exact⟨by omega,trivial,h.2.2.1,h.2.2.2.1,h.2.2.2.2⟩
    ·have:C≠1:=fun e=>hne ⟨rfl,e⟩
     rcases h with h|h|h|h
     ·exact .inl ⟨by omega,by omega,trivial,h.2.2.2⟩
     all_goals(have:=h.1;omega)
    ·omega
   exact key _ _ _ _ _ _ _ _ _ _ _ hL hc1 Uo hlast RN Hu h1 h2 h3 h4
  have quit:∀g:ah,g.status=.running->(∃n,QuitsD dS n 1 g)->TT (cfg q) i Ch g gN:=fun g hg ⟨n,hn⟩=>TT.quits hP n g gN eY.ne eY.lt (congrArg Wk.wg eY.me) hg (by
   rw[eY.me];have e:deafBehind (deafBehind x.df #[⟨.mark .disable,false,true⟩]) #[⟨.cell (stA s.Wg),false,true⟩,⟨.cell (stA s.Wg),true,true⟩]=1:=by rw[mg];rfl
   exact(congrArg (fun d=>QuitsD dS n d g) e).mpr hn)
  refine quit _ rfl ?_;clear quit eY gu Uj hw e1 RN Hu hL hc1 Uo hlast fD gB fh;rcases Nat.eq_zero_or_pos v with rfl|hvp
  ·obtain rfl:=h0 rfl;clear h0 hwt hv;simp only[Nat.zero_mul,cZ,Nat.add_zero,Int.natCast_zero];have b1:bits .and .u64 0 2147483648=0:=by decide
   have b2:bits .and .u64 0 2147483647=0:=by decide
   have b3:bH .u32 0=0:=by decide
   have b4:bH .i32 0=0:=by decide
   refine⟨qt+300,?_⟩;walk_nrm;repeat q_go
   q_leave1 Try.func97
   repeat q_go
   refine QuitsD.unwind_mark .enable rfl (by simp) rfl Try.func92 je jl jd f_enable ?_;simp only[deafBehind_enable1];q_leave0 Try.func61
   repeat q_go
   exact QuitsD.leaveD rfl rfl Try.func63 rfl hc (qR hq _)
  ·have hS0:((v*4294967296+wt:Nat):Int)=(v:Int)*4294967296+(wt:Int):=by omega
   rw[hS0];have b1:bits .and .u64 ((v:Int)*4294967296+(wt:Int)) 2147483648=0:=st_flag v wt (by omega) hwt;have b2:bits .and .u64 ((v:Int)*4294967296+(wt:Int)) 2147483647=(wt:Int):=st_waiters v wt (by omega) hwt;have a1:((v:Int)*4294967296+(wt:Int))/4294967296=(v:Int):=by omega
   have a2:0<=(v:Int)*4294967296+(wt:Int)/\(v:Int)*4294967296+(wt:Int)<9223372036854775808:=by omega
   generalize(v:Int)*4294967296+(wt:Int)=S at*;have v1:bH .i32 (v:Int)=(v:Int):=by rw[dJ];omega
   have v2:(0:Int)<(v:Int):=by omega
   have v3:¬(v:Int)<0:=by omega
   have v4:(decide ((0:Int)<(v:Int)))=true:=decide_eq_true v2;have v5:(decide ((v:Int)<0))=false:=decide_eq_false v3;clear hS0 h0;obtain rfl|rfl:wt=0\/wt=1:=by omega
   ·simp only[Int.natCast_zero]at b2 ⊢;have b3:bH .u32 0=0:=by decide
    refine⟨qt+300,?_⟩;walk_nrm;repeat q_go
    q_leave1 Try.func97
    repeat q_go
    refine QuitsD.unwind_mark .enable rfl (by simp) rfl Try.func92 je jl jd f_enable ?_;simp only[deafBehind_enable1];q_leave0 Try.func61
    repeat q_go
    exact QuitsD.leaveD rfl rfl Try.func63 rfl hc (qR hq _)
   ·simp only[Int.natCast_one]at b2 ⊢;have b3:bH .u32 1=1:=by decide
    refine⟨qt+300,?_⟩;walk_nrm;repeat q_go
    q_leave1 Try.func97
    repeat q_go
    refine QuitsD.unwind_mark .enable rfl (by simp) rfl Try.func92 je jl jd f_enable ?_;simp only[deafBehind_enable1];q_leave0 Try.func61
    repeat q_go
    exact QuitsD.leaveD rfl rfl Try.func63 rfl hc (qR hq _)
end
end
section
open Pl mJ nG mI Mem ng Ew
open uU hiding base
def bot(P:au):ai:={(default:ai)with fn:=P.funcs.size,defers:=[],mode:=.panicking [goexitEntry]}
theorem Lq{P:au}{b:ai}{a:Act}{todo:List Item}{fn:Func}(hn:b.kind=.deferred)(hd:a.defers=[])(hf:P.funcs[b.fn]?=some fn)(hr:fn.results=#[])(w:ae):stepG P false (G {b.at a todo with mode:=.returning} [bot P]) w=.go (G (bot P) []) w #[]:=by
 have h1:=results_none hr a.tmps P w;have h2:=events_results_none (P:=P) (w:=w) hr a.tmps #[];simp[G,stepG,unwind,doReturn,Frame.at,hn,hd,hf,h1,h2,seen,GStep.after,bot,goexitEntry]
theorem PT(P:au)(w:ae):stepG P false (G (bot P) []) w=.go {G (bot P) []with status:=.finished} w #[]:=by
 have h:(bot P).catches P=false:=by
  have e:P.funcs[P.funcs.size]?=none:=by simp
  unfold Frame.catches bot;simp only[e];rfl
 simp[G,stepG,unwind,bot,goexitEntry]at h ⊢;simp[h]
theorem LJ{P:au}{b:ai}{a:Act}{todo:List Item}{fn:Func}(hn:b.kind=.deferred)(hd:a.defers=[])(hf:P.funcs[b.fn]?=some fn)(hr:fn.results=#[]):QuitsD P 2 0 (G {b.at a todo with mode:=.returning} [bot P]):=
 .inr ⟨rfl,_,#[],by simp,fun w=>Lq hn hd hf hr w,.inr ⟨rfl,_,#[],by simp,fun w=>PT P w,rfl,rfl⟩⟩
theorem ap4:(Try.f41.name== "runtime.NumGoroutine")=false:=kr
theorem Xx:(Try.f42.name== "runtime.NumGoroutine")=false:=kr
theorem ap5:(Try.f64.name== "runtime.NumGoroutine")=false:=kr
theorem aR8:(Try.f67.name== "runtime.NumGoroutine")=false:=kr
theorem Tv:(Try.f70.name== "runtime.NumGoroutine")=false:=kr
theorem TN{w:ae}{ad:Addr}{v:af}(hc:w.cell? ad=some v):(aT 40 (.pointer (some ad))).run dS w=.ok v w/\(aT 40 (.pointer (some ad))).events dS w #[]=#[⟨.cell ad,false,false⟩]:=by
 constructor<;>simp[go_sem,hc]
theorem ar7{w:ae}{ad:Addr}{v:af}(hc:w.cell? ad=some v):(aT 75 (.pointer (some ad))).run dS w=.ok v w/\(aT 75 (.pointer (some ad))).events dS w #[]=#[⟨.cell ad,false,false⟩]:=by
 constructor<;>simp[go_sem,hc]
theorem aT0{w:ae}{ad:Addr}{v:af}(hc:w.cell? ad=some v):(aT 76 (.pointer (some ad))).run dS w=.ok v w/\(aT 76 (.pointer (some ad))).events dS w #[]=#[⟨.cell ad,false,false⟩]:=by
 constructor<;>simp[go_sem,hc]
theorem Jv{w:ae}{ad:Addr}{v:af}(hc:w.cell? ad=some v):(aT 107 (.pointer (some ad))).run dS w=.ok v w/\(aT 107 (.pointer (some ad))).events dS w #[]=#[⟨.cell ad,false,false⟩]:=by
 constructor<;>simp[go_sem,hc]
theorem Mb{w:ae}{ad:Addr}{v:af}(hc:w.cell? ad=some v):(aT 100 (.pointer (some ad))).run dS w=.ok v w/\(aT 100 (.pointer (some ad))).events dS w #[]=#[⟨.cell ad,false,false⟩]:=by
 constructor<;>simp[go_sem,hc]
theorem ar8{w:ae}{ad:Addr}{v:af}(hc:w.cell? ad=some v):(aT 97 (.pointer (some ad))).run dS w=.ok v w/\(aT 97 (.pointer (some ad))).events dS w #[]=#[⟨.cell ad,false,false⟩]:=by
 constructor<;>simp[go_sem,hc]
theorem ye{w:ae}{ad:Addr}{v:af}(hc:w.cell? ad=some v):(aT 3 (.pointer (some ad))).run dS w=.ok v w/\(aT 3 (.pointer (some ad))).events dS w #[]=#[⟨.cell ad,false,false⟩]:=by
 constructor<;>simp[go_sem,hc]
theorem aN1{w:ae}{ad:Addr}{u:af}{v:Int}(hc:w.cell? ad=some u)(hz:w.frozen? ad=false):(bI 76 (.pointer (some ad)) (.int .u64 v)).run dS w=.ok () (w.setCell ad (.int .u64 v))/\(bI 76 (.pointer (some ad)) (.int .u64 v)).events dS w #[]=#[⟨.cell ad,true,false⟩]:=by
 constructor<;>simp[go_sem,hc,hz]
theorem uW{w:ae}{ad:Addr}{u:af}{v:Bool}(hc:w.cell? ad=some u)(hz:w.frozen? ad=false):(bI 4 (.pointer (some ad)) (.bool v)).run dS w=.ok () (w.setCell ad (.bool v))/\(bI 4 (.pointer (some ad)) (.bool v)).events dS w #[]=#[⟨.cell ad,true,false⟩]:=by
 constructor
 ·simp[go_sem,hc,hz]
 ·simp[go_sem,hc,hz];rw[events_store _ _ _ _ _ _ rfl];simp[hc,hz]
theorem tF.room{b n:Nat}{t:aj}{f:Nat->Bool}{v:Nat->af}{w:ae}(h:tF b n t f v w){k:Nat}(hk:k<n):(∃u,w.cell? ⟨b,k,none⟩=some u)/\w.frozen? ⟨b,k,none⟩=false:=by
 obtain⟨Z,z1,z2,_⟩:=h;exact⟨⟨Z[k]'(by omega),by simp only[bM,z1];exact Array.getElem?_eq_getElem (by omega)⟩,by simp[World.frozen?,z1]⟩
section
variable{q:iK}{i:Nat}{s:eI}{x:Wk}{Ch:Nat->ah->St eD->Prop}{K:List (Nat×Obj)}{k:Nat}{nv cv:Int}{Pb gc lb:Nat}{cs:List Int}{l:List Cm}{msg:ByteArray}{bn bz bk bp bx bc br:Nat}
noncomputable def Aj:Code:=Try.f62.body.getD .skip
def jI(q:iK)(i:Nat)(s:eI)(x:Wk)(z8:Array Bool)(st:St eD):Prop:=
 Inv q st/\∃x',At s i x' st/\x'.keep=x.keep/\x'.wg=.work/\x'.df=0/\x'.zw=true/\(z8.getD 14 true=false->x'={x with rw:=x'.rw})/\(z8.getD 25 true=true->x'.rw=true)/\(x'.mx=.fresh\/x'.mx=.out)
theorem jI.stay{z8:Array Bool}{st dV:St eD}(h:jI q i s x z8 st)(hr:Rl i st dV)(hi:Inv q dV):jI q i s x z8 dV:=by
 obtain⟨_,x',hA,h1,h2,h3⟩:=h;exact⟨hi,x',hA.rely (kx h2) hr hi,h1,h2,h3⟩
theorem jI.set{z8:Array Bool}{st:St eD}{j:Nat}(h:jI q i s x z8 st)(h25:j≠25):jI q i s x (z8.setIfInBounds j true) st:=by
 obtain⟨hi,x',hA,h1,h2,h3,h4,h5,h6,h7⟩:=h;refine⟨hi,x',hA,h1,h2,h3,h4,fun h=>h5 ?_,?_,h7⟩
 ·by_cases e:j=14
  ·subst e;by_cases hl:14<z8.size
   ·simp[Array.getD,hl]at h
   ·simp[Array.getD,hl]at h
  ·rw[getD_set_ne true e]at h;exact h
 ·rw[getD_set_ne true h25];exact h6
theorem jI.ground(hK:x.keep=K){j:Nat}(h25:j≠25):Ground q s i K (jI q i s x) j where
 at_:=fun l st h=>by
  obtain⟨hi,x',hA,h1,h2,_⟩:=h;exact⟨hi,x',h2,h1.trans hK,hA⟩
 stay:=fun l st dV h hr hi=>h.stay hr hi
 set:=fun l st _ h=>h.set h25
theorem DN{z8:Array Bool}{j:Nat}(h:z8.getD j true=false):j<z8.size:=by
 refine Nat.lt_of_not_le fun hge=>?_;simp[Array.getD,Nat.not_lt.2 hge]at h
theorem Eo{z8:Array Bool}{j:Nat}(h:j<z8.size):(z8.setIfInBounds j true).getD j true=true:=by simp[Array.getD,h]
theorem zC{P:au}{main:Bool}{b:ai}{a:Act}{kk:List Item}{cs:List ai}{w:ae}{ops:Array Oper}{i:Nat}{rest:List Nat}{o:Oper}{X:Sem Next}{ad:Addr}{v:af}(ho:ops[i]?=some o)(hw:bg o (yielded ops a.tmps)=true)(hk:b.kind≠ .early)(he:ax a.eval o=X)(hr:X.run P w=.ok .skip (w.setCell ad v))(hev:X.events P w #[]=#[⟨.cell ad,true,false⟩])(hn:(P.funcs[b.fn]?).any (·.norace)=false):
  stepG P main (G (b.at a (.inRegion ops (i::rest)::kk)) cs) w=.go (G (b.at (a.put o.dst av) (.inRegion ops rest::kk)) cs) (w.setCell ad v) #[⟨.cell ad,true,false⟩]:=by
 rw[stepG_none ho hw hk (by rw[he];exact hr)];unfold listed;rw[he,hev,seen_def,hn];simp[seenStep]
theorem BR(x d e:Int)(w:ae):(Instr.field 52 (.agg #[.int .i64 x,.int .u64 d,.int .u64 e]) 0).run dS w=.ok (.int .i64 x) w:=kr
theorem Ka(x d e:Int)(w:ae)(es:Array Event):(Instr.field 52 (.agg #[.int .i64 x,.int .u64 d,.int .u64 e]) 0).events dS w es=es:=kr
theorem Vq{S:ak->Prop}{ρ:Nat->Option Nat}{b:Nat}{k1:IntKind}{n1:Int}(h:ρ b=some b):AR S ρ #[.pointer (some ⟨b,0,none⟩),.int k1 n1] #[.pointer (some ⟨b,0,none⟩),.int k1 n1]:=Bu (l:=[.pointer (some ⟨b,0,none⟩),.int k1 n1]) (by intro v hv;simp at hv;rcases hv with rfl|rfl;exact .ptr _ _ h;exact .int _ _)
theorem aM5{S:ak->Prop}{ρ:Nat->Option Nat}{k1 k2 k3:IntKind}{n1 n2 n3:Int}:VR S ρ (.agg #[.int k1 n1,.int k2 n2,.int k3 n3]) (.agg #[.int k1 n1,.int k2 n2,.int k3 n3]):=.agg' (Bu (l:=[.int k1 n1,.int k2 n2,.int k3 n3]) (by intro v hv;simp at hv;rcases hv with rfl|rfl|rfl<;>exact .int _ _))
variable(hP:q.P=dS)
include hP
theorem PV(D:He q s K k nv cv Pb gc lb cs l msg bn bz bk bp bx bc br)(hK:x.keep=K)(hx:x={mx:=.fresh,zw:=true,rw:=false,syn:=false,wg:=.work,df:=0,keep:=K}){id:Nat}(i1:1<=id)(i2:id<=s.nn){B:Int}(hB:s.vals id=B){b:ai}{ops:Array Oper}{kk:List Item}{cc:List ai}{dst:Option Tmp}
  (z8:Array Bool)(a:Act)(rest:List Nat)(st:St eD)(hl:z8.getD 14 true=false)(hs:jI q i s x z8 st)(fin:∀st',jI q i s x (z8.setIfInBounds 14 true) st'->TT (cfg q) i Ch (G (b.at (a.put dst (.int .u64 B)) (.inRegion ops rest::kk)) cc) st')(ho:(ops[14]?).bind (·.dst)=dst):
  TT (cfg q) i Ch (G (Frame.enter dS 66 #[.pointer (some ⟨s.Gb,0,none⟩),.int .i64 id] .normal) (b.at a (.inRegion ops (14::rest)::kk)::cc)) st:=by
 obtain⟨hi,x',hA,h1,h2,h3,h4,h5,h6,h7⟩:=hs;have e:=h5 hl;rw[enter_at (P:=dS) _ Try.func66 rfl];have hW:zx q i Ch s x':=D.vals h2 (h1.trans hK) hP;have hA':At s i {x' with mx:=.fresh,df:=0} st:=by
  have:({x' with mx:=.fresh,df:=0}:Wk)=x':=by rw[e,hx]
  rw[this];exact hA
 refine WB hP h2 D.n9 hW i1 i2 (fun mx st' hm dX eO=>?_) hA';rw[hB,ho];refine fin st' ⟨eO,_,dX,h1,h2,rfl,h4,fun h=>?_,fun h=>?_,hm⟩
 ·rw[Eo (DN hl)]at h;cases h
 ·rw[getD_set_ne true (by decide:(14:Nat)≠25)]at h;exact h6 h
theorem aL6(D:He q s K k nv cv Pb gc lb cs l msg bn bz bk bp bx bc br)(hi:i=s.n0+k)(hxx:x={mx:=.fresh,zw:=false,rw:=false,syn:=false,wg:=.work,df:=0,keep:=K}){st:St eD}(hA:At s i x st)(hI:Inv q st):
  TT (cfg q) i Ch (G ((baseD 62).at ⟨#[.pointer (some ⟨s.Wg,0,none⟩),.pointer (some ⟨bn,0,none⟩),.pointer (some ⟨bz,0,none⟩),.pointer (some ⟨bk,0,none⟩),.pointer (some ⟨bp,0,none⟩),.pointer (some ⟨bx,0,none⟩),.pointer (some ⟨bc,0,none⟩),.pointer (some ⟨br,0,none⟩),av,av,av,av,av,av,av,av,av,av,av,av,av,av,av,av,av,av,av,av,av,av,av,av,av,av,av,av,av,av,av,av,av,av,av,av],[]⟩ [.code Aj]) [bot dS]) st:=by
 have hx:x.wg=.work:=by rw[hxx]
 have hK:x.keep=K:=by rw[hxx]
 simp only[Aj,Try.f62,aJ];refine TT.qQ hP hA (kx hx) 80 fun w₀ hF=>?_;repeat w_go eU
 u_defer eU hF
 repeat w_go eU
 refine stp rfl ?_;clear hF w₀;refine TT.load hP hA hx rfl rfl (by k_ne) rfl rfl (fun dV hr hi dX=>⟨(dX.box hK D.hn).1,TN (dX.box hK D.hn).2⟩) fun dY yh eN eo=>?_;refine TT.qQ hP eo (kx hx) 80 fun w₀ hF=>?_;walk_nrm;repeat w_go eU
 u_in eU hF
 refine oF rfl rfl (by k_ne) rfl Try.func41 ap4 rfl (by simp[aU];rfl) ⟨by u_nil,?_⟩;refine stp rfl ?_;clear hF w₀;refine TT.call hP sF kr eo hx eN jL ar1 (.tuple rfl fun j v v' h1 h2=>?_) (fun τ d=>(oh nv _).mono fun e w' h=>h.1) fun fx Fe fw eJ=>?_
 ·rw[h1]at h2;cases h2;match j,h1 with
  |0,h1=>simp at h1;subst h1;exact .int _ _
  |1,h1=>simp at h1;subst h1;exact .bool _
  |j+2,h1=>simp at h1
 rw[Frame.finish_at];refine TT.qQ hP eJ (kx hx) 80 fun w₀ hF=>?_;walk_nrm;repeat w_go eU
 refine stp rfl ?_;clear hF w₀ Fe yh eN eo;obtain⟨ch8,hz⟩:=D.hz;refine TT.load hP eJ hx rfl rfl (by k_ne) rfl rfl (fun dV hr hi dX=>⟨(dX.box hK hz).1,ar7 (dX.box hK hz).2⟩) fun fJ Uc fN eF=>?_;walk_nrm;refine TT.load hP eF hx rfl rfl (by k_ne) rfl rfl (fun dV hr hi dX=>⟨(dX.box hK D.hk).1,Mc (dX.box hK D.hk).2⟩) fun eT JJ gB fh=>?_;have hks:k<s.n:=by rw[<-D.ln];exact D.kl
 have k1:(0:Int)<=(k:Int):=by omega
 have k2:(k:Int)<(s.n:Int):=by omega
 refine TT.qQ hP fh (kx hx) 80 fun w₀ hF=>?_;walk_nrm;repeat w_go eU
 refine stp rfl ?_;clear hF w₀ Uc JJ fN eF;refine TT.SE hP fh hx hi (by rw[D.zv];simp) fun gN Ub gu eY ac5=>?_;obtain⟨⟨u,hu⟩,hf⟩:=ac5.zb.room hks;refine⟨_,by rw[D.zv];exact wA rfl rfl (by k_ne) rfl rfl rfl (aN1 hu hf) kr,rfl,fun gM iA lV _ _=>?_⟩;clear hu hf ac5 eY gu Ub;refine TT.qQ hP iA (kx hx) 80 fun w₀ hF=>?_;walk_nrm;repeat w_but "code.region" eU
 refine stp rfl ?_;clear hF w₀;obtain⟨y,hy⟩:∃y:Wk,y={x with zw:=true}:=⟨_,rfl⟩;have wL:y.keep=K:=by rw[hy];exact hK
 have lB:At s i y gM:=by rw[hy];exact iA
 have hy':y={mx:=.fresh,zw:=true,rw:=false,syn:=false,wg:=.work,df:=0,keep:=K}:=by rw[hy,hxx]
 have hxy:y.wg=.work:=by rw[hy']
 clear iA fh gB hA hI eJ fw hz;obtain⟨a89,hr⟩:=D.hr;refine TT.ask hP lB hxy fun dV dX eO=>⟨_,stepG_region_draw,rfl,fun dY eo eN hsh=>?_⟩;have aw8:Try.prog.follows .mixedOrders=true:=kr
 simp only[Region.schedule,aw8,Bool.true_or,if_true,Region.linearise];refine Dr (S:=jI q i s y) (md:=.any) (F:=fun l a=>l.getD 25 true=true/\a.defers=[dcall 63 #[.pointer (some ⟨s.Wg,0,none⟩)]]) ?_ ?_ _ _ _ _ dY ?_ ?_
 ·intro z8 a st' ⟨hl,hd⟩ hs;obtain⟨hI',x',hA',h1,h2,h3,h4,_,h6,h7⟩:=hs;obtain⟨tm,df⟩:=a;simp only at hd;subst hd;refine TT.qQ hP hA' (kx h2) 60 fun w₀ hF=>?_;repeat w_go eU
  u_in eU hF
  rw[stepG_unwind_enter rfl Try.func63 Xr rfl];simp only[goes_go];refine⟨by u_nil,?_⟩;walk_nrmf Try.f63
  refine stp rfl ?_;exact aB6 hP rfl (LJ rfl rfl Try.func62 rfl) h2 h3 h4 (h6 hl) h7 hA'
 ·intro j z8 a o rest st' ho hl hw hs h;refine Lt (s:=s) hP (fun l st hs=>?_) (fun st hs=>hs.set ?_) ho hw hs h
  ·have hs2:=hs;obtain⟨_,x',hA',_,h2,_⟩:=hs2;exact⟨⟨x',kx h2,hA'⟩,fun dV hr hi=>hs.stay hr hi⟩
  ·rintro rfl;simp at ho;subst ho;simp[bg]at hw
 ·by_cases hok:nv<1073741789
  ·obtain⟨aX6,OV⟩:=rR (D.el 0 D.c0);have hkey:0<=cs.getD 0 0/\cs.getD 0 0<18446744073709551616:=⟨by omega,by omega⟩;obtain⟨⟨i1,i2⟩,-⟩:=D.gd k D.kl;obtain⟨id,hid⟩:=Int.eq_ofNat_of_zero_le (show 0<=(l.getD k .zero).id by omega);have aY0:1<=id:=by omega
   obtain⟨cd,hcd⟩:∃cd,(l.getD k .zero).d=cd:=⟨_,rfl⟩;obtain⟨ce,hce⟩:∃ce,(l.getD k .zero).e=ce:=⟨_,rfl⟩;have RO:=BR id cd ce;have hfe:=Ka id cd ce;have aX9:id<=s.nn:=by omega
   have V7:=D.rv;unfold iE at V7;rw[hid,decide_eq_true hok,Bool.true_and]at V7;obtain⟨Z,hZ⟩:∃Z,Z=pw 4 nv.toNat 2147483579:=⟨_,rfl⟩;obtain⟨A,Hw⟩:∃A,A=mM l (cs.getD 0 0) msg k:=⟨_,rfl⟩;obtain⟨B,hBB⟩:∃B,B=EM cs id:=⟨_,rfl⟩;obtain⟨W,hW⟩:∃W,W=iz (kM l l.length) k:=⟨_,rfl⟩;obtain⟨X,hX⟩:∃X,X=smul cv W:=⟨_,rfl⟩;obtain⟨E,hE⟩:∃E,E=pw B X.toNat 2147483579:=⟨_,rfl⟩;obtain⟨M,hM⟩:∃M,M=mY A E:=⟨_,rfl⟩;rw[<-hZ,<-Hw,<-hBB,<-hW,<-hX,<-hE,<-hM]at V7;have hB:0<=B/\B<2147483579:=by rw[hBB];exact al2 _ _
   have hXb:0<=X/\X<1073741789:=by rw[hX];exact uX _ _
   have hPb:wJ (nu Pb s.Gb gc lb cs.length (3*l.length)) Pb=some Pb:=rf (n:=3) (by simp[nu]);have hB':s.vals id=B:=by rw[hBB];exact D.vs id aY0 aX9
   simp only[hok,decide_true];clear i1 i2 aX6 OV hsh eO dX;change Hq (cfg q) i Ch _ _ [] _ _ .any _ 26 #[false,false,false,false,false,false,false,false,false,false,false,false,false,false,false,false,false,false,false,false,false,false,false,false,false,false] _;refine eH (i':=0) (v:=.slice (some ⟨s.Rb,0,none⟩) s.n a89) rfl kr kr kr (.inl ⟨rfl,Does.box hP (jI.ground wL (by decide)) rfl (by decide) rfl rfl hr fun w hc=>Jv hc⟩) ?_;walk_nrm;refine eH (i':=1) (v:=.int .i64 k) rfl kr kr kr (.inl ⟨rfl,Does.box hP (jI.ground wL (by decide)) rfl (by decide) rfl rfl D.hk fun w hc=>ye hc⟩) ?_;walk_nrm;refine eH (i':=2) (v:=.bool true) rfl kr kr kr (.inl ⟨rfl,Does.calm hP (jI.ground wL (by decide)) rfl (by decide) (fun w=>by go_simp) (fun w=>by simp[go_sem,aU,Act.put, *])⟩) ?_;walk_nrm;refine eH (i':=3) (v:=.bool true) rfl kr kr kr (.inl ⟨rfl,Does.calm hP (jI.ground wL (by decide)) rfl (by decide) (fun w=>by go_simp) (fun w=>by simp[go_sem,aU,Act.put, *])⟩) ?_;walk_nrm;refine eH (i':=4) (v:=.int .u64 nv) rfl kr kr kr (.inl ⟨rfl,Does.calm hP (jI.ground wL (by decide)) rfl (by decide) (fun w=>by go_simp) (fun w=>by simp[go_sem,aU,Act.put, *])⟩) ?_;walk_nrm;refine eH (i':=5) (v:=.int .u64 Z) rfl kr kr kr (.inl ⟨rfl,Does.lone (args:=#[.int .u64 nv]) hP sF (jI.ground wL (by decide)) kr rfl (by decide) rfl Try.func42 Xx rfl (by first|(simp[aU];done)|(simp[aU];rfl)) (fun _ _ _ _ _=>jL) ar1 (.int _ _) (fun _ _ _ _ _ _ _=>(FC nv _ D.nb.1 D.nb.2).mono fun e w' h=>by rw[hZ];exact h.1)⟩) ?_;walk_nrm;refine eH (i':=6) (v:=.pointer (some ⟨Pb,0,none⟩)) rfl kr kr kr (.inl ⟨rfl,Does.box hP (jI.ground wL (by decide)) rfl (by decide) rfl rfl D.hp fun w hc=>Mb hc⟩) ?_;walk_nrm;refine eH (i':=7) (v:=.int .i64 k) rfl kr kr kr (.inl ⟨rfl,Does.box hP (jI.ground wL (by decide)) rfl (by decide) rfl rfl D.hk fun w hc=>ye hc⟩) ?_;walk_nrm;refine eH (i':=8) (v:=.int .u64 A) rfl kr kr kr (.inl ⟨rfl,Does.lone (args:=#[.pointer (some ⟨Pb,0,none⟩),.int .i64 k]) hP sF (jI.ground wL (by decide)) kr rfl (by decide) rfl Try.func64 ap5 rfl (by first|(simp[aU];done)|(simp[aU];rfl)) (fun x' st hA hk hI=>D.sees hA hk hI) (Vq hPb) (.int _ _) (fun x' st τ d hA hk hI=>by obtain⟨lv,hpk⟩:=D.pkw hA hk hI τ d;exact(aO3 hpk D.gd (by have:=D.n9;omega) D.l9 D.c0 hkey D.ms D.kl).mono fun e w' h=>by rw[Hw];exact h.1)⟩) ?_;walk_nrm;refine eH (i':=9) (v:=.pointer (some ⟨s.Gb,0,none⟩)) rfl kr kr kr (.inl ⟨rfl,Does.box hP (jI.ground wL (by decide)) rfl (by decide) rfl rfl D.hx fun w hc=>ar8 hc⟩) ?_;walk_nrm;refine eH (i':=10) (v:=.pointer (some ⟨Pb,0,none⟩)) rfl kr kr kr (.inl ⟨rfl,Does.box hP (jI.ground wL (by decide)) rfl (by decide) rfl rfl D.hp fun w hc=>Mb hc⟩) ?_;walk_nrm;refine eH (i':=11) (v:=.int .i64 k) rfl kr kr kr (.inl ⟨rfl,Does.box hP (jI.ground wL (by decide)) rfl (by decide) rfl rfl D.hk fun w hc=>ye hc⟩) ?_;walk_nrm;refine eH (i':=12) (v:=.agg #[.int .i64 id,.int .u64 cd,.int .u64 ce]) rfl kr kr kr (.inl ⟨rfl,Does.lone (args:=#[.pointer (some ⟨Pb,0,none⟩),.int .i64 k]) hP sF (jI.ground wL (by decide)) kr rfl (by decide) rfl Try.func67 aR8 rfl (by first|(simp[aU];done)|(simp[aU];rfl)) (fun x' st hA hk hI=>D.sees hA hk hI) (Vq hPb) aM5 (fun x' st τ d hA hk hI=>by obtain⟨lv,hpk⟩:=D.pkw hA hk hI τ d;exact(atW hpk D.kl).mono fun e w' h=>by rw[<-hid,<-hcd,<-hce];exact h.1)⟩) ?_;walk_nrm;refine eH (i':=13) (v:=.int .i64 id) rfl kr kr kr (.inl ⟨rfl,Does.calm hP (jI.ground wL (by decide)) rfl (by decide) (fun w=>by go_simp) (fun w=>by simp[go_sem,aU,Act.put, *])⟩) ?_;walk_nrm;refine eH (i':=14) (v:=.int .u64 B) rfl kr kr kr (.inl ⟨rfl,Does.call (s:=s) (args:=#[.pointer (some ⟨s.Gb,0,none⟩),.int .i64 id]) hP rfl (by decide) rfl Try.func66 Xu rfl (by first|(simp[aU];done)|(simp[aU];rfl)) (fun l st hs=>by have hs2:=hs;obtain⟨_,x',hA',_,h2,_⟩:=hs2;exact⟨⟨x',kx h2,hA'⟩,fun dV hr hi=>hs.stay hr hi⟩) (fun z8 a rest st hl hs fin=>PV hP D wL hy' aY0 aX9 hB' z8 a rest st hl hs fin rfl)⟩) ?_;walk_nrm;refine eH (i':=15) (v:=.int .u64 cv) rfl kr kr kr (.inl ⟨rfl,Does.box hP (jI.ground wL (by decide)) rfl (by decide) rfl rfl D.hc fun w hc=>aT0 hc⟩) ?_;walk_nrm;refine eH (i':=16) (v:=.pointer (some ⟨Pb,0,none⟩)) rfl kr kr kr (.inl ⟨rfl,Does.box hP (jI.ground wL (by decide)) rfl (by decide) rfl rfl D.hp fun w hc=>Mb hc⟩) ?_;walk_nrm;refine eH (i':=17) (v:=.int .i64 k) rfl kr kr kr (.inl ⟨rfl,Does.box hP (jI.ground wL (by decide)) rfl (by decide) rfl rfl D.hk fun w hc=>ye hc⟩) ?_;walk_nrm;refine eH (i':=18) (v:=.int .u64 W) rfl kr kr kr (.inl ⟨rfl,Does.lone (args:=#[.pointer (some ⟨Pb,0,none⟩),.int .i64 k]) hP sF (jI.ground wL (by decide)) kr rfl (by decide) rfl Try.func70 Tv rfl (by first|(simp[aU];done)|(simp[aU];rfl)) (fun x' st hA hk hI=>D.sees hA hk hI) (Vq hPb) (.int _ _) (fun x' st τ d hA hk hI=>by obtain⟨lv,hpk⟩:=D.pkw hA hk hI τ d;exact(LO hpk D.l9 D.kl).mono fun e w' h=>by rw[hW];exact h.1)⟩) ?_;walk_nrm;refine eH (i':=19) (v:=.int .u64 X) rfl kr kr kr (.inl ⟨rfl,Does.lone (args:=#[.int .u64 cv,.int .u64 W]) hP sF (jI.ground wL (by decide)) kr rfl (by decide) rfl Try.func69 I4 rfl (by first|(simp[aU];done)|(simp[aU];rfl)) (fun _ _ _ _ _=>jL) ar2 (.int _ _) (fun _ _ _ _ _ _ _=>(lM _ _ _).mono fun e w' h=>by rw[hX];exact h.1)⟩) ?_;walk_nrm;refine eH (i':=20) (v:=.int .u64 E) rfl kr kr kr (.inl ⟨rfl,Does.lone (args:=#[.int .u64 B,.int .u64 X]) hP sF (jI.ground wL (by decide)) kr rfl (by decide) rfl Try.func68 ZU rfl (by first|(simp[aU];done)|(simp[aU];rfl)) (fun _ _ _ _ _=>jL) ar2 (.int _ _) (fun _ _ _ _ _ _ _=>(yM B X _ hB.1 hB.2 hXb.1 (by omega)).mono fun e w' h=>by rw[hE];exact h.1)⟩) ?_;walk_nrm;refine eH (i':=21) (v:=.int .u64 M) rfl kr kr kr (.inl ⟨rfl,Does.lone (args:=#[.int .u64 A,.int .u64 E]) hP sF (jI.ground wL (by decide)) kr rfl (by decide) rfl Try.func65 I5 rfl (by first|(simp[aU];done)|(simp[aU];rfl)) (fun _ _ _ _ _=>jL) ar2 (.int _ _) (fun _ _ _ _ _ _ _=>(qJ _ _ _).mono fun e w' h=>by rw[hM];exact h.1)⟩) ?_;walk_nrm;refine eH (i':=22) (v:=.bool (Z==M)) rfl kr kr kr (.inl ⟨rfl,Does.calm hP (jI.ground wL (by decide)) rfl (by decide) (fun w=>by go_simp) (fun w=>by simp[go_sem,aU,Act.put, *])⟩) ?_;walk_nrm;refine eH (i':=23) (v:=.bool (Z==M)) rfl kr kr kr (.inl ⟨rfl,Does.calm hP (jI.ground wL (by decide)) rfl (by decide) (fun w=>by go_simp) (fun w=>by simp[go_sem,aU,Act.put, *])⟩) ?_;walk_nrm;refine eH (i':=24) (v:=.pointer (some ⟨s.Rb,k,none⟩)) rfl kr kr kr (.inl ⟨rfl,Does.calm hP (jI.ground wL (by decide)) rfl (by decide) (fun w=>by go_simp) (fun w=>by simp[go_sem,aU,Act.put, *])⟩) ?_;walk_nrm;replace V7:s.rv k=.bool (Z==M):=V7;refine eH (i':=25) (v:=av) rfl kr kr kr (.inl ⟨rfl,?_⟩) ⟨kr,kr,rfl⟩;intro z8 a rest st hl hs he hw hn;obtain⟨hi',x',hA',h1,h2,h3,h4,h5,h6,h7⟩:=hs;refine TT.Nz hP hA' h2 hi (by rw[V7];simp) fun dV aV7 eO dX ek=>?_;obtain⟨⟨u,hu⟩,hf⟩:=ek.rb.room hks;refine⟨_,?_,rfl,fun dY eo eN _ _=>hn dY ?_⟩
   ·rw[V7];refine zC rfl hw (by decide) he ?_ ?_ kr
    ·unfold ax;simp[aU,Act.put,(uW hu hf).1]
    ·unfold ax;simp[aU,Act.put,(uW hu hf).1,(uW hu hf).2]
   ·refine⟨eN,_,eo,h1,h2,h3,h4,fun h=>?_,fun _=>rfl,h7⟩;rw[getD_set_ne true (by decide:(25:Nat)≠14)]at h;have e:=h5 h;rw[e]
  ·have aW5:decide (nv<1073741789)=false:=decide_eq_false hok;rw[aW5];clear hsh eO dX;change Hq (cfg q) i Ch _ _ [] _ _ .any _ 26 #[false,false,false,false,false,false,false,false,false,false,false,false,false,false,false,false,false,false,false,false,false,false,false,false,false,false] _;refine eH (i':=0) (v:=.slice (some ⟨s.Rb,0,none⟩) s.n a89) rfl kr kr kr (.inl ⟨rfl,Does.box hP (jI.ground wL (by decide)) rfl (by decide) rfl rfl hr fun w hc=>Jv hc⟩) ?_;walk_nrm;refine eH (i':=1) (v:=.int .i64 k) rfl kr kr kr (.inl ⟨rfl,Does.box hP (jI.ground wL (by decide)) rfl (by decide) rfl rfl D.hk fun w hc=>ye hc⟩) ?_;walk_nrm;refine eH (i':=2) (v:=.bool false) rfl kr kr kr (.inl ⟨rfl,Does.calm hP (jI.ground wL (by decide)) rfl (by decide) (fun w=>by go_simp) (fun w=>by simp[go_sem,aU,Act.put, *])⟩) ?_;walk_nrm;refine eH (i':=3) (v:=.bool false) rfl kr kr kr (.inl ⟨rfl,Does.calm hP (jI.ground wL (by decide)) rfl (by decide) (fun w=>by go_simp) (fun w=>by simp[go_sem,aU,Act.put, *])⟩) ?_;walk_nrm;refine eH (i':=4) (v:=av) rfl kr kr kr (.inr ⟨rfl,rfl⟩) ?_;walk_nrm;refine eH (i':=5) (v:=av) rfl kr kr kr (.inr ⟨rfl,rfl⟩) ?_;walk_nrm;refine eH (i':=6) (v:=av) rfl kr kr kr (.inr ⟨rfl,rfl⟩) ?_;walk_nrm;refine eH (i':=7) (v:=av) rfl kr kr kr (.inr ⟨rfl,rfl⟩) ?_;walk_nrm;refine eH (i':=8) (v:=av) rfl kr kr kr (.inr ⟨rfl,rfl⟩) ?_;walk_nrm;refine eH (i':=9) (v:=av) rfl kr kr kr (.inr ⟨rfl,rfl⟩) ?_;walk_nrm;refine eH (i':=10) (v:=av) rfl kr kr kr (.inr ⟨rfl,rfl⟩) ?_;walk_nrm;refine eH (i':=11) (v:=av) rfl kr kr kr (.inr ⟨rfl,rfl⟩) ?_;walk_nrm;refine eH (i':=12) (v:=av) rfl kr kr kr (.inr ⟨rfl,rfl⟩) ?_;walk_nrm;refine eH (i':=13) (v:=av) rfl kr kr kr (.inr ⟨rfl,rfl⟩) ?_;walk_nrm;refine eH (i':=14) (v:=av) rfl kr kr kr (.inr ⟨rfl,rfl⟩) ?_;walk_nrm;refine eH (i':=15) (v:=av) rfl kr kr kr (.inr ⟨rfl,rfl⟩) ?_;walk_nrm;refine eH (i':=16) (v:=av) rfl kr kr kr (.inr ⟨rfl,rfl⟩) ?_;walk_nrm;refine eH (i':=17) (v:=av) rfl kr kr kr (.inr ⟨rfl,rfl⟩) ?_;walk_nrm;refine eH (i':=18) (v:=av) rfl kr kr kr (.inr ⟨rfl,rfl⟩) ?_;walk_nrm;refine eH (i':=19) (v:=av) rfl kr kr kr (.inr ⟨rfl,rfl⟩) ?_;walk_nrm;refine eH (i':=20) (v:=av) rfl kr kr kr (.inr ⟨rfl,rfl⟩) ?_;walk_nrm;refine eH (i':=21) (v:=av) rfl kr kr kr (.inr ⟨rfl,rfl⟩) ?_;walk_nrm;refine eH (i':=22) (v:=av) rfl kr kr kr (.inr ⟨rfl,rfl⟩) ?_;walk_nrm;refine eH (i':=23) (v:=.bool false) rfl kr kr kr (.inl ⟨rfl,Does.calm hP (jI.ground wL (by decide)) rfl (by decide) (fun w=>by go_simp) (fun w=>by simp[go_sem,aU,Act.put, *])⟩) ?_;walk_nrm;refine eH (i':=24) (v:=.pointer (some ⟨s.Rb,k,none⟩)) rfl kr kr kr (.inl ⟨rfl,Does.calm hP (jI.ground wL (by decide)) rfl (by decide) (fun w=>by go_simp) (fun w=>by simp[go_sem,aU,Act.put, *])⟩) ?_;walk_nrm;have V7:s.rv k=.bool false:=by rw[D.rv];unfold iE;rw[aW5,Bool.false_and]
   refine eH (i':=25) (v:=av) rfl kr kr kr (.inl ⟨rfl,?_⟩) ⟨kr,kr,rfl⟩;intro z8 a rest st hl hs he hw hn;obtain⟨hi',x',hA',h1,h2,h3,h4,h5,h6,h7⟩:=hs;refine TT.Nz hP hA' h2 hi (by rw[V7];simp) fun dV aV7 eO dX ek=>?_;obtain⟨⟨u,hu⟩,hf⟩:=ek.rb.room hks;refine⟨_,?_,rfl,fun dY eo eN _ _=>hn dY ?_⟩
   ·rw[V7];refine zC rfl hw (by decide) he ?_ ?_ kr
    ·unfold ax;simp[aU,Act.put,(uW hu hf).1]
    ·unfold ax;simp[aU,Act.put,(uW hu hf).1,(uW hu hf).2]
   ·refine⟨eN,_,eo,h1,h2,h3,h4,fun h=>?_,fun _=>rfl,h7⟩;rw[getD_set_ne true (by decide:(25:Nat)≠14)]at h;have e:=h5 h;rw[e]
 ·exact⟨eN,y,eo,rfl,hxy,by rw[hy'],by rw[hy'],fun _=>rfl,fun h=>by simp at h,by rw[hy'];exact .inl rfl⟩
end
end
section
open Pl mJ nG mI Mem ng Ew
open uU hiding base
def agT(y:Nat->af)(bx bp bc br bz Wg bS oS cap n:Nat)(k:Int)(pz pq vq vp vo vk vh ve vd:af):Array af:=#[y 0,y 1,y 2,y 3,y 4,y 5,y 6,y 7,y 8,y 9,y 10,.pointer (some ⟨bx,0,none⟩),y 12,.pointer (some ⟨bp,0,none⟩),y 14,.pointer (some ⟨bc,0,none⟩),.pointer (some ⟨br,0,none⟩),.pointer (some ⟨bz,0,none⟩),.pointer (some ⟨Wg,0,none⟩),pz,pq,y 21,y 22,y 23,y 24,y 25,y 26,y 27,y 28,y 29,y 30,y 31,y 32,y 33,y 34,y 35,y 36,y 37,y 38,y 39,y 40,y 41,y 42,y 43,y 44,y 45,y 46,y 47,y 48,y 49,y 50,y 51,y 52,y 53,y 54,y 55,y 56,y 57,y 58,y 59,y 60,y 61,y 62,y 63,y 64,y 65,y 66,y 67,y 68,y 69,.slice (some ⟨bS,oS,none⟩) n cap,.int .i64 n,.int .i64 k,vq,vp,vo,vk,vh,ve,vd,y 80,y 81,y 82,y 83,y 84,y 85,y 86,y 87,y 88,y 89,y 90,y 91,y 92,y 93,y 94,y 95,y 96,y 97,y 98,y 99,y 100,y 101,y 102,y 103,y 104,y 105,y 106]
structure AgD(q:iK)(s:eI)(K kp:List (Nat×Obj))(nv:Nat->Int)(cv:Int)(Pb gc lb:Nat)(cs:List Int)(l:List Cm)(msg:ByteArray)(bz bp bx bc br bS oS:Nat):Prop where
 sub:∀b o,(b,o)∈kp->(b,o)∈K
 sh:∃ob,(bS,ob)∈K/\∀(w:ae) (k:Nat),w.heap[bS]?=some ob->k<s.n->w.cell? ⟨bS,oS+k,none⟩=some (.int .u64 (nv k))
 hz:∃cap,Hn kp bz (.slice (some ⟨s.Zb,0,none⟩) s.n cap)
 hp:Hn kp bp (.pointer (some ⟨Pb,0,none⟩))
 hx:Hn kp bx (.pointer (some ⟨s.Gb,0,none⟩))
 hc:Hn kp bc (.int .u64 cv)
 hr:∃cap,Hn kp br (.slice (some ⟨s.Rb,0,none⟩) s.n cap)
 pk:∃C e fz cap,(Pb,az C e fz)∈kp/\C.size=3/\C[0]?=some (.pointer (some ⟨s.Gb,0,none⟩))/\C[1]?=some (.slice (some ⟨lb,0,none⟩) l.length cap)/\C[2]?=some (.string msg)/\l.length<=cap
 gcB:∃C e fz,(gc,az C e fz)∈kp/\cs.length<=C.size/\∀j,j<cs.length->C[j]?=some (.int .u64 (cs.getD j 0))
 lbB:∃C e fz,(lb,az C e fz)∈kp/\3*l.length<=C.size/\∀j u,j<3*l.length->(eX l)[j]?=some u->C[j]?=some u
 gp:gc≠Pb
 lp:lb≠Pb
 lg:lb≠gc
 low:q.P.globals.size<=Pb/\q.P.globals.size<=gc/\q.P.globals.size<=lb/\q.P.globals.size<=s.Gb
 g0:∃t,s.g0=.int .i64 t
 g1:s.g1=.int .i64 s.nn
 g2:∃cap,s.g2=.slice (some ⟨gc,0,none⟩) cs.length cap
 n9:s.nn<=9
 c9:cs.length<=9
 c0:0<cs.length
 el:∀j,j<cs.length->jO (cs.getD j 0)=true
 vs:∀id:Nat,1<=id->id<=s.nn->s.vals id=EM cs id
 gd:mI.Good s.nn l
 l9:l.length<=9
 ln:l.length=s.n
 ms:msg.size<=1000000
 nb:∀k,k<s.n->0<=nv k/\nv k<18446744073709551616
 cb:0<=cv/\cv<18446744073709551616
 zv:∀k,k<s.n->s.zv k=.int .u64 (nv k)
 rv:∀k,k<s.n->s.rv k=.bool (iE (nv k) cv cs l msg k)
section
variable{q:iK}{s:eI}{K kp:List (Nat×Obj)}{nv:Nat->Int}{cv:Int}{Pb gc lb:Nat}{cs:List Int}{l:List Cm}{msg:ByteArray}{bz bp bx bc br bS oS:Nat}
theorem Hn.mono{kp kp':List (Nat×Obj)}{b:Nat}{v:af}(h:Hn kp b v)(hs:∀b o,(b,o)∈kp->(b,o)∈kp'):Hn kp' b v:=by
 obtain⟨C,e,fz,h1,h2⟩:=h;exact⟨C,e,fz,hs _ _ h1,h2⟩
theorem AgD.wrk(D:AgD q s K kp nv cv Pb gc lb cs l msg bz bp bx bc br bS oS){k bn bk:Nat}(hk:k<s.n){kq:List (Nat×Obj)}(hs:∀b o,(b,o)∈kp->(b,o)∈kq)(hn:Hn kq bn (.int .u64 (nv k)))(hkb:Hn kq bk (.int .i64 k)):
  He q s kq k (nv k) cv Pb gc lb cs l msg bn bz bk bp bx bc br where
 hn:=hn
 hz:=let⟨c,h⟩:=D.hz;⟨c,h.mono hs⟩
 hk:=hkb
 hp:=D.hp.mono hs
 hx:=D.hx.mono hs
 hc:=D.hc.mono hs
 hr:=let⟨c,h⟩:=D.hr;⟨c,h.mono hs⟩
 pk:=let⟨C,e,fz,cap,h1,h2⟩:=D.pk;⟨C,e,fz,cap,hs _ _ h1,h2⟩
 gcB:=let⟨C,e,fz,h1,h2⟩:=D.gcB;⟨C,e,fz,hs _ _ h1,h2⟩
 lbB:=let⟨C,e,fz,h1,h2⟩:=D.lbB;⟨C,e,fz,hs _ _ h1,h2⟩
 gp:=D.gp
 lp:=D.lp
 lg:=D.lg
 low:=D.low
 g0:=D.g0
 g1:=D.g1
 g2:=D.g2
 n9:=D.n9
 c9:=D.c9
 c0:=D.c0
 el:=D.el
 vs:=D.vs
 gd:=D.gd
 l9:=D.l9
 kl:=by rw[D.ln];exact hk
 ln:=D.ln
 ms:=D.ms
 nb:=D.nb k hk
 cb:=D.cb
 zv:=D.zv k hk
 rv:=D.rv k hk
theorem ni.sub{mw:MW}{dm num:Nat}{K K':List (Nat×Obj)}{st:St eD}(h:ni s mw dm num K st)(hs:∀b o,(b,o)∈K'->(b,o)∈K):ni s mw dm num K' st:=⟨h.sc,h.mw,h.dm,h.num,fun b o hb=>h.fz b o (hs b o hb),fun b o hb=>h.nd b o (hs b o hb)⟩
theorem aD1(w:ae):(dw 3 true (.tuple #[])).run dS w=.ok (.pointer (some ⟨w.heap.size,0,none⟩)) (w.alloc (.cells #[.int .i64 0] 3))/\(dw 3 true (.tuple #[])).events dS w #[]=#[]:=by
 constructor<;>simp[go_sem]
theorem aD0(w:ae):(dw 40 true (.tuple #[])).run dS w=.ok (.pointer (some ⟨w.heap.size,0,none⟩)) (w.alloc (.cells #[.int .u64 0] 40))/\(dw 40 true (.tuple #[])).events dS w #[]=#[]:=by
 constructor<;>simp[go_sem]
theorem aj2{w:ae}{ad:Addr}{u:af}{v:Int}(hc:w.cell? ad=some u)(hz:w.frozen? ad=false):(bI 3 (.pointer (some ad)) (.int .i64 v)).run dS w=.ok () (w.setCell ad (.int .i64 v))/\(bI 3 (.pointer (some ad)) (.int .i64 v)).events dS w #[]=#[⟨.cell ad,true,false⟩]:=by
 constructor<;>simp[go_sem,hc,hz]
theorem aj1{w:ae}{ad:Addr}{u:af}{v:Int}(hc:w.cell? ad=some u)(hz:w.frozen? ad=false):(bI 40 (.pointer (some ad)) (.int .u64 v)).run dS w=.ok () (w.setCell ad (.int .u64 v))/\(bI 40 (.pointer (some ad)) (.int .u64 v)).events dS w #[]=#[⟨.cell ad,true,false⟩]:=by
 constructor<;>simp[go_sem,hc,hz]
theorem Xq:(Try.f61.name== "runtime.NumGoroutine")=false:=kr
def xt(Wg bn bz bk bp bx bc br:Nat):Deferred:={target:=.fn (.func 62) #[.pointer (some ⟨Wg,0,none⟩),.pointer (some ⟨bn,0,none⟩),.pointer (some ⟨bz,0,none⟩),.pointer (some ⟨bk,0,none⟩),.pointer (some ⟨bp,0,none⟩),.pointer (some ⟨bx,0,none⟩),.pointer (some ⟨bc,0,none⟩),.pointer (some ⟨br,0,none⟩)],args:=#[]}
theorem Lr{P:au}{main:Bool}{b:ai}{a:Act}{kk:List Item}{cs:List ai}{w:ae}{ops:Array Oper}{i:Nat}{rest:List Nat}{o:Oper}{d:Deferred}{f:Fn}{c:Array af}(ho:ops[i]?=some o)(hw:bg o (yielded ops a.tmps)=true)
  (hk:b.kind≠ .early)(hr:(ax a.eval o).run P w=.ok (.spawn d) w)(hd:d.target=.fn f c)(he:(ax a.eval o).events P w #[]=#[]):
  stepG P main (G (b.at a (.inRegion ops (i::rest)::kk)) cs) w=.spawn (G (b.at (a.put o.dst av) (.inRegion ops rest::kk)) cs) (born P d) w #[]:=by
 rw[stepG_spawn ho hw hk hr hd];unfold listed;rw[he,seen_none]
theorem Vk(Wg bn bz bk bp bx bc br:Nat)(w:ae):stepG dS false (born dS (xt Wg bn bz bk bp bx bc br)) w=
  .go (G ((baseD 62).at ⟨#[.pointer (some ⟨Wg,0,none⟩),.pointer (some ⟨bn,0,none⟩),.pointer (some ⟨bz,0,none⟩),.pointer (some ⟨bk,0,none⟩),.pointer (some ⟨bp,0,none⟩),.pointer (some ⟨bx,0,none⟩),.pointer (some ⟨bc,0,none⟩),.pointer (some ⟨br,0,none⟩),av,av,av,av,av,av,av,av,av,av,av,av,av,av,av,av,av,av,av,av,av,av,av,av,av,av,av,av,av,av,av,av,av,av,av,av],[]⟩ [.code Aj]) [bot dS]) w #[]:=by
 simp[born,xt,stepG,unwind,callDeferred,invoke,callFunc,Try.func62,Try.f62,seen,GStep.after,G,Frame.enter,Frame.at,baseD,bot,Aj]
variable(hP:q.P=dS){bs:List ai}{y:Nat->af}{cap:Nat}
include hP
theorem KH(D:AgD q s K kp nv cv Pb gc lb cs l msg bz bp bx bc br bS oS)(hcap:s.n<=cap)
  (hT:∀(st':St eD) (pz pq vq vp vo vk vh ve vd:af),ni s .sp 0 (s.n0+s.n) K st'->Inv q st'->TT (cfg q) 0 (TW (cfg q)) (G ((base 27).at ⟨agT y bx bp bc br bz s.Wg bS oS cap s.n (s.n:Int) pz pq vq vp vo vk vh ve vd,[]⟩ [.code rZ]) bs) st'):
  ∀(m k:Nat) (st:St eD) (pz pq vq vp vo vk vh ve vd:af),m+k=s.n->ni s .sp 0 (s.n0+k) K st->Inv q st->TT (cfg q) 0 (TW (cfg q)) (G ((base 27).at ⟨agT y bx bp bc br bz s.Wg bS oS cap s.n (k:Int) pz pq vq vp vo vk vh ve vd,[]⟩ [.code KD,.inLoop KD,.inBlock 0,.code rZ]) bs) st
 |0,k,st,pz,pq,vq,vp,vo,vk,vh,ve,vd,hm,hA,hI=>by
  obtain rfl:k=s.n:=by omega
  simp only[KD,Py,vI,iY,eK,Try.f27,aJ,agT];have k0:¬((s.n:Int)<(s.n:Int)):=by omega
  have k1:decide ((s.n:Int)<(s.n:Int))=false:=by simp
  refine TT.jQ hP hA 80 fun w₀ hF=>?_;repeat w_go ez
  refine stp rfl ?_;exact hT st _ _ _ _ _ _ _ _ _ hA hI
 |m+1,k,st,pz,pq,vq,vp,vo,vk,vh,ve,vd,hm,hA,hI=>by
  have hk:k<s.n:=by omega
  have k0:(k:Int)<(s.n:Int):=by omega
  have k1:decide ((k:Int)<(s.n:Int))=true:=by simpa using k0
  have k2:(0:Int)<=(k:Int):=by omega
  obtain⟨obS,VT,sh2⟩:=D.sh;have ih:=KH D hcap hT m (k+1);simp only[KD,Py,vI,iY,eK,Try.f27,aJ,agT]at ih ⊢;refine TT.jQ hP hA 80 fun w₀ hF=>?_;repeat w_go ez
  refine stp rfl ?_;clear hF w₀;refine TT.aS2 hP hA (bl:=bS) (off:=oS+k) (v:=.int .u64 (nv k)) (ob:=obS) rfl rfl (by k_ne) rfl (by simp[aU]) VT (fun w hw=>TN (sh2 w k hw hk)) fun dY eo eN aU3=>?_;walk_nrm;refine TT.TL hP eo rfl rfl (by k_ne) rfl (fun w=>aD1 w) fun fx bk eJ fw aU2 Ul aw6 _=>?_;walk_nrm;refine TT.TL hP eJ rfl rfl (by k_ne) rfl (fun w=>aD0 w) fun fJ bn eF fN OQ CS CK bt3=>?_;walk_nrm;have a01:bk≠bn:=CK bk (.cells #[.int .i64 0] 3 (0,0)) (by simp);refine TT.TJ hP eF (K':=(bn,.cells #[.int .u64 0] 40 (0,0))::(bk,.cells #[.int .i64 k] 3 (0,0))::K) (bl:=bk) (off:=0) (v:=.int .i64 k) (C:=#[.int .i64 0]) (e:=3) rfl rfl (by k_ne) rfl (by simp[aU]) (by simp[aU]) (by simp) (by simp) (fun off=>OQ _ (Ul off)) (fun b o hb=>?_) kr (fun w u hc hz=>aj2 hc hz) fun eT fh gB aa2=>?_
  ·rcases List.mem_cons.1 hb with e|hb
   ·cases e;exact .inr ⟨a01.symm,by simp⟩
   ·rcases List.mem_cons.1 hb with e|hb
    ·cases e;exact .inl ⟨rfl,rfl⟩
    ·exact .inr ⟨aw6 b o hb,by simp[hb]⟩
  walk_nrm;refine TT.TJ hP fh (K':=(bn,.cells #[.int .u64 (nv k)] 40 (0,0))::(bk,.cells #[.int .i64 k] 3 (0,0))::K) (bl:=bn) (off:=0) (v:=.int .u64 (nv k)) (C:=#[.int .u64 0]) (e:=40) rfl rfl (by k_ne) rfl (by simp[aU]) (by simp[aU]) (by simp) (by simp) (fun off=>aa2 _ (CS off)) (fun b o hb=>?_) kr (fun w u hc hz=>aj1 hc hz) fun gN eY gu _=>?_
  ·rcases List.mem_cons.1 hb with e|hb
   ·cases e;exact .inl ⟨rfl,rfl⟩
   ·rcases List.mem_cons.1 hb with e|hb
    ·cases e;exact .inr ⟨a01,by simp⟩
    ·exact .inr ⟨CK b o (by simp[hb]),by simp[hb]⟩
  clear fh gB aa2 eF fN OQ CS eJ fw aU2 Ul eo eN aU3 hA hI;walk_nrm;refine TT.jQ hP eY 80 fun w₀ hF=>?_;repeat w_go ez
  u_call Try.func61 Xq Try.f61 ez hF
  refine stp rfl ?_;clear hF w₀;refine aq2 hP (fun gM iA lV=>?_) eY;clear eY gu;walk_nrm;refine TT.jQ hP iA 40 fun w₀ hF=>?_;repeat w_go ez
  refine stp rfl ?_;clear hF w₀;have w1:IntKind.i64.wrap ((k:Int)+1)=((k+1:Nat):Int):=by
   have:=D.l9
   have:=D.ln
   rw[IntKind.wrap_i64];omega
  refine TT.fork hP iA (k:=k) rfl hk fun dV dX eO ek=>⟨_,_,Lr (d:=xt s.Wg bn bz bk bp bx bc br) (f:=.func 62) (c:=#[.pointer (some ⟨s.Wg,0,none⟩),.pointer (some ⟨bn,0,none⟩),.pointer (some ⟨bz,0,none⟩),.pointer (some ⟨bk,0,none⟩),.pointer (some ⟨bp,0,none⟩),.pointer (some ⟨bx,0,none⟩),.pointer (some ⟨bc,0,none⟩),.pointer (some ⟨br,0,none⟩)]) rfl rfl (by k_ne) (by simp[go_sem,xt,Deferred.ofValue]) rfl (by simp[go_sem,Deferred.ofValue]),rfl,rfl,(bn,.cells #[.int .u64 (nv k)] 40 (0,0))::(bk,.cells #[.int .i64 k] 3 (0,0))::kp,(fun b=>(∃o,(b,o)∈(bn,az #[.int .u64 (nv k)] 40 (0,0))::(bk,az #[.int .i64 k] 3 (0,0))::kp)/\∀off,dV.γ.ex 0 (ca b off)),(fun b=>∀off,dV.γ.rd 0 (ca b off)),fun b hb=>hb.2,fun b hb=>hb,fun b o hb=>?_,fun dY eo eN=>?_,fun dY eo eN=>?_⟩
  ·have hin:(b,o)∈(bn,az #[.int .u64 (nv k)] 40 (0,0))::(bk,az #[.int .i64 k] 3 (0,0))::K:=by
    rcases List.mem_cons.1 hb with e|hb
    ·rw[e];simp
    ·rcases List.mem_cons.1 hb with e|hb
     ·rw[e];simp
     ·exact aR _ (aR _ (D.sub b o hb))
   obtain⟨f1,f2⟩:=dX.fz b o hin;exact⟨f2.imp (fun f=>⟨⟨o,hb⟩,f⟩) id,f1⟩
  ·have hne:(s.n0+k==0)=false:=by
    have:=ek.n0.1
    simp<;>omega
   refine TT.qQ hP eo (kx rfl) 4 fun w₀ hF=>Goes.step rfl fun w₁ hw=>?_;show(stepG dS (s.n0+k==0) (born dS (xt s.Wg bn bz bk bp bx bc br)) w₁).goes _;rw[hne,Vk];refine⟨by u_nil,Goes.stop fun w₂ _=>⟨rfl,?_⟩⟩;exact aL6 hP (D.wrk hk (fun b o hb=>by simp[hb]) ⟨_,_,_,dh ..,rfl⟩ ⟨_,_,_,aR _ (dh ..),rfl⟩) rfl rfl eo eN
  ·clear dX eO ek iA lV;walk_nrm;refine TT.jQ hP eo 60 fun w₀ hF=>?_;repeat w_nl ez
   u_c stepG_inLoop ez hF
   refine stp rfl ?_;exact ih dY _ _ _ _ _ _ _ _ _ (by omega) (eo.sub fun b o hb=>by simp[hb]) eN
end
end
end Cc
namespace Hr
open Go.RowKit Go.Conc Cc Pl mJ nG mI Mem ng Ew KM RB Lc
open uU hiding base
def ja(t n:Int)(cs:List Int)(l:List Cm)(msg:ByteArray)(ns:Nat):Int:=
 if gD t n cs=false then 4 else if rD t n l≠0 then rD t n l else if ns≠l.length then 12 else if iT l (cs.getD 0 0) msg=1 then 11 else 0
def ru(x:Int):af:=.tuple #[.agg #[.int .u64 0,.int .u64 0],.slice none 0 0,.int .i64 x]
def gH(B:Nat)(w w':ae):Prop:=B<=w'.heap.size/\(∀b,b<B->w'.heap[b]?=w.heap[b]?)/\w'.os=w.os/\w'.output=w.output
theorem gH.below{B B':Nat}{w w1 w2:ae}(h:gH B w w1)(k:Below B' w1 w2)(hB:B<=B'):gH B w w2:=⟨aY h.1 k.size,fun b hb=>(k.block b (by omega)).trans (h.2.1 b hb),k.os.trans h.2.2.1,k.output.trans h.2.2.2⟩
theorem gH.iM{B:Nat}{w w1:ae}(h:gH B w w1){b:Nat}(hb:B<=b)(i:Nat)(v:af):gH B w (w1.setCell ⟨b,i,none⟩ v):=
 ⟨by simpa [World.setCell]using h.1,fun c hc=>(Below.heap_setCell w1 ⟨b,i,none⟩ v c (by show c≠b;omega)).trans (h.2.1 c hc),h.2.2.1,h.2.2.2⟩
def Rt(t n:Int)(cs:List Int)(l:List Cm)(msg:ByteArray)(ns:Nat)(w:ae)(a:Act)(w':ae):Prop:=
 ja t n cs l msg ns≠0/\(Go.results Try.f27 a.tmps).run dS w'=.ok (ru (ja t n cs l msg ns)) w'/\gH w.heap.size w w'
def M9(t n:Int)(cs:List Int)(l:List Cm)(msg:ByteArray)(sA:Option Addr)(ns cap:Nat)(w:ae)(a:Act)(w':ae):Prop:=
 ja t n cs l msg ns=0/\gH w.heap.size w w'/\a.tmps.size=107/\∃b8 j0 fR kJ b16 fX Gb Pb gc lb Rb Zb Wg iX:Nat,
  (a.tmps[3]?=some (.slice sA ns cap)/\a.tmps[8]?=some (.pointer (some ⟨b8,0,none⟩))/\a.tmps[9]?=some (.slice none 0 0)/\a.tmps[10]?=some (.int .i64 0)/\a.tmps[11]?=some (.pointer (some ⟨j0,0,none⟩))/\a.tmps[13]?=some (.pointer (some ⟨fR,0,none⟩))/\
   a.tmps[14]?=some (.int .u64 (iT l (cs.getD 0 0) msg))/\a.tmps[15]?=some (.pointer (some ⟨kJ,0,none⟩))/\a.tmps[16]?=some (.pointer (some ⟨b16,0,none⟩))/\a.tmps[17]?=some (.pointer (some ⟨fX,0,none⟩))/\a.tmps[18]?=some (.pointer (some ⟨Wg,0,none⟩))/\
   ∀i,(19<=i/\i<24)\/(70<=i/\i<107)->a.tmps[i]?=some av)/\
  (∀b∈[b8,j0,fR,kJ,b16,fX,Gb,Pb,gc,lb,Rb,Zb,Wg],w.heap.size<=b)/\
  ft w' b8 47 #[.int .u64 0,.int .u64 0]/\ft w' j0 97 #[.pointer (some ⟨Gb,0,none⟩)]/\ft w' fR 100 #[.pointer (some ⟨Pb,0,none⟩)]/\
  ft w' kJ 76 #[.int .u64 (l5 (iT l (cs.getD 0 0) msg) (cs.getD 0 0) msg)]/\ft w' b16 107 #[.slice (some ⟨Rb,0,none⟩) ns ns]/\ft w' fX 75 #[.slice (some ⟨Zb,0,none⟩) ns ns]/\
  ft w' Gb 137 (gI t n (.slice (some ⟨gc,0,none⟩) cs.length iX))/\ml w' w.heap.size (.slice (some ⟨gc,0,none⟩) cs.length iX) cs/\
  ft w' Pb 164 #[.pointer (some ⟨Gb,0,none⟩),.slice (some ⟨lb,0,none⟩) l.length l.length,.string msg]/\lI w' w'.heap.size (.slice (some ⟨lb,0,none⟩) l.length l.length) l/\
  ft w' Rb 4 (madeCells #[.bool false] ns)/\ft w' Zb 76 (madeCells #[.int .u64 0] ns)/\ft w' Wg 116 #[.int .u64 0,.int .u32 0]
theorem iU{N R:Act->ae->Prop}{c:Code}{cs:List Code}{a:Act}{W:ae}(F:ae->Prop)(hF:∀W τ d,F W->F (World.on W τ d))(h:F W)
  (k:∀W',F W'->c.wp dS (fun e a w=>(e=.normal/\a.defers=[]/\wpT dS N R cs a w)\/(e=.ret/\a.defers=[]/\R a w)) a W'):wpT dS N R (c::cs) a W:=fun τ d=>k _ (hF W τ d h)
theorem Bp{wq:ae}{b8:Nat}{T:Array af}{x:Int}(h8:ft wq b8 47 #[.int .u64 0,.int .u64 0])(t8:T[8]?=some (.pointer (some ⟨b8,0,none⟩)):=by rfl)(t9:T[9]?=some (.slice none 0 0):=by rfl)(t10:T[10]?=some (.int .i64 x):=by rfl):
  (Go.results Try.f27 T).run dS ((wq.setCell ⟨b8,0,none⟩ (.int .u64 0)).setCell ⟨b8,1,none⟩ (.int .u64 0))=.ok (ru x) ((wq.setCell ⟨b8,0,none⟩ (.int .u64 0)).setCell ⟨b8,1,none⟩ (.int .u64 0)):=by
 have B:=((h8.iM 0 (.int .u64 0)).iM 1 (.int .u64 0));have c0:=B.cell 0;have c1:=B.cell 1;unfold ru;simp[Go.results,Try.results27,t8,t9,t10,go_sem,c0,c1]
theorem ai0(T:Array af)(h1:(T.toList.drop 19).take 5=List.replicate 5 av)(h2:(T.toList.drop 70).take 37=List.replicate 37 av)(i:Nat)(hi:(19<=i/\i<24)\/(70<=i/\i<107)):T[i]?=some av:=by
 have go:∀n m,(T.toList.drop n).take m=List.replicate m av->n<=i->i<n+m->T[i]?=some av:=fun n m h a b=>by
  have e:((T.toList.drop n).take m)[i-n]?=some av:=by rw[h,List.getElem?_replicate,if_pos (by omega)]
  rw[List.getElem?_take,if_pos (by omega),List.getElem?_drop,show n+(i-n)=i by omega,Array.getElem?_toList]at e;exact e
 rcases hi with⟨a,b⟩|⟨a,b⟩
 ·exact go 19 5 h1 a b
 ·exact go 70 37 h2 a b
theorem QI:(Try.prog.info? 4).map (fun i=>(i.zero,i.size,i.bytes))=some (some (.bool false),1,1):=kr
theorem XZ:(Try.prog.info? 76).map (fun i=>(i.zero,i.size,i.bytes))=some (some (.int .u64 0),1,8):=kr
theorem Qb{w:ae}{t n:Int}{vg Aq:af}{sA:Option Addr}{ns cap:Nat}{cs:List Int}{l:List Cm}{msg:ByteArray}(hv:fW .u64 w w.heap.size vg cs)(hcb:∀i,i<cs.length->0<=cs.getD i 0)(hcl:cs.length<=65536)(hC:lI w w.heap.size Aq l)(hll:l.length<=65536)(hb:∀i,i<l.length->0<=(l.getD i .zero).d/\0<=(l.getD i .zero).e)(hns:ns<=65536)(CM:msg.size<=1000000):
  wpT dS (M9 t n cs l msg sA ns cap w) (Rt t n cs l msg ns w) (eK 12 iY).1 ⟨#[.agg #[.int .i64 t,.int .i64 n,vg],.string msg,Aq,.slice sA ns cap,av,av,av,av,av,av,av,av,av,av,av,av,av,av,av,av,av,av,av,av,av,av,av,av,av,av,av,av,av,av,av,av,av,av,av,av,av,av,av,av,av,av,av,av,av,av,av,av,av,av,av,av,av,av,av,av,av,av,av,av,av,av,av,av,av,av,av,av,av,av,av,av,av,av,av,av,av,av,av,av,av,av,av,av,av,av,av,av,av,av,av,av,av,av,av,av,av,av,av,av,av,av,av],[]⟩ w:=by
 obtain⟨B,hB⟩:∃B,B=w.heap.size:=⟨_,rfl⟩;have HE:∀x,ja t n cs l msg ns=x->Hid (ja t n cs l msg ns=x):=fun x h=>h;have Nb:=ay hcb;have HBB:=ay hb;simp only[iY,eK,Try.f27,aJ];refine iU (fun W=>fW .u64 W W.heap.size vg cs/\lI W W.heap.size Aq l/\W.heap.size=B/\gH B w W) (fun _ _ _ h=>h) ⟨hv,hC,hB.symm,by rw[hB];exact⟨aH _,fun _ _=>rfl,rfl,rfl⟩⟩ fun w0 ⟨hv0,hC0,hz0,hs0⟩=>?_;have HBS:=ay hB;clear hB;have kg:∀o o':Obj,Below w0.heap.size w0 ((w0.alloc o).alloc o'):=fun o o'=>(eB w0 o).trans ((eB (w0.alloc o) o').mono (by simp));have k1:=fun o o'=>hv0.later (kg o o');have k2:=fun o o'=>hC0.later (kg o o');have k3:=fun o o'=>hs0.below (kg o o') (by omega);clear hv hC hcb hb;go_wp2_with fail
 refine iU (fun W=>fW .u64 W W.heap.size vg cs/\lI W W.heap.size Aq l/\gH B w W/\ft W B 31 #[.int .i64 t,.int .i64 n,vg]/\ft W (B+1) 47 #[.int .u64 0,.int .u64 0]/\W.heap.size=B+2) (fun _ _ _ h=>h) ⟨k1 _ _,k2 _ _,k3 _ _,?_,?_,by simp<;>omega⟩ fun w1 ⟨hv1,hC1,hs1,h4,h8,hz1⟩=>?_
 ·rw[<-hz0];exact(ft.new w0 _ _).alloc _
 ·rw[<-hz0];exact jG _ _ (by simp)
 clear k1 k2 k3 kg hs0 hC0 hv0;have c0:=h4.cell 0;have c1:=h4.cell 1;have c2:=h4.cell 2;simp at c0 c1 c2;have HOF:=ay (aO9 t n cs vg w1 hv1 hcl Nb.out);have H8:=ay h8;have HC1:=ay hC1;clear h8 hv1 hC1;go_wp2_with fail
 refine HOF.out.mono ?_;rintro e w2 ⟨hb2,⟨hno,rfl⟩|⟨JG,g,vc,rfl,hg,Mq,hown⟩⟩
 ·have UC:=H8.out.below hb2 H8.out.lt;have hs2:=hs1.below hb2 (by omega);have HX:=ay (show ja t n cs l msg ns=4 by unfold ja;rw[if_pos hno]);have hsz:=hb2.size;go_wp2_with fail
  refine iU (fun W=>gH B w W/\ft W (B+1) 47 #[.int .u64 0,.int .u64 0]) (fun _ _ _ h=>h) ⟨hs2.below (eB _ _) (by omega),UC.below (eB _ _) UC.lt⟩ fun w3 ⟨hs3,Yq⟩=>?_;have e0:=Yq.cell 0;have e1:=Yq.cell 1;have f0:=Yq.frozen 0;have f1:=Yq.frozen 1;have H83:=ay Yq;clear UC Yq hs2;go_wp2_with fail
  exact⟨by rw[HX.out];decide,by rw[HX.out];exact Bp H83.out,by rw[<-HBS.out];exact(hs3.iM (by omega) _ _).iM (by omega) _ _⟩
 have bs0:=hb2.size;have UC:=H8.out.below hb2 H8.out.lt;have hs2:=hs1.below hb2 (by omega);have hC2:=HC1.out.later hb2;have vJ:=fun o=>eB w2 o;go_wp2_with fail
 obtain⟨j0,zg⟩:∃b,b=w2.heap.size:=⟨_,rfl⟩;refine iU (fun W=>lI W W.heap.size Aq l/\gH B w W/\ft W (B+1) 47 #[.int .u64 0,.int .u64 0]/\ft W j0 97 #[.pointer (some ⟨g,0,none⟩)]/\ft W g 137 (gI t n vc)/\ml W B vc cs) (fun _ _ _ h=>h) ⟨hC2.later (vJ _),hs2.below (vJ _) (by omega),UC.below (vJ _) UC.lt,by rw[zg];exact ft.new _ _ _,Mq.below (vJ _) Mq.lt,(jc hown (vJ _) nle).mono (by omega)⟩ fun w3 ⟨hC3,hs3,Yq,a55,hg3,V8⟩=>?_;rw[<-zg];have bP5:B<=j0:=by omega
 have hgB:B<=g:=by omega
 have Rw:=ay JG;clear vJ zg hb2 UC hs2 hC2 Mq hown bs0 hg JG H8 HC1 HOF h4 c0 c1 c2 hs1 hz1;go_wp2_with fail
 refine iU (fun W=>lI W W.heap.size Aq l/\gH B w W/\ft W (B+1) 47 #[.int .u64 0,.int .u64 0]/\ft W j0 97 #[.pointer (some ⟨g,0,none⟩)]/\ft W g 137 (gI t n vc)/\ml W B vc cs) (fun _ _ _ h=>h) ⟨hC3,hs3,Yq,a55,hg3,V8⟩ fun w4 ⟨hC4,hs4,h84,az1,hg4,ho4⟩=>?_;clear hC3 hs3 Yq a55 hg3 V8;have c11:=az1.cell 0;simp at c11;have HPO:=ay (NG (msg:=msg) (EW hg4) ho4 hC4 hll HBB.out);have H84:=ay h84;have HG4:=ay hg4;have HO4:=ay ho4;have aF5:=ay az1;clear h84 hg4 ho4 hC4 az1;go_wp2_with fail
 refine HPO.out.mono ?_;rintro e w5 ⟨xp,⟨hno,rfl⟩|⟨h0,p,ZY,rfl,hpk,hpB,lb,rfl,hlB⟩⟩
 ·have UC:=H84.out.below xp H84.out.lt;have hs5:=hs4.below xp hs4.1;have HX:=ay (show ja t n cs l msg ns=rD t n l by unfold ja;rw[if_neg (by rw[Rw.out];simp),if_pos hno]);have HN:=ay hno;have hne:(rD t n l != 0)=true:=by rw[bne_iff_ne];exact hno
  generalize rD t n l=X at*;clear hno;go_wp2_with fail
  refine iU (fun W=>gH B w W/\ft W (B+1) 47 #[.int .u64 0,.int .u64 0]) (fun _ _ _ h=>h) ⟨hs5.below (eB _ _) hs5.1,UC.below (eB _ _) UC.lt⟩ fun w6 ⟨hs6,Yp⟩=>?_;have e0:=Yp.cell 0;have e1:=Yp.cell 1;have f0:=Yp.frozen 0;have f1:=Yp.frozen 1;have H86:=ay Yp;clear UC Yp hs5;go_wp2_with fail
  exact⟨by rw[HX.out];exact HN.out,by rw[HX.out];exact Bp H86.out,by rw[<-HBS.out];exact(hs6.iM (by omega) _ _).iM (by omega) _ _⟩
 have hs5:=hs4.below xp hs4.1;have h85:=H84.out.below xp H84.out.lt;have az0:=aF5.out.below xp aF5.out.lt;have hg5:=HG4.out.below xp HG4.out.lt;have HB5:=fun o=>eB w5 o;have av8:=hs5.1;have br9:=hs4.1;go_wp2_with fail
 obtain⟨fR,QO⟩:∃b,b=w5.heap.size:=⟨_,rfl⟩;refine iU (fun W=>gH B w W/\ft W (B+1) 47 #[.int .u64 0,.int .u64 0]/\ft W j0 97 #[.pointer (some ⟨g,0,none⟩)]/\ft W g 137 (gI t n vc)/\ft W fR 100 #[.pointer (some ⟨p,0,none⟩)]/\Pk W p g vc (.slice (some ⟨lb,0,none⟩) l.length l.length) t n cs l msg B) (fun _ _ _ ⟨a1,a2,a3,a4,a5,a6⟩=>⟨a1,a2,a3,a4,a5,⟨a6.pk,a6.iJ,a6.kP,a6.own⟩⟩) ⟨hs5.below (HB5 _) av8,h85.below (HB5 _) h85.lt,az0.below (HB5 _) az0.lt,hg5.below (HB5 _) hg5.lt,by rw[QO];exact ft.new _ _ _,hpk.later (HB5 _)⟩ fun w6 ⟨hs6,Yp,a54,hg6,a51,hp6⟩=>?_;rw[<-QO];have bP4:B<=fR:=by omega
 have cb7:B<=p:=by omega
 have hlB':B<=lb:=by omega
 have H0:=ay h0;clear HB5 QO xp hs5 h85 az0 hg5 av8 br9 hpk hpB hlB h0 HPO H84 HG4 HO4 aF5 c11 hs4;go_wp2_with fail
 refine iU (fun W=>gH B w W/\ft W (B+1) 47 #[.int .u64 0,.int .u64 0]/\ft W j0 97 #[.pointer (some ⟨g,0,none⟩)]/\ft W g 137 (gI t n vc)/\ft W fR 100 #[.pointer (some ⟨p,0,none⟩)]/\Pk W p g vc (.slice (some ⟨lb,0,none⟩) l.length l.length) t n cs l msg B) (fun _ _ _ ⟨a1,a2,a3,a4,a5,a6⟩=>⟨a1,a2,a3,a4,a5,⟨a6.pk,a6.iJ,a6.kP,a6.own⟩⟩) ⟨hs6,Yp,a54,hg6,a51,hp6⟩ fun w7 ⟨hs7,h87,ay9,hg7,Yr,hp7⟩=>?_;clear hs6 Yp a54 hg6 a51 hp6;have c13:=Yr.cell 0;simp at c13;have HLEN:=ay (aS9 hp7);have H87:=ay h87;have be8:=ay ay9;have HG7:=ay hg7;have HP7:=ay hp7;have be7:=ay Yr;by_cases hln:ns=l.length;case neg=>
  have HX:=ay (show ja t n cs l msg ns=12 by unfold ja;rw[if_neg (by rw[Rw.out];simp),if_neg (by rw[H0.out];simp),if_pos hln]);have hne:((ns:Int) != (l.length:Int))=true:=by rw[bne_iff_ne];omega
  have aW7:¬((ns:Int)=(l.length:Int)):=by omega
  have e0:=h87.cell 0;have e1:=h87.cell 1;have f0:=h87.frozen 0;have f1:=h87.frozen 1;clear ay9 hg7 hp7 Yr h87 hln;go_wp2_with (go_at_call 57;refine HLEN.out.mono ?_;rintro e w8 ⟨rfl,rfl⟩)
  exact⟨by rw[HX.out];decide,by rw[HX.out];exact Bp H87.out,by rw[<-HBS.out];exact(hs7.iM (by omega) _ _).iM (by omega) _ _⟩
 case pos=>
 subst hln;clear ay9 hg7 hp7 Yr h87;go_wp2_with (go_at_call 57;refine HLEN.out.mono ?_;rintro e w8 ⟨rfl,rfl⟩)
 refine iU (fun W=>gH B w W/\ft W (B+1) 47 #[.int .u64 0,.int .u64 0]/\ft W j0 97 #[.pointer (some ⟨g,0,none⟩)]/\ft W g 137 (gI t n vc)/\ft W fR 100 #[.pointer (some ⟨p,0,none⟩)]/\Pk W p g vc (.slice (some ⟨lb,0,none⟩) l.length l.length) t n cs l msg B) (fun _ _ _ ⟨a1,a2,a3,a4,a5,a6⟩=>⟨a1,a2,a3,a4,a5,⟨a6.pk,a6.iJ,a6.kP,a6.own⟩⟩) ⟨hs7,H87.out,be8.out,HG7.out,be7.out,HP7.out⟩ fun w8 ⟨hs8,h88,a52,OY,ay8,hp8⟩=>?_;clear hs7 H87 be8 HG7 HP7 be7 HLEN c13;have c13:=ay8.cell 0;simp at c13;obtain⟨q1,q2,q3,q4,-,-⟩:=kE Rw.out;obtain⟨p1,p2,-,-⟩:=xJ H0.out;have hgd:=vB H0.out;have Yi:0<cs.length:=by omega
 have Ad:l.length<=9:=by omega
 have hk:=rR (rS Rw.out Yi);have hk2:0<=cs.getD 0 0/\cs.getD 0 0<18446744073709551616:=by omega
 have Za:=fun r x hx=>ay (a97 hp8 hgd q3 Ad Yi hk2 CM r x hx);have H88:=ay h88;have aF4:=ay a52;have HG8:=ay OY;have HP8:=ay hp8;have aF3:=ay ay8;clear h88 a52 OY hp8 ay8;by_cases hall:iT l (cs.getD 0 0) msg=1
 ·have HX:=ay (show ja t n cs l msg l.length=11 by unfold ja;rw[if_neg (by rw[Rw.out];simp),if_neg (by rw[H0.out];simp),if_neg (by simp),if_pos hall]);have HA:=Za 0 11 (.inl ⟨hall,rfl,rfl⟩);clear Za hall;go_wp2_with fail
  refine HA.out.mono ?_;rintro e w9 ⟨rfl,OZ⟩;have h89:=H88.out.below OZ H88.out.lt;have hs9:=hs8.below OZ hs8.1;go_wp2_with fail
  refine iU (fun W=>gH B w W/\ft W (B+1) 47 #[.int .u64 0,.int .u64 0]) (fun _ _ _ h=>h) ⟨hs9,h89⟩ fun w10 ⟨X7,GJ⟩=>?_;have e0:=GJ.cell 0;have e1:=GJ.cell 1;have f0:=GJ.frozen 0;have f1:=GJ.frozen 1;have bG4:=ay GJ;clear h89 GJ hs9;go_wp2_with fail
  exact⟨by rw[HX.out];decide,by rw[HX.out];exact Bp bG4.out,by rw[<-HBS.out];exact(X7.iM (by omega) _ _).iM (by omega) _ _⟩
 obtain⟨R,hR⟩:∃R,R=iT l (cs.getD 0 0) msg:=⟨_,rfl⟩;have HRR:=ay hR;have HX:=ay (show ja t n cs l msg l.length=0 by unfold ja;rw[if_neg (by rw[Rw.out];simp),if_neg (by rw[H0.out];simp),if_neg (by simp),if_neg hall]);have HA:=Za R 0 (.inr ⟨hall,hR,rfl⟩);clear Za hall hR;go_wp2_with fail
 refine HA.out.mono ?_;rintro e w9 ⟨rfl,OZ⟩;have hs9:=hs8.below OZ hs8.1;have h89:=H88.out.below OZ H88.out.lt;have h119:=aF4.out.below OZ aF4.out.lt;have hg9:=HG8.out.below OZ HG8.out.lt;have a50:=aF3.out.below OZ aF3.out.lt;have hp9:=HP8.out.later OZ;go_wp2_with fail
 refine iU (fun W=>gH B w W/\ft W (B+1) 47 #[.int .u64 0,.int .u64 0]/\ft W j0 97 #[.pointer (some ⟨g,0,none⟩)]/\ft W g 137 (gI t n vc)/\ft W fR 100 #[.pointer (some ⟨p,0,none⟩)]/\Pk W p g vc (.slice (some ⟨lb,0,none⟩) l.length l.length) t n cs l msg B) (fun _ _ _ ⟨a1,a2,a3,a4,a5,a6⟩=>⟨a1,a2,a3,a4,a5,⟨a6.pk,a6.iJ,a6.kP,a6.own⟩⟩) ⟨hs9,h89,h119,hg9,a50,hp9⟩ fun w10 ⟨X7,GJ,ad2,aY6,ad0,aW4⟩=>?_;clear hs9 h89 h119 hg9 a50 hp9 OZ HA H88 aF4 HG8 HP8 aF3 c13 hs8;go_wp2_with fail
 refine iU (fun W=>gH B w W/\ft W (B+1) 47 #[.int .u64 0,.int .u64 0]/\ft W j0 97 #[.pointer (some ⟨g,0,none⟩)]/\ft W g 137 (gI t n vc)/\ft W fR 100 #[.pointer (some ⟨p,0,none⟩)]/\Pk W p g vc (.slice (some ⟨lb,0,none⟩) l.length l.length) t n cs l msg B) (fun _ _ _ ⟨a1,a2,a3,a4,a5,a6⟩=>⟨a1,a2,a3,a4,a5,⟨a6.pk,a6.iJ,a6.kP,a6.own⟩⟩) ⟨X7,GJ,ad2,aY6,ad0,aW4⟩ fun w11 ⟨aw2,a48,UF,aY5,ac9,X9⟩=>?_;clear X7 GJ ad2 aY6 ad0 aW4;have c11:=UF.cell 0;simp at c11;have hr:0<=iT l (cs.getD 0 0) msg/\iT l (cs.getD 0 0) msg<2147483579:=by rw[Ha];exact Px _ _ _ _
 have HKEY:=ay (au7 X9.kP X9.own Yi);have HCH:=ay (wW (iT l (cs.getD 0 0) msg) (cs.getD 0 0) msg w11 CM ⟨hr.1,by omega⟩ hk2);have aF2:=ay a48;have VK:=ay UF;have aE8:=ay aY5;have bc6:=ay X9;have VJ:=ay ac9;have hr0:=hr.1;have hr1:=hr.2;have hR:=HRR.out;obtain⟨KK,hKK⟩:∃KK,KK=cs.getD 0 0:=⟨_,rfl⟩;obtain⟨CCC,hCC⟩:∃CC,CC=l5 R KK msg:=⟨_,rfl⟩;rw[<-hR,<-hKK]at HCH;rw[<-hCC]at HCH;rw[<-hKK]at HKEY;have HKK:=ay hKK;have HCC:=ay hCC;clear hR hKK hCC a48 UF aY5 X9 ac9 hr hr0 hr1;go_wp2_with (first|(go_at_call 60;refine HKEY.out.mono ?_;rintro e w' ⟨rfl,rfl⟩)|(go_at_call 59;refine HCH.out.mono ?_;rintro e w12 ⟨rfl,Mw⟩))
 have aw1:=aw2.below Mw aw2.1;have ay7:=aF2.out.below Mw aF2.out.lt;have UE:=VK.out.below Mw VK.out.lt;have ax1:=aE8.out.below Mw aE8.out.lt;have UD:=VJ.out.below Mw VJ.out.lt;have aW3:=bc6.out.later Mw;have Nc:=fun o=>eB w12 o;have aa6:=aw1.1;obtain⟨kJ,Mu⟩:∃b,b=w12.heap.size:=⟨_,rfl⟩;refine iU (fun W=>gH B w W/\ft W (B+1) 47 #[.int .u64 0,.int .u64 0]/\ft W j0 97 #[.pointer (some ⟨g,0,none⟩)]/\ft W g 137 (gI t n vc)/\ft W fR 100 #[.pointer (some ⟨p,0,none⟩)]/\Pk W p g vc (.slice (some ⟨lb,0,none⟩) l.length l.length) t n cs l msg B/\ft W kJ 76 #[.int .u64 CCC]) (fun _ _ _ ⟨a1,a2,a3,a4,a5,a6,a7⟩=>⟨a1,a2,a3,a4,a5,⟨a6.pk,a6.iJ,a6.kP,a6.own⟩,a7⟩) ⟨aw1.below (Nc _) aa6,ay7.below (Nc _) ay7.lt,UE.below (Nc _) UE.lt,ax1.below (Nc _) ax1.lt,UD.below (Nc _) UD.lt,aW3.later (Nc _),by rw[Mu];exact ft.new _ _ _⟩ fun w13 ⟨aw0,a47,ad1,aY4,ac8,aW2,ac7⟩=>?_;rw[<-Mu];have bP3:B<=kJ:=by omega
 clear aw1 ay7 UE ax1 UD aW3 Nc Mu aa6 Mw HKEY HCH aF2 VK aE8 bc6 VJ c11 aw2;have cc4:∀W,(Instr.makeSlice 107 (.int .i64 l.length) (.int .i64 l.length)).run dS W=.ok (.slice (some ⟨W.heap.size,0,none⟩) l.length l.length) (W.alloc (.cells (madeCells #[.bool false] l.length) 4)):=
  fun W=>run_make_row' 107 4 (.bool false) 1 Try.underlying107 QI rfl .i64 .i64 l.length (by omega) (by omega) W
 have cc3:∀W,(Instr.makeSlice 75 (.int .i64 l.length) (.int .i64 l.length)).run dS W=.ok (.slice (some ⟨W.heap.size,0,none⟩) l.length l.length) (W.alloc (.cells (madeCells #[.int .u64 0] l.length) 76)):=
  fun W=>run_make_row' 75 76 (.int .u64 0) 8 Try.underlying75 XZ rfl .i64 .i64 l.length (by omega) (by omega) W
 have KQ:=fun o o'=>(eB w13 o).trans ((eB (w13.alloc o) o').mono (by simp));obtain⟨Rb,hRb⟩:∃b,b=w13.heap.size:=⟨_,rfl⟩;obtain⟨b16,QN⟩:∃b,b=w13.heap.size+1:=⟨_,rfl⟩;have aa5:=aw0.1;have bc9:=ay (show(fun W=>gH B w W/\ft W (B+1) 47 #[.int .u64 0,.int .u64 0]/\ft W j0 97 #[.pointer (some ⟨g,0,none⟩)]/\ft W g 137 (gI t n vc)/\ft W fR 100 #[.pointer (some ⟨p,0,none⟩)]/\Pk W p g vc (.slice (some ⟨lb,0,none⟩) l.length l.length) t n cs l msg B/\ft W kJ 76 #[.int .u64 CCC]) w13 from⟨aw0,a47,ad1,aY4,ac8,aW2,ac7⟩);clear a47 ad1 aY4 ac8 aW2 ac7;go_wp2_with fail
 obtain⟨k1,k2,k3,k4,k5,k6,k7⟩:=bc9.out;refine iU (fun W=>gH B w W/\ft W (B+1) 47 #[.int .u64 0,.int .u64 0]/\ft W j0 97 #[.pointer (some ⟨g,0,none⟩)]/\ft W g 137 (gI t n vc)/\ft W fR 100 #[.pointer (some ⟨p,0,none⟩)]/\Pk W p g vc (.slice (some ⟨lb,0,none⟩) l.length l.length) t n cs l msg B/\ft W kJ 76 #[.int .u64 CCC]/\ft W Rb 4 (madeCells #[.bool false] l.length)/\ft W b16 107 #[.slice (some ⟨Rb,0,none⟩) l.length l.length]) (fun _ _ _ ⟨a1,a2,a3,a4,a5,a6,a7,a8,a9⟩=>⟨a1,a2,a3,a4,a5,⟨a6.pk,a6.iJ,a6.kP,a6.own⟩,a7,a8,a9⟩) ⟨k1.below (KQ _ _) aa5,k2.below (KQ _ _) k2.lt,k3.below (KQ _ _) k3.lt,k4.below (KQ _ _) k4.lt,k5.below (KQ _ _) k5.lt,k6.later (KQ _ _),k7.below (KQ _ _) k7.lt,by rw[hRb];exact(ft.new w13 _ _).alloc _,by rw[hRb,QN];exact jG _ _ (by simp)⟩ fun w14 X14=>?_;rw[<-QN];have ce7:B<=Rb:=by omega
 have bP2:B<=b16:=by omega
 clear k1 k2 k3 k4 k5 k6 k7 KQ bc9 hRb QN aa5 aw0;have aa4:=X14.1.1;have bc8:=ay X14;clear X14;have Ez:=fun o o'=>(eB w14 o).trans ((eB (w14.alloc o) o').mono (by simp));obtain⟨Zb,hZb⟩:∃b,b=w14.heap.size:=⟨_,rfl⟩;obtain⟨fX,QM⟩:∃b,b=w14.heap.size+1:=⟨_,rfl⟩;go_wp2_with fail
 obtain⟨k1,k2,k3,k4,k5,k6,k7,k8,k9⟩:=bc8.out;refine iU (fun W=>gH B w W/\ft W (B+1) 47 #[.int .u64 0,.int .u64 0]/\ft W j0 97 #[.pointer (some ⟨g,0,none⟩)]/\ft W g 137 (gI t n vc)/\ft W fR 100 #[.pointer (some ⟨p,0,none⟩)]/\Pk W p g vc (.slice (some ⟨lb,0,none⟩) l.length l.length) t n cs l msg B/\ft W kJ 76 #[.int .u64 CCC]/\ft W Rb 4 (madeCells #[.bool false] l.length)/\ft W b16 107 #[.slice (some ⟨Rb,0,none⟩) l.length l.length]/\ft W Zb 76 (madeCells #[.int .u64 0] l.length)/\ft W fX 75 #[.slice (some ⟨Zb,0,none⟩) l.length l.length]) (fun _ _ _ ⟨a1,a2,a3,a4,a5,a6,a7,a8,a9,a10,Vw⟩=>⟨a1,a2,a3,a4,a5,⟨a6.pk,a6.iJ,a6.kP,a6.own⟩,a7,a8,a9,a10,Vw⟩) ⟨k1.below (Ez _ _) aa4,k2.below (Ez _ _) k2.lt,k3.below (Ez _ _) k3.lt,k4.below (Ez _ _) k4.lt,k5.below (Ez _ _) k5.lt,k6.later (Ez _ _),k7.below (Ez _ _) k7.lt,k8.below (Ez _ _) k8.lt,k9.below (Ez _ _) k9.lt,by rw[hZb];exact(ft.new w14 _ _).alloc _,by rw[hZb,QM];exact jG _ _ (by simp)⟩ fun w15 X15=>?_;rw[<-QM];have ce1:B<=Zb:=by omega
 have bP1:B<=fX:=by omega
 clear k1 k2 k3 k4 k5 k6 k7 k8 k9 Ez bc8 hZb QM aa4;have aU9:=X15.1.1;have bE7:=ay X15;clear X15;go_wp2_with fail
 obtain⟨k1,k2,k3,k4,k5,k6,k7,k8,k9,k10,k11⟩:=bE7.out;have zA:=fun o=>eB w15 o;obtain⟨gc,iX,rfl,cd3,-⟩:=k6.own.form Yi;have hBS:=HBS.out;have hR:=HRR.out;have hC:=HCC.out;have hK:=HKK.out;subst hBS;subst hR;subst hK;subst hC;refine⟨HX.out,k1.below (zA _) aU9,rfl,w.heap.size+1,j0,fR,kJ,b16,fX,g,p,gc,lb,Rb,Zb,w15.heap.size,iX,⟨rfl,rfl,rfl,rfl,rfl,rfl,rfl,rfl,rfl,rfl,rfl,fun i hi=>?_⟩,?_,k2.below (zA _) k2.lt,k3.below (zA _) k3.lt,k5.below (zA _) k5.lt,k7.below (zA _) k7.lt,k9.below (zA _) k9.lt,k11.below (zA _) k11.lt,k4.below (zA _) k4.lt,jc k6.own (zA _) nle,k6.pk.below (zA _) k6.pk.lt,k6.iJ.later (zA _),k8.below (zA _) k8.lt,k10.below (zA _) k10.lt,ft.new _ _ _⟩
 ·exact ai0 _ rfl rfl i hi
 ·intro b hb;simp only[aM,bA,or_false]at hb;omega
end Hr
end Go.Proofs.Ytpfpokjaeffbjaa
