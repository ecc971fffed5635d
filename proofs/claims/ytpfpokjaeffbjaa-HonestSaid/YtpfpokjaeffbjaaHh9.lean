/- Part of the proof: AgO, DnF, MAdd, MWait, MWt, DoS, WrkD, Dn, Wrk, AgL. -/
import Derived.Test.YtpfpokjaeffbjaaHh0
import Derived.Test.YtpfpokjaeffbjaaHh8
import Derived.Test.YtpfpokjaeffbjaaHh7
import Derived.Test.YtpfpokjaeffbjaaHh4
import Derived.Test.YtpfpokjaeffbjaaHh5
import Derived.Conc.WgArith
set_option linter.unusedVariables false
set_option linter.unusedSimpArgs false
set_option maxRecDepth 100000
set_option maxHeartbeats 16000000
open Go.Region renaming wanted→bg
open Go.Instr renaming alloc→dw,loadAt→aT,storeAt→bJ
open Nat renaming le_refl→aH,le_trans→aY,zero_add→cZ
open Array renaming getElem?_push→cY,getElem?_eq_getElem→aI
open Go.World renaming cell?→bN
open Go.Extern renaming findNext→bR,find→cW
open Go.Proofs.Try renaming prog→dS
open Option renaming getD_some→aJ
open Go.IntKind renaming wrap→bI,wrap_i32→dJ
open Go.Act renaming eval→aU
open Go.Obj renaming cells→az
open List renaming mem_cons_of_mem→aR,mem_cons_self→dh
namespace Go.Proofs.Ytpfpokjaeffbjaa
open Go renaming World→ae,Value→af,Goroutine→ah,Frame→ai,TypeId→aj,FuncId→ak,Program→au,undef→av,execOp→ax
open Go.Lib renaming hid→ay
namespace Cc
open Go.Conc Go.ConcN
open Go.ConcM (OsLater)
theorem DF{P:au}{main:Bool}{b:ai}{a:Act}{kk:List Item}{cs:List ai}{w:ae}{ops:Array Oper}{i:Nat}{rest:List Nat}{o:Oper}{t:aj}{ob:Obj}(ho:ops[i]?=some o)(hw:bg o (yielded ops a.tmps)=true)(hk:b.kind≠ .early)(hop:o.op=.alloc t)
  (h:(dw t true (.tuple #[])).run P w=.ok (.pointer (some ⟨w.heap.size,0,none⟩)) (w.alloc ob)/\(dw t true (.tuple #[])).events P w #[]=#[]):
  stepG P main (G (b.at a (.inRegion ops (i::rest)::kk)) cs) w=.go (G (b.at (a.put o.dst (.pointer (some ⟨w.heap.size,0,none⟩))) (.inRegion ops rest::kk)) cs) (w.alloc ob) #[]:=by
 have hr:(ax a.eval o).run P w=.ok (.value (.pointer (some ⟨w.heap.size,0,none⟩))) (w.alloc ob):=by
  unfold ax;simp only[hop];simp[h.1]
 have he:(ax a.eval o).events P w #[]=#[]:=by
  unfold ax;simp only[hop];simp[h.1,h.2]
 rw[stepG_value ho hw hk hr];unfold listed;rw[he,seen_none]
section
variable{q:iU}{s:eJ}{mw:MW}{dm num:Nat}{K:List (Nat×Obj)}{Ch:Nat->ah->St eH->Prop}{P:au}(hP:q.P=P){b:ai}{a:Act}{kk:List Item}{cs:List ai}{ops:Array Oper}{j:Nat}{rest:List Nat}{o:Oper}
theorem nu.keeps{st:St eH}(h:nu s mw dm num K st){w':ae}(hw:∀b,b<st.w.heap.size->w'.heap[b]?=st.w.heap[b]?):DL st w' K:=fun b o hb=>by
 obtain⟨h1,h2⟩:=h.fz b o hb;exact⟨(hw b (lt_of_block h1)).trans h1,h2.imp id .inl,h.nd b o hb⟩
include hP
theorem TT.aL2{st:St eH}(hA:nu s mw dm num K st){t:aj}{y:Operand}{bl off:Nat}{v:af}{ob:Obj}(ho:ops[j]?=some o)(hw:bg o (yielded ops a.tmps)=true)(hk:b.kind≠ .early)(hop:o.op=.load t y)(hy:a.eval y=.pointer (some ⟨bl,off,none⟩))(hK:(bl,ob)∈K)
  (hf:∀w:ae,w.heap[bl]?=some ob->(aT t (.pointer (some ⟨bl,off,none⟩))).run P w=.ok v w/\(aT t (.pointer (some ⟨bl,off,none⟩))).events P w #[]=#[⟨.cell ⟨bl,off,none⟩,false,false⟩])
  (h:∀dZ,nu s mw dm num K dZ->Inv q dZ->(∀l,st.γ.ex 0 l->dZ.γ.ex 0 l)->TT (cfg q) 0 Ch (G (b.at (a.put o.dst v) (.inRegion ops rest::kk)) cs) dZ):TT (cfg q) 0 Ch (G (b.at a (.inRegion ops (j::rest)::kk)) cs) st:=by
 refine TT.ak4 hP hA fun dV hr dY hi=>?_;obtain⟨f1,f2⟩:=dY.fz _ _ hK;obtain⟨a1,_⟩:=dY.apart hi hK;obtain⟨s1,s2⟩:=EN (P:=P) (main:=(0:Nat)==0) (cs:=cs) (kk:=kk) (rest:=rest) ho hw hk hop hy (hf dV.w f1);refine⟨_,_,_,K,s1,rfl,⟨aH _,fun e he=>⟨bl,off,false,s2 e he,lt_of_block f1,fun s' hs'=>?_,f2.elim (fun f=>.inl (f off)) fun f=>.inr (.inl ⟨rfl,f off⟩)⟩,rfl,rfl,fun _ _=>.inl rfl⟩,dY.keeps fun _ _=>rfl,fun dZ _ eu eN hex _=>h dZ eu eN fun l hl=>hex l (hr.ex (.inl rfl) l hl)⟩;rw[dY.sc]at hs';cases hs';exact a1
theorem TT.S4{st:St eH}(hA:nu s mw dm num K st){t:aj}{ob:Obj}(ho:ops[j]?=some o)(hw:bg o (yielded ops a.tmps)=true)(hk:b.kind≠ .early)(hop:o.op=.alloc t)
  (hf:∀w:ae,(dw t true (.tuple #[])).run P w=.ok (.pointer (some ⟨w.heap.size,0,none⟩)) (w.alloc ob)/\(dw t true (.tuple #[])).events P w #[]=#[])
  (h:∀dZ bl,nu s mw dm num ((bl,ob)::K) dZ->Inv q dZ->(∀l,st.γ.ex 0 l->dZ.γ.ex 0 l)->(∀off,dZ.γ.ex 0 (ca bl off))->(∀b o,(b,o)∈K->b≠bl)->(∀l b,st.γ.ex 0 l->im l=some b->b≠bl)->TT (cfg q) 0 Ch (G (b.at (a.put o.dst (.pointer (some ⟨bl,0,none⟩))) (.inRegion ops rest::kk)) cs) dZ):TT (cfg q) 0 Ch (G (b.at a (.inRegion ops (j::rest)::kk)) cs) st:=by
 refine TT.ak4 hP hA fun dV hr dY hi=>?_;have hsz:(dV.w.alloc ob).heap.size=dV.w.heap.size+1:=Array.size_push ..;have hold:∀b,b<dV.w.heap.size->(dV.w.alloc ob).heap[b]?=dV.w.heap[b]?:=fun b hb=>(cY ..).trans (if_neg (by omega));have hnew:(dV.w.alloc ob).heap[dV.w.heap.size]?=some ob:=(cY ..).trans (if_pos rfl);refine⟨_,_,_,(dV.w.heap.size,ob)::K,DF ho hw hk hop (hf dV.w),rfl,⟨by omega,fun e he=>by simp at he,rfl,rfl,fun b hb=>.inl (hold b hb)⟩,fun b o' hb=>?_,fun dZ _ eu eN hex hnw=>h dZ _ eu eN (fun l hl=>hex l (hr.ex (.inl rfl) l hl)) (fun off=>hnw _ off nle (by omega)) (fun b o' hb e=>?_) fun l b hl hb e=>?_⟩
 ·rcases List.mem_cons.1 hb with e|hb
  ·cases e;exact⟨hnew,.inr (.inr nle),fun hd=>by have:=hi.base.dead _ hd;omega⟩
  ·exact(dY.keeps hold) b o' hb
 ·have:=lt_of_block (dY.fz _ _ hb).1
  omega
 ·have:=hi.base.tr.FI.low 0 l (hr.ex (.inl rfl) l hl) b hb
  omega
theorem TT.S0{st:St eH}(hA:nu s mw dm num K st){K':List (Nat×Obj)}{t:aj}{y z:Operand}{bl off:Nat}{v:af}{C:Array af}{e:aj}(ho:ops[j]?=some o)(hw:bg o (yielded ops a.tmps)=true)(hk:b.kind≠ .early)(hop:o.op=.store t y z)(hy:a.eval y=.pointer (some ⟨bl,off,none⟩))(hz:a.eval z=v)(hK:(bl,.cells C e (0,0))∈K)(hlt:off<C.size)
  (hex:∀off,st.γ.ex 0 (ca bl off))(hK':∀b o,(b,o)∈K'->(b=bl/\o=.cells (C.setIfInBounds off v) e (0,0))\/(b≠bl/\(b,o)∈K))(hn:(P.funcs[b.fn]?).any (·.norace)=false)
  (hf:∀(w:ae) (u:af),w.cell? ⟨bl,off,none⟩=some u->w.frozen? ⟨bl,off,none⟩=false->(bJ t (.pointer (some ⟨bl,off,none⟩)) v).run P w=.ok () (w.setCell ⟨bl,off,none⟩ v)/\(bJ t (.pointer (some ⟨bl,off,none⟩)) v).events P w #[]=#[⟨.cell ⟨bl,off,none⟩,true,false⟩])
  (h:∀dZ,nu s mw dm num K' dZ->Inv q dZ->(∀l,st.γ.ex 0 l->dZ.γ.ex 0 l)->TT (cfg q) 0 Ch (G (b.at (a.put o.dst av) (.inRegion ops rest::kk)) cs) dZ):TT (cfg q) 0 Ch (G (b.at a (.inRegion ops (j::rest)::kk)) cs) st:=by
 refine TT.ak4 hP hA fun dV hr dY hi=>?_;obtain⟨f1,f2⟩:=dY.fz _ _ hK;obtain⟨a1,_⟩:=dY.apart hi hK;have hcell:dV.w.cell? ⟨bl,off,none⟩=some C[off]:=by simp only[bN,f1];exact aI hlt
 have bl7:dV.w.frozen? ⟨bl,off,none⟩=false:=by simp[World.frozen?,f1]
 have W:=aside_setCell dV.w ⟨bl,off,none⟩ v;have hblk:(dV.w.setCell ⟨bl,off,none⟩ v).heap[bl]?=some (.cells (C.setIfInBounds off v) e (0,0)):=by
  simp[World.setCell,Array.getElem?_modify,f1]
 refine⟨_,_,_,K',wM ho hw hk hop hy hz (hf dV.w _ hcell bl7) hn,rfl,⟨Nat.le_of_eq W.size.symm,fun e' he=>?_,W.os,W.output,fun b hb=>?_⟩,fun b o' hb=>?_,fun dZ _ eu eN hx _=>h dZ eu eN fun l hl=>hx l (hr.ex (.inl rfl) l hl)⟩
 ·simp at he;subst he;exact⟨bl,off,true,rfl,by rw[W.size];exact lt_of_block f1,fun s' hs'=>(by rw[dY.sc]at hs';cases hs';exact a1),.inl (hr.ex (.inl rfl) _ (hex off))⟩
 ·by_cases e1:b=bl
  ·subst e1;exact .inr fun off=>hr.ex (.inl rfl) _ (hex off)
  ·exact .inl (W.block b e1)
 ·rcases hK' b o' hb with⟨rfl,rfl⟩|⟨e1,hb'⟩
  ·exact⟨hblk,.inl fun off=>hr.ex (.inl rfl) _ (hex off),dY.nd _ _ hK⟩
  ·obtain⟨g1,g2⟩:=dY.fz _ _ hb';exact⟨(W.block b e1).trans g1,g2.imp id .inl,dY.nd _ _ hb'⟩
end
end Cc
namespace Cc
open Go.Conc Go.ConcN Go.ConcM Go.RowKit Go.Conc.Lib Go.ConcR.Gen
open Go.ConcR (KK wgBlock WgAt stA smA rd wr mk DC0)
section
theorem Y9:(Try.f93.name== "runtime.NumGoroutine")=false:=by kernel_rfl
theorem Z5:Try.f93.body.isNone=true:=by kernel_rfl
theorem YE:bR Try.f93=none:=by kernel_rfl
theorem ZU:cW Try.f93=some (fun _=>pure (.bool false)):=by kernel_rfl
theorem Gu:(Try.f123.name== "runtime.NumGoroutine")=false:=by kernel_rfl
theorem G6:Try.f123.body.isNone=true:=by kernel_rfl
theorem FO:bR Try.f123=none:=by kernel_rfl
theorem GU:cW Try.f123=some (Extern.Atomic.update (Op.intArith .add) .u64 true):=by kernel_rfl
theorem Gt:(Try.f124.name== "runtime.NumGoroutine")=false:=by kernel_rfl
theorem G5:Try.f124.body.isNone=true:=by kernel_rfl
theorem FN:bR Try.f124=none:=by kernel_rfl
theorem GR:cW Try.f124=some (Extern.Atomic.loadT (.int .u64)):=by kernel_rfl
theorem aj7:(Try.f125.name== "runtime.NumGoroutine")=false:=by kernel_rfl
theorem av6:Try.f125.body.isNone=true:=by kernel_rfl
theorem ab3:bR Try.f125=none:=by kernel_rfl
theorem as7:cW Try.f125=some (Extern.Atomic.storeT):=by kernel_rfl
theorem Ns:(Try.f128.name== "runtime.NumGoroutine")=false:=by kernel_rfl
theorem OM:Try.f128.body.isNone=true:=by kernel_rfl
theorem Mw:bR Try.f128=none:=by kernel_rfl
theorem Oq:cW Try.f128=some (Extern.Atomic.casT (.int .u64)):=by kernel_rfl
theorem WC:(Try.f102.name== "runtime.NumGoroutine")=false:=by kernel_rfl
theorem OL:Try.f102.body.isNone=true:=by kernel_rfl
theorem VO:bR Try.f102=none:=by kernel_rfl
theorem XS:cW Try.f102=some (Extern.Sync.semrelease):=by kernel_rfl
theorem SJ:(Try.f109.name== "runtime.NumGoroutine")=false:=by kernel_rfl
theorem UQ:Try.f109.body.isNone=true:=by kernel_rfl
theorem Ri:bR Try.f109=none:=by kernel_rfl
theorem Uj:cW Try.f109=some (Extern.Sync.semacquire):=by kernel_rfl
theorem WK:(Try.f98.name== "runtime.NumGoroutine")=false:=by kernel_rfl
theorem Ya:Try.f98.body.isNone=true:=by kernel_rfl
theorem VP:bR Try.f98=none:=by kernel_rfl
theorem XT:cW Try.f98=some (Extern.Race.marked .read):=by kernel_rfl
theorem SU:(Try.f108.name== "runtime.NumGoroutine")=false:=by kernel_rfl
theorem UT:Try.f108.body.isNone=true:=by kernel_rfl
theorem Rn:bR Try.f108=none:=by kernel_rfl
theorem Um:cW Try.f108=some (Extern.Race.marked .write):=by kernel_rfl
theorem aj5:(Try.f61.name== "runtime.NumGoroutine")=false:=by kernel_rfl
theorem WH:(Try.f63.name== "runtime.NumGoroutine")=false:=by kernel_rfl
theorem SP:(Try.f97.name== "runtime.NumGoroutine")=false:=by kernel_rfl
theorem Gs:(Try.f99.name== "runtime.NumGoroutine")=false:=by kernel_rfl
theorem SN:(Try.f100.name== "runtime.NumGoroutine")=false:=by kernel_rfl
theorem aj6:(Try.f107.name== "runtime.NumGoroutine")=false:=by kernel_rfl
theorem Rx:Try.prog.underlying 172=some (.pointer 116):=by kernel_rfl
theorem ab0:(Try.prog.info? 116).map (fun i=>decide (i.size=0))=some false:=by kernel_rfl
theorem Ry:Try.prog.underlying 178=some (.pointer 114):=by kernel_rfl
theorem YB:(Try.prog.info? 114).map (fun i=>decide (i.size=0))=some false:=by kernel_rfl
section
variable{q:iU}{i:Nat}{s:eJ}{x:Wk}{Ch:Nat->ah->St eH->Prop}
theorem TT.qU{P:au}(hP:q.P=P){g:ah}{st:St eH}(hA:At s i x st)(hx:x.wg≠ .lv/\x.wg≠ .gone/\x.wg≠ .idle)(n:Nat)
  (h:∀w:ae,(∃v,w.cell? ⟨s.Wg,0,none⟩=some v)->Goes P (i==0) (fun _ w₁=>∃v,w₁.cell? ⟨s.Wg,0,none⟩=some v) DC0 (fun g' _=>g'.status=.running/\TT (cfg q) i Ch g' st) n g w):TT (cfg q) i Ch g st:=by
 subst hP;exact TT.step fun dV hr hi=>by
  have hr:Rl i st dV:=hr;have hi:Inv q dV:=hi;have f:∀dV,Rl i st dV->Inv q dV->∃v,dV.w.cell? ⟨s.Wg,0,none⟩=some v:=fun dV hr hi=>⟨_,((hi.eX s (hA.rely hx hr hi).sc).c.qO.cellSt)⟩;exact(TT.walk (C:=cfg q) Du (F:=fun w₁=>∃v,w₁.cell? ⟨s.Wg,0,none⟩=some v) f (fun dV hr hi=>(hA.rely hx hr hi).nM ⟨hx.1,hx.2.1⟩) n g dV.w (h dV.w (f dV hr hi))).elim dV hr hi
theorem eU{s:eJ}{w₀ w₁:ae}(_:∃v,w₀.cell? ⟨s.Wg,0,none⟩=some v)(r:∃v,w₁.cell? ⟨s.Wg,0,none⟩=some v):∃v,w₁.cell? ⟨s.Wg,0,none⟩=some v:=r
end
end
section
open Go.ConcM (OsLater)
section
variable{q:iU}{s:eJ}
theorem zu(m:Mark)(h:(∀a,m≠ .release a)/\(∀a,m≠ .read a)/\∀a,m≠ .write a):∀e∈(#[⟨.mark m,false,true⟩]:Array Event),EvM s e:=by
 intro e he;simp at he;subst he;exact .inl ⟨m,rfl,h⟩
theorem Us(off:Nat)(h:off<2):∀e∈(#[⟨.cell ⟨s.Wg,off,none⟩,false,true⟩,⟨.cell ⟨s.Wg,off,none⟩,true,true⟩]:Array Event),EvM s e:=by
 intro e he;simp at he;rcases he with rfl|rfl
 ·exact .inr (.inl ⟨off,false,rfl,h⟩)
 ·exact .inr (.inl ⟨off,true,rfl,h⟩)
theorem Ow(off:Nat)(h:off<2):∀e∈(#[⟨.cell ⟨s.Wg,off,none⟩,false,true⟩]:Array Event),EvM s e:=by
 intro e he;simp at he;subst he;exact .inr (.inl ⟨off,false,rfl,h⟩)
theorem Ur:∀e∈(#[⟨.mark (.read ⟨s.Wg,1,none⟩),false,true⟩]:Array Event),EvM s e:=by
 intro e he;simp at he;subst he;exact .inr (.inr ⟨1,by omega,.inl rfl⟩)
theorem Qq:∀e∈(#[⟨.mark (.write ⟨s.Wg,1,none⟩),false,true⟩]:Array Event),EvM s e:=by
 intro e he;simp at he;subst he;exact .inr (.inr ⟨1,by omega,.inr rfl⟩)
theorem NN{st:St eH}(off:Nat)(v:af):(st.w.setCell ⟨s.Wg,off,none⟩ v).heap.size=st.w.heap.size/\(∀b,b≠s.Wg->(st.w.setCell ⟨s.Wg,off,none⟩ v).heap[b]?=st.w.heap[b]?)/\OsLater st.w.os (st.w.setCell ⟨s.Wg,off,none⟩ v).os/\(st.w.setCell ⟨s.Wg,off,none⟩ v).output=st.w.output:=by
 have A:=aside_setCell st.w ⟨s.Wg,off,none⟩ v;exact⟨A.size,fun b hb=>A.block b hb,by rw[A.os];exact .refl _,A.output⟩
theorem Kp{st:St eH}(c:gL q s st)(p:WG->Bool):gi p st.γ s<=9:=by
 unfold gi;exact aY (aY List.countP_le_length (by simp)) c.n0.2.2.2
variable(hP:q.P=dS){num:Nat}{K:List (Nat×Obj)}{Ch:Nat->ah->St eH->Prop}
variable{b₁:ai}{a₁:Act}{eB:Array Oper}{fE:Nat}{ez:List Nat}{k₁:List Item}{cs₁:List ai}
noncomputable def OV:Code:=Try.f61.body.getD .skip
include hP
theorem ak8(hT:∀st':St eH,nu s .ad 0 num K st'->Inv q st'->TT (cfg q) 0 Ch (G (b₁.at (a₁.put ((eB[fE]?).bind (·.dst)) (.tuple #[])) (.inRegion eB ez::k₁)) cs₁) st'){st:St eH}(hA:nu s .sp 0 num K st):
  TT (cfg q) 0 Ch (G ((base 61).at ⟨#[.pointer (some ⟨s.Wg,0,none⟩),.int .i64 1,av,av,av,av,av,av,av,av,av,av,av,av,av,av,av,av,av,av,av,av,av,av,av,av,av,av,av,av,av,av,av,av,av,av,av,av,av,av,av,av,av,av,av,av,av,av,av,av,av,av,av,av,av,av,av,av,av,av,av,av,av,av,av,av,av,av,av,av,av,av,av,av,av,av,av,av,av,av,av,av,av,av,av,av,av,av,av,av,av,av,av,av,av,av,av,av,av,av,av,av,av,av,av,av,av,av,av,av,av,av,av,av,av,av,av],[]⟩ [.code OV]) (b₁.at a₁ (.inRegion eB (fE::ez)::k₁)::cs₁)) st:=by
 simp only[OV,Try.f61,aJ];refine TT.j0 hP hA 80 fun w₀ hF=>?_;repeat w_go eA
 refine stp rfl ?_;clear hF w₀;refine TT.LF hP hA fun dV dY eQ eo _ _=>⟨_,_,_,.sp,dV.γ.gs,dV.γ.gm,stepG_mark0 .disable (by simp) rfl rfl (by k_ne) rfl Try.func91 qZ rE qQ f_disable,rfl,zu .disable (by simp),⟨rfl,fun _ _=>rfl,.refl _,rfl⟩,eo.qO,by simp,by simp,by have:=eo.sK;rw[dY.mw]at this;exact this,fun dZ eu eN _ _=>?_⟩;clear eo eQ dY;refine TT.j0 hP eu 80 fun w₀ hF=>?_;walk_nrm;repeat w_go eA
 u_defer eA hF
 repeat w_go eA
 u_in eA hF
 rw[stepG_entry_pure (.bool false) rfl rfl (by k_ne) rfl Try.func93 Y9 Z5 YE ZU];simp only[goes_go];refine⟨by u_nil,?_⟩;walk_nrm;repeat w_go eA
 u_call Try.func97 SP Try.f97 eA hF
 repeat w_go eA
 refine stp rfl ?_;clear hF w₀;refine TT.LF hP eu fun fw eK fu eV _ _=>?_;have hL:=eV.sK;rw[eK.mw]at hL;obtain⟨w1,w2,w3,w4,w5⟩:=hL;have TI:=Kp eV WG.cd;have hw:=eV.qO;rw[w1,w2]at hw;generalize hcc:gi WG.cd fw.γ s=c at*;have e1:IntKind.u64.wrap (((c*4294967296:Nat):Int)+4294967296)=(((c+1)*4294967296:Nat):Int):=by rw[IntKind.wrap_u64];omega
 refine⟨_,_,_,.ad,(c+1)*4294967296,0,(stepG_add_atomic rfl rfl (by k_ne) rfl Try.func123 Gu G6 FO .u64 GU rfl rfl hw.cellSt (hw.thaw 0)).trans (by rw[e1];rfl),rfl,Us 0 (by omega),NN 0 _,hw.setSt _,by simp,by simp,?_,fun fI eF fO JJ _=>?_⟩
 ·exact⟨rfl,rfl,w3,w4,w5⟩
 clear hw e1 w1 w2 w3 w4 w5 hcc eV fu eK JJ;have Zz:(((c+1)*4294967296:Nat):Int)=((c+1:Nat):Int)*4294967296+((0:Nat):Int):=by omega
 rw[Zz];have b1:bits .and .u64 (((c+1:Nat):Int)*4294967296+((0:Nat):Int)) 2147483648=0:=st_flag (c+1) 0 (by omega) (by omega);have b2:bits .and .u64 (((c+1:Nat):Int)*4294967296+((0:Nat):Int)) 2147483647=((0:Nat):Int):=st_waiters (c+1) 0 (by omega) (by omega);have a1:(((c+1:Nat):Int)*4294967296+((0:Nat):Int))/4294967296=((c+1:Nat):Int):=by omega
 have a2:0<=((c+1:Nat):Int)*4294967296+((0:Nat):Int)/\((c+1:Nat):Int)*4294967296+((0:Nat):Int)<9223372036854775808:=by omega
 generalize((c+1:Nat):Int)*4294967296+((0:Nat):Int)=S at*;simp only[Int.natCast_zero]at b2;have b3:bI .u32 0=0:=by decide
 obtain⟨V,hV⟩:∃V:Int,V=((c+1:Nat):Int):=⟨_,rfl⟩;rw[<-hV]at a1;have v1:bI .i32 V=V:=by rw[dJ];omega
 have v2:(0:Int)<V:=by omega
 have v3:¬V<0:=by omega
 have hdm:deafBehind (deafBehind 0 #[⟨.mark .disable,false,true⟩]) #[⟨.cell (stA s.Wg),false,true⟩,⟨.cell (stA s.Wg),true,true⟩]=1:=rfl;replace eF:nu s .ad 1 num K fI:=eF;clear hdm eu eN Zz;refine TT.j0 hP eF 200 fun w₀ hF=>?_;walk_nrm;by_cases hc0:c=0
 ·have hV1:V=1:=by omega
  subst hV1;clear hV TI hc0 v2 v3 v1;have v1:bI .i32 1=1:=by decide
  repeat w_go eA
  u_leave1 Try.func97 eA hF
  repeat w_go eA
  m_convG dS Try.underlying174 Ry YB hF.2.choose_spec eA hF
  refine stp rfl ?_;clear hF w₀;refine TT.LF hP eF fun eT fe gg fx _ _=>⟨_,_,_,.ad,eT.γ.gs,eT.γ.gm,stepG_markAt .read (by simp) rfl rfl (by k_ne) rfl Try.func98 WK Ya VP XT (ad:=⟨s.Wg,1,none⟩) (by simp[aU]<;>rfl),rfl,Ur,⟨rfl,fun _ _=>rfl,.refl _,rfl⟩,fx.qO,by simp,by simp,by have:=fx.sK;rw[fe.mw]at this;exact this,fun gU eZ gD _ _=>?_⟩;replace eZ:nu s .ad 1 num K gU:=eZ;refine TT.j0 hP eZ 200 fun w₀ hF=>?_;walk_nrm;repeat w_go eA
  refine stp rfl ?_;clear hF w₀;refine TT.LF hP eZ fun stA Hr hIA Qn _ _=>⟨_,_,_,.ad,stA.γ.gs,stA.γ.gm,stepG_unwind_entry (v:=.tuple #[]) rfl Try.func92 jq jy jm f_enable (by simp[Extern.Race.none_]) (by simp) (by intro x hx;simp at hx;subst hx;exact⟨rfl,fun g h=>by cases h⟩),rfl,zu .enable (by simp),⟨rfl,fun _ _=>rfl,.refl _,rfl⟩,Qn.qO,by simp,by simp,by have:=Qn.sK;rw[Hr.mw]at this;exact this,fun MG Es LW _ _=>?_⟩;refine TT.j0 hP Es 40 fun w₀ hF=>?_;u_leave0 Try.func61 eA hF
  refine stp rfl ?_;exact hT MG (by have e:deafBehind 1 #[⟨.mark .enable,false,true⟩]=0:=rfl;rw[<-e];exact Es) LW
 ·have hV1:(V==1)=false:=by simp<;>omega
  clear hV TI hc0;repeat w_go eA
  u_leave1 Try.func97 eA hF
  repeat w_go eA
  refine stp rfl ?_;clear hF w₀;refine TT.LF hP eF fun stA Hr hIA Qn _ _=>⟨_,_,_,.ad,stA.γ.gs,stA.γ.gm,stepG_unwind_entry (v:=.tuple #[]) rfl Try.func92 jq jy jm f_enable (by simp[Extern.Race.none_]) (by simp) (by intro x hx;simp at hx;subst hx;exact⟨rfl,fun g h=>by cases h⟩),rfl,zu .enable (by simp),⟨rfl,fun _ _=>rfl,.refl _,rfl⟩,Qn.qO,by simp,by simp,by have:=Qn.sK;rw[Hr.mw]at this;exact this,fun MG Es LW _ _=>?_⟩;refine TT.j0 hP Es 40 fun w₀ hF=>?_;u_leave0 Try.func61 eA hF
  refine stp rfl ?_;exact hT MG (by have e:deafBehind 1 #[⟨.mark .enable,false,true⟩]=0:=rfl;rw[<-e];exact Es) LW
end
end
section
open Go.ConcM (OsLater)
section
variable{q:iU}{s:eJ}
variable(hP:q.P=dS){num:Nat}{K:List (Nat×Obj)}{Ch:Nat->ah->St eH->Prop}
variable{b₁:ai}{a₁:Act}{eB:Array Oper}{fE:Nat}{ez:List Nat}{k₁:List Item}{cs₁:List ai}
noncomputable def tU:Code:=Try.f71.body.getD .skip
noncomputable def waitLoop:Code:=(iX tU).getD .skip
def a52(q:iU)(s:eJ)(num:Nat)(K:List (Nat×Obj))(Ch:Nat->ah->St eH->Prop)(b₁:ai)(a₁:Act)(eB:Array Oper)(fE:Nat)(ez:List Nat)(k₁:List Item)(cs₁:List ai):Prop:=
 ∀dZ,kH 0 num K dZ->Inv q dZ->DN q s dZ.w->
    (∃Z:Array af,dZ.w.heap[s.Zb]?=some (.cells Z q.tZ)/\Z.size=s.n/\∀k,k<s.n->Z[k]?=some (s.zv k))->(∃R:Array af,dZ.w.heap[s.Rb]?=some (.cells R q.tR)/\R.size=s.n/\∀k,k<s.n->R[k]?=some (s.rv k))->
    (∀l b,l.isMemory=true->im l=some b->b<dZ.w.heap.size->¬dZ.γ.dead b->dZ.γ.ex 0 l)->¬dZ.γ.dead s.Gb->¬dZ.γ.dead s.Zb->¬dZ.γ.dead s.Rb->TT (cfg q) 0 Ch (G (b₁.at (a₁.put ((eB[fE]?).bind (·.dst)) (.tuple #[])) (.inRegion eB ez::k₁)) cs₁) dZ
include hP
theorem KY(hT:a52 q s num K Ch b₁ a₁ eB fE ez k₁ cs₁)(js:num=s.n0+s.n):∀(μ:Nat) (mw:MW) (st:St eH),(mw=.sp\/mw=.wt)->nu s mw 1 num K st->pK st.γ s<=μ->∀(j1 j2 j3 j4 j5 j6 j7 j8 j9 j10 j11 j12 j13 tI tH tF tE vA pE pD tD tC tB tA tz tv tq tj s7 sZ sY sX sW sV sU sS sQ sP sO zg zf ze Bx Bv Bu Bt Br Bq Bp Bo Bn Bl Bj Bi Bh Bg Bf Be Bc Bb Ba A9 A8 A7 A6 A0 AZ AY AX AW AV AU vz vw vv vt vq vp vo AQ AP AO AL:af),TT (cfg q) 0 Ch (G ((base 71).at ⟨#[.pointer (some ⟨s.Wg,0,none⟩),j1,j2,j3,j4,j5,j6,j7,j8,j9,j10,j11,j12,j13,tI,tH,tF,tE,vA,pE,pD,tD,tC,tB,tA,tz,tv,tq,tj,s7,sZ,sY,sX,sW,sV,sU,sS,sQ,sP,sO,zg,zf,ze,Bx,Bv,Bu,Bt,Br,Bq,Bp,Bo,Bn,Bl,Bj,Bi,Bh,Bg,Bf,Be,Bc,Bb,Ba,A9,A8,A7,A6,A0,AZ,AY,AX,AW,AV,AU,vz,vw,vv,vt,vq,vp,vo,AQ,AP,AO,AL],[]⟩ [.code waitLoop,.inLoop waitLoop,.inBlock 0]) (b₁.at a₁ (.inRegion eB (fE::ez)::k₁)::cs₁)) st:=by
 intro μ;induction μ using Nat.strongRecOn with
 |_ μ ih=>
 intro mw st zR hA hμ j1 j2 j3 j4 j5 j6 j7 j8 j9 j10 j11 j12 j13 tI tH tF tE vA pE pD tD tC tB tA tz tv tq tj s7 sZ sY sX sW sV sU sS sQ sP sO zg zf ze Bx Bv Bu Bt Br Bq Bp Bo Bn Bl Bj Bi Bh Bg Bf Be Bc Bb Ba A9 A8 A7 A6 A0 AZ AY AX AW AV AU vz vw vv vt vq vp vo AQ AP AO AL;have hL0:∀(c d2 d3 d4 st sm:Nat),xt mw c d2 d3 d4 st sm->st=c*4294967296/\sm=0/\d2=0/\d3=0/\d4=0:=by
  intro c d2 d3 d4 st sm h;rcases zR with rfl|rfl<;>exact h
 replace hL0:=Hd.mk hL0;simp only[waitLoop,tU,iX,Try.f71,aJ];refine TT.j0 hP hA 80 fun w₀ hF=>?_;repeat w_go eA
 u_call Try.func99 Gs Try.f99 eA hF
 repeat w_go eA
 refine stp rfl ?_;clear hF w₀;refine TT.LF hP hA fun dV dY eQ eo p1 p2=>?_;have hL:=eo.sK;rw[dY.mw]at hL;obtain⟨w1,w2,w3,w4,w5⟩:=hL0.un _ _ _ _ _ _ hL;have TI:=Kp eo WG.cd;have hw:=eo.qO;rw[w1,w2]at hw;by_cases hc0:gi WG.cd dV.γ s=0
 ·
  rw[hc0]at hw w1;refine⟨_,_,_,.lR,0,0,stepG_load_atomic rfl rfl (by k_ne) rfl Try.func124 Gt G5 FN .u64 GR rfl hw.cellSt,rfl,Ow 0 (by omega),⟨rfl,fun _ _=>rfl,.refl _,rfl⟩,hw,by simp,fun _=>js,by rw[hc0];exact⟨rfl,rfl,rfl,w3,w4,w5⟩,fun dZ eu eN _ _=>?_⟩;replace eu:nu s .lR 1 num K dZ:=eu;clear hw w1 w2 w3 w4 w5 hc0 TI eo eQ dY p1 p2 hL ih hμ;have b2:bits .and .u64 0 2147483647=0:=by decide
  have b3:bI .u32 0=0:=by decide
  have b4:bI .i32 0=0:=by decide
  refine TT.j0 hP eu 80 fun w₀ hF=>?_;simp only[Nat.zero_mul,Int.natCast_zero];walk_nrm;repeat w_go eA
  u_leave1 Try.func99 eA hF
  repeat w_go eA
  refine stp rfl ?_;clear hF w₀;refine TT.LF hP eu fun fw eK fu eV _ _=>⟨_,_,_,.lR,fw.γ.gs,fw.γ.gm,stepG_mark0 .enable (by simp) rfl rfl (by k_ne) rfl Try.func92 jq jy jm f_enable,rfl,zu .enable (by simp),⟨rfl,fun _ _=>rfl,.refl _,rfl⟩,eV.qO,by simp,fun _=>js,by have:=eV.sK;rw[eK.mw]at this;exact this,fun fI eF fO _ _=>?_⟩;replace eF:nu s .lR 0 num K fI:=eF;clear eV fu eK eu eN;refine TT.j0 hP eF 80 fun w₀ hF=>?_;walk_nrm;repeat w_go eA
  m_convG dS Try.underlying174 Rx ab0 hF.1.choose_spec eA hF
  refine stp rfl ?_;clear hF w₀;refine TT.join hP eF fun eT fe gg fx=>⟨_,stepG_markAt .acquire (by simp) rfl rfl (by k_ne) rfl Try.func105 Nz OO Mx Ot (by simp[aU];rfl),rfl,fun gU eZ gD f1 f2 f3 f4 f5 f6 f7=>?_⟩;refine TT.oX hP 80 fun w₀ hF=>?_;walk_nrm;repeat w_go ib
  u_leave0 Try.func71 ib hF
  exact Goes.stop (fun w₁ r₁=>⟨rfl,hT gU eZ gD f1 f2 f3 f4 f5 f6 f7⟩)
 ·refine⟨_,_,_,.wt,gi WG.cd dV.γ s*4294967296,0,stepG_load_atomic rfl rfl (by k_ne) rfl Try.func124 Gt G5 FN .u64 GR rfl hw.cellSt,rfl,Ow 0 (by omega),⟨rfl,fun _ _=>rfl,.refl _,rfl⟩,hw,by simp,fun _=>js,⟨rfl,rfl,w3,w4,w5⟩,fun dZ eu eN JK ao0=>?_⟩;replace eu:nu s .wt 1 num K dZ:=eu;have LL:pK dZ.γ s<=μ:=by omega
  clear hw w1 w2 w3 w4 w5 eo eQ dY p1 p2 hL ao0 hμ;generalize gi WG.cd dV.γ s=c at*;have Zz:((c*4294967296:Nat):Int)=((c:Nat):Int)*4294967296+((0:Nat):Int):=by omega
  rw[Zz];have b1:bits .and .u64 (((c:Nat):Int)*4294967296+((0:Nat):Int)) 2147483648=0:=st_flag c 0 (by omega) (by omega);have b2:bits .and .u64 (((c:Nat):Int)*4294967296+((0:Nat):Int)) 2147483647=((0:Nat):Int):=st_waiters c 0 (by omega) (by omega);have a1:(((c:Nat):Int)*4294967296+((0:Nat):Int))/4294967296=((c:Nat):Int):=by omega
  have a2:0<=((c:Nat):Int)*4294967296+((0:Nat):Int)/\((c:Nat):Int)*4294967296+((0:Nat):Int)<9223372036854775808:=by omega
  obtain⟨S,hS⟩:∃S:Int,S=((c:Nat):Int)*4294967296+((0:Nat):Int):=⟨_,rfl⟩;rw[<-hS]at b1 b2 a1 a2 ⊢;have a3:bI .u64 (S+1)=S+1:=by rw[IntKind.wrap_u64];omega
  obtain⟨V,hV⟩:∃V:Int,V=(c:Int):=⟨_,rfl⟩;rw[<-hV]at a1;have v1:bI .i32 V=V:=by rw[dJ];omega
  have v2:(V==0)=false:=by simp<;>omega
  have b3:bI .u32 0=0:=by decide
  simp only[Int.natCast_zero]at b2;replace hS:=Hd.mk hS;replace hV:=Hd.mk hV;replace JK:=Hd.mk JK;replace hc0:=Hd.mk hc0;replace TI:=Hd.mk TI;clear Zz;refine TT.j0 hP eu 160 fun w₀ hF=>?_;walk_nrm;repeat w_go eA
  u_leave1 Try.func99 eA hF
  repeat w_go eA
  u_call Try.func107 aj6 Try.f107 eA hF
  repeat w_go eA
  refine stp rfl ?_;clear hF w₀;refine TT.LF hP eu fun fw eK fu eV p1 p2=>?_;have hL:=eV.sK;rw[eK.mw]at hL;obtain⟨w1,w2,w3,w4,w5⟩:=hL;have hw:=eV.qO;rw[w2]at hw;have hSv:((c*4294967296:Nat):Int)=S:=by have:=hS.un;omega
  by_cases hhit:fw.γ.gs=c*4294967296
  ·
   have hcc:gi WG.cd fw.γ s=c:=by omega
   rw[hhit,hSv]at hw;have hS1:S+1=((c*4294967296+1:Nat):Int):=by omega
   refine⟨_,_,_,.rg,c*4294967296+1,0,stepG_cas_hit rfl rfl (by k_ne) rfl Try.func128 Ns OM Mw .u64 Oq rfl rfl rfl hw.cellSt (hw.thaw 0),rfl,Us 0 (by omega),NN 0 _,by have:=hw.setSt (S+1);rw[hS1]at this;rw[hS1];exact this,by simp,fun _=>js,by rw[hcc];exact .inl ⟨by have:=hc0.un;omega,rfl,rfl,w3,w4,w5⟩,fun fI eF fO JJ _=>?_⟩;replace eF:nu s .rg 1 num K fI:=eF;clear hw w1 w2 w3 w4 w5 hcc hhit eV fu eK p1 p2 ih LL JK JJ hS1 hSv eu eN;refine TT.j0 hP eF 160 fun w₀ hF=>?_;walk_nrm;repeat w_go eA
   u_leave1 Try.func107 eA hF
   repeat w_go eA
   m_convG dS Try.underlying174 Ry YB hF.2.choose_spec eA hF
   refine stp rfl ?_;clear hF w₀;refine TT.LF hP eF fun eT fe gg fx _ _=>⟨_,_,_,.rg,eT.γ.gs,eT.γ.gm,stepG_markAt .write (by simp) rfl rfl (by k_ne) rfl Try.func108 SU UT Rn Um (ad:=⟨s.Wg,1,none⟩) (by simp[aU]<;>rfl),rfl,Qq,⟨rfl,fun _ _=>rfl,.refl _,rfl⟩,fx.qO,by simp,fun _=>js,by have:=fx.sK;rw[fe.mw]at this;exact this,fun gU eZ gD _ _=>?_⟩;replace eZ:nu s .rg 1 num K gU:=eZ;clear fx gg fe eF fO;refine TT.j0 hP eZ 160 fun w₀ hF=>?_;walk_nrm;repeat w_go eA
   refine stp rfl ?_;clear hF w₀;refine TT.bh8 hP eZ js rfl rfl (fun w hc=>stepG_semacquire_wait rfl rfl rfl Try.func109 SJ UQ Ri Uj (by simp[aU];rfl) hc) (fun w hc hz=>stepG_semacquire rfl rfl (by k_ne) rfl Try.func109 SJ UQ Ri Uj (by simp[aU];rfl) hc (by simp) hz) fun gT iT mY=>?_;clear eZ gD;refine TT.j0 hP iT 160 fun w₀ hF=>?_;walk_nrm;repeat w_go eA
   u_call Try.func99 Gs Try.f99 eA hF
   repeat w_go eA
   refine stp rfl ?_;clear hF w₀;refine TT.LF hP iT fun xH lL zV T7 _ _=>?_;have hL:=T7.sK;rw[lL.mw]at hL;have KO:xH.γ.gs=0:=hL.2.1;have Hq:xH.γ.gm=0:=hL.2.2.1;have hw:=T7.qO;rw[KO,Hq]at hw;rw[KO,Hq]at hL;refine⟨_,_,_,.lR,0,0,stepG_load_atomic rfl rfl (by k_ne) rfl Try.func124 Gt G5 FN .u64 GR rfl hw.cellSt,rfl,Ow 0 (by omega),⟨rfl,fun _ _=>rfl,.refl _,rfl⟩,hw,by simp,fun _=>js,hL,fun RG tK Oi _ _=>?_⟩;replace tK:nu s .lR 1 num K RG:=tK;clear hw hL KO Hq T7 zV lL iT mY;refine TT.j0 hP tK 80 fun w₀ hF=>?_;simp only[Int.natCast_zero];walk_nrm;repeat w_go eA
   u_leave1 Try.func99 eA hF
   repeat w_go eA
   refine stp rfl ?_;clear hF w₀;refine TT.LF hP tK fun fw eK fu eV _ _=>⟨_,_,_,.lR,fw.γ.gs,fw.γ.gm,stepG_mark0 .enable (by simp) rfl rfl (by k_ne) rfl Try.func92 jq jy jm f_enable,rfl,zu .enable (by simp),⟨rfl,fun _ _=>rfl,.refl _,rfl⟩,eV.qO,by simp,fun _=>js,by have:=eV.sK;rw[eK.mw]at this;exact this,fun fI eF fO _ _=>?_⟩;replace eF:nu s .lR 0 num K fI:=eF;clear eV fu eK;refine TT.j0 hP eF 80 fun w₀ hF=>?_;walk_nrm;repeat w_go eA
   m_convG dS Try.underlying174 Rx ab0 hF.1.choose_spec eA hF
   refine stp rfl ?_;clear hF w₀;refine TT.join hP eF fun eT fe gg fx=>⟨_,stepG_markAt .acquire (by simp) rfl rfl (by k_ne) rfl Try.func105 Nz OO Mx Ot (by simp[aU];rfl),rfl,fun gU eZ gD f1 f2 f3 f4 f5 f6 f7=>?_⟩;refine TT.oX hP 80 fun w₀ hF=>?_;walk_nrm;repeat w_go ib
   u_leave0 Try.func71 ib hF
   exact Goes.stop (fun w₁ r₁=>⟨rfl,hT gU eZ gD f1 f2 f3 f4 f5 f6 f7⟩)
  ·
   have hlt:pK fw.γ s<μ:=by
    refine Nat.lt_of_le_of_ne (aY p1 LL) fun e=>?_;have:=p2 (by omega)
    have:=JK.un
    omega
   have Zl:((fw.γ.gs:Nat):Int)≠S:=by omega
   refine⟨_,_,_,.wt,fw.γ.gs,0,stepG_cas_miss rfl rfl (by k_ne) rfl Try.func128 Ns OM Mw .u64 Oq rfl rfl rfl hw.cellSt (hw.thaw 0) Zl,rfl,Ow 0 (by omega),⟨rfl,fun _ _=>rfl,.refl _,rfl⟩,hw,by simp,fun _=>js,⟨w1,rfl,w3,w4,w5⟩,fun fI eF fO JJ an9=>?_⟩;replace eF:nu s .wt 1 num K fI:=eF;have hps:pK fI.γ s<μ:=by omega
   clear hw w1 w2 w3 w4 w5 eV fu eK p1 p2 LL JK JJ hSv eu eN hhit Zl hlt an9;refine TT.j0 hP eF 160 fun w₀ hF=>?_;walk_nrm;repeat w_go eA
   u_leave1 Try.func107 eA hF
   repeat w_nl eA
   u_c stepG_inLoop eA hF
   refine stp rfl ?_;clear hF w₀;exact ih _ hps .wt fI (.inr rfl) eF nle ..
end
end
section
open Go.ConcM (OsLater)
section
variable{q:iU}{s:eJ}
variable(hP:q.P=dS){num:Nat}{K:List (Nat×Obj)}{Ch:Nat->ah->St eH->Prop}
variable{b₁:ai}{a₁:Act}{eB:Array Oper}{fE:Nat}{ez:List Nat}{k₁:List Item}{cs₁:List ai}
include hP
theorem ab9(hT:a52 q s num K Ch b₁ a₁ eB fE ez k₁ cs₁)(js:num=s.n0+s.n){st:St eH}(hA:nu s .sp 0 num K st):
  TT (cfg q) 0 Ch (G ((base 71).at ⟨#[.pointer (some ⟨s.Wg,0,none⟩),av,av,av,av,av,av,av,av,av,av,av,av,av,av,av,av,av,av,av,av,av,av,av,av,av,av,av,av,av,av,av,av,av,av,av,av,av,av,av,av,av,av,av,av,av,av,av,av,av,av,av,av,av,av,av,av,av,av,av,av,av,av,av,av,av,av,av,av,av,av,av,av,av,av,av,av,av,av,av,av,av,av,av],[]⟩ [.code tU]) (b₁.at a₁ (.inRegion eB (fE::ez)::k₁)::cs₁)) st:=by
 simp only[tU,Try.f71,aJ];refine TT.j0 hP hA 80 fun w₀ hF=>?_;repeat w_go eA
 refine stp rfl ?_;clear hF w₀;refine TT.LF hP hA fun dV dY eQ eo _ _=>⟨_,_,_,.sp,dV.γ.gs,dV.γ.gm,stepG_mark0 .disable (by simp) rfl rfl (by k_ne) rfl Try.func91 qZ rE qQ f_disable,rfl,zu .disable (by simp),⟨rfl,fun _ _=>rfl,.refl _,rfl⟩,eo.qO,by simp,by simp,by have:=eo.sK;rw[dY.mw]at this;exact this,fun dZ eu eN _ _=>?_⟩;replace eu:nu s .sp 1 num K dZ:=eu;clear eo eQ dY;refine TT.j0 hP eu 80 fun w₀ hF=>?_;walk_nrm;repeat w_but "code.loop" eA
 u_c stepG_loop eA hF
 refine stp rfl ?_;clear hF w₀;have h:=KY hP hT js (pK dZ.γ s) .sp dZ (.inl rfl) eu nle;simp only[waitLoop,tU,iX,Try.f71,aJ]at h;exact h ..
end
end
section
section
variable{q:iU}(hP:q.P=dS){i:Nat}{s:eJ}{x:Wk}{Ch:Nat->ah->St eH->Prop}
variable{b₁:ai}{a₁:Act}{eB:Array Oper}{fE:Nat}{ez:List Nat}{k₁:List Item}{cs₁:List ai}
noncomputable def EK:Code:=Try.f66.body.getD .skip
theorem gL.share{st:St eH}(h:gL q s st)(hD:st.γ.D=1){id:Nat}(i1:1<=id)(i2:id<=s.nn):st.w.cell? ⟨s.Gb,6+id,none⟩=some (.int .u64 (s.vals id)):=by
 obtain⟨C,h1,h2,h3,h4,h5,h6,h7,h8,h9,h10⟩:=h.gb;simp only[bN,h1];exact h10 hD id i1 i2
include hP
theorem VY(hx:x.wg=.work)(hnn:s.nn<=9)(hW:zD q i Ch s x){id:Nat}(i1:1<=id)(i2:id<=s.nn)
  (hT:∀(mx:MX) (st':St eH),mx=.fresh\/mx=.out->At s i {x with mx:=mx,df:=0,syn:=true} st'->Inv q st'->TT (cfg q) i Ch (G (b₁.at (a₁.put ((eB[fE]?).bind (·.dst)) (.int .u64 (s.vals id))) (.inRegion eB ez::k₁)) cs₁) st')
  {st:St eH}(hA:At s i {x with mx:=.fresh,df:=0} st):
  TT (cfg q) i Ch (G ((base 66).at ⟨#[.pointer (some ⟨s.Gb,0,none⟩),.int .i64 id,av,av,av,av,av,av,av,av,av,av,av,av,av,av,av],[]⟩ [.code EK]) (b₁.at a₁ (.inRegion eB (fE::ez)::k₁)::cs₁)) st:=by
 have hmf:∀(fn:Fn) (first cap:Array af) (w:ae),(Instr.makeFunc fn first cap).run dS w=.ok (.func fn first cap) w:=fun _ _ _ _=>rfl;have hme:∀(fn:Fn) (first cap:Array af) (w:ae) (es:Array Event),(Instr.makeFunc fn first cap).events dS w es=es:=fun _ _ _ _ _=>rfl;have q1:(0:Int)<=(id:Int):=by omega
 have q2:(id:Int)<10:=by omega
 have q3:id<10:=by omega
 have hix:∀(w:ae) (es:Array Event),(Instr.indexAt 135 (.pointer (some ⟨s.Gb,6,none⟩)) (.int .i64 (id:Int))).events dS w es=es:=fun w es=>events_indexAt_array _ _ 10 _ _ _ Try.underlying135 ⟨q1,by simpa using q2⟩;simp only[EK,Try.f66,aJ];refine TT.road hP hA (by simp[hx]) 80 fun w₀ hF=>?_;repeat w_go dW
 u_call Try.func103 aL0 Try.f103 dW hF
 refine stp rfl ?_;clear hF w₀;refine bq4 hP hx hnn hW ?_ hA;intro mx dV hm dY eQ;walk_nrm;refine TT.road hP dY (by simp[hx]) 80 fun w₀ hF=>?_;repeat w_go dW
 refine stp rfl ?_;clear hF w₀;refine TT.load hP dY hx rfl rfl (by k_ne) rfl rfl (fun dZ hr hi eu=>⟨(hi.eX s eu.sc).p.R4 i eu.lo (by rw[eu.me]) (6+id) (by omega) (by omega),Ze ((hi.eX s eu.sc).c.share ((hi.eX s eu.sc).c.syn i eu.lo (by rw[eu.me])) i1 i2)⟩) fun fw Fa fu eK=>?_;refine TT.road hP eK (by simp[hx]) 80 fun w₀ hF=>?_;walk_nrm;repeat w_go dW
 u_leave1 Try.func66 dW hF
 exact Goes.stop (fun w₁ r₁=>⟨rfl,hT mx fw hm eK fu⟩)
end
end
section
open Pl ni oa ng Mem nO Au
open nU hiding base
def Hm(K:List (Nat×Obj))(b:Nat)(v:af):Prop:=∃C e fz,(b,az C e fz)∈K/\C[0]?=some v
def iB(nv cv:Int)(cs:List Int)(l:List Cm)(msg:ByteArray)(k:Nat):Bool:=
 decide (nv<1073741789)&&decide (pw 4 nv.toNat 2147483579=mI (l6 l (cs.getD 0 0) msg k) (pw (ER cs (l.getD k .zero).id) (smul cv (iq (iO l l.length) k)).toNat 2147483579))
structure Hb(q:iU)(s:eJ)(K:List (Nat×Obj))(k:Nat)(nv cv:Int)(Pb gc lb:Nat)(cs:List Int)(l:List Cm)(msg:ByteArray)(bn bz bk bp bx bc br:Nat):Prop where
 hn:Hm K bn (.int .u64 nv)
 hz:∃cap,Hm K bz (.slice (some ⟨s.Zb,0,none⟩) s.n cap)
 hk:Hm K bk (.int .i64 k)
 hp:Hm K bp (.pointer (some ⟨Pb,0,none⟩))
 hx:Hm K bx (.pointer (some ⟨s.Gb,0,none⟩))
 hc:Hm K bc (.int .u64 cv)
 hr:∃cap,Hm K br (.slice (some ⟨s.Rb,0,none⟩) s.n cap)
 pk:∃C e fz cap,(Pb,az C e fz)∈K/\C.size=3/\C[0]?=some (.pointer (some ⟨s.Gb,0,none⟩))/\C[1]?=some (.slice (some ⟨lb,0,none⟩) l.length cap)/\C[2]?=some (.string msg)/\l.length<=cap
 gcB:∃C e fz,(gc,az C e fz)∈K/\cs.length<=C.size/\∀j,j<cs.length->C[j]?=some (.int .u64 (cs.getD j 0))
 lbB:∃C e fz,(lb,az C e fz)∈K/\3*l.length<=C.size/\∀j u,j<3*l.length->(eO l)[j]?=some u->C[j]?=some u
 gp:gc≠Pb
 lp:lb≠Pb
 lg:lb≠gc
 low:q.P.globals.size<=Pb/\q.P.globals.size<=gc/\q.P.globals.size<=lb/\q.P.globals.size<=s.Gb
 g0:∃t,s.g0=.int .i64 t
 g1:s.g1=.int .i64 s.nn
 g2:∃cap,s.g2=.slice (some ⟨gc,0,none⟩) cs.length cap
 n9:s.nn<=9
 c9:cs.length<=9
 c0:0<cs.length
 el:∀j,j<cs.length->jQ (cs.getD j 0)=true
 vs:∀id:Nat,1<=id->id<=s.nn->s.vals id=ER cs id
 gd:ng.Good s.nn l
 l9:l.length<=9
 kl:k<l.length
 ln:l.length=s.n
 ms:msg.size<=1000000
 nb:0<=nv/\nv<18446744073709551616
 cb:0<=cv/\cv<18446744073709551616
 zv:s.zv k=.int .u64 nv
 rv:s.rv k=.bool (iB nv cv cs l msg k)
def nB(Pb Gb gc lb m n:Nat):Nat->Option Nat:=fun b=>if b=Pb then some 3 else if b=Gb then some 3 else if b=gc then some m else if b=lb then some n else none
section
variable{q:iU}{i:Nat}{s:eJ}{x:Wk}{K:List (Nat×Obj)}{k:Nat}{nv cv:Int}{Pb gc lb:Nat}{cs:List Int}{l:List Cm}{msg:ByteArray}{bn bz bk bp bx bc br:Nat}
theorem At.box{st:St eH}(hA:At s i x st)(hK:x.keep=K){b:Nat}{v:af}(hb:Hm K b v):st.γ.rd i (ca b 0)/\st.w.cell? ⟨b,0,none⟩=some v:=by
 obtain⟨C,e,fz,h1,h2⟩:=hb;rw[<-hK]at h1;obtain⟨a,b⟩:=hA.fz _ _ h1;exact⟨b 0,by simp only[bN,a];exact h2⟩
theorem Hb.vals(D:Hb q s K k nv cv Pb gc lb cs l msg bn bz bk bp bx bc br)(hx:x.wg=.work)(hK:x.keep=K)(hP:q.P=dS){Ch:Nat->ah->St eH->Prop}:zD q i Ch s x:=by
 obtain⟨cap,hg2⟩:=D.g2;obtain⟨C,e,fz,h1,h2,h3⟩:=D.gcB;exact ab5 hP hx D.n9 D.c9 D.el D.g1 hg2 D.vs (by rw[hK];exact h1) h3
theorem Hb.sees(D:Hb q s K k nv cv Pb gc lb cs l msg bn bz bk bp bx bc br){S:ak->Bool}{st:St eH}(hA:At s i x st)(hK:x.keep=K)(hI:Inv q st):EA q S i (nB Pb s.Gb gc lb cs.length (3*l.length)) st:=by
 obtain⟨CP,eP,fP,cap,p1,p2,p3,p4,p5,p6⟩:=D.pk;obtain⟨CG,eG,fG,g1,g2,g3⟩:=D.gcB;obtain⟨CL,eL,fL,l1,l2,l3⟩:=D.lbB;rw[<-hK]at p1 g1 l1;have aP:=hA.apart hI p1;have aG:=hA.apart hI g1;have aL:=hA.apart hI l1;have vP:nB Pb s.Gb gc lb cs.length (3*l.length) Pb=some 3:=by simp[nB]
 have vS:nB Pb s.Gb gc lb cs.length (3*l.length) s.Gb=some 3:=by simp[nB]
 have vG:nB Pb s.Gb gc lb cs.length (3*l.length) gc=some cs.length:=by simp[nB,D.gp,aG.1]
 have vL:nB Pb s.Gb gc lb cs.length (3*l.length) lb=some (3*l.length):=by simp[nB,D.lp,aL.1,D.lg]
 have iS:=ry vS;have iG:=ry vG;have iL:=ry vL;obtain⟨C0,a1,a2,a3,a4,a5⟩:=(hI.eX s hA.sc).c.head;obtain⟨t0,ht0⟩:=D.g0;obtain⟨ji,hg2⟩:=D.g2;intro b n hv;unfold nB at hv;split at hv
 ·rename_i e;subst e;cases hv;refine⟨D.low.1,.inl (hA.fz _ _ p1).2,CP,eP,fP,(hA.fz _ _ p1).1,by omega,fun j v hj hv=>?_⟩;match j,hj with
  |0,_=>rw[p3]at hv;cases hv;exact .ptr _ _ iS
  |1,_=>rw[p4]at hv;cases hv;exact .slice _ _ _ _ iL
  |2,_=>rw[p5]at hv;cases hv;exact .string _
  |j+3,hj=>omega
 split at hv
 ·rename_i e;subst e;cases hv;refine⟨D.low.2.2.2,.inr ⟨aH _,s,hA.sc,rfl⟩,C0,_,_,a1,a2,fun j v hj hv=>?_⟩;match j,hj with
  |0,_=>rw[a3,ht0]at hv;cases hv;exact .int _ _
  |1,_=>rw[a4,D.g1]at hv;cases hv;exact .int _ _
  |2,_=>rw[a5,hg2]at hv;cases hv;exact .slice _ _ _ _ iG
  |j+3,hj=>omega
 split at hv
 ·rename_i e;subst e;cases hv;refine⟨D.low.2.1,.inl (hA.fz _ _ g1).2,CG,eG,fG,(hA.fz _ _ g1).1,g2,fun j v hj hv=>?_⟩;rw[g3 j hj]at hv;cases hv;exact .int _ _
 split at hv
 ·rename_i e;subst e;cases hv;refine⟨D.low.2.2.1,.inl (hA.fz _ _ l1).2,CL,eL,fL,(hA.fz _ _ l1).1,l2,fun j v hj hv=>?_⟩;have hlen:j<(eO l).length:=by rw[gF];omega
  have:=l3 j _ hj (List.getElem?_eq_getElem hlen)
  rw[this]at hv;cases hv;have hm:=List.getElem_mem hlen;generalize(eO l)[j]=u at hm ⊢;simp only[eO,List.mem_flatMap]at hm;obtain⟨c,_,hu⟩:=hm;simp only[Cm.cells,List.mem_cons,List.not_mem_nil,or_false]at hu;rcases hu with rfl|rfl|rfl<;>exact .int _ _
 ·cases hv
theorem Hb.pkw(D:Hb q s K k nv cv Pb gc lb cs l msg bn bz bk bp bx bc br){st:St eH}(hA:At s i x st)(hK:x.keep=K)(hI:Inv q st)(τ:Nat->Question->Nat)(d:Nat):
  ∃lv,Rf (World.on (iF st.w (nB Pb s.Gb gc lb cs.length (3*l.length))) τ d) Pb s.Gb lv cs l msg:=by
 obtain⟨CP,eP,fP,cap,p1,p2,p3,p4,p5,p6⟩:=D.pk;obtain⟨CG,eG,fG,g1,g2,g3⟩:=D.gcB;obtain⟨CL,eL,fL,l1,l2,l3⟩:=D.lbB;rw[<-hK]at p1 g1 l1;have aP:=hA.apart hI p1;have aG:=hA.apart hI g1;have aL:=hA.apart hI l1;have vP:nB Pb s.Gb gc lb cs.length (3*l.length) Pb=some 3:=by simp[nB]
 have vS:nB Pb s.Gb gc lb cs.length (3*l.length) s.Gb=some 3:=by simp[nB]
 have vG:nB Pb s.Gb gc lb cs.length (3*l.length) gc=some cs.length:=by simp[nB,D.gp,aG.1]
 have vL:nB Pb s.Gb gc lb cs.length (3*l.length) lb=some (3*l.length):=by simp[nB,D.lp,aL.1,D.lg]
 obtain⟨C0,a1,a2,a3,a4,a5⟩:=(hI.eX s hA.sc).c.head;obtain⟨ji,hg2⟩:=D.g2;have bP:=l5 vP (hA.fz _ _ p1).1;have bS:=l5 vS a1;have bG:=l5 vG (hA.fz _ _ g1).1;have bL:=l5 vL (hA.fz _ _ l1).1;have hs:=tV st.w (nB Pb s.Gb gc lb cs.length (3*l.length));have cell:∀{b n:Nat} {C:Array af} {e:aj},(iF st.w (nB Pb s.Gb gc lb cs.length (3*l.length))).heap[b]?=some (.cells (C.extract 0 n) e (0,n))->∀{o:Nat},o<n->n<=C.size->(World.on (iF st.w (nB Pb s.Gb gc lb cs.length (3*l.length))) τ d).cell? ⟨b,o,none⟩=C[o]?:=by
  intro b n C e hb o ho hn;show bN (iF st.w _) _=_;simp only[bN,hb];have e1:(C.extract 0 n)[o]?=C[o]?:=by
   rw[Array.getElem?_extract];simp only[cZ];by_cases h:o<n-0
   ·simp<;>omega
   ·omega
  exact e1
 have lt:∀{b:Nat} {o:Obj},st.w.heap[b]?=some o->b<(World.on (iF st.w (nB Pb s.Gb gc lb cs.length (3*l.length))) τ d).heap.size:=fun h=>by
  show _<(iF st.w _).heap.size;rw[hs];exact lt_of_block h
 refine⟨_,⟨⟨(cell bP (by omega) (by omega)).trans p3,(cell bP (by omega) (by omega)).trans p4,(cell bP (by omega) (by omega)).trans p5⟩,lt (hA.fz _ _ p1).1,?_,gc,ji,(cell bS (by omega) (by omega)).trans (a5.trans (by rw[hg2])),lt a1,lt (hA.fz _ _ g1).1,fun h=>(cell bG h g2).trans (g3 0 h)⟩⟩;refine⟨by rw[gF],_,_,rfl,p6,fun hp=>⟨lb,0,rfl,lt (hA.fz _ _ l1).1,fun j u hj=>?_⟩⟩;have hlt:=(List.getElem?_eq_some_iff.1 hj).1;rw[gF]at hlt;rw[cZ];exact(cell bL (by omega) l2).trans (l3 j u (by omega) hj)
variable{Ch:Nat->ah->St eH->Prop}{b:ai}{ops:Array Oper}{kk:List Item}{cc:List ai}{S:Array Bool->St eH->Prop}
structure Ground(q:iU)(s:eJ)(i:Nat)(K:List (Nat×Obj))(S:Array Bool->St eH->Prop)(j:Nat):Prop where
 at_:∀l st,S l st->Inv q st/\∃x:Wk,x.wg=.work/\x.keep=K/\At s i x st
 stay:∀l st dV,S l st->Rl i st dV->Inv q dV->S l dV
 set:∀l st,l.getD j true=false->S l st->S (l.setIfInBounds j true) st
theorem kK{w:WG}(h:w=.work):w≠ .lv/\w≠ .gone/\w≠ .idle:=by rw[h];simp
theorem Does.calm{P:au}(hP:q.P=P){j:Nat}{o:Oper}{X:Sem Next}{v:af}(G:Ground q s i K S j)(ho:ops[j]?=some o)(hk:b.kind≠ .early)
  (hrun:∀w,X.run P w=.ok (.value v) w)(hev:∀w,X.events P w #[]=#[]):Does (cfg q) i Ch b ops kk cc S j o X v:=
 Does.quiet hP ho hk (fun l st hl hs=>by
  obtain⟨_,x,hx,_,hA⟩:=G.at_ l st hs;exact⟨⟨x,kK hx,hA⟩,fun dV hr hi=>G.stay _ _ _ (G.set l st hl hs) hr hi⟩) hrun fun a w h=>by unfold listed;rw[h,hev];exact seen_none P _
theorem Does.box{P:au}(hP:q.P=P){j:Nat}{o:Oper}{a₀:Act}{v:af}{bb:Nat}{t:aj}{y:Operand}(G:Ground q s i K S j)(ho:ops[j]?=some o)(hk:b.kind≠ .early)(hop:o.op=.load t y)(hy:a₀.eval y=.pointer (some ⟨bb,0,none⟩))(hb:Hm K bb v)
  (hld:∀w:ae,w.cell? ⟨bb,0,none⟩=some v->(aT t (.pointer (some ⟨bb,0,none⟩))).run P w=.ok v w/\(aT t (.pointer (some ⟨bb,0,none⟩))).events P w #[]=#[⟨.cell ⟨bb,0,none⟩,false,false⟩]):Does (cfg q) i Ch b ops kk cc S j o (ax a₀.eval o) v:=
 Does.reads hP ho hk fun l st hl hs=>by
  obtain⟨_,x,hx,hK,hA⟩:=G.at_ l st hs;refine⟨⟨x,hx,hA⟩,fun dV hr hi=>?_⟩;have dY:=hA.rely (kK hx) hr hi;obtain⟨b1,b2⟩:=dY.box hK hb;obtain⟨r1,r2⟩:=hld dV.w b2;have hr':(ax a₀.eval o).run P dV.w=.ok (.value v) dV.w:=by
   unfold ax;simp only[hop,hy];simp[r1]
  have he':(ax a₀.eval o).events P dV.w #[]=#[⟨.cell ⟨bb,0,none⟩,false,false⟩]:=by
   unfold ax;simp only[hop,hy];simp[r1,r2]
  refine⟨G.stay _ _ _ (G.set l st hl hs) hr hi,hr',fun a he e hm=>?_⟩;have:=mem_listed hm
  rw[he,he']at this;simp at this<;>exact⟨bb,0,this,b1⟩
theorem Does.lone{P:au}(hP:q.P=P){SF:ak->Bool}(F:nP P SF){j:Nat}{o:Oper}{a₀:Act}{v:af}{f:ak}{fn:Func}{c:Code}{ars:Array Operand}{ats:Array aj}{args:Array af}(G:Ground q s i K S j)(hS:SF f=true)(ho:ops[j]?=some o)(hk:b.kind≠ .early)(hop:o.op=.call {callee:=.value (.func f),args:=ars,argTypes:=ats})
  (hf:P.funcs[f]?=some fn)(hname:(fn.name== "runtime.NumGoroutine")=false)(hb:fn.body=some c)(hargs:ars.map a₀.eval=args){lH:Nat->Option Nat}(hV:∀(x:Wk) (st:St eH),At s i x st->x.keep=K->Inv q st->EA q SF i lH st)
  (ha:AR (fun f=>SF f=true) (wZ lH) args args)(hv:VR (fun f=>SF f=true) (wZ lH) v v)(hC:∀(x:Wk) (st:St eH) τ d,At s i x st->x.keep=K->Inv q st->Calls P f args (World.on (iF st.w lH) τ d) fun e w'=>e=.returned v)(bj0:jk 4 v=true:=by first|rfl|simp[jk]):Does (cfg q) i Ch b ops kk cc S j o (ax a₀.eval o) v:=by
 refine Does.call (s:=s) hP ho hk hop hf hname hb hargs (fun l st hs=>?_) fun l a rest st hl hs fin=>?_
 ·obtain⟨_,x,hx,_,hA⟩:=G.at_ l st hs;exact⟨⟨x,kK hx,hA⟩,fun dV hr hi=>G.stay _ _ _ hs hr hi⟩
 ·obtain⟨hI,x,hx,hK,hA⟩:=G.at_ l st hs;refine TT.call hP F hS hA hx hI (hV x st hA hK hI) ha hv (fun τ d=>hC x st τ d hA hK hI) (hs:=bj0) fun st' hr hi _=>?_;have e:(b.at a (.inRegion ops (j::rest)::kk)).finish v=b.at (a.put o.dst v) (.inRegion ops rest::kk):=by rw[Frame.finish_at,ho];rfl
  rw[e];exact fin st' (G.stay _ _ _ (G.set l st hl hs) hr hi)
theorem K4{P:au}(hP:q.P=P)(hS:∀l st,S l st->(∃x:Wk,(x.wg≠ .lv/\x.wg≠ .gone/\x.wg≠ .idle)/\At s i x st)/\∀dV,Rl i st dV->Inv q dV->S l dV){j:Nat}{l:Array Bool}{a:Act}{o:Oper}{rest:List Nat}{st:St eH}
  (bj2:∀st,S l st->S (l.setIfInBounds j true) st)(ho:ops[j]?=some o)(hw:bg o (yielded ops a.tmps)=false)(hs:S l st)(h:∀st',S (l.setIfInBounds j true) st'->TT (cfg q) i Ch (Go.Conc.G (b.at (a.put o.dst av) (.inRegion ops rest::kk)) cc) st'):TT (cfg q) i Ch (Go.Conc.G (b.at a (.inRegion ops (j::rest)::kk)) cc) st:=by
 subst hP;obtain⟨⟨x,hx,hA⟩,XG⟩:=hS l st hs;refine TT.step fun dV hr hi=>⟨fun hl=>absurd hl ((hA.rely hx hr hi).nM ⟨hx.1,hx.2.1⟩),?_⟩;have hstep:stepG (cfg q).P (i==0) (Go.Conc.G (b.at a (.inRegion ops (j::rest)::kk)) cc) dV.w=.go (Go.Conc.G (b.at (a.put o.dst av) (.inRegion ops rest::kk)) cc) dV.w #[]:=stepG_unwanted ho hw;unfold je;rw[hstep];have e:(⟨dV.w,dV.t++MemOp.ofEvents i (Go.Conc.G (b.at a (.inRegion ops (j::rest)::kk)) cc).frame.fn (Go.Conc.G (b.at a (.inRegion ops (j::rest)::kk)) cc).frame.place #[],dV.γ⟩:St eH)=dV:=by rw[ofEvents_none,Array.append_empty]
 refine .inr ⟨dV.γ,by rw[e];exact hi,by rw[e],fun j hj=>by rw[e];exact Rl.refl j dV,.inr fun k _ hw=>by rw[e];exact hw,?_⟩;rw[e];exact .inl ⟨rfl,h dV (bj2 dV (XG dV hr hi))⟩
end
end
section
open Go.ConcM (OsLater)
theorem qV{P:au}:∀{n d:Nat} {g:ah},QuitsD P n d g->∀k,QuitsD P (n+k) d g
 |0,d,g,h,0=>h
 |0,d,g,h,k+1=>by rw[cZ];exact .inl h
 |n+1,d,g,h,k=>by
  rw[Nat.add_right_comm];exact h.imp id fun⟨a,g',es,b,c,e⟩=>⟨a,g',es,b,c,qV e k⟩
theorem X6(p:WG->Bool)(γ:eH)(s:eJ):gi p γ s<=s.n:=by
 unfold gi;exact aY (List.countP_le_length) (by simp)
section
variable{q:iU}{i:Nat}{s:eJ}{x:Wk}
theorem Uq(off:Nat)(h:off<2):∀e∈(#[⟨.cell ⟨s.Wg,off,none⟩,false,true⟩,⟨.cell ⟨s.Wg,off,none⟩,true,true⟩]:Array Event),∃o y,e=⟨ca s.Wg o,y,true⟩/\o<2:=by
 intro e he;simp at he;rcases he with rfl|rfl
 ·exact⟨off,false,rfl,h⟩
 ·exact⟨off,true,rfl,h⟩
theorem aY2(off:Nat)(h:off<2):∀e∈(#[⟨.cell ⟨s.Wg,off,none⟩,false,true⟩]:Array Event),∃o y,e=⟨ca s.Wg o,y,true⟩/\o<2:=by
 intro e he;simp at he;subst he;exact⟨off,false,rfl,h⟩
theorem aY1(off:Nat)(h:off<2):∀e∈(#[⟨.cell ⟨s.Wg,off,none⟩,true,true⟩]:Array Event),∃o y,e=⟨ca s.Wg o,y,true⟩/\o<2:=by
 intro e he;simp at he;subst he;exact⟨off,true,rfl,h⟩
theorem ab8{mw:MW}{c d2 d3 d4 st sm:Nat}(h:xt mw c d2 d3 d4 st sm)(h2:1<=d2):mw=.rg/\c=0/\st=1/\sm=0/\d2+d3=1/\d4=0:=by
 cases mw<;>simp only[xt]at h
 all_goals(first|(exfalso;omega)|skip)
 rcases h with h|h|h|h
 ·exfalso;omega
 ·exact⟨rfl,h⟩
 ·exfalso;omega
 ·exfalso;omega
theorem ab7{mw:MW}{c d2 d3 d4 st sm:Nat}(h:xt mw c d2 d3 d4 st sm)(h2:1<=d3):mw=.rg/\c=0/\st=1/\sm=0/\d2+d3=1/\d4=0:=by
 cases mw<;>simp only[xt]at h
 all_goals(first|(exfalso;omega)|skip)
 rcases h with h|h|h|h
 ·exfalso;omega
 ·exact⟨rfl,h⟩
 ·exfalso;omega
 ·exfalso;omega
theorem ab6{mw:MW}{c d2 d3 d4 st sm:Nat}(h:xt mw c d2 d3 d4 st sm)(h2:1<=d4):mw=.rg/\c=0/\st=0/\sm=0/\d2+d3=0/\d4=1:=by
 cases mw<;>simp only[xt]at h
 all_goals(first|(exfalso;omega)|skip)
 rcases h with h|h|h|h
 ·exfalso;omega
 ·exfalso;omega
 ·exact⟨rfl,h.1,h.2.1,h.2.2.1,by omega,h.2.2.2.2.2⟩
 ·exfalso;omega
theorem FT{st:St eH}(c:gL q s st)(off:Nat)(v:af):(st.w.setCell ⟨s.Wg,off,none⟩ v).heap.size=st.w.heap.size/\(∀b,b≠s.Wg->(st.w.setCell ⟨s.Wg,off,none⟩ v).heap[b]?=st.w.heap[b]?)/\OsLater st.w.os (st.w.setCell ⟨s.Wg,off,none⟩ v).os/\(st.w.setCell ⟨s.Wg,off,none⟩ v).output=st.w.output:=by
 have A:=aside_setCell st.w ⟨s.Wg,off,none⟩ v;exact⟨A.size,fun b hb=>A.block b hb,by rw[A.os];exact .refl _,A.output⟩
end
section
variable{q:iU}(hP:q.P=dS){i:Nat}{s:eJ}{x:Wk}{Ch:Nat->ah->St eH->Prop}
noncomputable def Kf:Code:=Try.f63.body.getD .skip
include hP
theorem au8{c:ai}{ZY:List ai}(hc:c.mode=.returning){qt:Nat}(hq:QuitsD dS qt 0 (G c ZY))(hx:x.wg=.work)(mz:x.df=0)(hz:x.zw=true)(hr:x.rw=true)(hm:x.mx=.fresh\/x.mx=.out){st:St eH}(hA:At s i x st):
  TT (cfg q) i Ch (G ((baseD 63).at ⟨#[.pointer (some ⟨s.Wg,0,none⟩),av,av,av],[]⟩ [.code Kf]) (c::ZY)) st:=by
 simp only[Kf,Try.f63,aJ];refine TT.qU hP hA (by simp[hx]) 80 fun w₀ hF=>?_;repeat w_go eU
 u_call Try.func61 aj5 Try.f61 eU hF
 repeat w_go eU
 m_convG dS Try.underlying174 Rx ab0 hF.choose_spec eU hF
 refine stp rfl ?_;clear hF w₀;refine TT.rel hP hA hx mz hz hr hm fun dV dY eQ eo=>⟨_,stepG_markAt .releaseMerge (by simp) rfl rfl (by k_ne) rfl Try.func90 Y7 Z4 YD ZT (by simp[aU];rfl),rfl,fun dZ eu eN=>?_⟩;clear eo eQ dY;refine TT.qU hP eu (by simp) 80 fun w₀ hF=>?_;walk_nrm;repeat w_go eU
 refine stp rfl ?_;clear hF w₀;refine TT.O6 hP eu (by simp) fun fw eK fu eV=>⟨_,_,_,.deaf,fw.γ.gs,fw.γ.gm,stepG_mark0 .disable (by simp) rfl rfl (by k_ne) rfl Try.func91 qZ rE qQ f_disable,rfl,by simp[WG.cr],O7 (by simp[Event.mute]),⟨rfl,fun _ _=>rfl,.refl _,rfl⟩,eV.qO,?_,.inr rfl,fun fI eF fO _=>?_⟩
 ·intro c d2 d3 d4 h1 h2 h3 h4;simp[WG.cd]at h1 h2 h3 h4;rw[h1,h2,h3,h4];exact eV.sK
 clear eV fu eK;refine TT.qU hP eF (by simp) 80 fun w₀ hF=>?_;walk_nrm;repeat w_go eU
 u_defer eU hF
 repeat w_go eU
 u_in eU hF
 rw[stepG_entry_pure (.bool false) rfl rfl (by k_ne) rfl Try.func93 Y9 Z5 YE ZU];simp only[goes_go];refine⟨by u_nil,?_⟩;walk_nrm;repeat w_go eU
 u_call Try.func97 SP Try.f97 eU hF
 repeat w_go eU
 refine stp rfl ?_;clear hF w₀;refine TT.O6 hP eF (by simp) fun eT fe gg fx=>?_;have hL:=fx.sK;have hn:=fx.n0.2.2.2;have hc1:1<=gi WG.cd eT.γ s:=uW fe.lo (fe.hi gg) (by rw[fe.me];rfl);have TI:gi WG.cd eT.γ s<=9:=aY (X6 _ _ _) hn;by_cases hlast:eT.γ.mw=.rg/\gi WG.cd eT.γ s=1
 ·
  obtain⟨KO,Hq⟩:eT.γ.gs=4294967297/\eT.γ.gm=0:=by
   rw[hlast.1]at hL;simp only[xt]at hL;omega
  have hw:=fx.qO;rw[KO,Hq]at hw;have e1:IntKind.u64.wrap ((4294967297:Nat)+18446744069414584320:Int)=((1:Nat):Int):=by decide
  refine⟨_,_,_,.d2,1,0,(stepG_add_atomic rfl rfl (by k_ne) rfl Try.func123 Gu G6 FO .u64 GU rfl rfl hw.cellSt (hw.thaw 0)).trans (by rw[e1];rfl),rfl,by simp[WG.cr],rI (by show 0<deafBehind x.df #[⟨.mark .disable,false,true⟩];rw[mz];decide) (Uq 0 (by omega)),FT fx 0 _,hw.setSt 1,?_,.inr Hq.symm,fun gU eZ gD Tz=>?_⟩
  ·intro c d2 d3 d4 h1 h2 h3 h4;have hL:=hL;rw[hlast.1]at hL ⊢;simp only[xt]at hL ⊢;simp[WG.cd]at h1 h2 h3 h4;have hl:=hlast.2;obtain⟨k2,k3,k4⟩:gi (·== .d2) eT.γ s=0/\gi (·== .d3) eT.γ s=0/\gi (·== .d4) eT.γ s=0:=by
    rcases hL with h|h|h|h
    ·exact⟨h.2.2.2.1,h.2.2.2.2.1,h.2.2.2.2.2⟩
    all_goals(have:=h.1;omega)
   exact .inr (.inl ⟨by omega,trivial,trivial,by omega,by omega⟩)
  clear hw e1 KO Hq hL hc1 TI hlast fx gg fe Tz hn;have b1:bits .and .u64 1 2147483648=0:=by decide
  have b2:bits .and .u64 1 2147483647=1:=by decide
  have b3:bI .u32 1=1:=by decide
  have b4:bI .i32 0=0:=by decide
  refine TT.qU hP eZ (by simp) 160 fun w₀ hF=>?_;simp only[Int.natCast_one];walk_nrm;repeat w_go eU
  u_leave1 Try.func97 eU hF
  repeat w_go eU
  u_call Try.func99 Gs Try.f99 eU hF
  repeat w_go eU
  refine stp rfl ?_;clear hF w₀;have hd6:0<deafBehind (deafBehind x.df #[⟨.mark .disable,false,true⟩]) #[⟨.cell (stA s.Wg),false,true⟩,⟨.cell (stA s.Wg),true,true⟩]:=by rw[mz];exact Nat.lt_of_lt_of_eq (by omega:0<1) rfl
  refine TT.O6 hP eZ (by simp) fun gT iT mY km=>?_;obtain⟨k1,k2,k3,k4,k5,k6⟩:=ab8 km.sK (uW iT.lo (iT.hi mY) (by rw[iT.me];rfl));have hw:=km.qO;rw[k3,k4]at hw;refine⟨_,_,_,.d3,1,0,stepG_load_atomic rfl rfl (by k_ne) rfl Try.func124 Gt G5 FN .u64 GR rfl hw.cellSt,rfl,by simp[WG.cr],rI hd6 (aY2 0 (by omega)),⟨rfl,fun _ _=>rfl,.refl _,rfl⟩,hw,?_,.inr k4.symm,fun xH lL zV aQ9=>?_⟩
  ·intro c d2 d3 d4 h1 h2 h3 h4;rw[k1];simp only[xt];simp[WG.cd]at h1 h2 h3 h4;exact .inr (.inl ⟨by omega,trivial,trivial,by omega,by omega⟩)
  clear hw k1 k2 k3 k4 k5 k6 km mY iT aQ9;refine TT.qU hP lL (by simp) 160 fun w₀ hF=>?_;simp only[Int.natCast_one];walk_nrm;repeat w_go eU
  u_leave1 Try.func99 eU hF
  repeat w_go eU
  u_call Try.func100 SN Try.f100 eU hF
  repeat w_go eU
  refine stp rfl ?_;clear hF w₀;refine TT.O6 hP lL (by simp) fun RG tK Oi Oj=>?_;obtain⟨k1,k2,k3,k4,k5,k6⟩:=ab7 Oj.sK (uW tK.lo (tK.hi Oi) (by rw[tK.me];rfl));have hw:=Oj.qO;rw[k3,k4]at hw;refine⟨_,_,_,.d4,0,0,stepG_store_atomic rfl rfl (by k_ne) rfl Try.func125 aj7 av6 ab3 as7 rfl rfl hw.cellSt (hw.thaw 0),rfl,by simp[WG.cr],rI hd6 (aY1 0 (by omega)),FT Oj 0 _,hw.setSt 0,?_,.inr k4.symm,fun stV Hr hIA hgA=>?_⟩
  ·intro c d2 d3 d4 h1 h2 h3 h4;rw[k1];simp only[xt];simp[WG.cd]at h1 h2 h3 h4;exact .inr (.inr (.inl ⟨by omega,trivial,trivial,by omega,by omega,by omega⟩))
  clear hw k1 k2 k3 k4 k5 k6 Oj Oi tK hgA;refine TT.qU hP Hr (by simp) 160 fun w₀ hF=>?_;walk_nrm;repeat w_go eU
  u_leave0 Try.func100 eU hF
  repeat w_go eU
  refine stp rfl ?_;clear hF w₀;refine TT.O6 hP Hr (by simp) fun MG Es LW Ol=>?_;obtain⟨k1,k2,k3,k4,k5,k6⟩:=ab6 Ol.sK (uW Es.lo (Es.hi LW) (by rw[Es.me];rfl));have hw:=Ol.qO;rw[k3,k4]at hw;have e1:IntKind.u32.wrap ((0:Nat)+1:Int)=((1:Nat):Int):=by decide
  refine⟨_,_,_,.lv,0,1,(stepG_semrelease rfl rfl (by k_ne) rfl Try.func102 WC OL VO XS (by simp[aU];rfl) hw.cellSm (hw.thaw 1)).trans (by rw[e1];rfl),rfl,by simp[WG.cr],Ru,FT Ol 1 _,hw.setSm 1,?_,.inl (mayWake_entry rfl rfl Try.func102 OL),fun Vm KP ZF hgC=>?_⟩
  ·intro c d2 d3 d4 h1 h2 h3 h4;rw[k1];simp only[xt];simp[WG.cd]at h1 h2 h3 h4;exact .inr (.inr (.inr ⟨by omega,trivial,trivial,by omega,by omega,by omega⟩))
  clear hw k1 k2 k3 k4 k5 k6 e1 Ol LW Es hgC;have quit:∀g:ah,g.status=.running->(∃n,QuitsD dS n 1 g)->TT (cfg q) i Ch g Vm:=fun g hg ⟨n,hn⟩=>TT.quits hP n g Vm KP.ne KP.lt (congrArg Wk.wg KP.me) hg (by
   rw[KP.me];have e:deafBehind (deafBehind (deafBehind (deafBehind (deafBehind x.df #[⟨.mark .disable,false,true⟩]) #[⟨.cell (stA s.Wg),false,true⟩,⟨.cell (stA s.Wg),true,true⟩]) #[⟨.cell (stA s.Wg),false,true⟩]) #[⟨.cell (stA s.Wg),true,true⟩]) (semEvents (smA s.Wg))=1:=by rw[mz];rfl
   exact(congrArg (fun d=>QuitsD dS n d g) e).mpr hn)
  refine quit _ rfl ?_;clear quit;refine⟨qt+300,?_⟩;walk_nrm;repeat q_go
  refine QuitsD.unwind_mark .enable rfl (by simp) rfl Try.func92 jq jy jm f_enable ?_;simp only[deafBehind_enable1];q_leave0 Try.func61
  repeat q_go
  exact QuitsD.leaveD rfl rfl Try.func63 rfl hc (qV hq _)
 ·obtain⟨v,wt,KO,hwt,hv,h0,Hq⟩:∃v wt:Nat,eT.γ.gs=(v+1)*4294967296+wt/\wt<=1/\v<=10/\(v=0->wt=0)/\eT.γ.gm=0:=by
   have key:∀(mw:MW) (c d2 d3 d4 gs gm:Nat),xt mw c d2 d3 d4 gs gm->1<=c->c<=9->¬(mw=.rg/\c=1)->∃v wt:Nat,gs=(v+1)*4294967296+wt/\wt<=1/\v<=10/\(v=0->wt=0)/\gm=0:=by
    intro mw c d2 d3 d4 gs gm h h1 h9 hne;cases mw<;>simp only[xt]at h
    ·exact⟨c-1,0,by omega,by omega,by omega,by omega,by omega⟩
    ·exact⟨c,0,by omega,by omega,by omega,by omega,by omega⟩
    ·exact⟨c-1,0,by omega,by omega,by omega,by omega,by omega⟩
    ·have:c≠1:=fun e=>hne ⟨rfl,e⟩
     rcases h with h|h|h|h
     ·exact⟨c-1,1,by omega,by omega,by omega,by omega,by omega⟩
     all_goals(have:=h.1;omega)
    ·omega
   exact key _ _ _ _ _ _ _ hL hc1 TI hlast
  have hw:=fx.qO;rw[KO,Hq]at hw;have e1:IntKind.u64.wrap ((((v+1)*4294967296+wt:Nat):Int)+18446744069414584320)=((v*4294967296+wt:Nat):Int):=by rw[IntKind.wrap_u64];omega
  refine⟨_,_,_,.lv,v*4294967296+wt,0,(stepG_add_atomic rfl rfl (by k_ne) rfl Try.func123 Gu G6 FO .u64 GU rfl rfl hw.cellSt (hw.thaw 0)).trans (by rw[e1];rfl),rfl,by simp[WG.cr],rI (by show 0<deafBehind x.df #[⟨.mark .disable,false,true⟩];rw[mz];decide) (Uq 0 (by omega)),FT fx 0 _,hw.setSt _,?_,.inr Hq.symm,fun gU eZ gD Tz=>?_⟩
  ·intro c d2 d3 d4 h1 h2 h3 h4;simp[WG.cd]at h1 h2 h3 h4;have key:∀(mw:MW) (C D2 D3 D4 gs gm c d2 d3 d4:Nat),xt mw C D2 D3 D4 gs gm->1<=C->C<=9->¬(mw=.rg/\C=1)->gs=(v+1)*4294967296+wt->gm=0->c+1=C->d2=D2->d3=D3->d4=D4->xt mw c d2 d3 d4 (v*4294967296+wt) 0:=by
    intro mw C D2 D3 D4 gs gm c d2 d3 d4 h a1 a9 hne e1 e2 e3 e4 e5 e6;subst e4 e5 e6;cases mw<;>simp only[xt]at h ⊢
    ·exact⟨by omega,trivial,h.2.2.1,h.2.2.2.1,h.2.2.2.2⟩
    ·exact⟨by omega,trivial,h.2.2.1,h.2.2.2.1,h.2.2.2.2⟩
    ·exact⟨by omega,trivial,h.2.2.1,h.2.2.2.1,h.2.2.2.2⟩
    ·have:C≠1:=fun e=>hne ⟨rfl,e⟩
     rcases h with h|h|h|h
     ·exact .inl ⟨by omega,by omega,trivial,h.2.2.2⟩
     all_goals(have:=h.1;omega)
    ·omega
   exact key _ _ _ _ _ _ _ _ _ _ _ hL hc1 TI hlast KO Hq h1 h2 h3 h4
  have quit:∀g:ah,g.status=.running->(∃n,QuitsD dS n 1 g)->TT (cfg q) i Ch g gU:=fun g hg ⟨n,hn⟩=>TT.quits hP n g gU eZ.ne eZ.lt (congrArg Wk.wg eZ.me) hg (by
   rw[eZ.me];have e:deafBehind (deafBehind x.df #[⟨.mark .disable,false,true⟩]) #[⟨.cell (stA s.Wg),false,true⟩,⟨.cell (stA s.Wg),true,true⟩]=1:=by rw[mz];rfl
   exact(congrArg (fun d=>QuitsD dS n d g) e).mpr hn)
  refine quit _ rfl ?_;clear quit eZ gD Tz hw e1 KO Hq hL hc1 TI hlast fx gg fe;rcases Nat.eq_zero_or_pos v with rfl|hvp
  ·obtain rfl:=h0 rfl;clear h0 hwt hv;simp only[Nat.zero_mul,cZ,Nat.add_zero,Int.natCast_zero];have b1:bits .and .u64 0 2147483648=0:=by decide
   have b2:bits .and .u64 0 2147483647=0:=by decide
   have b3:bI .u32 0=0:=by decide
   have b4:bI .i32 0=0:=by decide
   refine⟨qt+300,?_⟩;walk_nrm;repeat q_go
   q_leave1 Try.func97
   repeat q_go
   refine QuitsD.unwind_mark .enable rfl (by simp) rfl Try.func92 jq jy jm f_enable ?_;simp only[deafBehind_enable1];q_leave0 Try.func61
   repeat q_go
   exact QuitsD.leaveD rfl rfl Try.func63 rfl hc (qV hq _)
  ·have Zz:((v*4294967296+wt:Nat):Int)=(v:Int)*4294967296+(wt:Int):=by omega
   rw[Zz];have b1:bits .and .u64 ((v:Int)*4294967296+(wt:Int)) 2147483648=0:=st_flag v wt (by omega) hwt;have b2:bits .and .u64 ((v:Int)*4294967296+(wt:Int)) 2147483647=(wt:Int):=st_waiters v wt (by omega) hwt;have a1:((v:Int)*4294967296+(wt:Int))/4294967296=(v:Int):=by omega
   have a2:0<=(v:Int)*4294967296+(wt:Int)/\(v:Int)*4294967296+(wt:Int)<9223372036854775808:=by omega
   generalize(v:Int)*4294967296+(wt:Int)=S at*;have v1:bI .i32 (v:Int)=(v:Int):=by rw[dJ];omega
   have v2:(0:Int)<(v:Int):=by omega
   have v3:¬(v:Int)<0:=by omega
   have v4:(decide ((0:Int)<(v:Int)))=true:=decide_eq_true v2;have v5:(decide ((v:Int)<0))=false:=decide_eq_false v3;clear Zz h0;obtain rfl|rfl:wt=0\/wt=1:=by omega
   ·simp only[Int.natCast_zero]at b2 ⊢;have b3:bI .u32 0=0:=by decide
    refine⟨qt+300,?_⟩;walk_nrm;repeat q_go
    q_leave1 Try.func97
    repeat q_go
    refine QuitsD.unwind_mark .enable rfl (by simp) rfl Try.func92 jq jy jm f_enable ?_;simp only[deafBehind_enable1];q_leave0 Try.func61
    repeat q_go
    exact QuitsD.leaveD rfl rfl Try.func63 rfl hc (qV hq _)
   ·simp only[Int.natCast_one]at b2 ⊢;have b3:bI .u32 1=1:=by decide
    refine⟨qt+300,?_⟩;walk_nrm;repeat q_go
    q_leave1 Try.func97
    repeat q_go
    refine QuitsD.unwind_mark .enable rfl (by simp) rfl Try.func92 jq jy jm f_enable ?_;simp only[deafBehind_enable1];q_leave0 Try.func61
    repeat q_go
    exact QuitsD.leaveD rfl rfl Try.func63 rfl hc (qV hq _)
end
end
section
open Pl ni oa ng Mem nO Au
open nU hiding base
def bot(P:au):ai:={(default:ai)with fn:=P.funcs.size,defers:=[],mode:=.panicking [goexitEntry]}
theorem K1{P:au}{b:ai}{a:Act}{todo:List Item}{fn:Func}(hn:b.kind=.deferred)(hd:a.defers=[])(hf:P.funcs[b.fn]?=some fn)(hr:fn.results=#[])(w:ae):stepG P false (G {b.at a todo with mode:=.returning} [bot P]) w=.go (G (bot P) []) w #[]:=by
 have h1:=results_none hr a.tmps P w;have h2:=events_results_none (P:=P) (w:=w) hr a.tmps #[];simp[G,stepG,unwind,doReturn,Frame.at,hn,hd,hf,h1,h2,seen,GStep.after,bot,goexitEntry]
theorem Pf(P:au)(w:ae):stepG P false (G (bot P) []) w=.go {G (bot P) []with status:=.finished} w #[]:=by
 have h:(bot P).catches P=false:=by
  have e:P.funcs[P.funcs.size]?=none:=by simp
  unfold Frame.catches bot;simp only[e];rfl
 simp[G,stepG,unwind,bot,goexitEntry]at h ⊢;simp[h]
theorem Lf{P:au}{b:ai}{a:Act}{todo:List Item}{fn:Func}(hn:b.kind=.deferred)(hd:a.defers=[])(hf:P.funcs[b.fn]?=some fn)(hr:fn.results=#[]):QuitsD P 2 0 (G {b.at a todo with mode:=.returning} [bot P]):=
 .inr ⟨rfl,_,#[],by simp,fun w=>K1 hn hd hf hr w,.inr ⟨rfl,_,#[],by simp,fun w=>Pf P w,rfl,rfl⟩⟩
theorem aj9:(Try.f41.name== "runtime.NumGoroutine")=false:=by kernel_rfl
theorem WM:(Try.f42.name== "runtime.NumGoroutine")=false:=by kernel_rfl
theorem ak0:(Try.f64.name== "runtime.NumGoroutine")=false:=by kernel_rfl
theorem aK9:(Try.f67.name== "runtime.NumGoroutine")=false:=by kernel_rfl
theorem SL:(Try.f70.name== "runtime.NumGoroutine")=false:=by kernel_rfl
theorem S8{w:ae}{ad:Addr}{v:af}(hc:w.cell? ad=some v):(aT 40 (.pointer (some ad))).run dS w=.ok v w/\(aT 40 (.pointer (some ad))).events dS w #[]=#[⟨.cell ad,false,false⟩]:=by
 constructor<;>simp[go_sem,hc]
theorem am0{w:ae}{ad:Addr}{v:af}(hc:w.cell? ad=some v):(aT 75 (.pointer (some ad))).run dS w=.ok v w/\(aT 75 (.pointer (some ad))).events dS w #[]=#[⟨.cell ad,false,false⟩]:=by
 constructor<;>simp[go_sem,hc]
theorem aM0{w:ae}{ad:Addr}{v:af}(hc:w.cell? ad=some v):(aT 76 (.pointer (some ad))).run dS w=.ok v w/\(aT 76 (.pointer (some ad))).events dS w #[]=#[⟨.cell ad,false,false⟩]:=by
 constructor<;>simp[go_sem,hc]
theorem Js{w:ae}{ad:Addr}{v:af}(hc:w.cell? ad=some v):(aT 107 (.pointer (some ad))).run dS w=.ok v w/\(aT 107 (.pointer (some ad))).events dS w #[]=#[⟨.cell ad,false,false⟩]:=by
 constructor<;>simp[go_sem,hc]
theorem LH{w:ae}{ad:Addr}{v:af}(hc:w.cell? ad=some v):(aT 100 (.pointer (some ad))).run dS w=.ok v w/\(aT 100 (.pointer (some ad))).events dS w #[]=#[⟨.cell ad,false,false⟩]:=by
 constructor<;>simp[go_sem,hc]
theorem am1{w:ae}{ad:Addr}{v:af}(hc:w.cell? ad=some v):(aT 97 (.pointer (some ad))).run dS w=.ok v w/\(aT 97 (.pointer (some ad))).events dS w #[]=#[⟨.cell ad,false,false⟩]:=by
 constructor<;>simp[go_sem,hc]
theorem yj{w:ae}{ad:Addr}{v:af}(hc:w.cell? ad=some v):(aT 3 (.pointer (some ad))).run dS w=.ok v w/\(aT 3 (.pointer (some ad))).events dS w #[]=#[⟨.cell ad,false,false⟩]:=by
 constructor<;>simp[go_sem,hc]
theorem aG3{w:ae}{ad:Addr}{u:af}{v:Int}(hc:w.cell? ad=some u)(hz:w.frozen? ad=false):(bJ 76 (.pointer (some ad)) (.int .u64 v)).run dS w=.ok () (w.setCell ad (.int .u64 v))/\(bJ 76 (.pointer (some ad)) (.int .u64 v)).events dS w #[]=#[⟨.cell ad,true,false⟩]:=by
 constructor<;>simp[go_sem,hc,hz]
theorem Sb6{w:ae}{ad:Addr}{u:af}{v:Bool}(hc:w.cell? ad=some u)(hz:w.frozen? ad=false):(bJ 4 (.pointer (some ad)) (.bool v)).run dS w=.ok () (w.setCell ad (.bool v))/\(bJ 4 (.pointer (some ad)) (.bool v)).events dS w #[]=#[⟨.cell ad,true,false⟩]:=by
 constructor
 ·simp[go_sem,hc,hz]
 ·simp[go_sem,hc,hz];rw[events_store _ _ _ _ _ _ rfl];simp[hc,hz]
theorem tN.room{b n:Nat}{t:aj}{f:Nat->Bool}{v:Nat->af}{w:ae}(h:tN b n t f v w){k:Nat}(hk:k<n):(∃u,w.cell? ⟨b,k,none⟩=some u)/\w.frozen? ⟨b,k,none⟩=false:=by
 obtain⟨Z,z1,z2,_⟩:=h;exact⟨⟨Z[k]'(by omega),by simp only[bN,z1];exact aI (by omega)⟩,by simp[World.frozen?,z1]⟩
section
variable{q:iU}{i:Nat}{s:eJ}{x:Wk}{Ch:Nat->ah->St eH->Prop}{K:List (Nat×Obj)}{k:Nat}{nv cv:Int}{Pb gc lb:Nat}{cs:List Int}{l:List Cm}{msg:ByteArray}{bn bz bk bp bx bc br:Nat}
noncomputable def Av:Code:=Try.f62.body.getD .skip
def jP(q:iU)(i:Nat)(s:eJ)(x:Wk)(Al:Array Bool)(st:St eH):Prop:=
 Inv q st/\∃x',At s i x' st/\x'.keep=x.keep/\x'.wg=.work/\x'.df=0/\x'.zw=true/\(Al.getD 14 true=false->x'={x with rw:=x'.rw})/\(Al.getD 25 true=true->x'.rw=true)/\(x'.mx=.fresh\/x'.mx=.out)
theorem jP.stay{Al:Array Bool}{st dV:St eH}(h:jP q i s x Al st)(hr:Rl i st dV)(hi:Inv q dV):jP q i s x Al dV:=by
 obtain⟨_,x',hA,h1,h2,h3⟩:=h;exact⟨hi,x',hA.rely (kK h2) hr hi,h1,h2,h3⟩
theorem jP.set{Al:Array Bool}{st:St eH}{j:Nat}(h:jP q i s x Al st)(h25:j≠25):jP q i s x (Al.setIfInBounds j true) st:=by
 obtain⟨hi,x',hA,h1,h2,h3,h4,h5,h6,h7⟩:=h;refine⟨hi,x',hA,h1,h2,h3,h4,fun h=>h5 ?_,?_,h7⟩
 ·by_cases e:j=14
  ·subst e;by_cases hl:14<Al.size
   ·simp[Array.getD,hl]at h
   ·simp[Array.getD,hl]at h
  ·rw[getD_set_ne true e]at h;exact h
 ·rw[getD_set_ne true h25];exact h6
theorem jP.ground(hK:x.keep=K){j:Nat}(h25:j≠25):Ground q s i K (jP q i s x) j where
 at_:=fun l st h=>by
  obtain⟨hi,x',hA,h1,h2,_⟩:=h;exact⟨hi,x',h2,h1.trans hK,hA⟩
 stay:=fun l st dV h hr hi=>h.stay hr hi
 set:=fun l st _ h=>h.set h25
theorem D5{Al:Array Bool}{j:Nat}(h:Al.getD j true=false):j<Al.size:=by
 refine Nat.lt_of_not_le fun hge=>?_;simp[Array.getD,Nat.not_lt.2 hge]at h
theorem Ev{Al:Array Bool}{j:Nat}(h:j<Al.size):(Al.setIfInBounds j true).getD j true=true:=by simp[Array.getD,h]
theorem zH{P:au}{main:Bool}{b:ai}{a:Act}{kk:List Item}{cs:List ai}{w:ae}{ops:Array Oper}{i:Nat}{rest:List Nat}{o:Oper}{X:Sem Next}{ad:Addr}{v:af}(ho:ops[i]?=some o)(hw:bg o (yielded ops a.tmps)=true)(hk:b.kind≠ .early)(he:ax a.eval o=X)(hr:X.run P w=.ok .skip (w.setCell ad v))(hev:X.events P w #[]=#[⟨.cell ad,true,false⟩])(hn:(P.funcs[b.fn]?).any (·.norace)=false):
  stepG P main (G (b.at a (.inRegion ops (i::rest)::kk)) cs) w=.go (G (b.at (a.put o.dst av) (.inRegion ops rest::kk)) cs) (w.setCell ad v) #[⟨.cell ad,true,false⟩]:=by
 rw[stepG_none ho hw hk (by rw[he];exact hr)];unfold listed;rw[he,hev,seen_def,hn];simp[seenStep]
theorem Ck(x d e:Int)(w:ae):(Instr.field 52 (.agg #[.int .i64 x,.int .u64 d,.int .u64 e]) 0).run dS w=.ok (.int .i64 x) w:=by kernel_rfl
theorem J6(x d e:Int)(w:ae)(es:Array Event):(Instr.field 52 (.agg #[.int .i64 x,.int .u64 d,.int .u64 e]) 0).events dS w es=es:=by kernel_rfl
theorem UW{S:ak->Prop}{ρ:Nat->Option Nat}{b:Nat}{k1:IntKind}{n1:Int}(h:ρ b=some b):AR S ρ #[.pointer (some ⟨b,0,none⟩),.int k1 n1] #[.pointer (some ⟨b,0,none⟩),.int k1 n1]:=BJ (l:=[.pointer (some ⟨b,0,none⟩),.int k1 n1]) (by intro v hv;simp at hv;rcases hv with rfl|rfl;exact .ptr _ _ h;exact .int _ _)
theorem aF9{S:ak->Prop}{ρ:Nat->Option Nat}{k1 k2 k3:IntKind}{n1 n2 n3:Int}:VR S ρ (.agg #[.int k1 n1,.int k2 n2,.int k3 n3]) (.agg #[.int k1 n1,.int k2 n2,.int k3 n3]):=.agg' (BJ (l:=[.int k1 n1,.int k2 n2,.int k3 n3]) (by intro v hv;simp at hv;rcases hv with rfl|rfl|rfl<;>exact .int _ _))
variable(hP:q.P=dS)
include hP
theorem Pp(D:Hb q s K k nv cv Pb gc lb cs l msg bn bz bk bp bx bc br)(hK:x.keep=K)(hx:x={mx:=.fresh,zw:=true,rw:=false,syn:=false,wg:=.work,df:=0,keep:=K}){id:Nat}(i1:1<=id)(i2:id<=s.nn){B:Int}(hB:s.vals id=B){b:ai}{ops:Array Oper}{kk:List Item}{cc:List ai}{dst:Option Tmp}
  (Al:Array Bool)(a:Act)(rest:List Nat)(st:St eH)(hl:Al.getD 14 true=false)(hs:jP q i s x Al st)(fin:∀st',jP q i s x (Al.setIfInBounds 14 true) st'->TT (cfg q) i Ch (G (b.at (a.put dst (.int .u64 B)) (.inRegion ops rest::kk)) cc) st')(ho:(ops[14]?).bind (·.dst)=dst):
  TT (cfg q) i Ch (G (Frame.enter dS 66 #[.pointer (some ⟨s.Gb,0,none⟩),.int .i64 id] .normal) (b.at a (.inRegion ops (14::rest)::kk)::cc)) st:=by
 obtain⟨hi,x',hA,h1,h2,h3,h4,h5,h6,h7⟩:=hs;have e:=h5 hl;rw[enter_at (P:=dS) _ Try.func66 rfl];have hW:zD q i Ch s x':=D.vals h2 (h1.trans hK) hP;have hA':At s i {x' with mx:=.fresh,df:=0} st:=by
  have:({x' with mx:=.fresh,df:=0}:Wk)=x':=by rw[e,hx]
  rw[this];exact hA
 refine VY hP h2 D.n9 hW i1 i2 (fun mx st' hm dY eQ=>?_) hA';rw[hB,ho];refine fin st' ⟨eQ,_,dY,h1,h2,rfl,h4,fun h=>?_,fun h=>?_,hm⟩
 ·rw[Ev (D5 hl)]at h;cases h
 ·rw[getD_set_ne true (by decide:(14:Nat)≠25)]at h;exact h6 h
theorem aF1(D:Hb q s K k nv cv Pb gc lb cs l msg bn bz bk bp bx bc br)(hi:i=s.n0+k)(hxx:x={mx:=.fresh,zw:=false,rw:=false,syn:=false,wg:=.work,df:=0,keep:=K}){st:St eH}(hA:At s i x st)(hI:Inv q st):
  TT (cfg q) i Ch (G ((baseD 62).at ⟨#[.pointer (some ⟨s.Wg,0,none⟩),.pointer (some ⟨bn,0,none⟩),.pointer (some ⟨bz,0,none⟩),.pointer (some ⟨bk,0,none⟩),.pointer (some ⟨bp,0,none⟩),.pointer (some ⟨bx,0,none⟩),.pointer (some ⟨bc,0,none⟩),.pointer (some ⟨br,0,none⟩),av,av,av,av,av,av,av,av,av,av,av,av,av,av,av,av,av,av,av,av,av,av,av,av,av,av,av,av,av,av,av,av,av,av,av,av],[]⟩ [.code Av]) [bot dS]) st:=by
 have hx:x.wg=.work:=by rw[hxx]
 have hK:x.keep=K:=by rw[hxx]
 simp only[Av,Try.f62,aJ];refine TT.qU hP hA (kK hx) 80 fun w₀ hF=>?_;repeat w_go eU
 u_defer eU hF
 repeat w_go eU
 refine stp rfl ?_;clear hF w₀;refine TT.load hP hA hx rfl rfl (by k_ne) rfl rfl (fun dV hr hi dY=>⟨(dY.box hK D.hn).1,S8 (dY.box hK D.hn).2⟩) fun dZ yr eN eu=>?_;refine TT.qU hP eu (kK hx) 80 fun w₀ hF=>?_;walk_nrm;repeat w_go eU
 u_in eU hF
 refine oF rfl rfl (by k_ne) rfl Try.func41 aj9 rfl (by simp[aU];rfl) ⟨by u_nil,?_⟩;refine stp rfl ?_;clear hF w₀;refine TT.call hP sL (by kernel_rfl) eu hx eN jW ar1 (.tuple rfl fun j v v' h1 h2=>?_) (fun τ d=>(Iq nv _).mono fun e w' h=>h.1) fun fw Fa fu eK=>?_
 ·rw[h1]at h2;cases h2;match j,h1 with
  |0,h1=>simp at h1;subst h1;exact .int _ _
  |1,h1=>simp at h1;subst h1;exact .bool _
  |j+2,h1=>simp at h1
 rw[Frame.finish_at];refine TT.qU hP eK (kK hx) 80 fun w₀ hF=>?_;walk_nrm;repeat w_go eU
 refine stp rfl ?_;clear hF w₀ Fa yr eN eu;obtain⟨b29,hz⟩:=D.hz;refine TT.load hP eK hx rfl rfl (by k_ne) rfl rfl (fun dV hr hi dY=>⟨(dY.box hK hz).1,am0 (dY.box hK hz).2⟩) fun fI Ti fO eF=>?_;walk_nrm;refine TT.load hP eF hx rfl rfl (by k_ne) rfl rfl (fun dV hr hi dY=>⟨(dY.box hK D.hk).1,LI (dY.box hK D.hk).2⟩) fun eT JE gg fe=>?_;have hks:k<s.n:=by rw[<-D.ln];exact D.kl
 have k1:(0:Int)<=(k:Int):=by omega
 have k2:(k:Int)<(s.n:Int):=by omega
 refine TT.qU hP fe (kK hx) 80 fun w₀ hF=>?_;walk_nrm;repeat w_go eU
 refine stp rfl ?_;clear hF w₀ Ti JE fO eF;refine TT.RU hP fe hx hi (by rw[D.zv];simp) fun gU Tg gD eZ ZH=>?_;obtain⟨⟨u,hu⟩,hf⟩:=ZH.zb.room hks;refine⟨_,by rw[D.zv];exact wM rfl rfl (by k_ne) rfl rfl rfl (aG3 hu hf) (by kernel_rfl),rfl,fun gT iT mY _ _=>?_⟩;clear hu hf ZH eZ gD Tg;refine TT.qU hP iT (kK hx) 80 fun w₀ hF=>?_;walk_nrm;repeat w_but "code.region" eU
 refine stp rfl ?_;clear hF w₀;obtain⟨y,hy⟩:∃y:Wk,y={x with zw:=true}:=⟨_,rfl⟩;have xd:y.keep=K:=by rw[hy];exact hK
 have lL:At s i y gT:=by rw[hy];exact iT
 have hy':y={mx:=.fresh,zw:=true,rw:=false,syn:=false,wg:=.work,df:=0,keep:=K}:=by rw[hy,hxx]
 have hxy:y.wg=.work:=by rw[hy']
 clear iT fe gg hA hI eK fu hz;obtain⟨aY8,hr⟩:=D.hr;refine TT.ask hP lL hxy fun dV dY eQ=>⟨_,stepG_region_draw,rfl,fun dZ eu eN hsh=>?_⟩;have ap0:Try.prog.follows .mixedOrders=true:=by kernel_rfl
 simp only[Region.schedule,ap0,Bool.true_or,if_true,Region.linearise];refine DC (S:=jP q i s y) (md:=.any) (F:=fun l a=>l.getD 25 true=true/\a.defers=[dcall 63 #[.pointer (some ⟨s.Wg,0,none⟩)]]) ?_ ?_ _ _ _ _ dZ ?_ ?_
 ·intro Al a st' ⟨hl,hd⟩ hs;obtain⟨hI',x',hA',h1,h2,h3,h4,_,h6,h7⟩:=hs;obtain⟨tm,df⟩:=a;simp only at hd;subst hd;refine TT.qU hP hA' (kK h2) 60 fun w₀ hF=>?_;repeat w_go eU
  u_in eU hF
  rw[stepG_unwind_enter rfl Try.func63 WH rfl];simp only[goes_go];refine⟨by u_nil,?_⟩;walk_nrmf Try.f63
  refine stp rfl ?_;exact au8 hP rfl (Lf rfl rfl Try.func62 rfl) h2 h3 h4 (h6 hl) h7 hA'
 ·intro j Al a o rest st' ho hl hw hs h;refine K4 (s:=s) hP (fun l st hs=>?_) (fun st hs=>hs.set ?_) ho hw hs h
  ·have hs2:=hs;obtain⟨_,x',hA',_,h2,_⟩:=hs2;exact⟨⟨x',kK h2,hA'⟩,fun dV hr hi=>hs.stay hr hi⟩
  ·rintro rfl;simp at ho;subst ho;simp[bg]at hw
 ·by_cases hok:nv<1073741789
  ·obtain⟨aQ4,Oa⟩:=rX (D.el 0 D.c0);have hkey:0<=cs.getD 0 0/\cs.getD 0 0<18446744073709551616:=⟨by omega,by omega⟩;obtain⟨⟨i1,i2⟩,-⟩:=D.gd k D.kl;obtain⟨id,hid⟩:=Int.eq_ofNat_of_zero_le (show 0<=(l.getD k .zero).id by omega);have ap4:1<=id:=by omega
   obtain⟨cd,hcd⟩:∃cd,(l.getD k .zero).d=cd:=⟨_,rfl⟩;obtain⟨ce,hce⟩:∃ce,(l.getD k .zero).e=ce:=⟨_,rfl⟩;have Q9:=Ck id cd ce;have hfe:=J6 id cd ce;have ap3:id<=s.nn:=by omega
   have Vz:=D.rv;unfold iB at Vz;rw[hid,decide_eq_true hok,Bool.true_and]at Vz;obtain⟨Z,hZ⟩:∃Z,Z=pw 4 nv.toNat 2147483579:=⟨_,rfl⟩;obtain⟨A,Hr⟩:∃A,A=l6 l (cs.getD 0 0) msg k:=⟨_,rfl⟩;obtain⟨B,hBB⟩:∃B,B=ER cs id:=⟨_,rfl⟩;obtain⟨W,hW⟩:∃W,W=iq (iO l l.length) k:=⟨_,rfl⟩;obtain⟨X,hX⟩:∃X,X=smul cv W:=⟨_,rfl⟩;obtain⟨E,hE⟩:∃E,E=pw B X.toNat 2147483579:=⟨_,rfl⟩;obtain⟨M,hM⟩:∃M,M=mI A E:=⟨_,rfl⟩;rw[<-hZ,<-Hr,<-hBB,<-hW,<-hX,<-hE,<-hM]at Vz;have hB:0<=B/\B<2147483579:=by rw[hBB];exact af7 _ _
   have hXb:0<=X/\X<1073741789:=by rw[hX];exact lZ _ _
   have hPb:wZ (nB Pb s.Gb gc lb cs.length (3*l.length)) Pb=some Pb:=ry (n:=3) (by simp[nB]);have hB':s.vals id=B:=by rw[hBB];exact D.vs id ap4 ap3
   simp only[hok,decide_true];clear i1 i2 aQ4 Oa hsh eQ dY;change Hp (cfg q) i Ch _ _ [] _ _ .any _ 26 #[false,false,false,false,false,false,false,false,false,false,false,false,false,false,false,false,false,false,false,false,false,false,false,false,false,false] _;refine eI (i':=0) (v:=.slice (some ⟨s.Rb,0,none⟩) s.n aY8) rfl (by kernel_rfl) (by kernel_rfl) (by kernel_rfl) (.inl ⟨rfl,Does.box hP (jP.ground xd (by decide)) rfl (by decide) rfl rfl hr fun w hc=>Js hc⟩) ?_;walk_nrm;refine eI (i':=1) (v:=.int .i64 k) rfl (by kernel_rfl) (by kernel_rfl) (by kernel_rfl) (.inl ⟨rfl,Does.box hP (jP.ground xd (by decide)) rfl (by decide) rfl rfl D.hk fun w hc=>yj hc⟩) ?_;walk_nrm;refine eI (i':=2) (v:=.bool true) rfl (by kernel_rfl) (by kernel_rfl) (by kernel_rfl) (.inl ⟨rfl,Does.calm hP (jP.ground xd (by decide)) rfl (by decide) (fun w=>by go_simp) (fun w=>by simp[go_sem,aU,Act.put, *])⟩) ?_;walk_nrm;refine eI (i':=3) (v:=.bool true) rfl (by kernel_rfl) (by kernel_rfl) (by kernel_rfl) (.inl ⟨rfl,Does.calm hP (jP.ground xd (by decide)) rfl (by decide) (fun w=>by go_simp) (fun w=>by simp[go_sem,aU,Act.put, *])⟩) ?_;walk_nrm;refine eI (i':=4) (v:=.int .u64 nv) rfl (by kernel_rfl) (by kernel_rfl) (by kernel_rfl) (.inl ⟨rfl,Does.calm hP (jP.ground xd (by decide)) rfl (by decide) (fun w=>by go_simp) (fun w=>by simp[go_sem,aU,Act.put, *])⟩) ?_;walk_nrm;refine eI (i':=5) (v:=.int .u64 Z) rfl (by kernel_rfl) (by kernel_rfl) (by kernel_rfl) (.inl ⟨rfl,Does.lone (args:=#[.int .u64 nv]) hP sL (jP.ground xd (by decide)) (by kernel_rfl) rfl (by decide) rfl Try.func42 WM rfl (by first|(simp[aU];done)|(simp[aU];rfl)) (fun _ _ _ _ _=>jW) ar1 (.int _ _) (fun _ _ _ _ _ _ _=>(FH nv _ D.nb.1 D.nb.2).mono fun e w' h=>by rw[hZ];exact h.1)⟩) ?_;walk_nrm;refine eI (i':=6) (v:=.pointer (some ⟨Pb,0,none⟩)) rfl (by kernel_rfl) (by kernel_rfl) (by kernel_rfl) (.inl ⟨rfl,Does.box hP (jP.ground xd (by decide)) rfl (by decide) rfl rfl D.hp fun w hc=>LH hc⟩) ?_;walk_nrm;refine eI (i':=7) (v:=.int .i64 k) rfl (by kernel_rfl) (by kernel_rfl) (by kernel_rfl) (.inl ⟨rfl,Does.box hP (jP.ground xd (by decide)) rfl (by decide) rfl rfl D.hk fun w hc=>yj hc⟩) ?_;walk_nrm;refine eI (i':=8) (v:=.int .u64 A) rfl (by kernel_rfl) (by kernel_rfl) (by kernel_rfl) (.inl ⟨rfl,Does.lone (args:=#[.pointer (some ⟨Pb,0,none⟩),.int .i64 k]) hP sL (jP.ground xd (by decide)) (by kernel_rfl) rfl (by decide) rfl Try.func64 ak0 rfl (by first|(simp[aU];done)|(simp[aU];rfl)) (fun x' st hA hk hI=>D.sees hA hk hI) (UW hPb) (.int _ _) (fun x' st τ d hA hk hI=>by obtain⟨lv,hpk⟩:=D.pkw hA hk hI τ d;exact(aH4 hpk D.gd (by have:=D.n9;omega) D.l9 D.c0 hkey D.ms D.kl).mono fun e w' h=>by rw[Hr];exact h.1)⟩) ?_;walk_nrm;refine eI (i':=9) (v:=.pointer (some ⟨s.Gb,0,none⟩)) rfl (by kernel_rfl) (by kernel_rfl) (by kernel_rfl) (.inl ⟨rfl,Does.box hP (jP.ground xd (by decide)) rfl (by decide) rfl rfl D.hx fun w hc=>am1 hc⟩) ?_;walk_nrm;refine eI (i':=10) (v:=.pointer (some ⟨Pb,0,none⟩)) rfl (by kernel_rfl) (by kernel_rfl) (by kernel_rfl) (.inl ⟨rfl,Does.box hP (jP.ground xd (by decide)) rfl (by decide) rfl rfl D.hp fun w hc=>LH hc⟩) ?_;walk_nrm;refine eI (i':=11) (v:=.int .i64 k) rfl (by kernel_rfl) (by kernel_rfl) (by kernel_rfl) (.inl ⟨rfl,Does.box hP (jP.ground xd (by decide)) rfl (by decide) rfl rfl D.hk fun w hc=>yj hc⟩) ?_;walk_nrm;refine eI (i':=12) (v:=.agg #[.int .i64 id,.int .u64 cd,.int .u64 ce]) rfl (by kernel_rfl) (by kernel_rfl) (by kernel_rfl) (.inl ⟨rfl,Does.lone (args:=#[.pointer (some ⟨Pb,0,none⟩),.int .i64 k]) hP sL (jP.ground xd (by decide)) (by kernel_rfl) rfl (by decide) rfl Try.func67 aK9 rfl (by first|(simp[aU];done)|(simp[aU];rfl)) (fun x' st hA hk hI=>D.sees hA hk hI) (UW hPb) aF9 (fun x' st τ d hA hk hI=>by obtain⟨lv,hpk⟩:=D.pkw hA hk hI τ d;exact(atW hpk D.kl).mono fun e w' h=>by rw[<-hid,<-hcd,<-hce];exact h.1)⟩) ?_;walk_nrm;refine eI (i':=13) (v:=.int .i64 id) rfl (by kernel_rfl) (by kernel_rfl) (by kernel_rfl) (.inl ⟨rfl,Does.calm hP (jP.ground xd (by decide)) rfl (by decide) (fun w=>by go_simp) (fun w=>by simp[go_sem,aU,Act.put, *])⟩) ?_;walk_nrm;refine eI (i':=14) (v:=.int .u64 B) rfl (by kernel_rfl) (by kernel_rfl) (by kernel_rfl) (.inl ⟨rfl,Does.call (s:=s) (args:=#[.pointer (some ⟨s.Gb,0,none⟩),.int .i64 id]) hP rfl (by decide) rfl Try.func66 WJ rfl (by first|(simp[aU];done)|(simp[aU];rfl)) (fun l st hs=>by have hs2:=hs;obtain⟨_,x',hA',_,h2,_⟩:=hs2;exact⟨⟨x',kK h2,hA'⟩,fun dV hr hi=>hs.stay hr hi⟩) (fun Al a rest st hl hs fin=>Pp hP D xd hy' ap4 ap3 hB' Al a rest st hl hs fin rfl)⟩) ?_;walk_nrm;refine eI (i':=15) (v:=.int .u64 cv) rfl (by kernel_rfl) (by kernel_rfl) (by kernel_rfl) (.inl ⟨rfl,Does.box hP (jP.ground xd (by decide)) rfl (by decide) rfl rfl D.hc fun w hc=>aM0 hc⟩) ?_;walk_nrm;refine eI (i':=16) (v:=.pointer (some ⟨Pb,0,none⟩)) rfl (by kernel_rfl) (by kernel_rfl) (by kernel_rfl) (.inl ⟨rfl,Does.box hP (jP.ground xd (by decide)) rfl (by decide) rfl rfl D.hp fun w hc=>LH hc⟩) ?_;walk_nrm;refine eI (i':=17) (v:=.int .i64 k) rfl (by kernel_rfl) (by kernel_rfl) (by kernel_rfl) (.inl ⟨rfl,Does.box hP (jP.ground xd (by decide)) rfl (by decide) rfl rfl D.hk fun w hc=>yj hc⟩) ?_;walk_nrm;refine eI (i':=18) (v:=.int .u64 W) rfl (by kernel_rfl) (by kernel_rfl) (by kernel_rfl) (.inl ⟨rfl,Does.lone (args:=#[.pointer (some ⟨Pb,0,none⟩),.int .i64 k]) hP sL (jP.ground xd (by decide)) (by kernel_rfl) rfl (by decide) rfl Try.func70 SL rfl (by first|(simp[aU];done)|(simp[aU];rfl)) (fun x' st hA hk hI=>D.sees hA hk hI) (UW hPb) (.int _ _) (fun x' st τ d hA hk hI=>by obtain⟨lv,hpk⟩:=D.pkw hA hk hI τ d;exact(Lj hpk D.l9 D.kl).mono fun e w' h=>by rw[hW];exact h.1)⟩) ?_;walk_nrm;refine eI (i':=19) (v:=.int .u64 X) rfl (by kernel_rfl) (by kernel_rfl) (by kernel_rfl) (.inl ⟨rfl,Does.lone (args:=#[.int .u64 cv,.int .u64 W]) hP sL (jP.ground xd (by decide)) (by kernel_rfl) rfl (by decide) rfl Try.func69 I0 rfl (by first|(simp[aU];done)|(simp[aU];rfl)) (fun _ _ _ _ _=>jW) ar2 (.int _ _) (fun _ _ _ _ _ _ _=>(nE _ _ _).mono fun e w' h=>by rw[hX];exact h.1)⟩) ?_;walk_nrm;refine eI (i':=20) (v:=.int .u64 E) rfl (by kernel_rfl) (by kernel_rfl) (by kernel_rfl) (.inl ⟨rfl,Does.lone (args:=#[.int .u64 B,.int .u64 X]) hP sL (jP.ground xd (by decide)) (by kernel_rfl) rfl (by decide) rfl Try.func68 Y8 rfl (by first|(simp[aU];done)|(simp[aU];rfl)) (fun _ _ _ _ _=>jW) ar2 (.int _ _) (fun _ _ _ _ _ _ _=>(yV B X _ hB.1 hB.2 hXb.1 (by omega)).mono fun e w' h=>by rw[hE];exact h.1)⟩) ?_;walk_nrm;refine eI (i':=21) (v:=.int .u64 M) rfl (by kernel_rfl) (by kernel_rfl) (by kernel_rfl) (.inl ⟨rfl,Does.lone (args:=#[.int .u64 A,.int .u64 E]) hP sL (jP.ground xd (by decide)) (by kernel_rfl) rfl (by decide) rfl Try.func65 I3 rfl (by first|(simp[aU];done)|(simp[aU];rfl)) (fun _ _ _ _ _=>jW) ar2 (.int _ _) (fun _ _ _ _ _ _ _=>(qK _ _ _).mono fun e w' h=>by rw[hM];exact h.1)⟩) ?_;walk_nrm;refine eI (i':=22) (v:=.bool (Z==M)) rfl (by kernel_rfl) (by kernel_rfl) (by kernel_rfl) (.inl ⟨rfl,Does.calm hP (jP.ground xd (by decide)) rfl (by decide) (fun w=>by go_simp) (fun w=>by simp[go_sem,aU,Act.put, *])⟩) ?_;walk_nrm;refine eI (i':=23) (v:=.bool (Z==M)) rfl (by kernel_rfl) (by kernel_rfl) (by kernel_rfl) (.inl ⟨rfl,Does.calm hP (jP.ground xd (by decide)) rfl (by decide) (fun w=>by go_simp) (fun w=>by simp[go_sem,aU,Act.put, *])⟩) ?_;walk_nrm;refine eI (i':=24) (v:=.pointer (some ⟨s.Rb,k,none⟩)) rfl (by kernel_rfl) (by kernel_rfl) (by kernel_rfl) (.inl ⟨rfl,Does.calm hP (jP.ground xd (by decide)) rfl (by decide) (fun w=>by go_simp) (fun w=>by simp[go_sem,aU,Act.put, *])⟩) ?_;walk_nrm;replace Vz:s.rv k=.bool (Z==M):=Vz;refine eI (i':=25) (v:=av) rfl (by kernel_rfl) (by kernel_rfl) (by kernel_rfl) (.inl ⟨rfl,?_⟩) ⟨by kernel_rfl,by kernel_rfl,rfl⟩;intro Al a rest st hl hs he hw hn;obtain⟨hi',x',hA',h1,h2,h3,h4,h5,h6,h7⟩:=hs;refine TT.MU hP hA' h2 hi (by rw[Vz];simp) fun dV aO2 eQ dY eo=>?_;obtain⟨⟨u,hu⟩,hf⟩:=eo.rb.room hks;refine⟨_,?_,rfl,fun dZ eu eN _ _=>hn dZ ?_⟩
   ·rw[Vz];refine zH rfl hw (by decide) he ?_ ?_ (by kernel_rfl)
    ·unfold ax;simp[aU,Act.put,(Sb6 hu hf).1]
    ·unfold ax;simp[aU,Act.put,(Sb6 hu hf).1,(Sb6 hu hf).2]
   ·refine⟨eN,_,eu,h1,h2,h3,h4,fun h=>?_,fun _=>rfl,h7⟩;rw[getD_set_ne true (by decide:(25:Nat)≠14)]at h;have e:=h5 h;rw[e]
  ·have aP0:decide (nv<1073741789)=false:=decide_eq_false hok;rw[aP0];clear hsh eQ dY;change Hp (cfg q) i Ch _ _ [] _ _ .any _ 26 #[false,false,false,false,false,false,false,false,false,false,false,false,false,false,false,false,false,false,false,false,false,false,false,false,false,false] _;refine eI (i':=0) (v:=.slice (some ⟨s.Rb,0,none⟩) s.n aY8) rfl (by kernel_rfl) (by kernel_rfl) (by kernel_rfl) (.inl ⟨rfl,Does.box hP (jP.ground xd (by decide)) rfl (by decide) rfl rfl hr fun w hc=>Js hc⟩) ?_;walk_nrm;refine eI (i':=1) (v:=.int .i64 k) rfl (by kernel_rfl) (by kernel_rfl) (by kernel_rfl) (.inl ⟨rfl,Does.box hP (jP.ground xd (by decide)) rfl (by decide) rfl rfl D.hk fun w hc=>yj hc⟩) ?_;walk_nrm;refine eI (i':=2) (v:=.bool false) rfl (by kernel_rfl) (by kernel_rfl) (by kernel_rfl) (.inl ⟨rfl,Does.calm hP (jP.ground xd (by decide)) rfl (by decide) (fun w=>by go_simp) (fun w=>by simp[go_sem,aU,Act.put, *])⟩) ?_;walk_nrm;refine eI (i':=3) (v:=.bool false) rfl (by kernel_rfl) (by kernel_rfl) (by kernel_rfl) (.inl ⟨rfl,Does.calm hP (jP.ground xd (by decide)) rfl (by decide) (fun w=>by go_simp) (fun w=>by simp[go_sem,aU,Act.put, *])⟩) ?_;walk_nrm;refine eI (i':=4) (v:=av) rfl (by kernel_rfl) (by kernel_rfl) (by kernel_rfl) (.inr ⟨rfl,rfl⟩) ?_;walk_nrm;refine eI (i':=5) (v:=av) rfl (by kernel_rfl) (by kernel_rfl) (by kernel_rfl) (.inr ⟨rfl,rfl⟩) ?_;walk_nrm;refine eI (i':=6) (v:=av) rfl (by kernel_rfl) (by kernel_rfl) (by kernel_rfl) (.inr ⟨rfl,rfl⟩) ?_;walk_nrm;refine eI (i':=7) (v:=av) rfl (by kernel_rfl) (by kernel_rfl) (by kernel_rfl) (.inr ⟨rfl,rfl⟩) ?_;walk_nrm;refine eI (i':=8) (v:=av) rfl (by kernel_rfl) (by kernel_rfl) (by kernel_rfl) (.inr ⟨rfl,rfl⟩) ?_;walk_nrm;refine eI (i':=9) (v:=av) rfl (by kernel_rfl) (by kernel_rfl) (by kernel_rfl) (.inr ⟨rfl,rfl⟩) ?_;walk_nrm;refine eI (i':=10) (v:=av) rfl (by kernel_rfl) (by kernel_rfl) (by kernel_rfl) (.inr ⟨rfl,rfl⟩) ?_;walk_nrm;refine eI (i':=11) (v:=av) rfl (by kernel_rfl) (by kernel_rfl) (by kernel_rfl) (.inr ⟨rfl,rfl⟩) ?_;walk_nrm;refine eI (i':=12) (v:=av) rfl (by kernel_rfl) (by kernel_rfl) (by kernel_rfl) (.inr ⟨rfl,rfl⟩) ?_;walk_nrm;refine eI (i':=13) (v:=av) rfl (by kernel_rfl) (by kernel_rfl) (by kernel_rfl) (.inr ⟨rfl,rfl⟩) ?_;walk_nrm;refine eI (i':=14) (v:=av) rfl (by kernel_rfl) (by kernel_rfl) (by kernel_rfl) (.inr ⟨rfl,rfl⟩) ?_;walk_nrm;refine eI (i':=15) (v:=av) rfl (by kernel_rfl) (by kernel_rfl) (by kernel_rfl) (.inr ⟨rfl,rfl⟩) ?_;walk_nrm;refine eI (i':=16) (v:=av) rfl (by kernel_rfl) (by kernel_rfl) (by kernel_rfl) (.inr ⟨rfl,rfl⟩) ?_;walk_nrm;refine eI (i':=17) (v:=av) rfl (by kernel_rfl) (by kernel_rfl) (by kernel_rfl) (.inr ⟨rfl,rfl⟩) ?_;walk_nrm;refine eI (i':=18) (v:=av) rfl (by kernel_rfl) (by kernel_rfl) (by kernel_rfl) (.inr ⟨rfl,rfl⟩) ?_;walk_nrm;refine eI (i':=19) (v:=av) rfl (by kernel_rfl) (by kernel_rfl) (by kernel_rfl) (.inr ⟨rfl,rfl⟩) ?_;walk_nrm;refine eI (i':=20) (v:=av) rfl (by kernel_rfl) (by kernel_rfl) (by kernel_rfl) (.inr ⟨rfl,rfl⟩) ?_;walk_nrm;refine eI (i':=21) (v:=av) rfl (by kernel_rfl) (by kernel_rfl) (by kernel_rfl) (.inr ⟨rfl,rfl⟩) ?_;walk_nrm;refine eI (i':=22) (v:=av) rfl (by kernel_rfl) (by kernel_rfl) (by kernel_rfl) (.inr ⟨rfl,rfl⟩) ?_;walk_nrm;refine eI (i':=23) (v:=.bool false) rfl (by kernel_rfl) (by kernel_rfl) (by kernel_rfl) (.inl ⟨rfl,Does.calm hP (jP.ground xd (by decide)) rfl (by decide) (fun w=>by go_simp) (fun w=>by simp[go_sem,aU,Act.put, *])⟩) ?_;walk_nrm;refine eI (i':=24) (v:=.pointer (some ⟨s.Rb,k,none⟩)) rfl (by kernel_rfl) (by kernel_rfl) (by kernel_rfl) (.inl ⟨rfl,Does.calm hP (jP.ground xd (by decide)) rfl (by decide) (fun w=>by go_simp) (fun w=>by simp[go_sem,aU,Act.put, *])⟩) ?_;walk_nrm;have Vz:s.rv k=.bool false:=by rw[D.rv];unfold iB;rw[aP0,Bool.false_and]
   refine eI (i':=25) (v:=av) rfl (by kernel_rfl) (by kernel_rfl) (by kernel_rfl) (.inl ⟨rfl,?_⟩) ⟨by kernel_rfl,by kernel_rfl,rfl⟩;intro Al a rest st hl hs he hw hn;obtain⟨hi',x',hA',h1,h2,h3,h4,h5,h6,h7⟩:=hs;refine TT.MU hP hA' h2 hi (by rw[Vz];simp) fun dV aO2 eQ dY eo=>?_;obtain⟨⟨u,hu⟩,hf⟩:=eo.rb.room hks;refine⟨_,?_,rfl,fun dZ eu eN _ _=>hn dZ ?_⟩
   ·rw[Vz];refine zH rfl hw (by decide) he ?_ ?_ (by kernel_rfl)
    ·unfold ax;simp[aU,Act.put,(Sb6 hu hf).1]
    ·unfold ax;simp[aU,Act.put,(Sb6 hu hf).1,(Sb6 hu hf).2]
   ·refine⟨eN,_,eu,h1,h2,h3,h4,fun h=>?_,fun _=>rfl,h7⟩;rw[getD_set_ne true (by decide:(25:Nat)≠14)]at h;have e:=h5 h;rw[e]
 ·exact⟨eN,y,eu,rfl,hxy,by rw[hy'],by rw[hy'],fun _=>rfl,fun h=>by simp at h,by rw[hy'];exact .inl rfl⟩
end
end
section
open Pl ni oa ng Mem nO Au
open nU hiding base
def agT(y:Nat->af)(bx bp bc br bz Wg bS oS cap n:Nat)(k:Int)(pE pD vz vw vv vt vq vp vo:af):Array af:=#[y 0,y 1,y 2,y 3,y 4,y 5,y 6,y 7,y 8,y 9,y 10,.pointer (some ⟨bx,0,none⟩),y 12,.pointer (some ⟨bp,0,none⟩),y 14,.pointer (some ⟨bc,0,none⟩),.pointer (some ⟨br,0,none⟩),.pointer (some ⟨bz,0,none⟩),.pointer (some ⟨Wg,0,none⟩),pE,pD,y 21,y 22,y 23,y 24,y 25,y 26,y 27,y 28,y 29,y 30,y 31,y 32,y 33,y 34,y 35,y 36,y 37,y 38,y 39,y 40,y 41,y 42,y 43,y 44,y 45,y 46,y 47,y 48,y 49,y 50,y 51,y 52,y 53,y 54,y 55,y 56,y 57,y 58,y 59,y 60,y 61,y 62,y 63,y 64,y 65,y 66,y 67,y 68,y 69,.slice (some ⟨bS,oS,none⟩) n cap,.int .i64 n,.int .i64 k,vz,vw,vv,vt,vq,vp,vo,y 80,y 81,y 82,y 83,y 84,y 85,y 86,y 87,y 88,y 89,y 90,y 91,y 92,y 93,y 94,y 95,y 96,y 97,y 98,y 99,y 100,y 101,y 102,y 103,y 104,y 105,y 106]
structure AgD(q:iU)(s:eJ)(K kp:List (Nat×Obj))(nv:Nat->Int)(cv:Int)(Pb gc lb:Nat)(cs:List Int)(l:List Cm)(msg:ByteArray)(bz bp bx bc br bS oS:Nat):Prop where
 sub:∀b o,(b,o)∈kp->(b,o)∈K
 sh:∃ob,(bS,ob)∈K/\∀(w:ae) (k:Nat),w.heap[bS]?=some ob->k<s.n->w.cell? ⟨bS,oS+k,none⟩=some (.int .u64 (nv k))
 hz:∃cap,Hm kp bz (.slice (some ⟨s.Zb,0,none⟩) s.n cap)
 hp:Hm kp bp (.pointer (some ⟨Pb,0,none⟩))
 hx:Hm kp bx (.pointer (some ⟨s.Gb,0,none⟩))
 hc:Hm kp bc (.int .u64 cv)
 hr:∃cap,Hm kp br (.slice (some ⟨s.Rb,0,none⟩) s.n cap)
 pk:∃C e fz cap,(Pb,az C e fz)∈kp/\C.size=3/\C[0]?=some (.pointer (some ⟨s.Gb,0,none⟩))/\C[1]?=some (.slice (some ⟨lb,0,none⟩) l.length cap)/\C[2]?=some (.string msg)/\l.length<=cap
 gcB:∃C e fz,(gc,az C e fz)∈kp/\cs.length<=C.size/\∀j,j<cs.length->C[j]?=some (.int .u64 (cs.getD j 0))
 lbB:∃C e fz,(lb,az C e fz)∈kp/\3*l.length<=C.size/\∀j u,j<3*l.length->(eO l)[j]?=some u->C[j]?=some u
 gp:gc≠Pb
 lp:lb≠Pb
 lg:lb≠gc
 low:q.P.globals.size<=Pb/\q.P.globals.size<=gc/\q.P.globals.size<=lb/\q.P.globals.size<=s.Gb
 g0:∃t,s.g0=.int .i64 t
 g1:s.g1=.int .i64 s.nn
 g2:∃cap,s.g2=.slice (some ⟨gc,0,none⟩) cs.length cap
 n9:s.nn<=9
 c9:cs.length<=9
 c0:0<cs.length
 el:∀j,j<cs.length->jQ (cs.getD j 0)=true
 vs:∀id:Nat,1<=id->id<=s.nn->s.vals id=ER cs id
 gd:ng.Good s.nn l
 l9:l.length<=9
 ln:l.length=s.n
 ms:msg.size<=1000000
 nb:∀k,k<s.n->0<=nv k/\nv k<18446744073709551616
 cb:0<=cv/\cv<18446744073709551616
 zv:∀k,k<s.n->s.zv k=.int .u64 (nv k)
 rv:∀k,k<s.n->s.rv k=.bool (iB (nv k) cv cs l msg k)
section
variable{q:iU}{s:eJ}{K kp:List (Nat×Obj)}{nv:Nat->Int}{cv:Int}{Pb gc lb:Nat}{cs:List Int}{l:List Cm}{msg:ByteArray}{bz bp bx bc br bS oS:Nat}
theorem Hm.mono{kp kp':List (Nat×Obj)}{b:Nat}{v:af}(h:Hm kp b v)(hs:∀b o,(b,o)∈kp->(b,o)∈kp'):Hm kp' b v:=by
 obtain⟨C,e,fz,h1,h2⟩:=h;exact⟨C,e,fz,hs _ _ h1,h2⟩
theorem AgD.wrk(D:AgD q s K kp nv cv Pb gc lb cs l msg bz bp bx bc br bS oS){k bn bk:Nat}(hk:k<s.n){kq:List (Nat×Obj)}(hs:∀b o,(b,o)∈kp->(b,o)∈kq)(hn:Hm kq bn (.int .u64 (nv k)))(hkb:Hm kq bk (.int .i64 k)):
  Hb q s kq k (nv k) cv Pb gc lb cs l msg bn bz bk bp bx bc br where
 hn:=hn
 hz:=let⟨c,h⟩:=D.hz;⟨c,h.mono hs⟩
 hk:=hkb
 hp:=D.hp.mono hs
 hx:=D.hx.mono hs
 hc:=D.hc.mono hs
 hr:=let⟨c,h⟩:=D.hr;⟨c,h.mono hs⟩
 pk:=let⟨C,e,fz,cap,h1,h2⟩:=D.pk;⟨C,e,fz,cap,hs _ _ h1,h2⟩
 gcB:=let⟨C,e,fz,h1,h2⟩:=D.gcB;⟨C,e,fz,hs _ _ h1,h2⟩
 lbB:=let⟨C,e,fz,h1,h2⟩:=D.lbB;⟨C,e,fz,hs _ _ h1,h2⟩
 gp:=D.gp
 lp:=D.lp
 lg:=D.lg
 low:=D.low
 g0:=D.g0
 g1:=D.g1
 g2:=D.g2
 n9:=D.n9
 c9:=D.c9
 c0:=D.c0
 el:=D.el
 vs:=D.vs
 gd:=D.gd
 l9:=D.l9
 kl:=by rw[D.ln];exact hk
 ln:=D.ln
 ms:=D.ms
 nb:=D.nb k hk
 cb:=D.cb
 zv:=D.zv k hk
 rv:=D.rv k hk
theorem nu.sub{mw:MW}{dm num:Nat}{K K':List (Nat×Obj)}{st:St eH}(h:nu s mw dm num K st)(hs:∀b o,(b,o)∈K'->(b,o)∈K):nu s mw dm num K' st:=⟨h.sc,h.mw,h.dm,h.num,fun b o hb=>h.fz b o (hs b o hb),fun b o hb=>h.nd b o (hs b o hb)⟩
theorem aw6(w:ae):(dw 3 true (.tuple #[])).run dS w=.ok (.pointer (some ⟨w.heap.size,0,none⟩)) (w.alloc (.cells #[.int .i64 0] 3))/\(dw 3 true (.tuple #[])).events dS w #[]=#[]:=by
 constructor<;>simp[go_sem]
theorem aw5(w:ae):(dw 40 true (.tuple #[])).run dS w=.ok (.pointer (some ⟨w.heap.size,0,none⟩)) (w.alloc (.cells #[.int .u64 0] 40))/\(dw 40 true (.tuple #[])).events dS w #[]=#[]:=by
 constructor<;>simp[go_sem]
theorem ad5{w:ae}{ad:Addr}{u:af}{v:Int}(hc:w.cell? ad=some u)(hz:w.frozen? ad=false):(bJ 3 (.pointer (some ad)) (.int .i64 v)).run dS w=.ok () (w.setCell ad (.int .i64 v))/\(bJ 3 (.pointer (some ad)) (.int .i64 v)).events dS w #[]=#[⟨.cell ad,true,false⟩]:=by
 constructor<;>simp[go_sem,hc,hz]
theorem ad4{w:ae}{ad:Addr}{u:af}{v:Int}(hc:w.cell? ad=some u)(hz:w.frozen? ad=false):(bJ 40 (.pointer (some ad)) (.int .u64 v)).run dS w=.ok () (w.setCell ad (.int .u64 v))/\(bJ 40 (.pointer (some ad)) (.int .u64 v)).events dS w #[]=#[⟨.cell ad,true,false⟩]:=by
 constructor<;>simp[go_sem,hc,hz]
theorem WE:(Try.f61.name== "runtime.NumGoroutine")=false:=by kernel_rfl
def xE(Wg bn bz bk bp bx bc br:Nat):Deferred:={target:=.fn (.func 62) #[.pointer (some ⟨Wg,0,none⟩),.pointer (some ⟨bn,0,none⟩),.pointer (some ⟨bz,0,none⟩),.pointer (some ⟨bk,0,none⟩),.pointer (some ⟨bp,0,none⟩),.pointer (some ⟨bx,0,none⟩),.pointer (some ⟨bc,0,none⟩),.pointer (some ⟨br,0,none⟩)],args:=#[]}
theorem K3{P:au}{main:Bool}{b:ai}{a:Act}{kk:List Item}{cs:List ai}{w:ae}{ops:Array Oper}{i:Nat}{rest:List Nat}{o:Oper}{d:Deferred}{f:Fn}{c:Array af}(ho:ops[i]?=some o)(hw:bg o (yielded ops a.tmps)=true)
  (hk:b.kind≠ .early)(hr:(ax a.eval o).run P w=.ok (.spawn d) w)(hd:d.target=.fn f c)(he:(ax a.eval o).events P w #[]=#[]):
  stepG P main (G (b.at a (.inRegion ops (i::rest)::kk)) cs) w=.spawn (G (b.at (a.put o.dst av) (.inRegion ops rest::kk)) cs) (born P d) w #[]:=by
 rw[stepG_spawn ho hw hk hr hd];unfold listed;rw[he,seen_none]
theorem UN(Wg bn bz bk bp bx bc br:Nat)(w:ae):stepG dS false (born dS (xE Wg bn bz bk bp bx bc br)) w=
  .go (G ((baseD 62).at ⟨#[.pointer (some ⟨Wg,0,none⟩),.pointer (some ⟨bn,0,none⟩),.pointer (some ⟨bz,0,none⟩),.pointer (some ⟨bk,0,none⟩),.pointer (some ⟨bp,0,none⟩),.pointer (some ⟨bx,0,none⟩),.pointer (some ⟨bc,0,none⟩),.pointer (some ⟨br,0,none⟩),av,av,av,av,av,av,av,av,av,av,av,av,av,av,av,av,av,av,av,av,av,av,av,av,av,av,av,av,av,av,av,av,av,av,av,av],[]⟩ [.code Av]) [bot dS]) w #[]:=by
 simp[born,xE,stepG,unwind,callDeferred,invoke,callFunc,Try.func62,Try.f62,seen,GStep.after,G,Frame.enter,Frame.at,baseD,bot,Av]
variable(hP:q.P=dS){bs:List ai}{y:Nat->af}{cap:Nat}
include hP
theorem Kz(D:AgD q s K kp nv cv Pb gc lb cs l msg bz bp bx bc br bS oS)(hcap:s.n<=cap)
  (hT:∀(st':St eH) (pE pD vz vw vv vt vq vp vo:af),nu s .sp 0 (s.n0+s.n) K st'->Inv q st'->TT (cfg q) 0 (TW (cfg q)) (G ((base 27).at ⟨agT y bx bp bc br bz s.Wg bS oS cap s.n (s.n:Int) pE pD vz vw vv vt vq vp vo,[]⟩ [.code sF]) bs) st'):
  ∀(m k:Nat) (st:St eH) (pE pD vz vw vv vt vq vp vo:af),m+k=s.n->nu s .sp 0 (s.n0+k) K st->Inv q st->TT (cfg q) 0 (TW (cfg q)) (G ((base 27).at ⟨agT y bx bp bc br bz s.Wg bS oS cap s.n (k:Int) pE pD vz vw vv vt vq vp vo,[]⟩ [.code Kv,.inLoop Kv,.inBlock 0,.code sF]) bs) st
 |0,k,st,pE,pD,vz,vw,vv,vt,vq,vp,vo,hm,hA,hI=>by
  obtain rfl:k=s.n:=by omega
  simp only[Kv,OU,vK,ky,iw,Try.f27,aJ,agT];have k0:¬((s.n:Int)<(s.n:Int)):=by omega
  have k1:decide ((s.n:Int)<(s.n:Int))=false:=by simp
  refine TT.j0 hP hA 80 fun w₀ hF=>?_;repeat w_go eA
  refine stp rfl ?_;exact hT st _ _ _ _ _ _ _ _ _ hA hI
 |m+1,k,st,pE,pD,vz,vw,vv,vt,vq,vp,vo,hm,hA,hI=>by
  have hk:k<s.n:=by omega
  have k0:(k:Int)<(s.n:Int):=by omega
  have k1:decide ((k:Int)<(s.n:Int))=true:=by simpa using k0
  have k2:(0:Int)<=(k:Int):=by omega
  obtain⟨obS,VZ,sh2⟩:=D.sh;have ih:=Kz D hcap hT m (k+1);simp only[Kv,OU,vK,ky,iw,Try.f27,aJ,agT]at ih ⊢;refine TT.j0 hP hA 80 fun w₀ hF=>?_;repeat w_go eA
  refine stp rfl ?_;clear hF w₀;refine TT.aL2 hP hA (bl:=bS) (off:=oS+k) (v:=.int .u64 (nv k)) (ob:=obS) rfl rfl (by k_ne) rfl (by simp[aU]) VZ (fun w hw=>S8 (sh2 w k hw hk)) fun dZ eu eN aM3=>?_;walk_nrm;refine TT.S4 hP eu rfl rfl (by k_ne) rfl (fun w=>aw6 w) fun fw bk eK fu aM2 TE ao9 _=>?_;walk_nrm;refine TT.S4 hP eK rfl rfl (by k_ne) rfl (fun w=>aw5 w) fun fI bn eF fO E9 uP uM bk3=>?_;walk_nrm;have aT2:bk≠bn:=uM bk (.cells #[.int .i64 0] 3 (0,0)) (by simp);refine TT.S0 hP eF (K':=(bn,.cells #[.int .u64 0] 40 (0,0))::(bk,.cells #[.int .i64 k] 3 (0,0))::K) (bl:=bk) (off:=0) (v:=.int .i64 k) (C:=#[.int .i64 0]) (e:=3) rfl rfl (by k_ne) rfl (by simp[aU]) (by simp[aU]) (by simp) (by simp) (fun off=>E9 _ (TE off)) (fun b o hb=>?_) (by kernel_rfl) (fun w u hc hz=>ad5 hc hz) fun eT fe gg Zf=>?_
  ·rcases List.mem_cons.1 hb with e|hb
   ·cases e;exact .inr ⟨aT2.symm,by simp⟩
   ·rcases List.mem_cons.1 hb with e|hb
    ·cases e;exact .inl ⟨rfl,rfl⟩
    ·exact .inr ⟨ao9 b o hb,by simp[hb]⟩
  walk_nrm;refine TT.S0 hP fe (K':=(bn,.cells #[.int .u64 (nv k)] 40 (0,0))::(bk,.cells #[.int .i64 k] 3 (0,0))::K) (bl:=bn) (off:=0) (v:=.int .u64 (nv k)) (C:=#[.int .u64 0]) (e:=40) rfl rfl (by k_ne) rfl (by simp[aU]) (by simp[aU]) (by simp) (by simp) (fun off=>Zf _ (uP off)) (fun b o hb=>?_) (by kernel_rfl) (fun w u hc hz=>ad4 hc hz) fun gU eZ gD _=>?_
  ·rcases List.mem_cons.1 hb with e|hb
   ·cases e;exact .inl ⟨rfl,rfl⟩
   ·rcases List.mem_cons.1 hb with e|hb
    ·cases e;exact .inr ⟨aT2,by simp⟩
    ·exact .inr ⟨uM b o (by simp[hb]),by simp[hb]⟩
  clear fe gg Zf eF fO E9 uP eK fu aM2 TE eu eN aM3 hA hI;walk_nrm;refine TT.j0 hP eZ 80 fun w₀ hF=>?_;repeat w_go eA
  u_call Try.func61 WE Try.f61 eA hF
  refine stp rfl ?_;clear hF w₀;refine ak8 hP (fun gT iT mY=>?_) eZ;clear eZ gD;walk_nrm;refine TT.j0 hP iT 40 fun w₀ hF=>?_;repeat w_go eA
  refine stp rfl ?_;clear hF w₀;have w1:IntKind.i64.wrap ((k:Int)+1)=((k+1:Nat):Int):=by
   have:=D.l9
   have:=D.ln
   rw[IntKind.wrap_i64];omega
  refine TT.fork hP iT (k:=k) rfl hk fun dV dY eQ eo=>⟨_,_,K3 (d:=xE s.Wg bn bz bk bp bx bc br) (f:=.func 62) (c:=#[.pointer (some ⟨s.Wg,0,none⟩),.pointer (some ⟨bn,0,none⟩),.pointer (some ⟨bz,0,none⟩),.pointer (some ⟨bk,0,none⟩),.pointer (some ⟨bp,0,none⟩),.pointer (some ⟨bx,0,none⟩),.pointer (some ⟨bc,0,none⟩),.pointer (some ⟨br,0,none⟩)]) rfl rfl (by k_ne) (by simp[go_sem,xE,Deferred.ofValue]) rfl (by simp[go_sem,Deferred.ofValue]),rfl,rfl,(bn,.cells #[.int .u64 (nv k)] 40 (0,0))::(bk,.cells #[.int .i64 k] 3 (0,0))::kp,(fun b=>(∃o,(b,o)∈(bn,az #[.int .u64 (nv k)] 40 (0,0))::(bk,az #[.int .i64 k] 3 (0,0))::kp)/\∀off,dV.γ.ex 0 (ca b off)),(fun b=>∀off,dV.γ.rd 0 (ca b off)),fun b hb=>hb.2,fun b hb=>hb,fun b o hb=>?_,fun dZ eu eN=>?_,fun dZ eu eN=>?_⟩
  ·have hin:(b,o)∈(bn,az #[.int .u64 (nv k)] 40 (0,0))::(bk,az #[.int .i64 k] 3 (0,0))::K:=by
    rcases List.mem_cons.1 hb with e|hb
    ·rw[e];simp
    ·rcases List.mem_cons.1 hb with e|hb
     ·rw[e];simp
     ·exact aR _ (aR _ (D.sub b o hb))
   obtain⟨f1,f2⟩:=dY.fz b o hin;exact⟨f2.imp (fun f=>⟨⟨o,hb⟩,f⟩) id,f1⟩
  ·have hne:(s.n0+k==0)=false:=by
    have:=eo.n0.1
    simp<;>omega
   refine TT.qU hP eu (kK rfl) 4 fun w₀ hF=>Goes.step rfl fun w₁ hw=>?_;show(stepG dS (s.n0+k==0) (born dS (xE s.Wg bn bz bk bp bx bc br)) w₁).goes _;rw[hne,UN];refine⟨by u_nil,Goes.stop fun w₂ _=>⟨rfl,?_⟩⟩;exact aF1 hP (D.wrk hk (fun b o hb=>by simp[hb]) ⟨_,_,_,dh ..,rfl⟩ ⟨_,_,_,aR _ (dh ..),rfl⟩) rfl rfl eu eN
  ·clear dY eQ eo iT mY;walk_nrm;refine TT.j0 hP eu 60 fun w₀ hF=>?_;repeat w_nl eA
   u_c stepG_inLoop eA hF
   refine stp rfl ?_;exact ih dZ _ _ _ _ _ _ _ _ _ (by omega) (eu.sub fun b o hb=>by simp[hb]) eN
end
end
end Cc
end Go.Proofs.Ytpfpokjaeffbjaa
