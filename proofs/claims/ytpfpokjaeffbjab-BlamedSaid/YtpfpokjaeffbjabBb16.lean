/- Part of the proof: AgO, DnF, MAdd, MWait, MWt, DoS, WrkD. -/
import Derived.Test.YtpfpokjaeffbjabBb15
import Derived.Test.YtpfpokjaeffbjabBb12
import Derived.Test.YtpfpokjaeffbjabBb13
import Derived.Test.YtpfpokjaeffbjabBb8
import Derived.Test.YtpfpokjaeffbjabBb9
import Derived.Conc.WgArith
set_option linter.unusedVariables false
set_option linter.unusedSimpArgs false
set_option maxRecDepth 100000
set_option maxHeartbeats 16000000
namespace Go.Proofs.Ytpfpokjaeffbjab
namespace Cc
open Go.Conc Go.ConcN
open Go.ConcM (OsLater)
theorem FM{P:Program}{main:Bool}{b:Frame}{a:Act}{kk:List Item}{cs:List Frame}{w:World}{ops:Array Oper}{i:Nat}{rest:List Nat}{o:Oper}{t:TypeId}{ob:Obj}(ho:ops[i]?=some o)(hw:Region.wanted o (yielded ops a.tmps)=true)(hk:b.kind≠ .early)(hop:o.op=.alloc t)
  (h:(Instr.alloc t true (.tuple #[])).run P w=.ok (.pointer (some ⟨w.heap.size,0,none⟩)) (w.alloc ob)/\(Instr.alloc t true (.tuple #[])).events P w #[]=#[]):
  stepG P main (G (b.at a (.inRegion ops (i::rest)::kk)) cs) w=.go (G (b.at (a.put o.dst (.pointer (some ⟨w.heap.size,0,none⟩))) (.inRegion ops rest::kk)) cs) (w.alloc ob) #[]:=by
 have hr:(execOp a.eval o).run P w=.ok (.value (.pointer (some ⟨w.heap.size,0,none⟩))) (w.alloc ob):=by
  unfold execOp;simp only[hop];simp[h.1]
 have he:(execOp a.eval o).events P w #[]=#[]:=by
  unfold execOp;simp only[hop];simp[h.1,h.2]
 rw[stepG_value ho hw hk hr];unfold listed;rw[he,seen_none]
section
variable{q:ig}{s:aO}{mw:MW}{dm num:Nat}{K:List (Nat×Obj)}{Ch:Nat->Goroutine->St aJ->Prop}{P:Program}(hP:q.P=P){b:Frame}{a:Act}{kk:List Item}{cs:List Frame}{ops:Array Oper}{j:Nat}{rest:List Nat}{o:Oper}
theorem nP.keeps{st:St aJ}(h:nP s mw dm num K st){w':World}(hw:∀b,b<st.w.heap.size->w'.heap[b]?=st.w.heap[b]?):FT st w' K:=fun b o hb=>by
 obtain⟨h1,h2⟩:=h.fz b o hb;exact⟨(hw b (lt_of_block h1)).trans h1,h2.imp id .inl,h.nd b o hb⟩
include hP
theorem TT.ba1{st:St aJ}(hA:nP s mw dm num K st){t:TypeId}{y:Operand}{bl off:Nat}{v:Value}{ob:Obj}(ho:ops[j]?=some o)(hw:Region.wanted o (yielded ops a.tmps)=true)(hk:b.kind≠ .early)(hop:o.op=.load t y)(hy:a.eval y=.pointer (some ⟨bl,off,none⟩))(hK:(bl,ob)∈K)
  (hf:∀w:World,w.heap[bl]?=some ob->(Instr.loadAt t (.pointer (some ⟨bl,off,none⟩))).run P w=.ok v w/\(Instr.loadAt t (.pointer (some ⟨bl,off,none⟩))).events P w #[]=#[⟨.cell ⟨bl,off,none⟩,false,false⟩])
  (h:∀ay,nP s mw dm num K ay->Inv q ay->(∀l,st.γ.ex 0 l->ay.γ.ex 0 l)->TT (cfg q) 0 Ch (G (b.at (a.put o.dst v) (.inRegion ops rest::kk)) cs) ay):TT (cfg q) 0 Ch (G (b.at a (.inRegion ops (j::rest)::kk)) cs) st:=by
 refine TT.aF7 hP hA fun ah hr au hi=>?_
 obtain⟨f1,f2⟩:=au.fz _ _ hK;obtain⟨a1,_⟩:=au.apart hi hK;obtain⟨s1,s2⟩:=Gx (P:=P) (main:=(0:Nat)==0) (cs:=cs) (kk:=kk) (rest:=rest) ho hw hk hop hy (hf ah.w f1);refine⟨_,_,_,K,s1,rfl,⟨Nat.le_refl _,fun e he=>⟨bl,off,false,s2 e he,lt_of_block f1,fun s' hs'=>?_,f2.elim (fun f=>.inl (f off)) fun f=>.inr (.inl ⟨rfl,f off⟩)⟩,rfl,rfl,fun _ _=>.inl rfl⟩,au.keeps fun _ _=>rfl,fun ay _ aC aT hex _=>h ay aC aT fun l hl=>hex l (hr.ex (.inl rfl) l hl)⟩;rw[au.sc]at hs';cases hs';exact a1
theorem TT.malloc{st:St aJ}(hA:nP s mw dm num K st){t:TypeId}{ob:Obj}(ho:ops[j]?=some o)(hw:Region.wanted o (yielded ops a.tmps)=true)(hk:b.kind≠ .early)(hop:o.op=.alloc t)
  (hf:∀w:World,(Instr.alloc t true (.tuple #[])).run P w=.ok (.pointer (some ⟨w.heap.size,0,none⟩)) (w.alloc ob)/\(Instr.alloc t true (.tuple #[])).events P w #[]=#[])
  (h:∀ay bl,nP s mw dm num ((bl,ob)::K) ay->Inv q ay->(∀l,st.γ.ex 0 l->ay.γ.ex 0 l)->(∀off,ay.γ.ex 0 (ca bl off))->(∀b o,(b,o)∈K->b≠bl)->(∀l b,st.γ.ex 0 l->fE l=some b->b≠bl)->TT (cfg q) 0 Ch (G (b.at (a.put o.dst (.pointer (some ⟨bl,0,none⟩))) (.inRegion ops rest::kk)) cs) ay):TT (cfg q) 0 Ch (G (b.at a (.inRegion ops (j::rest)::kk)) cs) st:=by
 refine TT.aF7 hP hA fun ah hr au hi=>?_
 have hsz:(ah.w.alloc ob).heap.size=ah.w.heap.size+1:=Array.size_push ..;have hold:∀b,b<ah.w.heap.size->(ah.w.alloc ob).heap[b]?=ah.w.heap[b]?:=fun b hb=>(Array.getElem?_push ..).trans (if_neg (by omega))
 have hnew:(ah.w.alloc ob).heap[ah.w.heap.size]?=some ob:=(Array.getElem?_push ..).trans (if_pos rfl);refine⟨_,_,_,(ah.w.heap.size,ob)::K,FM ho hw hk hop (hf ah.w),rfl,⟨by omega,fun e he=>by simp at he,rfl,rfl,fun b hb=>.inl (hold b hb)⟩,fun b o' hb=>?_,fun ay _ aC aT hex hnw=>h ay _ aC aT (fun l hl=>hex l (hr.ex (.inl rfl) l hl)) (fun off=>hnw _ off (Nat.le_refl _) (by omega)) (fun b o' hb e=>?_) fun l b hl hb e=>?_⟩
 ·rcases List.mem_cons.1 hb with e|hb
  ·cases e;exact⟨hnew,.inr (.inr (Nat.le_refl _)),fun hd=>by have:=hi.base.dead _ hd;omega⟩
  ·exact(au.keeps hold) b o' hb
 ·have:=lt_of_block (au.fz _ _ hb).1;omega
 ·have:=hi.base.tr.Ic.low 0 l (hr.ex (.inl rfl) l hl) b hb;omega
theorem TT.XR{st:St aJ}(hA:nP s mw dm num K st){K':List (Nat×Obj)}{t:TypeId}{y z:Operand}{bl off:Nat}{v:Value}{C:Array Value}{e:TypeId}(ho:ops[j]?=some o)(hw:Region.wanted o (yielded ops a.tmps)=true)(hk:b.kind≠ .early)(hop:o.op=.store t y z)(hy:a.eval y=.pointer (some ⟨bl,off,none⟩))(hz:a.eval z=v)(hK:(bl,.cells C e (0,0))∈K)(hlt:off<C.size)
  (hex:∀off,st.γ.ex 0 (ca bl off))(hK':∀b o,(b,o)∈K'->(b=bl/\o=.cells (C.setIfInBounds off v) e (0,0))\/(b≠bl/\(b,o)∈K))(hn:(P.funcs[b.fn]?).any (·.norace)=false)
  (hf:∀(w:World) (u:Value),w.cell? ⟨bl,off,none⟩=some u->w.frozen? ⟨bl,off,none⟩=false->(Instr.storeAt t (.pointer (some ⟨bl,off,none⟩)) v).run P w=.ok () (w.setCell ⟨bl,off,none⟩ v)/\(Instr.storeAt t (.pointer (some ⟨bl,off,none⟩)) v).events P w #[]=#[⟨.cell ⟨bl,off,none⟩,true,false⟩])
  (h:∀ay,nP s mw dm num K' ay->Inv q ay->(∀l,st.γ.ex 0 l->ay.γ.ex 0 l)->TT (cfg q) 0 Ch (G (b.at (a.put o.dst undef) (.inRegion ops rest::kk)) cs) ay):TT (cfg q) 0 Ch (G (b.at a (.inRegion ops (j::rest)::kk)) cs) st:=by
 refine TT.aF7 hP hA fun ah hr au hi=>?_
 obtain⟨f1,f2⟩:=au.fz _ _ hK;obtain⟨a1,_⟩:=au.apart hi hK;have hcell:ah.w.cell? ⟨bl,off,none⟩=some C[off]:=by simp only[World.cell?,f1];exact Array.getElem?_eq_getElem hlt
 have bA3:ah.w.frozen? ⟨bl,off,none⟩=false:=by simp[World.frozen?,f1]
 have W:=aside_setCell ah.w ⟨bl,off,none⟩ v;have hblk:(ah.w.setCell ⟨bl,off,none⟩ v).heap[bl]?=some (.cells (C.setIfInBounds off v) e (0,0)):=by
  simp[World.setCell,Array.getElem?_modify,f1]
 refine⟨_,_,_,K',xZ ho hw hk hop hy hz (hf ah.w _ hcell bA3) hn,rfl,⟨Nat.le_of_eq W.size.symm,fun e' he=>?_,W.os,W.output,fun b hb=>?_⟩,fun b o' hb=>?_,fun ay _ aC aT hx _=>h ay aC aT fun l hl=>hx l (hr.ex (.inl rfl) l hl)⟩
 ·simp at he;subst he;exact⟨bl,off,true,rfl,by rw[W.size];exact lt_of_block f1,fun s' hs'=>(by rw[au.sc]at hs';cases hs';exact a1),.inl (hr.ex (.inl rfl) _ (hex off))⟩
 ·by_cases e1:b=bl
  ·subst e1;exact .inr fun off=>hr.ex (.inl rfl) _ (hex off)
  ·exact .inl (W.block b e1)
 ·rcases hK' b o' hb with⟨rfl,rfl⟩|⟨e1,hb'⟩
  ·exact⟨hblk,.inl fun off=>hr.ex (.inl rfl) _ (hex off),au.nd _ _ hK⟩
  ·obtain⟨g1,g2⟩:=au.fz _ _ hb';exact⟨(W.block b e1).trans g1,g2.imp id .inl,au.nd _ _ hb'⟩
end
end Cc
namespace Cc
open Go.Conc Go.ConcN Go.ConcM Go.RowKit Go.Conc.Lib Go.ConcR.Gen
open Go.ConcR (KK wgBlock WgAt stA smA rd wr mk DC0)
section
theorem aq5:(Try.f82.name== "runtime.NumGoroutine")=false:=by kernel_rfl
theorem av9:Try.f82.body.isNone=true:=by kernel_rfl
theorem an7:Extern.findNext Try.f82=none:=by kernel_rfl
theorem au9:Extern.find Try.f82=some (fun _=>pure (.bool false)):=by kernel_rfl
theorem I9:(Try.f112.name== "runtime.NumGoroutine")=false:=by kernel_rfl
theorem JB:Try.f112.body.isNone=true:=by kernel_rfl
theorem Ij:Extern.findNext Try.f112=none:=by kernel_rfl
theorem Jr:Extern.find Try.f112=some (Extern.Atomic.update (Op.intArith .add) .u64 true):=by kernel_rfl
theorem I8:(Try.f113.name== "runtime.NumGoroutine")=false:=by kernel_rfl
theorem JA:Try.f113.body.isNone=true:=by kernel_rfl
theorem Ii:Extern.findNext Try.f113=none:=by kernel_rfl
theorem Jq:Extern.find Try.f113=some (Extern.Atomic.loadT (.int .u64)):=by kernel_rfl
theorem aF1:(Try.f114.name== "runtime.NumGoroutine")=false:=by kernel_rfl
theorem aO7:Try.f114.body.isNone=true:=by kernel_rfl
theorem ax6:Extern.findNext Try.f114=none:=by kernel_rfl
theorem aL8:Extern.find Try.f114=some (Extern.Atomic.storeT):=by kernel_rfl
theorem RJ:(Try.f117.name== "runtime.NumGoroutine")=false:=by kernel_rfl
theorem TR:Try.f117.body.isNone=true:=by kernel_rfl
theorem QE:Extern.findNext Try.f117=none:=by kernel_rfl
theorem Tt:Extern.find Try.f117=some (Extern.Atomic.casT (.int .u64)):=by kernel_rfl
theorem ae2:(Try.f91.name== "runtime.NumGoroutine")=false:=by kernel_rfl
theorem TQ:Try.f91.body.isNone=true:=by kernel_rfl
theorem aa2:Extern.findNext Try.f91=none:=by kernel_rfl
theorem aj3:Extern.find Try.f91=some (Extern.Sync.semrelease):=by kernel_rfl
theorem XF:(Try.f98.name== "runtime.NumGoroutine")=false:=by kernel_rfl
theorem Zc:Try.f98.body.isNone=true:=by kernel_rfl
theorem Wh:Extern.findNext Try.f98=none:=by kernel_rfl
theorem YD:Extern.find Try.f98=some (Extern.Sync.semacquire):=by kernel_rfl
theorem ae7:(Try.f87.name== "runtime.NumGoroutine")=false:=by kernel_rfl
theorem al4:Try.f87.body.isNone=true:=by kernel_rfl
theorem aa3:Extern.findNext Try.f87=none:=by kernel_rfl
theorem aj6:Extern.find Try.f87=some (Extern.Race.marked .read):=by kernel_rfl
theorem XM:(Try.f97.name== "runtime.NumGoroutine")=false:=by kernel_rfl
theorem Ze:Try.f97.body.isNone=true:=by kernel_rfl
theorem Wn:Extern.findNext Try.f97=none:=by kernel_rfl
theorem YG:Extern.find Try.f97=some (Extern.Race.marked .write):=by kernel_rfl
theorem aE9:(Try.f42.name== "runtime.NumGoroutine")=false:=by kernel_rfl
theorem ae4:(Try.f44.name== "runtime.NumGoroutine")=false:=by kernel_rfl
theorem XJ:(Try.f86.name== "runtime.NumGoroutine")=false:=by kernel_rfl
theorem I7:(Try.f88.name== "runtime.NumGoroutine")=false:=by kernel_rfl
theorem XI:(Try.f89.name== "runtime.NumGoroutine")=false:=by kernel_rfl
theorem aF0:(Try.f96.name== "runtime.NumGoroutine")=false:=by kernel_rfl
theorem WB:Try.prog.underlying 155=some (.pointer 107):=by kernel_rfl
theorem ax3:(Try.prog.info? 107).map (fun i=>decide (i.size=0))=some false:=by kernel_rfl
theorem WC:Try.prog.underlying 162=some (.pointer 76):=by kernel_rfl
theorem an4:(Try.prog.info? 76).map (fun i=>decide (i.size=0))=some false:=by kernel_rfl
section
variable{q:ig}{i:Nat}{s:aO}{x:Wk}{Ch:Nat->Goroutine->St aJ->Prop}
theorem TT.qZ{P:Program}(hP:q.P=P){g:Goroutine}{st:St aJ}(hA:At s i x st)(hx:x.wg≠ .lv/\x.wg≠ .gone/\x.wg≠ .idle)(n:Nat)
  (h:∀w:World,(∃v,w.cell? ⟨s.Wg,0,none⟩=some v)->Goes P (i==0) (fun _ w₁=>∃v,w₁.cell? ⟨s.Wg,0,none⟩=some v) DC0 (fun g' _=>g'.status=.running/\TT (cfg q) i Ch g' st) n g w):TT (cfg q) i Ch g st:=by
 subst hP;exact TT.step fun ah hr hi=>by
  have hr:Rl i st ah:=hr;have hi:Inv q ah:=hi;have f:∀ah,Rl i st ah->Inv q ah->∃v,ah.w.cell? ⟨s.Wg,0,none⟩=some v:=fun ah hr hi=>⟨_,((hi.aZ s (hA.rely hx hr hi).sc).c.qV.cellSt)⟩
  exact(TT.walk (C:=cfg q) FC (F:=fun w₁=>∃v,w₁.cell? ⟨s.Wg,0,none⟩=some v) f (fun ah hr hi=>(hA.rely hx hr hi).oh ⟨hx.1,hx.2.1⟩) n g ah.w (h ah.w (f ah hr hi))).elim ah hr hi
theorem aW{s:aO}{w₀ w₁:World}(_:∃v,w₀.cell? ⟨s.Wg,0,none⟩=some v)(r:∃v,w₁.cell? ⟨s.Wg,0,none⟩=some v):∃v,w₁.cell? ⟨s.Wg,0,none⟩=some v:=r
end
end
section
open Go.ConcM (OsLater)
section
variable{q:ig}{s:aO}
theorem Bg(m:Mark)(h:(∀a,m≠ .release a)/\(∀a,m≠ .read a)/\∀a,m≠ .write a):∀e∈(#[⟨.mark m,false,true⟩]:Array Event),EvM s e:=by
 intro e he;simp at he;subst he;exact .inl ⟨m,rfl,h⟩
theorem YK(off:Nat)(h:off<2):∀e∈(#[⟨.cell ⟨s.Wg,off,none⟩,false,true⟩,⟨.cell ⟨s.Wg,off,none⟩,true,true⟩]:Array Event),EvM s e:=by
 intro e he;simp at he;rcases he with rfl|rfl
 ·exact .inr (.inl ⟨off,false,rfl,h⟩)
 ·exact .inr (.inl ⟨off,true,rfl,h⟩)
theorem TF(off:Nat)(h:off<2):∀e∈(#[⟨.cell ⟨s.Wg,off,none⟩,false,true⟩]:Array Event),EvM s e:=by
 intro e he;simp at he;subst he;exact .inr (.inl ⟨off,false,rfl,h⟩)
theorem YJ:∀e∈(#[⟨.mark (.read ⟨s.Wg,1,none⟩),false,true⟩]:Array Event),EvM s e:=by
 intro e he;simp at he;subst he;exact .inr (.inr ⟨1,by omega,.inl rfl⟩)
theorem Vk:∀e∈(#[⟨.mark (.write ⟨s.Wg,1,none⟩),false,true⟩]:Array Event),EvM s e:=by
 intro e he;simp at he;subst he;exact .inr (.inr ⟨1,by omega,.inr rfl⟩)
theorem Sz{st:St aJ}(off:Nat)(v:Value):(st.w.setCell ⟨s.Wg,off,none⟩ v).heap.size=st.w.heap.size/\(∀b,b≠s.Wg->(st.w.setCell ⟨s.Wg,off,none⟩ v).heap[b]?=st.w.heap[b]?)/\OsLater st.w.os (st.w.setCell ⟨s.Wg,off,none⟩ v).os/\(st.w.setCell ⟨s.Wg,off,none⟩ v).output=st.w.output:=by
 have A:=aside_setCell st.w ⟨s.Wg,off,none⟩ v;exact⟨A.size,fun b hb=>A.block b hb,by rw[A.os];exact .refl _,A.output⟩
theorem Oe{st:St aJ}(c:dX q s st)(p:WG->Bool):dF p st.γ s<=9:=by
 unfold dF;exact Nat.le_trans (Nat.le_trans List.countP_le_length (by simp)) c.n0.2.2.2
variable(hP:q.P=Try.prog){num:Nat}{K:List (Nat×Obj)}{Ch:Nat->Goroutine->St aJ->Prop}
variable{b₁:Frame}{a₁:Act}{ops₁:Array Oper}{i₁:Nat}{rest₁:List Nat}{k₁:List Item}{cs₁:List Frame}
noncomputable def Ub:Code:=Try.f42.body.getD .skip
include hP
theorem aG0(hT:∀st':St aJ,nP s .ad 0 num K st'->Inv q st'->TT (cfg q) 0 Ch (G (b₁.at (a₁.put ((ops₁[i₁]?).bind (·.dst)) (.tuple #[])) (.inRegion ops₁ rest₁::k₁)) cs₁) st'){st:St aJ}(hA:nP s .sp 0 num K st):
  TT (cfg q) 0 Ch (G ((base 42).at ⟨#[.pointer (some ⟨s.Wg,0,none⟩),.int .i64 1,undef,undef,undef,undef,undef,undef,undef,undef,undef,undef,undef,undef,undef,undef,undef,undef,undef,undef,undef,undef,undef,undef,undef,undef,undef,undef,undef,undef,undef,undef,undef,undef,undef,undef,undef,undef,undef,undef,undef,undef,undef,undef,undef,undef,undef,undef,undef,undef,undef,undef,undef,undef,undef,undef,undef,undef,undef,undef,undef,undef,undef,undef,undef,undef,undef,undef,undef,undef,undef,undef,undef,undef,undef,undef,undef,undef,undef,undef,undef,undef,undef,undef,undef,undef,undef,undef,undef,undef,undef,undef,undef,undef,undef,undef,undef,undef,undef,undef,undef,undef,undef,undef,undef,undef,undef,undef,undef,undef,undef,undef,undef,undef,undef,undef,undef],[]⟩ [.code Ub]) (b₁.at a₁ (.inRegion ops₁ (i₁::rest₁)::k₁)::cs₁)) st:=by
 simp only[Ub,Try.f42,Option.getD_some];refine TT.jH hP hA 80 fun w₀ hF=>?_
 repeat w_go aH
 refine Goes.stop (fun w₁ r₁=>⟨rfl,?_⟩);clear hF w₀;refine TT.PV hP hA fun ah au hI₁ aB _ _=>⟨_,_,_,.sp,ah.γ.gs,ah.γ.gm,stepG_mark0 .disable (by simp) rfl rfl (by k_ne) rfl Try.func80 rF rW qX f_disable,rfl,Bg .disable (by simp),⟨rfl,fun _ _=>rfl,.refl _,rfl⟩,aB.qV,by simp,by simp,by have:=aB.uh;rw[au.mw]at this;exact this,fun ay aC aT _ _=>?_⟩
 clear aB hI₁ au;refine TT.jH hP aC 80 fun w₀ hF=>?_
 walk_nrm
 repeat w_go aH
 u_defer aH hF
 repeat w_go aH
 u_in aH hF
 rw[stepG_entry_pure (.bool false) rfl rfl (by k_ne) rfl Try.func82 aq5 av9 an7 au9];simp only[goes_go];refine⟨by u_nil,?_⟩;walk_nrm
 repeat w_go aH
 u_call Try.func86 XJ Try.f86 aH hF
 repeat w_go aH
 refine Goes.stop (fun w₁ r₁=>⟨rfl,?_⟩);clear hF w₀;refine TT.PV hP aC fun bH aQ bF aX _ _=>?_
 have hL:=aX.uh;rw[aQ.mw]at hL;obtain⟨w1,w2,w3,w4,w5⟩:=hL;have Yh:=Oe aX WG.cd;have hw:=aX.qV;rw[w1,w2]at hw;generalize hcc:dF WG.cd bH.γ s=c at*;have e1:IntKind.u64.wrap (((c*4294967296:Nat):Int)+4294967296)=(((c+1)*4294967296:Nat):Int):=by rw[IntKind.wrap_u64];omega
 refine⟨_,_,_,.ad,(c+1)*4294967296,0,(stepG_add_atomic rfl rfl (by k_ne) rfl Try.func112 I9 JB Ij .u64 Jr rfl rfl hw.cellSt (hw.thaw 0)).trans (by rw[e1];rfl),rfl,YK 0 (by omega),Sz 0 _,hw.setSt _,by simp,by simp,?_,fun bM aI bY Np _=>?_⟩
 ·exact⟨rfl,rfl,w3,w4,w5⟩
 clear hw e1 w1 w2 w3 w4 w5 hcc aX bF aQ Np;have hS0:(((c+1)*4294967296:Nat):Int)=((c+1:Nat):Int)*4294967296+((0:Nat):Int):=by omega
 rw[hS0];have b1:bits .and .u64 (((c+1:Nat):Int)*4294967296+((0:Nat):Int)) 2147483648=0:=st_flag (c+1) 0 (by omega) (by omega);have b2:bits .and .u64 (((c+1:Nat):Int)*4294967296+((0:Nat):Int)) 2147483647=((0:Nat):Int):=st_waiters (c+1) 0 (by omega) (by omega);have a1:(((c+1:Nat):Int)*4294967296+((0:Nat):Int))/4294967296=((c+1:Nat):Int):=by omega
 have a2:0<=((c+1:Nat):Int)*4294967296+((0:Nat):Int)/\((c+1:Nat):Int)*4294967296+((0:Nat):Int)<9223372036854775808:=by omega
 generalize((c+1:Nat):Int)*4294967296+((0:Nat):Int)=S at*;simp only[Int.natCast_zero]at b2;have b3:IntKind.wrap .u32 0=0:=by decide
 obtain⟨V,hV⟩:∃V:Int,V=((c+1:Nat):Int):=⟨_,rfl⟩;rw[<-hV]at a1;have v1:IntKind.wrap .i32 V=V:=by rw[IntKind.wrap_i32];omega
 have v2:(0:Int)<V:=by omega
 have v3:¬V<0:=by omega
 have hdm:deafBehind (deafBehind 0 #[⟨.mark .disable,false,true⟩]) #[⟨.cell (stA s.Wg),false,true⟩,⟨.cell (stA s.Wg),true,true⟩]=1:=rfl;replace aI:nP s .ad 1 num K bM:=aI;clear hdm aC aT hS0;refine TT.jH hP aI 200 fun w₀ hF=>?_
 walk_nrm;by_cases hc0:c=0
 ·have hV1:V=1:=by omega
  subst hV1;clear hV Yh hc0 v2 v3 v1;have v1:IntKind.wrap .i32 1=1:=by decide
  repeat w_go aH
  u_leave1 Try.func86 aH hF
  repeat w_go aH
  m_convG Try.prog Try.underlying157 WC an4 hF.2.choose_spec aH hF
  refine Goes.stop (fun w₁ r₁=>⟨rfl,?_⟩);clear hF w₀;refine TT.PV hP aI fun aV bg dD bI _ _=>⟨_,_,_,.ad,aV.γ.gs,aV.γ.gm,stepG_markAt .read (by simp) rfl rfl (by k_ne) rfl Try.func87 ae7 al4 aa3 aj6 (ad:=⟨s.Wg,1,none⟩) (by simp[Act.eval]<;>rfl),rfl,YJ,⟨rfl,fun _ _=>rfl,.refl _,rfl⟩,bI.qV,by simp,by simp,by have:=bI.uh;rw[bg.mw]at this;exact this,fun eH bf dK _ _=>?_⟩
  replace bf:nP s .ad 1 num K eH:=bf;refine TT.jH hP bf 200 fun w₀ hF=>?_
  walk_nrm
  repeat w_go aH
  refine Goes.stop (fun w₁ r₁=>⟨rfl,?_⟩);clear hF w₀;refine TT.PV hP bf fun stA JZ hIA Vg _ _=>⟨_,_,_,.ad,stA.γ.gs,stA.γ.gm,stepG_unwind_entry (v:=.tuple #[]) rfl Try.func81 iU jd iT f_enable (by simp[Extern.Race.none_]) (by simp) (by intro x hx;simp at hx;subst hx;exact⟨rfl,fun g h=>by cases h⟩),rfl,Bg .enable (by simp),⟨rfl,fun _ _=>rfl,.refl _,rfl⟩,Vg.qV,by simp,by simp,by have:=Vg.uh;rw[JZ.mw]at this;exact this,fun stB hAB hIB _ _=>?_⟩
  refine TT.jH hP hAB 40 fun w₀ hF=>?_
  u_leave0 Try.func42 aH hF
  refine Goes.stop (fun w₁ r₁=>⟨rfl,?_⟩);exact hT stB (by have e:deafBehind 1 #[⟨.mark .enable,false,true⟩]=0:=rfl;rw[<-e];exact hAB) hIB
 ·have hV1:(V==1)=false:=by simp;omega
  clear hV Yh hc0
  repeat w_go aH
  u_leave1 Try.func86 aH hF
  repeat w_go aH
  refine Goes.stop (fun w₁ r₁=>⟨rfl,?_⟩);clear hF w₀;refine TT.PV hP aI fun stA JZ hIA Vg _ _=>⟨_,_,_,.ad,stA.γ.gs,stA.γ.gm,stepG_unwind_entry (v:=.tuple #[]) rfl Try.func81 iU jd iT f_enable (by simp[Extern.Race.none_]) (by simp) (by intro x hx;simp at hx;subst hx;exact⟨rfl,fun g h=>by cases h⟩),rfl,Bg .enable (by simp),⟨rfl,fun _ _=>rfl,.refl _,rfl⟩,Vg.qV,by simp,by simp,by have:=Vg.uh;rw[JZ.mw]at this;exact this,fun stB hAB hIB _ _=>?_⟩
  refine TT.jH hP hAB 40 fun w₀ hF=>?_
  u_leave0 Try.func42 aH hF
  refine Goes.stop (fun w₁ r₁=>⟨rfl,?_⟩);exact hT stB (by have e:deafBehind 1 #[⟨.mark .enable,false,true⟩]=0:=rfl;rw[<-e];exact hAB) hIB
end
end
section
open Go.ConcM (OsLater)
section
variable{q:ig}{s:aO}
variable(hP:q.P=Try.prog){num:Nat}{K:List (Nat×Obj)}{Ch:Nat->Goroutine->St aJ->Prop}
variable{b₁:Frame}{a₁:Act}{ops₁:Array Oper}{i₁:Nat}{rest₁:List Nat}{k₁:List Item}{cs₁:List Frame}
noncomputable def uH:Code:=Try.f49.body.getD .skip
noncomputable def waitLoop:Code:=(iy uH).getD .skip
def bp5(q:ig)(s:aO)(num:Nat)(K:List (Nat×Obj))(Ch:Nat->Goroutine->St aJ->Prop)(b₁:Frame)(a₁:Act)(ops₁:Array Oper)(i₁:Nat)(rest₁:List Nat)(k₁:List Item)(cs₁:List Frame):Prop:=
 ∀ay,jX 0 num K ay->Inv q ay->FU q s ay.w->
    (∃Z:Array Value,ay.w.heap[s.Zb]?=some (.cells Z q.tZ)/\Z.size=s.n/\∀k,k<s.n->Z[k]?=some (s.zv k))->(∃R:Array Value,ay.w.heap[s.Rb]?=some (.cells R q.tR)/\R.size=s.n/\∀k,k<s.n->R[k]?=some (s.rv k))->
    (∀l b,l.isMemory=true->fE l=some b->b<ay.w.heap.size->¬ay.γ.dead b->ay.γ.ex 0 l)->¬ay.γ.dead s.Gb->¬ay.γ.dead s.Zb->¬ay.γ.dead s.Rb->TT (cfg q) 0 Ch (G (b₁.at (a₁.put ((ops₁[i₁]?).bind (·.dst)) (.tuple #[])) (.inRegion ops₁ rest₁::k₁)) cs₁) ay
include hP
theorem OW(hT:bp5 q s num K Ch b₁ a₁ ops₁ i₁ rest₁ k₁ cs₁)(hnum:num=s.n0+s.n):∀(μ:Nat) (mw:MW) (st:St aJ),(mw=.sp\/mw=.wt)->nP s mw 1 num K st->qL st.γ s<=μ->∀(j1 j2 j3 j4 j5 j6 j7 j8 j9 j10 j11 j12 j13 j14 j15 j16 j17 j18 j19 j20 j21 j22 j23 j24 j25 j26 j27 j28 j29 j30 j31 j32 j33 j34 j35 j36 j37 j38 j39 j40 j41 j42 j43 j44 j45 j46 j47 j48 j49 j50 j51 j52 j53 j54 j55 j56 j57 j58 j59 j60 j61 j62 j63 j64 j65 j66 j67 j68 j69 j70 j71 j72 j73 j74 j75 j76 j77 j78 j79 j80 j81 j82 j83:Value),TT (cfg q) 0 Ch (G ((base 49).at ⟨#[.pointer (some ⟨s.Wg,0,none⟩),j1,j2,j3,j4,j5,j6,j7,j8,j9,j10,j11,j12,j13,j14,j15,j16,j17,j18,j19,j20,j21,j22,j23,j24,j25,j26,j27,j28,j29,j30,j31,j32,j33,j34,j35,j36,j37,j38,j39,j40,j41,j42,j43,j44,j45,j46,j47,j48,j49,j50,j51,j52,j53,j54,j55,j56,j57,j58,j59,j60,j61,j62,j63,j64,j65,j66,j67,j68,j69,j70,j71,j72,j73,j74,j75,j76,j77,j78,j79,j80,j81,j82,j83],[]⟩ [.code waitLoop,.inLoop waitLoop,.inBlock 0]) (b₁.at a₁ (.inRegion ops₁ (i₁::rest₁)::k₁)::cs₁)) st:=by
 intro μ
 induction μ using Nat.strongRecOn with
 |_ μ ih=>
 intro mw st hmw hA hμ j1 j2 j3 j4 j5 j6 j7 j8 j9 j10 j11 j12 j13 j14 j15 j16 j17 j18 j19 j20 j21 j22 j23 j24 j25 j26 j27 j28 j29 j30 j31 j32 j33 j34 j35 j36 j37 j38 j39 j40 j41 j42 j43 j44 j45 j46 j47 j48 j49 j50 j51 j52 j53 j54 j55 j56 j57 j58 j59 j60 j61 j62 j63 j64 j65 j66 j67 j68 j69 j70 j71 j72 j73 j74 j75 j76 j77 j78 j79 j80 j81 j82 j83;have hL0:∀(c d2 d3 d4 st sm:Nat),yO mw c d2 d3 d4 st sm->st=c*4294967296/\sm=0/\d2=0/\d3=0/\d4=0:=by
  intro c d2 d3 d4 st sm h;rcases hmw with rfl|rfl<;>exact h
 replace hL0:=Hd.mk hL0;simp only[waitLoop,uH,iy,Try.f49,Option.getD_some];refine TT.jH hP hA 80 fun w₀ hF=>?_
 repeat w_go aH
 u_call Try.func88 I7 Try.f88 aH hF
 repeat w_go aH
 refine Goes.stop (fun w₁ r₁=>⟨rfl,?_⟩);clear hF w₀;refine TT.PV hP hA fun ah au hI₁ aB p1 p2=>?_
 have hL:=aB.uh;rw[au.mw]at hL;obtain⟨w1,w2,w3,w4,w5⟩:=hL0.un _ _ _ _ _ _ hL;have Yh:=Oe aB WG.cd;have hw:=aB.qV;rw[w1,w2]at hw;by_cases hc0:dF WG.cd ah.γ s=0
 ·
  rw[hc0]at hw w1;refine⟨_,_,_,.lI,0,0,stepG_load_atomic rfl rfl (by k_ne) rfl Try.func113 I8 JA Ii .u64 Jq rfl hw.cellSt,rfl,TF 0 (by omega),⟨rfl,fun _ _=>rfl,.refl _,rfl⟩,hw,by simp,fun _=>hnum,by rw[hc0];exact⟨rfl,rfl,rfl,w3,w4,w5⟩,fun ay aC aT _ _=>?_⟩;replace aC:nP s .lI 1 num K ay:=aC;clear hw w1 w2 w3 w4 w5 hc0 Yh aB hI₁ au p1 p2 hL ih hμ;have b2:bits .and .u64 0 2147483647=0:=by decide
  have b3:IntKind.wrap .u32 0=0:=by decide
  have b4:IntKind.wrap .i32 0=0:=by decide
  refine TT.jH hP aC 80 fun w₀ hF=>?_
  simp only[Nat.zero_mul,Int.natCast_zero];walk_nrm
  repeat w_go aH
  u_leave1 Try.func88 aH hF
  repeat w_go aH
  refine Goes.stop (fun w₁ r₁=>⟨rfl,?_⟩);clear hF w₀;refine TT.PV hP aC fun bH aQ bF aX _ _=>⟨_,_,_,.lI,bH.γ.gs,bH.γ.gm,stepG_mark0 .enable (by simp) rfl rfl (by k_ne) rfl Try.func81 iU jd iT f_enable,rfl,Bg .enable (by simp),⟨rfl,fun _ _=>rfl,.refl _,rfl⟩,aX.qV,by simp,fun _=>hnum,by have:=aX.uh;rw[aQ.mw]at this;exact this,fun bM aI bY _ _=>?_⟩
  replace aI:nP s .lI 0 num K bM:=aI;clear aX bF aQ aC aT;refine TT.jH hP aI 80 fun w₀ hF=>?_
  walk_nrm
  repeat w_go aH
  m_convG Try.prog Try.underlying157 WB ax3 hF.1.choose_spec aH hF
  refine Goes.stop (fun w₁ r₁=>⟨rfl,?_⟩);clear hF w₀;refine TT.join hP aI fun aV bg dD bI=>⟨_,stepG_markAt .acquire (by simp) rfl rfl (by k_ne) rfl Try.func94 RV TS QF Tv (by simp[Act.eval];rfl),rfl,fun eH bf dK f1 f2 f3 f4 f5 f6 f7=>?_⟩
  refine TT.qw hP 80 fun w₀ hF=>?_
  walk_nrm
  repeat w_go eY
  u_leave0 Try.func49 eY hF
  exact Goes.stop (fun w₁ r₁=>⟨rfl,hT eH bf dK f1 f2 f3 f4 f5 f6 f7⟩)
 ·refine⟨_,_,_,.wt,dF WG.cd ah.γ s*4294967296,0,stepG_load_atomic rfl rfl (by k_ne) rfl Try.func113 I8 JA Ii .u64 Jq rfl hw.cellSt,rfl,TF 0 (by omega),⟨rfl,fun _ _=>rfl,.refl _,rfl⟩,hw,by simp,fun _=>hnum,⟨rfl,rfl,w3,w4,w5⟩,fun ay aC aT hg₂ aI7=>?_⟩;replace aC:nP s .wt 1 num K ay:=aC;have P7:qL ay.γ s<=μ:=by omega
  clear hw w1 w2 w3 w4 w5 aB hI₁ au p1 p2 hL aI7 hμ;generalize dF WG.cd ah.γ s=c at*;have hS0:((c*4294967296:Nat):Int)=((c:Nat):Int)*4294967296+((0:Nat):Int):=by omega
  rw[hS0];have b1:bits .and .u64 (((c:Nat):Int)*4294967296+((0:Nat):Int)) 2147483648=0:=st_flag c 0 (by omega) (by omega);have b2:bits .and .u64 (((c:Nat):Int)*4294967296+((0:Nat):Int)) 2147483647=((0:Nat):Int):=st_waiters c 0 (by omega) (by omega);have a1:(((c:Nat):Int)*4294967296+((0:Nat):Int))/4294967296=((c:Nat):Int):=by omega
  have a2:0<=((c:Nat):Int)*4294967296+((0:Nat):Int)/\((c:Nat):Int)*4294967296+((0:Nat):Int)<9223372036854775808:=by omega
  obtain⟨S,hS⟩:∃S:Int,S=((c:Nat):Int)*4294967296+((0:Nat):Int):=⟨_,rfl⟩;rw[<-hS]at b1 b2 a1 a2 ⊢;have a3:IntKind.wrap .u64 (S+1)=S+1:=by rw[IntKind.wrap_u64];omega
  obtain⟨V,hV⟩:∃V:Int,V=(c:Int):=⟨_,rfl⟩;rw[<-hV]at a1;have v1:IntKind.wrap .i32 V=V:=by rw[IntKind.wrap_i32];omega
  have v2:(V==0)=false:=by simp;omega
  have b3:IntKind.wrap .u32 0=0:=by decide
  simp only[Int.natCast_zero]at b2;replace hS:=Hd.mk hS;replace hV:=Hd.mk hV;replace hg₂:=Hd.mk hg₂;replace hc0:=Hd.mk hc0;replace Yh:=Hd.mk Yh;clear hS0;refine TT.jH hP aC 160 fun w₀ hF=>?_
  walk_nrm
  repeat w_go aH
  u_leave1 Try.func88 aH hF
  repeat w_go aH
  u_call Try.func96 aF0 Try.f96 aH hF
  repeat w_go aH
  refine Goes.stop (fun w₁ r₁=>⟨rfl,?_⟩);clear hF w₀;refine TT.PV hP aC fun bH aQ bF aX p1 p2=>?_
  have hL:=aX.uh;rw[aQ.mw]at hL;obtain⟨w1,w2,w3,w4,w5⟩:=hL;have hw:=aX.qV;rw[w2]at hw;have hSv:((c*4294967296:Nat):Int)=S:=by have:=hS.un;omega
  by_cases hhit:bH.γ.gs=c*4294967296
  ·
   have hcc:dF WG.cd bH.γ s=c:=by omega
   rw[hhit,hSv]at hw;have hS1:S+1=((c*4294967296+1:Nat):Int):=by omega
   refine⟨_,_,_,.rg,c*4294967296+1,0,stepG_cas_hit rfl rfl (by k_ne) rfl Try.func117 RJ TR QE .u64 Tt rfl rfl rfl hw.cellSt (hw.thaw 0),rfl,YK 0 (by omega),Sz 0 _,by have:=hw.setSt (S+1);rw[hS1]at this;rw[hS1];exact this,by simp,fun _=>hnum,by rw[hcc];exact .inl ⟨by have:=hc0.un;omega,rfl,rfl,w3,w4,w5⟩,fun bM aI bY Np _=>?_⟩;replace aI:nP s .rg 1 num K bM:=aI;clear hw w1 w2 w3 w4 w5 hcc hhit aX bF aQ p1 p2 ih P7 hg₂ Np hS1 hSv aC aT;refine TT.jH hP aI 160 fun w₀ hF=>?_
   walk_nrm
   repeat w_go aH
   u_leave1 Try.func96 aH hF
   repeat w_go aH
   m_convG Try.prog Try.underlying157 WC an4 hF.2.choose_spec aH hF
   refine Goes.stop (fun w₁ r₁=>⟨rfl,?_⟩);clear hF w₀;refine TT.PV hP aI fun aV bg dD bI _ _=>⟨_,_,_,.rg,aV.γ.gs,aV.γ.gm,stepG_markAt .write (by simp) rfl rfl (by k_ne) rfl Try.func97 XM Ze Wn YG (ad:=⟨s.Wg,1,none⟩) (by simp[Act.eval]<;>rfl),rfl,Vk,⟨rfl,fun _ _=>rfl,.refl _,rfl⟩,bI.qV,by simp,fun _=>hnum,by have:=bI.uh;rw[bg.mw]at this;exact this,fun eH bf dK _ _=>?_⟩
   replace bf:nP s .rg 1 num K eH:=bf;clear bI dD bg aI bY;refine TT.jH hP bf 160 fun w₀ hF=>?_
   walk_nrm
   repeat w_go aH
   refine Goes.stop (fun w₁ r₁=>⟨rfl,?_⟩);clear hF w₀;refine TT.by1 hP bf hnum rfl rfl (fun w hc=>stepG_semacquire_wait rfl rfl rfl Try.func98 XF Zc Wh YD (by simp[Act.eval];rfl) hc) (fun w hc hz=>stepG_semacquire rfl rfl (by k_ne) rfl Try.func98 XF Zc Wh YD (by simp[Act.eval];rfl) hc (by simp) hz) fun eF gY nJ=>?_
   clear bf dK;refine TT.jH hP gY 160 fun w₀ hF=>?_
   walk_nrm
   repeat w_go aH
   u_call Try.func88 I7 Try.f88 aH hF
   repeat w_go aH
   refine Goes.stop (fun w₁ r₁=>⟨rfl,?_⟩);clear hF w₀;refine TT.PV hP gY fun yU lF BU Yt _ _=>?_
   have hL:=Yt.uh;rw[lF.mw]at hL;have hgs:yU.γ.gs=0:=hL.2.1;have hgm:yU.γ.gm=0:=hL.2.2.1;have hw:=Yt.qV;rw[hgs,hgm]at hw;rw[hgs,hgm]at hL;refine⟨_,_,_,.lI,0,0,stepG_load_atomic rfl rfl (by k_ne) rfl Try.func113 I8 JA Ii .u64 Jq rfl hw.cellSt,rfl,TF 0 (by omega),⟨rfl,fun _ _=>rfl,.refl _,rfl⟩,hw,by simp,fun _=>hnum,hL,fun WL uq Tj _ _=>?_⟩;replace uq:nP s .lI 1 num K WL:=uq;clear hw hL hgs hgm Yt BU lF gY nJ;refine TT.jH hP uq 80 fun w₀ hF=>?_
   simp only[Int.natCast_zero];walk_nrm
   repeat w_go aH
   u_leave1 Try.func88 aH hF
   repeat w_go aH
   refine Goes.stop (fun w₁ r₁=>⟨rfl,?_⟩);clear hF w₀;refine TT.PV hP uq fun bH aQ bF aX _ _=>⟨_,_,_,.lI,bH.γ.gs,bH.γ.gm,stepG_mark0 .enable (by simp) rfl rfl (by k_ne) rfl Try.func81 iU jd iT f_enable,rfl,Bg .enable (by simp),⟨rfl,fun _ _=>rfl,.refl _,rfl⟩,aX.qV,by simp,fun _=>hnum,by have:=aX.uh;rw[aQ.mw]at this;exact this,fun bM aI bY _ _=>?_⟩
   replace aI:nP s .lI 0 num K bM:=aI;clear aX bF aQ;refine TT.jH hP aI 80 fun w₀ hF=>?_
   walk_nrm
   repeat w_go aH
   m_convG Try.prog Try.underlying157 WB ax3 hF.1.choose_spec aH hF
   refine Goes.stop (fun w₁ r₁=>⟨rfl,?_⟩);clear hF w₀;refine TT.join hP aI fun aV bg dD bI=>⟨_,stepG_markAt .acquire (by simp) rfl rfl (by k_ne) rfl Try.func94 RV TS QF Tv (by simp[Act.eval];rfl),rfl,fun eH bf dK f1 f2 f3 f4 f5 f6 f7=>?_⟩
   refine TT.qw hP 80 fun w₀ hF=>?_
   walk_nrm
   repeat w_go eY
   u_leave0 Try.func49 eY hF
   exact Goes.stop (fun w₁ r₁=>⟨rfl,hT eH bf dK f1 f2 f3 f4 f5 f6 f7⟩)
  ·
   have hlt:qL bH.γ s<μ:=by
    refine Nat.lt_of_le_of_ne (Nat.le_trans p1 P7) fun e=>?_
    have:=p2 (by omega);have:=hg₂.un;omega
   have hmiss:((bH.γ.gs:Nat):Int)≠S:=by omega
   refine⟨_,_,_,.wt,bH.γ.gs,0,stepG_cas_miss rfl rfl (by k_ne) rfl Try.func117 RJ TR QE .u64 Tt rfl rfl rfl hw.cellSt (hw.thaw 0) hmiss,rfl,TF 0 (by omega),⟨rfl,fun _ _=>rfl,.refl _,rfl⟩,hw,by simp,fun _=>hnum,⟨w1,rfl,w3,w4,w5⟩,fun bM aI bY Np aI6=>?_⟩;replace aI:nP s .wt 1 num K bM:=aI;have hps:qL bM.γ s<μ:=by omega
   clear hw w1 w2 w3 w4 w5 aX bF aQ p1 p2 P7 hg₂ Np hSv aC aT hhit hmiss hlt aI6;refine TT.jH hP aI 160 fun w₀ hF=>?_
   walk_nrm
   repeat w_go aH
   u_leave1 Try.func96 aH hF
   repeat w_nl aH
   u_c stepG_inLoop aH hF
   refine Goes.stop (fun w₁ r₁=>⟨rfl,?_⟩);clear hF w₀;exact ih _ hps .wt bM (.inr rfl) aI (Nat.le_refl _) ..
end
end
section
open Go.ConcM (OsLater)
section
variable{q:ig}{s:aO}
variable(hP:q.P=Try.prog){num:Nat}{K:List (Nat×Obj)}{Ch:Nat->Goroutine->St aJ->Prop}
variable{b₁:Frame}{a₁:Act}{ops₁:Array Oper}{i₁:Nat}{rest₁:List Nat}{k₁:List Item}{cs₁:List Frame}
include hP
theorem waitGo(hT:bp5 q s num K Ch b₁ a₁ ops₁ i₁ rest₁ k₁ cs₁)(hnum:num=s.n0+s.n){st:St aJ}(hA:nP s .sp 0 num K st):
  TT (cfg q) 0 Ch (G ((base 49).at ⟨#[.pointer (some ⟨s.Wg,0,none⟩),undef,undef,undef,undef,undef,undef,undef,undef,undef,undef,undef,undef,undef,undef,undef,undef,undef,undef,undef,undef,undef,undef,undef,undef,undef,undef,undef,undef,undef,undef,undef,undef,undef,undef,undef,undef,undef,undef,undef,undef,undef,undef,undef,undef,undef,undef,undef,undef,undef,undef,undef,undef,undef,undef,undef,undef,undef,undef,undef,undef,undef,undef,undef,undef,undef,undef,undef,undef,undef,undef,undef,undef,undef,undef,undef,undef,undef,undef,undef,undef,undef,undef,undef],[]⟩ [.code uH]) (b₁.at a₁ (.inRegion ops₁ (i₁::rest₁)::k₁)::cs₁)) st:=by
 simp only[uH,Try.f49,Option.getD_some];refine TT.jH hP hA 80 fun w₀ hF=>?_
 repeat w_go aH
 refine Goes.stop (fun w₁ r₁=>⟨rfl,?_⟩);clear hF w₀;refine TT.PV hP hA fun ah au hI₁ aB _ _=>⟨_,_,_,.sp,ah.γ.gs,ah.γ.gm,stepG_mark0 .disable (by simp) rfl rfl (by k_ne) rfl Try.func80 rF rW qX f_disable,rfl,Bg .disable (by simp),⟨rfl,fun _ _=>rfl,.refl _,rfl⟩,aB.qV,by simp,by simp,by have:=aB.uh;rw[au.mw]at this;exact this,fun ay aC aT _ _=>?_⟩
 replace aC:nP s .sp 1 num K ay:=aC;clear aB hI₁ au;refine TT.jH hP aC 80 fun w₀ hF=>?_
 walk_nrm
 repeat w_but "code.loop" aH
 u_c stepG_loop aH hF
 refine Goes.stop (fun w₁ r₁=>⟨rfl,?_⟩);clear hF w₀;have h:=OW hP hT hnum (qL ay.γ s) .sp ay (.inl rfl) aC (Nat.le_refl _);simp only[waitLoop,uH,iy,Try.f49,Option.getD_some]at h;exact h ..
end
end
section
section
variable{q:ig}(hP:q.P=Try.prog){i:Nat}{s:aO}{x:Wk}{Ch:Nat->Goroutine->St aJ->Prop}
variable{b₁:Frame}{a₁:Act}{ops₁:Array Oper}{i₁:Nat}{rest₁:List Nat}{k₁:List Item}{cs₁:List Frame}
noncomputable def Gv:Code:=Try.f47.body.getD .skip
theorem dX.share{st:St aJ}(h:dX q s st)(hD:st.γ.D=1){id:Nat}(i1:1<=id)(i2:id<=s.nn):st.w.cell? ⟨s.Gb,6+id,none⟩=some (.int .u64 (s.vals id)):=by
 obtain⟨C,h1,h2,h3,h4,h5,h6,h7,h8,h9,h10⟩:=h.gb;simp only[World.cell?,h1];exact h10 hD id i1 i2
include hP
theorem ab1(hx:x.wg=.work)(hnn:s.nn<=9)(hW:BA q i Ch s x){id:Nat}(i1:1<=id)(i2:id<=s.nn)
  (hT:∀(mx:MX) (st':St aJ),mx=.fresh\/mx=.out->At s i {x with mx:=mx,df:=0,syn:=true} st'->Inv q st'->TT (cfg q) i Ch (G (b₁.at (a₁.put ((ops₁[i₁]?).bind (·.dst)) (.int .u64 (s.vals id))) (.inRegion ops₁ rest₁::k₁)) cs₁) st')
  {st:St aJ}(hA:At s i {x with mx:=.fresh,df:=0} st):
  TT (cfg q) i Ch (G ((base 47).at ⟨#[.pointer (some ⟨s.Gb,0,none⟩),.int .i64 id,undef,undef,undef,undef,undef,undef,undef,undef,undef,undef,undef,undef,undef,undef,undef],[]⟩ [.code Gv]) (b₁.at a₁ (.inRegion ops₁ (i₁::rest₁)::k₁)::cs₁)) st:=by
 have hmf:∀(fn:Fn) (first cap:Array Value) (w:World),(Instr.makeFunc fn first cap).run Try.prog w=.ok (.func fn first cap) w:=fun _ _ _ _=>rfl
 have hme:∀(fn:Fn) (first cap:Array Value) (w:World) (es:Array Event),(Instr.makeFunc fn first cap).events Try.prog w es=es:=fun _ _ _ _ _=>rfl
 have q1:(0:Int)<=(id:Int):=by omega
 have q2:(id:Int)<10:=by omega
 have q3:id<10:=by omega
 have hix:∀(w:World) (es:Array Event),(Instr.indexAt 141 (.pointer (some ⟨s.Gb,6,none⟩)) (.int .i64 (id:Int))).events Try.prog w es=es:=fun w es=>events_indexAt_array _ _ 10 _ _ _ Try.underlying141 ⟨q1,by simpa using q2⟩
 simp only[Gv,Try.f47,Option.getD_some];refine TT.road hP hA (by simp[hx]) 80 fun w₀ hF=>?_
 repeat w_go aj
 u_call Try.func92 a99 Try.f92 aj hF
 refine Goes.stop (fun w₁ r₁=>⟨rfl,?_⟩);clear hF w₀;refine bE0 hP hx hnn hW ?_ hA;intro mx ah hm au hI₁;walk_nrm;refine TT.road hP au (by simp[hx]) 80 fun w₀ hF=>?_
 repeat w_go aj
 refine Goes.stop (fun w₁ r₁=>⟨rfl,?_⟩);clear hF w₀;refine TT.load hP au hx rfl rfl (by k_ne) rfl rfl (fun ay hr hi aC=>⟨(hi.aZ s aC.sc).p.Xc i aC.lo (by rw[aC.me]) (6+id) (by omega) (by omega),aq9 ((hi.aZ s aC.sc).c.share ((hi.aZ s aC.sc).c.syn i aC.lo (by rw[aC.me])) i1 i2)⟩) fun bH G7 bF aQ=>?_
 refine TT.road hP aQ (by simp[hx]) 80 fun w₀ hF=>?_
 walk_nrm
 repeat w_go aj
 u_leave1 Try.func47 aj hF
 exact Goes.stop (fun w₁ r₁=>⟨rfl,hT mx bH hm aQ bF⟩)
end
end
section
open Pl ny oI ni Mem oG Dl
open qj hiding base
def Box(K:List (Nat×Obj))(b:Nat)(v:Value):Prop:=∃C e fz,(b,Obj.cells C e fz)∈K/\C[0]?=some v
def fQ(nv cv:Int)(cs:List Int)(l:List Cm)(msg:ByteArray)(k:Nat):Bool:=
 decide (nv<1073741789)&&decide (pw 4 nv.toNat 2147483579=mV (lV l (cs.getD 0 0) msg k) (pw (pub cs (l.getD k .zero).id) (smul cv (fF (gV l l.length) k)).toNat 2147483579))
structure JH(q:ig)(s:aO)(K:List (Nat×Obj))(k:Nat)(nv cv:Int)(Pb gc lb:Nat)(cs:List Int)(l:List Cm)(msg:ByteArray)(bn bz bk bp bx bc br:Nat):Prop where
 hn:Box K bn (.int .u64 nv)
 hz:∃cap,Box K bz (.slice (some ⟨s.Zb,0,none⟩) s.n cap)
 hk:Box K bk (.int .i64 k)
 hp:Box K bp (.pointer (some ⟨Pb,0,none⟩))
 hx:Box K bx (.pointer (some ⟨s.Gb,0,none⟩))
 hc:Box K bc (.int .u64 cv)
 hr:∃cap,Box K br (.slice (some ⟨s.Rb,0,none⟩) s.n cap)
 pk:∃C e fz cap,(Pb,Obj.cells C e fz)∈K/\C.size=3/\C[0]?=some (.pointer (some ⟨s.Gb,0,none⟩))/\C[1]?=some (.slice (some ⟨lb,0,none⟩) l.length cap)/\C[2]?=some (.string msg)/\l.length<=cap
 gcB:∃C e fz,(gc,Obj.cells C e fz)∈K/\cs.length<=C.size/\∀j,j<cs.length->C[j]?=some (.int .u64 (cs.getD j 0))
 lbB:∃C e fz,(lb,Obj.cells C e fz)∈K/\3*l.length<=C.size/\∀j u,j<3*l.length->(aU l)[j]?=some u->C[j]?=some u
 gp:gc≠Pb
 lp:lb≠Pb
 lg:lb≠gc
 low:q.P.globals.size<=Pb/\q.P.globals.size<=gc/\q.P.globals.size<=lb/\q.P.globals.size<=s.Gb
 g0:∃t,s.g0=.int .i64 t
 g1:s.g1=.int .i64 s.nn
 g2:∃cap,s.g2=.slice (some ⟨gc,0,none⟩) cs.length cap
 n9:s.nn<=9
 c9:cs.length<=9
 c0:0<cs.length
 el:∀j,j<cs.length->jM (cs.getD j 0)=true
 vs:∀id:Nat,1<=id->id<=s.nn->s.vals id=pub cs id
 gd:ni.Good s.nn l
 l9:l.length<=9
 kl:k<l.length
 ln:l.length=s.n
 ms:msg.size<=1000000
 nb:0<=nv/\nv<18446744073709551616
 cb:0<=cv/\cv<18446744073709551616
 zv:s.zv k=.int .u64 nv
 rv:s.rv k=.bool (fQ nv cv cs l msg k)
def nR(Pb Gb gc lb m n:Nat):Nat->Option Nat:=fun b=>if b=Pb then some 3 else if b=Gb then some 3 else if b=gc then some m else if b=lb then some n else none
section
variable{q:ig}{i:Nat}{s:aO}{x:Wk}{K:List (Nat×Obj)}{k:Nat}{nv cv:Int}{Pb gc lb:Nat}{cs:List Int}{l:List Cm}{msg:ByteArray}{bn bz bk bp bx bc br:Nat}
theorem At.box{st:St aJ}(hA:At s i x st)(hK:x.keep=K){b:Nat}{v:Value}(hb:Box K b v):st.γ.rd i (ca b 0)/\st.w.cell? ⟨b,0,none⟩=some v:=by
 obtain⟨C,e,fz,h1,h2⟩:=hb;rw[<-hK]at h1;obtain⟨a,b⟩:=hA.fz _ _ h1;exact⟨b 0,by simp only[World.cell?,a];exact h2⟩
theorem JH.vals(D:JH q s K k nv cv Pb gc lb cs l msg bn bz bk bp bx bc br)(hx:x.wg=.work)(hK:x.keep=K)(hP:q.P=Try.prog){Ch:Nat->Goroutine->St aJ->Prop}:BA q i Ch s x:=by
 obtain⟨cap,hg2⟩:=D.g2;obtain⟨C,e,fz,h1,h2,h3⟩:=D.gcB;exact ax9 hP hx D.n9 D.c9 D.el D.g1 hg2 D.vs (by rw[hK];exact h1) h3
theorem JH.sees(D:JH q s K k nv cv Pb gc lb cs l msg bn bz bk bp bx bc br){S:FuncId->Bool}{st:St aJ}(hA:At s i x st)(hK:x.keep=K)(hI:Inv q st):Gj q S i (nR Pb s.Gb gc lb cs.length (3*l.length)) st:=by
 obtain⟨CP,eP,fP,cap,p1,p2,p3,p4,p5,p6⟩:=D.pk;obtain⟨CG,eG,fG,g1,g2,g3⟩:=D.gcB;obtain⟨CL,eL,fL,l1,l2,l3⟩:=D.lbB;rw[<-hK]at p1 g1 l1;have aP:=hA.apart hI p1;have aG:=hA.apart hI g1;have aL:=hA.apart hI l1;have vP:nR Pb s.Gb gc lb cs.length (3*l.length) Pb=some 3:=by simp[nR]
 have vS:nR Pb s.Gb gc lb cs.length (3*l.length) s.Gb=some 3:=by simp[nR]
 have vG:nR Pb s.Gb gc lb cs.length (3*l.length) gc=some cs.length:=by simp[nR,D.gp,aG.1]
 have vL:nR Pb s.Gb gc lb cs.length (3*l.length) lb=some (3*l.length):=by simp[nR,D.lp,aL.1,D.lg]
 have iS:=rM vS;have iG:=rM vG;have iL:=rM vL;obtain⟨C0,a1,a2,a3,a4,a5⟩:=(hI.aZ s hA.sc).c.head;obtain⟨t0,ht0⟩:=D.g0;obtain⟨iP,hg2⟩:=D.g2;intro b n hv;unfold nR at hv;split at hv
 ·rename_i e;subst e;cases hv;refine⟨D.low.1,.inl (hA.fz _ _ p1).2,CP,eP,fP,(hA.fz _ _ p1).1,by omega,fun j v hj hv=>?_⟩
  match j,hj with
  |0,_=>rw[p3]at hv;cases hv;exact .ptr _ _ iS
  |1,_=>rw[p4]at hv;cases hv;exact .slice _ _ _ _ iL
  |2,_=>rw[p5]at hv;cases hv;exact .string _
  |j+3,hj=>omega
 split at hv
 ·rename_i e;subst e;cases hv;refine⟨D.low.2.2.2,.inr ⟨Nat.le_refl _,s,hA.sc,rfl⟩,C0,_,_,a1,a2,fun j v hj hv=>?_⟩
  match j,hj with
  |0,_=>rw[a3,ht0]at hv;cases hv;exact .int _ _
  |1,_=>rw[a4,D.g1]at hv;cases hv;exact .int _ _
  |2,_=>rw[a5,hg2]at hv;cases hv;exact .slice _ _ _ _ iG
  |j+3,hj=>omega
 split at hv
 ·rename_i e;subst e;cases hv;refine⟨D.low.2.1,.inl (hA.fz _ _ g1).2,CG,eG,fG,(hA.fz _ _ g1).1,g2,fun j v hj hv=>?_⟩;rw[g3 j hj]at hv;cases hv;exact .int _ _
 split at hv
 ·rename_i e;subst e;cases hv;refine⟨D.low.2.2.1,.inl (hA.fz _ _ l1).2,CL,eL,fL,(hA.fz _ _ l1).1,l2,fun j v hj hv=>?_⟩;have hlen:j<(aU l).length:=by rw[dL];omega
  have:=l3 j _ hj (List.getElem?_eq_getElem hlen);rw[this]at hv;cases hv;have hm:=List.getElem_mem hlen;generalize(aU l)[j]=u at hm ⊢;simp only[aU,List.mem_flatMap]at hm;obtain⟨c,_,hu⟩:=hm;simp only[Cm.cells,List.mem_cons,List.not_mem_nil,or_false]at hu;rcases hu with rfl|rfl|rfl<;>exact .int _ _
 ·cases hv
theorem JH.pkw(D:JH q s K k nv cv Pb gc lb cs l msg bn bz bk bp bx bc br){st:St aJ}(hA:At s i x st)(hK:x.keep=K)(hI:Inv q st)(τ:Nat->Question->Nat)(d:Nat):
  ∃lv,V7 (World.on (gu st.w (nR Pb s.Gb gc lb cs.length (3*l.length))) τ d) Pb s.Gb lv cs l msg:=by
 obtain⟨CP,eP,fP,cap,p1,p2,p3,p4,p5,p6⟩:=D.pk;obtain⟨CG,eG,fG,g1,g2,g3⟩:=D.gcB;obtain⟨CL,eL,fL,l1,l2,l3⟩:=D.lbB;rw[<-hK]at p1 g1 l1;have aP:=hA.apart hI p1;have aG:=hA.apart hI g1;have aL:=hA.apart hI l1;have vP:nR Pb s.Gb gc lb cs.length (3*l.length) Pb=some 3:=by simp[nR]
 have vS:nR Pb s.Gb gc lb cs.length (3*l.length) s.Gb=some 3:=by simp[nR]
 have vG:nR Pb s.Gb gc lb cs.length (3*l.length) gc=some cs.length:=by simp[nR,D.gp,aG.1]
 have vL:nR Pb s.Gb gc lb cs.length (3*l.length) lb=some (3*l.length):=by simp[nR,D.lp,aL.1,D.lg]
 obtain⟨C0,a1,a2,a3,a4,a5⟩:=(hI.aZ s hA.sc).c.head;obtain⟨iP,hg2⟩:=D.g2;have bP:=lU vP (hA.fz _ _ p1).1;have bS:=lU vS a1;have bG:=lU vG (hA.fz _ _ g1).1;have bL:=lU vL (hA.fz _ _ l1).1;have hs:=uJ st.w (nR Pb s.Gb gc lb cs.length (3*l.length));have cell:∀{b n:Nat} {C:Array Value} {e:TypeId},(gu st.w (nR Pb s.Gb gc lb cs.length (3*l.length))).heap[b]?=some (.cells (C.extract 0 n) e (0,n))->∀{o:Nat},o<n->n<=C.size->(World.on (gu st.w (nR Pb s.Gb gc lb cs.length (3*l.length))) τ d).cell? ⟨b,o,none⟩=C[o]?:=by
  intro b n C e hb o ho hn;show World.cell? (gu st.w _) _=_;simp only[World.cell?,hb];have e1:(C.extract 0 n)[o]?=C[o]?:=by
   rw[Array.getElem?_extract];simp only[Nat.zero_add];by_cases h:o<n-0
   ·simp;omega
   ·omega
  exact e1
 have lt:∀{b:Nat} {o:Obj},st.w.heap[b]?=some o->b<(World.on (gu st.w (nR Pb s.Gb gc lb cs.length (3*l.length))) τ d).heap.size:=fun h=>by
  show _<(gu st.w _).heap.size;rw[hs];exact lt_of_block h
 refine⟨_,⟨⟨(cell bP (by omega) (by omega)).trans p3,(cell bP (by omega) (by omega)).trans p4,(cell bP (by omega) (by omega)).trans p5⟩,lt (hA.fz _ _ p1).1,?_,gc,iP,(cell bS (by omega) (by omega)).trans (a5.trans (by rw[hg2])),lt a1,lt (hA.fz _ _ g1).1,fun h=>(cell bG h g2).trans (g3 0 h)⟩⟩;refine⟨by rw[dL],_,_,rfl,p6,fun hp=>⟨lb,0,rfl,lt (hA.fz _ _ l1).1,fun j u hj=>?_⟩⟩;have hlt:=(List.getElem?_eq_some_iff.1 hj).1;rw[dL]at hlt;rw[Nat.zero_add];exact(cell bL (by omega) l2).trans (l3 j u (by omega) hj)
variable{Ch:Nat->Goroutine->St aJ->Prop}{b:Frame}{ops:Array Oper}{kk:List Item}{cc:List Frame}{S:Array Bool->St aJ->Prop}
structure Ground(q:ig)(s:aO)(i:Nat)(K:List (Nat×Obj))(S:Array Bool->St aJ->Prop)(j:Nat):Prop where
 at_:∀l st,S l st->Inv q st/\∃x:Wk,x.wg=.work/\x.keep=K/\At s i x st
 stay:∀l st ah,S l st->Rl i st ah->Inv q ah->S l ah
 set:∀l st,l.getD j true=false->S l st->S (l.setIfInBounds j true) st
theorem kG{w:WG}(h:w=.work):w≠ .lv/\w≠ .gone/\w≠ .idle:=by rw[h];simp
theorem Does.calm{P:Program}(hP:q.P=P){j:Nat}{o:Oper}{X:Sem Next}{v:Value}(G:Ground q s i K S j)(ho:ops[j]?=some o)(hk:b.kind≠ .early)
  (hrun:∀w,X.run P w=.ok (.value v) w)(hev:∀w,X.events P w #[]=#[]):Does (cfg q) i Ch b ops kk cc S j o X v:=
 Does.quiet hP ho hk (fun l st hl hs=>by
  obtain⟨_,x,hx,_,hA⟩:=G.at_ l st hs;exact⟨⟨x,kG hx,hA⟩,fun ah hr hi=>G.stay _ _ _ (G.set l st hl hs) hr hi⟩) hrun fun a w h=>by unfold listed;rw[h,hev];exact seen_none P _
theorem Does.box{P:Program}(hP:q.P=P){j:Nat}{o:Oper}{a₀:Act}{v:Value}{bb:Nat}{t:TypeId}{y:Operand}(G:Ground q s i K S j)(ho:ops[j]?=some o)(hk:b.kind≠ .early)(hop:o.op=.load t y)(hy:a₀.eval y=.pointer (some ⟨bb,0,none⟩))(hb:Box K bb v)
  (hld:∀w:World,w.cell? ⟨bb,0,none⟩=some v->(Instr.loadAt t (.pointer (some ⟨bb,0,none⟩))).run P w=.ok v w/\(Instr.loadAt t (.pointer (some ⟨bb,0,none⟩))).events P w #[]=#[⟨.cell ⟨bb,0,none⟩,false,false⟩]):Does (cfg q) i Ch b ops kk cc S j o (execOp a₀.eval o) v:=
 Does.reads hP ho hk fun l st hl hs=>by
  obtain⟨_,x,hx,hK,hA⟩:=G.at_ l st hs;refine⟨⟨x,hx,hA⟩,fun ah hr hi=>?_⟩;have au:=hA.rely (kG hx) hr hi;obtain⟨b1,b2⟩:=au.box hK hb;obtain⟨r1,r2⟩:=hld ah.w b2;have hr':(execOp a₀.eval o).run P ah.w=.ok (.value v) ah.w:=by
   unfold execOp;simp only[hop,hy];simp[r1]
  have he':(execOp a₀.eval o).events P ah.w #[]=#[⟨.cell ⟨bb,0,none⟩,false,false⟩]:=by
   unfold execOp;simp only[hop,hy];simp[r1,r2]
  refine⟨G.stay _ _ _ (G.set l st hl hs) hr hi,hr',fun a he e hm=>?_⟩;have:=mem_listed hm;rw[he,he']at this;simp at this;exact⟨bb,0,this,b1⟩
theorem Does.lone{P:Program}(hP:q.P=P){SF:FuncId->Bool}(F:qh P SF){j:Nat}{o:Oper}{a₀:Act}{v:Value}{f:FuncId}{fn:Func}{c:Code}{ars:Array Operand}{ats:Array TypeId}{args:Array Value}(G:Ground q s i K S j)(hS:SF f=true)(ho:ops[j]?=some o)(hk:b.kind≠ .early)(hop:o.op=.call {callee:=.value (.func f),args:=ars,argTypes:=ats})
  (hf:P.funcs[f]?=some fn)(hname:(fn.name== "runtime.NumGoroutine")=false)(hb:fn.body=some c)(hargs:ars.map a₀.eval=args){vis:Nat->Option Nat}(hV:∀(x:Wk) (st:St aJ),At s i x st->x.keep=K->Inv q st->Gj q SF i vis st)
  (ha:AR (fun f=>SF f=true) (yC vis) args args)(hv:VR (fun f=>SF f=true) (yC vis) v v)(hC:∀(x:Wk) (st:St aJ) τ d,At s i x st->x.keep=K->Inv q st->Calls P f args (World.on (gu st.w vis) τ d) fun e w'=>e=.returned v)(bz3:iQ 4 v=true:=by first|rfl|simp[iQ]):Does (cfg q) i Ch b ops kk cc S j o (execOp a₀.eval o) v:=by
 refine Does.call (s:=s) hP ho hk hop hf hname hb hargs (fun l st hs=>?_) fun l a rest st hl hs fin=>?_
 ·obtain⟨_,x,hx,_,hA⟩:=G.at_ l st hs;exact⟨⟨x,kG hx,hA⟩,fun ah hr hi=>G.stay _ _ _ hs hr hi⟩
 ·obtain⟨hI,x,hx,hK,hA⟩:=G.at_ l st hs;refine TT.call hP F hS hA hx hI (hV x st hA hK hI) ha hv (fun τ d=>hC x st τ d hA hK hI) (hs:=bz3) fun st' hr hi _=>?_
  have e:(b.at a (.inRegion ops (j::rest)::kk)).finish v=b.at (a.put o.dst v) (.inRegion ops rest::kk):=by rw[Frame.finish_at,ho];rfl
  rw[e];exact fin st' (G.stay _ _ _ (G.set l st hl hs) hr hi)
theorem O1{P:Program}(hP:q.P=P)(hS:∀l st,S l st->(∃x:Wk,(x.wg≠ .lv/\x.wg≠ .gone/\x.wg≠ .idle)/\At s i x st)/\∀ah,Rl i st ah->Inv q ah->S l ah){j:Nat}{l:Array Bool}{a:Act}{o:Oper}{rest:List Nat}{st:St aJ}
  (hset:∀st,S l st->S (l.setIfInBounds j true) st)(ho:ops[j]?=some o)(hw:Region.wanted o (yielded ops a.tmps)=false)(hs:S l st)(h:∀st',S (l.setIfInBounds j true) st'->TT (cfg q) i Ch (Go.Conc.G (b.at (a.put o.dst undef) (.inRegion ops rest::kk)) cc) st'):TT (cfg q) i Ch (Go.Conc.G (b.at a (.inRegion ops (j::rest)::kk)) cc) st:=by
 subst hP;obtain⟨⟨x,hx,hA⟩,hS'⟩:=hS l st hs;refine TT.step fun ah hr hi=>⟨fun hl=>absurd hl ((hA.rely hx hr hi).oh ⟨hx.1,hx.2.1⟩),?_⟩
 have hstep:stepG (cfg q).P (i==0) (Go.Conc.G (b.at a (.inRegion ops (j::rest)::kk)) cc) ah.w=.go (Go.Conc.G (b.at (a.put o.dst undef) (.inRegion ops rest::kk)) cc) ah.w #[]:=stepG_unwanted ho hw;unfold iI;rw[hstep];have e:(⟨ah.w,ah.t++MemOp.ofEvents i (Go.Conc.G (b.at a (.inRegion ops (j::rest)::kk)) cc).frame.fn (Go.Conc.G (b.at a (.inRegion ops (j::rest)::kk)) cc).frame.place #[],ah.γ⟩:St aJ)=ah:=by rw[ofEvents_none,Array.append_empty]
 refine .inr ⟨ah.γ,by rw[e];exact hi,by rw[e],fun j hj=>by rw[e];exact Rl.refl j ah,.inr fun k _ hw=>by rw[e];exact hw,?_⟩;rw[e];exact .inl ⟨rfl,h ah (hset ah (hS' ah hr hi))⟩
end
end
end Cc
end Go.Proofs.Ytpfpokjaeffbjab
