/- Part of the proof: AgE, LkF, LkH, LkR, LkA, LkB, LkC, LkE. -/
import Derived.Test.YtpfpokjaeffbjabBb12
import Derived.Test.YtpfpokjaeffbjabBb6
import Derived.Test.YtpfpokjaeffbjabBb10
import Derived.Conc.MuWords
set_option linter.unusedVariables false
set_option linter.unusedSimpArgs false
set_option maxRecDepth 100000
set_option maxHeartbeats 16000000
namespace Go.Proofs.Ytpfpokjaeffbjab
namespace Cc
open Go.Conc Go.ConcN Go.RowKit
open Pl ny oI ni Mem oG Dl Ad J5
open qj hiding base
section
variable{q:ig}{st:St aJ}{cs:List Int}{l:List Cm}{msg:ByteArray}{r:Int}{rt:Nat->Bool}{zt:List Int}{T:Array Value}{b8 b13 b16 b17 Gb Pb gc lb Rb Zb iP xH tN:Nat}{CG Cg CP Cl CR CZ:Array Value}{g0 g1:Value}{eL:TypeId}
theorem uw.ar(h:uw q st cs l msg r rt zt T b8 b13 b16 b17 Gb Pb gc lb Rb Zb iP xH tN CG Cg CP Cl CR CZ g0 g1 eL):AR (fun f=>aS f=true) (A8 (dW b8 b13 b16 b17 Gb Pb gc lb Rb Zb cs.length l.length)) (nV JF (agU b8 b13 b16 b17 r)) (nV JF T):=by
 have zJ:Pb≠b8:=aF h.pF h.kb8 (by decide);have zK:Gb≠b8:=aF h.nH h.kb8 (by decide);have zL:Gb≠Pb:=aF h.nH h.pF (by decide);have zu:gc≠b8:=aF h.qm h.kb8 (by decide);have sU:gc≠Pb:=aF h.qm h.pF (by decide);have qC:gc≠Gb:=aF h.qm h.nH (by decide);have zq:lb≠b8:=h.qO b8 (by simp);have sS:lb≠Pb:=h.qO Pb (by simp);have qB:lb≠Gb:=h.qO Gb (by simp);have sQ:lb≠gc:=h.qO gc (by simp);have uY:b13≠b8:=aF h.jy h.kb8 (by decide);have uZ:b13≠Pb:=aF h.jy h.pF (by decide);have nG:b13≠Gb:=aF h.jy h.nH (by decide);have uX:b13≠gc:=aF h.jy h.qm (by decide);have uV:b13≠lb:=(h.qO b13 (by simp)).symm;have uT:b16≠b8:=aF h.jw h.kb8 (by decide);have uU:b16≠Pb:=aF h.jw h.pF (by decide);have nD:b16≠Gb:=aF h.jw h.nH (by decide);have uS:b16≠gc:=aF h.jw h.qm (by decide);have uQ:b16≠lb:=(h.qO b16 (by simp)).symm;have rJ:b16≠b13:=aF h.jw h.jy (by decide);have uO:b17≠b8:=aF h.jv h.kb8 (by decide);have uP:b17≠Pb:=aF h.jv h.pF (by decide);have nC:b17≠Gb:=aF h.jv h.nH (by decide);have uN:b17≠gc:=aF h.jv h.qm (by decide);have uM:b17≠lb:=(h.qO b17 (by simp)).symm;have rH:b17≠b13:=aF h.jv h.jy (by decide);have rG:b17≠b16:=aF h.jv h.jw (by decide);have zG:Rb≠b8:=aF h.nN h.kb8 (by decide);have zH:Rb≠Pb:=aF h.nN h.pF (by decide);have zI:Rb≠Gb:=aF h.nN h.nH (by decide);have zF:Rb≠gc:=aF h.nN h.qm (by decide);have zD:Rb≠lb:=(h.qO Rb (by simp)).symm;have vK:Rb≠b13:=aF h.nN h.jy (by decide);have vJ:Rb≠b16:=aF h.nN h.jw (by decide);have vI:Rb≠b17:=aF h.nN h.jv (by decide);have zA:Zb≠b8:=aF h.nX h.kb8 (by decide);have zB:Zb≠Pb:=aF h.nX h.pF (by decide);have zC:Zb≠Gb:=aF h.nX h.nH (by decide);have zy:Zb≠gc:=aF h.nX h.qm (by decide);have zx:Zb≠lb:=(h.qO Zb (by simp)).symm;have vH:Zb≠b13:=aF h.nX h.jy (by decide);have vF:Zb≠b16:=aF h.nX h.jw (by decide);have vk:Zb≠b17:=aF h.nX h.jv (by decide);have qE:Zb≠Rb:=aF h.nX h.nN (by decide);have af6:dW b8 b13 b16 b17 Gb Pb gc lb Rb Zb cs.length l.length b8=some .all:=by unfold dW;simp[]
 have U2:dW b8 b13 b16 b17 Gb Pb gc lb Rb Zb cs.length l.length Pb=some (.read 3):=by unfold dW;simp[zJ]
 have af9:dW b8 b13 b16 b17 Gb Pb gc lb Rb Zb cs.length l.length Gb=some (.read 3):=by unfold dW;simp[zK,zL]
 have af5:dW b8 b13 b16 b17 Gb Pb gc lb Rb Zb cs.length l.length gc=some (.read cs.length):=by unfold dW;simp[zu,sU,qC]
 have af4:dW b8 b13 b16 b17 Gb Pb gc lb Rb Zb cs.length l.length lb=some (.read (3*l.length)):=by unfold dW;simp[zq,sS,qB,sQ]
 have SK:dW b8 b13 b16 b17 Gb Pb gc lb Rb Zb cs.length l.length b13=some (.read 1):=by unfold dW;simp[uY,uZ,nG,uX,uV]
 have SG:dW b8 b13 b16 b17 Gb Pb gc lb Rb Zb cs.length l.length b16=some (.read 1):=by unfold dW;simp[uT,uU,nD,uS,uQ,rJ]
 have SE:dW b8 b13 b16 b17 Gb Pb gc lb Rb Zb cs.length l.length b17=some (.read 1):=by unfold dW;simp[uO,uP,nC,uN,uM,rH,rG]
 have af8:dW b8 b13 b16 b17 Gb Pb gc lb Rb Zb cs.length l.length Rb=some (.read l.length):=by unfold dW;simp[zG,zH,zI,zF,zD,vK,vJ,vI]
 have af7:dW b8 b13 b16 b17 Gb Pb gc lb Rb Zb cs.length l.length Zb=some (.read l.length):=by unfold dW;simp[zA,zB,zC,zy,zx,vH,vF,vk,qE]
 refine Qr (by rw[h.sz];rfl) fun i v v' hd e1 e2=>?_
 have hi:i∈[8,9,10,13,14,16,17,21,22,23,81,82,83,84,85,86,87,88,89,90,91,92,93,94,95,96,97,98,99,100,101,102,103,104,105,106]:=by simpa only[JF,Bool.not_eq_false',List.contains_iff_mem]using hd
 simp only[List.mem_cons,List.not_mem_nil,or_false]at hi;rcases hi with rfl|rfl|rfl|rfl|rfl|rfl|rfl|rfl|rfl|rfl|rfl|rfl|rfl|rfl|rfl|rfl|rfl|rfl|rfl|rfl|rfl|rfl|rfl|rfl|rfl|rfl|rfl|rfl|rfl|rfl|rfl|rfl|rfl|rfl|rfl|rfl
 ·rw[h.s8]at e2;cases e1;cases e2;exact .ptr _ _ (gX af6)
 ·rw[h.s9]at e2;cases e1;cases e2;exact .gQ _ _
 ·rw[h.s10]at e2;cases e1;cases e2;exact .int _ _
 ·rw[h.s13]at e2;cases e1;cases e2;exact .ptr _ _ (gX SK)
 ·rw[h.s14]at e2;cases e1;cases e2;exact .int _ _
 ·rw[h.s16]at e2;cases e1;cases e2;exact .ptr _ _ (gX SG)
 ·rw[h.OD]at e2;cases e1;cases e2;exact .ptr _ _ (gX SE)
 ·rw[h.su 21 (by omega)]at e2;cases e1;cases e2;exact VR.undef
 ·rw[h.su 22 (by omega)]at e2;cases e1;cases e2;exact VR.undef
 ·rw[h.su 23 (by omega)]at e2;cases e1;cases e2;exact VR.undef
 ·rw[h.su 81 (by omega)]at e2;cases e1;cases e2;exact VR.undef
 ·rw[h.su 82 (by omega)]at e2;cases e1;cases e2;exact VR.undef
 ·rw[h.su 83 (by omega)]at e2;cases e1;cases e2;exact VR.undef
 ·rw[h.su 84 (by omega)]at e2;cases e1;cases e2;exact VR.undef
 ·rw[h.su 85 (by omega)]at e2;cases e1;cases e2;exact VR.undef
 ·rw[h.su 86 (by omega)]at e2;cases e1;cases e2;exact VR.undef
 ·rw[h.su 87 (by omega)]at e2;cases e1;cases e2;exact VR.undef
 ·rw[h.su 88 (by omega)]at e2;cases e1;cases e2;exact VR.undef
 ·rw[h.su 89 (by omega)]at e2;cases e1;cases e2;exact VR.undef
 ·rw[h.su 90 (by omega)]at e2;cases e1;cases e2;exact VR.undef
 ·rw[h.su 91 (by omega)]at e2;cases e1;cases e2;exact VR.undef
 ·rw[h.su 92 (by omega)]at e2;cases e1;cases e2;exact VR.undef
 ·rw[h.su 93 (by omega)]at e2;cases e1;cases e2;exact VR.undef
 ·rw[h.su 94 (by omega)]at e2;cases e1;cases e2;exact VR.undef
 ·rw[h.su 95 (by omega)]at e2;cases e1;cases e2;exact VR.undef
 ·rw[h.su 96 (by omega)]at e2;cases e1;cases e2;exact VR.undef
 ·rw[h.su 97 (by omega)]at e2;cases e1;cases e2;exact VR.undef
 ·rw[h.su 98 (by omega)]at e2;cases e1;cases e2;exact VR.undef
 ·rw[h.su 99 (by omega)]at e2;cases e1;cases e2;exact VR.undef
 ·rw[h.su 100 (by omega)]at e2;cases e1;cases e2;exact VR.undef
 ·rw[h.su 101 (by omega)]at e2;cases e1;cases e2;exact VR.undef
 ·rw[h.su 102 (by omega)]at e2;cases e1;cases e2;exact VR.undef
 ·rw[h.su 103 (by omega)]at e2;cases e1;cases e2;exact VR.undef
 ·rw[h.su 104 (by omega)]at e2;cases e1;cases e2;exact VR.undef
 ·rw[h.su 105 (by omega)]at e2;cases e1;cases e2;exact VR.undef
 ·rw[h.su 106 (by omega)]at e2;cases e1;cases e2;exact VR.undef
theorem uw.pkw(h:uw q st cs l msg r rt zt T b8 b13 b16 b17 Gb Pb gc lb Rb Zb iP xH tN CG Cg CP Cl CR CZ g0 g1 eL):
  V7 (gJ st.w (dW b8 b13 b16 b17 Gb Pb gc lb Rb Zb cs.length l.length)) Pb Gb (.slice (some ⟨lb,0,none⟩) l.length l.length) cs l msg/\
  bZ (gJ st.w (dW b8 b13 b16 b17 Gb Pb gc lb Rb Zb cs.length l.length)) b8 46 #[.int .u64 0,.int .u64 0]/\
  (gJ st.w (dW b8 b13 b16 b17 Gb Pb gc lb Rb Zb cs.length l.length)).cell? ⟨b13,0,none⟩=some (.pointer (some ⟨Pb,0,none⟩))/\
  (gJ st.w (dW b8 b13 b16 b17 Gb Pb gc lb Rb Zb cs.length l.length)).cell? ⟨b16,0,none⟩=some (.slice (some ⟨Rb,0,none⟩) l.length xH)/\
  (gJ st.w (dW b8 b13 b16 b17 Gb Pb gc lb Rb Zb cs.length l.length)).cell? ⟨b17,0,none⟩=some (.slice (some ⟨Zb,0,none⟩) l.length tN)/\
  (∀k,k<l.length->(gJ st.w (dW b8 b13 b16 b17 Gb Pb gc lb Rb Zb cs.length l.length)).cell? ⟨Rb,k,none⟩=some (.bool (rt k)))/\
  (∀k,k<l.length->(gJ st.w (dW b8 b13 b16 b17 Gb Pb gc lb Rb Zb cs.length l.length)).cell? ⟨Zb,k,none⟩=some (.int .u64 (zt.getD k 0))):=by
 have zJ:Pb≠b8:=aF h.pF h.kb8 (by decide);have zK:Gb≠b8:=aF h.nH h.kb8 (by decide);have zL:Gb≠Pb:=aF h.nH h.pF (by decide);have zu:gc≠b8:=aF h.qm h.kb8 (by decide);have sU:gc≠Pb:=aF h.qm h.pF (by decide);have qC:gc≠Gb:=aF h.qm h.nH (by decide);have zq:lb≠b8:=h.qO b8 (by simp);have sS:lb≠Pb:=h.qO Pb (by simp);have qB:lb≠Gb:=h.qO Gb (by simp);have sQ:lb≠gc:=h.qO gc (by simp);have uY:b13≠b8:=aF h.jy h.kb8 (by decide);have uZ:b13≠Pb:=aF h.jy h.pF (by decide);have nG:b13≠Gb:=aF h.jy h.nH (by decide);have uX:b13≠gc:=aF h.jy h.qm (by decide);have uV:b13≠lb:=(h.qO b13 (by simp)).symm;have uT:b16≠b8:=aF h.jw h.kb8 (by decide);have uU:b16≠Pb:=aF h.jw h.pF (by decide);have nD:b16≠Gb:=aF h.jw h.nH (by decide);have uS:b16≠gc:=aF h.jw h.qm (by decide);have uQ:b16≠lb:=(h.qO b16 (by simp)).symm;have rJ:b16≠b13:=aF h.jw h.jy (by decide);have uO:b17≠b8:=aF h.jv h.kb8 (by decide);have uP:b17≠Pb:=aF h.jv h.pF (by decide);have nC:b17≠Gb:=aF h.jv h.nH (by decide);have uN:b17≠gc:=aF h.jv h.qm (by decide);have uM:b17≠lb:=(h.qO b17 (by simp)).symm;have rH:b17≠b13:=aF h.jv h.jy (by decide);have rG:b17≠b16:=aF h.jv h.jw (by decide);have zG:Rb≠b8:=aF h.nN h.kb8 (by decide);have zH:Rb≠Pb:=aF h.nN h.pF (by decide);have zI:Rb≠Gb:=aF h.nN h.nH (by decide);have zF:Rb≠gc:=aF h.nN h.qm (by decide);have zD:Rb≠lb:=(h.qO Rb (by simp)).symm;have vK:Rb≠b13:=aF h.nN h.jy (by decide);have vJ:Rb≠b16:=aF h.nN h.jw (by decide);have vI:Rb≠b17:=aF h.nN h.jv (by decide);have zA:Zb≠b8:=aF h.nX h.kb8 (by decide);have zB:Zb≠Pb:=aF h.nX h.pF (by decide);have zC:Zb≠Gb:=aF h.nX h.nH (by decide);have zy:Zb≠gc:=aF h.nX h.qm (by decide);have zx:Zb≠lb:=(h.qO Zb (by simp)).symm;have vH:Zb≠b13:=aF h.nX h.jy (by decide);have vF:Zb≠b16:=aF h.nX h.jw (by decide);have vk:Zb≠b17:=aF h.nX h.jv (by decide);have qE:Zb≠Rb:=aF h.nX h.nN (by decide);have af6:dW b8 b13 b16 b17 Gb Pb gc lb Rb Zb cs.length l.length b8=some .all:=by unfold dW;simp[]
 have U2:dW b8 b13 b16 b17 Gb Pb gc lb Rb Zb cs.length l.length Pb=some (.read 3):=by unfold dW;simp[zJ]
 have af9:dW b8 b13 b16 b17 Gb Pb gc lb Rb Zb cs.length l.length Gb=some (.read 3):=by unfold dW;simp[zK,zL]
 have af5:dW b8 b13 b16 b17 Gb Pb gc lb Rb Zb cs.length l.length gc=some (.read cs.length):=by unfold dW;simp[zu,sU,qC]
 have af4:dW b8 b13 b16 b17 Gb Pb gc lb Rb Zb cs.length l.length lb=some (.read (3*l.length)):=by unfold dW;simp[zq,sS,qB,sQ]
 have SK:dW b8 b13 b16 b17 Gb Pb gc lb Rb Zb cs.length l.length b13=some (.read 1):=by unfold dW;simp[uY,uZ,nG,uX,uV]
 have SG:dW b8 b13 b16 b17 Gb Pb gc lb Rb Zb cs.length l.length b16=some (.read 1):=by unfold dW;simp[uT,uU,nD,uS,uQ,rJ]
 have SE:dW b8 b13 b16 b17 Gb Pb gc lb Rb Zb cs.length l.length b17=some (.read 1):=by unfold dW;simp[uO,uP,nC,uN,uM,rH,rG]
 have af8:dW b8 b13 b16 b17 Gb Pb gc lb Rb Zb cs.length l.length Rb=some (.read l.length):=by unfold dW;simp[zG,zH,zI,zF,zD,vK,vJ,vI]
 have af7:dW b8 b13 b16 b17 Gb Pb gc lb Rb Zb cs.length l.length Zb=some (.read l.length):=by unfold dW;simp[zA,zB,zC,zy,zx,vH,vF,vk,qE]
 have lt:∀{b:Nat} {o:Obj},st.w.heap[b]?=some o->b<(gJ st.w (dW b8 b13 b16 b17 Gb Pb gc lb Rb Zb cs.length l.length)).heap.size:=fun hb=>by rw[oV];exact lt_of_block hb
 obtain⟨p1,p2,p3,p4⟩:=h.Le;obtain⟨G1,G2,G3,G4,-,-⟩:=h.au5;refine⟨⟨⟨?_,?_,?_⟩,lt h.pF,⟨dL l,some ⟨lb,0,none⟩,l.length,rfl,Nat.le_refl _,fun hl=>⟨lb,0,rfl,lt h.ZW,fun i u hu=>?_⟩⟩,⟨gc,iP,?_,lt h.nH,lt h.qm,fun hc=>?_⟩⟩,Gw af6 h.kb8,?_,?_,?_,fun k hk=>?_,fun k hk=>?_⟩
 ·rw[h.cell U2 h.pF (by omega) (by omega)];exact p2
 ·rw[h.cell U2 h.pF (by omega) (by omega)];exact p3
 ·rw[h.cell U2 h.pF (by omega) (by omega)];exact p4
 ·have:i<3*l.length:=by have:=dL l;have:=(List.getElem?_eq_some_iff.1 hu).1;omega
  rw[Nat.zero_add,h.cell af4 h.ZW this h.EL.1];exact h.EL.2 i u this hu
 ·rw[h.cell af9 h.nH (by omega) G1];exact G4
 ·rw[h.cell af5 h.qm hc h.gcl.1];exact h.gcl.2 0 hc
 ·rw[h.cell SK h.jy (by omega) (by simp)];rfl
 ·rw[h.cell SG h.jw (by omega) (by simp)];rfl
 ·rw[h.cell SE h.jv (by omega) (by simp)];rfl
 ·rw[h.cell af8 h.nN hk (Nat.le_of_eq h.Q7.1.symm)];exact h.Q7.2 k hk
 ·rw[h.cell af7 h.nX hk (Nat.le_of_eq h.QD.1.symm)];exact h.QD.2 k hk
theorem Zk{b:Nat}(h:dW b8 b13 b16 b17 Gb Pb gc lb Rb Zb cs.length l.length b=some .all):b=b8:=by
 unfold dW at h
 repeat' split at h
 all_goals first|assumption|(cases h;done)|skip
structure bm4(md:Nat->Option Md)(st:St aJ)(l:List Cm)(cs:List Int)(msg:ByteArray)(rt:Nat->Bool)(zt:List Int)(b8 b13 b16 b17 Gb Pb lb Rb Zb xH tN:Nat):Prop where
 pk:V7 (gJ st.w md) Pb Gb (.slice (some ⟨lb,0,none⟩) l.length l.length) cs l msg
 b8:bZ (gJ st.w md) b8 46 #[.int .u64 0,.int .u64 0]
 b13:(gJ st.w md).cell? ⟨b13,0,none⟩=some (.pointer (some ⟨Pb,0,none⟩))
 b16:(gJ st.w md).cell? ⟨b16,0,none⟩=some (.slice (some ⟨Rb,0,none⟩) l.length xH)
 b17:(gJ st.w md).cell? ⟨b17,0,none⟩=some (.slice (some ⟨Zb,0,none⟩) l.length tN)
 rb:∀k,k<l.length->(gJ st.w md).cell? ⟨Rb,k,none⟩=some (.bool (rt k))
 zb:∀k,k<l.length->(gJ st.w md).cell? ⟨Zb,k,none⟩=some (.int .u64 (zt.getD k 0))
theorem uw.md(h:uw q st cs l msg r rt zt T b8 b13 b16 b17 Gb Pb gc lb Rb Zb iP xH tN CG Cg CP Cl CR CZ g0 g1 eL):∃md,AR (fun f=>aS f=true) (A8 md) (nV JF (agU b8 b13 b16 b17 r)) (nV JF T)/\Ae q aS md st/\bm4 md st l cs msg rt zt b8 b13 b16 b17 Gb Pb lb Rb Zb xH tN/\∀b,md b=some .all->b=b8:=
 let⟨p1,p2,p3,p4,p5,p6,p7⟩:=h.pkw
 ⟨_,h.ar,h.sees,⟨p1,p2,p3,p4,p5,p6,p7⟩,fun b hb=>Zk hb⟩
end
section
variable{q:ig}(hP:q.P=Try.prog){num:Nat}{K:List (Nat×Obj)}{cs:List Int}{l:List Cm}{msg:ByteArray}{r:Int}{rt:Nat->Bool}{zt:List Int}{T:Array Value}{b8 b13 b16 b17 Gb Pb gc lb Rb Zb iP xH tN:Nat}{CG Cg CP Cl CR CZ:Array Value}{g0 g1:Value}{eL:TypeId}
include hP
theorem az0{st:St aJ}(hA:jX 0 num K st)(hI:Inv q st)(h:uw q st cs l msg r rt zt T b8 b13 b16 b17 Gb Pb gc lb Rb Zb iP xH tN CG Cg CP Cl CR CZ g0 g1 eL)(hK:∀b o,(b,o)∈K->b≠b8){c:Frame}{bs:List Frame}{Ch:Nat->Goroutine->St aJ->Prop}
  (fin:∀v st',Ah r zt (cZ rt l l.length) num K v st'->Inv q st'->TT (cfg q) 0 Ch (G (c.finish v) bs) st'):
  TT (cfg q) 0 Ch (G ((base 16).at ⟨T,[]⟩ [.code yN]) (c::bs)) st:=by
 have hfn:Try.prog.funcs[(base 16).fn]?=some Try.f16:=Try.func16;obtain⟨md,har,zT,bz5,hall⟩:=h.md;have hmk:Sh q aS JF (uD md) (·=b8) st (fun a w=>a=⟨agU b8 b13 b16 b17 r,[]⟩/\∃τ d,w=World.on (gJ st.w md) τ d) ⟨T,[]⟩ st:=Sh.make (a:=⟨agU b8 b13 b16 b17 r,[]⟩) (a':=⟨T,[]⟩) zT hI hall har rfl rfl ⟨rfl,st.w.tape,st.w.drawn,rfl⟩;refine TT.piece (N:=fun _ _=>False) (R:=fun a w=>∃v,(Go.results Try.f16 a.tmps).run Try.prog w=.ok v w/\Ot r zt (cZ rt l l.length) (gJ st.w md) v w) hP Uc hI VJ rfl Om hmk ?_ ?_ ?_
 ·rintro a w τ d ⟨rfl,Ih,d',rfl⟩;obtain⟨q1,q2,q3,q4,q5,q6,q7⟩:=bz5;have q0:V7 (World.on (gJ st.w md) τ d) Pb Gb (.slice (some ⟨lb,0,none⟩) l.length l.length) cs l msg:=⟨q1.cells,q1.lt,q1.iJ,q1.key⟩;refine Code.wp_mono ?_ (aX8 (w:=World.on (gJ st.w md) τ d) (n:=l.length) (zt:=zt) (rt:=rt) (r:=r) q0 rfl h.l9 h.zl q2 q3 q4 q5 q6 ⟨some ⟨Zb,0,none⟩,tN,?_,?_,fun hl=>⟨Zb,0,rfl,?_,fun i hi=>?_⟩⟩)
  ·rintro e a w' ⟨h1,h2,v,h3,h4⟩;exact .inr ⟨h1,h2,v,h3,h4⟩
  ·rw[h.zl]
  ·rw[h.zl];exact h.cz
  ·show Zb<(gJ st.w md).heap.size;rw[oV];exact lt_of_block h.nX
  ·rw[Nat.zero_add];exact q7 i (by rw[<-h.zl];exact hi)
 ·rintro a2 st' ⟨_,_,_,_,_,_,_,_,_,_,_,hF⟩;exact hF.elim
 ·intro a2 st' todo hs;refine TT.ret hP Uc hI rfl hfn (Om _ hfn) hs fun v v' ρ s st2 hH hV hv hR=>?_
  obtain⟨τ,d,hR⟩:=hR;have hA2:jX 0 num K st2:=hA.mn hV.2.2.2.1 hK;rcases hR with⟨h0,rfl⟩|⟨h0,W,rfl,hown⟩
  ·have hv':=VR.same (ρ:=fun _=>none) (ρ':=ρ) (fun b c x=>by cases x) (fun b c x=>by cases x) (oU 4 _ (by simp[iQ])) (mO 4 _ (by simp[bT])) hv;subst hv';exact fin _ st2 (.inl ⟨h0,rfl,hA2⟩) hV.2.1
  ·obtain⟨o1,o2⟩:=hown;rcases o2 with⟨-,o2⟩|⟨g,cap,cur,rfl,o3,o4,o5,o6,o7,o8⟩
   ·exact absurd (List.length_eq_zero_iff.1 o2) h0
   have hsz:st.w.heap.size<=g:=by rw[oV]at o3;exact o3
   have hrg:uD md g=.all:=by
    unfold uD;cases hm:md g with
    |none=>rfl
    |some m=>
     obtain⟨-,-,C,e,fz,hb,-⟩:=zT g m hm;have:=lt_of_block hb;omega
   obtain⟨c',C',e1,e2,e3⟩:=hH.mX hrg o4;obtain⟨f1,f2,f3⟩:=iZ hV e1 hrg hsz;have hv2:v'=.tuple #[.agg #[.int .u64 0,.int .u64 0],.slice (some ⟨c',0,none⟩) (cZ rt l l.length).length cap,.int .i64 14]:=by
    cases hv with
    | @tuple _ x' hx h1=>
     have hz:x'.size=3:=by simpa using hx.symm
     have x0:=h1 0 _ (x'[0]'(by omega)) rfl (Array.getElem?_eq_getElem (by omega));have x1:=h1 1 _ (x'[1]'(by omega)) rfl (Array.getElem?_eq_getElem (by omega));have x2:=h1 2 _ (x'[2]'(by omega)) rfl (Array.getElem?_eq_getElem (by omega));have y0:=VR.same (ρ:=fun _=>none) (ρ':=ρ) (fun b c x=>by cases x) (fun b c x=>by cases x) (oU 4 _ (by simp[iQ])) (mO 4 _ (by simp[bT])) x0;have y2:=VR.same (ρ:=fun _=>none) (ρ':=ρ) (fun b c x=>by cases x) (fun b c x=>by cases x) (oU 4 _ (by simp[iQ])) (mO 4 _ (by simp[bT])) x2;obtain⟨c2,z1,z2⟩:=x1.Ar;rw[e1]at z1;cases z1;refine congrArg Value.tuple (Array.ext hz fun i i1 i2=>?_);have:i<3:=by simpa using i2
     match i,this with
     |0,_=>exact y0
     |1,_=>exact z2
     |2,_=>exact y2
   subst hv2;have hnew:jX 0 num ((c',.cells C' 3 (0,0))::K) st2:=hA2.more e2 (.inl fun off=>f2 _ rfl rfl) f3;refine fin _ st2 (.inr ⟨h0,c',cap,C',rfl,hnew,o5,?_,fun j hj=>?_⟩) hV.2.1
   ·rw[<-e3.1,o7];omega
   ·have hcur:cur[j]?=some (.int .i64 ((cZ rt l l.length).getD j 0)):=by
     have h1:(cur.toList.take ((cZ rt l l.length).length*1))[j]?=cur[j]?:=by
      rw[List.getElem?_take,if_pos (by omega),Array.getElem?_toList]
     rw[o8]at h1;rw[<-h1,List.getElem?_map,List.getElem?_eq_getElem hj];simp[List.getD_eq_getElem?_getD,hj]
    obtain⟨v2,h1,h2⟩:=e3.get hcur;rw[h1];cases h2;rfl
end
end Cc
namespace Cc
open Go.Conc Go.ConcN Go.ConcM Go.RowKit Go.Conc.Lib Go.ConcR.Gen
open Go.ConcR (KK wgBlock WgAt stA smA rd wr mk DC0)
section
theorem rF:(Try.f80.name== "runtime.NumGoroutine")=false:=by kernel_rfl
theorem rW:Try.f80.body.isNone=true:=by kernel_rfl
theorem qX:Extern.findNext Try.f80=none:=by kernel_rfl
theorem f_disable:Extern.find Try.f80=some (fun _=>do mark .disable;pure Extern.Race.none_):=by kernel_rfl
theorem iU:(Try.f81.name== "runtime.NumGoroutine")=false:=by kernel_rfl
theorem jd:Try.f81.body.isNone=true:=by kernel_rfl
theorem iT:Extern.findNext Try.f81=none:=by kernel_rfl
theorem f_enable:Extern.find Try.f81=some (fun _=>do mark .enable;pure Extern.Race.none_):=by kernel_rfl
theorem RV:(Try.f94.name== "runtime.NumGoroutine")=false:=by kernel_rfl
theorem TS:Try.f94.body.isNone=true:=by kernel_rfl
theorem QF:Extern.findNext Try.f94=none:=by kernel_rfl
theorem Tv:Extern.find Try.f94=some (Extern.Race.marked .acquire):=by kernel_rfl
theorem aq3:(Try.f79.name== "runtime.NumGoroutine")=false:=by kernel_rfl
theorem av8:Try.f79.body.isNone=true:=by kernel_rfl
theorem an6:Extern.findNext Try.f79=none:=by kernel_rfl
theorem au8:Extern.find Try.f79=some (Extern.Race.marked .releaseMerge):=by kernel_rfl
theorem jk:(Try.f104.name== "runtime.NumGoroutine")=false:=by kernel_rfl
theorem jm:Try.f104.body.isNone=true:=by kernel_rfl
theorem ji:Extern.findNext Try.f104=none:=by kernel_rfl
theorem jl:Extern.find Try.f104=some (Extern.Atomic.casT (.int .i32)):=by kernel_rfl
theorem EG:(Try.f106.name== "runtime.NumGoroutine")=false:=by kernel_rfl
theorem FI:Try.f106.body.isNone=true:=by kernel_rfl
theorem DY:Extern.findNext Try.f106=none:=by kernel_rfl
theorem f_add:Extern.find Try.f106=some (Extern.Atomic.update (Op.intArith .add) .i32 true):=by kernel_rfl
theorem AV:(Try.f118.name== "runtime.NumGoroutine")=false:=by kernel_rfl
theorem Bv:Try.f118.body.isNone=true:=by kernel_rfl
theorem Aj:Extern.findNext Try.f118=none:=by kernel_rfl
theorem Bc:Extern.find Try.f118=some (Extern.Sync.canSpin):=by kernel_rfl
theorem UZ:(Try.f119.name== "runtime.NumGoroutine")=false:=by kernel_rfl
theorem VF:Try.f119.body.isNone=true:=by kernel_rfl
theorem Uf:Extern.findNext Try.f119=none:=by kernel_rfl
theorem Vj:Extern.find Try.f119=some (fun _=>pure (.tuple #[])):=by kernel_rfl
theorem PU:(Try.f121.name== "runtime.NumGoroutine")=false:=by kernel_rfl
theorem Qq:Try.f121.body.isNone=true:=by kernel_rfl
theorem OQ:Extern.findNext Try.f121=none:=by kernel_rfl
theorem Qh:Extern.find Try.f121=some (Extern.OsHooks.nano):=by kernel_rfl
theorem Pm:Try.f121.norace=true:=by kernel_rfl
theorem aq2:(Try.f122.name== "runtime.NumGoroutine")=false:=by kernel_rfl
theorem av7:Try.f122.body.isNone=true:=by kernel_rfl
theorem an5:Extern.findNext Try.f122=none:=by kernel_rfl
theorem au7:Extern.find Try.f122=some (Extern.Sync.semacquire):=by kernel_rfl
theorem XL:(Try.f124.name== "runtime.NumGoroutine")=false:=by kernel_rfl
theorem Jz:Try.f124.body.isNone=true:=by kernel_rfl
theorem Wj:Extern.findNext Try.f124=none:=by kernel_rfl
theorem YF:Extern.find Try.f124=some (Extern.Sync.semrelease):=by kernel_rfl
theorem aF2:(Try.f105.name== "runtime.NumGoroutine")=false:=by kernel_rfl
theorem Ry:(Try.f107.name== "runtime.NumGoroutine")=false:=by kernel_rfl
theorem ae8:(Try.f71.name== "runtime.NumGoroutine")=false:=by kernel_rfl
theorem UY:(Try.f72.name== "runtime.NumGoroutine")=false:=by kernel_rfl
theorem je:(Try.prog.funcs[(base 105).fn]?).any (·.norace)=true:=by kernel_rfl
theorem ac3:(Try.prog.funcs[(base 107).fn]?).any (·.norace)=true:=by kernel_rfl
theorem Uz:(Try.prog.funcs[(base 72).fn]?).any (·.norace)=true:=by kernel_rfl
theorem WE:Try.prog.underlying 177=some (.pointer 78):=by kernel_rfl
theorem ax4:(Try.prog.info? 78).map (fun i=>decide (i.size=0))=some false:=by kernel_rfl
section
variable{main:Bool}{b:Frame}{a:Act}{kk:List Item}{cs:List Frame}{w:World}{ops:Array Oper}{i:Nat}{rest:List Nat}{o:Oper}
theorem stepG_loadQ{x:Operand}(ho:ops[i]?=some o)(hw:Region.wanted o (yielded ops a.tmps)=true)(hk:b.kind≠ .early)(hop:o.op=.load 21 x)
  {ad:Addr}{v:Int}(hx:a.eval x=.pointer (some ad))(hc:w.cell? ad=some (.int .i32 v))(hq:(Try.prog.funcs[b.fn]?).any (·.norace)=true):
  stepG Try.prog main (G (b.at a (.inRegion ops (i::rest)::kk)) cs) w=.go (G (b.at (a.put o.dst (.int .i32 v)) (.inRegion ops rest::kk)) cs) w #[]:=by
 have hr:(execOp a.eval o).run Try.prog w=.ok (.value (.int .i32 v)) w:=by
  unfold execOp;simp only[hop,hx];simp[go_sem,hc]
 have he:(execOp a.eval o).events Try.prog w #[]=#[⟨.cell ad,false,false⟩]:=by
  unfold execOp;simp only[hop,hx];simp[go_sem,hc]
 rw[stepG_value ho hw hk hr];unfold listed;rw[he,seen_def,hq];simp[seenStep]
end
end
section
def iy:Code->Option Code
 |.loop c=>some c
 |.seq x y=>match iy x with|some c=>some c|none=>iy y
 |.block _ c=>iy c
 |_=>none
def nK:Code->Option Code
 |.seq (.block _ _) r=>some r
 |.seq _ y=>nK y
 |_=>none
def G9(t:Nat):Code->Option Code
 |.cond (.tmp u) a b=>if u=t then some a else(match G9 t a with|some c=>some c|none=>G9 t b)
 |.cond _ a b=>match G9 t a with|some c=>some c|none=>G9 t b
 |.seq a b=>match G9 t a with|some c=>some c|none=>G9 t b
 |.loop a=>G9 t a
 |.block _ a=>G9 t a
 |_=>none
def sF:Code->Code
 |.seq _ b=>b
 |c=>c
noncomputable def fK:Code:=Try.f105.body.getD .skip
noncomputable def eX:Code:=(iy fK).getD .skip
noncomputable def eU:Code:=(nK fK).getD .skip
noncomputable def yZ:Code:=sF ((G9 80 fK).getD .skip)
noncomputable def yY:Code:=sF (sF yZ)
noncomputable def xJ:Code:=sF yY
noncomputable def BI:Code:=sF xJ
section
variable{q:ig}{i:Nat}{s:aO}{x:Wk}{Ch:Nat->Goroutine->St aJ->Prop}
variable{b₁:Frame}{a₁:Act}{ops₁:Array Oper}{i₁:Nat}{rest₁:List Nat}{k₁:List Item}{cs₁:List Frame}
structure Rd(s:aO)(st:St aJ)(pr l w z N:Nat):Prop where
 le:phi st.γ s<=pr
 eq:phi st.γ s=pr->st.γ.L=l/\st.γ.W=w/\st.γ.S=z/\st.γ.N=N
 l1:l<=1
 w1:w<=1
 z1:z<=1
 n9:N<=9
theorem Rd.later{s:aO}{st ah:St aJ}{pr l w z N:Nat}(h:Rd s st pr l w z N)(h1:phi ah.γ s<=phi st.γ s)(h2:phi ah.γ s=phi st.γ s->ah.γ.L=st.γ.L/\ah.γ.W=st.γ.W/\ah.γ.S=st.γ.S/\ah.γ.N=st.γ.N):Rd s ah pr l w z N:=by
 refine⟨Nat.le_trans h1 h.le,fun e=>?_,h.l1,h.w1,h.z1,h.n9⟩;have hle:=h.le;obtain⟨a,b,c,d⟩:=h2 (by omega);obtain⟨a',b',c',d'⟩:=h.eq (by omega);exact⟨a.trans a',b.trans b',c.trans c',d.trans d'⟩
theorem jC.nine{m:Nat->MX}{a n L W S N tn th:Nat}(h:jC m a n L W S N tn th)(hn:n<=9):N<=9/\tn+th<=10:=by
 have hq:=h.que;have hb:=h.bd;have hw:=h.wok;have hs:=h.st;have:cnt MX.wQ m a n+cnt MX.jg m a n<=n:=by
  unfold cnt;have e1:∀l:List Nat,l.countP (fun k=>MX.wQ (m (a+k)))+l.countP (fun k=>MX.jg (m (a+k)))<=l.length:=by
   intro l
   induction l with
   |nil=>simp
   |cons k l ih=>
    rw[List.countP_cons,List.countP_cons,List.length_cons];have hd:¬(MX.wQ (m (a+k))=true/\MX.jg (m (a+k))=true):=by cases m (a+k)<;>simp[MX.wQ,MX.jg]
    generalize List.countP (fun k=>MX.wQ (m (a+k))) l=u at ih ⊢;generalize List.countP (fun k=>MX.jg (m (a+k))) l=v at ih ⊢;rcases Bool.eq_false_or_eq_true (MX.wQ (m (a+k)))with c1|c1<;>rcases Bool.eq_false_or_eq_true (MX.jg (m (a+k)))with c2|c2
    ·exact absurd ⟨c1,c2⟩ hd
    all_goals simp only[c1,c2,Bool.false_eq_true,↓reduceIte];omega
  have:=e1 (List.range n)
  simpa using this
 omega
theorem Rd.now{st:St aJ}(h:dX q s st):Rd s st (phi st.γ s) st.γ.L st.γ.W st.γ.S st.γ.N:=
 ⟨Nat.le_refl _,fun _=>⟨rfl,rfl,rfl,rfl⟩,h.mu.bd.1,h.mu.bd.2.1,h.mu.bd.2.2,(h.mu.nine h.n0.2.2.2).1⟩
def JR(q:ig)(i:Nat)(Ch:Nat->Goroutine->St aJ->Prop)(s:aO)(b₁:Frame)(a₁:Act)(ops₁:Array Oper)(i₁:Nat)(rest₁:List Nat)(k₁:List Item)(cs₁:List Frame)(aw sv:Bool)(it wst old:Int)(st:St aJ):Prop:=
 ∀(j1 j7 j8 j9 j10 j11 j12 j13 j14 j15 j16 j17 j18 j19 j20 j21 j22 j23 j24 j25 j26 j27 j28 j29 j30 j31 j32 j33 j34 j35 j36 j37 j38 j39 j40 j41 j42 j43 j44 j45 j46 j47 j48 j49 j50 j51 j52 j53 j54 j55 j56 j57 j58 j59 j60 j61 j62 j63 j64 j65 j66 j67 j68 j69 j70 j71 j72 j73 j74 j75 j76 j77 j78 j79 j80 j81 j82 j83 j84 j85 j86 j87 j88 j89 j90 j91 j92 j93 j94 j95 j96 j97 j98 j99 j100 j101 j102 j103 j104 j105 j106 j107 j108 j109 j110 j111 j112 j113 j114 j115 j116 j117 j118 j119 j120 j121 j122 j123 j124 j125 j126 j127 j128 j129 j130 j131 j132 j133 j134 j135 j136 j137 j138:Value),TT (cfg q) i Ch (G ((base 105).at ⟨#[.pointer (some ⟨s.Gb,4,none⟩),j1,.int .i64 wst,.bool sv,.bool aw,.int .i64 it,.int .i32 old,j7,j8,j9,j10,j11,j12,j13,j14,j15,j16,j17,j18,j19,j20,j21,j22,j23,j24,j25,j26,j27,j28,j29,j30,j31,j32,j33,j34,j35,j36,j37,j38,j39,j40,j41,j42,j43,j44,j45,j46,j47,j48,j49,j50,j51,j52,j53,j54,j55,j56,j57,j58,j59,j60,j61,j62,j63,j64,j65,j66,j67,j68,j69,j70,j71,j72,j73,j74,j75,j76,j77,j78,j79,j80,j81,j82,j83,j84,j85,j86,j87,j88,j89,j90,j91,j92,j93,j94,j95,j96,j97,j98,j99,j100,j101,j102,j103,j104,j105,j106,j107,j108,j109,j110,j111,j112,j113,j114,j115,j116,j117,j118,j119,j120,j121,j122,j123,j124,j125,j126,j127,j128,j129,j130,j131,j132,j133,j134,j135,j136,j137,j138],[]⟩ [.code eX,.inLoop eX,.inBlock 0,.code eU]) (b₁.at a₁ (.inRegion ops₁ (i₁::rest₁)::k₁)::cs₁)) st
def V9(q:ig)(i:Nat)(Ch:Nat->Goroutine->St aJ->Prop)(s:aO)(x:Wk)(b₁:Frame)(a₁:Act)(ops₁:Array Oper)(i₁:Nat)(rest₁:List Nat)(k₁:List Item)(cs₁:List Frame)(μ:Nat):Prop:=
 ∀(pr:Nat) (it:Int) (aw sv:Bool) (wst:Int) (l w z N:Nat) (st:St aJ),5*pr+(4-it).toNat=μ->0<=it->it<=4->At s i {x with mx:=.cont aw,df:=1} st->Inv q st->Rd s st pr l w z N->(aw=true->w=1/\z=0)->(aw=false->sv=false)->JR q i Ch s b₁ a₁ ops₁ i₁ rest₁ k₁ cs₁ aw sv it wst (enc l w z N) st
def OA(q:ig)(i:Nat)(Ch:Nat->Goroutine->St aJ->Prop)(s:aO)(x:Wk)(b₁:Frame)(a₁:Act)(ops₁:Array Oper)(i₁:Nat)(rest₁:List Nat)(k₁:List Item)(cs₁:List Frame):Prop:=
 ∀st:St aJ,At s i {x with mx:=.own .chk,df:=0} st->Inv q st->TT (cfg q) i Ch (G (b₁.at (a₁.put ((ops₁[i₁]?).bind (·.dst)) (.tuple #[])) (.inRegion ops₁ rest₁::k₁)) cs₁) st
end
end
section
section
variable{q:ig}(hP:q.P=Try.prog){i:Nat}{s:aO}{x:Wk}{Ch:Nat->Goroutine->St aJ->Prop}
variable{b₁:Frame}{a₁:Act}{ops₁:Array Oper}{i₁:Nat}{rest₁:List Nat}{k₁:List Item}{cs₁:List Frame}
include hP
theorem pq(hx:x.wg=.work)(hT:OA q i Ch s x b₁ a₁ ops₁ i₁ rest₁ k₁ cs₁){st:St aJ}(aC:At s i {x with mx:=.own .chk,df:=1} st)(j1 j2 j3 j4 j5 j6 j7 j8 j9 j10 j11 j12 j13 j14 j15 j16 j17 j18 j19 j20 j21 j22 j23 j24 j25 j26 j27 j28 j29 j30 j31 j32 j33 j34 j35 j36 j37 j38 j39 j40 j41 j42 j43 j44 j45 j46 j47 j48 j49 j50 j51 j52 j53 j54 j55 j56 j57 j58 j59 j60 j61 j62 j63 j64 j65 j66 j67 j68 j69 j70 j71 j72 j73 j74 j75 j76 j77 j78 j79 j80 j81 j82 j83 j84 j85 j86 j87 j88 j89 j90 j91 j92 j93 j94 j95 j96 j97 j98 j99 j100 j101 j102 j103 j104 j105 j106 j107 j108 j109 j110 j111 j112 j113 j114 j115 j116 j117 j118 j119 j120 j121 j122 j123 j124 j125 j126 j127 j128 j129 j130 j131 j132 j133 j134 j135 j136 j137 j138:Value):
  TT (cfg q) i Ch (G ((base 105).at ⟨#[.pointer (some ⟨s.Gb,4,none⟩),j1,j2,j3,j4,j5,j6,j7,j8,j9,j10,j11,j12,j13,j14,j15,j16,j17,j18,j19,j20,j21,j22,j23,j24,j25,j26,j27,j28,j29,j30,j31,j32,j33,j34,j35,j36,j37,j38,j39,j40,j41,j42,j43,j44,j45,j46,j47,j48,j49,j50,j51,j52,j53,j54,j55,j56,j57,j58,j59,j60,j61,j62,j63,j64,j65,j66,j67,j68,j69,j70,j71,j72,j73,j74,j75,j76,j77,j78,j79,j80,j81,j82,j83,j84,j85,j86,j87,j88,j89,j90,j91,j92,j93,j94,j95,j96,j97,j98,j99,j100,j101,j102,j103,j104,j105,j106,j107,j108,j109,j110,j111,j112,j113,j114,j115,j116,j117,j118,j119,j120,j121,j122,j123,j124,j125,j126,j127,j128,j129,j130,j131,j132,j133,j134,j135,j136,j137,j138],[]⟩ [.code eU]) (b₁.at a₁ (.inRegion ops₁ (i₁::rest₁)::k₁)::cs₁)) st:=by
 simp only[yZ,yY,xJ,BI,sF,G9,eX,eU,fK,iy,nK,Try.f105,Option.getD_some,Nat.reduceEqDiff,↓reduceIte];refine TT.road hP aC (by simp[hx]) 60 fun w₀ hF=>?_
 repeat w_go aj
 refine Goes.stop (fun w₁ r₁=>⟨rfl,?_⟩);clear hF w₀;refine TT.lI hP aC hx rfl (by simp) fun bH aQ bF aX=>⟨_,_,_,0,stepG_mark0 .enable (by simp) rfl rfl (by k_ne) rfl Try.func81 iU jd iT f_enable,rfl,Hr 0,rfl,aY.refl _,pX .enable (by simp),fun bM aI bY _ _ _ _=>?_⟩
 clear aX aQ bF;refine TT.road hP aI (by simp[hx]) 60 fun w₀ hF=>?_
 walk_nrm
 repeat w_go aj
 m_convG Try.prog Try.underlying157 WE ax4 hF.choose_spec aj hF
 refine Goes.stop (fun w₁ r₁=>⟨rfl,?_⟩);clear hF w₀;refine TT.lI hP aI hx rfl (by simp) fun aV bg dD bI=>⟨_,_,_,0,stepG_markAt .acquire (by simp) rfl rfl (by k_ne) rfl Try.func94 RV TS QF Tv (by simp[Act.eval];rfl),rfl,YR _ _ (by simp),rfl,aY.refl _,pX _ (by simp),fun eH bf dK _ _ _ _=>?_⟩
 clear bI bg dD;refine TT.road hP bf (by simp[hx]) 60 fun w₀ hF=>?_
 walk_nrm
 repeat w_go aj
 u_leave0 Try.func105 aj hF
 refine Goes.stop (fun w₁ r₁=>⟨rfl,?_⟩);exact hT eH bf dK
end
end
section
section
variable{q:ig}(hP:q.P=Try.prog){i:Nat}{s:aO}{x:Wk}{Ch:Nat->Goroutine->St aJ->Prop}
variable{b₁:Frame}{a₁:Act}{ops₁:Array Oper}{i₁:Nat}{rest₁:List Nat}{k₁:List Item}{cs₁:List Frame}
include hP
theorem bi6(hx:x.wg=.work)(hT:OA q i Ch s x b₁ a₁ ops₁ i₁ rest₁ k₁ cs₁){μ:Nat}(ih:∀μ',μ'<μ->V9 q i Ch s x b₁ a₁ ops₁ i₁ rest₁ k₁ cs₁ μ'){pr:Nat}{it wst:Int}{w N:Nat}{st:St aJ}(h0:0<=it)(h4':it<=4)(hμ:5*pr+(4-it).toNat=μ)(hA:At s i {x with mx:=.cont false,df:=1} st)(hI:Inv q st)(hR:Rd s st pr 0 w 0 N):
  JR q i Ch s b₁ a₁ ops₁ i₁ rest₁ k₁ cs₁ false false it wst (enc 0 w 0 N) st:=by
 have h5:bits BinOp.and IntKind.i32 (enc 0 w 0 N) 5=0:=wu 0 w 0 N (by omega) hR.w1 (by omega) (by have:=hR.n9;omega);have h4:bits BinOp.and IntKind.i32 (enc 0 w 0 N) 4=0:=mW 0 w 0 N (by omega) hR.w1 (by omega) (by have:=hR.n9;omega);have o1:bits BinOp.or IntKind.i32 (enc 0 w 0 N) 1=enc 1 w 0 N:=Hf 0 w 0 N (by omega) hR.w1 (by omega) (by have:=hR.n9;omega);intro j1 j7 j8 j9 j10 j11 j12 j13 j14 j15 j16 j17 j18 j19 j20 j21 j22 j23 j24 j25 j26 j27 j28 j29 j30 j31 j32 j33 j34 j35 j36 j37 j38 j39 j40 j41 j42 j43 j44 j45 j46 j47 j48 j49 j50 j51 j52 j53 j54 j55 j56 j57 j58 j59 j60 j61 j62 j63 j64 j65 j66 j67 j68 j69 j70 j71 j72 j73 j74 j75 j76 j77 j78 j79 j80 j81 j82 j83 j84 j85 j86 j87 j88 j89 j90 j91 j92 j93 j94 j95 j96 j97 j98 j99 j100 j101 j102 j103 j104 j105 j106 j107 j108 j109 j110 j111 j112 j113 j114 j115 j116 j117 j118 j119 j120 j121 j122 j123 j124 j125 j126 j127 j128 j129 j130 j131 j132 j133 j134 j135 j136 j137 j138;simp only[eX,eU,fK,iy,nK,Try.f105,Option.getD_some];refine TT.road hP hA (by simp[hx]) 140 fun w₀ hF=>?_
 repeat w_go aj
 refine Goes.stop (fun w₁ r₁=>⟨rfl,?_⟩);clear hF w₀;refine TT.mu hP hA hx (mx:=.cont false) rfl (by simp) fun ah au hI₁ aB p1 p2 p3 p4=>?_
 have bJ:=hR.later p1 p2;by_cases hit:enc ah.γ.L ah.γ.W ah.γ.S ah.γ.N=enc 0 w 0 N
 ·obtain⟨e1,e2,e3,e4⟩:=jW hit aB.mu.bd ⟨by omega,hR.w1,by omega⟩;refine⟨_,_,_,.own .chk,1,1,ah.γ.W-Bool.toNat false,ah.γ.S,ah.γ.N,ah.γ.tn,ah.γ.th,stepG_cas_hit rfl rfl (by k_ne) rfl Try.func104 jk jm ji .i32 jl rfl rfl rfl (hit ▸ aB.gb.cell.2.1) (aB.gb.cell.2.2.2 4),rfl,kU _ _,by simp,by simp,aB.mu.take au.lo (au.hi hI₁) false (dA au) ⟨e1,e3⟩,aB.gb.swap rfl (by rw[e2,e3,e4];rfl),aY.set _ 4 _ (by omega),.inl (by simp[kM]),.inl (Nat.le_refl _),jh 4 (.inl rfl),.inr (Nat.le_refl _),fun ay aC aT _ _ _ _=>?_⟩;clear hit bJ aB au hI₁;refine TT.road hP aC (by simp[hx]) 60 fun w₀ hF=>?_
  walk_nrm
  repeat w_but "code.exit" aj
  w_go aj
  refine Goes.stop (fun w₁ r₁=>⟨rfl,?_⟩);exact pq hP hx hT aC ..
 ·refine⟨_,_,_,.cont false,1,ah.γ.L,ah.γ.W,ah.γ.S,ah.γ.N,ah.γ.tn,ah.γ.th,stepG_cas_miss rfl rfl (by k_ne) rfl Try.func104 jk jm ji .i32 jl rfl rfl rfl aB.gb.cell.2.1 (aB.gb.cell.2.2.2 4) hit,rfl,wz _ _,by simp,by simp,jC.still aB au rfl,aB.gb.stay rfl rfl,aY.refl _,.inr ⟨rfl,rfl,rfl,rfl,rfl⟩,.inl (Nat.le_refl _),pW 4 (by omega),.inr (Nat.le_refl _),fun ay aC aT _ w₂ _ f₂=>?_⟩;have hlt:phi ay.γ s<pr:=by
   refine Nat.lt_of_le_of_ne (by have:=bJ.le;omega) fun e=>hit ?_
   obtain⟨a,b,c,d⟩:=bJ.eq (by omega);rw[a,b,c,d]
  clear hit bJ aB au hI₁;refine TT.road hP aC (by simp[hx]) 60 fun w₀ hF=>?_
  walk_nrm
  repeat w_go aj
  refine Goes.stop (fun w₁ r₁=>⟨rfl,?_⟩);clear hF w₀;refine TT.lI hP aC hx rfl (by simp) fun bH aQ bF aX=>⟨_,_,_,1,stepG_loadQ rfl rfl (by k_ne) rfl rfl aX.gb.cell.2.1 je,rfl,rfl,rfl,aY.refl _,dG,fun bM aI bY _ w₄ jo _=>?_⟩
  have iF:=Rd.now (bY.aZ s aI.sc).c;rw[w₄.1,w₄.2.1,w₄.2.2.1,w₄.2.2.2]at iF;clear aX aQ bF;refine TT.road hP aI (by simp[hx]) 60 fun w₀ hF=>?_
  walk_nrm
  repeat w_nl aj
  u_c stepG_inLoop aj hF
  refine Goes.stop (fun w₁ r₁=>⟨rfl,?_⟩);exact ih _ (by omega) _ it false false wst _ _ _ _ bM rfl h0 h4' aI bY iF (by simp) (by simp) ..
end
end
section
section
variable{q:ig}(hP:q.P=Try.prog){i:Nat}{s:aO}{x:Wk}{Ch:Nat->Goroutine->St aJ->Prop}
variable{b₁:Frame}{a₁:Act}{ops₁:Array Oper}{i₁:Nat}{rest₁:List Nat}{k₁:List Item}{cs₁:List Frame}
include hP
theorem aW9(hx:x.wg=.work)(hT:OA q i Ch s x b₁ a₁ ops₁ i₁ rest₁ k₁ cs₁){pr:Nat}(ih:∀μ',μ'<5*pr->V9 q i Ch s x b₁ a₁ ops₁ i₁ rest₁ k₁ cs₁ μ'){sv:Bool}{wst:Int}{st:St aJ}(hA:At s i {x with mx:=.woken false,df:=1} st)(hI:Inv q st)(hp:phi st.γ s<pr)(j1 j4 j5 j6 j7 j8 j9 j10 j11 j12 j13 j14 j15 j16 j17 j18 j19 j20 j21 j22 j23 j24 j25 j26 j27 j28 j29 j30 j31 j32 j33 j34 j35 j36 j37 j38 j39 j40 j41 j42 j43 j44 j45 j46 j47 j48 j49 j50 j51 j52 j53 j54 j55 j56 j57 j58 j59 j60 j61 j62 j63 j64 j65 j66 j67 j68 j69 j70 j71 j72 j73 j74 j75 j76 j77 j78 j79 j80 j81 j82 j83 j84 j85 j86 j87 j88 j89 j90 j91 j92 j93 j94 j95 j96 j97 j98 j99 j100 j101 j102 j103 j104 j105 j106 j107 j108 j109 j110 j111 j112 j113 j114 j115 j116 j117 j118 j119 j120 j121 j122 j123 j124 j125 j126 j127 j128 j129 j130 j131 j132 j133 j134 j135 j136 j137 j138:Value):
  TT (cfg q) i Ch (G ((base 105).at ⟨#[.pointer (some ⟨s.Gb,4,none⟩),j1,.int .i64 wst,.bool sv,j4,j5,j6,j7,j8,j9,j10,j11,j12,j13,j14,j15,j16,j17,j18,j19,j20,j21,j22,j23,j24,j25,j26,j27,j28,j29,j30,j31,j32,j33,j34,j35,j36,j37,j38,j39,j40,j41,j42,j43,j44,j45,j46,j47,j48,j49,j50,j51,j52,j53,j54,j55,j56,j57,j58,j59,j60,j61,j62,j63,j64,j65,j66,j67,j68,j69,j70,j71,j72,j73,j74,j75,j76,j77,j78,j79,j80,j81,j82,j83,j84,j85,j86,j87,j88,j89,j90,j91,j92,j93,j94,j95,j96,j97,j98,j99,j100,j101,j102,j103,j104,j105,j106,j107,j108,j109,j110,j111,j112,j113,j114,j115,j116,j117,j118,j119,j120,j121,j122,j123,j124,j125,j126,j127,j128,j129,j130,j131,j132,j133,j134,j135,j136,j137,j138],[]⟩ [.code xJ,.inBlock 1,.inLoop eX,.inBlock 0,.code eU]) (b₁.at a₁ (.inRegion ops₁ (i₁::rest₁)::k₁)::cs₁)) st:=by
 simp only[yZ,yY,xJ,BI,sF,G9,eX,eU,fK,iy,nK,Try.f105,Option.getD_some,Nat.reduceEqDiff,↓reduceIte];cases sv
 ·refine TT.road hP hA (by simp[hx]) 60 fun w₀ hF=>?_
  repeat w_go aj
  refine Goes.stop (fun w₁ r₁=>⟨rfl,?_⟩);clear hF w₀;refine TT.lI hP hA hx (mx:=.woken false) rfl (by simp) fun bH aQ bF aX=>⟨_,_,_,1,stepG_nanotime rfl rfl (by k_ne) rfl Try.func121 PU Qq OQ Qh Pm,rfl,rfl,rfl,aY.later _,dG,fun bM aI bY _ _ jo _=>?_⟩
  have ar8:phi bM.γ s<pr:=by omega
  generalize((bH.w.os.mono+bH.w.tick:Nat):Int)=tw;clear aX aQ bF hA hI hp jo;refine TT.road hP aI (by simp[hx]) 60 fun w₀ hF=>?_
  walk_nrm
  repeat w_go aj
  refine Goes.stop (fun w₁ r₁=>⟨rfl,?_⟩);clear hF w₀;refine TT.mu hP aI hx (mx:=.woken false) rfl (by simp) fun aV bg dD bI q1 q2 _ _=>⟨_,_,_,.cont true,1,aV.γ.L,aV.γ.W,aV.γ.S,aV.γ.N,aV.γ.tn,aV.γ.th,stepG_loadQ rfl rfl (by k_ne) rfl rfl bI.gb.cell.2.1 je,rfl,rfl,by simp,by simp,bI.mu.again bg.lo (bg.hi dD) (dA bg),bI.gb.stay rfl rfl,aY.refl _,.inl (by simp[kM]),.inl (Nat.le_refl _),dG,.inr (Nat.le_refl _),fun eH bf dK _ w₆ _ yF=>?_⟩
  obtain⟨hW,hS⟩:=bI.mu.bl7 bg.lo (bg.hi dD) (dA bg);have iY:=Rd.now (dK.aZ s bf.sc).c;rw[w₆.1,w₆.2.1,w₆.2.2.1,w₆.2.2.2]at iY;have hn:=(bI.mu.nine bI.n0.2.2.2).1;have hl:=bI.mu.bd.1;have h4:bits BinOp.and IntKind.i32 (enc aV.γ.L aV.γ.W aV.γ.S aV.γ.N) 4=0:=by rw[hS];exact mW _ _ 0 _ hl bI.mu.bd.2.1 (by omega) (by omega)
  have ba2:phi eH.γ s<pr:=by simp only[kM]at yF;omega
  generalize ho:enc aV.γ.L aV.γ.W aV.γ.S aV.γ.N=old at h4;refine TT.road hP bf (by simp[hx]) 60 fun w₀ hF=>?_
  walk_nrm
  repeat w_nl aj
  u_c stepG_inLoop aj hF
  refine Goes.stop (fun w₁ r₁=>⟨rfl,?_⟩);rw[<-ho];exact ih _ (by omega) _ 0 true _ _ _ _ _ _ eH rfl (by omega) (by omega) bf dK iY (fun _=>⟨hW,hS⟩) (by simp) ..
 ·refine TT.road hP hA (by simp[hx]) 60 fun w₀ hF=>?_
  repeat w_go aj
  refine Goes.stop (fun w₁ r₁=>⟨rfl,?_⟩);clear hF w₀;refine TT.mu hP hA hx (mx:=.woken false) rfl (by simp) fun aV bg dD bI q1 q2 _ _=>⟨_,_,_,.cont true,1,aV.γ.L,aV.γ.W,aV.γ.S,aV.γ.N,aV.γ.tn,aV.γ.th,stepG_loadQ rfl rfl (by k_ne) rfl rfl bI.gb.cell.2.1 je,rfl,rfl,by simp,by simp,bI.mu.again bg.lo (bg.hi dD) (dA bg),bI.gb.stay rfl rfl,aY.refl _,.inl (by simp[kM]),.inl (Nat.le_refl _),dG,.inr (Nat.le_refl _),fun eH bf dK _ w₆ _ yF=>?_⟩
  obtain⟨hW,hS⟩:=bI.mu.bl7 bg.lo (bg.hi dD) (dA bg);have iY:=Rd.now (dK.aZ s bf.sc).c;rw[w₆.1,w₆.2.1,w₆.2.2.1,w₆.2.2.2]at iY;have hn:=(bI.mu.nine bI.n0.2.2.2).1;have hl:=bI.mu.bd.1;have h4:bits BinOp.and IntKind.i32 (enc aV.γ.L aV.γ.W aV.γ.S aV.γ.N) 4=0:=by rw[hS];exact mW _ _ 0 _ hl bI.mu.bd.2.1 (by omega) (by omega)
  have ba2:phi eH.γ s<pr:=by simp only[kM]at yF;omega
  generalize ho:enc aV.γ.L aV.γ.W aV.γ.S aV.γ.N=old at h4;refine TT.road hP bf (by simp[hx]) 60 fun w₀ hF=>?_
  walk_nrm
  repeat w_nl aj
  u_c stepG_inLoop aj hF
  refine Goes.stop (fun w₁ r₁=>⟨rfl,?_⟩);rw[<-ho];exact ih _ (by omega) _ 0 true _ _ _ _ _ _ eH rfl (by omega) (by omega) bf dK iY (fun _=>⟨hW,hS⟩) (by simp) ..
end
end
section
section
variable{q:ig}(hP:q.P=Try.prog){i:Nat}{s:aO}{x:Wk}{Ch:Nat->Goroutine->St aJ->Prop}
variable{b₁:Frame}{a₁:Act}{ops₁:Array Oper}{i₁:Nat}{rest₁:List Nat}{k₁:List Item}{cs₁:List Frame}
include hP
theorem as4(hx:x.wg=.work)(hT:OA q i Ch s x b₁ a₁ ops₁ i₁ rest₁ k₁ cs₁){sv:Bool}{st:St aJ}(hA:At s i {x with mx:=.woken true,df:=1} st)(j1 j2 j4 j5 j6 j7 j8 j9 j10 j11 j12 j13 j14 j15 j16 j17 j18 j19 j20 j21 j22 j23 j24 j25 j26 j27 j28 j29 j30 j31 j32 j33 j34 j35 j36 j37 j38 j39 j40 j41 j42 j43 j44 j45 j46 j47 j48 j49 j50 j51 j52 j53 j54 j55 j56 j57 j58 j59 j60 j61 j62 j63 j64 j65 j66 j67 j68 j69 j70 j71 j72 j73 j74 j75 j76 j77 j78 j79 j80 j81 j82 j83 j84 j85 j86 j87 j88 j89 j90 j91 j92 j93 j94 j95 j96 j97 j98 j99 j100 j101 j102 j103 j104 j105 j106 j107 j108 j109 j110 j111 j112 j113 j114 j115 j116 j117 j118 j119 j120 j121 j122 j123 j124 j125 j126 j127 j128 j129 j130 j131 j132 j133 j134 j135 j136 j137 j138:Value):
  TT (cfg q) i Ch (G ((base 105).at ⟨#[.pointer (some ⟨s.Gb,4,none⟩),j1,j2,.bool sv,j4,j5,j6,j7,j8,j9,j10,j11,j12,j13,j14,j15,j16,j17,j18,j19,j20,j21,j22,j23,j24,j25,j26,j27,j28,j29,j30,j31,j32,j33,j34,j35,j36,j37,j38,j39,j40,j41,j42,j43,j44,j45,j46,j47,j48,j49,j50,j51,j52,j53,j54,j55,j56,j57,j58,j59,j60,j61,j62,j63,j64,j65,j66,j67,j68,j69,j70,j71,j72,j73,j74,j75,j76,j77,j78,j79,j80,j81,j82,j83,j84,j85,j86,j87,j88,j89,j90,j91,j92,j93,j94,j95,j96,j97,j98,j99,j100,j101,j102,j103,j104,j105,j106,j107,j108,j109,j110,j111,j112,j113,j114,j115,j116,j117,j118,j119,j120,j121,j122,j123,j124,j125,j126,j127,j128,j129,j130,j131,j132,j133,j134,j135,j136,j137,j138],[]⟩ [.code BI,.inBlock 1,.inLoop eX,.inBlock 0,.code eU]) (b₁.at a₁ (.inRegion ops₁ (i₁::rest₁)::k₁)::cs₁)) st:=by
 simp only[yZ,yY,xJ,BI,sF,G9,eX,eU,fK,iy,nK,Try.f105,Option.getD_some,Nat.reduceEqDiff,↓reduceIte];refine TT.road hP hA (by simp[hx]) 60 fun w₀ hF=>?_
 repeat w_go aj
 refine Goes.stop (fun w₁ r₁=>⟨rfl,?_⟩);clear hF w₀;refine TT.lI hP hA hx (mx:=.woken true) rfl (by simp) fun bH aQ bF aX=>⟨_,_,_,1,stepG_loadQ rfl rfl (by k_ne) rfl rfl aX.gb.cell.2.1 je,rfl,rfl,rfl,aY.refl _,dG,fun bM aI bY _ w₄ _ _=>?_⟩
 obtain⟨hL,hW,hS,h1⟩:=aX.mu.Zf aQ.lo (aQ.hi bF) (dA aQ);have n4:bM.γ.N=bH.γ.N:=w₄.2.2.2;have hn:=(aX.mu.nine aX.n0.2.2.2).1;generalize bH.γ.N=oH at n4 h1 hn ⊢;rw[hL,hW,hS];have h4:bits BinOp.and IntKind.i32 (enc 0 0 1 oH) 4=4:=mW 0 0 1 oH (by omega) (by omega) (by omega) (by omega);have h3:bits BinOp.and IntKind.i32 (enc 0 0 1 oH) 3=0:=aN5 0 0 1 oH (by omega) (by omega) (by omega) (by omega);obtain⟨nn,hd,hnn⟩:∃nn:Int,enc 0 0 1 oH/8=nn/\nn=oH:=⟨_,YN 0 0 1 oH (by omega) (by omega) (by omega),rfl⟩;have hz:(nn==0)=false:=by simp;omega
 have h12:nn=1\/(nn==1)=false:=by simp;omega
 have h2:nn≠1->2<=oH:=by omega
 clear hL hW hS aX aQ bF hnn w₄;generalize enc 0 0 1 oH=old at h4 h3 hd ⊢;rcases h12 with h12|h12
 ·cases sv
  ·refine TT.road hP aI (by simp[hx]) 80 fun w₀ hF=>?_
   walk_nrm
   repeat w_go aj
   refine Goes.stop (fun w₁ r₁=>⟨rfl,?_⟩);clear hF w₀;refine TT.mu hP aI hx (mx:=.woken true) rfl (by simp) fun ah au hI₁ aB p1 p2 p3 p4=>?_
   obtain⟨e1,e2,e3,e4⟩:=aB.mu.Zf au.lo (au.hi hI₁) (dA au);have hn1:=(aB.mu.nine aB.n0.2.2.2).1;have p4:=p4 rfl;refine⟨_,_,_,.own .chk,1,1,0,0,ah.γ.N-1,ah.γ.tn,ah.γ.th,stepG_add_atomic rfl rfl (by k_ne) rfl Try.func106 EG FI DY .i32 f_add rfl rfl aB.gb.cell.2.1 (aB.gb.cell.2.2.2 4),rfl,kU _ _,by simp,by simp,aB.mu.handed au.lo (au.hi hI₁) (dA au) 0 (.inl rfl),aB.gb.swap rfl (by rw[e1,e2,e3,IntKind.wrap_i32];unfold enc;omega),aY.set _ 4 _ (by omega),.inl (by simp[kM]),.inr fun j hj j1 j2=>aB.mu.IU au.lo (au.hi hI₁) (dA au) hj j1 j2,jh 4 (.inl rfl),.inr (Nat.le_refl _),fun ay aC aT _ _ _ _=>?_⟩;clear aB au hI₁ e1 e2 e3 e4 hn1 p1 p2 p3 p4;refine TT.road hP aC (by simp[hx]) 60 fun w₀ hF=>?_
   walk_nrm
   repeat w_but "code.exit" aj
   w_go aj
   refine Goes.stop (fun w₁ r₁=>⟨rfl,?_⟩);exact pq hP hx hT aC ..
  ·refine TT.road hP aI (by simp[hx]) 80 fun w₀ hF=>?_
   walk_nrm
   repeat w_go aj
   refine Goes.stop (fun w₁ r₁=>⟨rfl,?_⟩);clear hF w₀;refine TT.mu hP aI hx (mx:=.woken true) rfl (by simp) fun ah au hI₁ aB p1 p2 p3 p4=>?_
   obtain⟨e1,e2,e3,e4⟩:=aB.mu.Zf au.lo (au.hi hI₁) (dA au);have hn1:=(aB.mu.nine aB.n0.2.2.2).1;have p4:=p4 rfl;refine⟨_,_,_,.own .chk,1,1,0,0,ah.γ.N-1,ah.γ.tn,ah.γ.th,stepG_add_atomic rfl rfl (by k_ne) rfl Try.func106 EG FI DY .i32 f_add rfl rfl aB.gb.cell.2.1 (aB.gb.cell.2.2.2 4),rfl,kU _ _,by simp,by simp,aB.mu.handed au.lo (au.hi hI₁) (dA au) 0 (.inl rfl),aB.gb.swap rfl (by rw[e1,e2,e3,IntKind.wrap_i32];unfold enc;omega),aY.set _ 4 _ (by omega),.inl (by simp[kM]),.inr fun j hj j1 j2=>aB.mu.IU au.lo (au.hi hI₁) (dA au) hj j1 j2,jh 4 (.inl rfl),.inr (Nat.le_refl _),fun ay aC aT _ _ _ _=>?_⟩;clear aB au hI₁ e1 e2 e3 e4 hn1 p1 p2 p3 p4;refine TT.road hP aC (by simp[hx]) 60 fun w₀ hF=>?_
   walk_nrm
   repeat w_but "code.exit" aj
   w_go aj
   refine Goes.stop (fun w₁ r₁=>⟨rfl,?_⟩);exact pq hP hx hT aC ..
 ·cases sv
  ·refine TT.road hP aI (by simp[hx]) 80 fun w₀ hF=>?_
   walk_nrm
   repeat w_go aj
   refine Goes.stop (fun w₁ r₁=>⟨rfl,?_⟩);clear hF w₀;refine TT.mu hP aI hx (mx:=.woken true) rfl (by simp) fun ah au hI₁ aB p1 p2 p3 p4=>?_
   obtain⟨e1,e2,e3,e4⟩:=aB.mu.Zf au.lo (au.hi hI₁) (dA au);have hn1:=(aB.mu.nine aB.n0.2.2.2).1;have p4:=p4 rfl;refine⟨_,_,_,.own .chk,1,1,0,0,ah.γ.N-1,ah.γ.tn,ah.γ.th,stepG_add_atomic rfl rfl (by k_ne) rfl Try.func106 EG FI DY .i32 f_add rfl rfl aB.gb.cell.2.1 (aB.gb.cell.2.2.2 4),rfl,kU _ _,by simp,by simp,aB.mu.handed au.lo (au.hi hI₁) (dA au) 0 (.inl rfl),aB.gb.swap rfl (by rw[e1,e2,e3,IntKind.wrap_i32];unfold enc;omega),aY.set _ 4 _ (by omega),.inl (by simp[kM]),.inr fun j hj j1 j2=>aB.mu.IU au.lo (au.hi hI₁) (dA au) hj j1 j2,jh 4 (.inl rfl),.inr (Nat.le_refl _),fun ay aC aT _ _ _ _=>?_⟩;clear aB au hI₁ e1 e2 e3 e4 hn1 p1 p2 p3 p4;refine TT.road hP aC (by simp[hx]) 60 fun w₀ hF=>?_
   walk_nrm
   repeat w_but "code.exit" aj
   w_go aj
   refine Goes.stop (fun w₁ r₁=>⟨rfl,?_⟩);exact pq hP hx hT aC ..
  ·have h2:=h2 (by simpa using h12);refine TT.road hP aI (by simp[hx]) 80 fun w₀ hF=>?_
   walk_nrm
   repeat w_go aj
   refine Goes.stop (fun w₁ r₁=>⟨rfl,?_⟩);clear hF w₀;refine TT.mu hP aI hx (mx:=.woken true) rfl (by simp) fun ah au hI₁ aB p1 p2 p3 p4=>?_
   obtain⟨e1,e2,e3,e4⟩:=aB.mu.Zf au.lo (au.hi hI₁) (dA au);have hn1:=(aB.mu.nine aB.n0.2.2.2).1;have p4:=p4 rfl;refine⟨_,_,_,.own .chk,1,1,0,1,ah.γ.N-1,ah.γ.tn,ah.γ.th,stepG_add_atomic rfl rfl (by k_ne) rfl Try.func106 EG FI DY .i32 f_add rfl rfl aB.gb.cell.2.1 (aB.gb.cell.2.2.2 4),rfl,kU _ _,by simp,by simp,aB.mu.handed au.lo (au.hi hI₁) (dA au) 1 (.inr ⟨rfl,by omega⟩),aB.gb.swap rfl (by rw[e1,e2,e3,IntKind.wrap_i32];unfold enc;omega),aY.set _ 4 _ (by omega),.inl (by simp[kM]),.inr fun j hj j1 j2=>aB.mu.IU au.lo (au.hi hI₁) (dA au) hj j1 j2,jh 4 (.inl rfl),.inr (Nat.le_refl _),fun ay aC aT _ _ _ _=>?_⟩;clear aB au hI₁ e1 e2 e3 e4 hn1 p1 p2 p3 p4;refine TT.road hP aC (by simp[hx]) 60 fun w₀ hF=>?_
   walk_nrm
   repeat w_but "code.exit" aj
   w_go aj
   refine Goes.stop (fun w₁ r₁=>⟨rfl,?_⟩);exact pq hP hx hT aC ..
theorem aX0(hx:x.wg=.work)(hT:OA q i Ch s x b₁ a₁ ops₁ i₁ rest₁ k₁ cs₁){sv:Bool}{wst:Int}{st:St aJ}(hA:At s i {x with mx:=.woken true,df:=1} st)(j1 j4 j5 j6 j7 j8 j9 j10 j11 j12 j13 j14 j15 j16 j17 j18 j19 j20 j21 j22 j23 j24 j25 j26 j27 j28 j29 j30 j31 j32 j33 j34 j35 j36 j37 j38 j39 j40 j41 j42 j43 j44 j45 j46 j47 j48 j49 j50 j51 j52 j53 j54 j55 j56 j57 j58 j59 j60 j61 j62 j63 j64 j65 j66 j67 j68 j69 j70 j71 j72 j73 j74 j75 j76 j77 j78 j79 j80 j81 j82 j83 j84 j85 j86 j87 j88 j89 j90 j91 j92 j93 j94 j95 j96 j97 j98 j99 j100 j101 j102 j103 j104 j105 j106 j107 j108 j109 j110 j111 j112 j113 j114 j115 j116 j117 j118 j119 j120 j121 j122 j123 j124 j125 j126 j127 j128 j129 j130 j131 j132 j133 j134 j135 j136 j137 j138:Value):
  TT (cfg q) i Ch (G ((base 105).at ⟨#[.pointer (some ⟨s.Gb,4,none⟩),j1,.int .i64 wst,.bool sv,j4,j5,j6,j7,j8,j9,j10,j11,j12,j13,j14,j15,j16,j17,j18,j19,j20,j21,j22,j23,j24,j25,j26,j27,j28,j29,j30,j31,j32,j33,j34,j35,j36,j37,j38,j39,j40,j41,j42,j43,j44,j45,j46,j47,j48,j49,j50,j51,j52,j53,j54,j55,j56,j57,j58,j59,j60,j61,j62,j63,j64,j65,j66,j67,j68,j69,j70,j71,j72,j73,j74,j75,j76,j77,j78,j79,j80,j81,j82,j83,j84,j85,j86,j87,j88,j89,j90,j91,j92,j93,j94,j95,j96,j97,j98,j99,j100,j101,j102,j103,j104,j105,j106,j107,j108,j109,j110,j111,j112,j113,j114,j115,j116,j117,j118,j119,j120,j121,j122,j123,j124,j125,j126,j127,j128,j129,j130,j131,j132,j133,j134,j135,j136,j137,j138],[]⟩ [.code xJ,.inBlock 1,.inLoop eX,.inBlock 0,.code eU]) (b₁.at a₁ (.inRegion ops₁ (i₁::rest₁)::k₁)::cs₁)) st:=by
 simp only[yZ,yY,xJ,BI,sF,G9,eX,eU,fK,iy,nK,Try.f105,Option.getD_some,Nat.reduceEqDiff,↓reduceIte];cases sv
 ·refine TT.road hP hA (by simp[hx]) 60 fun w₀ hF=>?_
  repeat w_go aj
  refine Goes.stop (fun w₁ r₁=>⟨rfl,?_⟩);clear hF w₀;refine TT.lI hP hA hx (mx:=.woken true) rfl (by simp) fun bH aQ bF aX=>⟨_,_,_,1,stepG_nanotime rfl rfl (by k_ne) rfl Try.func121 PU Qq OQ Qh Pm,rfl,rfl,rfl,aY.later _,dG,fun bM aI bY _ _ jo _=>?_⟩
  generalize((bH.w.os.mono+bH.w.tick:Nat):Int)=tw;clear aX aQ bF hA jo;refine TT.road hP aI (by simp[hx]) 60 fun w₀ hF=>?_
  walk_nrm
  repeat w_but "code.seq" aj
  refine Goes.stop (fun w₁ r₁=>⟨rfl,?_⟩);exact as4 hP hx hT aI ..
 ·refine TT.road hP hA (by simp[hx]) 60 fun w₀ hF=>?_
  w_go aj
  repeat w_but "code.seq" aj
  refine Goes.stop (fun w₁ r₁=>⟨rfl,?_⟩);exact as4 hP hx hT hA ..
end
end
section
section
variable{q:ig}(hP:q.P=Try.prog){i:Nat}{s:aO}{x:Wk}{Ch:Nat->Goroutine->St aJ->Prop}
variable{b₁:Frame}{a₁:Act}{ops₁:Array Oper}{i₁:Nat}{rest₁:List Nat}{k₁:List Item}{cs₁:List Frame}
include hP
theorem semAt(hx:x.wg=.work)(hT:OA q i Ch s x b₁ a₁ ops₁ i₁ rest₁ k₁ cs₁){pr:Nat}(ih:∀μ',μ'<5*pr->V9 q i Ch s x b₁ a₁ ops₁ i₁ rest₁ k₁ cs₁ μ'){sv:Bool}{wst:Int}{st:St aJ}(hA:At s i {x with mx:=.queued,df:=1} st)(hI:Inv q st)(hp:phi st.γ s<pr)(j1 j4 j5 j6 j7 j8 j9 j10 j11 j12 j13 j14 j15 j16 j17 j18 j19 j20 j21 j22 j23 j24 j25 j26 j27 j28 j29 j30 j31 j32 j33 j34 j35 j36 j37 j38 j39 j40 j41 j42 j43 j44 j45 j46 j47 j48 j49 j50 j51 j52 j53 j54 j55 j56 j57 j58 j59 j60 j61 j62 j63 j64 j65 j66 j67 j68 j69 j70 j71 j72 j73 j74 j75 j76 j77 j78 j79 j80 j81 j82 j83 j84 j85 j86 j87 j88 j89 j90 j91 j92 j93 j94 j95 j96 j97 j98 j99 j100 j101 j102 j103 j104 j105 j106 j107 j108 j109 j110 j111 j112 j113 j114 j115 j116 j117 j118 j119 j120 j121 j122 j123 j124 j125 j126 j127 j128 j129 j130 j131 j132 j133 j134 j135 j136 j137 j138:Value):
  TT (cfg q) i Ch (G ((base 105).at ⟨#[.pointer (some ⟨s.Gb,4,none⟩),j1,.int .i64 wst,.bool sv,j4,j5,j6,j7,j8,j9,j10,j11,j12,j13,j14,j15,j16,j17,j18,j19,j20,j21,j22,j23,j24,j25,j26,j27,j28,j29,j30,j31,j32,j33,j34,j35,j36,j37,j38,j39,j40,j41,j42,j43,j44,j45,j46,j47,j48,j49,j50,j51,j52,j53,j54,j55,j56,j57,j58,j59,j60,j61,j62,j63,j64,j65,j66,j67,j68,j69,j70,j71,j72,j73,j74,j75,j76,j77,j78,j79,j80,j81,j82,j83,j84,j85,j86,j87,j88,j89,j90,j91,j92,j93,j94,j95,j96,j97,j98,j99,j100,j101,j102,j103,j104,j105,j106,j107,j108,j109,j110,j111,j112,j113,j114,j115,j116,j117,j118,j119,j120,j121,j122,j123,j124,j125,j126,j127,j128,j129,j130,j131,j132,j133,j134,j135,j136,j137,j138],[]⟩ [.code yY,.inBlock 1,.inLoop eX,.inBlock 0,.code eU]) (b₁.at a₁ (.inRegion ops₁ (i₁::rest₁)::k₁)::cs₁)) st:=by
 simp only[yZ,yY,xJ,BI,sF,G9,eX,eU,fK,iy,nK,Try.f105,Option.getD_some,Nat.reduceEqDiff,↓reduceIte];refine TT.road hP hA (by simp[hx]) 60 fun w₀ hF=>?_
 repeat w_go aj
 refine Goes.stop (fun w₁ r₁=>⟨rfl,?_⟩);clear hF w₀;refine TT.sem (P:=Try.prog) hP hA hx rfl rfl (fun w hc=>stepG_semacquire_wait rfl rfl rfl Try.func122 aq2 av7 an5 au7 (by simp[Act.eval]) hc) ⟨_,fun w n hc hn hz=>stepG_semacquire rfl rfl (by k_ne) rfl Try.func122 aq2 av7 an5 au7 (by simp[Act.eval]) hc hn hz,rfl,fun ay aC aT hlt=>?_,fun ay aC aT hlt=>?_⟩
 ·refine TT.road hP aC (by simp[hx]) 60 fun w₀ hF=>?_
  walk_nrm
  repeat w_but "code.seq" aj
  refine Goes.stop (fun w₁ r₁=>⟨rfl,?_⟩);exact aW9 hP hx hT ih aC aT (by omega) ..
 ·refine TT.road hP aC (by simp[hx]) 60 fun w₀ hF=>?_
  walk_nrm
  repeat w_but "code.seq" aj
  refine Goes.stop (fun w₁ r₁=>⟨rfl,?_⟩);exact aX0 hP hx hT aC ..
theorem qx(hx:x.wg=.work)(hT:OA q i Ch s x b₁ a₁ ops₁ i₁ rest₁ k₁ cs₁){pr:Nat}(ih:∀μ',μ'<5*pr->V9 q i Ch s x b₁ a₁ ops₁ i₁ rest₁ k₁ cs₁ μ'){sv:Bool}{wst:Int}{st:St aJ}(hA:At s i {x with mx:=.queued,df:=1} st)(hI:Inv q st)(hp:phi st.γ s<pr)(j1 j4 j5 j6 j7 j8 j9 j10 j11 j12 j13 j14 j15 j16 j17 j18 j19 j20 j21 j22 j23 j24 j25 j26 j27 j28 j29 j30 j31 j32 j33 j34 j35 j36 j37 j38 j39 j40 j41 j42 j43 j44 j45 j46 j47 j48 j49 j50 j51 j52 j53 j54 j55 j56 j57 j58 j59 j60 j61 j62 j63 j64 j65 j66 j67 j68 j69 j70 j71 j72 j73 j74 j75 j76 j77 j78 j79 j80 j81 j82 j83 j84 j85 j86 j87 j88 j89 j90 j91 j92 j93 j94 j95 j96 j97 j98 j99 j100 j101 j102 j103 j104 j105 j106 j107 j108 j109 j110 j111 j112 j113 j114 j115 j116 j117 j118 j119 j120 j121 j122 j123 j124 j125 j126 j127 j128 j129 j130 j131 j132 j133 j134 j135 j136 j137 j138:Value):
  TT (cfg q) i Ch (G ((base 105).at ⟨#[.pointer (some ⟨s.Gb,4,none⟩),j1,.int .i64 wst,.bool sv,j4,j5,j6,j7,j8,j9,j10,j11,j12,j13,j14,j15,j16,j17,j18,j19,j20,j21,j22,j23,j24,j25,j26,j27,j28,j29,j30,j31,j32,j33,j34,j35,j36,j37,j38,j39,j40,j41,j42,j43,j44,j45,j46,j47,j48,j49,j50,j51,j52,j53,j54,j55,j56,j57,j58,j59,j60,j61,j62,j63,j64,j65,j66,j67,j68,j69,j70,j71,j72,j73,j74,j75,j76,j77,j78,j79,j80,j81,j82,j83,j84,j85,j86,j87,j88,j89,j90,j91,j92,j93,j94,j95,j96,j97,j98,j99,j100,j101,j102,j103,j104,j105,j106,j107,j108,j109,j110,j111,j112,j113,j114,j115,j116,j117,j118,j119,j120,j121,j122,j123,j124,j125,j126,j127,j128,j129,j130,j131,j132,j133,j134,j135,j136,j137,j138],[]⟩ [.code yZ,.inBlock 1,.inLoop eX,.inBlock 0,.code eU]) (b₁.at a₁ (.inRegion ops₁ (i₁::rest₁)::k₁)::cs₁)) st:=by
 by_cases hz:wst=0
 ·subst hz;simp only[yZ,yY,xJ,BI,sF,G9,eX,eU,fK,iy,nK,Try.f105,Option.getD_some,Nat.reduceEqDiff,↓reduceIte];refine TT.road hP hA (by simp[hx]) 60 fun w₀ hF=>?_
  repeat w_go aj
  refine Goes.stop (fun w₁ r₁=>⟨rfl,?_⟩);clear hF w₀;refine TT.lI hP hA hx (mx:=.queued) rfl (by simp) fun bH aQ bF aX=>⟨_,_,_,1,stepG_nanotime rfl rfl (by k_ne) rfl Try.func121 PU Qq OQ Qh Pm,rfl,rfl,rfl,aY.later _,dG,fun bM aI bY _ _ jo _=>?_⟩
  generalize((bH.w.os.mono+bH.w.tick:Nat):Int)=tw;have ar8:phi bM.γ s<pr:=by omega
  clear aX aQ bF hA hp jo;refine TT.road hP aI (by simp[hx]) 60 fun w₀ hF=>?_
  walk_nrm
  repeat w_but "code.seq" aj
  refine Goes.stop (fun w₁ r₁=>⟨rfl,?_⟩);exact semAt hP hx hT ih aI bY ar8 ..
 ·have hz1:(wst==0)=false:=by simpa using hz
  have hz2:(wst != 0)=true:=by simpa using hz
  clear hz;simp only[yZ,yY,xJ,BI,sF,G9,eX,eU,fK,iy,nK,Try.f105,Option.getD_some,Nat.reduceEqDiff,↓reduceIte];refine TT.road hP hA (by simp[hx]) 60 fun w₀ hF=>?_
  w_go aj
  repeat w_but "code.seq" aj
  w_go aj
  w_go aj
  repeat w_but "code.seq" aj
  refine Goes.stop (fun w₁ r₁=>⟨rfl,?_⟩);exact semAt hP hx hT ih hA hI hp ..
end
end
end Cc
end Go.Proofs.Ytpfpokjaeffbjab
