/- Part of the proof: AgP, AgK. -/
import Derived.Test.YtpfpokjaeffbjabBb10
import Derived.Test.YtpfpokjaeffbjabBb12
import Derived.Test.YtpfpokjaeffbjabBb11
import Derived.Test.YtpfpokjaeffbjabBb13
import Derived.Test.YtpfpokjaeffbjabBb17
set_option linter.unusedVariables false
set_option linter.unusedSimpArgs false
set_option maxRecDepth 100000
set_option maxHeartbeats 16000000
namespace Go.Proofs.Ytpfpokjaeffbjab
namespace OO
open Go.RowKit Go.Conc Cc Pl ny oI ni Mem oG Dl Ad Ud Gn
open qj hiding base
def lZ(t n:Int)(cs:List Int)(l:List Cm)(msg:ByteArray)(ns:Nat):Int:=
 if dw t n cs=false then 4 else if um t n l≠0 then um t n l else if ns≠l.length then 12 else if dM l (cs.getD 0 0) msg=1 then 11 else 0
def NP(x:Int):Value:=.tuple #[.agg #[.int .u64 0,.int .u64 0],.slice none 0 0,.int .i64 x]
def Stand(B:Nat)(w w':World):Prop:=B<=w'.heap.size/\∀b,b<B->w'.heap[b]?=w.heap[b]?
theorem Stand.below{B B':Nat}{w w1 w2:World}(h:Stand B w w1)(k:Below B' w1 w2)(hB:B<=B'):Stand B w w2:=⟨Nat.le_trans h.1 k.size,fun b hb=>(k.block b (by omega)).trans (h.2 b hb)⟩
theorem Stand.gK{B:Nat}{w w1:World}(h:Stand B w w1){b:Nat}(hb:B<=b)(i:Nat)(v:Value):Stand B w (w1.setCell ⟨b,i,none⟩ v):=
 ⟨by simpa [World.setCell]using h.1,fun c hc=>(Below.heap_setCell w1 ⟨b,i,none⟩ v c (by show c≠b;omega)).trans (h.2 c hc)⟩
def bm6(t n:Int)(cs:List Int)(l:List Cm)(msg:ByteArray)(ns:Nat)(w:World)(a:Act)(w':World):Prop:=
 lZ t n cs l msg ns≠0/\(Go.results Try.f16 a.tmps).run Try.prog w'=.ok (NP (lZ t n cs l msg ns)) w'/\Stand w.heap.size w w'
def aQ2(t n:Int)(cs:List Int)(l:List Cm)(msg:ByteArray)(sA:Option Addr)(ns cap:Nat)(w:World)(a:Act)(w':World):Prop:=
 lZ t n cs l msg ns=0/\Stand w.heap.size w w'/\a.tmps.size=107/\∃b8 b11 b13 b15 b16 b17 Gb Pb gc lb Rb Zb Wg iP:Nat,
  (a.tmps[3]?=some (.slice sA ns cap)/\a.tmps[8]?=some (.pointer (some ⟨b8,0,none⟩))/\a.tmps[9]?=some (.slice none 0 0)/\a.tmps[10]?=some (.int .i64 0)/\a.tmps[11]?=some (.pointer (some ⟨b11,0,none⟩))/\a.tmps[13]?=some (.pointer (some ⟨b13,0,none⟩))/\
   a.tmps[14]?=some (.int .u64 (dM l (cs.getD 0 0) msg))/\a.tmps[15]?=some (.pointer (some ⟨b15,0,none⟩))/\a.tmps[16]?=some (.pointer (some ⟨b16,0,none⟩))/\a.tmps[17]?=some (.pointer (some ⟨b17,0,none⟩))/\a.tmps[18]?=some (.pointer (some ⟨Wg,0,none⟩))/\
   ∀i,(19<=i/\i<24)\/(70<=i/\i<107)->a.tmps[i]?=some undef)/\
  (∀b∈[b8,b11,b13,b15,b16,b17,Gb,Pb,gc,lb,Rb,Zb,Wg],w.heap.size<=b)/\
  bZ w' b8 46 #[.int .u64 0,.int .u64 0]/\bZ w' b11 69 #[.pointer (some ⟨Gb,0,none⟩)]/\bZ w' b13 90 #[.pointer (some ⟨Pb,0,none⟩)]/\
  bZ w' b15 72 #[.int .u64 (jB (dM l (cs.getD 0 0) msg) (cs.getD 0 0) msg)]/\bZ w' b16 100 #[.slice (some ⟨Rb,0,none⟩) ns ns]/\bZ w' b17 101 #[.slice (some ⟨Zb,0,none⟩) ns ns]/\
  bZ w' Gb 143 (dS t n (.slice (some ⟨gc,0,none⟩) cs.length iP))/\mD w' w.heap.size (.slice (some ⟨gc,0,none⟩) cs.length iP) cs/\
  bZ w' Pb 146 #[.pointer (some ⟨Gb,0,none⟩),.slice (some ⟨lb,0,none⟩) l.length l.length,.string msg]/\oK w' w'.heap.size (.slice (some ⟨lb,0,none⟩) l.length l.length) l/\
  bZ w' Rb 4 (madeCells #[.bool false] ns)/\bZ w' Zb 72 (madeCells #[.int .u64 0] ns)/\bZ w' Wg 107 #[.int .u64 0,.int .u32 0]
theorem iM{N R:Act->World->Prop}{c:Code}{cs:List Code}{a:Act}{W:World}(F:World->Prop)(hF:∀W τ d,F W->F (World.on W τ d))(h:F W)
  (k:∀W',F W'->c.wp Try.prog (fun e a w=>(e=.normal/\a.defers=[]/\wpT Try.prog N R cs a w)\/(e=.ret/\a.defers=[]/\R a w)) a W'):wpT Try.prog N R (c::cs) a W:=fun τ d=>k _ (hF W τ d h)
theorem DI{wq:World}{b8:Nat}{T:Array Value}{x:Int}(h8:bZ wq b8 46 #[.int .u64 0,.int .u64 0])(t8:T[8]?=some (.pointer (some ⟨b8,0,none⟩)):=by rfl)(t9:T[9]?=some (.slice none 0 0):=by rfl)(t10:T[10]?=some (.int .i64 x):=by rfl):
  (Go.results Try.f16 T).run Try.prog ((wq.setCell ⟨b8,0,none⟩ (.int .u64 0)).setCell ⟨b8,1,none⟩ (.int .u64 0))=.ok (NP x) ((wq.setCell ⟨b8,0,none⟩ (.int .u64 0)).setCell ⟨b8,1,none⟩ (.int .u64 0)):=by
 have B:=((h8.gK 0 (.int .u64 0)).gK 1 (.int .u64 0));have c0:=B.cell 0;have c1:=B.cell 1;unfold NP;simp[Go.results,Try.results16,t8,t9,t10,go_sem,c0,c1]
theorem ay6(T:Array Value)(i:Nat)(hi:(19<=i/\i<24)\/(70<=i/\i<107))(h19:T[19]?=some undef)(h20:T[20]?=some undef)(h21:T[21]?=some undef)(h22:T[22]?=some undef)(h23:T[23]?=some undef)(h70:T[70]?=some undef)(h71:T[71]?=some undef)(h72:T[72]?=some undef)(h73:T[73]?=some undef)(h74:T[74]?=some undef)(h75:T[75]?=some undef)(h76:T[76]?=some undef)(h77:T[77]?=some undef)(h78:T[78]?=some undef)(h79:T[79]?=some undef)(h80:T[80]?=some undef)(h81:T[81]?=some undef)(h82:T[82]?=some undef)(Yv:T[83]?=some undef)(h84:T[84]?=some undef)(h85:T[85]?=some undef)(Yu:T[86]?=some undef)(h87:T[87]?=some undef)(h88:T[88]?=some undef)(h89:T[89]?=some undef)(h90:T[90]?=some undef)(h91:T[91]?=some undef)(h92:T[92]?=some undef)(h93:T[93]?=some undef)(h94:T[94]?=some undef)(h95:T[95]?=some undef)(h96:T[96]?=some undef)(h97:T[97]?=some undef)(h98:T[98]?=some undef)(h99:T[99]?=some undef)(bD0:T[100]?=some undef)(bC9:T[101]?=some undef)(bC8:T[102]?=some undef)(bC7:T[103]?=some undef)(bC6:T[104]?=some undef)(bC5:T[105]?=some undef)(bC4:T[106]?=some undef):T[i]?=some undef:=by
 match i,hi with
 |0,h=>omega
 |1,h=>omega
 |2,h=>omega
 |3,h=>omega
 |4,h=>omega
 |5,h=>omega
 |6,h=>omega
 |7,h=>omega
 |8,h=>omega
 |9,h=>omega
 |10,h=>omega
 |11,h=>omega
 |12,h=>omega
 |13,h=>omega
 |14,h=>omega
 |15,h=>omega
 |16,h=>omega
 |17,h=>omega
 |18,h=>omega
 |19,_=>exact h19
 |20,_=>exact h20
 |21,_=>exact h21
 |22,_=>exact h22
 |23,_=>exact h23
 |24,h=>omega
 |25,h=>omega
 |26,h=>omega
 |27,h=>omega
 |28,h=>omega
 |29,h=>omega
 |30,h=>omega
 |31,h=>omega
 |32,h=>omega
 |33,h=>omega
 |34,h=>omega
 |35,h=>omega
 |36,h=>omega
 |37,h=>omega
 |38,h=>omega
 |39,h=>omega
 |40,h=>omega
 |41,h=>omega
 |42,h=>omega
 |43,h=>omega
 |44,h=>omega
 |45,h=>omega
 |46,h=>omega
 |47,h=>omega
 |48,h=>omega
 |49,h=>omega
 |50,h=>omega
 |51,h=>omega
 |52,h=>omega
 |53,h=>omega
 |54,h=>omega
 |55,h=>omega
 |56,h=>omega
 |57,h=>omega
 |58,h=>omega
 |59,h=>omega
 |60,h=>omega
 |61,h=>omega
 |62,h=>omega
 |63,h=>omega
 |64,h=>omega
 |65,h=>omega
 |66,h=>omega
 |67,h=>omega
 |68,h=>omega
 |69,h=>omega
 |70,_=>exact h70
 |71,_=>exact h71
 |72,_=>exact h72
 |73,_=>exact h73
 |74,_=>exact h74
 |75,_=>exact h75
 |76,_=>exact h76
 |77,_=>exact h77
 |78,_=>exact h78
 |79,_=>exact h79
 |80,_=>exact h80
 |81,_=>exact h81
 |82,_=>exact h82
 |83,_=>exact Yv
 |84,_=>exact h84
 |85,_=>exact h85
 |86,_=>exact Yu
 |87,_=>exact h87
 |88,_=>exact h88
 |89,_=>exact h89
 |90,_=>exact h90
 |91,_=>exact h91
 |92,_=>exact h92
 |93,_=>exact h93
 |94,_=>exact h94
 |95,_=>exact h95
 |96,_=>exact h96
 |97,_=>exact h97
 |98,_=>exact h98
 |99,_=>exact h99
 |100,_=>exact bD0
 |101,_=>exact bC9
 |102,_=>exact bC8
 |103,_=>exact bC7
 |104,_=>exact bC6
 |105,_=>exact bC5
 |106,_=>exact bC4
 |i+107,h=>omega
theorem U9:(Try.prog.info? 4).map (fun i=>(i.zero,i.size,i.bytes))=some (some (.bool false),1,1):=by kernel_rfl
theorem ah0:(Try.prog.info? 72).map (fun i=>(i.zero,i.size,i.bytes))=some (some (.int .u64 0),1,8):=by kernel_rfl
theorem bv8{w:World}{t n:Int}{vg Jc:Value}{sA:Option Addr}{ns cap:Nat}{cs:List Int}{l:List Cm}{msg:ByteArray}(hv:Nums .u64 w w.heap.size vg cs)(hcb:∀i,i<cs.length->0<=cs.getD i 0)(hcl:cs.length<=65536)(hC:oK w w.heap.size Jc l)(hll:l.length<=65536)(hb:∀i,i<l.length->0<=(l.getD i .zero).d/\0<=(l.getD i .zero).e)(hns:ns<=65536)(hms:msg.size<=1000000):
  wpT Try.prog (aQ2 t n cs l msg sA ns cap w) (bm6 t n cs l msg ns w) (dP 12 jP).1 ⟨#[.agg #[.int .i64 t,.int .i64 n,vg],.string msg,Jc,.slice sA ns cap,undef,undef,undef,undef,undef,undef,undef,undef,undef,undef,undef,undef,undef,undef,undef,undef,undef,undef,undef,undef,undef,undef,undef,undef,undef,undef,undef,undef,undef,undef,undef,undef,undef,undef,undef,undef,undef,undef,undef,undef,undef,undef,undef,undef,undef,undef,undef,undef,undef,undef,undef,undef,undef,undef,undef,undef,undef,undef,undef,undef,undef,undef,undef,undef,undef,undef,undef,undef,undef,undef,undef,undef,undef,undef,undef,undef,undef,undef,undef,undef,undef,undef,undef,undef,undef,undef,undef,undef,undef,undef,undef,undef,undef,undef,undef,undef,undef,undef,undef,undef,undef,undef,undef],[]⟩ w:=by
 obtain⟨B,hB⟩:∃B,B=w.heap.size:=⟨_,rfl⟩;have HE:∀x,lZ t n cs l msg ns=x->Hid (lZ t n cs l msg ns=x):=fun x h=>h
 have HCB:=Lib.hid hcb;have HBB:=Lib.hid hb;simp only[jP,dP,Try.f16,Option.getD_some];refine iM (fun W=>Nums .u64 W W.heap.size vg cs/\oK W W.heap.size Jc l/\W.heap.size=B/\Stand B w W) (fun _ _ _ h=>h) ⟨hv,hC,hB.symm,by rw[hB];exact⟨Nat.le_refl _,fun _ _=>rfl⟩⟩ fun w0 ⟨hv0,hC0,hz0,hs0⟩=>?_
 have HBS:=Lib.hid hB;clear hB;have hbel:∀o o':Obj,Below w0.heap.size w0 ((w0.alloc o).alloc o'):=fun o o'=>(aK w0 o).trans ((aK (w0.alloc o) o').mono (by simp))
 have k1:=fun o o'=>hv0.later (hbel o o')
 have k2:=fun o o'=>hC0.later (hbel o o')
 have k3:=fun o o'=>hs0.below (hbel o o') (by omega)
 clear hv hC hcb hb
 go_wp2_with fail
 refine iM (fun W=>Nums .u64 W W.heap.size vg cs/\oK W W.heap.size Jc l/\Stand B w W/\bZ W B 28 #[.int .i64 t,.int .i64 n,vg]/\bZ W (B+1) 46 #[.int .u64 0,.int .u64 0]/\W.heap.size=B+2) (fun _ _ _ h=>h) ⟨k1 _ _,k2 _ _,k3 _ _,?_,?_,by simp;omega⟩ fun w1 ⟨hv1,hC1,hs1,h4,h8,hz1⟩=>?_
 ·rw[<-hz0];exact(bZ.new w0 _ _).alloc _
 ·rw[<-hz0];exact jc _ _ (by simp)
 clear k1 k2 k3 hbel hs0 hC0 hv0;have c0:=h4.cell 0;have c1:=h4.cell 1;have c2:=h4.cell 2;simp at c0 c1 c2;have HOF:=Lib.hid (aZ2 t n cs vg w1 hv1 hcl HCB.out);have H8:=Lib.hid h8;have HC1:=Lib.hid hC1;clear h8 hv1 hC1
 go_wp2_with fail
 refine HOF.out.mono ?_;rintro e w2 ⟨hb2,⟨hno,rfl⟩|⟨hyes,g,vc,rfl,hg,pK,hown⟩⟩
 ·have h8':=H8.out.below hb2 H8.out.lt;have hs2:=hs1.below hb2 (by omega);have HX:=Lib.hid (show lZ t n cs l msg ns=4 by unfold lZ;rw[if_pos hno]);have hsz:=hb2.size
  go_wp2_with fail
  refine iM (fun W=>Stand B w W/\bZ W (B+1) 46 #[.int .u64 0,.int .u64 0]) (fun _ _ _ h=>h) ⟨hs2.below (aK _ _) (by omega),h8'.below (aK _ _) h8'.lt⟩ fun w3 ⟨hs3,Yv⟩=>?_
  have e0:=Yv.cell 0;have e1:=Yv.cell 1;have f0:=Yv.frozen 0;have f1:=Yv.frozen 1;have H83:=Lib.hid Yv;clear h8' Yv hs2
  go_wp2_with fail
  exact⟨by rw[HX.out];decide,by rw[HX.out];exact DI H83.out,by rw[<-HBS.out];exact(hs3.gK (by omega) _ _).gK (by omega) _ _⟩
 have hsz2:=hb2.size;have h8':=H8.out.below hb2 H8.out.lt;have hs2:=hs1.below hb2 (by omega);have hC2:=HC1.out.later hb2;have HB2:=fun o=>aK w2 o
 go_wp2_with fail
 obtain⟨b11,Jj⟩:∃b,b=w2.heap.size:=⟨_,rfl⟩;refine iM (fun W=>oK W W.heap.size Jc l/\Stand B w W/\bZ W (B+1) 46 #[.int .u64 0,.int .u64 0]/\bZ W b11 69 #[.pointer (some ⟨g,0,none⟩)]/\bZ W g 143 (dS t n vc)/\mD W B vc cs) (fun _ _ _ h=>h) ⟨hC2.later (HB2 _),hs2.below (HB2 _) (by omega),h8'.below (HB2 _) h8'.lt,by rw[Jj];exact bZ.new _ _ _,pK.below (HB2 _) pK.lt,(own_below hown (HB2 _) (Nat.le_refl _)).mono (by omega)⟩ fun w3 ⟨hC3,hs3,Yv,bi4,hg3,ho3⟩=>?_
 rw[<-Jj];have bM6:B<=b11:=by omega
 have hgB:B<=g:=by omega
 have VN:=Lib.hid hyes;clear HB2 Jj hb2 h8' hs2 hC2 pK hown hsz2 hg hyes H8 HC1 HOF h4 c0 c1 c2 hs1 hz1
 go_wp2_with fail
 refine iM (fun W=>oK W W.heap.size Jc l/\Stand B w W/\bZ W (B+1) 46 #[.int .u64 0,.int .u64 0]/\bZ W b11 69 #[.pointer (some ⟨g,0,none⟩)]/\bZ W g 143 (dS t n vc)/\mD W B vc cs) (fun _ _ _ h=>h) ⟨hC3,hs3,Yv,bi4,hg3,ho3⟩ fun w4 ⟨hC4,hs4,h84,aL1,hg4,ho4⟩=>?_
 clear hC3 hs3 Yv bi4 hg3 ho3;have c11:=aL1.cell 0;simp at c11;have HPO:=Lib.hid (Rf (msg:=msg) (GU hg4) ho4 hC4 hll HBB.out);have H84:=Lib.hid h84;have HG4:=Lib.hid hg4;have HO4:=Lib.hid ho4;have aR8:=Lib.hid aL1;clear h84 hg4 ho4 hC4 aL1
 go_wp2_with fail
 refine HPO.out.mono ?_;rintro e w5 ⟨hb5,⟨hno,rfl⟩|⟨h0,p,lv',rfl,hpk,hpB,lb,rfl,hlB⟩⟩
 ·have h8':=H84.out.below hb5 H84.out.lt;have hs5:=hs4.below hb5 hs4.1;have HX:=Lib.hid (show lZ t n cs l msg ns=um t n l by unfold lZ;rw[if_neg (by rw[VN.out];simp),if_pos hno]);have HN:=Lib.hid hno;have hne:(um t n l != 0)=true:=by rw[bne_iff_ne];exact hno
  generalize um t n l=X at*;clear hno
  go_wp2_with fail
  refine iM (fun W=>Stand B w W/\bZ W (B+1) 46 #[.int .u64 0,.int .u64 0]) (fun _ _ _ h=>h) ⟨hs5.below (aK _ _) hs5.1,h8'.below (aK _ _) h8'.lt⟩ fun w6 ⟨hs6,Yu⟩=>?_
  have e0:=Yu.cell 0;have e1:=Yu.cell 1;have f0:=Yu.frozen 0;have f1:=Yu.frozen 1;have H86:=Lib.hid Yu;clear h8' Yu hs5
  go_wp2_with fail
  exact⟨by rw[HX.out];exact HN.out,by rw[HX.out];exact DI H86.out,by rw[<-HBS.out];exact(hs6.gK (by omega) _ _).gK (by omega) _ _⟩
 have hs5:=hs4.below hb5 hs4.1;have h85:=H84.out.below hb5 H84.out.lt;have aL0:=aR8.out.below hb5 aR8.out.lt;have hg5:=HG4.out.below hb5 HG4.out.lt;have HB5:=fun o=>aK w5 o
 have hsz5:=hs5.1;have bz0:=hs4.1
 go_wp2_with fail
 obtain⟨b13,Ve⟩:∃b,b=w5.heap.size:=⟨_,rfl⟩;refine iM (fun W=>Stand B w W/\bZ W (B+1) 46 #[.int .u64 0,.int .u64 0]/\bZ W b11 69 #[.pointer (some ⟨g,0,none⟩)]/\bZ W g 143 (dS t n vc)/\bZ W b13 90 #[.pointer (some ⟨p,0,none⟩)]/\Pk W p g vc (.slice (some ⟨lb,0,none⟩) l.length l.length) t n cs l msg B) (fun _ _ _ ⟨a1,a2,a3,a4,a5,a6⟩=>⟨a1,a2,a3,a4,a5,⟨a6.pk,a6.iJ,a6.grp,a6.own⟩⟩) ⟨hs5.below (HB5 _) hsz5,h85.below (HB5 _) h85.lt,aL0.below (HB5 _) aL0.lt,hg5.below (HB5 _) hg5.lt,by rw[Ve];exact bZ.new _ _ _,hpk.later (HB5 _)⟩ fun w6 ⟨hs6,Yu,h116,hg6,bi2,hp6⟩=>?_
 rw[<-Ve];have bM5:B<=b13:=by omega
 have bZ5:B<=p:=by omega
 have hlB':B<=lb:=by omega
 have H0:=Lib.hid h0;clear HB5 Ve hb5 hs5 h85 aL0 hg5 hsz5 bz0 hpk hpB hlB h0 HPO H84 HG4 HO4 aR8 c11 hs4
 go_wp2_with fail
 refine iM (fun W=>Stand B w W/\bZ W (B+1) 46 #[.int .u64 0,.int .u64 0]/\bZ W b11 69 #[.pointer (some ⟨g,0,none⟩)]/\bZ W g 143 (dS t n vc)/\bZ W b13 90 #[.pointer (some ⟨p,0,none⟩)]/\Pk W p g vc (.slice (some ⟨lb,0,none⟩) l.length l.length) t n cs l msg B) (fun _ _ _ ⟨a1,a2,a3,a4,a5,a6⟩=>⟨a1,a2,a3,a4,a5,⟨a6.pk,a6.iJ,a6.grp,a6.own⟩⟩) ⟨hs6,Yu,h116,hg6,bi2,hp6⟩ fun w7 ⟨hs7,h87,aK9,hg7,ai7,hp7⟩=>?_
 clear hs6 Yu h116 hg6 bi2 hp6;have c13:=ai7.cell 0;simp at c13;have HLEN:=Lib.hid (ba7 hp7);have H87:=Lib.hid h87;have bp2:=Lib.hid aK9;have HG7:=Lib.hid hg7;have HP7:=Lib.hid hp7;have bp1:=Lib.hid ai7;by_cases hln:ns=l.length
 case neg=>
  have HX:=Lib.hid (show lZ t n cs l msg ns=12 by unfold lZ;rw[if_neg (by rw[VN.out];simp),if_neg (by rw[H0.out];simp),if_pos hln]);have hne:((ns:Int) != (l.length:Int))=true:=by rw[bne_iff_ne];omega
  have hne':¬((ns:Int)=(l.length:Int)):=by omega
  have e0:=h87.cell 0;have e1:=h87.cell 1;have f0:=h87.frozen 0;have f1:=h87.frozen 1;clear aK9 hg7 hp7 ai7 h87 hln
  go_wp2_with (go_at_call 33;refine HLEN.out.mono ?_;rintro e w8 ⟨rfl,rfl⟩)
  exact⟨by rw[HX.out];decide,by rw[HX.out];exact DI H87.out,by rw[<-HBS.out];exact(hs7.gK (by omega) _ _).gK (by omega) _ _⟩
 case pos=>
 subst hln;clear aK9 hg7 hp7 ai7 h87
 go_wp2_with (go_at_call 33;refine HLEN.out.mono ?_;rintro e w8 ⟨rfl,rfl⟩)
 refine iM (fun W=>Stand B w W/\bZ W (B+1) 46 #[.int .u64 0,.int .u64 0]/\bZ W b11 69 #[.pointer (some ⟨g,0,none⟩)]/\bZ W g 143 (dS t n vc)/\bZ W b13 90 #[.pointer (some ⟨p,0,none⟩)]/\Pk W p g vc (.slice (some ⟨lb,0,none⟩) l.length l.length) t n cs l msg B) (fun _ _ _ ⟨a1,a2,a3,a4,a5,a6⟩=>⟨a1,a2,a3,a4,a5,⟨a6.pk,a6.iJ,a6.grp,a6.own⟩⟩) ⟨hs7,H87.out,bp2.out,HG7.out,bp1.out,HP7.out⟩ fun w8 ⟨hs8,h88,bi3,Ti,aK8,hp8⟩=>?_
 clear hs7 H87 bp2 HG7 HP7 bp1 HLEN c13;have c13:=aK8.cell 0;simp at c13;obtain⟨q1,q2,q3,q4,-,-⟩:=jG VN.out;obtain⟨p1,p2,-,-⟩:=zk H0.out;have hgd:=tq H0.out;have hcl0:0<cs.length:=by omega
 have Dh:l.length<=9:=by omega
 have hk:=sW (sZ VN.out hcl0);have hk2:0<=cs.getD 0 0/\cs.getD 0 0<18446744073709551616:=by omega
 have an1:=fun r x hx=>Lib.hid (bm1 hp8 hgd q3 Dh hcl0 hk2 hms r x hx)
 have H88:=Lib.hid h88;have aR7:=Lib.hid bi3;have HG8:=Lib.hid Ti;have HP8:=Lib.hid hp8;have aR6:=Lib.hid aK8;clear h88 bi3 Ti hp8 aK8;by_cases hall:dM l (cs.getD 0 0) msg=1
 ·have HX:=Lib.hid (show lZ t n cs l msg l.length=11 by unfold lZ;rw[if_neg (by rw[VN.out];simp),if_neg (by rw[H0.out];simp),if_neg (by simp),if_pos hall]);have HA:=an1 0 11 (.inl ⟨hall,rfl,rfl⟩);clear an1 hall
  go_wp2_with fail
  refine HA.out.mono ?_;rintro e w9 ⟨rfl,ZY⟩;have h89:=H88.out.below ZY H88.out.lt;have hs9:=hs8.below ZY hs8.1
  go_wp2_with fail
  refine iM (fun W=>Stand B w W/\bZ W (B+1) 46 #[.int .u64 0,.int .u64 0]) (fun _ _ _ h=>h) ⟨hs9,h89⟩ fun w10 ⟨hs10,Jl⟩=>?_
  have e0:=Jl.cell 0;have e1:=Jl.cell 1;have f0:=Jl.frozen 0;have f1:=Jl.frozen 1;have bI0:=Lib.hid Jl;clear h89 Jl hs9
  go_wp2_with fail
  exact⟨by rw[HX.out];decide,by rw[HX.out];exact DI bI0.out,by rw[<-HBS.out];exact(hs10.gK (by omega) _ _).gK (by omega) _ _⟩
 obtain⟨R,hR⟩:∃R,R=dM l (cs.getD 0 0) msg:=⟨_,rfl⟩;have HRR:=Lib.hid hR;have HX:=Lib.hid (show lZ t n cs l msg l.length=0 by unfold lZ;rw[if_neg (by rw[VN.out];simp),if_neg (by rw[H0.out];simp),if_neg (by simp),if_neg hall]);have HA:=an1 R 0 (.inr ⟨hall,hR,rfl⟩);clear an1 hall hR
 go_wp2_with fail
 refine HA.out.mono ?_;rintro e w9 ⟨rfl,ZY⟩;have hs9:=hs8.below ZY hs8.1;have h89:=H88.out.below ZY H88.out.lt;have h119:=aR7.out.below ZY aR7.out.lt;have hg9:=HG8.out.below ZY HG8.out.lt;have bi1:=aR6.out.below ZY aR6.out.lt;have hp9:=HP8.out.later ZY
 go_wp2_with fail
 refine iM (fun W=>Stand B w W/\bZ W (B+1) 46 #[.int .u64 0,.int .u64 0]/\bZ W b11 69 #[.pointer (some ⟨g,0,none⟩)]/\bZ W g 143 (dS t n vc)/\bZ W b13 90 #[.pointer (some ⟨p,0,none⟩)]/\Pk W p g vc (.slice (some ⟨lb,0,none⟩) l.length l.length) t n cs l msg B) (fun _ _ _ ⟨a1,a2,a3,a4,a5,a6⟩=>⟨a1,a2,a3,a4,a5,⟨a6.pk,a6.iJ,a6.grp,a6.own⟩⟩) ⟨hs9,h89,h119,hg9,bi1,hp9⟩ fun w10 ⟨hs10,Jl,au4,bf2,au2,bd6⟩=>?_
 clear hs9 h89 h119 hg9 bi1 hp9 ZY HA H88 aR7 HG8 HP8 aR6 c13 hs8
 go_wp2_with fail
 refine iM (fun W=>Stand B w W/\bZ W (B+1) 46 #[.int .u64 0,.int .u64 0]/\bZ W b11 69 #[.pointer (some ⟨g,0,none⟩)]/\bZ W g 143 (dS t n vc)/\bZ W b13 90 #[.pointer (some ⟨p,0,none⟩)]/\Pk W p g vc (.slice (some ⟨lb,0,none⟩) l.length l.length) t n cs l msg B) (fun _ _ _ ⟨a1,a2,a3,a4,a5,a6⟩=>⟨a1,a2,a3,a4,a5,⟨a6.pk,a6.iJ,a6.grp,a6.own⟩⟩) ⟨hs10,Jl,au4,bf2,au2,bd6⟩ fun w11 ⟨hs11,bi0,Yy,bf1,au1,ah6⟩=>?_
 clear hs10 Jl au4 bf2 au2 bd6;have c11:=Yy.cell 0;simp at c11;have hr:0<=dM l (cs.getD 0 0) msg/\dM l (cs.getD 0 0) msg<2147483579:=by rw[DU];exact TU _ _ _ _
 have HKEY:=Lib.hid (aH4 ah6.grp ah6.own hcl0);have HCH:=Lib.hid (yK (dM l (cs.getD 0 0) msg) (cs.getD 0 0) msg w11 hms ⟨hr.1,by omega⟩ hk2);have aR5:=Lib.hid bi0;have ZB:=Lib.hid Yy;have aR0:=Lib.hid bf1;have bn4:=Lib.hid ah6;have ZA:=Lib.hid au1;have hr0:=hr.1;have hr1:=hr.2;have hR:=HRR.out;obtain⟨KK,hKK⟩:∃KK,KK=cs.getD 0 0:=⟨_,rfl⟩;obtain⟨CCC,hCC⟩:∃CC,CC=jB R KK msg:=⟨_,rfl⟩;rw[<-hR,<-hKK]at HCH;rw[<-hCC]at HCH;rw[<-hKK]at HKEY;have HKK:=Lib.hid hKK;have HCC:=Lib.hid hCC;clear hR hKK hCC bi0 Yy bf1 ah6 au1 hr hr0 hr1
 go_wp2_with (first|(go_at_call 40;refine HKEY.out.mono ?_;rintro e w' ⟨rfl,rfl⟩)|(go_at_call 39;refine HCH.out.mono ?_;rintro e w12 ⟨rfl,Qb⟩))
 have aI5:=hs11.below Qb hs11.1;have aK7:=aR5.out.below Qb aR5.out.lt;have Yx:=ZB.out.below Qb ZB.out.lt;have aJ7:=aR0.out.below Qb aR0.out.lt;have Yw:=ZA.out.below Qb ZA.out.lt;have bd5:=bn4.out.later Qb;have QB:=fun o=>aK w12 o
 have ar7:=aI5.1;obtain⟨b15,Qa⟩:∃b,b=w12.heap.size:=⟨_,rfl⟩;refine iM (fun W=>Stand B w W/\bZ W (B+1) 46 #[.int .u64 0,.int .u64 0]/\bZ W b11 69 #[.pointer (some ⟨g,0,none⟩)]/\bZ W g 143 (dS t n vc)/\bZ W b13 90 #[.pointer (some ⟨p,0,none⟩)]/\Pk W p g vc (.slice (some ⟨lb,0,none⟩) l.length l.length) t n cs l msg B/\bZ W b15 72 #[.int .u64 CCC]) (fun _ _ _ ⟨a1,a2,a3,a4,a5,a6,a7⟩=>⟨a1,a2,a3,a4,a5,⟨a6.pk,a6.iJ,a6.grp,a6.own⟩,a7⟩) ⟨aI5.below (QB _) ar7,aK7.below (QB _) aK7.lt,Yx.below (QB _) Yx.lt,aJ7.below (QB _) aJ7.lt,Yw.below (QB _) Yw.lt,bd5.later (QB _),by rw[Qa];exact bZ.new _ _ _⟩ fun w13 ⟨aI4,bh9,au3,bf0,au0,bd4,at7⟩=>?_
 rw[<-Qa];have bM4:B<=b15:=by omega
 clear aI5 aK7 Yx aJ7 Yw bd5 QB Qa ar7 Qb HKEY HCH aR5 ZB aR0 bn4 ZA c11 hs11;have bZ8:∀W,(Instr.makeSlice 100 (.int .i64 l.length) (.int .i64 l.length)).run Try.prog W=.ok (.slice (some ⟨W.heap.size,0,none⟩) l.length l.length) (W.alloc (.cells (madeCells #[.bool false] l.length) 4)):=
  fun W=>run_make_row' 100 4 (.bool false) 1 Try.underlying100 U9 rfl .i64 .i64 l.length (by omega) (by omega) W
 have bZ7:∀W,(Instr.makeSlice 101 (.int .i64 l.length) (.int .i64 l.length)).run Try.prog W=.ok (.slice (some ⟨W.heap.size,0,none⟩) l.length l.length) (W.alloc (.cells (madeCells #[.int .u64 0] l.length) 72)):=
  fun W=>run_make_row' 101 72 (.int .u64 0) 8 Try.underlying101 ah0 rfl .i64 .i64 l.length (by omega) (by omega) W
 have Oy:=fun o o'=>(aK w13 o).trans ((aK (w13.alloc o) o').mono (by simp))
 obtain⟨Rb,hRb⟩:∃b,b=w13.heap.size:=⟨_,rfl⟩;obtain⟨b16,hb16⟩:∃b,b=w13.heap.size+1:=⟨_,rfl⟩;have ar6:=aI4.1;have bo0:=Lib.hid (show(fun W=>Stand B w W/\bZ W (B+1) 46 #[.int .u64 0,.int .u64 0]/\bZ W b11 69 #[.pointer (some ⟨g,0,none⟩)]/\bZ W g 143 (dS t n vc)/\bZ W b13 90 #[.pointer (some ⟨p,0,none⟩)]/\Pk W p g vc (.slice (some ⟨lb,0,none⟩) l.length l.length) t n cs l msg B/\bZ W b15 72 #[.int .u64 CCC]) w13 from⟨aI4,bh9,au3,bf0,au0,bd4,at7⟩);clear bh9 au3 bf0 au0 bd4 at7
 go_wp2_with fail
 obtain⟨k1,k2,k3,k4,k5,k6,k7⟩:=bo0.out;refine iM (fun W=>Stand B w W/\bZ W (B+1) 46 #[.int .u64 0,.int .u64 0]/\bZ W b11 69 #[.pointer (some ⟨g,0,none⟩)]/\bZ W g 143 (dS t n vc)/\bZ W b13 90 #[.pointer (some ⟨p,0,none⟩)]/\Pk W p g vc (.slice (some ⟨lb,0,none⟩) l.length l.length) t n cs l msg B/\bZ W b15 72 #[.int .u64 CCC]/\bZ W Rb 4 (madeCells #[.bool false] l.length)/\bZ W b16 100 #[.slice (some ⟨Rb,0,none⟩) l.length l.length]) (fun _ _ _ ⟨a1,a2,a3,a4,a5,a6,a7,a8,a9⟩=>⟨a1,a2,a3,a4,a5,⟨a6.pk,a6.iJ,a6.grp,a6.own⟩,a7,a8,a9⟩) ⟨k1.below (Oy _ _) ar6,k2.below (Oy _ _) k2.lt,k3.below (Oy _ _) k3.lt,k4.below (Oy _ _) k4.lt,k5.below (Oy _ _) k5.lt,k6.later (Oy _ _),k7.below (Oy _ _) k7.lt,by rw[hRb];exact(bZ.new w13 _ _).alloc _,by rw[hRb,hb16];exact jc _ _ (by simp)⟩ fun w14 X14=>?_
 rw[<-hb16];have b08:B<=Rb:=by omega
 have bM3:B<=b16:=by omega
 clear k1 k2 k3 k4 k5 k6 k7 Oy bo0 hRb hb16 ar6 aI4;have ar5:=X14.1.1;have bn9:=Lib.hid X14;clear X14;have Gm:=fun o o'=>(aK w14 o).trans ((aK (w14.alloc o) o').mono (by simp))
 obtain⟨Zb,Yk⟩:∃b,b=w14.heap.size:=⟨_,rfl⟩;obtain⟨b17,Vd⟩:∃b,b=w14.heap.size+1:=⟨_,rfl⟩
 go_wp2_with fail
 obtain⟨k1,k2,k3,k4,k5,k6,k7,k8,k9⟩:=bn9.out;refine iM (fun W=>Stand B w W/\bZ W (B+1) 46 #[.int .u64 0,.int .u64 0]/\bZ W b11 69 #[.pointer (some ⟨g,0,none⟩)]/\bZ W g 143 (dS t n vc)/\bZ W b13 90 #[.pointer (some ⟨p,0,none⟩)]/\Pk W p g vc (.slice (some ⟨lb,0,none⟩) l.length l.length) t n cs l msg B/\bZ W b15 72 #[.int .u64 CCC]/\bZ W Rb 4 (madeCells #[.bool false] l.length)/\bZ W b16 100 #[.slice (some ⟨Rb,0,none⟩) l.length l.length]/\bZ W Zb 72 (madeCells #[.int .u64 0] l.length)/\bZ W b17 101 #[.slice (some ⟨Zb,0,none⟩) l.length l.length]) (fun _ _ _ ⟨a1,a2,a3,a4,a5,a6,a7,a8,a9,a10,a11⟩=>⟨a1,a2,a3,a4,a5,⟨a6.pk,a6.iJ,a6.grp,a6.own⟩,a7,a8,a9,a10,a11⟩) ⟨k1.below (Gm _ _) ar5,k2.below (Gm _ _) k2.lt,k3.below (Gm _ _) k3.lt,k4.below (Gm _ _) k4.lt,k5.below (Gm _ _) k5.lt,k6.later (Gm _ _),k7.below (Gm _ _) k7.lt,k8.below (Gm _ _) k8.lt,k9.below (Gm _ _) k9.lt,by rw[Yk];exact(bZ.new w14 _ _).alloc _,by rw[Yk,Vd];exact jc _ _ (by simp)⟩ fun w15 X15=>?_
 rw[<-Vd];have b04:B<=Zb:=by omega
 have bM2:B<=b17:=by omega
 clear k1 k2 k3 k4 k5 k6 k7 k8 k9 Gm bn9 Yk Vd ar5;have bb8:=X15.1.1;have bG7:=Lib.hid X15;clear X15
 go_wp2_with fail
 obtain⟨k1,k2,k3,k4,k5,k6,k7,k8,k9,k10,k11⟩:=bG7.out;have BF:=fun o=>aK w15 o
 obtain⟨gc,iP,rfl,bZ9,-⟩:=k6.own.form hcl0;have hBS:=HBS.out;have hR:=HRR.out;have hC:=HCC.out;have hK:=HKK.out;subst hBS;subst hR;subst hK;subst hC;refine⟨HX.out,k1.below (BF _) bb8,rfl,w.heap.size+1,b11,b13,b15,b16,b17,g,p,gc,lb,Rb,Zb,w15.heap.size,iP,⟨rfl,rfl,rfl,rfl,rfl,rfl,rfl,rfl,rfl,rfl,rfl,fun i hi=>?_⟩,?_,k2.below (BF _) k2.lt,k3.below (BF _) k3.lt,k5.below (BF _) k5.lt,k7.below (BF _) k7.lt,k9.below (BF _) k9.lt,k11.below (BF _) k11.lt,k4.below (BF _) k4.lt,own_below k6.own (BF _) (Nat.le_refl _),k6.pk.below (BF _) k6.pk.lt,k6.iJ.later (BF _),k8.below (BF _) k8.lt,k10.below (BF _) k10.lt,bZ.new _ _ _⟩
 ·exact ay6 _ _ hi rfl rfl rfl rfl rfl rfl rfl rfl rfl rfl rfl rfl rfl rfl rfl rfl rfl rfl rfl rfl rfl rfl rfl rfl rfl rfl rfl rfl rfl rfl rfl rfl rfl rfl rfl rfl rfl rfl rfl rfl rfl rfl
 ·intro b hb;simp only[List.mem_cons,List.not_mem_nil,or_false]at hb;omega
end OO
namespace Cc
open Go.Conc Go.ConcN Go.ConcM Go.RowKit Go.Conc.Lib Go.ConcR.Gen
open Go.ConcR (KK wgBlock WgAt stA smA rd wr mk DC0)
open Pl ny oI ni Mem oG Dl Ad J5 OO Gn
open qj hiding base
structure AgM(cs:List Int)(l:List Cm)(msg:ByteArray)(n cv:Int)(nv:Nat->Int):Prop where
 n0:0<=n
 n9:n<=9
 c9:cs.length<=9
 c0:0<cs.length
 el:∀j,j<cs.length->jM (cs.getD j 0)=true
 gd:ni.Good n l
 l9:l.length<=9
 ms:msg.size<=1000000
 nb:∀k,k<l.length->0<=nv k/\nv k<18446744073709551616
 cb:0<=cv/\cv<18446744073709551616
structure ql(q:ig)(st:St aJ)(K:List (Nat×Obj))(cs:List Int)(l:List Cm)(msg:ByteArray)(t n r cv:Int)(nv:Nat->Int)(T:Array Value)(B b8 b11 b13 b15 b16 b17 Gb gc Pb lb Rb Zb Wg iP bS oS cap:Nat)(Cg Cl:Array Value)(eL:TypeId):Prop where
 sz:T.size=107
 s3:T[3]?=some (.slice (some ⟨bS,oS,none⟩) l.length cap)
 s8:T[8]?=some (.pointer (some ⟨b8,0,none⟩))
 s9:T[9]?=some (.slice none 0 0)
 s10:T[10]?=some (.int .i64 0)
 s11:T[11]?=some (.pointer (some ⟨b11,0,none⟩))
 s13:T[13]?=some (.pointer (some ⟨b13,0,none⟩))
 s14:T[14]?=some (.int .u64 r)
 s15:T[15]?=some (.pointer (some ⟨b15,0,none⟩))
 s16:T[16]?=some (.pointer (some ⟨b16,0,none⟩))
 OD:T[17]?=some (.pointer (some ⟨b17,0,none⟩))
 ZK:T[18]?=some (.pointer (some ⟨Wg,0,none⟩))
 su:∀i,(19<=i/\i<24)\/(70<=i/\i<107)->T[i]?=some undef
 kb8:st.w.heap[b8]?=some (Obj.cells (#[.int .u64 0,.int .u64 0]) 46 (0,0))
 EP:st.w.heap[b11]?=some (Obj.cells (#[.pointer (some ⟨Gb,0,none⟩)]) 69 (0,0))
 jy:st.w.heap[b13]?=some (Obj.cells (#[.pointer (some ⟨Pb,0,none⟩)]) 90 (0,0))
 Jd:st.w.heap[b15]?=some (Obj.cells (#[.int .u64 cv]) 72 (0,0))
 jw:st.w.heap[b16]?=some (Obj.cells (#[.slice (some ⟨Rb,0,none⟩) l.length l.length]) 100 (0,0))
 jv:st.w.heap[b17]?=some (Obj.cells (#[.slice (some ⟨Zb,0,none⟩) l.length l.length]) 101 (0,0))
 nH:st.w.heap[Gb]?=some (Obj.cells (dS t n (.slice (some ⟨gc,0,none⟩) cs.length iP)) 143 (0,0))
 qm:st.w.heap[gc]?=some (Obj.cells (Cg) 85 (0,0))
 pF:st.w.heap[Pb]?=some (Obj.cells (#[.pointer (some ⟨Gb,0,none⟩),.slice (some ⟨lb,0,none⟩) l.length l.length,.string msg]) 146 (0,0))
 ZW:st.w.heap[lb]?=some (Obj.cells (Cl) eL (0,0))
 nN:st.w.heap[Rb]?=some (Obj.cells (madeCells #[.bool false] l.length) 4 (0,0))
 nX:st.w.heap[Zb]?=some (Obj.cells (madeCells #[.int .u64 0] l.length) 72 (0,0))
 Dc:st.w.heap[Wg]?=some (Obj.cells (#[.int .u64 0,.int .u32 0]) 107 (0,0))
 gcl:cs.length<=Cg.size/\∀j,j<cs.length->Cg[j]?=some (.int .u64 (cs.getD j 0))
 EL:3*l.length<=Cl.size/\∀j u,j<3*l.length->(aU l)[j]?=some u->Cl[j]?=some u
 nbz:b15≠Zb
 qO:∀b∈[b8,b11,b13,b15,b16,b17,Gb,gc,Pb,Rb,Zb,Wg],lb≠b
 low:∀b∈[b8,b11,b13,b15,b16,b17,Gb,gc,Pb,lb,Rb,Zb,Wg],q.P.globals.size<=b
 new:∀b∈[b8,b11,b13,b15,b16,b17,Gb,gc,Pb,lb,Rb,Zb,Wg],B<=b
 nd:∀b∈[b8,b11,b13,b15,b16,b17,Gb,gc,Pb,lb,Rb,Zb,Wg],¬st.γ.dead b
 ex:∀b∈[b8,b11,b13,b15,b16,b17,Gb,gc,Pb,lb,Rb,Zb,Wg],∀off,st.γ.ex 0 (ca b off)
 sh:∃ob,(bS,ob)∈K/\∀(w:World) (k:Nat),w.heap[bS]?=some ob->k<l.length->w.cell? ⟨bS,oS+k,none⟩=some (.int .u64 (nv k))
 hcap:l.length<=cap
 kB:∀b o,(b,o)∈K->b<B
def lY(num:Nat)(cs:List Int)(l:List Cm)(msg:ByteArray)(t n cv:Int)(nv:Nat->Int)(Gb gc Rb Zb Wg iP:Nat):aO:=
 {n0:=num,n:=l.length,Gb:=Gb,Wg:=Wg,Zb:=Zb,Rb:=Rb,g0:=.int .i64 t,g1:=.int .i64 n,g2:=.slice (some ⟨gc,0,none⟩) cs.length iP,nn:=n.toNat,vals:=fun id=>pub cs id,zv:=fun k=>.int .u64 (nv k),rv:=fun k=>.bool (fQ (nv k) cv cs l msg k)}
def ax5(y:Nat->Value):Array Value:=#[y 0,y 1,y 2,y 3,y 4,y 5,y 6,y 7,y 8,y 9,y 10,y 11,y 12,y 13,y 14,y 15,y 16,y 17,y 18,y 19,y 20,y 21,y 22,y 23,y 24,y 25,y 26,y 27,y 28,y 29,y 30,y 31,y 32,y 33,y 34,y 35,y 36,y 37,y 38,y 39,y 40,y 41,y 42,y 43,y 44,y 45,y 46,y 47,y 48,y 49,y 50,y 51,y 52,y 53,y 54,y 55,y 56,y 57,y 58,y 59,y 60,y 61,y 62,y 63,y 64,y 65,y 66,y 67,y 68,y 69,y 70,y 71,y 72,y 73,y 74,y 75,y 76,y 77,y 78,y 79,y 80,y 81,y 82,y 83,y 84,y 85,y 86,y 87,y 88,y 89,y 90,y 91,y 92,y 93,y 94,y 95,y 96,y 97,y 98,y 99,y 100,y 101,y 102,y 103,y 104,y 105,y 106]
theorem aP1(T:Array Value)(h:T.size=107)(y:Nat->Value)(hy:∀i,i<107->T[i]?=some (y i)):T=ax5 y:=by
 have e:T=((List.range 107).map y).toArray:=by
  refine Array.ext (by simp[h]) fun i h1 h2=>?_
  have:=hy i (by omega);rw[Array.getElem?_eq_getElem h1]at this
  simpa using Option.some.inj this
 rw[e];rfl
theorem WO(T:Array Value)(h:T.size=107):∃y:Nat->Value,T=ax5 y/\∀i v,T[i]?=some v->y i=v:=by
 refine⟨fun i=>T.getD i undef,aP1 T h _ fun i hi=>?_,fun i v hv=>?_⟩
 ·simp[Array.getD,h,hi]
 ·simp only[Array.getD];split
  ·rename_i hlt;rw[Array.getElem?_eq_getElem hlt]at hv;exact Option.some.inj hv
  ·rename_i hlt;rw[Array.getElem?_eq_none (by omega)]at hv;cases hv
section
variable{q:ig}{st:St aJ}{K:List (Nat×Obj)}{cs:List Int}{l:List Cm}{msg:ByteArray}{t n r cv:Int}{nv:Nat->Int}{T:Array Value}{B b8 b11 b13 b15 b16 b17 Gb gc Pb lb Rb Zb Wg iP bS oS cap:Nat}{Cg Cl:Array Value}{eL:TypeId}
theorem ql.kept(h:ql q st K cs l msg t n r cv nv T B b8 b11 b13 b15 b16 b17 Gb gc Pb lb Rb Zb Wg iP bS oS cap Cg Cl eL){num:Nat}(hA:jX 0 num K st):jX 0 num ((b8,Obj.cells (#[.int .u64 0,.int .u64 0]) 46 (0,0))::([(b11,Obj.cells (#[.pointer (some ⟨Gb,0,none⟩)]) 69 (0,0)),(b13,Obj.cells (#[.pointer (some ⟨Pb,0,none⟩)]) 90 (0,0)),(b15,Obj.cells (#[.int .u64 cv]) 72 (0,0)),(b16,Obj.cells (#[.slice (some ⟨Rb,0,none⟩) l.length l.length]) 100 (0,0)),(b17,Obj.cells (#[.slice (some ⟨Zb,0,none⟩) l.length l.length]) 101 (0,0)),(Pb,Obj.cells (#[.pointer (some ⟨Gb,0,none⟩),.slice (some ⟨lb,0,none⟩) l.length l.length,.string msg]) 146 (0,0)),(gc,Obj.cells (Cg) 85 (0,0)),(lb,Obj.cells (Cl) eL (0,0))]++K)) st:=(((((((((hA.more h.ZW (.inl (h.ex lb (by simp))) (h.nd lb (by simp))).more h.qm (.inl (h.ex gc (by simp))) (h.nd gc (by simp))).more h.pF (.inl (h.ex Pb (by simp))) (h.nd Pb (by simp))).more h.jv (.inl (h.ex b17 (by simp))) (h.nd b17 (by simp))).more h.jw (.inl (h.ex b16 (by simp))) (h.nd b16 (by simp))).more h.Jd (.inl (h.ex b15 (by simp))) (h.nd b15 (by simp))).more h.jy (.inl (h.ex b13 (by simp))) (h.nd b13 (by simp))).more h.EP (.inl (h.ex b11 (by simp))) (h.nd b11 (by simp))).more h.kb8 (.inl (h.ex b8 (by simp))) (h.nd b8 (by simp)))
theorem ql.apart(h:ql q st K cs l msg t n r cv nv T B b8 b11 b13 b15 b16 b17 Gb gc Pb lb Rb Zb Wg iP bS oS cap Cg Cl eL){b:Nat}{o:Obj}(hb:(b,o)∈(b8,Obj.cells (#[.int .u64 0,.int .u64 0]) 46 (0,0))::([(b11,Obj.cells (#[.pointer (some ⟨Gb,0,none⟩)]) 69 (0,0)),(b13,Obj.cells (#[.pointer (some ⟨Pb,0,none⟩)]) 90 (0,0)),(b15,Obj.cells (#[.int .u64 cv]) 72 (0,0)),(b16,Obj.cells (#[.slice (some ⟨Rb,0,none⟩) l.length l.length]) 100 (0,0)),(b17,Obj.cells (#[.slice (some ⟨Zb,0,none⟩) l.length l.length]) 101 (0,0)),(Pb,Obj.cells (#[.pointer (some ⟨Gb,0,none⟩),.slice (some ⟨lb,0,none⟩) l.length l.length,.string msg]) 146 (0,0)),(gc,Obj.cells (Cg) 85 (0,0)),(lb,Obj.cells (Cl) eL (0,0))]++K)):b≠Gb/\b≠Wg/\b≠Zb/\b≠Rb:=by
 have RU:b8≠Gb:=aF h.kb8 h.nH (by decide);have RQ:b8≠Wg:=aF h.kb8 h.Dc (by decide);have RP:b8≠Zb:=aF h.kb8 h.nX (by decide);have RS:b8≠Rb:=aF h.kb8 h.nN (by decide);have Me:b11≠Gb:=aF h.EP h.nH (by decide);have L9:b11≠Wg:=aF h.EP h.Dc (by decide);have L8:b11≠Zb:=aF h.EP h.nX (by decide);have Mc:b11≠Rb:=aF h.EP h.nN (by decide);have nG:b13≠Gb:=aF h.jy h.nH (by decide);have LZ:b13≠Wg:=aF h.jy h.Dc (by decide);have LY:b13≠Zb:=aF h.jy h.nX (by decide);have L6:b13≠Rb:=aF h.jy h.nN (by decide);have LX:b15≠Gb:=aF h.Jd h.nH (by decide);have LV:b15≠Wg:=aF h.Jd h.Dc (by decide);have LU:b15≠Zb:=h.nbz;have LW:b15≠Rb:=aF h.Jd h.nN (by decide);have nD:b16≠Gb:=aF h.jw h.nH (by decide);have LP:b16≠Wg:=aF h.jw h.Dc (by decide);have LM:b16≠Zb:=aF h.jw h.nX (by decide);have LQ:b16≠Rb:=aF h.jw h.nN (by decide);have nC:b17≠Gb:=aF h.jv h.nH (by decide);have LJ:b17≠Wg:=aF h.jv h.Dc (by decide);have LH:b17≠Zb:=aF h.jv h.nX (by decide);have LK:b17≠Rb:=aF h.jv h.nN (by decide);have Sl:Pb≠Gb:=aF h.pF h.nH (by decide);have Si:Pb≠Wg:=aF h.pF h.Dc (by decide);have RZ:Pb≠Zb:=aF h.pF h.nX (by decide);have Sj:Pb≠Rb:=aF h.pF h.nN (by decide);have qC:gc≠Gb:=aF h.qm h.nH (by decide);have RH:gc≠Wg:=aF h.qm h.Dc (by decide);have RG:gc≠Zb:=aF h.qm h.nX (by decide);have RI:gc≠Rb:=aF h.qm h.nN (by decide);have qB:lb≠Gb:=h.qO Gb (by simp);have RD:lb≠Wg:=h.qO Wg (by simp);have Rz:lb≠Zb:=h.qO Zb (by simp);have RF:lb≠Rb:=h.qO Rb (by simp);have sU:gc≠Pb:=aF h.qm h.pF (by decide);have sS:lb≠Pb:=h.qO Pb (by simp);have sQ:lb≠gc:=h.qO gc (by simp);have Sr:Gb≠Wg:=aF h.nH h.Dc (by decide);have Sm:Gb≠Zb:=aF h.nH h.nX (by decide);have Sv:Gb≠Rb:=aF h.nH h.nN (by decide);have RX:Wg≠Zb:=aF h.Dc h.nX (by decide);have RY:Wg≠Rb:=aF h.Dc h.nN (by decide);have qE:Zb≠Rb:=aF h.nX h.nN (by decide);simp only[List.cons_append,List.nil_append]at hb;rcases List.mem_cons.1 hb with e|hb
 ·cases e;exact⟨RU,RQ,RP,RS⟩
 rcases List.mem_cons.1 hb with e|hb
 ·cases e;exact⟨Me,L9,L8,Mc⟩
 rcases List.mem_cons.1 hb with e|hb
 ·cases e;exact⟨nG,LZ,LY,L6⟩
 rcases List.mem_cons.1 hb with e|hb
 ·cases e;exact⟨LX,LV,LU,LW⟩
 rcases List.mem_cons.1 hb with e|hb
 ·cases e;exact⟨nD,LP,LM,LQ⟩
 rcases List.mem_cons.1 hb with e|hb
 ·cases e;exact⟨nC,LJ,LH,LK⟩
 rcases List.mem_cons.1 hb with e|hb
 ·cases e;exact⟨Sl,Si,RZ,Sj⟩
 rcases List.mem_cons.1 hb with e|hb
 ·cases e;exact⟨qC,RH,RG,RI⟩
 rcases List.mem_cons.1 hb with e|hb
 ·cases e;exact⟨qB,RD,Rz,RF⟩
 have:=h.kB b o hb;have g1:=h.new Gb (by simp);have g2:=h.new Wg (by simp);have g3:=h.new Zb (by simp);have g4:=h.new Rb (by simp);refine⟨?_,?_,?_,?_⟩<;>omega
theorem wP(z:Value){n k:Nat}(hk:k<n):(madeCells #[z] n)[k]?=some z:=by simp[madeCells,hk,Nat.mod_one]
theorem ql.enter(h:ql q st K cs l msg t n r cv nv T B b8 b11 b13 b15 b16 b17 Gb gc Pb lb Rb Zb Wg iP bS oS cap Cg Cl eL)(M:AgM cs l msg n cv nv){num:Nat}(hA:jX 0 num K st)(hG:q.tG=143)(hZ:q.tZ=72)(hR:q.tR=4)(hW:q.tW=107):
  Enter q (lY num cs l msg t n cv nv Gb gc Rb Zb Wg iP) st:=by
 have RU:b8≠Gb:=aF h.kb8 h.nH (by decide);have RQ:b8≠Wg:=aF h.kb8 h.Dc (by decide);have RP:b8≠Zb:=aF h.kb8 h.nX (by decide);have RS:b8≠Rb:=aF h.kb8 h.nN (by decide);have Me:b11≠Gb:=aF h.EP h.nH (by decide);have L9:b11≠Wg:=aF h.EP h.Dc (by decide);have L8:b11≠Zb:=aF h.EP h.nX (by decide);have Mc:b11≠Rb:=aF h.EP h.nN (by decide);have nG:b13≠Gb:=aF h.jy h.nH (by decide);have LZ:b13≠Wg:=aF h.jy h.Dc (by decide);have LY:b13≠Zb:=aF h.jy h.nX (by decide);have L6:b13≠Rb:=aF h.jy h.nN (by decide);have LX:b15≠Gb:=aF h.Jd h.nH (by decide);have LV:b15≠Wg:=aF h.Jd h.Dc (by decide);have LU:b15≠Zb:=h.nbz;have LW:b15≠Rb:=aF h.Jd h.nN (by decide);have nD:b16≠Gb:=aF h.jw h.nH (by decide);have LP:b16≠Wg:=aF h.jw h.Dc (by decide);have LM:b16≠Zb:=aF h.jw h.nX (by decide);have LQ:b16≠Rb:=aF h.jw h.nN (by decide);have nC:b17≠Gb:=aF h.jv h.nH (by decide);have LJ:b17≠Wg:=aF h.jv h.Dc (by decide);have LH:b17≠Zb:=aF h.jv h.nX (by decide);have LK:b17≠Rb:=aF h.jv h.nN (by decide);have Sl:Pb≠Gb:=aF h.pF h.nH (by decide);have Si:Pb≠Wg:=aF h.pF h.Dc (by decide);have RZ:Pb≠Zb:=aF h.pF h.nX (by decide);have Sj:Pb≠Rb:=aF h.pF h.nN (by decide);have qC:gc≠Gb:=aF h.qm h.nH (by decide);have RH:gc≠Wg:=aF h.qm h.Dc (by decide);have RG:gc≠Zb:=aF h.qm h.nX (by decide);have RI:gc≠Rb:=aF h.qm h.nN (by decide);have qB:lb≠Gb:=h.qO Gb (by simp);have RD:lb≠Wg:=h.qO Wg (by simp);have Rz:lb≠Zb:=h.qO Zb (by simp);have RF:lb≠Rb:=h.qO Rb (by simp);have sU:gc≠Pb:=aF h.qm h.pF (by decide);have sS:lb≠Pb:=h.qO Pb (by simp);have sQ:lb≠gc:=h.qO gc (by simp);have Sr:Gb≠Wg:=aF h.nH h.Dc (by decide);have Sm:Gb≠Zb:=aF h.nH h.nX (by decide);have Sv:Gb≠Rb:=aF h.nH h.nN (by decide);have RX:Wg≠Zb:=aF h.Dc h.nX (by decide);have RY:Wg≠Rb:=aF h.Dc h.nN (by decide);have qE:Zb≠Rb:=aF h.nX h.nN (by decide);refine⟨hA.num.symm,M.l9,⟨_,by rw[hG];exact h.nH,rfl,rfl,rfl,rfl,rfl,rfl,rfl,fun k k1 k2=>?_⟩,by rw[hW];exact h.Dc,⟨_,by rw[hZ];exact h.nX,size_madeCells _ _,fun k x hx=>?_,fun k hk e=>by cases e⟩,⟨_,by rw[hR];exact h.nN,size_madeCells _ _,fun k x hx=>?_,fun k hk e=>by cases e⟩,⟨Sr,Sm,Sv,RX,RY,qE⟩,fun b hb off=>?_,h.nd Gb (by simp),h.nd Zb (by simp),h.nd Rb (by simp)⟩
 ·match k,k1,k2 with
  |0,k1,_=>omega
  |1,k1,_=>omega
  |2,k1,_=>omega
  |3,k1,_=>omega
  |4,k1,_=>omega
  |5,k1,_=>omega
  |6,_,_=>exact⟨0,rfl⟩
  |7,_,_=>exact⟨0,rfl⟩
  |8,_,_=>exact⟨0,rfl⟩
  |9,_,_=>exact⟨0,rfl⟩
  |10,_,_=>exact⟨0,rfl⟩
  |11,_,_=>exact⟨0,rfl⟩
  |12,_,_=>exact⟨0,rfl⟩
  |13,_,_=>exact⟨0,rfl⟩
  |14,_,_=>exact⟨0,rfl⟩
  |15,_,_=>exact⟨0,rfl⟩
  |k+16,_,k2=>omega
 ·replace hx:(madeCells #[.int .u64 0] l.length)[k]?=some x:=hx;have hk:k<l.length:=by have:=(Array.getElem?_eq_some_iff.1 hx).1;rw[size_madeCells]at this;exact this
  rw[wP _ hk]at hx;cases hx;exact⟨fun a e=>(by cases e),fun a e=>(by cases e)⟩
 ·replace hx:(madeCells #[.bool false] l.length)[k]?=some x:=hx;have hk:k<l.length:=by have:=(Array.getElem?_eq_some_iff.1 hx).1;rw[size_madeCells]at this;exact this
  rw[wP _ hk]at hx;cases hx;exact⟨fun a e=>(by cases e),fun a e=>(by cases e)⟩
 ·rcases hb with rfl|rfl|rfl|rfl
  ·exact h.ex _ (by simp[lY]) off
  ·exact h.ex _ (by simp[lY]) off
  ·exact h.ex _ (by simp[lY]) off
  ·exact h.ex _ (by simp[lY]) off
theorem ql.agd(h:ql q st K cs l msg t n r cv nv T B b8 b11 b13 b15 b16 b17 Gb gc Pb lb Rb Zb Wg iP bS oS cap Cg Cl eL)(M:AgM cs l msg n cv nv)(num:Nat):
  AgD q (lY num cs l msg t n cv nv Gb gc Rb Zb Wg iP) ((b8,Obj.cells (#[.int .u64 0,.int .u64 0]) 46 (0,0))::([(b11,Obj.cells (#[.pointer (some ⟨Gb,0,none⟩)]) 69 (0,0)),(b13,Obj.cells (#[.pointer (some ⟨Pb,0,none⟩)]) 90 (0,0)),(b15,Obj.cells (#[.int .u64 cv]) 72 (0,0)),(b16,Obj.cells (#[.slice (some ⟨Rb,0,none⟩) l.length l.length]) 100 (0,0)),(b17,Obj.cells (#[.slice (some ⟨Zb,0,none⟩) l.length l.length]) 101 (0,0)),(Pb,Obj.cells (#[.pointer (some ⟨Gb,0,none⟩),.slice (some ⟨lb,0,none⟩) l.length l.length,.string msg]) 146 (0,0)),(gc,Obj.cells (Cg) 85 (0,0)),(lb,Obj.cells (Cl) eL (0,0))]++K)) [(b11,Obj.cells (#[.pointer (some ⟨Gb,0,none⟩)]) 69 (0,0)),(b13,Obj.cells (#[.pointer (some ⟨Pb,0,none⟩)]) 90 (0,0)),(b15,Obj.cells (#[.int .u64 cv]) 72 (0,0)),(b16,Obj.cells (#[.slice (some ⟨Rb,0,none⟩) l.length l.length]) 100 (0,0)),(b17,Obj.cells (#[.slice (some ⟨Zb,0,none⟩) l.length l.length]) 101 (0,0)),(Pb,Obj.cells (#[.pointer (some ⟨Gb,0,none⟩),.slice (some ⟨lb,0,none⟩) l.length l.length,.string msg]) 146 (0,0)),(gc,Obj.cells (Cg) 85 (0,0)),(lb,Obj.cells (Cl) eL (0,0))] nv cv Pb gc lb cs l msg b17 b13 b11 b15 b16 bS oS where
 sub:=fun b o hb=>List.mem_cons_of_mem _ (List.mem_append_left _ hb)
 sh:=let⟨ob,h1,h2⟩:=h.sh;⟨ob,List.mem_cons_of_mem _ (List.mem_append_right _ h1),h2⟩
 hz:=⟨l.length,#[.slice (some ⟨Zb,0,none⟩) l.length l.length],101,(0,0),by simp,rfl⟩
 hp:=⟨#[.pointer (some ⟨Pb,0,none⟩)],90,(0,0),by simp,rfl⟩
 hx:=⟨#[.pointer (some ⟨Gb,0,none⟩)],69,(0,0),by simp,rfl⟩
 hc:=⟨#[.int .u64 cv],72,(0,0),by simp,rfl⟩
 hr:=⟨l.length,#[.slice (some ⟨Rb,0,none⟩) l.length l.length],100,(0,0),by simp,rfl⟩
 pk:=⟨#[.pointer (some ⟨Gb,0,none⟩),.slice (some ⟨lb,0,none⟩) l.length l.length,.string msg],146,(0,0),l.length,by simp,rfl,rfl,rfl,rfl,Nat.le_refl _⟩
 gcB:=⟨Cg,85,(0,0),by simp,h.gcl⟩
 lbB:=⟨Cl,eL,(0,0),by simp,h.EL⟩
 gp:=aF h.qm h.pF (by decide)
 lp:=h.qO _ (by simp)
 lg:=h.qO _ (by simp)
 low:=⟨h.low _ (by simp),h.low _ (by simp),h.low _ (by simp),h.low Gb (by simp)⟩
 g0:=⟨t,rfl⟩
 g1:=by have:=M.n0;show Value.int .i64 n=.int .i64 ((n.toNat:Nat):Int);rw[Int.toNat_of_nonneg this]
 g2:=⟨iP,rfl⟩
 n9:=by have:=M.n9;show n.toNat<=9;omega
 c9:=M.c9
 c0:=M.c0
 el:=M.el
 vs:=fun id _ _=>rfl
 gd:=by have:=M.n0;show ni.Good ((n.toNat:Nat):Int) l;rw[Int.toNat_of_nonneg this];exact M.gd
 l9:=M.l9
 ln:=rfl
 ms:=M.ms
 nb:=M.nb
 cb:=M.cb
 zv:=fun k _=>rfl
 rv:=fun k _=>rfl
end
end Cc
end Go.Proofs.Ytpfpokjaeffbjab
