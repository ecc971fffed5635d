/- Part of the proof: AgP, AgK, AgN, AgQ, AgR, AgW, AgS, AgX, ShJ, ShQ. -/
import Derived.Test.YtpfpokjaeffbjaaHh0
import Derived.Test.YtpfpokjaeffbjaaHh5
import Derived.Test.YtpfpokjaeffbjaaHh7
import Derived.Test.YtpfpokjaeffbjaaHh6
import Derived.Test.YtpfpokjaeffbjaaHh9
set_option linter.unusedVariables false
set_option linter.unusedSimpArgs false
set_option maxRecDepth 100000
set_option maxHeartbeats 16000000
open Nat renaming le_refl→aH,zero_add→cZ,lt_or_ge→bA
open Go.World renaming cell?→bN
open Go.Proofs.Try renaming prog→dS
open Option renaming getD_some→aJ
open List renaming mem_cons→aM,not_mem_nil→bB,range→bq,mem_cons_of_mem→aR,mem_append_left→cE,mem_cons_self→dh,getD_eq_getElem?_getD→aC,getElem?_eq_getElem→aN,mem_of_getElem?→cj
open Go.Obj renaming cells→az
open Array renaming getElem?_eq_getElem→aI,replicate→bO,getElem?_push→cY,getElem?_extract→dK
open Go.Region renaming wanted→bg
open Go.Instr renaming alloc→dw,loadAt→aT,storeAt→bJ
namespace Go.Proofs.Ytpfpokjaeffbjaa
open Go renaming World→ae,Value→af,Goroutine→ah,Frame→ai,TypeId→aj,FuncId→ak,Program→au,undef→av,execOp→ax
open Go.Lib renaming hid→ay
namespace KT
open Go.RowKit Go.Conc Cc Pl ni oa ng Mem nO Au yL O2 ED
open nU hiding base
def ml(t n:Int)(cs:List Int)(l:List Cm)(msg:ByteArray)(ns:Nat):Int:=
 if fW t n cs=false then 4 else if sM t n l≠0 then sM t n l else if ns≠l.length then 12 else if gI l (cs.getD 0 0) msg=1 then 11 else 0
def J7(x:Int):af:=.tuple #[.agg #[.int .u64 0,.int .u64 0],.slice none 0 0,.int .i64 x]
def kF(B:Nat)(w w':ae):Prop:=B<=w'.heap.size/\∀b,b<B->w'.heap[b]?=w.heap[b]?
theorem kF.below{B B':Nat}{w w1 w2:ae}(h:kF B w w1)(k:Below B' w1 w2)(hB:B<=B'):kF B w w2:=⟨Nat.le_trans h.1 k.size,fun b hb=>(k.block b (by omega)).trans (h.2 b hb)⟩
theorem kF.iK{B:Nat}{w w1:ae}(h:kF B w w1){b:Nat}(hb:B<=b)(i:Nat)(v:af):kF B w (w1.setCell ⟨b,i,none⟩ v):=
 ⟨by simpa [World.setCell]using h.1,fun c hc=>(Below.heap_setCell w1 ⟨b,i,none⟩ v c (by show c≠b;omega)).trans (h.2 c hc)⟩
def a02(t n:Int)(cs:List Int)(l:List Cm)(msg:ByteArray)(ns:Nat)(w:ae)(a:Act)(w':ae):Prop:=
 ml t n cs l msg ns≠0/\(Go.results Try.f27 a.tmps).run dS w'=.ok (J7 (ml t n cs l msg ns)) w'/\kF w.heap.size w w'
def ax2(t n:Int)(cs:List Int)(l:List Cm)(msg:ByteArray)(sA:Option Addr)(ns cap:Nat)(w:ae)(a:Act)(w':ae):Prop:=
 ml t n cs l msg ns=0/\kF w.heap.size w w'/\a.tmps.size=107/\∃b8 kx fR kT b16 fV Gb Pb gc lb Rb Zb Wg ji:Nat,
  (a.tmps[3]?=some (.slice sA ns cap)/\a.tmps[8]?=some (.pointer (some ⟨b8,0,none⟩))/\a.tmps[9]?=some (.slice none 0 0)/\a.tmps[10]?=some (.int .i64 0)/\a.tmps[11]?=some (.pointer (some ⟨kx,0,none⟩))/\a.tmps[13]?=some (.pointer (some ⟨fR,0,none⟩))/\
   a.tmps[14]?=some (.int .u64 (gI l (cs.getD 0 0) msg))/\a.tmps[15]?=some (.pointer (some ⟨kT,0,none⟩))/\a.tmps[16]?=some (.pointer (some ⟨b16,0,none⟩))/\a.tmps[17]?=some (.pointer (some ⟨fV,0,none⟩))/\a.tmps[18]?=some (.pointer (some ⟨Wg,0,none⟩))/\
   ∀i,(19<=i/\i<24)\/(70<=i/\i<107)->a.tmps[i]?=some av)/\
  (∀b∈[b8,kx,fR,kT,b16,fV,Gb,Pb,gc,lb,Rb,Zb,Wg],w.heap.size<=b)/\
  fF w' b8 47 #[.int .u64 0,.int .u64 0]/\fF w' kx 97 #[.pointer (some ⟨Gb,0,none⟩)]/\fF w' fR 100 #[.pointer (some ⟨Pb,0,none⟩)]/\
  fF w' kT 76 #[.int .u64 (jR (gI l (cs.getD 0 0) msg) (cs.getD 0 0) msg)]/\fF w' b16 107 #[.slice (some ⟨Rb,0,none⟩) ns ns]/\fF w' fV 75 #[.slice (some ⟨Zb,0,none⟩) ns ns]/\
  fF w' Gb 137 (gH t n (.slice (some ⟨gc,0,none⟩) cs.length ji))/\mA w' w.heap.size (.slice (some ⟨gc,0,none⟩) cs.length ji) cs/\
  fF w' Pb 164 #[.pointer (some ⟨Gb,0,none⟩),.slice (some ⟨lb,0,none⟩) l.length l.length,.string msg]/\lU w' w'.heap.size (.slice (some ⟨lb,0,none⟩) l.length l.length) l/\
  fF w' Rb 4 (madeCells #[.bool false] ns)/\fF w' Zb 76 (madeCells #[.int .u64 0] ns)/\fF w' Wg 116 #[.int .u64 0,.int .u32 0]
theorem jf{N R:Act->ae->Prop}{c:Code}{cs:List Code}{a:Act}{W:ae}(F:ae->Prop)(hF:∀W τ d,F W->F (World.on W τ d))(h:F W)
  (k:∀W',F W'->c.wp dS (fun e a w=>(e=.normal/\a.defers=[]/\wpT dS N R cs a w)\/(e=.ret/\a.defers=[]/\R a w)) a W'):wpT dS N R (c::cs) a W:=fun τ d=>k _ (hF W τ d h)
theorem BD{wq:ae}{b8:Nat}{T:Array af}{x:Int}(h8:fF wq b8 47 #[.int .u64 0,.int .u64 0])(t8:T[8]?=some (.pointer (some ⟨b8,0,none⟩)):=by rfl)(t9:T[9]?=some (.slice none 0 0):=by rfl)(t10:T[10]?=some (.int .i64 x):=by rfl):
  (Go.results Try.f27 T).run dS ((wq.setCell ⟨b8,0,none⟩ (.int .u64 0)).setCell ⟨b8,1,none⟩ (.int .u64 0))=.ok (J7 x) ((wq.setCell ⟨b8,0,none⟩ (.int .u64 0)).setCell ⟨b8,1,none⟩ (.int .u64 0)):=by
 have B:=((h8.iK 0 (.int .u64 0)).iK 1 (.int .u64 0));have c0:=B.cell 0;have c1:=B.cell 1;unfold J7;simp[Go.results,Try.results27,t8,t9,t10,go_sem,c0,c1]
theorem ac4(T:Array af)(i:Nat)(hi:(19<=i/\i<24)\/(70<=i/\i<107))(h19:T[19]?=some av)(h20:T[20]?=some av)(h21:T[21]?=some av)(h22:T[22]?=some av)(h23:T[23]?=some av)(h70:T[70]?=some av)(h71:T[71]?=some av)(h72:T[72]?=some av)(h73:T[73]?=some av)(h74:T[74]?=some av)(h75:T[75]?=some av)(h76:T[76]?=some av)(h77:T[77]?=some av)(h78:T[78]?=some av)(h79:T[79]?=some av)(h80:T[80]?=some av)(h81:T[81]?=some av)(h82:T[82]?=some av)(Ua:T[83]?=some av)(h84:T[84]?=some av)(h85:T[85]?=some av)(T8:T[86]?=some av)(XK:T[87]?=some av)(h88:T[88]?=some av)(h89:T[89]?=some av)(h90:T[90]?=some av)(h91:T[91]?=some av)(h92:T[92]?=some av)(h93:T[93]?=some av)(h94:T[94]?=some av)(h95:T[95]?=some av)(h96:T[96]?=some av)(h97:T[97]?=some av)(h98:T[98]?=some av)(h99:T[99]?=some av)(bp2:T[100]?=some av)(bp1:T[101]?=some av)(bp0:T[102]?=some av)(bo9:T[103]?=some av)(bo8:T[104]?=some av)(bo7:T[105]?=some av)(bo6:T[106]?=some av):T[i]?=some av:=by
 match i,hi with
 |0,h=>omega
 |1,h=>omega
 |2,h=>omega
 |3,h=>omega
 |4,h=>omega
 |5,h=>omega
 |6,h=>omega
 |7,h=>omega
 |8,h=>omega
 |9,h=>omega
 |10,h=>omega
 |11,h=>omega
 |12,h=>omega
 |13,h=>omega
 |14,h=>omega
 |15,h=>omega
 |16,h=>omega
 |17,h=>omega
 |18,h=>omega
 |19,_=>exact h19
 |20,_=>exact h20
 |21,_=>exact h21
 |22,_=>exact h22
 |23,_=>exact h23
 |24,h=>omega
 |25,h=>omega
 |26,h=>omega
 |27,h=>omega
 |28,h=>omega
 |29,h=>omega
 |30,h=>omega
 |31,h=>omega
 |32,h=>omega
 |33,h=>omega
 |34,h=>omega
 |35,h=>omega
 |36,h=>omega
 |37,h=>omega
 |38,h=>omega
 |39,h=>omega
 |40,h=>omega
 |41,h=>omega
 |42,h=>omega
 |43,h=>omega
 |44,h=>omega
 |45,h=>omega
 |46,h=>omega
 |47,h=>omega
 |48,h=>omega
 |49,h=>omega
 |50,h=>omega
 |51,h=>omega
 |52,h=>omega
 |53,h=>omega
 |54,h=>omega
 |55,h=>omega
 |56,h=>omega
 |57,h=>omega
 |58,h=>omega
 |59,h=>omega
 |60,h=>omega
 |61,h=>omega
 |62,h=>omega
 |63,h=>omega
 |64,h=>omega
 |65,h=>omega
 |66,h=>omega
 |67,h=>omega
 |68,h=>omega
 |69,h=>omega
 |70,_=>exact h70
 |71,_=>exact h71
 |72,_=>exact h72
 |73,_=>exact h73
 |74,_=>exact h74
 |75,_=>exact h75
 |76,_=>exact h76
 |77,_=>exact h77
 |78,_=>exact h78
 |79,_=>exact h79
 |80,_=>exact h80
 |81,_=>exact h81
 |82,_=>exact h82
 |83,_=>exact Ua
 |84,_=>exact h84
 |85,_=>exact h85
 |86,_=>exact T8
 |87,_=>exact XK
 |88,_=>exact h88
 |89,_=>exact h89
 |90,_=>exact h90
 |91,_=>exact h91
 |92,_=>exact h92
 |93,_=>exact h93
 |94,_=>exact h94
 |95,_=>exact h95
 |96,_=>exact h96
 |97,_=>exact h97
 |98,_=>exact h98
 |99,_=>exact h99
 |100,_=>exact bp2
 |101,_=>exact bp1
 |102,_=>exact bp0
 |103,_=>exact bo9
 |104,_=>exact bo8
 |105,_=>exact bo7
 |106,_=>exact bo6
 |i+107,h=>omega
theorem Qc:(Try.prog.info? 4).map (fun i=>(i.zero,i.size,i.bytes))=some (some (.bool false),1,1):=by kernel_rfl
theorem Xh:(Try.prog.info? 76).map (fun i=>(i.zero,i.size,i.bytes))=some (some (.int .u64 0),1,8):=by kernel_rfl
theorem bf7{w:ae}{t n:Int}{vg Gy:af}{sA:Option Addr}{ns cap:Nat}{cs:List Int}{l:List Cm}{msg:ByteArray}(hv:gA .u64 w w.heap.size vg cs)(hcb:∀i,i<cs.length->0<=cs.getD i 0)(hcl:cs.length<=65536)(hC:lU w w.heap.size Gy l)(hll:l.length<=65536)(hb:∀i,i<l.length->0<=(l.getD i .zero).d/\0<=(l.getD i .zero).e)(hns:ns<=65536)(rH:msg.size<=1000000):
  wpT dS (ax2 t n cs l msg sA ns cap w) (a02 t n cs l msg ns w) (iw 12 ky).1 ⟨#[.agg #[.int .i64 t,.int .i64 n,vg],.string msg,Gy,.slice sA ns cap,av,av,av,av,av,av,av,av,av,av,av,av,av,av,av,av,av,av,av,av,av,av,av,av,av,av,av,av,av,av,av,av,av,av,av,av,av,av,av,av,av,av,av,av,av,av,av,av,av,av,av,av,av,av,av,av,av,av,av,av,av,av,av,av,av,av,av,av,av,av,av,av,av,av,av,av,av,av,av,av,av,av,av,av,av,av,av,av,av,av,av,av,av,av,av,av,av,av,av,av,av,av,av],[]⟩ w:=by
 obtain⟨B,hB⟩:∃B,B=w.heap.size:=⟨_,rfl⟩;have HE:∀x,ml t n cs l msg ns=x->Hid (ml t n cs l msg ns=x):=fun x h=>h;have Mr:=ay hcb;have HBB:=ay hb;simp only[ky,iw,Try.f27,aJ];refine jf (fun W=>gA .u64 W W.heap.size vg cs/\lU W W.heap.size Gy l/\W.heap.size=B/\kF B w W) (fun _ _ _ h=>h) ⟨hv,hC,hB.symm,by rw[hB];exact⟨aH _,fun _ _=>rfl⟩⟩ fun w0 ⟨hv0,hC0,hz0,hs0⟩=>?_;have HBS:=ay hB;clear hB;have vW:∀o o':Obj,Below w0.heap.size w0 ((w0.alloc o).alloc o'):=fun o o'=>(eD w0 o).trans ((eD (w0.alloc o) o').mono (by simp));have k1:=fun o o'=>hv0.later (vW o o');have k2:=fun o o'=>hC0.later (vW o o');have k3:=fun o o'=>hs0.below (vW o o') (by omega);clear hv hC hcb hb;go_wp2_with fail
 refine jf (fun W=>gA .u64 W W.heap.size vg cs/\lU W W.heap.size Gy l/\kF B w W/\fF W B 31 #[.int .i64 t,.int .i64 n,vg]/\fF W (B+1) 47 #[.int .u64 0,.int .u64 0]/\W.heap.size=B+2) (fun _ _ _ h=>h) ⟨k1 _ _,k2 _ _,k3 _ _,?_,?_,by simp<;>omega⟩ fun w1 ⟨hv1,hC1,hs1,h4,h8,hz1⟩=>?_
 ·rw[<-hz0];exact(fF.new w0 _ _).alloc _
 ·rw[<-hz0];exact jx _ _ (by simp)
 clear k1 k2 k3 vW hs0 hC0 hv0;have c0:=h4.cell 0;have c1:=h4.cell 1;have c2:=h4.cell 2;simp at c0 c1 c2;have HOF:=ay (aH8 t n cs vg w1 hv1 hcl Mr.out);have H8:=ay h8;have HC1:=ay hC1;clear h8 hv1 hC1;go_wp2_with fail
 refine HOF.out.mono ?_;rintro e w2 ⟨hb2,⟨hno,rfl⟩|⟨JC,g,vc,rfl,hg,oD,hown⟩⟩
 ·have Ub:=H8.out.below hb2 H8.out.lt;have hs2:=hs1.below hb2 (by omega);have HX:=ay (show ml t n cs l msg ns=4 by unfold ml;rw[if_pos hno]);have hsz:=hb2.size;go_wp2_with fail
  refine jf (fun W=>kF B w W/\fF W (B+1) 47 #[.int .u64 0,.int .u64 0]) (fun _ _ _ h=>h) ⟨hs2.below (eD _ _) (by omega),Ub.below (eD _ _) Ub.lt⟩ fun w3 ⟨hs3,Ua⟩=>?_;have e0:=Ua.cell 0;have e1:=Ua.cell 1;have f0:=Ua.frozen 0;have f1:=Ua.frozen 1;have H83:=ay Ua;clear Ub Ua hs2;go_wp2_with fail
  exact⟨by rw[HX.out];decide,by rw[HX.out];exact BD H83.out,by rw[<-HBS.out];exact(hs3.iK (by omega) _ _).iK (by omega) _ _⟩
 have bi6:=hb2.size;have Ub:=H8.out.below hb2 H8.out.lt;have hs2:=hs1.below hb2 (by omega);have hC2:=HC1.out.later hb2;have Yv:=fun o=>eD w2 o;go_wp2_with fail
 obtain⟨kx,zn⟩:∃b,b=w2.heap.size:=⟨_,rfl⟩;refine jf (fun W=>lU W W.heap.size Gy l/\kF B w W/\fF W (B+1) 47 #[.int .u64 0,.int .u64 0]/\fF W kx 97 #[.pointer (some ⟨g,0,none⟩)]/\fF W g 137 (gH t n vc)/\mA W B vc cs) (fun _ _ _ h=>h) ⟨hC2.later (Yv _),hs2.below (Yv _) (by omega),Ub.below (Yv _) Ub.lt,by rw[zn];exact fF.new _ _ _,oD.below (Yv _) oD.lt,(iR hown (Yv _) nle).mono (by omega)⟩ fun w3 ⟨hC3,hs3,Ua,aW0,hg3,ho3⟩=>?_;rw[<-zn];have bD8:B<=kx:=by omega
 have hgB:B<=g:=by omega
 have QO:=ay JC;clear Yv zn hb2 Ub hs2 hC2 oD hown bi6 hg JC H8 HC1 HOF h4 c0 c1 c2 hs1 hz1;go_wp2_with fail
 refine jf (fun W=>lU W W.heap.size Gy l/\kF B w W/\fF W (B+1) 47 #[.int .u64 0,.int .u64 0]/\fF W kx 97 #[.pointer (some ⟨g,0,none⟩)]/\fF W g 137 (gH t n vc)/\mA W B vc cs) (fun _ _ _ h=>h) ⟨hC3,hs3,Ua,aW0,hg3,ho3⟩ fun w4 ⟨hC4,hs4,h84,as0,hg4,ho4⟩=>?_;clear hC3 hs3 Ua aW0 hg3 ho3;have c11:=as0.cell 0;simp at c11;have VL:=ay (M5 (msg:=msg) (EZ hg4) ho4 hC4 hll HBB.out);have H84:=ay h84;have HG4:=ay hg4;have HO4:=ay ho4;have az0:=ay as0;clear h84 hg4 ho4 hC4 as0;go_wp2_with fail
 refine VL.out.mono ?_;rintro e w5 ⟨xB,⟨hno,rfl⟩|⟨h0,p,Zd,rfl,hpk,hpB,lb,rfl,hlB⟩⟩
 ·have Ub:=H84.out.below xB H84.out.lt;have hs5:=hs4.below xB hs4.1;have HX:=ay (show ml t n cs l msg ns=sM t n l by unfold ml;rw[if_neg (by rw[QO.out];simp),if_pos hno]);have HN:=ay hno;have hne:(sM t n l != 0)=true:=by rw[bne_iff_ne];exact hno
  generalize sM t n l=X at*;clear hno;go_wp2_with fail
  refine jf (fun W=>kF B w W/\fF W (B+1) 47 #[.int .u64 0,.int .u64 0]) (fun _ _ _ h=>h) ⟨hs5.below (eD _ _) hs5.1,Ub.below (eD _ _) Ub.lt⟩ fun w6 ⟨hs6,T8⟩=>?_;have e0:=T8.cell 0;have e1:=T8.cell 1;have f0:=T8.frozen 0;have f1:=T8.frozen 1;have H86:=ay T8;clear Ub T8 hs5;go_wp2_with fail
  exact⟨by rw[HX.out];exact HN.out,by rw[HX.out];exact BD H86.out,by rw[<-HBS.out];exact(hs6.iK (by omega) _ _).iK (by omega) _ _⟩
 have hs5:=hs4.below xB hs4.1;have h85:=H84.out.below xB H84.out.lt;have ar9:=az0.out.below xB az0.out.lt;have hg5:=HG4.out.below xB HG4.out.lt;have HB5:=fun o=>eD w5 o;have am8:=hs5.1;have bi4:=hs4.1;go_wp2_with fail
 obtain⟨fR,Ql⟩:∃b,b=w5.heap.size:=⟨_,rfl⟩;refine jf (fun W=>kF B w W/\fF W (B+1) 47 #[.int .u64 0,.int .u64 0]/\fF W kx 97 #[.pointer (some ⟨g,0,none⟩)]/\fF W g 137 (gH t n vc)/\fF W fR 100 #[.pointer (some ⟨p,0,none⟩)]/\Pk W p g vc (.slice (some ⟨lb,0,none⟩) l.length l.length) t n cs l msg B) (fun _ _ _ ⟨a1,a2,a3,a4,a5,a6⟩=>⟨a1,a2,a3,a4,a5,⟨a6.pk,a6.ja,a6.rY,a6.own⟩⟩) ⟨hs5.below (HB5 _) am8,h85.below (HB5 _) h85.lt,ar9.below (HB5 _) ar9.lt,hg5.below (HB5 _) hg5.lt,by rw[Ql];exact fF.new _ _ _,hpk.later (HB5 _)⟩ fun w6 ⟨hs6,T8,aV9,hg6,aV7,hp6⟩=>?_;rw[<-Ql];have bD7:B<=fR:=by omega
 have bU4:B<=p:=by omega
 have hlB':B<=lb:=by omega
 have H0:=ay h0;clear HB5 Ql xB hs5 h85 ar9 hg5 am8 bi4 hpk hpB hlB h0 VL H84 HG4 HO4 az0 c11 hs4;go_wp2_with fail
 refine jf (fun W=>kF B w W/\fF W (B+1) 47 #[.int .u64 0,.int .u64 0]/\fF W kx 97 #[.pointer (some ⟨g,0,none⟩)]/\fF W g 137 (gH t n vc)/\fF W fR 100 #[.pointer (some ⟨p,0,none⟩)]/\Pk W p g vc (.slice (some ⟨lb,0,none⟩) l.length l.length) t n cs l msg B) (fun _ _ _ ⟨a1,a2,a3,a4,a5,a6⟩=>⟨a1,a2,a3,a4,a5,⟨a6.pk,a6.ja,a6.rY,a6.own⟩⟩) ⟨hs6,T8,aV9,hg6,aV7,hp6⟩ fun w7 ⟨hs7,XK,ar8,hg7,XL,hp7⟩=>?_;clear hs6 T8 aV9 hg6 aV7 hp6;have c13:=XL.cell 0;simp at c13;have HLEN:=ay (aL8 hp7);have H87:=ay XK;have a47:=ay ar8;have HG7:=ay hg7;have HP7:=ay hp7;have a45:=ay XL;by_cases hln:ns=l.length;case neg=>
  have HX:=ay (show ml t n cs l msg ns=12 by unfold ml;rw[if_neg (by rw[QO.out];simp),if_neg (by rw[H0.out];simp),if_pos hln]);have hne:((ns:Int) != (l.length:Int))=true:=by rw[bne_iff_ne];omega
  have aP5:¬((ns:Int)=(l.length:Int)):=by omega
  have e0:=XK.cell 0;have e1:=XK.cell 1;have f0:=XK.frozen 0;have f1:=XK.frozen 1;clear ar8 hg7 hp7 XL XK hln;go_wp2_with (go_at_call 57;refine HLEN.out.mono ?_;rintro e w8 ⟨rfl,rfl⟩)
  exact⟨by rw[HX.out];decide,by rw[HX.out];exact BD H87.out,by rw[<-HBS.out];exact(hs7.iK (by omega) _ _).iK (by omega) _ _⟩
 case pos=>
 subst hln;clear ar8 hg7 hp7 XL XK;go_wp2_with (go_at_call 57;refine HLEN.out.mono ?_;rintro e w8 ⟨rfl,rfl⟩)
 refine jf (fun W=>kF B w W/\fF W (B+1) 47 #[.int .u64 0,.int .u64 0]/\fF W kx 97 #[.pointer (some ⟨g,0,none⟩)]/\fF W g 137 (gH t n vc)/\fF W fR 100 #[.pointer (some ⟨p,0,none⟩)]/\Pk W p g vc (.slice (some ⟨lb,0,none⟩) l.length l.length) t n cs l msg B) (fun _ _ _ ⟨a1,a2,a3,a4,a5,a6⟩=>⟨a1,a2,a3,a4,a5,⟨a6.pk,a6.ja,a6.rY,a6.own⟩⟩) ⟨hs7,H87.out,a47.out,HG7.out,a45.out,HP7.out⟩ fun w8 ⟨hs8,h88,aV8,Oe,ar7,hp8⟩=>?_;clear hs7 H87 a47 HG7 HP7 a45 HLEN c13;have c13:=ar7.cell 0;simp at c13;obtain⟨q1,q2,q3,q4,-,-⟩:=jZ QO.out;obtain⟨p1,p2,-,-⟩:=xS H0.out;have hgd:=r7 H0.out;have JM:0<cs.length:=by omega
 have wE:l.length<=9:=by omega
 have hk:=rX (rZ QO.out JM);have hk2:0<=cs.getD 0 0/\cs.getD 0 0<18446744073709551616:=by omega
 have Yw:=fun r x hx=>ay (aZ6 hp8 hgd q3 wE JM hk2 rH r x hx);have H88:=ay h88;have ay9:=ay aV8;have HG8:=ay Oe;have HP8:=ay hp8;have ay8:=ay ar7;clear h88 aV8 Oe hp8 ar7;by_cases hall:gI l (cs.getD 0 0) msg=1
 ·have HX:=ay (show ml t n cs l msg l.length=11 by unfold ml;rw[if_neg (by rw[QO.out];simp),if_neg (by rw[H0.out];simp),if_neg (by simp),if_pos hall]);have HA:=Yw 0 11 (.inl ⟨hall,rfl,rfl⟩);clear Yw hall;go_wp2_with fail
  refine HA.out.mono ?_;rintro e w9 ⟨rfl,Oh⟩;have h89:=H88.out.below Oh H88.out.lt;have hs9:=hs8.below Oh hs8.1;go_wp2_with fail
  refine jf (fun W=>kF B w W/\fF W (B+1) 47 #[.int .u64 0,.int .u64 0]) (fun _ _ _ h=>h) ⟨hs9,h89⟩ fun w10 ⟨Xo,GM⟩=>?_;have e0:=GM.cell 0;have e1:=GM.cell 1;have f0:=GM.frozen 0;have f1:=GM.frozen 1;have bv5:=ay GM;clear h89 GM hs9;go_wp2_with fail
  exact⟨by rw[HX.out];decide,by rw[HX.out];exact BD bv5.out,by rw[<-HBS.out];exact(Xo.iK (by omega) _ _).iK (by omega) _ _⟩
 obtain⟨R,hR⟩:∃R,R=gI l (cs.getD 0 0) msg:=⟨_,rfl⟩;have HRR:=ay hR;have HX:=ay (show ml t n cs l msg l.length=0 by unfold ml;rw[if_neg (by rw[QO.out];simp),if_neg (by rw[H0.out];simp),if_neg (by simp),if_neg hall]);have HA:=Yw R 0 (.inr ⟨hall,hR,rfl⟩);clear Yw hall hR;go_wp2_with fail
 refine HA.out.mono ?_;rintro e w9 ⟨rfl,Oh⟩;have hs9:=hs8.below Oh hs8.1;have h89:=H88.out.below Oh H88.out.lt;have h119:=ay9.out.below Oh ay9.out.lt;have hg9:=HG8.out.below Oh HG8.out.lt;have aV6:=ay8.out.below Oh ay8.out.lt;have hp9:=HP8.out.later Oh;go_wp2_with fail
 refine jf (fun W=>kF B w W/\fF W (B+1) 47 #[.int .u64 0,.int .u64 0]/\fF W kx 97 #[.pointer (some ⟨g,0,none⟩)]/\fF W g 137 (gH t n vc)/\fF W fR 100 #[.pointer (some ⟨p,0,none⟩)]/\Pk W p g vc (.slice (some ⟨lb,0,none⟩) l.length l.length) t n cs l msg B) (fun _ _ _ ⟨a1,a2,a3,a4,a5,a6⟩=>⟨a1,a2,a3,a4,a5,⟨a6.pk,a6.ja,a6.rY,a6.own⟩⟩) ⟨hs9,h89,h119,hg9,aV6,hp9⟩ fun w10 ⟨Xo,GM,ZO,aR5,ZM,aO9⟩=>?_;clear hs9 h89 h119 hg9 aV6 hp9 Oh HA H88 ay9 HG8 HP8 ay8 c13 hs8;go_wp2_with fail
 refine jf (fun W=>kF B w W/\fF W (B+1) 47 #[.int .u64 0,.int .u64 0]/\fF W kx 97 #[.pointer (some ⟨g,0,none⟩)]/\fF W g 137 (gH t n vc)/\fF W fR 100 #[.pointer (some ⟨p,0,none⟩)]/\Pk W p g vc (.slice (some ⟨lb,0,none⟩) l.length l.length) t n cs l msg B) (fun _ _ _ ⟨a1,a2,a3,a4,a5,a6⟩=>⟨a1,a2,a3,a4,a5,⟨a6.pk,a6.ja,a6.rY,a6.own⟩⟩) ⟨Xo,GM,ZO,aR5,ZM,aO9⟩ fun w11 ⟨an8,aV5,Ue,aR4,ZL,Xq⟩=>?_;clear Xo GM ZO aR5 ZM aO9;have c11:=Ue.cell 0;simp at c11;have hr:0<=gI l (cs.getD 0 0) msg/\gI l (cs.getD 0 0) msg<2147483579:=by rw[BK];exact OQ _ _ _ _
 have HKEY:=ay (am4 Xq.rY Xq.own JM);have HCH:=ay (xm (gI l (cs.getD 0 0) msg) (cs.getD 0 0) msg w11 rH ⟨hr.1,by omega⟩ hk2);have ay7:=ay aV5;have Vf:=ay Ue;have ay4:=ay aR4;have a14:=ay Xq;have Ve:=ay ZL;have hr0:=hr.1;have hr1:=hr.2;have hR:=HRR.out;obtain⟨KK,hKK⟩:∃KK,KK=cs.getD 0 0:=⟨_,rfl⟩;obtain⟨CCC,hCC⟩:∃CC,CC=jR R KK msg:=⟨_,rfl⟩;rw[<-hR,<-hKK]at HCH;rw[<-hCC]at HCH;rw[<-hKK]at HKEY;have HKK:=ay hKK;have HCC:=ay hCC;clear hR hKK hCC aV5 Ue aR4 Xq ZL hr hr0 hr1;go_wp2_with (first|(go_at_call 60;refine HKEY.out.mono ?_;rintro e w' ⟨rfl,rfl⟩)|(go_at_call 59;refine HCH.out.mono ?_;rintro e w12 ⟨rfl,LV⟩))
 have an7:=an8.below LV an8.1;have ar6:=ay7.out.below LV ay7.out.lt;have Ud:=Vf.out.below LV Vf.out.lt;have ap5:=ay4.out.below LV ay4.out.lt;have Uc:=Ve.out.below LV Ve.out.lt;have aO8:=a14.out.later LV;have Ms:=fun o=>eD w12 o;have Zj:=an7.1;obtain⟨kT,LU⟩:∃b,b=w12.heap.size:=⟨_,rfl⟩;refine jf (fun W=>kF B w W/\fF W (B+1) 47 #[.int .u64 0,.int .u64 0]/\fF W kx 97 #[.pointer (some ⟨g,0,none⟩)]/\fF W g 137 (gH t n vc)/\fF W fR 100 #[.pointer (some ⟨p,0,none⟩)]/\Pk W p g vc (.slice (some ⟨lb,0,none⟩) l.length l.length) t n cs l msg B/\fF W kT 76 #[.int .u64 CCC]) (fun _ _ _ ⟨a1,a2,a3,a4,a5,a6,a7⟩=>⟨a1,a2,a3,a4,a5,⟨a6.pk,a6.ja,a6.rY,a6.own⟩,a7⟩) ⟨an7.below (Ms _) Zj,ar6.below (Ms _) ar6.lt,Ud.below (Ms _) Ud.lt,ap5.below (Ms _) ap5.lt,Uc.below (Ms _) Uc.lt,aO8.later (Ms _),by rw[LU];exact fF.new _ _ _⟩ fun w13 ⟨an6,aV4,ZN,aR3,ZK,aO7,ZJ⟩=>?_;rw[<-LU];have bD6:B<=kT:=by omega
 clear an7 ar6 Ud ap5 Uc aO8 Ms LU Zj LV HKEY HCH ay7 Vf ay4 a14 Ve c11 an8;have bV0:∀W,(Instr.makeSlice 107 (.int .i64 l.length) (.int .i64 l.length)).run dS W=.ok (.slice (some ⟨W.heap.size,0,none⟩) l.length l.length) (W.alloc (.cells (madeCells #[.bool false] l.length) 4)):=
  fun W=>run_make_row' 107 4 (.bool false) 1 Try.underlying107 Qc rfl .i64 .i64 l.length (by omega) (by omega) W
 have bU9:∀W,(Instr.makeSlice 75 (.int .i64 l.length) (.int .i64 l.length)).run dS W=.ok (.slice (some ⟨W.heap.size,0,none⟩) l.length l.length) (W.alloc (.cells (madeCells #[.int .u64 0] l.length) 76)):=
  fun W=>run_make_row' 75 76 (.int .u64 0) 8 Try.underlying75 Xh rfl .i64 .i64 l.length (by omega) (by omega) W
 have KF:=fun o o'=>(eD w13 o).trans ((eD (w13.alloc o) o').mono (by simp));obtain⟨Rb,VG⟩:∃b,b=w13.heap.size:=⟨_,rfl⟩;obtain⟨b16,Qk⟩:∃b,b=w13.heap.size+1:=⟨_,rfl⟩;have Zi:=an6.1;have a20:=ay (show(fun W=>kF B w W/\fF W (B+1) 47 #[.int .u64 0,.int .u64 0]/\fF W kx 97 #[.pointer (some ⟨g,0,none⟩)]/\fF W g 137 (gH t n vc)/\fF W fR 100 #[.pointer (some ⟨p,0,none⟩)]/\Pk W p g vc (.slice (some ⟨lb,0,none⟩) l.length l.length) t n cs l msg B/\fF W kT 76 #[.int .u64 CCC]) w13 from⟨an6,aV4,ZN,aR3,ZK,aO7,ZJ⟩);clear aV4 ZN aR3 ZK aO7 ZJ;go_wp2_with fail
 obtain⟨k1,k2,k3,k4,k5,k6,k7⟩:=a20.out;refine jf (fun W=>kF B w W/\fF W (B+1) 47 #[.int .u64 0,.int .u64 0]/\fF W kx 97 #[.pointer (some ⟨g,0,none⟩)]/\fF W g 137 (gH t n vc)/\fF W fR 100 #[.pointer (some ⟨p,0,none⟩)]/\Pk W p g vc (.slice (some ⟨lb,0,none⟩) l.length l.length) t n cs l msg B/\fF W kT 76 #[.int .u64 CCC]/\fF W Rb 4 (madeCells #[.bool false] l.length)/\fF W b16 107 #[.slice (some ⟨Rb,0,none⟩) l.length l.length]) (fun _ _ _ ⟨a1,a2,a3,a4,a5,a6,a7,a8,a9⟩=>⟨a1,a2,a3,a4,a5,⟨a6.pk,a6.ja,a6.rY,a6.own⟩,a7,a8,a9⟩) ⟨k1.below (KF _ _) Zi,k2.below (KF _ _) k2.lt,k3.below (KF _ _) k3.lt,k4.below (KF _ _) k4.lt,k5.below (KF _ _) k5.lt,k6.later (KF _ _),k7.below (KF _ _) k7.lt,by rw[VG];exact(fF.new w13 _ _).alloc _,by rw[VG,Qk];exact jx _ _ (by simp)⟩ fun w14 X14=>?_;rw[<-Qk];have bX4:B<=Rb:=by omega
 have bD5:B<=b16:=by omega
 clear k1 k2 k3 k4 k5 k6 k7 KF a20 VG Qk Zi an6;have Zh:=X14.1.1;have a19:=ay X14;clear X14;have EC:=fun o o'=>(eD w14 o).trans ((eD (w14.alloc o) o').mono (by simp));obtain⟨Zb,TP⟩:∃b,b=w14.heap.size:=⟨_,rfl⟩;obtain⟨fV,Qj⟩:∃b,b=w14.heap.size+1:=⟨_,rfl⟩;go_wp2_with fail
 obtain⟨k1,k2,k3,k4,k5,k6,k7,k8,k9⟩:=a19.out;refine jf (fun W=>kF B w W/\fF W (B+1) 47 #[.int .u64 0,.int .u64 0]/\fF W kx 97 #[.pointer (some ⟨g,0,none⟩)]/\fF W g 137 (gH t n vc)/\fF W fR 100 #[.pointer (some ⟨p,0,none⟩)]/\Pk W p g vc (.slice (some ⟨lb,0,none⟩) l.length l.length) t n cs l msg B/\fF W kT 76 #[.int .u64 CCC]/\fF W Rb 4 (madeCells #[.bool false] l.length)/\fF W b16 107 #[.slice (some ⟨Rb,0,none⟩) l.length l.length]/\fF W Zb 76 (madeCells #[.int .u64 0] l.length)/\fF W fV 75 #[.slice (some ⟨Zb,0,none⟩) l.length l.length]) (fun _ _ _ ⟨a1,a2,a3,a4,a5,a6,a7,a8,a9,a10,a11⟩=>⟨a1,a2,a3,a4,a5,⟨a6.pk,a6.ja,a6.rY,a6.own⟩,a7,a8,a9,a10,a11⟩) ⟨k1.below (EC _ _) Zh,k2.below (EC _ _) k2.lt,k3.below (EC _ _) k3.lt,k4.below (EC _ _) k4.lt,k5.below (EC _ _) k5.lt,k6.later (EC _ _),k7.below (EC _ _) k7.lt,k8.below (EC _ _) k8.lt,k9.below (EC _ _) k9.lt,by rw[TP];exact(fF.new w14 _ _).alloc _,by rw[TP,Qj];exact jx _ _ (by simp)⟩ fun w15 X15=>?_;rw[<-Qj];have bX0:B<=Zb:=by omega
 have bD4:B<=fV:=by omega
 clear k1 k2 k3 k4 k5 k6 k7 k8 k9 EC a19 TP Qj Zh;have aM7:=X15.1.1;have bt9:=ay X15;clear X15;go_wp2_with fail
 obtain⟨k1,k2,k3,k4,k5,k6,k7,k8,k9,k10,k11⟩:=bt9.out;have zF:=fun o=>eD w15 o;obtain⟨gc,ji,rfl,bW1,-⟩:=k6.own.form JM;have hBS:=HBS.out;have hR:=HRR.out;have hC:=HCC.out;have hK:=HKK.out;subst hBS;subst hR;subst hK;subst hC;refine⟨HX.out,k1.below (zF _) aM7,rfl,w.heap.size+1,kx,fR,kT,b16,fV,g,p,gc,lb,Rb,Zb,w15.heap.size,ji,⟨rfl,rfl,rfl,rfl,rfl,rfl,rfl,rfl,rfl,rfl,rfl,fun i hi=>?_⟩,?_,k2.below (zF _) k2.lt,k3.below (zF _) k3.lt,k5.below (zF _) k5.lt,k7.below (zF _) k7.lt,k9.below (zF _) k9.lt,k11.below (zF _) k11.lt,k4.below (zF _) k4.lt,iR k6.own (zF _) nle,k6.pk.below (zF _) k6.pk.lt,k6.ja.later (zF _),k8.below (zF _) k8.lt,k10.below (zF _) k10.lt,fF.new _ _ _⟩
 ·exact ac4 _ _ hi rfl rfl rfl rfl rfl rfl rfl rfl rfl rfl rfl rfl rfl rfl rfl rfl rfl rfl rfl rfl rfl rfl rfl rfl rfl rfl rfl rfl rfl rfl rfl rfl rfl rfl rfl rfl rfl rfl rfl rfl rfl rfl
 ·intro b hb;simp only[aM,bB,or_false]at hb;omega
end KT
namespace Cc
open Go.Conc Go.ConcN Go.ConcM Go.RowKit Go.Conc.Lib Go.ConcR.Gen
open Go.ConcR (KK wgBlock WgAt stA smA rd wr mk DC0)
open Pl ni oa ng Mem nO Au yL Hw KT ED
open nU hiding base
section
structure AgM(cs:List Int)(l:List Cm)(msg:ByteArray)(n cv:Int)(nv:Nat->Int):Prop where
 n0:0<=n
 n9:n<=9
 c9:cs.length<=9
 c0:0<cs.length
 el:∀j,j<cs.length->jQ (cs.getD j 0)=true
 gd:ng.Good n l
 l9:l.length<=9
 ms:msg.size<=1000000
 nb:∀k,k<l.length->0<=nv k/\nv k<18446744073709551616
 cb:0<=cv/\cv<18446744073709551616
structure oP(q:iU)(st:St eH)(K:List (Nat×Obj))(cs:List Int)(l:List Cm)(msg:ByteArray)(t n r cv:Int)(nv:Nat->Int)(T:Array af)(B b8 kx fR kT b16 fV Gb gc Pb lb Rb Zb Wg ji bS oS cap:Nat)(Cg Cl:Array af)(eL:aj):Prop where
 sz:T.size=107
 s3:T[3]?=some (.slice (some ⟨bS,oS,none⟩) l.length cap)
 s8:T[8]?=some (.pointer (some ⟨b8,0,none⟩))
 s9:T[9]?=some (.slice none 0 0)
 YO:T[10]?=some (.int .i64 0)
 s11:T[11]?=some (.pointer (some ⟨kx,0,none⟩))
 Q3:T[13]?=some (.pointer (some ⟨fR,0,none⟩))
 s14:T[14]?=some (.int .u64 r)
 s15:T[15]?=some (.pointer (some ⟨kT,0,none⟩))
 Q0:T[16]?=some (.pointer (some ⟨b16,0,none⟩))
 QZ:T[17]?=some (.pointer (some ⟨fV,0,none⟩))
 s18:T[18]?=some (.pointer (some ⟨Wg,0,none⟩))
 su:∀i,(19<=i/\i<24)\/(70<=i/\i<107)->T[i]?=some av
 sN:st.w.heap[b8]?=some (az (#[.int .u64 0,.int .u64 0]) 47 (0,0))
 CS:st.w.heap[kx]?=some (az (#[.pointer (some ⟨Gb,0,none⟩)]) 97 (0,0))
 jO:st.w.heap[fR]?=some (az (#[.pointer (some ⟨Pb,0,none⟩)]) 100 (0,0))
 Gz:st.w.heap[kT]?=some (az (#[.int .u64 cv]) 76 (0,0))
 jN:st.w.heap[b16]?=some (az (#[.slice (some ⟨Rb,0,none⟩) l.length l.length]) 107 (0,0))
 jM:st.w.heap[fV]?=some (az (#[.slice (some ⟨Zb,0,none⟩) l.length l.length]) 75 (0,0))
 mV:st.w.heap[Gb]?=some (az (gH t n (.slice (some ⟨gc,0,none⟩) cs.length ji)) 137 (0,0))
 oQ:st.w.heap[gc]?=some (az (Cg) 79 (0,0))
 ow:st.w.heap[Pb]?=some (az (#[.pointer (some ⟨Gb,0,none⟩),.slice (some ⟨lb,0,none⟩) l.length l.length,.string msg]) 164 (0,0))
 Vx:st.w.heap[lb]?=some (az (Cl) eL (0,0))
 nj:st.w.heap[Rb]?=some (az (madeCells #[.bool false] l.length) 4 (0,0))
 nI:st.w.heap[Zb]?=some (az (madeCells #[.int .u64 0] l.length) 76 (0,0))
 Ao:st.w.heap[Wg]?=some (az (#[.int .u64 0,.int .u32 0]) 116 (0,0))
 gcl:cs.length<=Cg.size/\∀j,j<cs.length->Cg[j]?=some (.int .u64 (cs.getD j 0))
 CJ:3*l.length<=Cl.size/\∀j u,j<3*l.length->(eO l)[j]?=some u->Cl[j]?=some u
 nbz:kT≠Zb
 pO:∀b∈[b8,kx,fR,kT,b16,fV,Gb,gc,Pb,Rb,Zb,Wg],lb≠b
 low:∀b∈[b8,kx,fR,kT,b16,fV,Gb,gc,Pb,lb,Rb,Zb,Wg],q.P.globals.size<=b
 new:∀b∈[b8,kx,fR,kT,b16,fV,Gb,gc,Pb,lb,Rb,Zb,Wg],B<=b
 nd:∀b∈[b8,kx,fR,kT,b16,fV,Gb,gc,Pb,lb,Rb,Zb,Wg],¬st.γ.dead b
 ex:∀b∈[b8,kx,fR,kT,b16,fV,Gb,gc,Pb,lb,Rb,Zb,Wg],∀off,st.γ.ex 0 (ca b off)
 sh:∃ob,(bS,ob)∈K/\∀(w:ae) (k:Nat),w.heap[bS]?=some ob->k<l.length->w.cell? ⟨bS,oS+k,none⟩=some (.int .u64 (nv k))
 hcap:l.length<=cap
 kB:∀b o,(b,o)∈K->b<B
def mh(num:Nat)(cs:List Int)(l:List Cm)(msg:ByteArray)(t n cv:Int)(nv:Nat->Int)(Gb gc Rb Zb Wg ji:Nat):eJ:=
 {n0:=num,n:=l.length,Gb:=Gb,Wg:=Wg,Zb:=Zb,Rb:=Rb,g0:=.int .i64 t,g1:=.int .i64 n,g2:=.slice (some ⟨gc,0,none⟩) cs.length ji,nn:=n.toNat,vals:=fun id=>ER cs id,zv:=fun k=>.int .u64 (nv k),rv:=fun k=>.bool (iB (nv k) cv cs l msg k)}
def ab2(y:Nat->af):Array af:=#[y 0,y 1,y 2,y 3,y 4,y 5,y 6,y 7,y 8,y 9,y 10,y 11,y 12,y 13,y 14,y 15,y 16,y 17,y 18,y 19,y 20,y 21,y 22,y 23,y 24,y 25,y 26,y 27,y 28,y 29,y 30,y 31,y 32,y 33,y 34,y 35,y 36,y 37,y 38,y 39,y 40,y 41,y 42,y 43,y 44,y 45,y 46,y 47,y 48,y 49,y 50,y 51,y 52,y 53,y 54,y 55,y 56,y 57,y 58,y 59,y 60,y 61,y 62,y 63,y 64,y 65,y 66,y 67,y 68,y 69,y 70,y 71,y 72,y 73,y 74,y 75,y 76,y 77,y 78,y 79,y 80,y 81,y 82,y 83,y 84,y 85,y 86,y 87,y 88,y 89,y 90,y 91,y 92,y 93,y 94,y 95,y 96,y 97,y 98,y 99,y 100,y 101,y 102,y 103,y 104,y 105,y 106]
theorem aw1(T:Array af)(h:T.size=107)(y:Nat->af)(hy:∀i,i<107->T[i]?=some (y i)):T=ab2 y:=by
 have e:T=((bq 107).map y).toArray:=by
  refine Array.ext (by simp[h]) fun i h1 h2=>?_;have:=hy i (by omega)
  rw[aI h1]at this;simpa using Option.some.inj this
 rw[e];rfl
theorem RJ(T:Array af)(h:T.size=107):∃y:Nat->af,T=ab2 y/\∀i v,T[i]?=some v->y i=v:=by
 refine⟨fun i=>T.getD i av,aw1 T h _ fun i hi=>?_,fun i v hv=>?_⟩
 ·simp[Array.getD,h,hi]
 ·simp only[Array.getD];split
  ·rename_i hlt;rw[aI hlt]at hv;exact Option.some.inj hv
  ·rename_i hlt;rw[Array.getElem?_eq_none (by omega)]at hv;cases hv
section
variable{q:iU}{st:St eH}{K:List (Nat×Obj)}{cs:List Int}{l:List Cm}{msg:ByteArray}{t n r cv:Int}{nv:Nat->Int}{T:Array af}{B b8 kx fR kT b16 fV Gb gc Pb lb Rb Zb Wg ji bS oS cap:Nat}{Cg Cl:Array af}{eL:aj}
theorem oP.kept(h:oP q st K cs l msg t n r cv nv T B b8 kx fR kT b16 fV Gb gc Pb lb Rb Zb Wg ji bS oS cap Cg Cl eL){num:Nat}(hA:kH 0 num K st):kH 0 num ((b8,az (#[.int .u64 0,.int .u64 0]) 47 (0,0))::([(kx,az (#[.pointer (some ⟨Gb,0,none⟩)]) 97 (0,0)),(fR,az (#[.pointer (some ⟨Pb,0,none⟩)]) 100 (0,0)),(kT,az (#[.int .u64 cv]) 76 (0,0)),(b16,az (#[.slice (some ⟨Rb,0,none⟩) l.length l.length]) 107 (0,0)),(fV,az (#[.slice (some ⟨Zb,0,none⟩) l.length l.length]) 75 (0,0)),(Pb,az (#[.pointer (some ⟨Gb,0,none⟩),.slice (some ⟨lb,0,none⟩) l.length l.length,.string msg]) 164 (0,0)),(gc,az (Cg) 79 (0,0)),(lb,az (Cl) eL (0,0))]++K)) st:=(((((((((hA.more h.Vx (.inl (h.ex lb (by simp))) (h.nd lb (by simp))).more h.oQ (.inl (h.ex gc (by simp))) (h.nd gc (by simp))).more h.ow (.inl (h.ex Pb (by simp))) (h.nd Pb (by simp))).more h.jM (.inl (h.ex fV (by simp))) (h.nd fV (by simp))).more h.jN (.inl (h.ex b16 (by simp))) (h.nd b16 (by simp))).more h.Gz (.inl (h.ex kT (by simp))) (h.nd kT (by simp))).more h.jO (.inl (h.ex fR (by simp))) (h.nd fR (by simp))).more h.CS (.inl (h.ex kx (by simp))) (h.nd kx (by simp))).more h.sN (.inl (h.ex b8 (by simp))) (h.nd b8 (by simp)))
theorem oP.apart(h:oP q st K cs l msg t n r cv nv T B b8 kx fR kT b16 fV Gb gc Pb lb Rb Zb Wg ji bS oS cap Cg Cl eL){b:Nat}{o:Obj}(hb:(b,o)∈(b8,az (#[.int .u64 0,.int .u64 0]) 47 (0,0))::([(kx,az (#[.pointer (some ⟨Gb,0,none⟩)]) 97 (0,0)),(fR,az (#[.pointer (some ⟨Pb,0,none⟩)]) 100 (0,0)),(kT,az (#[.int .u64 cv]) 76 (0,0)),(b16,az (#[.slice (some ⟨Rb,0,none⟩) l.length l.length]) 107 (0,0)),(fV,az (#[.slice (some ⟨Zb,0,none⟩) l.length l.length]) 75 (0,0)),(Pb,az (#[.pointer (some ⟨Gb,0,none⟩),.slice (some ⟨lb,0,none⟩) l.length l.length,.string msg]) 164 (0,0)),(gc,az (Cg) 79 (0,0)),(lb,az (Cl) eL (0,0))]++K)):b≠Gb/\b≠Wg/\b≠Zb/\b≠Rb:=by
 have Ny:b8≠Gb:=ey h.sN h.mV (by decide);have Nv:b8≠Wg:=ey h.sN h.Ao (by decide);have Nu:b8≠Zb:=ey h.sN h.nI (by decide);have Nw:b8≠Rb:=ey h.sN h.nj (by decide);have Jk:kx≠Gb:=ey h.CS h.mV (by decide);have Ji:kx≠Wg:=ey h.CS h.Ao (by decide);have Jh:kx≠Zb:=ey h.CS h.nI (by decide);have Jj:kx≠Rb:=ey h.CS h.nj (by decide);have mU:fR≠Gb:=ey h.jO h.mV (by decide);have Jf:fR≠Wg:=ey h.jO h.Ao (by decide);have Je:fR≠Zb:=ey h.jO h.nI (by decide);have Jg:fR≠Rb:=ey h.jO h.nj (by decide);have Jd:kT≠Gb:=ey h.Gz h.mV (by decide);have Jb:kT≠Wg:=ey h.Gz h.Ao (by decide);have Ja:kT≠Zb:=h.nbz;have Jc:kT≠Rb:=ey h.Gz h.nj (by decide);have mS:b16≠Gb:=ey h.jN h.mV (by decide);have I8:b16≠Wg:=ey h.jN h.Ao (by decide);have I7:b16≠Zb:=ey h.jN h.nI (by decide);have I9:b16≠Rb:=ey h.jN h.nj (by decide);have mR:fV≠Gb:=ey h.jM h.mV (by decide);have I5:fV≠Wg:=ey h.jM h.Ao (by decide);have I4:fV≠Zb:=ey h.jM h.nI (by decide);have I6:fV≠Rb:=ey h.jM h.nj (by decide);have NI:Pb≠Gb:=ey h.ow h.mV (by decide);have NG:Pb≠Wg:=ey h.ow h.Ao (by decide);have ND:Pb≠Zb:=ey h.ow h.nI (by decide);have NH:Pb≠Rb:=ey h.ow h.nj (by decide);have pA:gc≠Gb:=ey h.oQ h.mV (by decide);have Nq:gc≠Wg:=ey h.oQ h.Ao (by decide);have Np:gc≠Zb:=ey h.oQ h.nI (by decide);have Nr:gc≠Rb:=ey h.oQ h.nj (by decide);have pz:lb≠Gb:=h.pO Gb (by simp);have Nl:lb≠Wg:=h.pO Wg (by simp);have Nk:lb≠Zb:=h.pO Zb (by simp);have Nn:lb≠Rb:=h.pO Rb (by simp);have rU:gc≠Pb:=ey h.oQ h.ow (by decide);have rT:lb≠Pb:=h.pO Pb (by simp);have rS:lb≠gc:=h.pO gc (by simp);have NK:Gb≠Wg:=ey h.mV h.Ao (by decide);have NJ:Gb≠Zb:=ey h.mV h.nI (by decide);have NL:Gb≠Rb:=ey h.mV h.nj (by decide);have NA:Wg≠Zb:=ey h.Ao h.nI (by decide);have NC:Wg≠Rb:=ey h.Ao h.nj (by decide);have pB:Zb≠Rb:=ey h.nI h.nj (by decide);simp only[List.cons_append,List.nil_append]at hb;rcases List.mem_cons.1 hb with e|hb
 ·cases e;exact⟨Ny,Nv,Nu,Nw⟩
 rcases List.mem_cons.1 hb with e|hb
 ·cases e;exact⟨Jk,Ji,Jh,Jj⟩
 rcases List.mem_cons.1 hb with e|hb
 ·cases e;exact⟨mU,Jf,Je,Jg⟩
 rcases List.mem_cons.1 hb with e|hb
 ·cases e;exact⟨Jd,Jb,Ja,Jc⟩
 rcases List.mem_cons.1 hb with e|hb
 ·cases e;exact⟨mS,I8,I7,I9⟩
 rcases List.mem_cons.1 hb with e|hb
 ·cases e;exact⟨mR,I5,I4,I6⟩
 rcases List.mem_cons.1 hb with e|hb
 ·cases e;exact⟨NI,NG,ND,NH⟩
 rcases List.mem_cons.1 hb with e|hb
 ·cases e;exact⟨pA,Nq,Np,Nr⟩
 rcases List.mem_cons.1 hb with e|hb
 ·cases e;exact⟨pz,Nl,Nk,Nn⟩
 have:=h.kB b o hb
 have g1:=h.new Gb (by simp);have g2:=h.new Wg (by simp);have g3:=h.new Zb (by simp);have g4:=h.new Rb (by simp);refine⟨?_,?_,?_,?_⟩<;>omega
theorem vk(z:af){n k:Nat}(hk:k<n):(madeCells #[z] n)[k]?=some z:=by simp[madeCells,hk,Nat.mod_one]
theorem oP.enter(h:oP q st K cs l msg t n r cv nv T B b8 kx fR kT b16 fV Gb gc Pb lb Rb Zb Wg ji bS oS cap Cg Cl eL)(M:AgM cs l msg n cv nv){num:Nat}(hA:kH 0 num K st)(hG:q.tG=137)(hZ:q.tZ=76)(hR:q.tR=4)(hW:q.tW=116):
  FL q (mh num cs l msg t n cv nv Gb gc Rb Zb Wg ji) st:=by
 have Ny:b8≠Gb:=ey h.sN h.mV (by decide);have Nv:b8≠Wg:=ey h.sN h.Ao (by decide);have Nu:b8≠Zb:=ey h.sN h.nI (by decide);have Nw:b8≠Rb:=ey h.sN h.nj (by decide);have Jk:kx≠Gb:=ey h.CS h.mV (by decide);have Ji:kx≠Wg:=ey h.CS h.Ao (by decide);have Jh:kx≠Zb:=ey h.CS h.nI (by decide);have Jj:kx≠Rb:=ey h.CS h.nj (by decide);have mU:fR≠Gb:=ey h.jO h.mV (by decide);have Jf:fR≠Wg:=ey h.jO h.Ao (by decide);have Je:fR≠Zb:=ey h.jO h.nI (by decide);have Jg:fR≠Rb:=ey h.jO h.nj (by decide);have Jd:kT≠Gb:=ey h.Gz h.mV (by decide);have Jb:kT≠Wg:=ey h.Gz h.Ao (by decide);have Ja:kT≠Zb:=h.nbz;have Jc:kT≠Rb:=ey h.Gz h.nj (by decide);have mS:b16≠Gb:=ey h.jN h.mV (by decide);have I8:b16≠Wg:=ey h.jN h.Ao (by decide);have I7:b16≠Zb:=ey h.jN h.nI (by decide);have I9:b16≠Rb:=ey h.jN h.nj (by decide);have mR:fV≠Gb:=ey h.jM h.mV (by decide);have I5:fV≠Wg:=ey h.jM h.Ao (by decide);have I4:fV≠Zb:=ey h.jM h.nI (by decide);have I6:fV≠Rb:=ey h.jM h.nj (by decide);have NI:Pb≠Gb:=ey h.ow h.mV (by decide);have NG:Pb≠Wg:=ey h.ow h.Ao (by decide);have ND:Pb≠Zb:=ey h.ow h.nI (by decide);have NH:Pb≠Rb:=ey h.ow h.nj (by decide);have pA:gc≠Gb:=ey h.oQ h.mV (by decide);have Nq:gc≠Wg:=ey h.oQ h.Ao (by decide);have Np:gc≠Zb:=ey h.oQ h.nI (by decide);have Nr:gc≠Rb:=ey h.oQ h.nj (by decide);have pz:lb≠Gb:=h.pO Gb (by simp);have Nl:lb≠Wg:=h.pO Wg (by simp);have Nk:lb≠Zb:=h.pO Zb (by simp);have Nn:lb≠Rb:=h.pO Rb (by simp);have rU:gc≠Pb:=ey h.oQ h.ow (by decide);have rT:lb≠Pb:=h.pO Pb (by simp);have rS:lb≠gc:=h.pO gc (by simp);have NK:Gb≠Wg:=ey h.mV h.Ao (by decide);have NJ:Gb≠Zb:=ey h.mV h.nI (by decide);have NL:Gb≠Rb:=ey h.mV h.nj (by decide);have NA:Wg≠Zb:=ey h.Ao h.nI (by decide);have NC:Wg≠Rb:=ey h.Ao h.nj (by decide);have pB:Zb≠Rb:=ey h.nI h.nj (by decide);refine⟨hA.num.symm,M.l9,⟨_,by rw[hG];exact h.mV,rfl,rfl,rfl,rfl,rfl,rfl,rfl,fun k k1 k2=>?_⟩,by rw[hW];exact h.Ao,⟨_,by rw[hZ];exact h.nI,size_madeCells _ _,fun k x hx=>?_,fun k hk e=>by cases e⟩,⟨_,by rw[hR];exact h.nj,size_madeCells _ _,fun k x hx=>?_,fun k hk e=>by cases e⟩,⟨NK,NJ,NL,NA,NC,pB⟩,fun b hb off=>?_,h.nd Gb (by simp),h.nd Zb (by simp),h.nd Rb (by simp)⟩
 ·match k,k1,k2 with
  |0,k1,_=>omega
  |1,k1,_=>omega
  |2,k1,_=>omega
  |3,k1,_=>omega
  |4,k1,_=>omega
  |5,k1,_=>omega
  |6,_,_=>exact⟨0,rfl⟩
  |7,_,_=>exact⟨0,rfl⟩
  |8,_,_=>exact⟨0,rfl⟩
  |9,_,_=>exact⟨0,rfl⟩
  |10,_,_=>exact⟨0,rfl⟩
  |11,_,_=>exact⟨0,rfl⟩
  |12,_,_=>exact⟨0,rfl⟩
  |13,_,_=>exact⟨0,rfl⟩
  |14,_,_=>exact⟨0,rfl⟩
  |15,_,_=>exact⟨0,rfl⟩
  |k+16,_,k2=>omega
 ·replace hx:(madeCells #[.int .u64 0] l.length)[k]?=some x:=hx;have hk:k<l.length:=by have:=(Array.getElem?_eq_some_iff.1 hx).1;rw[size_madeCells]at this;exact this
  rw[vk _ hk]at hx;cases hx;exact⟨fun a e=>(by cases e),fun a e=>(by cases e)⟩
 ·replace hx:(madeCells #[.bool false] l.length)[k]?=some x:=hx;have hk:k<l.length:=by have:=(Array.getElem?_eq_some_iff.1 hx).1;rw[size_madeCells]at this;exact this
  rw[vk _ hk]at hx;cases hx;exact⟨fun a e=>(by cases e),fun a e=>(by cases e)⟩
 ·rcases hb with rfl|rfl|rfl|rfl
  ·exact h.ex _ (by simp[mh]) off
  ·exact h.ex _ (by simp[mh]) off
  ·exact h.ex _ (by simp[mh]) off
  ·exact h.ex _ (by simp[mh]) off
theorem oP.agd(h:oP q st K cs l msg t n r cv nv T B b8 kx fR kT b16 fV Gb gc Pb lb Rb Zb Wg ji bS oS cap Cg Cl eL)(M:AgM cs l msg n cv nv)(num:Nat):
  AgD q (mh num cs l msg t n cv nv Gb gc Rb Zb Wg ji) ((b8,az (#[.int .u64 0,.int .u64 0]) 47 (0,0))::([(kx,az (#[.pointer (some ⟨Gb,0,none⟩)]) 97 (0,0)),(fR,az (#[.pointer (some ⟨Pb,0,none⟩)]) 100 (0,0)),(kT,az (#[.int .u64 cv]) 76 (0,0)),(b16,az (#[.slice (some ⟨Rb,0,none⟩) l.length l.length]) 107 (0,0)),(fV,az (#[.slice (some ⟨Zb,0,none⟩) l.length l.length]) 75 (0,0)),(Pb,az (#[.pointer (some ⟨Gb,0,none⟩),.slice (some ⟨lb,0,none⟩) l.length l.length,.string msg]) 164 (0,0)),(gc,az (Cg) 79 (0,0)),(lb,az (Cl) eL (0,0))]++K)) [(kx,az (#[.pointer (some ⟨Gb,0,none⟩)]) 97 (0,0)),(fR,az (#[.pointer (some ⟨Pb,0,none⟩)]) 100 (0,0)),(kT,az (#[.int .u64 cv]) 76 (0,0)),(b16,az (#[.slice (some ⟨Rb,0,none⟩) l.length l.length]) 107 (0,0)),(fV,az (#[.slice (some ⟨Zb,0,none⟩) l.length l.length]) 75 (0,0)),(Pb,az (#[.pointer (some ⟨Gb,0,none⟩),.slice (some ⟨lb,0,none⟩) l.length l.length,.string msg]) 164 (0,0)),(gc,az (Cg) 79 (0,0)),(lb,az (Cl) eL (0,0))] nv cv Pb gc lb cs l msg fV fR kx kT b16 bS oS where
 sub:=fun b o hb=>aR _ (cE _ hb)
 sh:=let⟨ob,h1,h2⟩:=h.sh;⟨ob,aR _ (List.mem_append_right _ h1),h2⟩
 hz:=⟨l.length,#[.slice (some ⟨Zb,0,none⟩) l.length l.length],75,(0,0),by simp,rfl⟩
 hp:=⟨#[.pointer (some ⟨Pb,0,none⟩)],100,(0,0),by simp,rfl⟩
 hx:=⟨#[.pointer (some ⟨Gb,0,none⟩)],97,(0,0),by simp,rfl⟩
 hc:=⟨#[.int .u64 cv],76,(0,0),by simp,rfl⟩
 hr:=⟨l.length,#[.slice (some ⟨Rb,0,none⟩) l.length l.length],107,(0,0),by simp,rfl⟩
 pk:=⟨#[.pointer (some ⟨Gb,0,none⟩),.slice (some ⟨lb,0,none⟩) l.length l.length,.string msg],164,(0,0),l.length,by simp,rfl,rfl,rfl,rfl,aH _⟩
 gcB:=⟨Cg,79,(0,0),by simp,h.gcl⟩
 lbB:=⟨Cl,eL,(0,0),by simp,h.CJ⟩
 gp:=ey h.oQ h.ow (by decide)
 lp:=h.pO _ (by simp)
 lg:=h.pO _ (by simp)
 low:=⟨h.low _ (by simp),h.low _ (by simp),h.low _ (by simp),h.low Gb (by simp)⟩
 g0:=⟨t,rfl⟩
 g1:=by have:=M.n0;show Value.int .i64 n=.int .i64 ((n.toNat:Nat):Int);rw[Int.toNat_of_nonneg this]
 g2:=⟨ji,rfl⟩
 n9:=by have:=M.n9;show n.toNat<=9;omega
 c9:=M.c9
 c0:=M.c0
 el:=M.el
 vs:=fun id _ _=>rfl
 gd:=by have:=M.n0;show ng.Good ((n.toNat:Nat):Int) l;rw[Int.toNat_of_nonneg this];exact M.gd
 l9:=M.l9
 ln:=rfl
 ms:=M.ms
 nb:=M.nb
 cb:=M.cb
 zv:=fun k _=>rfl
 rv:=fun k _=>rfl
end
end
section
theorem SK:(Try.f71.name== "runtime.NumGoroutine")=false:=by kernel_rfl
section
variable{q:iU}{st:St eH}{K:List (Nat×Obj)}{cs:List Int}{l:List Cm}{msg:ByteArray}{t n r cv:Int}{nv:Nat->Int}{T:Array af}{B b8 kx fR kT b16 fV Gb gc Pb lb Rb Zb Wg ji bS oS cap:Nat}{Cg Cl:Array af}{eL:aj}
theorem oP.tail(D:oP q st K cs l msg t n r cv nv T B b8 kx fR kT b16 fV Gb gc Pb lb Rb Zb Wg ji bS oS cap Cg Cl eL)(M:AgM cs l msg n cv nv){num num':Nat}{dZ:St eH}{Q:List (Nat×Obj)}(hA:kH 0 num' ((b8,az (#[.int .u64 0,.int .u64 0]) 47 (0,0))::([(kx,az (#[.pointer (some ⟨Gb,0,none⟩)]) 97 (0,0)),(fR,az (#[.pointer (some ⟨Pb,0,none⟩)]) 100 (0,0)),(kT,az (#[.int .u64 cv]) 76 (0,0)),(b16,az (#[.slice (some ⟨Rb,0,none⟩) l.length l.length]) 107 (0,0)),(fV,az (#[.slice (some ⟨Zb,0,none⟩) l.length l.length]) 75 (0,0)),(Pb,az (#[.pointer (some ⟨Gb,0,none⟩),.slice (some ⟨lb,0,none⟩) l.length l.length,.string msg]) 164 (0,0)),(gc,az (Cg) 79 (0,0)),(lb,az (Cl) eL (0,0))]++Q)) dZ)(f1:DN q (mh num cs l msg t n cv nv Gb gc Rb Zb Wg ji) dZ.w)
  (hG:q.tG=137)(hZ:q.tZ=76)(hR:q.tR=4)
  (f2:∃Z:Array af,dZ.w.heap[Zb]?=some (.cells Z q.tZ)/\Z.size=l.length/\∀k,k<l.length->Z[k]?=some (.int .u64 (nv k)))(f3:∃R:Array af,dZ.w.heap[Rb]?=some (.cells R q.tR)/\R.size=l.length/\∀k,k<l.length->R[k]?=some (.bool (iB (nv k) cv cs l msg k)))
  (f4:∀lo b,lo.isMemory=true->im lo=some b->b<dZ.w.heap.size->¬dZ.γ.dead b->dZ.γ.ex 0 lo)(f5:¬dZ.γ.dead Gb)(f6:¬dZ.γ.dead Zb)(f7:¬dZ.γ.dead Rb)
  {T':Array af}(sz:T'.size=107)(s8:T'[8]?=some (.pointer (some ⟨b8,0,none⟩)))(s9:T'[9]?=some (.slice none 0 0))(YO:T'[10]?=some (.int .i64 0))(Q3:T'[13]?=some (.pointer (some ⟨fR,0,none⟩)))(s14:T'[14]?=some (.int .u64 r))(Q0:T'[16]?=some (.pointer (some ⟨b16,0,none⟩)))(QZ:T'[17]?=some (.pointer (some ⟨fV,0,none⟩)))
  (su:∀i,(21<=i/\i<24)\/(81<=i/\i<107)->T'[i]?=some av):
  ∃CG CR CZ:Array af,tM q dZ cs l msg r (fun k=>iB (nv k) cv cs l msg k) ((bq l.length).map nv) T' b8 fR b16 fV Gb Pb gc lb Rb Zb ji l.length l.length CG Cg #[.pointer (some ⟨Gb,0,none⟩),.slice (some ⟨lb,0,none⟩) l.length l.length,.string msg] Cl CR CZ (.int .i64 t) (.int .i64 n) eL:=by
 obtain⟨CG,g1,g2,g3,g4,g5,-⟩:=f1;obtain⟨CZ,z1,z2,z3⟩:=f2;obtain⟨CR,r1,r2,r3⟩:=f3;rw[hG]at g1;rw[hZ]at z1;rw[hR]at r1;have k:=fun b o (h:(b,o)∈(b8,az (#[.int .u64 0,.int .u64 0]) 47 (0,0))::([(kx,az (#[.pointer (some ⟨Gb,0,none⟩)]) 97 (0,0)),(fR,az (#[.pointer (some ⟨Pb,0,none⟩)]) 100 (0,0)),(kT,az (#[.int .u64 cv]) 76 (0,0)),(b16,az (#[.slice (some ⟨Rb,0,none⟩) l.length l.length]) 107 (0,0)),(fV,az (#[.slice (some ⟨Zb,0,none⟩) l.length l.length]) 75 (0,0)),(Pb,az (#[.pointer (some ⟨Gb,0,none⟩),.slice (some ⟨lb,0,none⟩) l.length l.length,.string msg]) 164 (0,0)),(gc,az (Cg) 79 (0,0)),(lb,az (Cl) eL (0,0))]++Q))=>(hA.fz b o h).1;have d:=fun b o (h:(b,o)∈(b8,az (#[.int .u64 0,.int .u64 0]) 47 (0,0))::([(kx,az (#[.pointer (some ⟨Gb,0,none⟩)]) 97 (0,0)),(fR,az (#[.pointer (some ⟨Pb,0,none⟩)]) 100 (0,0)),(kT,az (#[.int .u64 cv]) 76 (0,0)),(b16,az (#[.slice (some ⟨Rb,0,none⟩) l.length l.length]) 107 (0,0)),(fV,az (#[.slice (some ⟨Zb,0,none⟩) l.length l.length]) 75 (0,0)),(Pb,az (#[.pointer (some ⟨Gb,0,none⟩),.slice (some ⟨lb,0,none⟩) l.length l.length,.string msg]) 164 (0,0)),(gc,az (Cg) 79 (0,0)),(lb,az (Cl) eL (0,0))]++Q))=>hA.nd b o h;have d8:=d b8 _ (dh ..);have k8:=k b8 _ (dh ..);have ow:=k Pb _ (aR _ (cE _ (by simp:(Pb,az (#[.pointer (some ⟨Gb,0,none⟩),.slice (some ⟨lb,0,none⟩) l.length l.length,.string msg]) 164 (0,0))∈[(kx,az (#[.pointer (some ⟨Gb,0,none⟩)]) 97 (0,0)),(fR,az (#[.pointer (some ⟨Pb,0,none⟩)]) 100 (0,0)),(kT,az (#[.int .u64 cv]) 76 (0,0)),(b16,az (#[.slice (some ⟨Rb,0,none⟩) l.length l.length]) 107 (0,0)),(fV,az (#[.slice (some ⟨Zb,0,none⟩) l.length l.length]) 75 (0,0)),(Pb,az (#[.pointer (some ⟨Gb,0,none⟩),.slice (some ⟨lb,0,none⟩) l.length l.length,.string msg]) 164 (0,0)),(gc,az (Cg) 79 (0,0)),(lb,az (Cl) eL (0,0))])));have dPb:=d Pb _ (aR _ (cE _ (by simp:(Pb,az (#[.pointer (some ⟨Gb,0,none⟩),.slice (some ⟨lb,0,none⟩) l.length l.length,.string msg]) 164 (0,0))∈[(kx,az (#[.pointer (some ⟨Gb,0,none⟩)]) 97 (0,0)),(fR,az (#[.pointer (some ⟨Pb,0,none⟩)]) 100 (0,0)),(kT,az (#[.int .u64 cv]) 76 (0,0)),(b16,az (#[.slice (some ⟨Rb,0,none⟩) l.length l.length]) 107 (0,0)),(fV,az (#[.slice (some ⟨Zb,0,none⟩) l.length l.length]) 75 (0,0)),(Pb,az (#[.pointer (some ⟨Gb,0,none⟩),.slice (some ⟨lb,0,none⟩) l.length l.length,.string msg]) 164 (0,0)),(gc,az (Cg) 79 (0,0)),(lb,az (Cl) eL (0,0))])));have oQ:=k gc _ (aR _ (cE _ (by simp:(gc,az (Cg) 79 (0,0))∈[(kx,az (#[.pointer (some ⟨Gb,0,none⟩)]) 97 (0,0)),(fR,az (#[.pointer (some ⟨Pb,0,none⟩)]) 100 (0,0)),(kT,az (#[.int .u64 cv]) 76 (0,0)),(b16,az (#[.slice (some ⟨Rb,0,none⟩) l.length l.length]) 107 (0,0)),(fV,az (#[.slice (some ⟨Zb,0,none⟩) l.length l.length]) 75 (0,0)),(Pb,az (#[.pointer (some ⟨Gb,0,none⟩),.slice (some ⟨lb,0,none⟩) l.length l.length,.string msg]) 164 (0,0)),(gc,az (Cg) 79 (0,0)),(lb,az (Cl) eL (0,0))])));have dgc:=d gc _ (aR _ (cE _ (by simp:(gc,az (Cg) 79 (0,0))∈[(kx,az (#[.pointer (some ⟨Gb,0,none⟩)]) 97 (0,0)),(fR,az (#[.pointer (some ⟨Pb,0,none⟩)]) 100 (0,0)),(kT,az (#[.int .u64 cv]) 76 (0,0)),(b16,az (#[.slice (some ⟨Rb,0,none⟩) l.length l.length]) 107 (0,0)),(fV,az (#[.slice (some ⟨Zb,0,none⟩) l.length l.length]) 75 (0,0)),(Pb,az (#[.pointer (some ⟨Gb,0,none⟩),.slice (some ⟨lb,0,none⟩) l.length l.length,.string msg]) 164 (0,0)),(gc,az (Cg) 79 (0,0)),(lb,az (Cl) eL (0,0))])));have Vx:=k lb _ (aR _ (cE _ (by simp:(lb,az (Cl) eL (0,0))∈[(kx,az (#[.pointer (some ⟨Gb,0,none⟩)]) 97 (0,0)),(fR,az (#[.pointer (some ⟨Pb,0,none⟩)]) 100 (0,0)),(kT,az (#[.int .u64 cv]) 76 (0,0)),(b16,az (#[.slice (some ⟨Rb,0,none⟩) l.length l.length]) 107 (0,0)),(fV,az (#[.slice (some ⟨Zb,0,none⟩) l.length l.length]) 75 (0,0)),(Pb,az (#[.pointer (some ⟨Gb,0,none⟩),.slice (some ⟨lb,0,none⟩) l.length l.length,.string msg]) 164 (0,0)),(gc,az (Cg) 79 (0,0)),(lb,az (Cl) eL (0,0))])));have dlb:=d lb _ (aR _ (cE _ (by simp:(lb,az (Cl) eL (0,0))∈[(kx,az (#[.pointer (some ⟨Gb,0,none⟩)]) 97 (0,0)),(fR,az (#[.pointer (some ⟨Pb,0,none⟩)]) 100 (0,0)),(kT,az (#[.int .u64 cv]) 76 (0,0)),(b16,az (#[.slice (some ⟨Rb,0,none⟩) l.length l.length]) 107 (0,0)),(fV,az (#[.slice (some ⟨Zb,0,none⟩) l.length l.length]) 75 (0,0)),(Pb,az (#[.pointer (some ⟨Gb,0,none⟩),.slice (some ⟨lb,0,none⟩) l.length l.length,.string msg]) 164 (0,0)),(gc,az (Cg) 79 (0,0)),(lb,az (Cl) eL (0,0))])));have jO:=k fR _ (aR _ (cE _ (by simp:(fR,az (#[.pointer (some ⟨Pb,0,none⟩)]) 100 (0,0))∈[(kx,az (#[.pointer (some ⟨Gb,0,none⟩)]) 97 (0,0)),(fR,az (#[.pointer (some ⟨Pb,0,none⟩)]) 100 (0,0)),(kT,az (#[.int .u64 cv]) 76 (0,0)),(b16,az (#[.slice (some ⟨Rb,0,none⟩) l.length l.length]) 107 (0,0)),(fV,az (#[.slice (some ⟨Zb,0,none⟩) l.length l.length]) 75 (0,0)),(Pb,az (#[.pointer (some ⟨Gb,0,none⟩),.slice (some ⟨lb,0,none⟩) l.length l.length,.string msg]) 164 (0,0)),(gc,az (Cg) 79 (0,0)),(lb,az (Cl) eL (0,0))])));have X4:=d fR _ (aR _ (cE _ (by simp:(fR,az (#[.pointer (some ⟨Pb,0,none⟩)]) 100 (0,0))∈[(kx,az (#[.pointer (some ⟨Gb,0,none⟩)]) 97 (0,0)),(fR,az (#[.pointer (some ⟨Pb,0,none⟩)]) 100 (0,0)),(kT,az (#[.int .u64 cv]) 76 (0,0)),(b16,az (#[.slice (some ⟨Rb,0,none⟩) l.length l.length]) 107 (0,0)),(fV,az (#[.slice (some ⟨Zb,0,none⟩) l.length l.length]) 75 (0,0)),(Pb,az (#[.pointer (some ⟨Gb,0,none⟩),.slice (some ⟨lb,0,none⟩) l.length l.length,.string msg]) 164 (0,0)),(gc,az (Cg) 79 (0,0)),(lb,az (Cl) eL (0,0))])));have jN:=k b16 _ (aR _ (cE _ (by simp:(b16,az (#[.slice (some ⟨Rb,0,none⟩) l.length l.length]) 107 (0,0))∈[(kx,az (#[.pointer (some ⟨Gb,0,none⟩)]) 97 (0,0)),(fR,az (#[.pointer (some ⟨Pb,0,none⟩)]) 100 (0,0)),(kT,az (#[.int .u64 cv]) 76 (0,0)),(b16,az (#[.slice (some ⟨Rb,0,none⟩) l.length l.length]) 107 (0,0)),(fV,az (#[.slice (some ⟨Zb,0,none⟩) l.length l.length]) 75 (0,0)),(Pb,az (#[.pointer (some ⟨Gb,0,none⟩),.slice (some ⟨lb,0,none⟩) l.length l.length,.string msg]) 164 (0,0)),(gc,az (Cg) 79 (0,0)),(lb,az (Cl) eL (0,0))])));have X3:=d b16 _ (aR _ (cE _ (by simp:(b16,az (#[.slice (some ⟨Rb,0,none⟩) l.length l.length]) 107 (0,0))∈[(kx,az (#[.pointer (some ⟨Gb,0,none⟩)]) 97 (0,0)),(fR,az (#[.pointer (some ⟨Pb,0,none⟩)]) 100 (0,0)),(kT,az (#[.int .u64 cv]) 76 (0,0)),(b16,az (#[.slice (some ⟨Rb,0,none⟩) l.length l.length]) 107 (0,0)),(fV,az (#[.slice (some ⟨Zb,0,none⟩) l.length l.length]) 75 (0,0)),(Pb,az (#[.pointer (some ⟨Gb,0,none⟩),.slice (some ⟨lb,0,none⟩) l.length l.length,.string msg]) 164 (0,0)),(gc,az (Cg) 79 (0,0)),(lb,az (Cl) eL (0,0))])));have jM:=k fV _ (aR _ (cE _ (by simp:(fV,az (#[.slice (some ⟨Zb,0,none⟩) l.length l.length]) 75 (0,0))∈[(kx,az (#[.pointer (some ⟨Gb,0,none⟩)]) 97 (0,0)),(fR,az (#[.pointer (some ⟨Pb,0,none⟩)]) 100 (0,0)),(kT,az (#[.int .u64 cv]) 76 (0,0)),(b16,az (#[.slice (some ⟨Rb,0,none⟩) l.length l.length]) 107 (0,0)),(fV,az (#[.slice (some ⟨Zb,0,none⟩) l.length l.length]) 75 (0,0)),(Pb,az (#[.pointer (some ⟨Gb,0,none⟩),.slice (some ⟨lb,0,none⟩) l.length l.length,.string msg]) 164 (0,0)),(gc,az (Cg) 79 (0,0)),(lb,az (Cl) eL (0,0))])));have XZ:=d fV _ (aR _ (cE _ (by simp:(fV,az (#[.slice (some ⟨Zb,0,none⟩) l.length l.length]) 75 (0,0))∈[(kx,az (#[.pointer (some ⟨Gb,0,none⟩)]) 97 (0,0)),(fR,az (#[.pointer (some ⟨Pb,0,none⟩)]) 100 (0,0)),(kT,az (#[.int .u64 cv]) 76 (0,0)),(b16,az (#[.slice (some ⟨Rb,0,none⟩) l.length l.length]) 107 (0,0)),(fV,az (#[.slice (some ⟨Zb,0,none⟩) l.length l.length]) 75 (0,0)),(Pb,az (#[.pointer (some ⟨Gb,0,none⟩),.slice (some ⟨lb,0,none⟩) l.length l.length,.string msg]) 164 (0,0)),(gc,az (Cg) 79 (0,0)),(lb,az (Cl) eL (0,0))])));refine⟨CG,CR,CZ,sz,s8,s9,YO,Q3,s14,Q0,QZ,su,k8,ow,g1,oQ,Vx,jO,jN,jM,r1,z1,⟨by omega,g3,g4,g5,⟨_,_,rfl⟩,_,_,rfl⟩,D.gcl,⟨rfl,rfl,rfl,rfl⟩,D.CJ,⟨r2,r3⟩,⟨z2,fun k hk=>?_⟩,by simp,aH _,M.l9,?_,?_,?_,fun lo h1 h2=>f4 lo b8 h2 h1 (lt_of_block k8) d8,?_⟩
 ·rw[z3 k hk];simp[aC,hk]
 ·intro b hb;simp only[aM,bB,or_false]at hb;rcases hb with rfl|rfl|rfl|rfl|rfl|rfl|rfl|rfl|rfl|rfl<;>exact D.low _ (by simp)
 ·intro b hb;simp only[aM,bB,or_false]at hb;rcases hb with rfl|rfl|rfl|rfl|rfl|rfl|rfl|rfl|rfl<;>exact D.pO _ (by simp)
 ·intro b hb;simp only[aM,bB,or_false]at hb;rcases hb with rfl|rfl|rfl|rfl|rfl|rfl|rfl|rfl|rfl|rfl
  all_goals first|exact d8|exact dPb|exact f5|exact dgc|exact dlb|exact X4|exact X3|exact XZ|exact f7|exact f6
 ·intro b hb off;simp only[aM,bB,or_false]at hb;rcases hb with rfl|rfl|rfl|rfl|rfl|rfl|rfl|rfl|rfl|rfl
  ·exact f4 _ _ rfl rfl (lt_of_block k8) d8
  ·exact f4 _ _ rfl rfl (lt_of_block ow) dPb
  ·exact f4 _ _ rfl rfl (lt_of_block g1) f5
  ·exact f4 _ _ rfl rfl (lt_of_block oQ) dgc
  ·exact f4 _ _ rfl rfl (lt_of_block Vx) dlb
  ·exact f4 _ _ rfl rfl (lt_of_block jO) X4
  ·exact f4 _ _ rfl rfl (lt_of_block jN) X3
  ·exact f4 _ _ rfl rfl (lt_of_block jM) XZ
  ·exact f4 _ _ rfl rfl (lt_of_block r1) f7
  ·exact f4 _ _ rfl rfl (lt_of_block z1) f6
variable(hP:q.P=dS)
include hP
theorem oP.VW(D:oP q st K cs l msg t n r cv nv T B b8 kx fR kT b16 fV Gb gc Pb lb Rb Zb Wg ji bS oS cap Cg Cl eL)(M:AgM cs l msg n cv nv){num num':Nat}{dZ:St eH}(hA:kH 0 num' ((b8,az (#[.int .u64 0,.int .u64 0]) 47 (0,0))::([(kx,az (#[.pointer (some ⟨Gb,0,none⟩)]) 97 (0,0)),(fR,az (#[.pointer (some ⟨Pb,0,none⟩)]) 100 (0,0)),(kT,az (#[.int .u64 cv]) 76 (0,0)),(b16,az (#[.slice (some ⟨Rb,0,none⟩) l.length l.length]) 107 (0,0)),(fV,az (#[.slice (some ⟨Zb,0,none⟩) l.length l.length]) 75 (0,0)),(Pb,az (#[.pointer (some ⟨Gb,0,none⟩),.slice (some ⟨lb,0,none⟩) l.length l.length,.string msg]) 164 (0,0)),(gc,az (Cg) 79 (0,0)),(lb,az (Cl) eL (0,0))]++K)) dZ)(hI:Inv q dZ)(f1:DN q (mh num cs l msg t n cv nv Gb gc Rb Zb Wg ji) dZ.w)
  (hG:q.tG=137)(hZ:q.tZ=76)(hR:q.tR=4)
  (f2:∃Z:Array af,dZ.w.heap[Zb]?=some (.cells Z q.tZ)/\Z.size=l.length/\∀k,k<l.length->Z[k]?=some (.int .u64 (nv k)))(f3:∃R:Array af,dZ.w.heap[Rb]?=some (.cells R q.tR)/\R.size=l.length/\∀k,k<l.length->R[k]?=some (.bool (iB (nv k) cv cs l msg k)))
  (f4:∀lo b,lo.isMemory=true->im lo=some b->b<dZ.w.heap.size->¬dZ.γ.dead b->dZ.γ.ex 0 lo)(f5:¬dZ.γ.dead Gb)(f6:¬dZ.γ.dead Zb)(f7:¬dZ.γ.dead Rb)
  {T':Array af}(sz:T'.size=107)(s8:T'[8]?=some (.pointer (some ⟨b8,0,none⟩)))(s9:T'[9]?=some (.slice none 0 0))(YO:T'[10]?=some (.int .i64 0))(Q3:T'[13]?=some (.pointer (some ⟨fR,0,none⟩)))(s14:T'[14]?=some (.int .u64 r))(Q0:T'[16]?=some (.pointer (some ⟨b16,0,none⟩)))(QZ:T'[17]?=some (.pointer (some ⟨fV,0,none⟩)))
  (su:∀i,(21<=i/\i<24)\/(81<=i/\i<107)->T'[i]?=some av){c:ai}{bs:List ai}{Ch:Nat->ah->St eH->Prop}
  (fin:∀v st',yK r ((bq l.length).map nv) (fT (fun k=>iB (nv k) cv cs l msg k) l l.length) num' K v st'->Inv q st'->TT (cfg q) 0 Ch (G (c.finish v) bs) st'):
  TT (cfg q) 0 Ch (G ((base 27).at ⟨T',[]⟩ [.code xq]) (c::bs)) dZ:=by
 obtain⟨CG,CR,CZ,TD⟩:=D.tail M hA f1 hG hZ hR f2 f3 f4 f5 f6 f7 sz s8 s9 YO Q3 s14 Q0 QZ su;refine ac9 hP (hA.sub fun b o hb=>aR _ (List.mem_append_right _ hb)) hI TD (fun b o hb=>?_) fin;have:=D.kB b o hb
 have:=D.new b8 (by simp)
 omega
noncomputable def aa1:Code:=match sF with|.seq a _=>a|_=>.skip
theorem QL(D:oP q st K cs l msg t n r cv nv T B b8 kx fR kT b16 fV Gb gc Pb lb Rb Zb Wg ji bS oS cap Cg Cl eL)(M:AgM cs l msg n cv nv){num:Nat}(hG:q.tG=137)(hZ:q.tZ=76)(hR:q.tR=4){c:ai}{bs:List ai}{y:Nat->af}(HYY:Hid (∀i v,T[i]?=some v->y i=v))
  (fin:∀v st',yK r ((bq l.length).map nv) (fT (fun k=>iB (nv k) cv cs l msg k) l l.length) (num+l.length) K v st'->Inv q st'->TT (cfg q) 0 (TW (cfg q)) (G (c.finish v) bs) st')
  (st':St eH)(pE pD vz vw vv vt vq vp vo:af)(hA':nu (mh num cs l msg t n cv nv Gb gc Rb Zb Wg ji) .sp 0 (num+l.length) ((b8,az (#[.int .u64 0,.int .u64 0]) 47 (0,0))::([(kx,az (#[.pointer (some ⟨Gb,0,none⟩)]) 97 (0,0)),(fR,az (#[.pointer (some ⟨Pb,0,none⟩)]) 100 (0,0)),(kT,az (#[.int .u64 cv]) 76 (0,0)),(b16,az (#[.slice (some ⟨Rb,0,none⟩) l.length l.length]) 107 (0,0)),(fV,az (#[.slice (some ⟨Zb,0,none⟩) l.length l.length]) 75 (0,0)),(Pb,az (#[.pointer (some ⟨Gb,0,none⟩),.slice (some ⟨lb,0,none⟩) l.length l.length,.string msg]) 164 (0,0)),(gc,az (Cg) 79 (0,0)),(lb,az (Cl) eL (0,0))]++K)) st')(hI':Inv q st'):
  TT (cfg q) 0 (TW (cfg q)) (G ((base 27).at ⟨agT y kx fR kT b16 fV Wg bS oS cap l.length (l.length:Int) pE pD vz vw vv vt vq vp vo,[]⟩ [.code sF]) (c::bs)) st':=by
 have e2:sF=.seq aa1 xq:=rfl;obtain⟨AT,GL⟩:∃AT,AT=xq:=⟨_,rfl⟩;rw[e2,<-GL];obtain⟨s,hs⟩:∃s,s=mh num cs l msg t n cv nv Gb gc Rb Zb Wg ji:=⟨_,rfl⟩;have TS:Wg=s.Wg:=by rw[hs];rfl
 have hn:num+l.length=s.n0+s.n:=by rw[hs];rfl
 rw[<-hs]at hA';rw[TS];have HSS:=ay (And.intro hs (And.intro TS (And.intro hn GL)));have HD:=ay D;clear hs TS hn GL D e2;simp only[aa1,sF,ky,iw,Try.f27,aJ,agT];refine TT.j0 hP hA' 80 fun w₀ hF=>?_;repeat w_go eA
 u_call Try.func71 SK Try.f71 eA hF
 refine stp rfl ?_;clear hF w₀;obtain⟨hs,TS,hn,GL⟩:=HSS.out;refine ab9 hP (fun dZ eu eN f1 f2 f3 f4 f5 f6 f7=>?_) hn hA';clear hs TS hn GL;walk_nrm;refine TT.oX hP 80 fun w₀ hF=>?_;repeat w_go ib
 refine stp rfl ?_;obtain⟨hs,TS,hn,GL⟩:=HSS.out;have D:=HD.out;rw[<-TS];clear HSS TS hn;subst GL hs;have hy:=HYY.out;exact D.VW hP M eu eN f1 hG hZ hR f2 f3 f4 f5 f6 f7 rfl (congrArg some (hy _ _ D.s8)) (congrArg some (hy _ _ D.s9)) (congrArg some (hy _ _ D.YO)) rfl (congrArg some (hy _ _ D.s14)) rfl rfl (fun i hi=>by
  match i,hi with
  |0,hi=>omega
  |1,hi=>omega
  |2,hi=>omega
  |3,hi=>omega
  |4,hi=>omega
  |5,hi=>omega
  |6,hi=>omega
  |7,hi=>omega
  |8,hi=>omega
  |9,hi=>omega
  |10,hi=>omega
  |11,hi=>omega
  |12,hi=>omega
  |13,hi=>omega
  |14,hi=>omega
  |15,hi=>omega
  |16,hi=>omega
  |17,hi=>omega
  |18,hi=>omega
  |19,hi=>omega
  |20,hi=>omega
  |21,_=>exact congrArg some (hy 21 _ (D.su 21 (by omega)))
  |22,_=>exact congrArg some (hy 22 _ (D.su 22 (by omega)))
  |23,_=>exact congrArg some (hy 23 _ (D.su 23 (by omega)))
  |24,hi=>omega
  |25,hi=>omega
  |26,hi=>omega
  |27,hi=>omega
  |28,hi=>omega
  |29,hi=>omega
  |30,hi=>omega
  |31,hi=>omega
  |32,hi=>omega
  |33,hi=>omega
  |34,hi=>omega
  |35,hi=>omega
  |36,hi=>omega
  |37,hi=>omega
  |38,hi=>omega
  |39,hi=>omega
  |40,hi=>omega
  |41,hi=>omega
  |42,hi=>omega
  |43,hi=>omega
  |44,hi=>omega
  |45,hi=>omega
  |46,hi=>omega
  |47,hi=>omega
  |48,hi=>omega
  |49,hi=>omega
  |50,hi=>omega
  |51,hi=>omega
  |52,hi=>omega
  |53,hi=>omega
  |54,hi=>omega
  |55,hi=>omega
  |56,hi=>omega
  |57,hi=>omega
  |58,hi=>omega
  |59,hi=>omega
  |60,hi=>omega
  |61,hi=>omega
  |62,hi=>omega
  |63,hi=>omega
  |64,hi=>omega
  |65,hi=>omega
  |66,hi=>omega
  |67,hi=>omega
  |68,hi=>omega
  |69,hi=>omega
  |70,hi=>omega
  |71,hi=>omega
  |72,hi=>omega
  |73,hi=>omega
  |74,hi=>omega
  |75,hi=>omega
  |76,hi=>omega
  |77,hi=>omega
  |78,hi=>omega
  |79,hi=>omega
  |80,hi=>omega
  |81,_=>exact congrArg some (hy 81 _ (D.su 81 (by omega)))
  |82,_=>exact congrArg some (hy 82 _ (D.su 82 (by omega)))
  |83,_=>exact congrArg some (hy 83 _ (D.su 83 (by omega)))
  |84,_=>exact congrArg some (hy 84 _ (D.su 84 (by omega)))
  |85,_=>exact congrArg some (hy 85 _ (D.su 85 (by omega)))
  |86,_=>exact congrArg some (hy 86 _ (D.su 86 (by omega)))
  |87,_=>exact congrArg some (hy 87 _ (D.su 87 (by omega)))
  |88,_=>exact congrArg some (hy 88 _ (D.su 88 (by omega)))
  |89,_=>exact congrArg some (hy 89 _ (D.su 89 (by omega)))
  |90,_=>exact congrArg some (hy 90 _ (D.su 90 (by omega)))
  |91,_=>exact congrArg some (hy 91 _ (D.su 91 (by omega)))
  |92,_=>exact congrArg some (hy 92 _ (D.su 92 (by omega)))
  |93,_=>exact congrArg some (hy 93 _ (D.su 93 (by omega)))
  |94,_=>exact congrArg some (hy 94 _ (D.su 94 (by omega)))
  |95,_=>exact congrArg some (hy 95 _ (D.su 95 (by omega)))
  |96,_=>exact congrArg some (hy 96 _ (D.su 96 (by omega)))
  |97,_=>exact congrArg some (hy 97 _ (D.su 97 (by omega)))
  |98,_=>exact congrArg some (hy 98 _ (D.su 98 (by omega)))
  |99,_=>exact congrArg some (hy 99 _ (D.su 99 (by omega)))
  |100,_=>exact congrArg some (hy 100 _ (D.su 100 (by omega)))
  |101,_=>exact congrArg some (hy 101 _ (D.su 101 (by omega)))
  |102,_=>exact congrArg some (hy 102 _ (D.su 102 (by omega)))
  |103,_=>exact congrArg some (hy 103 _ (D.su 103 (by omega)))
  |104,_=>exact congrArg some (hy 104 _ (D.su 104 (by omega)))
  |105,_=>exact congrArg some (hy 105 _ (D.su 105 (by omega)))
  |106,_=>exact congrArg some (hy 106 _ (D.su 106 (by omega)))
  |i+107,hi=>omega) fin
theorem au9(D:oP q st K cs l msg t n r cv nv T B b8 kx fR kT b16 fV Gb gc Pb lb Rb Zb Wg ji bS oS cap Cg Cl eL)(M:AgM cs l msg n cv nv){num:Nat}(hA:kH 0 num K st)(hI:Inv q st)(hG:q.tG=137)(hZ:q.tZ=76)(hR:q.tR=4)(hW:q.tW=116){c:ai}{bs:List ai}
  (fin:∀v st',yK r ((bq l.length).map nv) (fT (fun k=>iB (nv k) cv cs l msg k) l l.length) (num+l.length) K v st'->Inv q st'->TT (cfg q) 0 (TW (cfg q)) (G (c.finish v) bs) st'):
  TT (cfg q) 0 (TW (cfg q)) (G ((base 27).at ⟨T,[]⟩ [.code (iw 12 ky).2]) (c::bs)) st:=by
 have E:=D.enter M hA hG hZ hR hW;have AD:=D.agd M num;have hK:=D.kept hA;have hap:=fun b o hb=>D.apart (b:=b) (o:=o) hb;obtain⟨y,hT,hy⟩:=RJ T D.sz;have y3:=hy _ _ D.s3;have y11:=hy _ _ D.s11;have y13:=hy _ _ D.Q3;have y15:=hy _ _ D.s15;have y16:=hy _ _ D.Q0;have y17:=hy _ _ D.QZ;have y18:=hy _ _ D.s18;have hcap:=D.hcap;have e1:(iw 12 ky).2=.seq vK sF:=rfl;rw[e1];refine TT.enter hP (s:=mh num cs l msg t n cv nv Gb gc Rb Zb Wg ji) hK E (fun b o hb=>let⟨a,b,c,d⟩:=hap b o hb;⟨a,b,c,d⟩) (fun w=>stepG_seq ..) rfl fun dV dY eQ=>?_;have hL:=Kz (bs:=c::bs) (y:=y) hP AD hcap (QL hP D M hG hZ hR hy fin) l.length 0 dV;clear hK E hap hI hA AD fin;rw[hT];have HYY:=ay hy;clear hy;simp only[Kv,OU,vK,ky,iw,Try.f27,aJ,agT,y3]at hL;simp only[vK,ky,iw,Try.f27,aJ,ab2,y3,y11,y13,y15,y16,y17,y18];refine TT.j0 hP dY 80 fun w₀ hF=>?_;repeat w_but "code.loop" eA
 u_c stepG_loop eA hF
 refine stp rfl ?_;exact hL _ _ _ _ _ _ _ _ _ (Nat.add_zero _) dY eQ
end
end
end Cc
namespace Cc
open Go.Conc Go.ConcN Go.RowKit
open Pl ni oa ng Mem nO Au yL Hw KT ED
open nU hiding base
section
theorem kM{w:ae}{a b:Nat}{C C':Array af}{e e':aj}{f f':Nat×Nat}(h:w.heap[a]?=some (.cells C e f))(h':w.heap[b]?=some (.cells C' e' f'))(k:Nat)(hne:C[k]?≠C'[k]?):a≠b:=by
 rintro rfl;rw[h]at h';cases h';exact hne rfl
theorem br8{t n:Int}{cs:List Int}{l:List Cm}{msg:ByteArray}{ns:Nat}{nv:Nat->Int}(h0:ml t n cs l msg ns=0)(rH:msg.size<=1000000)(hnb:∀k,k<l.length->0<=nv k/\nv k<18446744073709551616):
  AgM cs l msg n (jR (gI l (cs.getD 0 0) msg) (cs.getD 0 0) msg) nv/\ns=l.length/\2<=l.length:=by
 unfold ml at h0;split at h0
 ·cases h0
 rename_i h1;split at h0
 ·rename_i h2;exact absurd h0 h2
 rename_i h2;split at h0
 ·cases h0
 rename_i h3;have g:=jZ (t:=t) (n:=n) (cs:=cs) (by simpa using h1);have p:=xS (t:=t) (n:=n) (l:=l) (by simpa using h2);have c:=BH (gI l (cs.getD 0 0) msg) (cs.getD 0 0) msg;refine⟨⟨by omega,by omega,by omega,by omega,fun j hj=>rZ (t:=t) (n:=n) (by simpa using h1) hj,r7 (t:=t) (by simpa using h2),by omega,rH,hnb,by omega,by omega⟩,by simpa using h3,by omega⟩
section
variable{S:ak->Bool}{ρ:Nat->Option Nat}{ro:Nat->Md}{G:Nat}{s w:ae}
theorem kY{v v':af}(h:VR (fun f=>S f=true) ρ v v')(hp:fJ 4 v=true/\jk 4 v=true):v'=v:=VR.same (ρ:=fun _=>none) (ρ':=ρ) (fun b c x=>by cases x) (fun b c x=>by cases x) (og 4 _ hp.2) (mF 4 _ hp.1) h
theorem AR.plain{x x':Array af}(h:AR (fun f=>S f=true) ρ x x')(hp:∀(i:Nat) (v:af),x[i]?=some v->fJ 4 v=true/\jk 4 v=true):x'=x:=
 Array.ext h.1.symm fun i h1 h2=>kY (h.2 i _ _ (aI h2) (aI h1)) (hp i _ (aI h2))
theorem AR.Xa{v:af}{x':Array af}(h:AR (fun f=>S f=true) ρ #[v] x'):∃v',x'=#[v']/\VR (fun f=>S f=true) ρ v v':=by
 have hs:x'.size=1:=by simpa using h.1.symm
 obtain⟨v',h1,h2⟩:=AR.get h (i:=0) rfl;refine⟨v',Array.ext (by simpa using hs) fun i i1 i2=>?_,h2⟩;obtain rfl:i=0:=by simp at i2<;>exact i2
 rw[aI i1]at h1;exact Option.some.inj h1
theorem AR.bh9{u v z:af}{x':Array af}(h:AR (fun f=>S f=true) ρ #[u,v,z] x'):∃u' v' z',x'=#[u',v',z']/\VR (fun f=>S f=true) ρ u u'/\VR (fun f=>S f=true) ρ v v'/\VR (fun f=>S f=true) ρ z z':=by
 have hs:x'.size=3:=by simpa using h.1.symm
 obtain⟨u',a1,a2⟩:=AR.get h (i:=0) rfl;obtain⟨v',b1,b2⟩:=AR.get h (i:=1) rfl;obtain⟨z',c1,c2⟩:=AR.get h (i:=2) rfl;refine⟨u',v',z',Array.ext (by simpa using hs) fun i i1 i2=>?_,a2,b2,c2⟩;rw[aI (by omega)]at a1 b1 c1;have hi:i<3:=by omega
 match i,hi with
 |0,_=>exact Option.some.inj a1
 |1,_=>exact Option.some.inj b1
 |2,_=>exact Option.some.inj c1
theorem aw2{t n:Int}{g k c:Nat}{x':Array af}(h:AR (fun f=>S f=true) ρ (gH t n (.slice (some ⟨g,0,none⟩) k c)) x'):∃g',ρ g=some g'/\x'=gH t n (.slice (some ⟨g',0,none⟩) k c):=by
 obtain⟨v',h1,h2⟩:=AR.get h (i:=2) rfl;obtain⟨g',e1,rfl⟩:=h2.yQ;refine⟨g',e1,Array.ext (by have:=h.1;simpa [gH]using this.symm) fun i i1 i2=>?_⟩;have hi:i<16:=by simpa [gH]using i2
 have hv:=fun v=>h.2 i v x'[i];rw[aI i1]at hv;match i,hi with
 |0,_=>exact kY (hv _ rfl rfl) (by simp[fJ,jk,gH])
 |1,_=>exact kY (hv _ rfl rfl) (by simp[fJ,jk,gH])
 |2,_=>rw[aI i1]at h1;exact Option.some.inj h1
 |3,_=>exact kY (hv _ rfl rfl) (by simp[fJ,jk,gH])
 |4,_=>exact kY (hv _ rfl rfl) (by simp[fJ,jk,gH])
 |5,_=>exact kY (hv _ rfl rfl) (by simp[fJ,jk,gH])
 |6,_=>exact kY (hv _ rfl rfl) (by simp[fJ,jk,gH])
 |7,_=>exact kY (hv _ rfl rfl) (by simp[fJ,jk,gH])
 |8,_=>exact kY (hv _ rfl rfl) (by simp[fJ,jk,gH])
 |9,_=>exact kY (hv _ rfl rfl) (by simp[fJ,jk,gH])
 |10,_=>exact kY (hv _ rfl rfl) (by simp[fJ,jk,gH])
 |11,_=>exact kY (hv _ rfl rfl) (by simp[fJ,jk,gH])
 |12,_=>exact kY (hv _ rfl rfl) (by simp[fJ,jk,gH])
 |13,_=>exact kY (hv _ rfl rfl) (by simp[fJ,jk,gH])
 |14,_=>exact kY (hv _ rfl rfl) (by simp[fJ,jk,gH])
 |15,_=>exact kY (hv _ rfl rfl) (by simp[fJ,jk,gH])
 |i+16,hi=>omega
theorem AR.made{z:af}{n:Nat}{x':Array af}(h:AR (fun f=>S f=true) ρ (madeCells #[z] n) x')(hp:fJ 4 z=true/\jk 4 z=true):x'=madeCells #[z] n:=h.plain fun i v hv=>by
 have hk:i<n:=by have:=(Array.getElem?_eq_some_iff.1 hv).1;rw[size_madeCells]at this;exact this
 rw[vk _ hk]at hv;cases hv;exact hp
theorem HR.X8(h:HR G (fun f=>S f=true) ro ρ s w){b c:Nat}(hρ:ρ b=some c)(hro:ro b=.all){i:Nat}{v:af}(hc:s.cell? ⟨b,i,none⟩=some v):∃C C' e,s.heap[b]?=some (.cells C e (0,0))/\w.heap[c]?=some (.cells C' e (0,0))/\AR (fun f=>S f=true) ρ C C':=by
 obtain⟨o,o',h1,h2,h3⟩:=h.row b c hρ;rw[hro]at h3;cases h3 with
 |cells k3 k4 k5 k6=>
  obtain⟨e1,e2⟩:=k5 rfl;subst e2;exact⟨_,_,_,h1,h2,e1,fun i v v' a b=>by obtain⟨z,hz,hr⟩:=k4 i v a;rw[hz]at b;cases b;exact hr⟩
 |number h _=>simp[bN,h1]at hc
end
end
theorem pl2{a b:af}(ha:fJ 4 a=true/\jk 4 a=true)(hb:fJ 4 b=true/\jk 4 b=true)(i:Nat)(v:af)(hv:(#[a,b]:Array af)[i]?=some v):fJ 4 v=true/\jk 4 v=true:=by
 match i,hv with
 |0,hv=>cases hv;exact ha
 |1,hv=>cases hv;exact hb
 |i+2,hv=>simp at hv
theorem pl1{a:af}(ha:fJ 4 a=true/\jk 4 a=true)(i:Nat)(v:af)(hv:(#[a]:Array af)[i]?=some v):fJ 4 v=true/\jk 4 v=true:=by
 match i,hv with
 |0,hv=>cases hv;exact ha
 |i+1,hv=>simp at hv
theorem PD{q:iU}{md:Nat->Option Md}{st st':St eH}{ρ:Nat->Option Nat}{s:ae}{a a':Act}{X:Nat->Prop}{τ:Tape}{d:Nat}{K:List (Nat×Obj)}{t n:Int}{cs:List Int}{l:List Cm}{msg:ByteArray}{bS oS cap nmd:Nat}{nv:Nat->Int}
  (hmd:∀b m,md b=some m->b<st.w.heap.size){sw:ae}(hsw:sw.heap.size=st.w.heap.size)(hH:HR q.P.globals.size (fun f=>aS f=true) (tQ md) ρ s st'.w)(hV:U2 q (tQ md) X st ρ st')(ha:AR (fun f=>aS f=true) ρ a.tmps a'.tmps)(hS:md bS=some (.read nmd))(M:AgM cs l msg n (jR (gI l (cs.getD 0 0) msg) (cs.getD 0 0) msg) nv)(h2:2<=l.length)
  (hp:ax2 t n cs l msg (some ⟨bS,oS,none⟩) l.length cap sw a (World.on s τ d))(sh:∃ob,(bS,ob)∈K/\∀(w:ae) (k:Nat),w.heap[bS]?=some ob->k<l.length->w.cell? ⟨bS,oS+k,none⟩=some (.int .u64 (nv k)))(hcap:l.length<=cap)(hKB:∀b o,(b,o)∈K->b<st.w.heap.size):
  ∃b8 kx fR kT b16 fV Gb gc Pb lb Rb Zb Wg ji Cg Cl eL,oP q st' K cs l msg t n (gI l (cs.getD 0 0) msg) (jR (gI l (cs.getD 0 0) msg) (cs.getD 0 0) msg) nv a'.tmps st.w.heap.size b8 kx fR kT b16 fV Gb gc Pb lb Rb Zb Wg ji bS oS cap Cg Cl eL:=by
 have zJ:∀b,st.w.heap.size<=b->tQ md b=.all:=fun b hb=>by
  unfold tQ;cases hm:md b with
  |none=>rfl
  |some m=>
   have:=hmd b m hm
   omega
 obtain⟨p0,pst,psz,b8,kx,fR,kT,b16,fV,Gb,Pb,gc,lb,Rb,Zb,Wg,ji,⟨t3,t8,t9,t10,t11,t13,t14,t15,t16,t17,t18,tu⟩,pge,sN,CS,jO,Gz,jN,jM,mV,kO,ow,kC,nj,nI,Ao⟩:=hp;simp only[aM,bB,or_false,forall_eq_or_imp,forall_eq,hsw]at pge;obtain⟨g8,g11,g13,g15,g16,g17,gG,gP,ggc,glb,gR,gZ,gW⟩:=pge;obtain⟨v3,u3,r3⟩:=ha.sl t3;obtain⟨cS,eS,rfl⟩:=r3.yQ;obtain rfl:bS=cS:=(hV.2.2.2.2 bS cS eS).2.2 nmd (by unfold tQ;rw[hS];rfl);have bf9:=pl2 (a:=.int .u64 0) (b:=.int .u64 0) (by simp[fJ,jk]) (by simp[fJ,jk]);have bg0:=pl2 (a:=.int .u64 0) (b:=.int .u32 0) (by simp[fJ,jk]) (by simp[fJ,jk]);have aH2:=pl1 (a:=.int .u64 (jR (gI l (cs.getD 0 0) msg) (cs.getD 0 0) msg)) (by simp[fJ,jk]);obtain⟨v8,u8,r8⟩:=ha.sl t8;obtain⟨cb8,eb8,rfl⟩:=r8.D7;obtain⟨v11,u11,r11⟩:=ha.sl t11;obtain⟨br1,au3,rfl⟩:=r11.D7;obtain⟨v13,u13,r13⟩:=ha.sl t13;obtain⟨br0,au2,rfl⟩:=r13.D7;obtain⟨v15,u15,r15⟩:=ha.sl t15;obtain⟨bq9,au1,rfl⟩:=r15.D7;obtain⟨v16,u16,r16⟩:=ha.sl t16;obtain⟨bq8,au0,rfl⟩:=r16.D7;obtain⟨v17,u17,r17⟩:=ha.sl t17;obtain⟨bq7,at7,rfl⟩:=r17.D7;obtain⟨v18,u18,r18⟩:=ha.sl t18;obtain⟨cWg,eWg,rfl⟩:=r18.D7;obtain⟨v9,u9,r9⟩:=ha.sl t9;obtain rfl:=kY r9 (by simp[fJ,jk]);obtain⟨v10,u10,r10⟩:=ha.sl t10;obtain rfl:=kY r10 (by simp[fJ,jk]);obtain⟨v14,u14,r14⟩:=ha.sl t14;obtain rfl:=kY r14 (by simp[fJ,jk]);obtain⟨xb8,Cb8,fb8,VB,Ab8⟩:=hH.mK (zJ b8 (by omega)) sN;rw[eb8]at fb8;cases fb8;obtain rfl:=AR.plain Ab8 (fun i v hv=>bf9 i v hv);obtain⟨bN4,b83,aX0,LU,bw2⟩:=hH.mK (zJ kT (by omega)) Gz;rw[au1]at aX0;cases aX0;obtain rfl:=AR.plain bw2 (fun i v hv=>aH2 i v hv);obtain⟨xWg,CWg,fWg,TS,AWg⟩:=hH.mK (zJ Wg (by omega)) Ao;rw[eWg]at fWg;cases fWg;obtain rfl:=AR.plain AWg (fun i v hv=>bg0 i v hv);obtain⟨bN6,b85,aX2,zn,bw4⟩:=hH.mK (zJ kx (by omega)) CS;rw[au3]at aX2;cases aX2;obtain⟨bO4,rfl,bf6⟩:=AR.Xa bw4;obtain⟨cGb,eGb,rfl⟩:=bf6.D7;obtain⟨bN5,b84,aX1,Ql,bw3⟩:=hH.mK (zJ fR (by omega)) jO;rw[au2]at aX1;cases aX1;obtain⟨bO3,rfl,bf5⟩:=AR.Xa bw3;obtain⟨cPb,ePb,rfl⟩:=bf5.D7;obtain⟨bN3,b82,aW9,Qk,bw1⟩:=hH.mK (zJ b16 (by omega)) jN;rw[au0]at aW9;cases aW9;obtain⟨bO2,rfl,bf4⟩:=AR.Xa bw1;obtain⟨cRb,eRb,rfl⟩:=bf4.yQ;obtain⟨bN2,b81,aW8,Qj,bw0⟩:=hH.mK (zJ fV (by omega)) jM;rw[at7]at aW8;cases aW8;obtain⟨bO1,rfl,bf3⟩:=AR.Xa bw0;obtain⟨cZb,eZb,rfl⟩:=bf3.yQ;obtain⟨xGb,CGb,fGb,hGb,AGb⟩:=hH.mK (zJ Gb (by omega)) mV;rw[eGb]at fGb;cases fGb;obtain⟨cgc,egc,rfl⟩:=aw2 AGb;obtain⟨xPb,CPb,fPb,hPb,APb⟩:=hH.mK (zJ Pb (by omega)) ow;rw[ePb]at fPb;cases fPb;obtain⟨w1,w2,w3,rfl,q1,q2,q3⟩:=AR.bh9 APb;obtain⟨cG2,eG2,rfl⟩:=q1.D7;rw[eGb]at eG2;cases eG2;obtain⟨clb,elb,rfl⟩:=q2.yQ;obtain rfl:=q3.be8;obtain⟨xRb,CRb,fRb,VG,ARb⟩:=hH.mK (zJ Rb (by omega)) nj;rw[eRb]at fRb;cases fRb;obtain rfl:=AR.made ARb (by simp[fJ,jk]);obtain⟨xZb,CZb,fZb,TP,AZb⟩:=hH.mK (zJ Zb (by omega)) nI;rw[eZb]at fZb;cases fZb;obtain rfl:=AR.made AZb (by simp[fJ,jk]);obtain⟨kO1,kO2⟩:=kO;obtain⟨av4,cur,oQ,o1,o2⟩:∃av4 cur,s.heap[gc]?=some (.cells cur 79 (0,0))/\cs.length<=av4/\cur.size=av4/\cur.toList.take cs.length=cs.map (Value.int .u64):=by
  rcases kO2 with⟨x,-⟩|⟨g,cap2,cur,hx,y1,y2,y3,y4,y5,y6⟩
  ·cases x
  ·cases hx;exact⟨_,cur,y2,y3,by rw[y5,Nat.mul_one],by rw[Nat.mul_one]at y6;exact y6⟩
 obtain⟨o2,o3⟩:=o2;obtain⟨xgc,Cgc,fgc,hgc,Agc⟩:=hH.mK (zJ gc (by omega)) oQ;rw[egc]at fgc;cases fgc;have gk:∀j,j<cs.length->Cgc[j]?=some (.int .u64 (cs.getD j 0)):=fun j hj=>by
  have h1:cur[j]?=some (.int .u64 (cs.getD j 0)):=by
   have h1:(cur.toList.take cs.length)[j]?=cur[j]?:=by rw[List.getElem?_take,if_pos hj,Array.getElem?_toList]
   rw[o3]at h1;rw[<-h1,List.getElem?_map,aN hj];simp[aC,hj]
  obtain⟨v',z1,z2⟩:=Agc.get h1;rw[z1];cases z2;rfl
 obtain⟨-,Ax,cx,hx,-,hcells⟩:=kC;cases hx;obtain⟨bx,ox,hx,-,hcells⟩:=hcells (by omega);cases hx;have hat:∀j u,(eO l)[j]?=some u->(World.on s τ d).cell? ⟨lb,j,none⟩=some u:=fun j u hu=>by have:=hcells j u hu;rwa [cZ]at this
 have hl0:=Aa l 0 (by omega);obtain⟨a51,Clb,eL,Vx,hlb,Alb⟩:=hH.X8 elb (zJ lb (by omega)) (show s.cell? ⟨lb,0,none⟩=some _ from hat _ _ hl0.1);have lk:∀j u,(eO l)[j]?=some u->Clb[j]?=some u:=fun j u hu=>by
  have h1:=hat j u hu;have h2:a51[j]?=some u:=by
   have:(World.on s τ d).cell? ⟨lb,j,none⟩=a51[j]?:=by
    show s.cell? ⟨lb,j,none⟩=_;simp[bN,Vx]
   rw[<-this];exact h1
  obtain⟨v',z1,z2⟩:=Alb.get h2;rw[z1];have hm:=cj hu;simp only[eO,List.mem_flatMap]at hm;obtain⟨cm,_,hm⟩:=hm;simp only[Cm.cells,aM,bB,or_false]at hm;rcases hm with rfl|rfl|rfl<;>(cases z2;rfl)
 have l0:=lk _ _ hl0.1;have l1:=lk _ _ hl0.2.1;simp only[Nat.zero_mul,cZ]at l0 l1;obtain⟨nb8,ob8,db8⟩:=jv hV eb8 (zJ b8 (by omega)) (by omega);obtain⟨bh7,bg6,bq6⟩:=jv hV au3 (zJ kx (by omega)) (by omega);obtain⟨bh6,bg5,X4⟩:=jv hV au2 (zJ fR (by omega)) (by omega);obtain⟨bh5,bg4,bq5⟩:=jv hV au1 (zJ kT (by omega)) (by omega);obtain⟨bh4,bg3,X3⟩:=jv hV au0 (zJ b16 (by omega)) (by omega);obtain⟨bh3,bg2,XZ⟩:=jv hV at7 (zJ fV (by omega)) (by omega);obtain⟨nGb,oGb,dGb⟩:=jv hV eGb (zJ Gb (by omega)) (by omega);obtain⟨ngc,ogc,dgc⟩:=jv hV egc (zJ gc (by omega)) (by omega);obtain⟨nPb,oPb,dPb⟩:=jv hV ePb (zJ Pb (by omega)) (by omega);obtain⟨nlb,olb,dlb⟩:=jv hV elb (zJ lb (by omega)) (by omega);obtain⟨nRb,oRb,dRb⟩:=jv hV eRb (zJ Rb (by omega)) (by omega);obtain⟨nZb,oZb,dZb⟩:=jv hV eZb (zJ Zb (by omega)) (by omega);obtain⟨nWg,oWg,dWg⟩:=jv hV eWg (zJ Wg (by omega)) (by omega);refine⟨cb8,br1,br0,bq9,bq8,bq7,cGb,cgc,cPb,clb,cRb,cZb,cWg,ji,Cgc,Clb,eL,ha.1 ▸ psz,u3,u8,u9,u10,u11,u13,u14,u15,u16,u17,u18,fun i hi=>?_,VB,zn,Ql,LU,Qk,Qj,hGb,hgc,hPb,hlb,VG,TP,TS,⟨?_,gk⟩,⟨?_,fun j u _ hu=>lk j u hu⟩,?_,?_,?_,?_,?_,?_,sh,hcap,hKB⟩
 ·obtain⟨v,z1,z2⟩:=ha.sl (tu i hi);rw[z1,z2.ac3]
 ·rw[<-Agc.1,o2];exact o1
 ·rcases bA Clb.size (3*l.length)with hlt|h
  ·have hlen:=gF l;have h3:=lk (3*l.length-1) _ (aN (by omega));have:=(Array.getElem?_eq_some_iff.1 h3).1
   omega
  ·exact h
 ·exact kM LU TP 1 (fun e=>by rw[vk _ (by omega)]at e;cases e)
 ·intro b hb;simp only[aM,bB,or_false]at hb;rcases hb with rfl|rfl|rfl|rfl|rfl|rfl|rfl|rfl|rfl|rfl|rfl|rfl
  ·exact kM hlb VB 0 (by rw[l0];simp)
  ·exact kM hlb zn 0 (by rw[l0];simp)
  ·exact kM hlb Ql 0 (by rw[l0];simp)
  ·exact kM hlb LU 0 (by rw[l0];simp)
  ·exact kM hlb Qk 0 (by rw[l0];simp)
  ·exact kM hlb Qj 0 (by rw[l0];simp)
  ·exact kM hlb hGb 1 (by rw[l1];simp[gH])
  ·exact kM hlb hgc 0 (by rw[l0,gk 0 M.c0];simp)
  ·exact kM hlb hPb 0 (by rw[l0];simp)
  ·exact kM hlb VG 0 (by rw[l0,vk _ (by omega)];simp)
  ·exact kM hlb TP 0 (by rw[l0,vk _ (by omega)];simp)
  ·exact kM hlb TS 0 (by rw[l0];simp)
 ·intro b hb;simp only[aM,bB,or_false]at hb;rcases hb with rfl|rfl|rfl|rfl|rfl|rfl|rfl|rfl|rfl|rfl|rfl|rfl|rfl
  ·exact(hH.low _ _ eb8).2
  ·exact(hH.low _ _ au3).2
  ·exact(hH.low _ _ au2).2
  ·exact(hH.low _ _ au1).2
  ·exact(hH.low _ _ au0).2
  ·exact(hH.low _ _ at7).2
  ·exact(hH.low _ _ eGb).2
  ·exact(hH.low _ _ egc).2
  ·exact(hH.low _ _ ePb).2
  ·exact(hH.low _ _ elb).2
  ·exact(hH.low _ _ eRb).2
  ·exact(hH.low _ _ eZb).2
  ·exact(hH.low _ _ eWg).2
 ·intro b hb;simp only[aM,bB,or_false]at hb;rcases hb with rfl|rfl|rfl|rfl|rfl|rfl|rfl|rfl|rfl|rfl|rfl|rfl|rfl
  ·exact nb8
  ·exact bh7
  ·exact bh6
  ·exact bh5
  ·exact bh4
  ·exact bh3
  ·exact nGb
  ·exact ngc
  ·exact nPb
  ·exact nlb
  ·exact nRb
  ·exact nZb
  ·exact nWg
 ·intro b hb;simp only[aM,bB,or_false]at hb;rcases hb with rfl|rfl|rfl|rfl|rfl|rfl|rfl|rfl|rfl|rfl|rfl|rfl|rfl
  ·exact db8
  ·exact bq6
  ·exact X4
  ·exact bq5
  ·exact X3
  ·exact XZ
  ·exact dGb
  ·exact dgc
  ·exact dPb
  ·exact dlb
  ·exact dRb
  ·exact dZb
  ·exact dWg
 ·intro b hb off;simp only[aM,bB,or_false]at hb;rcases hb with rfl|rfl|rfl|rfl|rfl|rfl|rfl|rfl|rfl|rfl|rfl|rfl|rfl
  ·exact ob8 _ rfl rfl
  ·exact bg6 _ rfl rfl
  ·exact bg5 _ rfl rfl
  ·exact bg4 _ rfl rfl
  ·exact bg3 _ rfl rfl
  ·exact bg2 _ rfl rfl
  ·exact oGb _ rfl rfl
  ·exact ogc _ rfl rfl
  ·exact oPb _ rfl rfl
  ·exact olb _ rfl rfl
  ·exact oRb _ rfl rfl
  ·exact oZb _ rfl rfl
  ·exact oWg _ rfl rfl
section
def Vk(t n:Int)(cs:List Int)(l:List Cm)(msg:ByteArray)(ns:Nat)(nv:Nat->Int)(num:Nat)(K:List (Nat×Obj))(v:af)(st:St eH):Prop:=
 (ml t n cs l msg ns≠0/\v=J7 (ml t n cs l msg ns)/\kH 0 num K st)\/
 (ml t n cs l msg ns=0/\yK (gI l (cs.getD 0 0) msg) ((bq l.length).map nv) (fT (fun k=>iB (nv k) (jR (gI l (cs.getD 0 0) msg) (cs.getD 0 0) msg) cs l msg k) l l.length) (num+l.length) K v st)
theorem Z9{t n:Int}{cs:List Int}{l:List Cm}{msg:ByteArray}{ns:Nat}(h0:ml t n cs l msg ns=0):ns=l.length:=by
 unfold ml at h0;split at h0
 ·cases h0
 split at h0
 ·rename_i h2;exact absurd h0 h2
 split at h0
 ·cases h0
 rename_i h3;simpa using h3
theorem Sh.mono{q:iU}{S:ak->Bool}{Ds:Nat->Bool}{ro:Nat->Md}{X:Nat->Prop}{fK st:St eH}{Φ Φ':Act->ae->Prop}{a':Act}(h:Sh q S Ds ro X fK Φ a' st)(hm:∀a w,Φ a w->Φ' a w):Sh q S Ds ro X fK Φ' a' st:=by
 obtain⟨ρ,a,s,h1,h2,h3,h4,h5,h6,τ,d,h7⟩:=h;exact⟨ρ,a,s,h1,h2,h3,h4,h5,h6,τ,d,hm _ _ h7⟩
theorem Ky:(iw 12 ky).1.all (codeOk dS aS Ak)=true:=by kernel_rfl
theorem L8(x:Int):fJ 4 (J7 x)=true/\jk 4 (J7 x)=true:=by simp[J7,fJ,jk]
theorem aw8(t n:Int)(vg Gy:af)(msg:ByteArray)(sA:Option Addr)(ns cap:Nat):#[.agg #[.int .i64 t,.int .i64 n,vg],.string msg,Gy,.slice sA ns cap]++bO (107-4) av=#[.agg #[.int .i64 t,.int .i64 n,vg],.string msg,Gy,.slice sA ns cap,av,av,av,av,av,av,av,av,av,av,av,av,av,av,av,av,av,av,av,av,av,av,av,av,av,av,av,av,av,av,av,av,av,av,av,av,av,av,av,av,av,av,av,av,av,av,av,av,av,av,av,av,av,av,av,av,av,av,av,av,av,av,av,av,av,av,av,av,av,av,av,av,av,av,av,av,av,av,av,av,av,av,av,av,av,av,av,av,av,av,av,av,av,av,av,av,av,av,av,av,av,av,av]:=by kernel_rfl
theorem Yb{S:ak->Bool}{ρ:Nat->Option Nat}{x:Array af}{m:Nat}(h:AR (fun f=>S f=true) ρ x x):AR (fun f=>S f=true) ρ (nH Ak (x++bO m av)) (nH Ak (x++bO m av)):=by
 refine Mi rfl fun i v v' _ h1 h2=>?_;rw[Array.getElem?_append]at h1 h2;split at h1
 ·rename_i hlt;rw[if_pos hlt]at h2;exact h.2 i v v' h1 h2
 ·rename_i hlt;rw[if_neg hlt]at h2;obtain⟨z1,z2⟩:=Array.getElem?_eq_some_iff.1 h1;obtain⟨z3,z4⟩:=Array.getElem?_eq_some_iff.1 h2;rw[Array.getElem_replicate]at z2 z4;subst z2 z4;exact VR.undef
section
variable{q:iU}(hP:q.P=dS)
include hP
theorem aa0{st:St eH}{num:Nat}{K:List (Nat×Obj)}(hA:kH 0 num K st)(hI:Inv q st)(hG:q.tG=137)(hZ:q.tZ=76)(hR:q.tR=4)(hW:q.tW=116)
  {md:Nat->Option Md}{sw:ae}(hsw:sw.heap.size=st.w.heap.size)(hmd:∀b m,md b=some m->b<st.w.heap.size)(aQ0:∀{Φ:Act->ae->Prop} {a a':Act},AR (fun f=>aS f=true) (zi md) (nH Ak a.tmps) (nH Ak a'.tmps)->a.defers=[]->a'.defers=[]->Φ a (World.on sw st.w.tape st.w.drawn)->Sh q aS Ak (tQ md) (fun _=>False) st Φ a' st){t n:Int}{vg Gy:af}{sA:Option Addr}{ns cap:Nat}{cs:List Int}{l:List Cm}{msg:ByteArray}{nv:Nat->Int}
  (har:AR (fun f=>aS f=true) (zi md) #[.agg #[.int .i64 t,.int .i64 n,vg],.string msg,Gy,.slice sA ns cap] #[.agg #[.int .i64 t,.int .i64 n,vg],.string msg,Gy,.slice sA ns cap])
  (hv:gA .u64 sw sw.heap.size vg cs)(hcb:∀i,i<cs.length->0<=cs.getD i 0)(hcl:cs.length<=65536)(hC:lU sw sw.heap.size Gy l)(hll:l.length<=65536)(hb:∀i,i<l.length->0<=(l.getD i .zero).d/\0<=(l.getD i .zero).e)(hns:ns<=65536)(rH:msg.size<=1000000)
  (hsh:0<ns->∃bS oS nmd,sA=some ⟨bS,oS,none⟩/\md bS=some (.read nmd)/\∃ob,(bS,ob)∈K/\∀(w:ae) (k:Nat),w.heap[bS]?=some ob->k<ns->w.cell? ⟨bS,oS+k,none⟩=some (.int .u64 (nv k)))(hcap:ns<=cap)(hnb:∀k,k<ns->0<=nv k/\nv k<18446744073709551616)
  {c:ai}{bs:List ai}(fin:∀v st',Vk t n cs l msg ns nv num K v st'->Inv q st'->TT (cfg q) 0 (TW (cfg q)) (G (c.finish v) bs) st'):
  TT (cfg q) 0 (TW (cfg q)) (G (Frame.enter dS 27 #[.agg #[.int .i64 t,.int .i64 n,vg],.string msg,Gy,.slice sA ns cap] .normal) (c::bs)) st:=by
 have hfn:Try.prog.funcs[(base 27).fn]?=some Try.f27:=Try.func27;have e0:Frame.enter dS 27 #[.agg #[.int .i64 t,.int .i64 n,vg],.string msg,Gy,.slice sA ns cap] .normal=(base 27).at ⟨#[.agg #[.int .i64 t,.int .i64 n,vg],.string msg,Gy,.slice sA ns cap]++bO (107-4) av,[]⟩ [.code ky]:=by
  rw[enter_at (P:=dS) (c:=ky) _ Try.func27 rfl];rfl
 rw[e0];have hKB:∀b o,(b,o)∈K->b<st.w.heap.size:=fun b o h=>lt_of_block (hA.fz b o h).1;have hmk:Sh q aS Ak (tQ md) (fun _=>False) st (wpT dS (ax2 t n cs l msg sA ns cap sw) (a02 t n cs l msg ns sw) (iw 12 ky).1) ⟨#[.agg #[.int .i64 t,.int .i64 n,vg],.string msg,Gy,.slice sA ns cap]++bO (107-4) av,[]⟩ st:=by
  refine aQ0 (a:=⟨#[.agg #[.int .i64 t,.int .i64 n,vg],.string msg,Gy,.slice sA ns cap]++bO (107-4) av,[]⟩) (a':=⟨#[.agg #[.int .i64 t,.int .i64 n,vg],.string msg,Gy,.slice sA ns cap]++bO (107-4) av,[]⟩) (Yb har) rfl rfl ?_;have:=bf7 (w:=World.on sw st.w.tape st.w.drawn) (t:=t) (n:=n) (sA:=sA) (cap:=cap) (msg:=msg) hv hcb hcl hC hll hb hns rH
  rw[aw8];exact this
 have hpc:=TT.pieces (k:=[]) (T:=(iw 12 ky).2) (cst:=c::bs) (Ch:=TW (cfg q)) hP OW hI (b:=base 27) rfl (fun fn h=>wO fn h) ?_ ?_ (iw 12 ky).1 (fun c hc=>List.all_eq_true.1 Ky c hc) _ _ hmk
 ·rw[rN]at hpc;exact hpc
 ·intro wJ st' hs;obtain⟨ρ,a,s,ha,hd,hd',hH,hV,hro,τ,d,hp⟩:=hs;have hA':kH 0 num K st':=hA.mn hV.2.2.2.1 fun _ _ _ h=>h;have p0:=hp.1;obtain rfl:=Z9 p0;obtain⟨M,-,h2⟩:=br8 p0 rH hnb;obtain⟨bS,oS,nmd,rfl,hS,sh⟩:=hsh (by omega);rw[uJ,uJ]at ha;obtain⟨b8,kx,fR,kT,b16,fV,Gb,gc,Pb,lb,Rb,Zb,Wg,ji,Cg,Cl,eL,D⟩:=PD hmd hsw hH hV ha hS M h2 hp sh hcap hKB;obtain⟨T,df⟩:=wJ;obtain rfl:df=[]:=hd';exact au9 hP D M hA' hV.2.1 hG hZ hR hW fun v Vn h hi=>fin v Vn (.inr ⟨p0,h⟩) hi
 ·intro wJ st' todo hs;refine TT.ret (R:=fun v w=>ml t n cs l msg ns≠0/\v=J7 (ml t n cs l msg ns)) hP OW hI rfl hfn (wO _ hfn) (hs.mono fun a w h=>⟨_,h.2.1,h.1,rfl⟩) fun v v' ρ s Vn hH hV hv' hR=>?_;obtain⟨τ,d,hE,rfl⟩:=hR;obtain rfl:=kY hv' (L8 _);exact fin _ Vn (.inl ⟨hE,rfl,hA.mn hV.2.2.2.1 fun _ _ _ h=>h⟩) hV.2.1
end
end
end Cc
namespace Cc
open Go.Conc Go.ConcN
open Go.ConcM (OsLater)
section
section
variable{q:iU}{dm num:Nat}{K:List (Nat×Obj)}{Ch:Nat->ah->St eH->Prop}{P:au}(hP:q.P=P){b:ai}{a:Act}{kk:List Item}{cs:List ai}{ops:Array Oper}{j:Nat}{rest:List Nat}{o:Oper}
theorem kH.keeps{st:St eH}(h:kH dm num K st){w':ae}(hw:∀b,b<st.w.heap.size->w'.heap[b]?=st.w.heap[b]?):DL st w' K:=fun b o hb=>by
 obtain⟨h1,h2⟩:=h.fz b o hb;exact⟨(hw b (lt_of_block h1)).trans h1,h2.imp id .inl,h.nd b o hb⟩
include hP
theorem TT.RO{st:St eH}(hA:kH dm num K st){t:aj}{ob:Obj}(ho:ops[j]?=some o)(hw:bg o (yielded ops a.tmps)=true)(hk:b.kind≠ .early)(hop:o.op=.alloc t)
  (hf:∀w:ae,(dw t true (.tuple #[])).run P w=.ok (.pointer (some ⟨w.heap.size,0,none⟩)) (w.alloc ob)/\(dw t true (.tuple #[])).events P w #[]=#[])
  (h:∀dZ bl,kH dm num ((bl,ob)::K) dZ->Inv q dZ->(∀l,st.γ.ex 0 l->dZ.γ.ex 0 l)->(∀off,dZ.γ.ex 0 (ca bl off))->(∀b o,(b,o)∈K->b≠bl)->(∀l b,st.γ.ex 0 l->im l=some b->b≠bl)->TT (cfg q) 0 Ch (G (b.at (a.put o.dst (.pointer (some ⟨bl,0,none⟩))) (.inRegion ops rest::kk)) cs) dZ):TT (cfg q) 0 Ch (G (b.at a (.inRegion ops (j::rest)::kk)) cs) st:=by
 refine TT.ad6 hP hA fun dV hr dY hi=>?_;have hsz:(dV.w.alloc ob).heap.size=dV.w.heap.size+1:=Array.size_push ..;have hold:∀b,b<dV.w.heap.size->(dV.w.alloc ob).heap[b]?=dV.w.heap[b]?:=fun b hb=>(cY ..).trans (if_neg (by omega));have hnew:(dV.w.alloc ob).heap[dV.w.heap.size]?=some ob:=(cY ..).trans (if_pos rfl);refine⟨_,_,_,(dV.w.heap.size,ob)::K,DF ho hw hk hop (hf dV.w),rfl,⟨by omega,fun e he=>by simp at he,rfl,rfl,fun b hb=>.inl (hold b hb)⟩,fun b o' hb=>?_,fun dZ _ eu eN hex hnw=>h dZ _ eu eN (fun l hl=>hex l (hr.ex (.inl rfl) l hl)) (fun off=>hnw _ off nle (by omega)) (fun b o' hb e=>?_) fun l b hl hb e=>?_⟩
 ·rcases List.mem_cons.1 hb with e|hb
  ·cases e;exact⟨hnew,.inr (.inr nle),fun hd=>by have:=hi.base.dead _ hd;omega⟩
  ·exact(dY.keeps hold) b o' hb
 ·have:=lt_of_block (dY.fz _ _ hb).1
  omega
 ·have:=hi.base.tr.FI.low 0 l (hr.ex (.inl rfl) l hl) b hb
  omega
end
end
section
theorem Lc{P:au}{main:Bool}{b:ai}{a:Act}{kk:List Item}{cs:List ai}{w:ae}{ops:Array Oper}{i:Nat}{rest:List Nat}{o:Oper}{t:aj}{x:Operand}{ad:Addr}{v:af}(ho:ops[i]?=some o)(hw:bg o (yielded ops a.tmps)=true)(hk:b.kind≠ .early)(hop:o.op=.load t x)(hx:a.eval x=.pointer (some ad))
  {F:Event->Prop}(h:(aT t (.pointer (some ad))).run P w=.ok v w/\∀e∈(aT t (.pointer (some ad))).events P w #[],F e):
  stepG P main (G (b.at a (.inRegion ops (i::rest)::kk)) cs) w=.go (G (b.at (a.put o.dst v) (.inRegion ops rest::kk)) cs) w (listed P b.fn a o w)/\∀e∈listed P b.fn a o w,F e:=by
 have hr:(ax a.eval o).run P w=.ok (.value v) w:=by
  unfold ax;simp only[hop,hx];simp[h.1]
 have he:(ax a.eval o).events P w #[]=(aT t (.pointer (some ad))).events P w #[]:=by
  unfold ax;simp only[hop,hx];simp[h.1]
 refine⟨stepG_value ho hw hk hr,fun e hm=>h.2 e ?_⟩;have:=mem_listed hm
 rwa [he]at this
theorem Ie{P:au}{main:Bool}{b:ai}{a:Act}{kk:List Item}{cs:List ai}{w w':ae}{ops:Array Oper}{i:Nat}{rest:List Nat}{o:Oper}{t:aj}{x y:Operand}{ad:Addr}{v:af}(ho:ops[i]?=some o)(hw:bg o (yielded ops a.tmps)=true)(hk:b.kind≠ .early)(hop:o.op=.store t x y)(hx:a.eval x=.pointer (some ad))(hy:a.eval y=v)
  {F:Event->Prop}(h:(bJ t (.pointer (some ad)) v).run P w=.ok () w'/\∀e∈(bJ t (.pointer (some ad)) v).events P w #[],F e):
  stepG P main (G (b.at a (.inRegion ops (i::rest)::kk)) cs) w=.go (G (b.at (a.put o.dst av) (.inRegion ops rest::kk)) cs) w' (listed P b.fn a o w)/\∀e∈listed P b.fn a o w,F e:=by
 have hr:(ax a.eval o).run P w=.ok .skip w':=by
  unfold ax;simp only[hop,hx,hy];simp[h.1]
 have he:(ax a.eval o).events P w #[]=(bJ t (.pointer (some ad)) v).events P w #[]:=by
  unfold ax;simp only[hop,hx,hy];simp
 refine⟨stepG_none ho hw hk hr,fun e hm=>h.2 e ?_⟩;have:=mem_listed hm
 rwa [he]at this
section
variable{q:iU}{dm num:Nat}{K:List (Nat×Obj)}{Ch:Nat->ah->St eH->Prop}{P:au}(hP:q.P=P){b:ai}{a:Act}{kk:List Item}{cs:List ai}{ops:Array Oper}{j:Nat}{rest:List Nat}{o:Oper}
include hP
theorem TT.RL{st:St eH}(hA:kH dm num K st){t:aj}{y:Operand}{bl off:Nat}{v:af}{ob:Obj}(ho:ops[j]?=some o)(hw:bg o (yielded ops a.tmps)=true)(hk:b.kind≠ .early)(hop:o.op=.load t y)(hy:a.eval y=.pointer (some ⟨bl,off,none⟩))(hK:(bl,ob)∈K)
  (hf:∀w:ae,w.heap[bl]?=some ob->(aT t (.pointer (some ⟨bl,off,none⟩))).run P w=.ok v w/\∀e∈(aT t (.pointer (some ⟨bl,off,none⟩))).events P w #[],∃off',e=⟨.cell ⟨bl,off',none⟩,false,false⟩)
  (h:∀dZ,kH dm num K dZ->Inv q dZ->(∀l,st.γ.ex 0 l->dZ.γ.ex 0 l)->TT (cfg q) 0 Ch (G (b.at (a.put o.dst v) (.inRegion ops rest::kk)) cs) dZ):TT (cfg q) 0 Ch (G (b.at a (.inRegion ops (j::rest)::kk)) cs) st:=by
 refine TT.ad6 hP hA fun dV hr dY hi=>?_;obtain⟨f1,f2⟩:=dY.fz _ _ hK;obtain⟨s1,s2⟩:=Lc (P:=P) (main:=(0:Nat)==0) (cs:=cs) (kk:=kk) (rest:=rest) ho hw hk hop hy (hf dV.w f1);refine⟨_,_,_,K,s1,rfl,⟨aH _,fun e he=>?_,rfl,rfl,fun _ _=>.inl rfl⟩,dY.keeps fun _ _=>rfl,fun dZ _ eu eN hex _=>h dZ eu eN fun l hl=>hex l (hr.ex (.inl rfl) l hl)⟩;obtain⟨off',he'⟩:=s2 e he;exact⟨bl,off',false,he',lt_of_block f1,fun s' hs'=>(by rw[dY.sc]at hs';cases hs'),f2.elim (fun f=>.inl (f off')) fun f=>.inr (.inl ⟨rfl,f off'⟩)⟩
theorem TT.MH{st:St eH}(hA:kH dm num K st){K':List (Nat×Obj)}{t:aj}{y z:Operand}{bl off:Nat}{v:af}{ob ob':Obj}(ho:ops[j]?=some o)(hw:bg o (yielded ops a.tmps)=true)(hk:b.kind≠ .early)(hop:o.op=.store t y z)(hy:a.eval y=.pointer (some ⟨bl,off,none⟩))(hz:a.eval z=v)(hK:(bl,ob)∈K)
  (hex:∀off,st.γ.ex 0 (ca bl off))(hK':∀b o,(b,o)∈K'->(b=bl/\o=ob')\/(b≠bl/\(b,o)∈K))
  (hf:∀(w:ae),w.heap[bl]?=some ob->∃w',((bJ t (.pointer (some ⟨bl,off,none⟩)) v).run P w=.ok () w'/\∀e∈(bJ t (.pointer (some ⟨bl,off,none⟩)) v).events P w #[],∃off' x,e=⟨.cell ⟨bl,off',none⟩,x,false⟩)/\w'.heap.size=w.heap.size/\w'.os=w.os/\w'.output=w.output/\(∀b,b≠bl->w'.heap[b]?=w.heap[b]?)/\w'.heap[bl]?=some ob')
  (h:∀dZ,kH dm num K' dZ->Inv q dZ->(∀l,st.γ.ex 0 l->dZ.γ.ex 0 l)->TT (cfg q) 0 Ch (G (b.at (a.put o.dst av) (.inRegion ops rest::kk)) cs) dZ):TT (cfg q) 0 Ch (G (b.at a (.inRegion ops (j::rest)::kk)) cs) st:=by
 refine TT.ad6 hP hA fun dV hr dY hi=>?_;obtain⟨f1,f2⟩:=dY.fz _ _ hK;obtain⟨w',hst,w1,w2,w3,w4,w5⟩:=hf dV.w f1;obtain⟨s1,s2⟩:=Ie (P:=P) (main:=(0:Nat)==0) (cs:=cs) (kk:=kk) (rest:=rest) ho hw hk hop hy hz hst;refine⟨_,_,_,K',s1,rfl,⟨Nat.le_of_eq w1.symm,fun e' he=>?_,w2,w3,fun b hb=>?_⟩,fun b o' hb=>?_,fun dZ _ eu eN hx _=>h dZ eu eN fun l hl=>hx l (hr.ex (.inl rfl) l hl)⟩
 ·obtain⟨off',x,he'⟩:=s2 e' he;exact⟨bl,off',x,he',by rw[w1];exact lt_of_block f1,fun s' hs'=>(by rw[dY.sc]at hs';cases hs'),.inl (hr.ex (.inl rfl) _ (hex off'))⟩
 ·by_cases e1:b=bl
  ·subst e1;exact .inr fun off=>hr.ex (.inl rfl) _ (hex off)
  ·exact .inl (w4 b e1)
 ·rcases hK' b o' hb with⟨rfl,rfl⟩|⟨e1,hb'⟩
  ·exact⟨w5,.inl fun off=>hr.ex (.inl rfl) _ (hex off),dY.nd _ _ hK⟩
  ·obtain⟨g1,g2⟩:=dY.fz _ _ hb';exact⟨(w4 b e1).trans g1,g2.imp id .inl,dY.nd _ _ hb'⟩
end
end
end Cc
namespace Cc
open Go.Conc Go.ConcN
theorem VR.ex(v':af):∃v:af,∀(S:ak->Prop) (ρ:Nat->Option Nat),VR S ρ v v':=by
 have key:∀(n:Nat) (v':af),SizeOf.sizeOf v'<=n->∃v:af,∀(S:ak->Prop) (ρ:Nat->Option Nat),VR S ρ v v':=by
  intro n;induction n with
  |zero=>intro v' h;exact absurd h (by cases v'<;>simp<;>omega)
  |succ n ih=>
   intro v' h;have arr:∀x:Array af,SizeOf.sizeOf x<=n->∃y:Array af,y.size=x.size/\∀(S:ak->Prop) (ρ:Nat->Option Nat) (i:Nat) (v v':af),y[i]?=some v->x[i]?=some v'->VR S ρ v v':=fun x hx=>by
    have ih':∀(i:Nat) (h:i<x.size),∃v:af,∀(S:ak->Prop) (ρ:Nat->Option Nat),VR S ρ v x[i]:=fun i h=>ih x[i] (by have:=Array.sizeOf_getElem x i h;omega);refine⟨Array.ofFn fun i:Fin x.size=>Classical.choose (ih' i.1 i.2),by simp,fun S ρ i v v' h1 h2=>?_⟩;obtain⟨hlt,rfl⟩:=Array.getElem?_eq_some_iff.1 h2;obtain⟨h3,rfl⟩:=Array.getElem?_eq_some_iff.1 h1;simp only[Array.getElem_ofFn];exact Classical.choose_spec (ih' i hlt) S ρ
   cases v' with
   |agg x=>
    obtain⟨y,h1,h2⟩:=arr x (by simp at h<;>omega);exact⟨.agg y,fun S ρ=>.agg h1 (h2 S ρ)⟩
   |tuple x=>
    obtain⟨y,h1,h2⟩:=arr x (by simp at h<;>omega);exact⟨.tuple y,fun S ρ=>.tuple h1 (h2 S ρ)⟩
   |bool b=>exact⟨.bool b,fun _ _=>.bool b⟩
   |_=>exact⟨.nilIface,fun _ _=>.junk (by intro x e;cases e) (by intro x e;cases e) (by intro x e;cases e)⟩
 exact key _ v' nle
open Classical in
noncomputable def MP(S:ak->Bool)(md:Nat->Option Md)(v:af):af:=if VR (fun f=>S f=true) (zi md) v v then v else Classical.choose (VR.ex v)
theorem MO(S:ak->Bool)(md:Nat->Option Md)(v:af):VR (fun f=>S f=true) (zi md) (MP S md v) v:=by
 unfold MP;split
 ·assumption
 ·exact Classical.choose_spec (VR.ex v) _ _
theorem Ih{S:ak->Bool}{md:Nat->Option Md}{v:af}(h:VR (fun f=>S f=true) (zi md) v v):MP S md v=v:=by unfold MP;rw[if_pos h]
noncomputable def kA(S:ak->Bool)(w:ae)(md:Nat->Option Md):ae:=
 {w with heap:=Array.ofFn (n:=w.heap.size) fun b=>match md b.1,w.heap[b.1]? with
   |some (.read n),some (.cells C e _)=>.cells ((C.extract 0 n).map (MP S md)) e (0,n)
   |_,_=>.coro none}
theorem mC(S:ak->Bool)(w:ae)(md:Nat->Option Md):(kA S w md).heap.size=w.heap.size:=by simp[kA]
theorem Cj{S:ak->Bool}{w:ae}{md:Nat->Option Md}{b n:Nat}{C:Array af}{e:aj}{fz:Nat×Nat}(hv:md b=some (.read n))(h:w.heap[b]?=some (.cells C e fz)):(kA S w md).heap[b]?=some (.cells ((C.extract 0 n).map (MP S md)) e (0,n)):=by
 have hlt:=lt_of_block h;have he:w.heap[b]=.cells C e fz:=by rw[aI hlt]at h;exact Option.some.inj h
 simp[kA,hlt,hv,he]
theorem K7{S:ak->Bool}{w:ae}{md:Nat->Option Md}{b:Nat}(hv:md b=none):(kA S w md).heap[b]?=none\/∃x,(kA S w md).heap[b]?=some (.coro x):=by
 rcases bA b w.heap.size with h|h
 ·exact .inr ⟨none,by simp[kA,h,hv]⟩
 ·exact .inl (by simp[kA,h])
theorem K8{S:ak->Bool}{w:ae}{md:Nat->Option Md}{b n o:Nat}{v:af}(hm:md b=some (.read n))(ho:o<n)(hc:w.cell? ⟨b,o,none⟩=some v)(hv:VR (fun f=>S f=true) (zi md) v v):(kA S w md).cell? ⟨b,o,none⟩=some v:=by
 have hlt:=World.block_lt_of_cell? w _ hc;have hb:w.heap[b]?=some w.heap[b]:=aI hlt;unfold bN at hc ⊢;rw[hb]at hc;generalize w.heap[b]=ob at hb hc;cases ob with
 |cells C e fz=>
  simp only[Option.isSome_none,Bool.false_eq_true,if_false]at hc;rw[Cj hm hb];simp only[Option.isSome_none,Bool.false_eq_true,if_false];have h1:(C.extract 0 n)[o]?=some v:=by
   rw[dK];have:=(Array.getElem?_eq_some_iff.1 hc).1
   rw[if_pos (by omega),cZ];exact hc
  rw[Array.getElem?_map,h1,Option.map_some,Ih hv]
 |_=>simp at hc
section
variable{q:iU}{S:ak->Bool}
def DK(q:iU)(md:Nat->Option Md)(st:St eH):Prop:=
 ∀b m,md b=some m->q.P.globals.size<=b/\¬st.γ.dead b/\∃C e fz n,st.w.heap[b]?=some (.cells C e fz)/\m=.read n/\n<=C.size/\((∀off,st.γ.rd 0 (ca b off))\/∀off,st.γ.ex 0 (ca b off))
theorem DK.hr{md:Nat->Option Md}{st:St eH}(h:DK q md st)(hi:Inv q st):HR q.P.globals.size (fun f=>S f=true) (tQ md) (zi md) (kA S st.w md) st.w where
 inj:=fun b b' c h1 h2=>(kD h1).1.trans (kD h2).1.symm
 row:=fun b c hb=>by
  obtain⟨rfl,m,hm⟩:=kD hb;obtain⟨-,-,C,e,fz,n,h1,rfl,hn,_⟩:=h b m hm;have hro:tQ md b=.read n:=by simp[tQ,hm]
  refine⟨_,_,Cj hm h1,h1,?_⟩;have hsz:((C.extract 0 n).map (MP S md)).size=n:=by simp<;>omega
  have:OR (fun f=>S f=true) (tQ md b) (zi md) (.cells ((C.extract 0 n).map (MP S md)) e (0,(tQ md b).hi ((C.extract 0 n).map (MP S md)).size)) (.cells C e fz):=by
   refine .cells (by rw[hsz];exact hn) (fun k v hk=>?_) (fun x=>by rw[hro]at x;cases x) (fun m hm=>by rw[hro]at hm;cases hm;exact hsz);rw[Array.getElem?_map,Option.map_eq_some_iff]at hk;obtain⟨u,hk,rfl⟩:=hk;have hlt:=(Array.getElem?_eq_some_iff.1 hk).1;rw[dK]at hk;split at hk
   ·simp at hk<;>exact⟨u,hk,MO S md u⟩
   ·cases hk
  rw[hro,Md.hi,hsz]at this;rwa [hro]
 hole:=fun b hb=>K7 (by
  cases hv:md b with
  |none=>rfl
  |some n=>rw[iP hv]at hb;cases hb)
 low:=fun b c hb=>by obtain⟨rfl,m,hm⟩:=kD hb;exact⟨(h b m hm).1,(h b m hm).1⟩
 gs:=by rw[mC];exact hi.base.JU
 gw:=hi.base.JU
theorem DK.lt{md:Nat->Option Md}{st:St eH}(h:DK q md st):∀b m,md b=some m->b<st.w.heap.size:=fun b m hm=>by
 obtain⟨-,-,C,e,fz,n,h1,_⟩:=h b m hm;exact lt_of_block h1
theorem Sh.S5{md:Nat->Option Md}{st:St eH}(h:DK q md st)(hi:Inv q st){X:Nat->Prop}{Ds:Nat->Bool}{Φ:Act->ae->Prop}{a a':Act}(ha:AR (fun f=>S f=true) (zi md) (nH Ds a.tmps) (nH Ds a'.tmps))(hd:a.defers=[])(hd':a'.defers=[])
  (hΦ:Φ a (World.on (kA S st.w md) st.w.tape st.w.drawn)):Sh q S Ds (tQ md) X st Φ a' st:=by
 refine⟨zi md,a,kA S st.w md,ha,hd,hd',h.hr hi,⟨⟨hi.base.pos,.inl rfl,fun b c hb=>?_⟩,hi,fun b c hb hro=>?_,Mn.refl st,fun b c hb=>?_⟩,fun b hb=>?_,_,_,hΦ⟩
 ·obtain⟨rfl,m,hm⟩:=kD hb;obtain⟨-,-,C,e,fz,n,h1,rfl,hn,h2⟩:=h b m hm;have hro:tQ md b=.read n:=by simp[tQ,hm]
  rw[hro];exact h2.imp id .inl
 ·obtain⟨rfl,m,hm⟩:=kD hb;obtain⟨-,-,C,e,fz,n,h1,rfl,hn,h2⟩:=h b m hm;simp[tQ,hm]at hro
 ·obtain⟨rfl,m,hm⟩:=kD hb;exact⟨(h b m hm).2.1,fun _=>rfl,fun _ _=>rfl⟩
 ·unfold tQ;cases hv:md b with
  |none=>rfl
  |some m=>
   have:=h.lt b m hv
   rw[mC]at hb;omega
end
end Cc
namespace Cc
open Go.Conc Go.ConcN Mem
open Classical in
noncomputable def vh(K:List (Nat×Obj))(b:Nat):Option Md:=if h:∃(C:Array af) (e:aj) (fz:Nat×Nat),(b,az C e fz)∈K then some (.read (Classical.choose h).size)else none
section
variable{q:iU}{dm num:Nat}{K:List (Nat×Obj)}{st:St eH}{S:ak->Bool}{A:Option Addr}
theorem kH.vh(hA:kH dm num K st){b:Nat}{C:Array af}{e:aj}{fz:Nat×Nat}(h:(b,az C e fz)∈K):vh K b=some (.read C.size):=by
 unfold Cc.vh;have hex:∃(C:Array af) (e:aj) (fz:Nat×Nat),(b,az C e fz)∈K:=⟨C,e,fz,h⟩;rw[dif_pos hex];obtain⟨e',Oo,h'⟩:=Classical.choose_spec hex;have h1:=(hA.fz _ _ h).1;have h2:=(hA.fz _ _ h').1;rw[h1]at h2;cases h2;rfl
theorem WO{b:Nat}{m:Md}(h:vh K b=some m):∃(C:Array af) (e:aj) (fz:Nat×Nat),(b,az C e fz)∈K/\m=.read C.size:=by
 unfold vh at h;split at h
 ·rename_i hex;obtain⟨e',Oo,h'⟩:=Classical.choose_spec hex;cases h;exact⟨_,e',Oo,h',rfl⟩
 ·cases h
theorem kH.MQ(hA:kH dm num K st)(hg:q.P.globals.size=0):DK q (Cc.vh K) st:=fun b m hm=>by
 obtain⟨C,e,fz,h,rfl⟩:=WO hm;obtain⟨h1,h2⟩:=hA.fz _ _ h;exact⟨by omega,hA.nd _ _ h,C,e,fz,C.size,h1,rfl,aH _,h2.symm⟩
theorem kH.Ab(hA:kH dm num K st){b off:Nat}{C:Array af}{e:aj}{fz:Nat×Nat}{v:af}(h:(b,az C e fz)∈K)(hc:C[off]?=some v)(hv:VR (fun f=>S f=true) (zi (Cc.vh K)) v v):(kA S st.w (Cc.vh K)).cell? ⟨b,off,none⟩=some v:=by
 refine K8 (hA.vh h) (Array.getElem?_eq_some_iff.1 hc).1 ?_ hv;simp only[bN,(hA.fz _ _ h).1];simpa using hc
def U5(K:List (Nat×Obj))(A:Option Addr):Prop:=A=none\/∃b off,A=some ⟨b,off,none⟩/\∃(C:Array af) (e:aj) (fz:Nat×Nat),(b,az C e fz)∈K
theorem U5.vr(h:U5 K A)(hA:kH dm num K st)(L c:Nat):VR (fun f=>S f=true) (zi (Cc.vh K)) (.slice A L c) (.slice A L c):=by
 rcases h with rfl|⟨b,off,rfl,C,e,fz,h⟩
 ·exact .il _ _
 ·exact .slice _ _ _ _ (iP (hA.vh h))
theorem U5.mono{K':List (Nat×Obj)}(h:U5 K A)(hs:∀b o,(b,o)∈K->(b,o)∈K'):U5 K' A:=by
 rcases h with rfl|⟨b,off,rfl,C,e,fz,h⟩
 ·exact .inl rfl
 ·exact .inr ⟨b,off,rfl,C,e,fz,hs _ _ h⟩
def lO(K:List (Nat×Obj))(k:IntKind)(A:Option Addr)(c:Nat)(l:List Int):Prop:=l.length<=c/\U5 K A/\(0<l.length->∃b off,A=some ⟨b,off,none⟩/\∃(C:Array af) (e:aj) (fz:Nat×Nat),(b,az C e fz)∈K/\∀i,i<l.length->C[off+i]?=some (.int k (l.getD i 0)))
theorem lO.mono{K':List (Nat×Obj)}{k:IntKind}{c:Nat}{l:List Int}(h:lO K k A c l)(hs:∀b o,(b,o)∈K->(b,o)∈K'):lO K' k A c l:=by
 obtain⟨h1,h2,h3⟩:=h;refine⟨h1,h2.mono hs,fun hl=>?_⟩;obtain⟨b,off,e1,C,e,fz,h4,h5⟩:=h3 hl;exact⟨b,off,e1,C,e,fz,hs _ _ h4,h5⟩
theorem lO.nums{k:IntKind}{c:Nat}{l:List Int}(h:lO K k A c l)(hA:kH dm num K st):gA k (kA S st.w (Cc.vh K)) (kA S st.w (Cc.vh K)).heap.size (.slice A l.length c) l:=by
 obtain⟨h1,h2,h3⟩:=h;refine⟨A,c,rfl,h1,fun hl=>?_⟩;obtain⟨b,off,e1,C,e,fz,h4,h5⟩:=h3 hl;exact⟨b,off,e1,by rw[mC];exact lt_of_block (hA.fz _ _ h4).1,fun i hi=>hA.Ab h4 (h5 i hi) (.int _ _)⟩
def yI(K:List (Nat×Obj))(A:Option Addr)(c:Nat)(l:List Cm):Prop:=l.length<=c/\U5 K A/\(0<l.length->∃b off,A=some ⟨b,off,none⟩/\∃(C:Array af) (e:aj) (fz:Nat×Nat),(b,az C e fz)∈K/\∀j u,(eO l)[j]?=some u->C[off+j]?=some u)
theorem yI.mono{K':List (Nat×Obj)}{c:Nat}{l:List Cm}(h:yI K A c l)(hs:∀b o,(b,o)∈K->(b,o)∈K'):yI K' A c l:=by
 obtain⟨h1,h2,h3⟩:=h;refine⟨h1,h2.mono hs,fun hl=>?_⟩;obtain⟨b,off,e1,C,e,fz,h4,h5⟩:=h3 hl;exact⟨b,off,e1,C,e,fz,hs _ _ h4,h5⟩
theorem av0{ρ:Nat->Option Nat}{l:List Cm}{j:Nat}{u:af}(hu:(eO l)[j]?=some u):VR (fun f=>S f=true) ρ u u:=by
 have hm:=cj hu;simp only[eO,List.mem_flatMap]at hm;obtain⟨cm,_,hm⟩:=hm;simp only[Cm.cells,aM,bB,or_false]at hm;rcases hm with rfl|rfl|rfl<;>exact .int _ _
theorem yI.ja{c:Nat}{l:List Cm}(h:yI K A c l)(hA:kH dm num K st):lU (kA S st.w (Cc.vh K)) (kA S st.w (Cc.vh K)).heap.size (.slice A l.length c) l:=by
 obtain⟨h1,h2,h3⟩:=h;refine⟨gF l,A,c,rfl,h1,fun hl=>?_⟩;obtain⟨b,off,e1,C,e,fz,h4,h5⟩:=h3 hl;exact⟨b,off,e1,by rw[mC];exact lt_of_block (hA.fz _ _ h4).1,fun j u hu=>hA.Ab h4 (h5 j u hu) (av0 hu)⟩
end
end Cc
end Go.Proofs.Ytpfpokjaeffbjaa
