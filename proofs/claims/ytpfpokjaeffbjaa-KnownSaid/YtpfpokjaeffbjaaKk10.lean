/- Part of the proof: AgK, AgN, AgQ, AgR, AgW, AgS, AgX, ShJ, ShQ, Cmp. -/
import Derived.Test.YtpfpokjaeffbjaaKk0
import Derived.Test.YtpfpokjaeffbjaaKk7
import Derived.Test.YtpfpokjaeffbjaaKk9
import Derived.Test.YtpfpokjaeffbjaaKk8
import Derived.Test.YtpfpokjaeffbjaaKk5
import Derived.Test.YtpfpokjaeffbjaaKk6
set_option linter.unusedVariables false
set_option linter.unusedSimpArgs false
set_option maxRecDepth 100000
set_option maxHeartbeats 16000000
open Go.Obj renaming cells→az
open List renaming range→bq,mem_cons_of_mem→aR,mem_append_left→cC,mem_cons_self→dh,getD_eq_getElem?_getD→aC,mem_cons→aM,not_mem_nil→bA,getElem?_eq_getElem→aN,mem_of_getElem?→b7
open Array renaming getElem?_eq_getElem→aI,replicate→bN,getElem?_push→cY,getElem?_extract→dK
open Nat renaming le_refl→aH,zero_add→cZ,lt_or_ge→bw
open Go.Proofs.Try renaming prog→dS
open Option renaming getD_some→aJ,map_eq_some_iff→bt
open Go.World renaming cell?→bM,block_lt_of_cell?→bY
open Go.Region renaming wanted→bg
open Go.Instr renaming alloc→dw,loadAt→aT,storeAt→bI
namespace Go.Proofs.Ytpfpokjaeffbjaa
open Go renaming World→ae,Value→af,Goroutine→ah,Frame→ai,TypeId→aj,FuncId→ak,Program→au,undef→av,execOp→ax
open Go.Lib renaming hid→ay
namespace Cc
open Go.Conc Go.ConcN Go.ConcM Go.RowKit Go.Conc.Lib Go.ConcR.Gen
open Go.ConcR (KK wgBlock WgAt stA smA rd wr mk DC0)
open Pl mJ nG mI Mem ng Ew KM PG Hr Lc
open uU hiding base
section
structure AgM(cs:List Int)(l:List Cm)(msg:ByteArray)(n cv:Int)(nv:Nat->Int):Prop where
 n0:0<=n
 n9:n<=9
 c9:cs.length<=9
 c0:0<cs.length
 el:∀j,j<cs.length->jO (cs.getD j 0)=true
 gd:mI.Good n l
 l9:l.length<=9
 ms:msg.size<=1000000
 nb:∀k,k<l.length->0<=nv k/\nv k<18446744073709551616
 cb:0<=cv/\cv<18446744073709551616
structure oO(q:iK)(st:St eD)(K:List (Nat×Obj))(cs:List Int)(l:List Cm)(msg:ByteArray)(t n r cv:Int)(nv:Nat->Int)(T:Array af)(B b8 j0 fR kJ b16 fX Gb gc Pb lb Rb Zb Wg iX bS oS cap:Nat)(Cg Cl:Array af)(eL:aj):Prop where
 sz:T.size=107
 s3:T[3]?=some (.slice (some ⟨bS,oS,none⟩) l.length cap)
 s8:T[8]?=some (.pointer (some ⟨b8,0,none⟩))
 s9:T[9]?=some (.slice none 0 0)
 Zy:T[10]?=some (.int .i64 0)
 s11:T[11]?=some (.pointer (some ⟨j0,0,none⟩))
 s13:T[13]?=some (.pointer (some ⟨fR,0,none⟩))
 s14:T[14]?=some (.int .u64 r)
 s15:T[15]?=some (.pointer (some ⟨kJ,0,none⟩))
 s16:T[16]?=some (.pointer (some ⟨b16,0,none⟩))
 s17:T[17]?=some (.pointer (some ⟨fX,0,none⟩))
 s18:T[18]?=some (.pointer (some ⟨Wg,0,none⟩))
 su:∀i,(19<=i/\i<24)\/(70<=i/\i<107)->T[i]?=some av
 sG:st.w.heap[b8]?=some (az (#[.int .u64 0,.int .u64 0]) 47 (0,0))
 Cy:st.w.heap[j0]?=some (az (#[.pointer (some ⟨Gb,0,none⟩)]) 97 (0,0))
 jE:st.w.heap[fR]?=some (az (#[.pointer (some ⟨Pb,0,none⟩)]) 100 (0,0))
 GC:st.w.heap[kJ]?=some (az (#[.int .u64 cv]) 76 (0,0))
 jD:st.w.heap[b16]?=some (az (#[.slice (some ⟨Rb,0,none⟩) l.length l.length]) 107 (0,0))
 jC:st.w.heap[fX]?=some (az (#[.slice (some ⟨Zb,0,none⟩) l.length l.length]) 75 (0,0))
 mR:st.w.heap[Gb]?=some (az (gI t n (.slice (some ⟨gc,0,none⟩) cs.length iX)) 137 (0,0))
 oP:st.w.heap[gc]?=some (az (Cg) 79 (0,0))
 oz:st.w.heap[Pb]?=some (az (#[.pointer (some ⟨Gb,0,none⟩),.slice (some ⟨lb,0,none⟩) l.length l.length,.string msg]) 164 (0,0))
 V5:st.w.heap[lb]?=some (az (Cl) eL (0,0))
 m7:st.w.heap[Rb]?=some (az (madeCells #[.bool false] l.length) 4 (0,0))
 nC:st.w.heap[Zb]?=some (az (madeCells #[.int .u64 0] l.length) 76 (0,0))
 Ab:st.w.heap[Wg]?=some (az (#[.int .u64 0,.int .u32 0]) 116 (0,0))
 gcl:cs.length<=Cg.size/\∀j,j<cs.length->Cg[j]?=some (.int .u64 (cs.getD j 0))
 Ck:3*l.length<=Cl.size/\∀j u,j<3*l.length->(eX l)[j]?=some u->Cl[j]?=some u
 nbz:kJ≠Zb
 pN:∀b∈[b8,j0,fR,kJ,b16,fX,Gb,gc,Pb,Rb,Zb,Wg],lb≠b
 low:∀b∈[b8,j0,fR,kJ,b16,fX,Gb,gc,Pb,lb,Rb,Zb,Wg],q.P.globals.size<=b
 new:∀b∈[b8,j0,fR,kJ,b16,fX,Gb,gc,Pb,lb,Rb,Zb,Wg],B<=b
 nd:∀b∈[b8,j0,fR,kJ,b16,fX,Gb,gc,Pb,lb,Rb,Zb,Wg],¬st.γ.dead b
 ex:∀b∈[b8,j0,fR,kJ,b16,fX,Gb,gc,Pb,lb,Rb,Zb,Wg],∀off,st.γ.ex 0 (ca b off)
 sh:∃ob,(bS,ob)∈K/\∀(w:ae) (k:Nat),w.heap[bS]?=some ob->k<l.length->w.cell? ⟨bS,oS+k,none⟩=some (.int .u64 (nv k))
 hcap:l.length<=cap
 kB:∀b o,(b,o)∈K->b<B
def lX(num:Nat)(cs:List Int)(l:List Cm)(msg:ByteArray)(t n cv:Int)(nv:Nat->Int)(Gb gc Rb Zb Wg iX:Nat):eI:=
 {n0:=num,n:=l.length,Gb:=Gb,Wg:=Wg,Zb:=Zb,Rb:=Rb,g0:=.int .i64 t,g1:=.int .i64 n,g2:=.slice (some ⟨gc,0,none⟩) cs.length iX,nn:=n.toNat,vals:=fun id=>EM cs id,zv:=fun k=>.int .u64 (nv k),rv:=fun k=>.bool (iE (nv k) cv cs l msg k)}
def ag4(y:Nat->af):Array af:=#[y 0,y 1,y 2,y 3,y 4,y 5,y 6,y 7,y 8,y 9,y 10,y 11,y 12,y 13,y 14,y 15,y 16,y 17,y 18,y 19,y 20,y 21,y 22,y 23,y 24,y 25,y 26,y 27,y 28,y 29,y 30,y 31,y 32,y 33,y 34,y 35,y 36,y 37,y 38,y 39,y 40,y 41,y 42,y 43,y 44,y 45,y 46,y 47,y 48,y 49,y 50,y 51,y 52,y 53,y 54,y 55,y 56,y 57,y 58,y 59,y 60,y 61,y 62,y 63,y 64,y 65,y 66,y 67,y 68,y 69,y 70,y 71,y 72,y 73,y 74,y 75,y 76,y 77,y 78,y 79,y 80,y 81,y 82,y 83,y 84,y 85,y 86,y 87,y 88,y 89,y 90,y 91,y 92,y 93,y 94,y 95,y 96,y 97,y 98,y 99,y 100,y 101,y 102,y 103,y 104,y 105,y 106]
theorem aC8(T:Array af)(h:T.size=107)(y:Nat->af)(hy:∀i,i<107->T[i]?=some (y i)):T=ag4 y:=by
 have e:T=((bq 107).map y).toArray:=by
  refine Array.ext (by simp[h]) fun i h1 h2=>?_;have:=hy i (by omega)
  rw[aI h1]at this;simpa using Option.some.inj this
 rw[e];rfl
theorem Sn(T:Array af)(h:T.size=107):∃y:Nat->af,T=ag4 y/\∀i v,T[i]?=some v->y i=v:=by
 refine⟨fun i=>T.getD i av,aC8 T h _ fun i hi=>?_,fun i v hv=>?_⟩
 ·simp[Array.getD,h,hi]
 ·simp only[Array.getD];split
  ·rename_i hlt;rw[aI hlt]at hv;exact Option.some.inj hv
  ·rename_i hlt;rw[Array.getElem?_eq_none (by omega)]at hv;cases hv
section
variable{q:iK}{st:St eD}{K:List (Nat×Obj)}{cs:List Int}{l:List Cm}{msg:ByteArray}{t n r cv:Int}{nv:Nat->Int}{T:Array af}{B b8 j0 fR kJ b16 fX Gb gc Pb lb Rb Zb Wg iX bS oS cap:Nat}{Cg Cl:Array af}{eL:aj}
theorem oO.kept(h:oO q st K cs l msg t n r cv nv T B b8 j0 fR kJ b16 fX Gb gc Pb lb Rb Zb Wg iX bS oS cap Cg Cl eL){num:Nat}(hA:kv 0 num K st):kv 0 num ((b8,az (#[.int .u64 0,.int .u64 0]) 47 (0,0))::([(j0,az (#[.pointer (some ⟨Gb,0,none⟩)]) 97 (0,0)),(fR,az (#[.pointer (some ⟨Pb,0,none⟩)]) 100 (0,0)),(kJ,az (#[.int .u64 cv]) 76 (0,0)),(b16,az (#[.slice (some ⟨Rb,0,none⟩) l.length l.length]) 107 (0,0)),(fX,az (#[.slice (some ⟨Zb,0,none⟩) l.length l.length]) 75 (0,0)),(Pb,az (#[.pointer (some ⟨Gb,0,none⟩),.slice (some ⟨lb,0,none⟩) l.length l.length,.string msg]) 164 (0,0)),(gc,az (Cg) 79 (0,0)),(lb,az (Cl) eL (0,0))]++K)) st:=(((((((((hA.more h.V5 (.inl (h.ex lb (by simp))) (h.nd lb (by simp))).more h.oP (.inl (h.ex gc (by simp))) (h.nd gc (by simp))).more h.oz (.inl (h.ex Pb (by simp))) (h.nd Pb (by simp))).more h.jC (.inl (h.ex fX (by simp))) (h.nd fX (by simp))).more h.jD (.inl (h.ex b16 (by simp))) (h.nd b16 (by simp))).more h.GC (.inl (h.ex kJ (by simp))) (h.nd kJ (by simp))).more h.jE (.inl (h.ex fR (by simp))) (h.nd fR (by simp))).more h.Cy (.inl (h.ex j0 (by simp))) (h.nd j0 (by simp))).more h.sG (.inl (h.ex b8 (by simp))) (h.nd b8 (by simp)))
theorem oO.apart(h:oO q st K cs l msg t n r cv nv T B b8 j0 fR kJ b16 fX Gb gc Pb lb Rb Zb Wg iX bS oS cap Cg Cl eL){b:Nat}{o:Obj}(hb:(b,o)∈(b8,az (#[.int .u64 0,.int .u64 0]) 47 (0,0))::([(j0,az (#[.pointer (some ⟨Gb,0,none⟩)]) 97 (0,0)),(fR,az (#[.pointer (some ⟨Pb,0,none⟩)]) 100 (0,0)),(kJ,az (#[.int .u64 cv]) 76 (0,0)),(b16,az (#[.slice (some ⟨Rb,0,none⟩) l.length l.length]) 107 (0,0)),(fX,az (#[.slice (some ⟨Zb,0,none⟩) l.length l.length]) 75 (0,0)),(Pb,az (#[.pointer (some ⟨Gb,0,none⟩),.slice (some ⟨lb,0,none⟩) l.length l.length,.string msg]) 164 (0,0)),(gc,az (Cg) 79 (0,0)),(lb,az (Cl) eL (0,0))]++K)):b≠Gb/\b≠Wg/\b≠Zb/\b≠Rb:=by
 have Od:b8≠Gb:=eu h.sG h.mR (by decide);have Ob:b8≠Wg:=eu h.sG h.Ab (by decide);have Oa:b8≠Zb:=eu h.sG h.nC (by decide);have Oc:b8≠Rb:=eu h.sG h.m7 (by decide);have Jm:j0≠Gb:=eu h.Cy h.mR (by decide);have Jk:j0≠Wg:=eu h.Cy h.Ab (by decide);have Jj:j0≠Zb:=eu h.Cy h.nC (by decide);have Jl:j0≠Rb:=eu h.Cy h.m7 (by decide);have mP:fR≠Gb:=eu h.jE h.mR (by decide);have Jh:fR≠Wg:=eu h.jE h.Ab (by decide);have Jg:fR≠Zb:=eu h.jE h.nC (by decide);have Ji:fR≠Rb:=eu h.jE h.m7 (by decide);have Jf:kJ≠Gb:=eu h.GC h.mR (by decide);have Jd:kJ≠Wg:=eu h.GC h.Ab (by decide);have Jc:kJ≠Zb:=h.nbz;have Je:kJ≠Rb:=eu h.GC h.m7 (by decide);have mO:b16≠Gb:=eu h.jD h.mR (by decide);have Ja:b16≠Wg:=eu h.jD h.Ab (by decide);have I9:b16≠Zb:=eu h.jD h.nC (by decide);have Jb:b16≠Rb:=eu h.jD h.m7 (by decide);have mN:fX≠Gb:=eu h.jC h.mR (by decide);have I7:fX≠Wg:=eu h.jC h.Ab (by decide);have I6:fX≠Zb:=eu h.jC h.nC (by decide);have I8:fX≠Rb:=eu h.jC h.m7 (by decide);have Om:Pb≠Gb:=eu h.oz h.mR (by decide);have Oj:Pb≠Wg:=eu h.oz h.Ab (by decide);have Oi:Pb≠Zb:=eu h.oz h.nC (by decide);have Ol:Pb≠Rb:=eu h.oz h.m7 (by decide);have pg:gc≠Gb:=eu h.oP h.mR (by decide);have N6:gc≠Wg:=eu h.oP h.Ab (by decide);have N5:gc≠Zb:=eu h.oP h.nC (by decide);have N7:gc≠Rb:=eu h.oP h.m7 (by decide);have o9:lb≠Gb:=h.pN Gb (by simp);have N3:lb≠Wg:=h.pN Wg (by simp);have NY:lb≠Zb:=h.pN Zb (by simp);have N4:lb≠Rb:=h.pN Rb (by simp);have rP:gc≠Pb:=eu h.oP h.oz (by decide);have rO:lb≠Pb:=h.pN Pb (by simp);have rN:lb≠gc:=h.pN gc (by simp);have Oq:Gb≠Wg:=eu h.mR h.Ab (by decide);have Oo:Gb≠Zb:=eu h.mR h.nC (by decide);have Ot:Gb≠Rb:=eu h.mR h.m7 (by decide);have Og:Wg≠Zb:=eu h.Ab h.nC (by decide);have Oh:Wg≠Rb:=eu h.Ab h.m7 (by decide);have pj:Zb≠Rb:=eu h.nC h.m7 (by decide);simp only[List.cons_append,List.nil_append]at hb;rcases List.mem_cons.1 hb with e|hb
 ·cases e;exact⟨Od,Ob,Oa,Oc⟩
 rcases List.mem_cons.1 hb with e|hb
 ·cases e;exact⟨Jm,Jk,Jj,Jl⟩
 rcases List.mem_cons.1 hb with e|hb
 ·cases e;exact⟨mP,Jh,Jg,Ji⟩
 rcases List.mem_cons.1 hb with e|hb
 ·cases e;exact⟨Jf,Jd,Jc,Je⟩
 rcases List.mem_cons.1 hb with e|hb
 ·cases e;exact⟨mO,Ja,I9,Jb⟩
 rcases List.mem_cons.1 hb with e|hb
 ·cases e;exact⟨mN,I7,I6,I8⟩
 rcases List.mem_cons.1 hb with e|hb
 ·cases e;exact⟨Om,Oj,Oi,Ol⟩
 rcases List.mem_cons.1 hb with e|hb
 ·cases e;exact⟨pg,N6,N5,N7⟩
 rcases List.mem_cons.1 hb with e|hb
 ·cases e;exact⟨o9,N3,NY,N4⟩
 have:=h.kB b o hb
 have g1:=h.new Gb (by simp);have g2:=h.new Wg (by simp);have g3:=h.new Zb (by simp);have g4:=h.new Rb (by simp);refine⟨?_,?_,?_,?_⟩<;>omega
theorem u5(z:af){n k:Nat}(hk:k<n):(madeCells #[z] n)[k]?=some z:=by simp[madeCells,hk,Nat.mod_one]
theorem oO.enter(h:oO q st K cs l msg t n r cv nv T B b8 j0 fR kJ b16 fX Gb gc Pb lb Rb Zb Wg iX bS oS cap Cg Cl eL)(M:AgM cs l msg n cv nv){num:Nat}(hA:kv 0 num K st)(hG:q.tG=137)(hZ:q.tZ=76)(hR:q.tR=4)(hW:q.tW=116):
  FK q (lX num cs l msg t n cv nv Gb gc Rb Zb Wg iX) st:=by
 have Od:b8≠Gb:=eu h.sG h.mR (by decide);have Ob:b8≠Wg:=eu h.sG h.Ab (by decide);have Oa:b8≠Zb:=eu h.sG h.nC (by decide);have Oc:b8≠Rb:=eu h.sG h.m7 (by decide);have Jm:j0≠Gb:=eu h.Cy h.mR (by decide);have Jk:j0≠Wg:=eu h.Cy h.Ab (by decide);have Jj:j0≠Zb:=eu h.Cy h.nC (by decide);have Jl:j0≠Rb:=eu h.Cy h.m7 (by decide);have mP:fR≠Gb:=eu h.jE h.mR (by decide);have Jh:fR≠Wg:=eu h.jE h.Ab (by decide);have Jg:fR≠Zb:=eu h.jE h.nC (by decide);have Ji:fR≠Rb:=eu h.jE h.m7 (by decide);have Jf:kJ≠Gb:=eu h.GC h.mR (by decide);have Jd:kJ≠Wg:=eu h.GC h.Ab (by decide);have Jc:kJ≠Zb:=h.nbz;have Je:kJ≠Rb:=eu h.GC h.m7 (by decide);have mO:b16≠Gb:=eu h.jD h.mR (by decide);have Ja:b16≠Wg:=eu h.jD h.Ab (by decide);have I9:b16≠Zb:=eu h.jD h.nC (by decide);have Jb:b16≠Rb:=eu h.jD h.m7 (by decide);have mN:fX≠Gb:=eu h.jC h.mR (by decide);have I7:fX≠Wg:=eu h.jC h.Ab (by decide);have I6:fX≠Zb:=eu h.jC h.nC (by decide);have I8:fX≠Rb:=eu h.jC h.m7 (by decide);have Om:Pb≠Gb:=eu h.oz h.mR (by decide);have Oj:Pb≠Wg:=eu h.oz h.Ab (by decide);have Oi:Pb≠Zb:=eu h.oz h.nC (by decide);have Ol:Pb≠Rb:=eu h.oz h.m7 (by decide);have pg:gc≠Gb:=eu h.oP h.mR (by decide);have N6:gc≠Wg:=eu h.oP h.Ab (by decide);have N5:gc≠Zb:=eu h.oP h.nC (by decide);have N7:gc≠Rb:=eu h.oP h.m7 (by decide);have o9:lb≠Gb:=h.pN Gb (by simp);have N3:lb≠Wg:=h.pN Wg (by simp);have NY:lb≠Zb:=h.pN Zb (by simp);have N4:lb≠Rb:=h.pN Rb (by simp);have rP:gc≠Pb:=eu h.oP h.oz (by decide);have rO:lb≠Pb:=h.pN Pb (by simp);have rN:lb≠gc:=h.pN gc (by simp);have Oq:Gb≠Wg:=eu h.mR h.Ab (by decide);have Oo:Gb≠Zb:=eu h.mR h.nC (by decide);have Ot:Gb≠Rb:=eu h.mR h.m7 (by decide);have Og:Wg≠Zb:=eu h.Ab h.nC (by decide);have Oh:Wg≠Rb:=eu h.Ab h.m7 (by decide);have pj:Zb≠Rb:=eu h.nC h.m7 (by decide);refine⟨hA.num.symm,M.l9,⟨_,by rw[hG];exact h.mR,rfl,rfl,rfl,rfl,rfl,rfl,rfl,fun k k1 k2=>?_⟩,by rw[hW];exact h.Ab,⟨_,by rw[hZ];exact h.nC,size_madeCells _ _,fun k x hx=>?_,fun k hk e=>by cases e⟩,⟨_,by rw[hR];exact h.m7,size_madeCells _ _,fun k x hx=>?_,fun k hk e=>by cases e⟩,⟨Oq,Oo,Ot,Og,Oh,pj⟩,fun b hb off=>?_,h.nd Gb (by simp),h.nd Zb (by simp),h.nd Rb (by simp)⟩
 ·match k,k1,k2 with
  |0,k1,_=>omega
  |1,k1,_=>omega
  |2,k1,_=>omega
  |3,k1,_=>omega
  |4,k1,_=>omega
  |5,k1,_=>omega
  |6,_,_=>exact⟨0,rfl⟩
  |7,_,_=>exact⟨0,rfl⟩
  |8,_,_=>exact⟨0,rfl⟩
  |9,_,_=>exact⟨0,rfl⟩
  |10,_,_=>exact⟨0,rfl⟩
  |11,_,_=>exact⟨0,rfl⟩
  |12,_,_=>exact⟨0,rfl⟩
  |13,_,_=>exact⟨0,rfl⟩
  |14,_,_=>exact⟨0,rfl⟩
  |15,_,_=>exact⟨0,rfl⟩
  |k+16,_,k2=>omega
 ·replace hx:(madeCells #[.int .u64 0] l.length)[k]?=some x:=hx;have hk:k<l.length:=by have:=(Array.getElem?_eq_some_iff.1 hx).1;rw[size_madeCells]at this;exact this
  rw[u5 _ hk]at hx;cases hx;exact⟨fun a e=>(by cases e),fun a e=>(by cases e)⟩
 ·replace hx:(madeCells #[.bool false] l.length)[k]?=some x:=hx;have hk:k<l.length:=by have:=(Array.getElem?_eq_some_iff.1 hx).1;rw[size_madeCells]at this;exact this
  rw[u5 _ hk]at hx;cases hx;exact⟨fun a e=>(by cases e),fun a e=>(by cases e)⟩
 ·rcases hb with rfl|rfl|rfl|rfl
  ·exact h.ex _ (by simp[lX]) off
  ·exact h.ex _ (by simp[lX]) off
  ·exact h.ex _ (by simp[lX]) off
  ·exact h.ex _ (by simp[lX]) off
theorem oO.agd(h:oO q st K cs l msg t n r cv nv T B b8 j0 fR kJ b16 fX Gb gc Pb lb Rb Zb Wg iX bS oS cap Cg Cl eL)(M:AgM cs l msg n cv nv)(num:Nat):
  AgD q (lX num cs l msg t n cv nv Gb gc Rb Zb Wg iX) ((b8,az (#[.int .u64 0,.int .u64 0]) 47 (0,0))::([(j0,az (#[.pointer (some ⟨Gb,0,none⟩)]) 97 (0,0)),(fR,az (#[.pointer (some ⟨Pb,0,none⟩)]) 100 (0,0)),(kJ,az (#[.int .u64 cv]) 76 (0,0)),(b16,az (#[.slice (some ⟨Rb,0,none⟩) l.length l.length]) 107 (0,0)),(fX,az (#[.slice (some ⟨Zb,0,none⟩) l.length l.length]) 75 (0,0)),(Pb,az (#[.pointer (some ⟨Gb,0,none⟩),.slice (some ⟨lb,0,none⟩) l.length l.length,.string msg]) 164 (0,0)),(gc,az (Cg) 79 (0,0)),(lb,az (Cl) eL (0,0))]++K)) [(j0,az (#[.pointer (some ⟨Gb,0,none⟩)]) 97 (0,0)),(fR,az (#[.pointer (some ⟨Pb,0,none⟩)]) 100 (0,0)),(kJ,az (#[.int .u64 cv]) 76 (0,0)),(b16,az (#[.slice (some ⟨Rb,0,none⟩) l.length l.length]) 107 (0,0)),(fX,az (#[.slice (some ⟨Zb,0,none⟩) l.length l.length]) 75 (0,0)),(Pb,az (#[.pointer (some ⟨Gb,0,none⟩),.slice (some ⟨lb,0,none⟩) l.length l.length,.string msg]) 164 (0,0)),(gc,az (Cg) 79 (0,0)),(lb,az (Cl) eL (0,0))] nv cv Pb gc lb cs l msg fX fR j0 kJ b16 bS oS where
 sub:=fun b o hb=>aR _ (cC _ hb)
 sh:=let⟨ob,h1,h2⟩:=h.sh;⟨ob,aR _ (List.mem_append_right _ h1),h2⟩
 hz:=⟨l.length,#[.slice (some ⟨Zb,0,none⟩) l.length l.length],75,(0,0),by simp,rfl⟩
 hp:=⟨#[.pointer (some ⟨Pb,0,none⟩)],100,(0,0),by simp,rfl⟩
 hx:=⟨#[.pointer (some ⟨Gb,0,none⟩)],97,(0,0),by simp,rfl⟩
 hc:=⟨#[.int .u64 cv],76,(0,0),by simp,rfl⟩
 hr:=⟨l.length,#[.slice (some ⟨Rb,0,none⟩) l.length l.length],107,(0,0),by simp,rfl⟩
 pk:=⟨#[.pointer (some ⟨Gb,0,none⟩),.slice (some ⟨lb,0,none⟩) l.length l.length,.string msg],164,(0,0),l.length,by simp,rfl,rfl,rfl,rfl,aH _⟩
 gcB:=⟨Cg,79,(0,0),by simp,h.gcl⟩
 lbB:=⟨Cl,eL,(0,0),by simp,h.Ck⟩
 gp:=eu h.oP h.oz (by decide)
 lp:=h.pN _ (by simp)
 lg:=h.pN _ (by simp)
 low:=⟨h.low _ (by simp),h.low _ (by simp),h.low _ (by simp),h.low Gb (by simp)⟩
 g0:=⟨t,rfl⟩
 g1:=by have:=M.n0;show Value.int .i64 n=.int .i64 ((n.toNat:Nat):Int);rw[Int.toNat_of_nonneg this]
 g2:=⟨iX,rfl⟩
 n9:=by have:=M.n9;show n.toNat<=9;omega
 c9:=M.c9
 c0:=M.c0
 el:=M.el
 vs:=fun id _ _=>rfl
 gd:=by have:=M.n0;show mI.Good ((n.toNat:Nat):Int) l;rw[Int.toNat_of_nonneg this];exact M.gd
 l9:=M.l9
 ln:=rfl
 ms:=M.ms
 nb:=M.nb
 cb:=M.cb
 zv:=fun k _=>rfl
 rv:=fun k _=>rfl
end
end
section
theorem Tt:(Try.f71.name== "runtime.NumGoroutine")=false:=kr
section
variable{q:iK}{st:St eD}{K:List (Nat×Obj)}{cs:List Int}{l:List Cm}{msg:ByteArray}{t n r cv:Int}{nv:Nat->Int}{T:Array af}{B b8 j0 fR kJ b16 fX Gb gc Pb lb Rb Zb Wg iX bS oS cap:Nat}{Cg Cl:Array af}{eL:aj}
theorem oO.tail(D:oO q st K cs l msg t n r cv nv T B b8 j0 fR kJ b16 fX Gb gc Pb lb Rb Zb Wg iX bS oS cap Cg Cl eL)(M:AgM cs l msg n cv nv){num num':Nat}{dY:St eD}{Q:List (Nat×Obj)}(hA:kv 0 num' ((b8,az (#[.int .u64 0,.int .u64 0]) 47 (0,0))::([(j0,az (#[.pointer (some ⟨Gb,0,none⟩)]) 97 (0,0)),(fR,az (#[.pointer (some ⟨Pb,0,none⟩)]) 100 (0,0)),(kJ,az (#[.int .u64 cv]) 76 (0,0)),(b16,az (#[.slice (some ⟨Rb,0,none⟩) l.length l.length]) 107 (0,0)),(fX,az (#[.slice (some ⟨Zb,0,none⟩) l.length l.length]) 75 (0,0)),(Pb,az (#[.pointer (some ⟨Gb,0,none⟩),.slice (some ⟨lb,0,none⟩) l.length l.length,.string msg]) 164 (0,0)),(gc,az (Cg) 79 (0,0)),(lb,az (Cl) eL (0,0))]++Q)) dY)(f1:Dx q (lX num cs l msg t n cv nv Gb gc Rb Zb Wg iX) dY.w)
  (hG:q.tG=137)(hZ:q.tZ=76)(hR:q.tR=4)
  (f2:∃Z:Array af,dY.w.heap[Zb]?=some (.cells Z q.tZ)/\Z.size=l.length/\∀k,k<l.length->Z[k]?=some (.int .u64 (nv k)))(f3:∃R:Array af,dY.w.heap[Rb]?=some (.cells R q.tR)/\R.size=l.length/\∀k,k<l.length->R[k]?=some (.bool (iE (nv k) cv cs l msg k)))
  (f4:∀lo b,lo.isMemory=true->ij lo=some b->b<dY.w.heap.size->¬dY.γ.dead b->dY.γ.ex 0 lo)(f5:¬dY.γ.dead Gb)(f6:¬dY.γ.dead Zb)(f7:¬dY.γ.dead Rb)
  {T':Array af}(sz:T'.size=107)(s8:T'[8]?=some (.pointer (some ⟨b8,0,none⟩)))(s9:T'[9]?=some (.slice none 0 0))(Zy:T'[10]?=some (.int .i64 0))(s13:T'[13]?=some (.pointer (some ⟨fR,0,none⟩)))(s14:T'[14]?=some (.int .u64 r))(s16:T'[16]?=some (.pointer (some ⟨b16,0,none⟩)))(s17:T'[17]?=some (.pointer (some ⟨fX,0,none⟩)))
  (su:∀i,(21<=i/\i<24)\/(81<=i/\i<107)->T'[i]?=some av):
  ∃CG CR CZ:Array af,tE q dY cs l msg r (fun k=>iE (nv k) cv cs l msg k) ((bq l.length).map nv) T' b8 fR b16 fX Gb Pb gc lb Rb Zb iX l.length l.length CG Cg #[.pointer (some ⟨Gb,0,none⟩),.slice (some ⟨lb,0,none⟩) l.length l.length,.string msg] Cl CR CZ (.int .i64 t) (.int .i64 n) eL:=by
 obtain⟨CG,g1,g2,g3,g4,g5,-⟩:=f1;obtain⟨CZ,z1,z2,z3⟩:=f2;obtain⟨CR,r1,r2,r3⟩:=f3;rw[hG]at g1;rw[hZ]at z1;rw[hR]at r1;have k:=fun b o (h:(b,o)∈(b8,az (#[.int .u64 0,.int .u64 0]) 47 (0,0))::([(j0,az (#[.pointer (some ⟨Gb,0,none⟩)]) 97 (0,0)),(fR,az (#[.pointer (some ⟨Pb,0,none⟩)]) 100 (0,0)),(kJ,az (#[.int .u64 cv]) 76 (0,0)),(b16,az (#[.slice (some ⟨Rb,0,none⟩) l.length l.length]) 107 (0,0)),(fX,az (#[.slice (some ⟨Zb,0,none⟩) l.length l.length]) 75 (0,0)),(Pb,az (#[.pointer (some ⟨Gb,0,none⟩),.slice (some ⟨lb,0,none⟩) l.length l.length,.string msg]) 164 (0,0)),(gc,az (Cg) 79 (0,0)),(lb,az (Cl) eL (0,0))]++Q))=>(hA.fz b o h).1;have d:=fun b o (h:(b,o)∈(b8,az (#[.int .u64 0,.int .u64 0]) 47 (0,0))::([(j0,az (#[.pointer (some ⟨Gb,0,none⟩)]) 97 (0,0)),(fR,az (#[.pointer (some ⟨Pb,0,none⟩)]) 100 (0,0)),(kJ,az (#[.int .u64 cv]) 76 (0,0)),(b16,az (#[.slice (some ⟨Rb,0,none⟩) l.length l.length]) 107 (0,0)),(fX,az (#[.slice (some ⟨Zb,0,none⟩) l.length l.length]) 75 (0,0)),(Pb,az (#[.pointer (some ⟨Gb,0,none⟩),.slice (some ⟨lb,0,none⟩) l.length l.length,.string msg]) 164 (0,0)),(gc,az (Cg) 79 (0,0)),(lb,az (Cl) eL (0,0))]++Q))=>hA.nd b o h;have d8:=d b8 _ (dh ..);have k8:=k b8 _ (dh ..);have oz:=k Pb _ (aR _ (cC _ (by simp:(Pb,az (#[.pointer (some ⟨Gb,0,none⟩),.slice (some ⟨lb,0,none⟩) l.length l.length,.string msg]) 164 (0,0))∈[(j0,az (#[.pointer (some ⟨Gb,0,none⟩)]) 97 (0,0)),(fR,az (#[.pointer (some ⟨Pb,0,none⟩)]) 100 (0,0)),(kJ,az (#[.int .u64 cv]) 76 (0,0)),(b16,az (#[.slice (some ⟨Rb,0,none⟩) l.length l.length]) 107 (0,0)),(fX,az (#[.slice (some ⟨Zb,0,none⟩) l.length l.length]) 75 (0,0)),(Pb,az (#[.pointer (some ⟨Gb,0,none⟩),.slice (some ⟨lb,0,none⟩) l.length l.length,.string msg]) 164 (0,0)),(gc,az (Cg) 79 (0,0)),(lb,az (Cl) eL (0,0))])));have dPb:=d Pb _ (aR _ (cC _ (by simp:(Pb,az (#[.pointer (some ⟨Gb,0,none⟩),.slice (some ⟨lb,0,none⟩) l.length l.length,.string msg]) 164 (0,0))∈[(j0,az (#[.pointer (some ⟨Gb,0,none⟩)]) 97 (0,0)),(fR,az (#[.pointer (some ⟨Pb,0,none⟩)]) 100 (0,0)),(kJ,az (#[.int .u64 cv]) 76 (0,0)),(b16,az (#[.slice (some ⟨Rb,0,none⟩) l.length l.length]) 107 (0,0)),(fX,az (#[.slice (some ⟨Zb,0,none⟩) l.length l.length]) 75 (0,0)),(Pb,az (#[.pointer (some ⟨Gb,0,none⟩),.slice (some ⟨lb,0,none⟩) l.length l.length,.string msg]) 164 (0,0)),(gc,az (Cg) 79 (0,0)),(lb,az (Cl) eL (0,0))])));have oP:=k gc _ (aR _ (cC _ (by simp:(gc,az (Cg) 79 (0,0))∈[(j0,az (#[.pointer (some ⟨Gb,0,none⟩)]) 97 (0,0)),(fR,az (#[.pointer (some ⟨Pb,0,none⟩)]) 100 (0,0)),(kJ,az (#[.int .u64 cv]) 76 (0,0)),(b16,az (#[.slice (some ⟨Rb,0,none⟩) l.length l.length]) 107 (0,0)),(fX,az (#[.slice (some ⟨Zb,0,none⟩) l.length l.length]) 75 (0,0)),(Pb,az (#[.pointer (some ⟨Gb,0,none⟩),.slice (some ⟨lb,0,none⟩) l.length l.length,.string msg]) 164 (0,0)),(gc,az (Cg) 79 (0,0)),(lb,az (Cl) eL (0,0))])));have dgc:=d gc _ (aR _ (cC _ (by simp:(gc,az (Cg) 79 (0,0))∈[(j0,az (#[.pointer (some ⟨Gb,0,none⟩)]) 97 (0,0)),(fR,az (#[.pointer (some ⟨Pb,0,none⟩)]) 100 (0,0)),(kJ,az (#[.int .u64 cv]) 76 (0,0)),(b16,az (#[.slice (some ⟨Rb,0,none⟩) l.length l.length]) 107 (0,0)),(fX,az (#[.slice (some ⟨Zb,0,none⟩) l.length l.length]) 75 (0,0)),(Pb,az (#[.pointer (some ⟨Gb,0,none⟩),.slice (some ⟨lb,0,none⟩) l.length l.length,.string msg]) 164 (0,0)),(gc,az (Cg) 79 (0,0)),(lb,az (Cl) eL (0,0))])));have V5:=k lb _ (aR _ (cC _ (by simp:(lb,az (Cl) eL (0,0))∈[(j0,az (#[.pointer (some ⟨Gb,0,none⟩)]) 97 (0,0)),(fR,az (#[.pointer (some ⟨Pb,0,none⟩)]) 100 (0,0)),(kJ,az (#[.int .u64 cv]) 76 (0,0)),(b16,az (#[.slice (some ⟨Rb,0,none⟩) l.length l.length]) 107 (0,0)),(fX,az (#[.slice (some ⟨Zb,0,none⟩) l.length l.length]) 75 (0,0)),(Pb,az (#[.pointer (some ⟨Gb,0,none⟩),.slice (some ⟨lb,0,none⟩) l.length l.length,.string msg]) 164 (0,0)),(gc,az (Cg) 79 (0,0)),(lb,az (Cl) eL (0,0))])));have dlb:=d lb _ (aR _ (cC _ (by simp:(lb,az (Cl) eL (0,0))∈[(j0,az (#[.pointer (some ⟨Gb,0,none⟩)]) 97 (0,0)),(fR,az (#[.pointer (some ⟨Pb,0,none⟩)]) 100 (0,0)),(kJ,az (#[.int .u64 cv]) 76 (0,0)),(b16,az (#[.slice (some ⟨Rb,0,none⟩) l.length l.length]) 107 (0,0)),(fX,az (#[.slice (some ⟨Zb,0,none⟩) l.length l.length]) 75 (0,0)),(Pb,az (#[.pointer (some ⟨Gb,0,none⟩),.slice (some ⟨lb,0,none⟩) l.length l.length,.string msg]) 164 (0,0)),(gc,az (Cg) 79 (0,0)),(lb,az (Cl) eL (0,0))])));have jE:=k fR _ (aR _ (cC _ (by simp:(fR,az (#[.pointer (some ⟨Pb,0,none⟩)]) 100 (0,0))∈[(j0,az (#[.pointer (some ⟨Gb,0,none⟩)]) 97 (0,0)),(fR,az (#[.pointer (some ⟨Pb,0,none⟩)]) 100 (0,0)),(kJ,az (#[.int .u64 cv]) 76 (0,0)),(b16,az (#[.slice (some ⟨Rb,0,none⟩) l.length l.length]) 107 (0,0)),(fX,az (#[.slice (some ⟨Zb,0,none⟩) l.length l.length]) 75 (0,0)),(Pb,az (#[.pointer (some ⟨Gb,0,none⟩),.slice (some ⟨lb,0,none⟩) l.length l.length,.string msg]) 164 (0,0)),(gc,az (Cg) 79 (0,0)),(lb,az (Cl) eL (0,0))])));have YK:=d fR _ (aR _ (cC _ (by simp:(fR,az (#[.pointer (some ⟨Pb,0,none⟩)]) 100 (0,0))∈[(j0,az (#[.pointer (some ⟨Gb,0,none⟩)]) 97 (0,0)),(fR,az (#[.pointer (some ⟨Pb,0,none⟩)]) 100 (0,0)),(kJ,az (#[.int .u64 cv]) 76 (0,0)),(b16,az (#[.slice (some ⟨Rb,0,none⟩) l.length l.length]) 107 (0,0)),(fX,az (#[.slice (some ⟨Zb,0,none⟩) l.length l.length]) 75 (0,0)),(Pb,az (#[.pointer (some ⟨Gb,0,none⟩),.slice (some ⟨lb,0,none⟩) l.length l.length,.string msg]) 164 (0,0)),(gc,az (Cg) 79 (0,0)),(lb,az (Cl) eL (0,0))])));have jD:=k b16 _ (aR _ (cC _ (by simp:(b16,az (#[.slice (some ⟨Rb,0,none⟩) l.length l.length]) 107 (0,0))∈[(j0,az (#[.pointer (some ⟨Gb,0,none⟩)]) 97 (0,0)),(fR,az (#[.pointer (some ⟨Pb,0,none⟩)]) 100 (0,0)),(kJ,az (#[.int .u64 cv]) 76 (0,0)),(b16,az (#[.slice (some ⟨Rb,0,none⟩) l.length l.length]) 107 (0,0)),(fX,az (#[.slice (some ⟨Zb,0,none⟩) l.length l.length]) 75 (0,0)),(Pb,az (#[.pointer (some ⟨Gb,0,none⟩),.slice (some ⟨lb,0,none⟩) l.length l.length,.string msg]) 164 (0,0)),(gc,az (Cg) 79 (0,0)),(lb,az (Cl) eL (0,0))])));have YJ:=d b16 _ (aR _ (cC _ (by simp:(b16,az (#[.slice (some ⟨Rb,0,none⟩) l.length l.length]) 107 (0,0))∈[(j0,az (#[.pointer (some ⟨Gb,0,none⟩)]) 97 (0,0)),(fR,az (#[.pointer (some ⟨Pb,0,none⟩)]) 100 (0,0)),(kJ,az (#[.int .u64 cv]) 76 (0,0)),(b16,az (#[.slice (some ⟨Rb,0,none⟩) l.length l.length]) 107 (0,0)),(fX,az (#[.slice (some ⟨Zb,0,none⟩) l.length l.length]) 75 (0,0)),(Pb,az (#[.pointer (some ⟨Gb,0,none⟩),.slice (some ⟨lb,0,none⟩) l.length l.length,.string msg]) 164 (0,0)),(gc,az (Cg) 79 (0,0)),(lb,az (Cl) eL (0,0))])));have jC:=k fX _ (aR _ (cC _ (by simp:(fX,az (#[.slice (some ⟨Zb,0,none⟩) l.length l.length]) 75 (0,0))∈[(j0,az (#[.pointer (some ⟨Gb,0,none⟩)]) 97 (0,0)),(fR,az (#[.pointer (some ⟨Pb,0,none⟩)]) 100 (0,0)),(kJ,az (#[.int .u64 cv]) 76 (0,0)),(b16,az (#[.slice (some ⟨Rb,0,none⟩) l.length l.length]) 107 (0,0)),(fX,az (#[.slice (some ⟨Zb,0,none⟩) l.length l.length]) 75 (0,0)),(Pb,az (#[.pointer (some ⟨Gb,0,none⟩),.slice (some ⟨lb,0,none⟩) l.length l.length,.string msg]) 164 (0,0)),(gc,az (Cg) 79 (0,0)),(lb,az (Cl) eL (0,0))])));have YI:=d fX _ (aR _ (cC _ (by simp:(fX,az (#[.slice (some ⟨Zb,0,none⟩) l.length l.length]) 75 (0,0))∈[(j0,az (#[.pointer (some ⟨Gb,0,none⟩)]) 97 (0,0)),(fR,az (#[.pointer (some ⟨Pb,0,none⟩)]) 100 (0,0)),(kJ,az (#[.int .u64 cv]) 76 (0,0)),(b16,az (#[.slice (some ⟨Rb,0,none⟩) l.length l.length]) 107 (0,0)),(fX,az (#[.slice (some ⟨Zb,0,none⟩) l.length l.length]) 75 (0,0)),(Pb,az (#[.pointer (some ⟨Gb,0,none⟩),.slice (some ⟨lb,0,none⟩) l.length l.length,.string msg]) 164 (0,0)),(gc,az (Cg) 79 (0,0)),(lb,az (Cl) eL (0,0))])));refine⟨CG,CR,CZ,sz,s8,s9,Zy,s13,s14,s16,s17,su,k8,oz,g1,oP,V5,jE,jD,jC,r1,z1,⟨by omega,g3,g4,g5,⟨_,_,rfl⟩,_,_,rfl⟩,D.gcl,⟨rfl,rfl,rfl,rfl⟩,D.Ck,⟨r2,r3⟩,⟨z2,fun k hk=>?_⟩,by simp,aH _,M.l9,?_,?_,?_,fun lo h1 h2=>f4 lo b8 h2 h1 (lt_of_block k8) d8,?_⟩
 ·rw[z3 k hk];simp[aC,hk]
 ·intro b hb;simp only[aM,bA,or_false]at hb;rcases hb with rfl|rfl|rfl|rfl|rfl|rfl|rfl|rfl|rfl|rfl<;>exact D.low _ (by simp)
 ·intro b hb;simp only[aM,bA,or_false]at hb;rcases hb with rfl|rfl|rfl|rfl|rfl|rfl|rfl|rfl|rfl<;>exact D.pN _ (by simp)
 ·intro b hb;simp only[aM,bA,or_false]at hb;rcases hb with rfl|rfl|rfl|rfl|rfl|rfl|rfl|rfl|rfl|rfl
  all_goals first|exact d8|exact dPb|exact f5|exact dgc|exact dlb|exact YK|exact YJ|exact YI|exact f7|exact f6
 ·intro b hb off;simp only[aM,bA,or_false]at hb;rcases hb with rfl|rfl|rfl|rfl|rfl|rfl|rfl|rfl|rfl|rfl
  ·exact f4 _ _ rfl rfl (lt_of_block k8) d8
  ·exact f4 _ _ rfl rfl (lt_of_block oz) dPb
  ·exact f4 _ _ rfl rfl (lt_of_block g1) f5
  ·exact f4 _ _ rfl rfl (lt_of_block oP) dgc
  ·exact f4 _ _ rfl rfl (lt_of_block V5) dlb
  ·exact f4 _ _ rfl rfl (lt_of_block jE) YK
  ·exact f4 _ _ rfl rfl (lt_of_block jD) YJ
  ·exact f4 _ _ rfl rfl (lt_of_block jC) YI
  ·exact f4 _ _ rfl rfl (lt_of_block r1) f7
  ·exact f4 _ _ rfl rfl (lt_of_block z1) f6
variable(hP:q.P=dS)
include hP
theorem oO.Wu(D:oO q st K cs l msg t n r cv nv T B b8 j0 fR kJ b16 fX Gb gc Pb lb Rb Zb Wg iX bS oS cap Cg Cl eL)(M:AgM cs l msg n cv nv){num num':Nat}{dY:St eD}(hA:kv 0 num' ((b8,az (#[.int .u64 0,.int .u64 0]) 47 (0,0))::([(j0,az (#[.pointer (some ⟨Gb,0,none⟩)]) 97 (0,0)),(fR,az (#[.pointer (some ⟨Pb,0,none⟩)]) 100 (0,0)),(kJ,az (#[.int .u64 cv]) 76 (0,0)),(b16,az (#[.slice (some ⟨Rb,0,none⟩) l.length l.length]) 107 (0,0)),(fX,az (#[.slice (some ⟨Zb,0,none⟩) l.length l.length]) 75 (0,0)),(Pb,az (#[.pointer (some ⟨Gb,0,none⟩),.slice (some ⟨lb,0,none⟩) l.length l.length,.string msg]) 164 (0,0)),(gc,az (Cg) 79 (0,0)),(lb,az (Cl) eL (0,0))]++K)) dY)(hI:Inv q dY)(f1:Dx q (lX num cs l msg t n cv nv Gb gc Rb Zb Wg iX) dY.w)
  (hG:q.tG=137)(hZ:q.tZ=76)(hR:q.tR=4)
  (f2:∃Z:Array af,dY.w.heap[Zb]?=some (.cells Z q.tZ)/\Z.size=l.length/\∀k,k<l.length->Z[k]?=some (.int .u64 (nv k)))(f3:∃R:Array af,dY.w.heap[Rb]?=some (.cells R q.tR)/\R.size=l.length/\∀k,k<l.length->R[k]?=some (.bool (iE (nv k) cv cs l msg k)))
  (f4:∀lo b,lo.isMemory=true->ij lo=some b->b<dY.w.heap.size->¬dY.γ.dead b->dY.γ.ex 0 lo)(f5:¬dY.γ.dead Gb)(f6:¬dY.γ.dead Zb)(f7:¬dY.γ.dead Rb)
  {T':Array af}(sz:T'.size=107)(s8:T'[8]?=some (.pointer (some ⟨b8,0,none⟩)))(s9:T'[9]?=some (.slice none 0 0))(Zy:T'[10]?=some (.int .i64 0))(s13:T'[13]?=some (.pointer (some ⟨fR,0,none⟩)))(s14:T'[14]?=some (.int .u64 r))(s16:T'[16]?=some (.pointer (some ⟨b16,0,none⟩)))(s17:T'[17]?=some (.pointer (some ⟨fX,0,none⟩)))
  (su:∀i,(21<=i/\i<24)\/(81<=i/\i<107)->T'[i]?=some av){c:ai}{bs:List ai}{Ch:Nat->ah->St eD->Prop}
  (fin:∀v st',yD r ((bq l.length).map nv) (fS (fun k=>iE (nv k) cv cs l msg k) l l.length) num' K v st'->Inv q st'->TT (cfg q) 0 Ch (G (c.finish v) bs) st'):
  TT (cfg q) 0 Ch (G ((base 27).at ⟨T',[]⟩ [.code xg]) (c::bs)) dY:=by
 obtain⟨CG,CR,CZ,TD⟩:=D.tail M hA f1 hG hZ hR f2 f3 f4 f5 f6 f7 sz s8 s9 Zy s13 s14 s16 s17 su;refine ai5 hP (hA.sub fun b o hb=>aR _ (List.mem_append_right _ hb)) hI TD (fun b o hb=>?_) fin;have:=D.kB b o hb
 have:=D.new b8 (by simp)
 omega
noncomputable def ae9:Code:=match rZ with|.seq a _=>a|_=>.skip
theorem Rs(D:oO q st K cs l msg t n r cv nv T B b8 j0 fR kJ b16 fX Gb gc Pb lb Rb Zb Wg iX bS oS cap Cg Cl eL)(M:AgM cs l msg n cv nv){num:Nat}(hG:q.tG=137)(hZ:q.tZ=76)(hR:q.tR=4){c:ai}{bs:List ai}{y:Nat->af}(HYY:Hid (∀i v,T[i]?=some v->y i=v))
  (fin:∀v st',yD r ((bq l.length).map nv) (fS (fun k=>iE (nv k) cv cs l msg k) l l.length) (num+l.length) K v st'->Inv q st'->TT (cfg q) 0 (TW (cfg q)) (G (c.finish v) bs) st')
  (st':St eD)(pz pq vq vp vo vk vh ve vd:af)(hA':ni (lX num cs l msg t n cv nv Gb gc Rb Zb Wg iX) .sp 0 (num+l.length) ((b8,az (#[.int .u64 0,.int .u64 0]) 47 (0,0))::([(j0,az (#[.pointer (some ⟨Gb,0,none⟩)]) 97 (0,0)),(fR,az (#[.pointer (some ⟨Pb,0,none⟩)]) 100 (0,0)),(kJ,az (#[.int .u64 cv]) 76 (0,0)),(b16,az (#[.slice (some ⟨Rb,0,none⟩) l.length l.length]) 107 (0,0)),(fX,az (#[.slice (some ⟨Zb,0,none⟩) l.length l.length]) 75 (0,0)),(Pb,az (#[.pointer (some ⟨Gb,0,none⟩),.slice (some ⟨lb,0,none⟩) l.length l.length,.string msg]) 164 (0,0)),(gc,az (Cg) 79 (0,0)),(lb,az (Cl) eL (0,0))]++K)) st')(hI':Inv q st'):
  TT (cfg q) 0 (TW (cfg q)) (G ((base 27).at ⟨agT y j0 fR kJ b16 fX Wg bS oS cap l.length (l.length:Int) pz pq vq vp vo vk vh ve vd,[]⟩ [.code rZ]) (c::bs)) st':=by
 have e2:rZ=.seq ae9 xg:=rfl;obtain⟨AT,C6⟩:∃AT,AT=xg:=⟨_,rfl⟩;rw[e2,<-C6];obtain⟨s,hs⟩:∃s,s=lX num cs l msg t n cv nv Gb gc Rb Zb Wg iX:=⟨_,rfl⟩;have Uv:Wg=s.Wg:=by rw[hs];rfl
 have hn:num+l.length=s.n0+s.n:=by rw[hs];rfl
 rw[<-hs]at hA';rw[Uv];have HSS:=ay (And.intro hs (And.intro Uv (And.intro hn C6)));have HD:=ay D;clear hs Uv hn C6 D e2;simp only[ae9,rZ,iY,eK,Try.f27,aJ,agT];refine TT.jQ hP hA' 80 fun w₀ hF=>?_;repeat w_go ez
 u_call Try.func71 Tt Try.f71 ez hF
 refine stp rfl ?_;clear hF w₀;obtain⟨hs,Uv,hn,C6⟩:=HSS.out;refine ah3 hP (fun dY eo eN f1 f2 f3 f4 f5 f6 f7=>?_) hn hA';clear hs Uv hn C6;walk_nrm;refine TT.lO hP 80 fun w₀ hF=>?_;repeat w_go eQ
 refine stp rfl ?_;obtain⟨hs,Uv,hn,C6⟩:=HSS.out;have D:=HD.out;rw[<-Uv];clear HSS Uv hn;subst C6 hs;have hy:=HYY.out;exact D.Wu hP M eo eN f1 hG hZ hR f2 f3 f4 f5 f6 f7 rfl (congrArg some (hy _ _ D.s8)) (congrArg some (hy _ _ D.s9)) (congrArg some (hy _ _ D.Zy)) rfl (congrArg some (hy _ _ D.s14)) rfl rfl (fun i hi=>by
  match i,hi with
  |0,hi=>omega
  |1,hi=>omega
  |2,hi=>omega
  |3,hi=>omega
  |4,hi=>omega
  |5,hi=>omega
  |6,hi=>omega
  |7,hi=>omega
  |8,hi=>omega
  |9,hi=>omega
  |10,hi=>omega
  |11,hi=>omega
  |12,hi=>omega
  |13,hi=>omega
  |14,hi=>omega
  |15,hi=>omega
  |16,hi=>omega
  |17,hi=>omega
  |18,hi=>omega
  |19,hi=>omega
  |20,hi=>omega
  |21,_=>exact congrArg some (hy 21 _ (D.su 21 (by omega)))
  |22,_=>exact congrArg some (hy 22 _ (D.su 22 (by omega)))
  |23,_=>exact congrArg some (hy 23 _ (D.su 23 (by omega)))
  |24,hi=>omega
  |25,hi=>omega
  |26,hi=>omega
  |27,hi=>omega
  |28,hi=>omega
  |29,hi=>omega
  |30,hi=>omega
  |31,hi=>omega
  |32,hi=>omega
  |33,hi=>omega
  |34,hi=>omega
  |35,hi=>omega
  |36,hi=>omega
  |37,hi=>omega
  |38,hi=>omega
  |39,hi=>omega
  |40,hi=>omega
  |41,hi=>omega
  |42,hi=>omega
  |43,hi=>omega
  |44,hi=>omega
  |45,hi=>omega
  |46,hi=>omega
  |47,hi=>omega
  |48,hi=>omega
  |49,hi=>omega
  |50,hi=>omega
  |51,hi=>omega
  |52,hi=>omega
  |53,hi=>omega
  |54,hi=>omega
  |55,hi=>omega
  |56,hi=>omega
  |57,hi=>omega
  |58,hi=>omega
  |59,hi=>omega
  |60,hi=>omega
  |61,hi=>omega
  |62,hi=>omega
  |63,hi=>omega
  |64,hi=>omega
  |65,hi=>omega
  |66,hi=>omega
  |67,hi=>omega
  |68,hi=>omega
  |69,hi=>omega
  |70,hi=>omega
  |71,hi=>omega
  |72,hi=>omega
  |73,hi=>omega
  |74,hi=>omega
  |75,hi=>omega
  |76,hi=>omega
  |77,hi=>omega
  |78,hi=>omega
  |79,hi=>omega
  |80,hi=>omega
  |81,_=>exact congrArg some (hy 81 _ (D.su 81 (by omega)))
  |82,_=>exact congrArg some (hy 82 _ (D.su 82 (by omega)))
  |83,_=>exact congrArg some (hy 83 _ (D.su 83 (by omega)))
  |84,_=>exact congrArg some (hy 84 _ (D.su 84 (by omega)))
  |85,_=>exact congrArg some (hy 85 _ (D.su 85 (by omega)))
  |86,_=>exact congrArg some (hy 86 _ (D.su 86 (by omega)))
  |87,_=>exact congrArg some (hy 87 _ (D.su 87 (by omega)))
  |88,_=>exact congrArg some (hy 88 _ (D.su 88 (by omega)))
  |89,_=>exact congrArg some (hy 89 _ (D.su 89 (by omega)))
  |90,_=>exact congrArg some (hy 90 _ (D.su 90 (by omega)))
  |91,_=>exact congrArg some (hy 91 _ (D.su 91 (by omega)))
  |92,_=>exact congrArg some (hy 92 _ (D.su 92 (by omega)))
  |93,_=>exact congrArg some (hy 93 _ (D.su 93 (by omega)))
  |94,_=>exact congrArg some (hy 94 _ (D.su 94 (by omega)))
  |95,_=>exact congrArg some (hy 95 _ (D.su 95 (by omega)))
  |96,_=>exact congrArg some (hy 96 _ (D.su 96 (by omega)))
  |97,_=>exact congrArg some (hy 97 _ (D.su 97 (by omega)))
  |98,_=>exact congrArg some (hy 98 _ (D.su 98 (by omega)))
  |99,_=>exact congrArg some (hy 99 _ (D.su 99 (by omega)))
  |100,_=>exact congrArg some (hy 100 _ (D.su 100 (by omega)))
  |101,_=>exact congrArg some (hy 101 _ (D.su 101 (by omega)))
  |102,_=>exact congrArg some (hy 102 _ (D.su 102 (by omega)))
  |103,_=>exact congrArg some (hy 103 _ (D.su 103 (by omega)))
  |104,_=>exact congrArg some (hy 104 _ (D.su 104 (by omega)))
  |105,_=>exact congrArg some (hy 105 _ (D.su 105 (by omega)))
  |106,_=>exact congrArg some (hy 106 _ (D.su 106 (by omega)))
  |i+107,hi=>omega) fin
theorem aB7(D:oO q st K cs l msg t n r cv nv T B b8 j0 fR kJ b16 fX Gb gc Pb lb Rb Zb Wg iX bS oS cap Cg Cl eL)(M:AgM cs l msg n cv nv){num:Nat}(hA:kv 0 num K st)(hI:Inv q st)(hG:q.tG=137)(hZ:q.tZ=76)(hR:q.tR=4)(hW:q.tW=116){c:ai}{bs:List ai}
  (fin:∀v st',yD r ((bq l.length).map nv) (fS (fun k=>iE (nv k) cv cs l msg k) l l.length) (num+l.length) K v st'->Inv q st'->TT (cfg q) 0 (TW (cfg q)) (G (c.finish v) bs) st'):
  TT (cfg q) 0 (TW (cfg q)) (G ((base 27).at ⟨T,[]⟩ [.code (eK 12 iY).2]) (c::bs)) st:=by
 have E:=D.enter M hA hG hZ hR hW;have AD:=D.agd M num;have hK:=D.kept hA;have hap:=fun b o hb=>D.apart (b:=b) (o:=o) hb;obtain⟨y,hT,hy⟩:=Sn T D.sz;have y3:=hy _ _ D.s3;have y11:=hy _ _ D.s11;have y13:=hy _ _ D.s13;have y15:=hy _ _ D.s15;have y16:=hy _ _ D.s16;have Zi:=hy _ _ D.s17;have Zh:=hy _ _ D.s18;have hcap:=D.hcap;have e1:(eK 12 iY).2=.seq vI rZ:=rfl;rw[e1];refine TT.enter hP (s:=lX num cs l msg t n cv nv Gb gc Rb Zb Wg iX) hK E (fun b o hb=>let⟨a,b,c,d⟩:=hap b o hb;⟨a,b,c,d⟩) (fun w=>stepG_seq ..) rfl fun dV dX eO=>?_;have hL:=KH (bs:=c::bs) (y:=y) hP AD hcap (Rs hP D M hG hZ hR hy fin) l.length 0 dV;clear hK E hap hI hA AD fin;rw[hT];have HYY:=ay hy;clear hy;simp only[KD,Py,vI,iY,eK,Try.f27,aJ,agT,y3]at hL;simp only[vI,iY,eK,Try.f27,aJ,ag4,y3,y11,y13,y15,y16,Zi,Zh];refine TT.jQ hP dX 80 fun w₀ hF=>?_;repeat w_but "code.loop" ez
 u_c stepG_loop ez hF
 refine stp rfl ?_;exact hL _ _ _ _ _ _ _ _ _ (Nat.add_zero _) dX eO
end
end
end Cc
namespace Cc
open Go.Conc Go.ConcN Go.RowKit
open Pl mJ nG mI Mem ng Ew KM PG Hr Lc
open uU hiding base
section
theorem kA{w:ae}{a b:Nat}{C C':Array af}{e e':aj}{f f':Nat×Nat}(h:w.heap[a]?=some (.cells C e f))(h':w.heap[b]?=some (.cells C' e' f'))(k:Nat)(hne:C[k]?≠C'[k]?):a≠b:=by
 rintro rfl;rw[h]at h';cases h';exact hne rfl
theorem bC0{t n:Int}{cs:List Int}{l:List Cm}{msg:ByteArray}{ns:Nat}{nv:Nat->Int}(h0:ja t n cs l msg ns=0)(CM:msg.size<=1000000)(hnb:∀k,k<l.length->0<=nv k/\nv k<18446744073709551616):
  AgM cs l msg n (l5 (iT l (cs.getD 0 0) msg) (cs.getD 0 0) msg) nv/\ns=l.length/\2<=l.length:=by
 unfold ja at h0;split at h0
 ·cases h0
 rename_i h1;split at h0
 ·rename_i h2;exact absurd h0 h2
 rename_i h2;split at h0
 ·cases h0
 rename_i h3;have g:=kE (t:=t) (n:=n) (cs:=cs) (by simpa using h1);have p:=xJ (t:=t) (n:=n) (l:=l) (by simpa using h2);have c:=G0 (iT l (cs.getD 0 0) msg) (cs.getD 0 0) msg;refine⟨⟨by omega,by omega,by omega,by omega,fun j hj=>rS (t:=t) (n:=n) (by simpa using h1) hj,vB (t:=t) (by simpa using h2),by omega,CM,hnb,by omega,by omega⟩,by simpa using h3,by omega⟩
section
variable{S:ak->Bool}{ρ:Nat->Option Nat}{ro:Nat->Md}{G:Nat}{s w:ae}
theorem kL{v v':af}(h:VR (fun f=>S f=true) ρ v v')(hp:fI 4 v=true/\iV 4 v=true):v'=v:=VR.same (ρ:=fun _=>none) (ρ':=ρ) (fun b c x=>by cases x) (fun b c x=>by cases x) (n7 4 _ hp.2) (mz 4 _ hp.1) h
theorem AR.plain{x x':Array af}(h:AR (fun f=>S f=true) ρ x x')(hp:∀(i:Nat) (v:af),x[i]?=some v->fI 4 v=true/\iV 4 v=true):x'=x:=
 Array.ext h.1.symm fun i h1 h2=>kL (h.2 i _ _ (aI h2) (aI h1)) (hp i _ (aI h2))
theorem AR.XK{v:af}{x':Array af}(h:AR (fun f=>S f=true) ρ #[v] x'):∃v',x'=#[v']/\VR (fun f=>S f=true) ρ v v':=by
 have hs:x'.size=1:=by simpa using h.1.symm
 obtain⟨v',h1,h2⟩:=AR.get h (i:=0) rfl;refine⟨v',Array.ext (by simpa using hs) fun i i1 i2=>?_,h2⟩;obtain rfl:i=0:=by simp at i2<;>exact i2
 rw[aI i1]at h1;exact Option.some.inj h1
theorem AR.bq8{u v z:af}{x':Array af}(h:AR (fun f=>S f=true) ρ #[u,v,z] x'):∃u' v' z',x'=#[u',v',z']/\VR (fun f=>S f=true) ρ u u'/\VR (fun f=>S f=true) ρ v v'/\VR (fun f=>S f=true) ρ z z':=by
 have hs:x'.size=3:=by simpa using h.1.symm
 obtain⟨u',a1,a2⟩:=AR.get h (i:=0) rfl;obtain⟨v',b1,b2⟩:=AR.get h (i:=1) rfl;obtain⟨z',c1,c2⟩:=AR.get h (i:=2) rfl;refine⟨u',v',z',Array.ext (by simpa using hs) fun i i1 i2=>?_,a2,b2,c2⟩;rw[aI (by omega)]at a1 b1 c1;have hi:i<3:=by omega
 match i,hi with
 |0,_=>exact Option.some.inj a1
 |1,_=>exact Option.some.inj b1
 |2,_=>exact Option.some.inj c1
theorem aC9{t n:Int}{g k c:Nat}{x':Array af}(h:AR (fun f=>S f=true) ρ (gI t n (.slice (some ⟨g,0,none⟩) k c)) x'):∃g',ρ g=some g'/\x'=gI t n (.slice (some ⟨g',0,none⟩) k c):=by
 obtain⟨v',h1,h2⟩:=AR.get h (i:=2) rfl;obtain⟨g',e1,rfl⟩:=h2.yH;refine⟨g',e1,Array.ext (by have:=h.1;simpa [gI]using this.symm) fun i i1 i2=>?_⟩;have hi:i<16:=by simpa [gI]using i2
 have hv:=fun v=>h.2 i v x'[i];rw[aI i1]at hv;match i,hi with
 |0,_=>exact kL (hv _ rfl rfl) (by simp[fI,iV,gI])
 |1,_=>exact kL (hv _ rfl rfl) (by simp[fI,iV,gI])
 |2,_=>rw[aI i1]at h1;exact Option.some.inj h1
 |3,_=>exact kL (hv _ rfl rfl) (by simp[fI,iV,gI])
 |4,_=>exact kL (hv _ rfl rfl) (by simp[fI,iV,gI])
 |5,_=>exact kL (hv _ rfl rfl) (by simp[fI,iV,gI])
 |6,_=>exact kL (hv _ rfl rfl) (by simp[fI,iV,gI])
 |7,_=>exact kL (hv _ rfl rfl) (by simp[fI,iV,gI])
 |8,_=>exact kL (hv _ rfl rfl) (by simp[fI,iV,gI])
 |9,_=>exact kL (hv _ rfl rfl) (by simp[fI,iV,gI])
 |10,_=>exact kL (hv _ rfl rfl) (by simp[fI,iV,gI])
 |11,_=>exact kL (hv _ rfl rfl) (by simp[fI,iV,gI])
 |12,_=>exact kL (hv _ rfl rfl) (by simp[fI,iV,gI])
 |13,_=>exact kL (hv _ rfl rfl) (by simp[fI,iV,gI])
 |14,_=>exact kL (hv _ rfl rfl) (by simp[fI,iV,gI])
 |15,_=>exact kL (hv _ rfl rfl) (by simp[fI,iV,gI])
 |i+16,hi=>omega
theorem AR.made{z:af}{n:Nat}{x':Array af}(h:AR (fun f=>S f=true) ρ (madeCells #[z] n) x')(hp:fI 4 z=true/\iV 4 z=true):x'=madeCells #[z] n:=h.plain fun i v hv=>by
 have hk:i<n:=by have:=(Array.getElem?_eq_some_iff.1 hv).1;rw[size_madeCells]at this;exact this
 rw[u5 _ hk]at hv;cases hv;exact hp
theorem HR.YU(h:HR G (fun f=>S f=true) ro ρ s w){b c:Nat}(hρ:ρ b=some c)(hro:ro b=.all){i:Nat}{v:af}(hc:s.cell? ⟨b,i,none⟩=some v):∃C C' e,s.heap[b]?=some (.cells C e (0,0))/\w.heap[c]?=some (.cells C' e (0,0))/\AR (fun f=>S f=true) ρ C C':=by
 obtain⟨o,o',h1,h2,h3⟩:=h.row b c hρ;rw[hro]at h3;cases h3 with
 |cells k3 k4 k5 k6=>
  obtain⟨e1,e2⟩:=k5 rfl;subst e2;exact⟨_,_,_,h1,h2,e1,fun i v v' a b=>by obtain⟨z,hz,hr⟩:=k4 i v a;rw[hz]at b;cases b;exact hr⟩
 |number h _=>simp[bM,h1]at hc
end
end
theorem pl2{a b:af}(ha:fI 4 a=true/\iV 4 a=true)(hb:fI 4 b=true/\iV 4 b=true)(i:Nat)(v:af)(hv:(#[a,b]:Array af)[i]?=some v):fI 4 v=true/\iV 4 v=true:=by
 match i,hv with
 |0,hv=>cases hv;exact ha
 |1,hv=>cases hv;exact hb
 |i+2,hv=>simp at hv
theorem pl1{a:af}(ha:fI 4 a=true/\iV 4 a=true)(i:Nat)(v:af)(hv:(#[a]:Array af)[i]?=some v):fI 4 v=true/\iV 4 v=true:=by
 match i,hv with
 |0,hv=>cases hv;exact ha
 |i+1,hv=>simp at hv
theorem Qa{q:iK}{md:Nat->Option Md}{st st':St eD}{ρ:Nat->Option Nat}{s:ae}{a a':Act}{X:Nat->Prop}{τ:Tape}{d:Nat}{K:List (Nat×Obj)}{t n:Int}{cs:List Int}{l:List Cm}{msg:ByteArray}{bS oS cap nmd:Nat}{nv:Nat->Int}
  (hmd:∀b m,md b=some m->b<st.w.heap.size){sw:ae}(hsw:sw.heap.size=st.w.heap.size)(hH:HR q.P.globals.size (fun f=>aS f=true) (uY md) ρ s st'.w)(hV:Vy q (uY md) X st ρ st')(ha:AR (fun f=>aS f=true) ρ a.tmps a'.tmps)(hS:md bS=some (.read nmd))(M:AgM cs l msg n (l5 (iT l (cs.getD 0 0) msg) (cs.getD 0 0) msg) nv)(h2:2<=l.length)
  (hp:M9 t n cs l msg (some ⟨bS,oS,none⟩) l.length cap sw a (World.on s τ d))(sh:∃ob,(bS,ob)∈K/\∀(w:ae) (k:Nat),w.heap[bS]?=some ob->k<l.length->w.cell? ⟨bS,oS+k,none⟩=some (.int .u64 (nv k)))(hcap:l.length<=cap)(hKB:∀b o,(b,o)∈K->b<st.w.heap.size):
  ∃b8 j0 fR kJ b16 fX Gb gc Pb lb Rb Zb Wg iX Cg Cl eL,oO q st' K cs l msg t n (iT l (cs.getD 0 0) msg) (l5 (iT l (cs.getD 0 0) msg) (cs.getD 0 0) msg) nv a'.tmps st.w.heap.size b8 j0 fR kJ b16 fX Gb gc Pb lb Rb Zb Wg iX bS oS cap Cg Cl eL:=by
 have zE:∀b,st.w.heap.size<=b->uY md b=.all:=fun b hb=>by
  unfold uY;cases hm:md b with
  |none=>rfl
  |some m=>
   have:=hmd b m hm
   omega
 obtain⟨p0,pst,psz,b8,j0,fR,kJ,b16,fX,Gb,Pb,gc,lb,Rb,Zb,Wg,iX,⟨t3,t8,t9,t10,t11,t13,t14,t15,t16,t17,t18,tu⟩,pge,sG,Cy,jE,GC,jD,jC,mR,kO,oz,kC,m7,nC,Ab⟩:=hp;simp only[aM,bA,or_false,forall_eq_or_imp,forall_eq,hsw]at pge;obtain⟨g8,g11,g13,g15,g16,g17,gG,gP,ggc,glb,gR,gZ,gW⟩:=pge;obtain⟨v3,u3,r3⟩:=ha.sl t3;obtain⟨cS,eS,rfl⟩:=r3.yH;obtain rfl:bS=cS:=(hV.2.2.2.2 bS cS eS).2.2 nmd (by unfold uY;rw[hS];rfl);have bo7:=pl2 (a:=.int .u64 0) (b:=.int .u64 0) (by simp[fI,iV]) (by simp[fI,iV]);have bo8:=pl2 (a:=.int .u64 0) (b:=.int .u32 0) (by simp[fI,iV]) (by simp[fI,iV]);have aO0:=pl1 (a:=.int .u64 (l5 (iT l (cs.getD 0 0) msg) (cs.getD 0 0) msg)) (by simp[fI,iV]);obtain⟨v8,u8,r8⟩:=ha.sl t8;obtain⟨cb8,eb8,rfl⟩:=r8.DU;obtain⟨v11,u11,r11⟩:=ha.sl t11;obtain⟨bB0,aB2,rfl⟩:=r11.DU;obtain⟨v13,u13,r13⟩:=ha.sl t13;obtain⟨bA9,aB1,rfl⟩:=r13.DU;obtain⟨v15,u15,r15⟩:=ha.sl t15;obtain⟨bA8,aB0,rfl⟩:=r15.DU;obtain⟨v16,u16,r16⟩:=ha.sl t16;obtain⟨bA7,aA9,rfl⟩:=r16.DU;obtain⟨v17,u17,r17⟩:=ha.sl t17;obtain⟨bA6,aA8,rfl⟩:=r17.DU;obtain⟨v18,u18,r18⟩:=ha.sl t18;obtain⟨cWg,eWg,rfl⟩:=r18.DU;obtain⟨v9,u9,r9⟩:=ha.sl t9;obtain rfl:=kL r9 (by simp[fI,iV]);obtain⟨v10,u10,r10⟩:=ha.sl t10;obtain rfl:=kL r10 (by simp[fI,iV]);obtain⟨v14,u14,r14⟩:=ha.sl t14;obtain rfl:=kL r14 (by simp[fI,iV]);obtain⟨xb8,Cb8,fb8,V9,Ab8⟩:=hH.mC (zE b8 (by omega)) sG;rw[eb8]at fb8;cases fb8;obtain rfl:=AR.plain Ab8 (fun i v hv=>bo7 i v hv);obtain⟨b04,cn5,a68,Mu,bH0⟩:=hH.mC (zE kJ (by omega)) GC;rw[aB0]at a68;cases a68;obtain rfl:=AR.plain bH0 (fun i v hv=>aO0 i v hv);obtain⟨xWg,CWg,fWg,Uv,AWg⟩:=hH.mC (zE Wg (by omega)) Ab;rw[eWg]at fWg;cases fWg;obtain rfl:=AR.plain AWg (fun i v hv=>bo8 i v hv);obtain⟨b06,cn7,a70,zg,bH2⟩:=hH.mC (zE j0 (by omega)) Cy;rw[aB2]at a70;cases a70;obtain⟨b20,rfl,bo5⟩:=AR.XK bH2;obtain⟨cGb,eGb,rfl⟩:=bo5.DU;obtain⟨b05,cn6,a69,QO,bH1⟩:=hH.mC (zE fR (by omega)) jE;rw[aB1]at a69;cases a69;obtain⟨b19,rfl,bo4⟩:=AR.XK bH1;obtain⟨cPb,ePb,rfl⟩:=bo4.DU;obtain⟨b03,cn4,a66,QN,bG9⟩:=hH.mC (zE b16 (by omega)) jD;rw[aA9]at a66;cases a66;obtain⟨b18,rfl,bo3⟩:=AR.XK bG9;obtain⟨cRb,eRb,rfl⟩:=bo3.yH;obtain⟨b02,cn3,a65,QM,bG8⟩:=hH.mC (zE fX (by omega)) jC;rw[aA8]at a65;cases a65;obtain⟨b14,rfl,bo2⟩:=AR.XK bG8;obtain⟨cZb,eZb,rfl⟩:=bo2.yH;obtain⟨xGb,CGb,fGb,hGb,AGb⟩:=hH.mC (zE Gb (by omega)) mR;rw[eGb]at fGb;cases fGb;obtain⟨cgc,egc,rfl⟩:=aC9 AGb;obtain⟨xPb,CPb,fPb,hPb,APb⟩:=hH.mC (zE Pb (by omega)) oz;rw[ePb]at fPb;cases fPb;obtain⟨w1,w2,w3,rfl,q1,q2,q3⟩:=AR.bq8 APb;obtain⟨cG2,eG2,rfl⟩:=q1.DU;rw[eGb]at eG2;cases eG2;obtain⟨clb,elb,rfl⟩:=q2.yH;obtain rfl:=q3.bn3;obtain⟨xRb,CRb,fRb,hRb,ARb⟩:=hH.mC (zE Rb (by omega)) m7;rw[eRb]at fRb;cases fRb;obtain rfl:=AR.made ARb (by simp[fI,iV]);obtain⟨xZb,CZb,fZb,hZb,AZb⟩:=hH.mC (zE Zb (by omega)) nC;rw[eZb]at fZb;cases fZb;obtain rfl:=AR.made AZb (by simp[fI,iV]);obtain⟨kO1,kO2⟩:=kO;obtain⟨aB9,cur,oP,o1,o2⟩:∃aB9 cur,s.heap[gc]?=some (.cells cur 79 (0,0))/\cs.length<=aB9/\cur.size=aB9/\cur.toList.take cs.length=cs.map (Value.int .u64):=by
  rcases kO2 with⟨x,-⟩|⟨g,cap2,cur,hx,y1,y2,y3,y4,y5,y6⟩
  ·cases x
  ·cases hx;exact⟨_,cur,y2,y3,by rw[y5,Nat.mul_one],by rw[Nat.mul_one]at y6;exact y6⟩
 obtain⟨o2,o3⟩:=o2;obtain⟨xgc,Cgc,fgc,hgc,Agc⟩:=hH.mC (zE gc (by omega)) oP;rw[egc]at fgc;cases fgc;have gk:∀j,j<cs.length->Cgc[j]?=some (.int .u64 (cs.getD j 0)):=fun j hj=>by
  have h1:cur[j]?=some (.int .u64 (cs.getD j 0)):=by
   have h1:(cur.toList.take cs.length)[j]?=cur[j]?:=by rw[List.getElem?_take,if_pos hj,Array.getElem?_toList]
   rw[o3]at h1;rw[<-h1,List.getElem?_map,aN hj];simp[aC,hj]
  obtain⟨v',z1,z2⟩:=Agc.get h1;rw[z1];cases z2;rfl
 obtain⟨-,Ax,cx,hx,-,hcells⟩:=kC;cases hx;obtain⟨bx,ox,hx,-,hcells⟩:=hcells (by omega);cases hx;have hat:∀j u,(eX l)[j]?=some u->(World.on s τ d).cell? ⟨lb,j,none⟩=some u:=fun j u hu=>by have:=hcells j u hu;rwa [cZ]at this
 have hl0:=zT l 0 (by omega);obtain⟨bf0,Clb,eL,V5,hlb,Alb⟩:=hH.YU elb (zE lb (by omega)) (show s.cell? ⟨lb,0,none⟩=some _ from hat _ _ hl0.1);have lk:∀j u,(eX l)[j]?=some u->Clb[j]?=some u:=fun j u hu=>by
  have h1:=hat j u hu;have h2:bf0[j]?=some u:=by
   have:(World.on s τ d).cell? ⟨lb,j,none⟩=bf0[j]?:=by
    show s.cell? ⟨lb,j,none⟩=_;simp[bM,V5]
   rw[<-this];exact h1
  obtain⟨v',z1,z2⟩:=Alb.get h2;rw[z1];have hm:=b7 hu;simp only[eX,List.mem_flatMap]at hm;obtain⟨cm,_,hm⟩:=hm;simp only[Cm.cells,aM,bA,or_false]at hm;rcases hm with rfl|rfl|rfl<;>(cases z2;rfl)
 have l0:=lk _ _ hl0.1;have l1:=lk _ _ hl0.2.1;simp only[Nat.zero_mul,cZ]at l0 l1;obtain⟨nb8,ob8,db8⟩:=ji hV eb8 (zE b8 (by omega)) (by omega);obtain⟨bq6,bp4,bA4⟩:=ji hV aB2 (zE j0 (by omega)) (by omega);obtain⟨bq5,bp3,YK⟩:=ji hV aB1 (zE fR (by omega)) (by omega);obtain⟨bq4,bp2,bA3⟩:=ji hV aB0 (zE kJ (by omega)) (by omega);obtain⟨bq3,bp1,YJ⟩:=ji hV aA9 (zE b16 (by omega)) (by omega);obtain⟨bq2,bp0,YI⟩:=ji hV aA8 (zE fX (by omega)) (by omega);obtain⟨nGb,oGb,dGb⟩:=ji hV eGb (zE Gb (by omega)) (by omega);obtain⟨ngc,ogc,dgc⟩:=ji hV egc (zE gc (by omega)) (by omega);obtain⟨nPb,oPb,dPb⟩:=ji hV ePb (zE Pb (by omega)) (by omega);obtain⟨nlb,olb,dlb⟩:=ji hV elb (zE lb (by omega)) (by omega);obtain⟨nRb,oRb,dRb⟩:=ji hV eRb (zE Rb (by omega)) (by omega);obtain⟨nZb,oZb,dZb⟩:=ji hV eZb (zE Zb (by omega)) (by omega);obtain⟨nWg,oWg,dWg⟩:=ji hV eWg (zE Wg (by omega)) (by omega);refine⟨cb8,bB0,bA9,bA8,bA7,bA6,cGb,cgc,cPb,clb,cRb,cZb,cWg,iX,Cgc,Clb,eL,ha.1 ▸ psz,u3,u8,u9,u10,u11,u13,u14,u15,u16,u17,u18,fun i hi=>?_,V9,zg,QO,Mu,QN,QM,hGb,hgc,hPb,hlb,hRb,hZb,Uv,⟨?_,gk⟩,⟨?_,fun j u _ hu=>lk j u hu⟩,?_,?_,?_,?_,?_,?_,sh,hcap,hKB⟩
 ·obtain⟨v,z1,z2⟩:=ha.sl (tu i hi);rw[z1,z2.ah9]
 ·rw[<-Agc.1,o2];exact o1
 ·rcases bw Clb.size (3*l.length)with hlt|h
  ·have hlen:=gg l;have h3:=lk (3*l.length-1) _ (aN (by omega));have:=(Array.getElem?_eq_some_iff.1 h3).1
   omega
  ·exact h
 ·exact kA Mu hZb 1 (fun e=>by rw[u5 _ (by omega)]at e;cases e)
 ·intro b hb;simp only[aM,bA,or_false]at hb;rcases hb with rfl|rfl|rfl|rfl|rfl|rfl|rfl|rfl|rfl|rfl|rfl|rfl
  ·exact kA hlb V9 0 (by rw[l0];simp)
  ·exact kA hlb zg 0 (by rw[l0];simp)
  ·exact kA hlb QO 0 (by rw[l0];simp)
  ·exact kA hlb Mu 0 (by rw[l0];simp)
  ·exact kA hlb QN 0 (by rw[l0];simp)
  ·exact kA hlb QM 0 (by rw[l0];simp)
  ·exact kA hlb hGb 1 (by rw[l1];simp[gI])
  ·exact kA hlb hgc 0 (by rw[l0,gk 0 M.c0];simp)
  ·exact kA hlb hPb 0 (by rw[l0];simp)
  ·exact kA hlb hRb 0 (by rw[l0,u5 _ (by omega)];simp)
  ·exact kA hlb hZb 0 (by rw[l0,u5 _ (by omega)];simp)
  ·exact kA hlb Uv 0 (by rw[l0];simp)
 ·intro b hb;simp only[aM,bA,or_false]at hb;rcases hb with rfl|rfl|rfl|rfl|rfl|rfl|rfl|rfl|rfl|rfl|rfl|rfl|rfl
  ·exact(hH.low _ _ eb8).2
  ·exact(hH.low _ _ aB2).2
  ·exact(hH.low _ _ aB1).2
  ·exact(hH.low _ _ aB0).2
  ·exact(hH.low _ _ aA9).2
  ·exact(hH.low _ _ aA8).2
  ·exact(hH.low _ _ eGb).2
  ·exact(hH.low _ _ egc).2
  ·exact(hH.low _ _ ePb).2
  ·exact(hH.low _ _ elb).2
  ·exact(hH.low _ _ eRb).2
  ·exact(hH.low _ _ eZb).2
  ·exact(hH.low _ _ eWg).2
 ·intro b hb;simp only[aM,bA,or_false]at hb;rcases hb with rfl|rfl|rfl|rfl|rfl|rfl|rfl|rfl|rfl|rfl|rfl|rfl|rfl
  ·exact nb8
  ·exact bq6
  ·exact bq5
  ·exact bq4
  ·exact bq3
  ·exact bq2
  ·exact nGb
  ·exact ngc
  ·exact nPb
  ·exact nlb
  ·exact nRb
  ·exact nZb
  ·exact nWg
 ·intro b hb;simp only[aM,bA,or_false]at hb;rcases hb with rfl|rfl|rfl|rfl|rfl|rfl|rfl|rfl|rfl|rfl|rfl|rfl|rfl
  ·exact db8
  ·exact bA4
  ·exact YK
  ·exact bA3
  ·exact YJ
  ·exact YI
  ·exact dGb
  ·exact dgc
  ·exact dPb
  ·exact dlb
  ·exact dRb
  ·exact dZb
  ·exact dWg
 ·intro b hb off;simp only[aM,bA,or_false]at hb;rcases hb with rfl|rfl|rfl|rfl|rfl|rfl|rfl|rfl|rfl|rfl|rfl|rfl|rfl
  ·exact ob8 _ rfl rfl
  ·exact bp4 _ rfl rfl
  ·exact bp3 _ rfl rfl
  ·exact bp2 _ rfl rfl
  ·exact bp1 _ rfl rfl
  ·exact bp0 _ rfl rfl
  ·exact oGb _ rfl rfl
  ·exact ogc _ rfl rfl
  ·exact oPb _ rfl rfl
  ·exact olb _ rfl rfl
  ·exact oRb _ rfl rfl
  ·exact oZb _ rfl rfl
  ·exact oWg _ rfl rfl
section
def VP(t n:Int)(cs:List Int)(l:List Cm)(msg:ByteArray)(ns:Nat)(nv:Nat->Int)(num:Nat)(K:List (Nat×Obj))(v:af)(st:St eD):Prop:=
 (ja t n cs l msg ns≠0/\v=ru (ja t n cs l msg ns)/\kv 0 num K st)\/
 (ja t n cs l msg ns=0/\yD (iT l (cs.getD 0 0) msg) ((bq l.length).map nv) (fS (fun k=>iE (nv k) (l5 (iT l (cs.getD 0 0) msg) (cs.getD 0 0) msg) cs l msg k) l l.length) (num+l.length) K v st)
theorem ae8{t n:Int}{cs:List Int}{l:List Cm}{msg:ByteArray}{ns:Nat}(h0:ja t n cs l msg ns=0):ns=l.length:=by
 unfold ja at h0;split at h0
 ·cases h0
 split at h0
 ·rename_i h2;exact absurd h0 h2
 split at h0
 ·cases h0
 rename_i h3;simpa using h3
theorem Sh.mono{q:iK}{S:ak->Bool}{Ds:Nat->Bool}{ro:Nat->Md}{X:Nat->Prop}{fO st:St eD}{Φ Φ':Act->ae->Prop}{a':Act}(h:Sh q S Ds ro X fO Φ a' st)(hm:∀a w,Φ a w->Φ' a w):Sh q S Ds ro X fO Φ' a' st:=by
 obtain⟨ρ,a,s,h1,h2,h3,h4,h5,h6,τ,d,h7⟩:=h;exact⟨ρ,a,s,h1,h2,h3,h4,h5,h6,τ,d,hm _ _ h7⟩
theorem KF:(eK 12 iY).1.all (codeOk dS aS ES)=true:=kr
theorem MJ(x:Int):fI 4 (ru x)=true/\iV 4 (ru x)=true:=by simp[ru,fI,iV]
theorem Vt(t n:Int)(vg Aq:af)(msg:ByteArray)(sA:Option Addr)(ns cap:Nat):#[.agg #[.int .i64 t,.int .i64 n,vg],.string msg,Aq,.slice sA ns cap]++bN (107-4) av=#[.agg #[.int .i64 t,.int .i64 n,vg],.string msg,Aq,.slice sA ns cap,av,av,av,av,av,av,av,av,av,av,av,av,av,av,av,av,av,av,av,av,av,av,av,av,av,av,av,av,av,av,av,av,av,av,av,av,av,av,av,av,av,av,av,av,av,av,av,av,av,av,av,av,av,av,av,av,av,av,av,av,av,av,av,av,av,av,av,av,av,av,av,av,av,av,av,av,av,av,av,av,av,av,av,av,av,av,av,av,av,av,av,av,av,av,av,av,av,av,av,av,av,av,av]:=kr
theorem YY{S:ak->Bool}{ρ:Nat->Option Nat}{x:Array af}{m:Nat}(h:AR (fun f=>S f=true) ρ x x):AR (fun f=>S f=true) ρ (nI ES (x++bN m av)) (nI ES (x++bN m av)):=by
 refine Vr rfl fun i v v' _ h1 h2=>?_;rw[Array.getElem?_append]at h1 h2;split at h1
 ·rename_i hlt;rw[if_pos hlt]at h2;exact h.2 i v v' h1 h2
 ·rename_i hlt;rw[if_neg hlt]at h2;obtain⟨z1,z2⟩:=Array.getElem?_eq_some_iff.1 h1;obtain⟨z3,z4⟩:=Array.getElem?_eq_some_iff.1 h2;rw[Array.getElem_replicate]at z2 z4;subst z2 z4;exact VR.undef
section
variable{q:iK}(hP:q.P=dS)
include hP
theorem a98{st:St eD}{num:Nat}{K:List (Nat×Obj)}(hA:kv 0 num K st)(hI:Inv q st)(hG:q.tG=137)(hZ:q.tZ=76)(hR:q.tR=4)(hW:q.tW=116)
  {md:Nat->Option Md}{sw:ae}(hsw:sw.heap.size=st.w.heap.size)(hmd:∀b m,md b=some m->b<st.w.heap.size)(aX2:∀{Φ:Act->ae->Prop} {a a':Act},AR (fun f=>aS f=true) (ze md) (nI ES a.tmps) (nI ES a'.tmps)->a.defers=[]->a'.defers=[]->Φ a (World.on sw st.w.tape st.w.drawn)->Sh q aS ES (uY md) (fun _=>False) st Φ a' st){t n:Int}{vg Aq:af}{sA:Option Addr}{ns cap:Nat}{cs:List Int}{l:List Cm}{msg:ByteArray}{nv:Nat->Int}
  (har:AR (fun f=>aS f=true) (ze md) #[.agg #[.int .i64 t,.int .i64 n,vg],.string msg,Aq,.slice sA ns cap] #[.agg #[.int .i64 t,.int .i64 n,vg],.string msg,Aq,.slice sA ns cap])
  (hv:fW .u64 sw sw.heap.size vg cs)(hcb:∀i,i<cs.length->0<=cs.getD i 0)(hcl:cs.length<=65536)(hC:lI sw sw.heap.size Aq l)(hll:l.length<=65536)(hb:∀i,i<l.length->0<=(l.getD i .zero).d/\0<=(l.getD i .zero).e)(hns:ns<=65536)(CM:msg.size<=1000000)
  (hsh:0<ns->∃bS oS nmd,sA=some ⟨bS,oS,none⟩/\md bS=some (.read nmd)/\∃ob,(bS,ob)∈K/\∀(w:ae) (k:Nat),w.heap[bS]?=some ob->k<ns->w.cell? ⟨bS,oS+k,none⟩=some (.int .u64 (nv k)))(hcap:ns<=cap)(hnb:∀k,k<ns->0<=nv k/\nv k<18446744073709551616)
  {c:ai}{bs:List ai}(fin:∀v st',VP t n cs l msg ns nv num K v st'->Inv q st'->TT (cfg q) 0 (TW (cfg q)) (G (c.finish v) bs) st'):
  TT (cfg q) 0 (TW (cfg q)) (G (Frame.enter dS 27 #[.agg #[.int .i64 t,.int .i64 n,vg],.string msg,Aq,.slice sA ns cap] .normal) (c::bs)) st:=by
 have hfn:Try.prog.funcs[(base 27).fn]?=some Try.f27:=Try.func27;have e0:Frame.enter dS 27 #[.agg #[.int .i64 t,.int .i64 n,vg],.string msg,Aq,.slice sA ns cap] .normal=(base 27).at ⟨#[.agg #[.int .i64 t,.int .i64 n,vg],.string msg,Aq,.slice sA ns cap]++bN (107-4) av,[]⟩ [.code iY]:=by
  rw[enter_at (P:=dS) (c:=iY) _ Try.func27 rfl];rfl
 rw[e0];have hKB:∀b o,(b,o)∈K->b<st.w.heap.size:=fun b o h=>lt_of_block (hA.fz b o h).1;have hmk:Sh q aS ES (uY md) (fun _=>False) st (wpT dS (M9 t n cs l msg sA ns cap sw) (Rt t n cs l msg ns sw) (eK 12 iY).1) ⟨#[.agg #[.int .i64 t,.int .i64 n,vg],.string msg,Aq,.slice sA ns cap]++bN (107-4) av,[]⟩ st:=by
  refine aX2 (a:=⟨#[.agg #[.int .i64 t,.int .i64 n,vg],.string msg,Aq,.slice sA ns cap]++bN (107-4) av,[]⟩) (a':=⟨#[.agg #[.int .i64 t,.int .i64 n,vg],.string msg,Aq,.slice sA ns cap]++bN (107-4) av,[]⟩) (YY har) rfl rfl ?_;have:=Qb (w:=World.on sw st.w.tape st.w.drawn) (t:=t) (n:=n) (sA:=sA) (cap:=cap) (msg:=msg) hv hcb hcl hC hll hb hns CM
  rw[Vt];exact this
 have hpc:=TT.pieces (k:=[]) (T:=(eK 12 iY).2) (cst:=c::bs) (Ch:=TW (cfg q)) hP PC hI (b:=base 27) rfl (fun fn h=>Gc fn h) ?_ ?_ (eK 12 iY).1 (fun c hc=>List.all_eq_true.1 KF c hc) _ _ hmk
 ·rw[kj]at hpc;exact hpc
 ·intro wm st' hs;obtain⟨ρ,a,s,ha,hd,hd',hH,hV,hro,τ,d,hp⟩:=hs;have hA':kv 0 num K st':=hA.mn hV.2.2.2.1 fun _ _ _ h=>h;have p0:=hp.1;obtain rfl:=ae8 p0;obtain⟨M,-,h2⟩:=bC0 p0 CM hnb;obtain⟨bS,oS,nmd,rfl,hS,sh⟩:=hsh (by omega);rw[pL,pL]at ha;obtain⟨b8,j0,fR,kJ,b16,fX,Gb,gc,Pb,lb,Rb,Zb,Wg,iX,Cg,Cl,eL,D⟩:=Qa hmd hsw hH hV ha hS M h2 hp sh hcap hKB;obtain⟨T,df⟩:=wm;obtain rfl:df=[]:=hd';exact aB7 hP D M hA' hV.2.1 hG hZ hR hW fun v Zq h hi=>fin v Zq (.inr ⟨p0,h⟩) hi
 ·intro wm st' todo hs;refine TT.ret (R:=fun v w=>ja t n cs l msg ns≠0/\v=ru (ja t n cs l msg ns)) hP PC hI rfl hfn (Gc _ hfn) (hs.mono fun a w h=>⟨_,h.2.1,h.1,rfl⟩) fun v v' ρ s Zq hH hV hv' hR=>?_;obtain⟨τ,d,hE,rfl⟩:=hR;obtain rfl:=kL hv' (MJ _);exact fin _ Zq (.inl ⟨hE,rfl,hA.mn hV.2.2.2.1 fun _ _ _ h=>h⟩) hV.2.1
end
end
end Cc
namespace Cc
open Go.Conc Go.ConcN
open Go.ConcM (OsLater)
section
section
variable{q:iK}{dm num:Nat}{K:List (Nat×Obj)}{Ch:Nat->ah->St eD->Prop}{P:au}(hP:q.P=P){b:ai}{a:Act}{kk:List Item}{cs:List ai}{ops:Array Oper}{j:Nat}{rest:List Nat}{o:Oper}
theorem kv.keeps{st:St eD}(h:kv dm num K st){w':ae}(hw:∀b,b<st.w.heap.size->w'.heap[b]?=st.w.heap[b]?):Dw st w' K:=fun b o hb=>by
 obtain⟨h1,h2⟩:=h.fz b o hb;exact⟨(hw b (lt_of_block h1)).trans h1,h2.imp id .inl,h.nd b o hb⟩
include hP
theorem TT.aj6{st:St eD}(hA:kv dm num K st){t:aj}{ob:Obj}(ho:ops[j]?=some o)(hw:bg o (yielded ops a.tmps)=true)(hk:b.kind≠ .early)(hop:o.op=.alloc t)
  (hf:∀w:ae,(dw t true (.tuple #[])).run P w=.ok (.pointer (some ⟨w.heap.size,0,none⟩)) (w.alloc ob)/\(dw t true (.tuple #[])).events P w #[]=#[])
  (h:∀dY bl,kv dm num ((bl,ob)::K) dY->Inv q dY->(∀l,st.γ.ex 0 l->dY.γ.ex 0 l)->(∀off,dY.γ.ex 0 (ca bl off))->(∀b o,(b,o)∈K->b≠bl)->(∀l b,st.γ.ex 0 l->ij l=some b->b≠bl)->TT (cfg q) 0 Ch (G (b.at (a.put o.dst (.pointer (some ⟨bl,0,none⟩))) (.inRegion ops rest::kk)) cs) dY):TT (cfg q) 0 Ch (G (b.at a (.inRegion ops (j::rest)::kk)) cs) st:=by
 refine TT.Wy hP hA fun dV hr dX hi=>?_;have hsz:(dV.w.alloc ob).heap.size=dV.w.heap.size+1:=Array.size_push ..;have hold:∀b,b<dV.w.heap.size->(dV.w.alloc ob).heap[b]?=dV.w.heap[b]?:=fun b hb=>(cY ..).trans (if_neg (by omega));have hnew:(dV.w.alloc ob).heap[dV.w.heap.size]?=some ob:=(cY ..).trans (if_pos rfl);refine⟨_,_,_,(dV.w.heap.size,ob)::K,Dt ho hw hk hop (hf dV.w),rfl,⟨by omega,fun e he=>by simp at he,rfl,rfl,fun b hb=>.inl (hold b hb)⟩,fun b o' hb=>?_,fun dY _ eo eN hex zL=>h dY _ eo eN (fun l hl=>hex l (hr.ex (.inl rfl) l hl)) (fun off=>zL _ off nle (by omega)) (fun b o' hb e=>?_) fun l b hl hb e=>?_⟩
 ·rcases List.mem_cons.1 hb with e|hb
  ·cases e;exact⟨hnew,.inr (.inr nle),fun hd=>by have:=hi.base.dead _ hd;omega⟩
  ·exact(dX.keeps hold) b o' hb
 ·have:=lt_of_block (dX.fz _ _ hb).1
  omega
 ·have:=hi.base.tr.FD.low 0 l (hr.ex (.inl rfl) l hl) b hb
  omega
end
end
section
theorem LG{P:au}{main:Bool}{b:ai}{a:Act}{kk:List Item}{cs:List ai}{w:ae}{ops:Array Oper}{i:Nat}{rest:List Nat}{o:Oper}{t:aj}{x:Operand}{ad:Addr}{v:af}(ho:ops[i]?=some o)(hw:bg o (yielded ops a.tmps)=true)(hk:b.kind≠ .early)(hop:o.op=.load t x)(hx:a.eval x=.pointer (some ad))
  {F:Event->Prop}(h:(aT t (.pointer (some ad))).run P w=.ok v w/\∀e∈(aT t (.pointer (some ad))).events P w #[],F e):
  stepG P main (G (b.at a (.inRegion ops (i::rest)::kk)) cs) w=.go (G (b.at (a.put o.dst v) (.inRegion ops rest::kk)) cs) w (listed P b.fn a o w)/\∀e∈listed P b.fn a o w,F e:=by
 have hr:(ax a.eval o).run P w=.ok (.value v) w:=by
  unfold ax;simp only[hop,hx];simp[h.1]
 have he:(ax a.eval o).events P w #[]=(aT t (.pointer (some ad))).events P w #[]:=by
  unfold ax;simp only[hop,hx];simp[h.1]
 refine⟨stepG_value ho hw hk hr,fun e hm=>h.2 e ?_⟩;have:=mem_listed hm
 rwa [he]at this
theorem Ij{P:au}{main:Bool}{b:ai}{a:Act}{kk:List Item}{cs:List ai}{w w':ae}{ops:Array Oper}{i:Nat}{rest:List Nat}{o:Oper}{t:aj}{x y:Operand}{ad:Addr}{v:af}(ho:ops[i]?=some o)(hw:bg o (yielded ops a.tmps)=true)(hk:b.kind≠ .early)(hop:o.op=.store t x y)(hx:a.eval x=.pointer (some ad))(hy:a.eval y=v)
  {F:Event->Prop}(h:(bI t (.pointer (some ad)) v).run P w=.ok () w'/\∀e∈(bI t (.pointer (some ad)) v).events P w #[],F e):
  stepG P main (G (b.at a (.inRegion ops (i::rest)::kk)) cs) w=.go (G (b.at (a.put o.dst av) (.inRegion ops rest::kk)) cs) w' (listed P b.fn a o w)/\∀e∈listed P b.fn a o w,F e:=by
 have hr:(ax a.eval o).run P w=.ok .skip w':=by
  unfold ax;simp only[hop,hx,hy];simp[h.1]
 have he:(ax a.eval o).events P w #[]=(bI t (.pointer (some ad)) v).events P w #[]:=by
  unfold ax;simp only[hop,hx,hy];simp
 refine⟨stepG_none ho hw hk hr,fun e hm=>h.2 e ?_⟩;have:=mem_listed hm
 rwa [he]at this
section
variable{q:iK}{dm num:Nat}{K:List (Nat×Obj)}{Ch:Nat->ah->St eD->Prop}{P:au}(hP:q.P=P){b:ai}{a:Act}{kk:List Item}{cs:List ai}{ops:Array Oper}{j:Nat}{rest:List Nat}{o:Oper}
include hP
theorem TT.Ls{st:St eD}(hA:kv dm num K st){t:aj}{y:Operand}{bl off:Nat}{v:af}{ob:Obj}(ho:ops[j]?=some o)(hw:bg o (yielded ops a.tmps)=true)(hk:b.kind≠ .early)(hop:o.op=.load t y)(hy:a.eval y=.pointer (some ⟨bl,off,none⟩))(hK:(bl,ob)∈K)
  (hf:∀w:ae,w.heap[bl]?=some ob->(aT t (.pointer (some ⟨bl,off,none⟩))).run P w=.ok v w/\∀e∈(aT t (.pointer (some ⟨bl,off,none⟩))).events P w #[],∃off',e=⟨.cell ⟨bl,off',none⟩,false,false⟩)
  (h:∀dY,kv dm num K dY->Inv q dY->(∀l,st.γ.ex 0 l->dY.γ.ex 0 l)->TT (cfg q) 0 Ch (G (b.at (a.put o.dst v) (.inRegion ops rest::kk)) cs) dY):TT (cfg q) 0 Ch (G (b.at a (.inRegion ops (j::rest)::kk)) cs) st:=by
 refine TT.Wy hP hA fun dV hr dX hi=>?_;obtain⟨f1,f2⟩:=dX.fz _ _ hK;obtain⟨s1,s2⟩:=LG (P:=P) (main:=(0:Nat)==0) (cs:=cs) (kk:=kk) (rest:=rest) ho hw hk hop hy (hf dV.w f1);refine⟨_,_,_,K,s1,rfl,⟨aH _,fun e he=>?_,rfl,rfl,fun _ _=>.inl rfl⟩,dX.keeps fun _ _=>rfl,fun dY _ eo eN hex _=>h dY eo eN fun l hl=>hex l (hr.ex (.inl rfl) l hl)⟩;obtain⟨off',he'⟩:=s2 e he;exact⟨bl,off',false,he',lt_of_block f1,fun s' hs'=>(by rw[dX.sc]at hs';cases hs'),f2.elim (fun f=>.inl (f off')) fun f=>.inr (.inl ⟨rfl,f off'⟩)⟩
theorem TT.Wx{st:St eD}(hA:kv dm num K st){K':List (Nat×Obj)}{t:aj}{y z:Operand}{bl off:Nat}{v:af}{ob ob':Obj}(ho:ops[j]?=some o)(hw:bg o (yielded ops a.tmps)=true)(hk:b.kind≠ .early)(hop:o.op=.store t y z)(hy:a.eval y=.pointer (some ⟨bl,off,none⟩))(hz:a.eval z=v)(hK:(bl,ob)∈K)
  (hex:∀off,st.γ.ex 0 (ca bl off))(hK':∀b o,(b,o)∈K'->(b=bl/\o=ob')\/(b≠bl/\(b,o)∈K))
  (hf:∀(w:ae),w.heap[bl]?=some ob->∃w',((bI t (.pointer (some ⟨bl,off,none⟩)) v).run P w=.ok () w'/\∀e∈(bI t (.pointer (some ⟨bl,off,none⟩)) v).events P w #[],∃off' x,e=⟨.cell ⟨bl,off',none⟩,x,false⟩)/\w'.heap.size=w.heap.size/\w'.os=w.os/\w'.output=w.output/\(∀b,b≠bl->w'.heap[b]?=w.heap[b]?)/\w'.heap[bl]?=some ob')
  (h:∀dY,kv dm num K' dY->Inv q dY->(∀l,st.γ.ex 0 l->dY.γ.ex 0 l)->TT (cfg q) 0 Ch (G (b.at (a.put o.dst av) (.inRegion ops rest::kk)) cs) dY):TT (cfg q) 0 Ch (G (b.at a (.inRegion ops (j::rest)::kk)) cs) st:=by
 refine TT.Wy hP hA fun dV hr dX hi=>?_;obtain⟨f1,f2⟩:=dX.fz _ _ hK;obtain⟨w',hst,w1,w2,w3,w4,w5⟩:=hf dV.w f1;obtain⟨s1,s2⟩:=Ij (P:=P) (main:=(0:Nat)==0) (cs:=cs) (kk:=kk) (rest:=rest) ho hw hk hop hy hz hst;refine⟨_,_,_,K',s1,rfl,⟨Nat.le_of_eq w1.symm,fun e' he=>?_,w2,w3,fun b hb=>?_⟩,fun b o' hb=>?_,fun dY _ eo eN hx _=>h dY eo eN fun l hl=>hx l (hr.ex (.inl rfl) l hl)⟩
 ·obtain⟨off',x,he'⟩:=s2 e' he;exact⟨bl,off',x,he',by rw[w1];exact lt_of_block f1,fun s' hs'=>(by rw[dX.sc]at hs';cases hs'),.inl (hr.ex (.inl rfl) _ (hex off'))⟩
 ·by_cases e1:b=bl
  ·subst e1;exact .inr fun off=>hr.ex (.inl rfl) _ (hex off)
  ·exact .inl (w4 b e1)
 ·rcases hK' b o' hb with⟨rfl,rfl⟩|⟨e1,hb'⟩
  ·exact⟨w5,.inl fun off=>hr.ex (.inl rfl) _ (hex off),dX.nd _ _ hK⟩
  ·obtain⟨g1,g2⟩:=dX.fz _ _ hb';exact⟨(w4 b e1).trans g1,g2.imp id .inl,dX.nd _ _ hb'⟩
end
end
end Cc
namespace Cc
open Go.Conc Go.ConcN
theorem VR.ex(v':af):∃v:af,∀(S:ak->Prop) (ρ:Nat->Option Nat),VR S ρ v v':=by
 have key:∀(n:Nat) (v':af),SizeOf.sizeOf v'<=n->∃v:af,∀(S:ak->Prop) (ρ:Nat->Option Nat),VR S ρ v v':=by
  intro n;induction n with
  |zero=>intro v' h;exact absurd h (by cases v'<;>simp<;>omega)
  |succ n ih=>
   intro v' h;have arr:∀x:Array af,SizeOf.sizeOf x<=n->∃y:Array af,y.size=x.size/\∀(S:ak->Prop) (ρ:Nat->Option Nat) (i:Nat) (v v':af),y[i]?=some v->x[i]?=some v'->VR S ρ v v':=fun x hx=>by
    have ih':∀(i:Nat) (h:i<x.size),∃v:af,∀(S:ak->Prop) (ρ:Nat->Option Nat),VR S ρ v x[i]:=fun i h=>ih x[i] (by have:=Array.sizeOf_getElem x i h;omega);refine⟨Array.ofFn fun i:Fin x.size=>Classical.choose (ih' i.1 i.2),by simp,fun S ρ i v v' h1 h2=>?_⟩;obtain⟨hlt,rfl⟩:=Array.getElem?_eq_some_iff.1 h2;obtain⟨h3,rfl⟩:=Array.getElem?_eq_some_iff.1 h1;simp only[Array.getElem_ofFn];exact Classical.choose_spec (ih' i hlt) S ρ
   cases v' with
   |agg x=>
    obtain⟨y,h1,h2⟩:=arr x (by simp at h<;>omega);exact⟨.agg y,fun S ρ=>.agg h1 (h2 S ρ)⟩
   |tuple x=>
    obtain⟨y,h1,h2⟩:=arr x (by simp at h<;>omega);exact⟨.tuple y,fun S ρ=>.tuple h1 (h2 S ρ)⟩
   |bool b=>exact⟨.bool b,fun _ _=>.bool b⟩
   |_=>exact⟨.nilIface,fun _ _=>.junk (by intro x e;cases e) (by intro x e;cases e) (by intro x e;cases e)⟩
 exact key _ v' nle
open Classical in
noncomputable def WA(S:ak->Bool)(md:Nat->Option Md)(v:af):af:=if VR (fun f=>S f=true) (ze md) v v then v else Classical.choose (VR.ex v)
theorem Wz(S:ak->Bool)(md:Nat->Option Md)(v:af):VR (fun f=>S f=true) (ze md) (WA S md v) v:=by
 unfold WA;split
 ·assumption
 ·exact Classical.choose_spec (VR.ex v) _ _
theorem Sp{S:ak->Bool}{md:Nat->Option Md}{v:af}(h:VR (fun f=>S f=true) (ze md) v v):WA S md v=v:=by unfold WA;rw[if_pos h]
noncomputable def l7(S:ak->Bool)(w:ae)(md:Nat->Option Md):ae:=
 {w with heap:=Array.ofFn (n:=w.heap.size) fun b=>match md b.1,w.heap[b.1]? with
   |some (.read n),some (.cells C e _)=>.cells ((C.extract 0 n).map (WA S md)) e (0,n)
   |_,_=>.coro none}
theorem og(S:ak->Bool)(w:ae)(md:Nat->Option Md):(l7 S w md).heap.size=w.heap.size:=by simp[l7]
theorem BO{S:ak->Bool}{w:ae}{md:Nat->Option Md}{b n:Nat}{C:Array af}{e:aj}{fz:Nat×Nat}(hv:md b=some (.read n))(h:w.heap[b]?=some (.cells C e fz)):(l7 S w md).heap[b]?=some (.cells ((C.extract 0 n).map (WA S md)) e (0,n)):=by
 have hlt:=lt_of_block h;have he:w.heap[b]=.cells C e fz:=by rw[aI hlt]at h;exact Option.some.inj h
 simp[l7,hlt,hv,he]
theorem Lx{S:ak->Bool}{w:ae}{md:Nat->Option Md}{b:Nat}(hv:md b=none):(l7 S w md).heap[b]?=none\/∃x,(l7 S w md).heap[b]?=some (.coro x):=by
 rcases bw b w.heap.size with h|h
 ·exact .inr ⟨none,by simp[l7,h,hv]⟩
 ·exact .inl (by simp[l7,h])
theorem LA{S:ak->Bool}{w:ae}{md:Nat->Option Md}{b n o:Nat}{v:af}(hm:md b=some (.read n))(ho:o<n)(hc:w.cell? ⟨b,o,none⟩=some v)(hv:VR (fun f=>S f=true) (ze md) v v):(l7 S w md).cell? ⟨b,o,none⟩=some v:=by
 have hlt:=bY w _ hc;have hb:w.heap[b]?=some w.heap[b]:=aI hlt;unfold bM at hc ⊢;rw[hb]at hc;generalize w.heap[b]=ob at hb hc;cases ob with
 |cells C e fz=>
  simp only[Option.isSome_none,Bool.false_eq_true,if_false]at hc;rw[BO hm hb];simp only[Option.isSome_none,Bool.false_eq_true,if_false];have h1:(C.extract 0 n)[o]?=some v:=by
   rw[dK];have:=(Array.getElem?_eq_some_iff.1 hc).1
   rw[if_pos (by omega),cZ];exact hc
  rw[Array.getElem?_map,h1,Option.map_some,Sp hv]
 |_=>simp at hc
section
variable{q:iK}{S:ak->Bool}
def FI(q:iK)(md:Nat->Option Md)(st:St eD):Prop:=
 ∀b m,md b=some m->q.P.globals.size<=b/\¬st.γ.dead b/\∃C e fz n,st.w.heap[b]?=some (.cells C e fz)/\m=.read n/\n<=C.size/\((∀off,st.γ.rd 0 (ca b off))\/∀off,st.γ.ex 0 (ca b off))
theorem FI.hr{md:Nat->Option Md}{st:St eD}(h:FI q md st)(hi:Inv q st):HR q.P.globals.size (fun f=>S f=true) (uY md) (ze md) (l7 S st.w md) st.w where
 inj:=fun b b' c h1 h2=>(jX h1).1.trans (jX h2).1.symm
 row:=fun b c hb=>by
  obtain⟨rfl,m,hm⟩:=jX hb;obtain⟨-,-,C,e,fz,n,h1,rfl,hn,_⟩:=h b m hm;have hro:uY md b=.read n:=by simp[uY,hm]
  refine⟨_,_,BO hm h1,h1,?_⟩;have hsz:((C.extract 0 n).map (WA S md)).size=n:=by simp<;>omega
  have:OR (fun f=>S f=true) (uY md b) (ze md) (.cells ((C.extract 0 n).map (WA S md)) e (0,(uY md b).hi ((C.extract 0 n).map (WA S md)).size)) (.cells C e fz):=by
   refine .cells (by rw[hsz];exact hn) (fun k v hk=>?_) (fun x=>by rw[hro]at x;cases x) (fun m hm=>by rw[hro]at hm;cases hm;exact hsz);rw[Array.getElem?_map,bt]at hk;obtain⟨u,hk,rfl⟩:=hk;have hlt:=(Array.getElem?_eq_some_iff.1 hk).1;rw[dK]at hk;split at hk
   ·simp at hk<;>exact⟨u,hk,Wz S md u⟩
   ·cases hk
  rw[hro,Md.hi,hsz]at this;rwa [hro]
 hole:=fun b hb=>Lx (by
  cases hv:md b with
  |none=>rfl
  |some n=>rw[jF hv]at hb;cases hb)
 low:=fun b c hb=>by obtain⟨rfl,m,hm⟩:=jX hb;exact⟨(h b m hm).1,(h b m hm).1⟩
 gs:=by rw[og];exact hi.base.JY
 gw:=hi.base.JY
theorem FI.lt{md:Nat->Option Md}{st:St eD}(h:FI q md st):∀b m,md b=some m->b<st.w.heap.size:=fun b m hm=>by
 obtain⟨-,-,C,e,fz,n,h1,_⟩:=h b m hm;exact lt_of_block h1
theorem Sh.ZX{md:Nat->Option Md}{st:St eD}(h:FI q md st)(hi:Inv q st){X:Nat->Prop}{Ds:Nat->Bool}{Φ:Act->ae->Prop}{a a':Act}(ha:AR (fun f=>S f=true) (ze md) (nI Ds a.tmps) (nI Ds a'.tmps))(hd:a.defers=[])(hd':a'.defers=[])
  (hΦ:Φ a (World.on (l7 S st.w md) st.w.tape st.w.drawn)):Sh q S Ds (uY md) X st Φ a' st:=by
 refine⟨ze md,a,l7 S st.w md,ha,hd,hd',h.hr hi,⟨⟨hi.base.pos,.inl rfl,fun b c hb=>?_⟩,hi,fun b c hb hro=>?_,Mn.refl st,fun b c hb=>?_⟩,fun b hb=>?_,_,_,hΦ⟩
 ·obtain⟨rfl,m,hm⟩:=jX hb;obtain⟨-,-,C,e,fz,n,h1,rfl,hn,h2⟩:=h b m hm;have hro:uY md b=.read n:=by simp[uY,hm]
  rw[hro];exact h2.imp id .inl
 ·obtain⟨rfl,m,hm⟩:=jX hb;obtain⟨-,-,C,e,fz,n,h1,rfl,hn,h2⟩:=h b m hm;simp[uY,hm]at hro
 ·obtain⟨rfl,m,hm⟩:=jX hb;exact⟨(h b m hm).2.1,fun _=>rfl,fun _ _=>rfl⟩
 ·unfold uY;cases hv:md b with
  |none=>rfl
  |some m=>
   have:=h.lt b m hv
   rw[og]at hb;omega
end
end Cc
namespace Cc
open Go.Conc Go.ConcN Mem
open Classical in
noncomputable def DG(K:List (Nat×Obj))(b:Nat):Option Md:=if h:∃(C:Array af) (e:aj) (fz:Nat×Nat),(b,az C e fz)∈K then some (.read (Classical.choose h).size)else none
section
variable{q:iK}{dm num:Nat}{K:List (Nat×Obj)}{st:St eD}{S:ak->Bool}{A:Option Addr}
theorem kv.DG(hA:kv dm num K st){b:Nat}{C:Array af}{e:aj}{fz:Nat×Nat}(h:(b,az C e fz)∈K):DG K b=some (.read C.size):=by
 unfold Cc.DG;have hex:∃(C:Array af) (e:aj) (fz:Nat×Nat),(b,az C e fz)∈K:=⟨C,e,fz,h⟩;rw[dif_pos hex];obtain⟨e',O4,h'⟩:=Classical.choose_spec hex;have h1:=(hA.fz _ _ h).1;have h2:=(hA.fz _ _ h').1;rw[h1]at h2;cases h2;rfl
theorem Xz{b:Nat}{m:Md}(h:DG K b=some m):∃(C:Array af) (e:aj) (fz:Nat×Nat),(b,az C e fz)∈K/\m=.read C.size:=by
 unfold DG at h;split at h
 ·rename_i hex;obtain⟨e',O4,h'⟩:=Classical.choose_spec hex;cases h;exact⟨_,e',O4,h',rfl⟩
 ·cases h
theorem kv.Zx(hA:kv dm num K st)(hg:q.P.globals.size=0):FI q (Cc.DG K) st:=fun b m hm=>by
 obtain⟨C,e,fz,h,rfl⟩:=Xz hm;obtain⟨h1,h2⟩:=hA.fz _ _ h;exact⟨by omega,hA.nd _ _ h,C,e,fz,C.size,h1,rfl,aH _,h2.symm⟩
theorem kv.ae2(hA:kv dm num K st){b off:Nat}{C:Array af}{e:aj}{fz:Nat×Nat}{v:af}(h:(b,az C e fz)∈K)(hc:C[off]?=some v)(hv:VR (fun f=>S f=true) (ze (Cc.DG K)) v v):(l7 S st.w (Cc.DG K)).cell? ⟨b,off,none⟩=some v:=by
 refine LA (hA.DG h) (Array.getElem?_eq_some_iff.1 hc).1 ?_ hv;simp only[bM,(hA.fz _ _ h).1];simpa using hc
def VB(K:List (Nat×Obj))(A:Option Addr):Prop:=A=none\/∃b off,A=some ⟨b,off,none⟩/\∃(C:Array af) (e:aj) (fz:Nat×Nat),(b,az C e fz)∈K
theorem VB.vr(h:VB K A)(hA:kv dm num K st)(L c:Nat):VR (fun f=>S f=true) (ze (Cc.DG K)) (.slice A L c) (.slice A L c):=by
 rcases h with rfl|⟨b,off,rfl,C,e,fz,h⟩
 ·exact .ig _ _
 ·exact .slice _ _ _ _ (jF (hA.DG h))
theorem VB.mono{K':List (Nat×Obj)}(h:VB K A)(hs:∀b o,(b,o)∈K->(b,o)∈K'):VB K' A:=by
 rcases h with rfl|⟨b,off,rfl,C,e,fz,h⟩
 ·exact .inl rfl
 ·exact .inr ⟨b,off,rfl,C,e,fz,hs _ _ h⟩
def oM(K:List (Nat×Obj))(k:IntKind)(A:Option Addr)(c:Nat)(l:List Int):Prop:=l.length<=c/\VB K A/\(0<l.length->∃b off,A=some ⟨b,off,none⟩/\∃(C:Array af) (e:aj) (fz:Nat×Nat),(b,az C e fz)∈K/\∀i,i<l.length->C[off+i]?=some (.int k (l.getD i 0)))
theorem oM.mono{K':List (Nat×Obj)}{k:IntKind}{c:Nat}{l:List Int}(h:oM K k A c l)(hs:∀b o,(b,o)∈K->(b,o)∈K'):oM K' k A c l:=by
 obtain⟨h1,h2,h3⟩:=h;refine⟨h1,h2.mono hs,fun hl=>?_⟩;obtain⟨b,off,e1,C,e,fz,h4,h5⟩:=h3 hl;exact⟨b,off,e1,C,e,fz,hs _ _ h4,h5⟩
theorem oM.nums{k:IntKind}{c:Nat}{l:List Int}(h:oM K k A c l)(hA:kv dm num K st):fW k (l7 S st.w (Cc.DG K)) (l7 S st.w (Cc.DG K)).heap.size (.slice A l.length c) l:=by
 obtain⟨h1,h2,h3⟩:=h;refine⟨A,c,rfl,h1,fun hl=>?_⟩;obtain⟨b,off,e1,C,e,fz,h4,h5⟩:=h3 hl;exact⟨b,off,e1,by rw[og];exact lt_of_block (hA.fz _ _ h4).1,fun i hi=>hA.ae2 h4 (h5 i hi) (.int _ _)⟩
def z7(K:List (Nat×Obj))(A:Option Addr)(c:Nat)(l:List Cm):Prop:=l.length<=c/\VB K A/\(0<l.length->∃b off,A=some ⟨b,off,none⟩/\∃(C:Array af) (e:aj) (fz:Nat×Nat),(b,az C e fz)∈K/\∀j u,(eX l)[j]?=some u->C[off+j]?=some u)
theorem z7.mono{K':List (Nat×Obj)}{c:Nat}{l:List Cm}(h:z7 K A c l)(hs:∀b o,(b,o)∈K->(b,o)∈K'):z7 K' A c l:=by
 obtain⟨h1,h2,h3⟩:=h;refine⟨h1,h2.mono hs,fun hl=>?_⟩;obtain⟨b,off,e1,C,e,fz,h4,h5⟩:=h3 hl;exact⟨b,off,e1,C,e,fz,hs _ _ h4,h5⟩
theorem aB8{ρ:Nat->Option Nat}{l:List Cm}{j:Nat}{u:af}(hu:(eX l)[j]?=some u):VR (fun f=>S f=true) ρ u u:=by
 have hm:=b7 hu;simp only[eX,List.mem_flatMap]at hm;obtain⟨cm,_,hm⟩:=hm;simp only[Cm.cells,aM,bA,or_false]at hm;rcases hm with rfl|rfl|rfl<;>exact .int _ _
theorem z7.iJ{c:Nat}{l:List Cm}(h:z7 K A c l)(hA:kv dm num K st):lI (l7 S st.w (Cc.DG K)) (l7 S st.w (Cc.DG K)).heap.size (.slice A l.length c) l:=by
 obtain⟨h1,h2,h3⟩:=h;refine⟨gg l,A,c,rfl,h1,fun hl=>?_⟩;obtain⟨b,off,e1,C,e,fz,h4,h5⟩:=h3 hl;exact⟨b,off,e1,by rw[og];exact lt_of_block (hA.fz _ _ h4).1,fun j u hu=>hA.ae2 h4 (h5 j u hu) (aB8 hu)⟩
end
end Cc
namespace Rag
open Go.RowKit Go.Conc Cc Pl mJ nG mI uU Mem ng Hr PG
def sumTo(rt:Nat->Bool)(zs:List Int):Nat->Int
 |0=>0
 |k+1=>if rt k then(sumTo rt zs k+zs.getD k 0)%1073741789 else sumTo rt zs k
theorem Ii(rt:Nat->Bool)(zs:List Int)(hz:∀k,k<zs.length->0<=zs.getD k 0):∀k,0<=sumTo rt zs k/\sumTo rt zs k<1073741789
 |0=>by simp[sumTo]
 |k+1=>by
  rw[sumTo];split
  ·omega
  ·exact Ii rt zs hz k
theorem ED(rt:Nat->Bool)(zs:List Int)(hz:∀k,k<zs.length->0<=zs.getD k 0/\zs.getD k 0<1073741789):∀k,k<=zs.length->(∀j,j<k->rt j=true)->sumTo rt zs k=xA 0 zs k
 |0,_,_=>rfl
 |k+1,hk,h=>by
  have b:=Ii rt zs (fun k hk=>(hz k hk).1) k;have z:=hz k (by omega);rw[sumTo,if_pos (h k (by omega)),xA,<-ED rt zs hz k (by omega) fun j hj=>h j (by omega)];unfold kW;rw[ny (by omega) (by omega)]
theorem SY(xs:List Int):∀n,0<=oX 1 xs n/\oX 1 xs n<2147483579
 |0=>by simp[oX]
 |n+1=>by rw[oX];exact Bq _ _
theorem YZ(l:List Cm)(key:Int)(msg:ByteArray):0<=iT l key msg/\iT l key msg<2147483579:=SY _ _
structure Ans where
 r:Int
 z:Int
 ids:List Int
 e:Int
def mj(t n:Int)(cs:List Int)(l:List Cm)(msg:ByteArray)(zs:List Int)(rt:Nat->Bool):Ans:=
 if ja t n cs l msg zs.length≠0 then⟨0,0,[],ja t n cs l msg zs.length⟩else if fS rt l l.length=[]then⟨iT l (cs.getD 0 0) msg,sumTo rt zs l.length,[],0⟩else⟨0,0,fS rt l l.length,14⟩
def Ans.val(a:Ans)(W:af):af:=.tuple #[.agg #[.int .u64 a.r,.int .u64 a.z],W,.int .i64 a.e]
end Rag
namespace Cc
open Go.Conc Go.ConcN Go.RowKit
open Pl mJ nG mI Mem ng Ew KM PG Hr Lc Rag
open uU hiding base
theorem TT.Sr{q:iK}{P:au}(hP:q.P=P){Ch:Nat->ah->St eD->Prop}{st:St eD}{b:ai}{a:Act}{kk:List Item}{cs:List ai}{ops:Array Oper}{i:Nat}{rest:List Nat}{o:Oper}{f:ak}{args:Array af}(ho:ops[i]?=some o)(hw:bg o (yielded ops a.tmps)=true)(hk:b.kind≠ .early)
  (hr:∀w:ae,(ax a.eval o).run P w=.ok (.enter f args) w)(he:∀w:ae,(ax a.eval o).events P w #[]=#[])
  (h:TT (cfg q) 0 Ch (G (Frame.enter P f args .normal) (b.at a (.inRegion ops (i::rest)::kk)::cs)) st):TT (cfg q) 0 Ch (G (b.at a (.inRegion ops (i::rest)::kk)) cs) st:=by
 subst hP;refine TT.lO rfl 4 fun w₀ hF=>Goes.step rfl fun w₁ aU4=>?_;show(stepG q.P (0==0) (G (b.at a (.inRegion ops (i::rest)::kk)) cs) w₁).goes _;rw[stepG_enter ho hw hk (hr w₁)];unfold listed;rw[he,seen_none];exact⟨⟨rfl,rfl⟩,Goes.stop fun w₂ _=>⟨rfl,h⟩⟩
theorem M6{t n:Int}{cs zs:List Int}{l:List Cm}{msg:ByteArray}{num:Nat}{K:List (Nat×Obj)}{v:af}{st:St eD}(hz:∀k,k<zs.length->0<=zs.getD k 0)(h:VP t n cs l msg zs.length (fun k=>zs.getD k 0) num K v st):
  ∃(A:Option Addr) (c num':Nat) (K':List (Nat×Obj)),v=(mj t n cs l msg zs (fun k=>iE (zs.getD k 0) (l5 (iT l (cs.getD 0 0) msg) (cs.getD 0 0) msg) cs l msg k)).val (.slice A (mj t n cs l msg zs (fun k=>iE (zs.getD k 0) (l5 (iT l (cs.getD 0 0) msg) (cs.getD 0 0) msg) cs l msg k)).ids.length c)/\
   kv 0 num' K' st/\(∀b o,(b,o)∈K->(b,o)∈K')/\oM K' .i64 A c (mj t n cs l msg zs (fun k=>iE (zs.getD k 0) (l5 (iT l (cs.getD 0 0) msg) (cs.getD 0 0) msg) cs l msg k)).ids:=by
 generalize hrt:(fun k=>iE (zs.getD k 0) (l5 (iT l (cs.getD 0 0) msg) (cs.getD 0 0) msg) cs l msg k)=rt at h ⊢;have hnil:oM K .i64 none 0 []:=⟨aH _,.inl rfl,fun h=>absurd h (by simp)⟩;rcases h with⟨h1,rfl,h2⟩|⟨h1,h2⟩
 ·refine⟨none,0,num,K,?_,h2,fun _ _ h=>h,?_⟩
  ·unfold mj;rw[if_pos h1];rfl
  ·unfold mj;rw[if_pos h1];exact hnil
 ·rw[hrt]at h2;have hns:=ae8 h1;rcases h2 with⟨h3,rfl,h4⟩|⟨h3,c,cap,C,rfl,h4,h7,h5,h6⟩
  ·refine⟨none,0,num+l.length,K,?_,h4,fun _ _ h=>h,?_⟩
   ·unfold mj;rw[if_neg (by simpa using h1),if_pos h3];have hall:=(PL rt l l.length).1 h3;have e1:(bq l.length).map (fun k=>zs.getD k 0)=zs:=by
     refine List.ext_getElem (by simp[hns]) fun i i1 i2=>?_;simp[aC,i2]
    have e2:=ED rt zs (fun k hk=>⟨hz k hk,by
     have:=hall k (by omega)
     rw[<-hrt]at this;simp only[iE,Bool.and_eq_true,decide_eq_true_eq]at this;exact this.1⟩) l.length (by omega) hall
    rw[e1,e2,hns];rfl
   ·unfold mj;rw[if_neg (by simpa using h1),if_pos h3];exact hnil
  ·refine⟨some ⟨c,0,none⟩,cap,num+l.length,_,?_,h4,fun _ _ h=>aR _ h,?_⟩
   ·unfold mj;rw[if_neg (by simpa using h1),if_neg h3];rfl
   ·unfold mj;rw[if_neg (by simpa using h1),if_neg h3];exact⟨h7,.inr ⟨c,0,rfl,C,_,_,dh ..⟩,fun _=>⟨c,0,rfl,C,_,_,dh ..,fun i hi=>by rw[cZ];exact h6 i hi⟩⟩
theorem FX{P:au}{b:ai}{a:Act}{w w':ae}{fn:Func}{todo:List Item}{v:af}(hn:b.kind=.normal)(hd:a.defers=[])(hf:P.funcs[b.fn]?=some fn)(hi:P.inits.idxOf? b.fn=none)(hr:(results fn a.tmps).run P w=.ok v w')(he:(results fn a.tmps).events P w #[]=#[]):
  stepG P true (G {b.at a todo with mode:=.returning} []) w=.ended (.done v) w' #[]:=by
 have hs:seen P b.fn #[]=#[]:=seen_none ..;simp[G,stepG,unwind,doReturn,Frame.at,hn,hd,hf,hr,he,hs,hi,GStep.after]
theorem yf(t n:Int)(x:af)(hx:(∀a,x≠ .agg a)/\∀a,x≠ .tuple a){bl:Nat}(w:ae)(h:w.heap[bl]?=some (.cells #[.int .i64 t,.int .i64 n,x] 31 (0,0))):
  (aT 31 (.pointer (some ⟨bl,0,none⟩))).run dS w=.ok (.agg #[.int .i64 t,.int .i64 n,x]) w/\∀e∈(aT 31 (.pointer (some ⟨bl,0,none⟩))).events dS w #[],∃off',e=⟨.cell ⟨bl,off',none⟩,false,false⟩:=by
 have c0:w.cell? ⟨bl,0,none⟩=some (.int .i64 t):=by simp[bM,h]
 have c1:w.cell? ⟨bl,1,none⟩=some (.int .i64 n):=by simp[bM,h]
 have c2:w.cell? ⟨bl,2,none⟩=some x:=by simp[bM,h]
 constructor
 ·simp[go_sem,c0,c1,c2]
 ·intro e he;simp[go_sem,c0,c1,c2]at he;rcases he with rfl|rfl|rfl<;>exact⟨_,rfl⟩
theorem Bv(w:ae):(dw 47 true (.tuple #[])).run dS w=.ok (.pointer (some ⟨w.heap.size,0,none⟩)) (w.alloc (.cells #[.int .u64 0,.int .u64 0] 47))/\(dw 47 true (.tuple #[])).events dS w #[]=#[]:=by
 constructor<;>simp[go_sem]
theorem Al(r z:Int){bl:Nat}(w:ae)(h:w.heap[bl]?=some (.cells #[.int .u64 0,.int .u64 0] 47 (0,0))):
  ∃w',((bI 47 (.pointer (some ⟨bl,0,none⟩)) (.agg #[.int .u64 r,.int .u64 z])).run dS w=.ok () w'/\∀e∈(bI 47 (.pointer (some ⟨bl,0,none⟩)) (.agg #[.int .u64 r,.int .u64 z])).events dS w #[],∃off' x,e=⟨.cell ⟨bl,off',none⟩,x,false⟩)/\w'.heap.size=w.heap.size/\w'.os=w.os/\w'.output=w.output/\(∀b,b≠bl->w'.heap[b]?=w.heap[b]?)/\w'.heap[bl]?=some (.cells #[.int .u64 r,.int .u64 z] 47 (0,0)):=by
 have B:ft w bl 47 #[.int .u64 0,.int .u64 0]:=h;have e0:=B.cell 0;have e1:=B.cell 1;have f0:=B.frozen 0;have f1:=B.frozen 1;have B2:=((B.iM 0 (.int .u64 r)).iM 1 (.int .u64 z));refine⟨(w.setCell ⟨bl,0,none⟩ (.int .u64 r)).setCell ⟨bl,1,none⟩ (.int .u64 z),⟨?_,?_⟩,by simp[World.setCell],rfl,rfl,fun b hb=>?_,B2⟩
 ·simp[go_sem,e0,e1,f0,f1]
 ·intro e he;simp[go_sem,e0,e1,f0,f1]at he;rcases he with rfl|rfl<;>exact⟨_,_,rfl⟩
 ·exact(Below.heap_setCell _ ⟨bl,1,none⟩ _ b hb).trans (Below.heap_setCell w ⟨bl,0,none⟩ _ b hb)
theorem oM.sh{K:List (Nat×Obj)}{A:Option Addr}{c:Nat}{zs:List Int}{dm num:Nat}{st:St eD}(h:oM K .u64 A c zs)(hA:kv dm num K st):0<zs.length->∃bS oS nmd,A=some ⟨bS,oS,none⟩/\Cc.DG K bS=some (.read nmd)/\∃ob,(bS,ob)∈K/\∀(w:ae) (k:Nat),w.heap[bS]?=some ob->k<zs.length->w.cell? ⟨bS,oS+k,none⟩=some (.int .u64 (zs.getD k 0)):=fun hl=>by
 obtain⟨b,off,e1,C,e,fz,h4,h5⟩:=h.2.2 hl;exact⟨b,off,C.size,e1,hA.DG h4,_,h4,fun w k hw hk=>by simp only[bM,hw];simpa using h5 k hk⟩
section
variable{q:iK}{t n:Int}{cs zs:List Int}{l:List Cm}{msg:ByteArray}{A1 A2 A3:Option Addr}{c1 c2 c3:Nat}
theorem ar3{S:ak->Bool}{dm num:Nat}{K:List (Nat×Obj)}{st:St eD}(hA:kv dm num K st)(hs1:VB K A1)(hs2:VB K A2)(hs3:VB K A3):AR (fun f=>S f=true) (ze (Cc.DG K)) #[.agg #[.int .i64 t,.int .i64 n,.slice A1 cs.length c1],.string msg,.slice A2 l.length c2,.slice A3 zs.length c3] #[.agg #[.int .i64 t,.int .i64 n,.slice A1 cs.length c1],.string msg,.slice A2 l.length c2,.slice A3 zs.length c3]:=by
 refine⟨rfl,fun i v v' e1 e2=>?_⟩;rw[e1]at e2;cases e2;match i,e1 with
 |0,e1=>
  cases e1;refine .agg rfl fun j u u' f1 f2=>?_;rw[f1]at f2;cases f2;match j,f1 with
  |0,f1=>cases f1;exact .int _ _
  |1,f1=>cases f1;exact .int _ _
  |2,f1=>cases f1;exact hs1.vr hA _ _
  |j+3,f1=>simp at f1
 |1,e1=>cases e1;exact .string _
 |2,e1=>cases e1;exact hs2.vr hA _ _
 |3,e1=>cases e1;exact hs3.vr hA _ _
 |i+4,e1=>simp at e1
end
end Cc
namespace lF
open Go.Conc Go.ConcN Go.RowKit Cc
open Pl Mem
open Go.ConcM (OsLater)
def Ai(W:ae):List (Nat×Obj):=(bq W.heap.size).filterMap fun b=>(W.heap[b]?).map fun o=>(b,o)
theorem jR{W:ae}{b:Nat}{o:Obj}:(b,o)∈Ai W↔W.heap[b]?=some o:=by
 unfold Ai;rw[List.mem_filterMap];constructor
 ·rintro ⟨b',hb,h⟩;rw[bt]at h;obtain⟨o',h1,h2⟩:=h;cases h2;exact h1
 ·intro h;exact⟨b,List.mem_range.2 (lt_of_block h),by rw[h];rfl⟩
structure Kept(W W':ae):Prop where
 os:OsLater W.os W'.os
 output:W'.output=W.output
 size:W.heap.size<=W'.heap.size
 block:∀b,b<W.heap.size->W'.heap[b]?=W.heap[b]?
noncomputable def WU(W:ae):iK:={P:=dS,tG:=137,tZ:=76,tR:=4,tW:=116,os0:=W.os,WZ:=W.output,Post:=fun v W'=>v=.bool true/\Kept W W'}
theorem J1:Try.prog.globals.size=0:=kr
theorem OJ{W:ae}{num:Nat}{K:List (Nat×Obj)}{st:St eD}(hA:kv 0 num K st)(hs:∀b o,(b,o)∈Ai W->(b,o)∈K)(hI:Inv (WU W) st):Kept W st.w:=by
 have hblk:∀b,b<W.heap.size->st.w.heap[b]?=W.heap[b]?:=fun b hb=>by
  have h1:W.heap[b]?=some W.heap[b]:=aI hb;rw[h1];exact(hA.fz _ _ (hs b _ (jR.2 h1))).1
 refine⟨hI.base.os,hI.base.out,?_,hblk⟩;rcases bw st.w.heap.size W.heap.size with h|h
 ·have h1:=hblk st.w.heap.size h;rw[Array.getElem?_eq_none nle,aI h]at h1;cases h1
 ·exact h
theorem wZ{w:ae}{b off:Nat}{v:af}(h:w.cell? ⟨b,off,none⟩=some v):∃C e fz,w.heap[b]?=some (.cells C e fz)/\C[off]?=some v:=by
 have hlt:=bY w _ h;have hb:w.heap[b]?=some w.heap[b]:=aI hlt;unfold bM at h;rw[hb]at h;generalize w.heap[b]=ob at hb h;cases ob with
 |cells C e fz=>exact⟨C,e,fz,hb,by simpa using h⟩
 |_=>simp at h
theorem Tc{k:IntKind}{W:ae}{A:Option Addr}{c:Nat}{l:List Int}(h:fW k W W.heap.size (.slice A l.length c) l)(hs:VB (Ai W) A):oM (Ai W) k A c l:=by
 obtain⟨A',c',hv,hc,h⟩:=h;cases hv;refine⟨hc,hs,fun hl=>?_⟩;obtain⟨b,off,rfl,hb,hcell⟩:=h hl;obtain⟨C,e,fz,h1,h2⟩:=wZ (hcell 0 hl);refine⟨b,off,rfl,C,e,fz,jR.2 h1,fun i hi=>?_⟩;obtain⟨C',e',O4,h3,h4⟩:=wZ (hcell i hi);rw[h1]at h3;cases h3;exact h4
end lF
end Go.Proofs.Ytpfpokjaeffbjaa
