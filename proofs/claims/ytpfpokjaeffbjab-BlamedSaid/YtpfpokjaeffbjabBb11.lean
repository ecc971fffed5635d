/- Part of the proof: Once, Group, GroupOf, CombinesPlain, Coms, PkgPlain, Package, PackageOf. -/
import Derived.Test.YtpfpokjaeffbjabRows
import Derived.Test.YtpfpokjaeffbjabBb10
import Derived.WalkKit
import Derived.Defers
import Derived.Laws.Pointers
import Derived.Laws.LoneSync
import Derived.RegionTactic
import Derived.RegionCalls
import Derived.Lib.Hide
import Derived.Deep.DeepCutAuto
import Derived.Deep.OwnRows
set_option linter.unusedVariables false
set_option linter.unusedSimpArgs false
set_option maxRecDepth 100000
set_option maxHeartbeats 16000000
namespace Go.Proofs.Ytpfpokjaeffbjab
namespace Onc
open Go.RowKit Go.MuLone Go.Conc.Locks Lck
theorem store_deferred(a:Addr)(x:Value)(u:FrameMode)(w:World)(hc:w.cell? a=some x)(hz:w.frozen? a=false):
  CallsD Try.prog 126 #[.pointer (some a),.bool true] u w fun e u' w'=>u'=u/\(e=.returned (.tuple #[])/\w'=w.drew.setCell a (.int .u32 1)):=by
 have hc':w.drew.cell? a=some x:=by go_simp
 have hz':w.drew.frozen? a=false:=by go_simp
 have hst:=run_call_store (P:=Try.prog) Try.func127 (by kernel_rfl) (by kernel_rfl) (by kernel_rfl) (by kernel_rfl) (k:=.u32) (y:=1) hc' hz'
 go_enter_d Try.func126,Try.ntmps126
 go_wp2
 go_region_calls
 all_goals(go_end0;exact⟨rfl,rfl⟩)
theorem aY1(b off:Nat)(x:Value)(w:World)(Q:World->Prop)
  (h0:w.cell? ⟨b,off,none⟩=some (.int .u32 0))(h1:w.cell? ⟨b,off+1,none⟩=some (.int .i32 0))
  (f1:w.frozen? ⟨b,off+1,none⟩=false)
  (hf:Calls Try.prog 93 #[x] (w.setCell ⟨b,off+1,none⟩ (.int .i32 1)) fun e w'=>e=.returned (.tuple #[])/\Q w')
  (hQ:∀w',Q w'->w'.cell? ⟨b,off,none⟩=some (.int .u32 0)/\w'.cell? ⟨b,off+1,none⟩=some (.int .i32 1)/\w'.frozen? ⟨b,off,none⟩=false/\w'.frozen? ⟨b,off+1,none⟩=false):
  Calls Try.prog 116 #[.pointer (some ⟨b,off,none⟩),.func (.func 93) #[x] #[]] w fun e w''=>e=.returned (.tuple #[])/\
   ∃w',Q w'/\w''=(w'.drew.setCell ⟨b,off,none⟩ (.int .u32 1)).setCell ⟨b,off+1,none⟩ (.int .i32 0):=by
 have hl:=run_call_load (P:=Try.prog) Try.func125 (by kernel_rfl) (by kernel_rfl) (by kernel_rfl) .u32 (by kernel_rfl) (w:=w.setCell ⟨b,off+1,none⟩ (.int .i32 1)) (a:=⟨b,off,none⟩) (x:=0) ((World.cell?_setCell_other _ ⟨b,off+1,none⟩ ⟨b,off,none⟩ _ (by simp)).trans h0);have hnot:∀(x:Bool) (w:World),(Op.unary .not (.bool x)).run Try.prog w=.ok (.bool (!x)) w:=fun _ _=>rfl
 go_enter_defers Try.func116,Try.ntmps116
 go_wp2_with (go_at_call 28;refine(lock_free muLib ⟨b,off+1,none⟩ _ (by go_simp) (by go_simp)).mono ?_;rintro e w' ⟨rfl,rfl⟩)
 go_wp2_with (go_at_call 115;go_in)
 refine hf.mono ?_;rintro e w' ⟨rfl,hq⟩;obtain⟨q0,q1,z0,z1⟩:=hQ w' hq
 go_wp2
 refine leaves_cons (f:=126) (args:=#[.pointer (some ⟨b,off,none⟩),.bool true]) (by simp) (by simp[go_sem]) ?_;refine(store_deferred ⟨b,off,none⟩ (.int .u32 0) .returning _ q0 z0).mono ?_;rintro e u' w'' ⟨rfl,rfl,rfl⟩;refine leaves_cons (f:=29) (args:=#[.pointer (some ⟨b,off+1,none⟩)]) (by simp[settle]) (by simp[go_sem]) ?_;refine(unlock_deferred muLib ⟨b,off+1,none⟩ _ _ ?_ ?_).mono ?_
 ·refine(World.cell?_setCell_other _ ⟨b,off,none⟩ ⟨b,off+1,none⟩ _ (by simp)).trans ?_;rw[World.cell?_drew];exact q1
 ·simp[z1]
 rintro e u' w'' ⟨rfl,rfl,rfl⟩;simp[Leaves,settle,results,Try.results116];exact⟨w',hq,rfl⟩
theorem doC(b off:Nat)(x:Value)(w:World)(Q:World->Prop)
  (h0:w.cell? ⟨b,off,none⟩=some (.int .u32 0))(h1:w.cell? ⟨b,off+1,none⟩=some (.int .i32 0))
  (f1:w.frozen? ⟨b,off+1,none⟩=false)
  (hf:Calls Try.prog 93 #[x] (w.setCell ⟨b,off+1,none⟩ (.int .i32 1)) fun e w'=>e=.returned (.tuple #[])/\Q w')
  (hQ:∀w',Q w'->w'.cell? ⟨b,off,none⟩=some (.int .u32 0)/\w'.cell? ⟨b,off+1,none⟩=some (.int .i32 1)/\w'.frozen? ⟨b,off,none⟩=false/\w'.frozen? ⟨b,off+1,none⟩=false):
  Calls Try.prog 92 #[.pointer (some ⟨b,off,none⟩),.func (.func 93) #[x] #[]] w fun e w''=>e=.returned (.tuple #[])/\
   ∃w',Q w'/\w''=(w'.drew.setCell ⟨b,off,none⟩ (.int .u32 1)).setCell ⟨b,off+1,none⟩ (.int .i32 0):=by
 have hl:=run_call_load (P:=Try.prog) Try.func125 (by kernel_rfl) (by kernel_rfl) (by kernel_rfl) .u32 (by kernel_rfl) h0;have hnot:∀(x:Bool) (w:World),(Op.unary .not (.bool x)).run Try.prog w=.ok (.bool (!x)) w:=fun _ _=>rfl
 go_enter Try.func92,Try.ntmps92
 go_wp2_with (first|(go_at_call 116;refine(aY1 b off x _ Q h0 h1 f1 hf hQ).mono ?_;rintro e w' ⟨rfl,hw⟩)|(go_at_call 115;go_in))
 go_end0
 exact⟨rfl,hw⟩
end Onc
namespace Ud
open Go.RowKit Pl ny oI qj Mem oG
def fB(w:World)(g:Nat)(t n:Int)(vc:Value)(d s:Int)(cs:List Int)(k:Nat):Prop:=
 ∃C:Array Value,bZ w g 143 C/\C.size=16/\C[0]?=some (.int .i64 t)/\C[1]?=some (.int .i64 n)/\C[2]?=some vc/\C[3]?=some (.int .u32 d)/\C[4]?=some (.int .i32 s)/\
  ∀i:Nat,1<=i->i<k->C[6+i]?=some (.int .u64 (pub cs i))
section
variable{w:World}{g:Nat}{t n:Int}{vc:Value}{d s:Int}{cs:List Int}{k:Nat}
theorem fB.lt(h:fB w g t n vc d s cs k):g<w.heap.size:=h.choose_spec.1.lt
theorem fB.cells(h:fB w g t n vc d s cs k):w.cell? ⟨g,0,none⟩=some (.int .i64 t)/\w.cell? ⟨g,1,none⟩=some (.int .i64 n)/\w.cell? ⟨g,2,none⟩=some vc/\w.cell? ⟨g,3,none⟩=some (.int .u32 d)/\w.cell? ⟨g,4,none⟩=some (.int .i32 s):=by
 obtain⟨C,hb,hs,h0,h1,h2,h3,h4,_⟩:=h;exact⟨(hb.cell 0).trans h0,(hb.cell 1).trans h1,(hb.cell 2).trans h2,(hb.cell 3).trans h3,(hb.cell 4).trans h4⟩
theorem fB.frozen(h:fB w g t n vc d s cs k)(i:Nat):w.frozen? ⟨g,i,none⟩=false:=h.choose_spec.1.frozen i
theorem fB.share(h:fB w g t n vc d s cs k){i:Nat}(h1:1<=i)(hi:i<k):w.cell? ⟨g,6+i,none⟩=some (.int .u64 (pub cs i)):=by
 obtain⟨C,hb,hs,_,_,_,_,_,h⟩:=h;exact(hb.cell _).trans (h i h1 hi)
theorem fB.room(h:fB w g t n vc d s cs k){i:Nat}(hi:i<16):∃u,w.cell? ⟨g,i,none⟩=some u:=by
 obtain⟨C,hb,hs,_⟩:=h;exact⟨_,(hb.cell i).trans (Array.getElem?_eq_getElem (by omega))⟩
theorem fB.grown{w':World}{row:Option Nat}(h:fB w g t n vc d s cs k)(hg:w.grownBy w' row)(hne:some g≠row):fB w' g t n vc d s cs k:=by
 obtain⟨C,hb,r⟩:=h;exact⟨C,hb.grown hg hne,r⟩
theorem fB.below{w':World}{B:Nat}(h:fB w g t n vc d s cs k)(hg:Below B w w')(hlt:g<B):fB w' g t n vc d s cs k:=by
 obtain⟨C,hb,r⟩:=h;exact⟨C,hb.below hg hlt,r⟩
theorem fB.lay(h:fB w g t n vc d s cs k)(h1:1<=k)(hk:k<10):fB (w.setCell ⟨g,6+k,none⟩ (.int .u64 (pub cs k))) g t n vc d s cs (k+1):=by
 obtain⟨C,hb,hs,h0,h1',h2,h3,h4,h5⟩:=h;refine⟨_,hb.gK (6+k) _,by rw[Array.size_setIfInBounds];exact hs,?_,?_,?_,?_,?_,?_⟩
 ·rw[Array.getElem?_setIfInBounds_ne (by omega)];exact h0
 ·rw[Array.getElem?_setIfInBounds_ne (by omega)];exact h1'
 ·rw[Array.getElem?_setIfInBounds_ne (by omega)];exact h2
 ·rw[Array.getElem?_setIfInBounds_ne (by omega)];exact h3
 ·rw[Array.getElem?_setIfInBounds_ne (by omega)];exact h4
 ·intro i hi1 hi2;by_cases e:i=k
  ·subst e;rw[Array.getElem?_setIfInBounds_self_of_lt (by omega)]
  ·rw[Array.getElem?_setIfInBounds_ne (by omega)];exact h5 i hi1 (by omega)
theorem fB.state(h:fB w g t n vc d s cs k)(s':Int):fB (w.setCell ⟨g,4,none⟩ (.int .i32 s')) g t n vc d s' cs k:=by
 obtain⟨C,hb,hs,h0,h1',h2,h3,h4,h5⟩:=h;refine⟨_,hb.gK 4 _,by rw[Array.size_setIfInBounds];exact hs,?_,?_,?_,?_,?_,?_⟩
 ·rw[Array.getElem?_setIfInBounds_ne (by omega)];exact h0
 ·rw[Array.getElem?_setIfInBounds_ne (by omega)];exact h1'
 ·rw[Array.getElem?_setIfInBounds_ne (by omega)];exact h2
 ·rw[Array.getElem?_setIfInBounds_ne (by omega)];exact h3
 ·rw[Array.getElem?_setIfInBounds_self_of_lt (by omega)]
 ·intro i hi1 hi2;rw[Array.getElem?_setIfInBounds_ne (by omega)];exact h5 i hi1 hi2
theorem fB.done(h:fB w g t n vc d s cs k)(d':Int):fB (w.setCell ⟨g,3,none⟩ (.int .u32 d')) g t n vc d' s cs k:=by
 obtain⟨C,hb,hs,h0,h1',h2,h3,h4,h5⟩:=h;refine⟨_,hb.gK 3 _,by rw[Array.size_setIfInBounds];exact hs,?_,?_,?_,?_,?_,?_⟩
 ·rw[Array.getElem?_setIfInBounds_ne (by omega)];exact h0
 ·rw[Array.getElem?_setIfInBounds_ne (by omega)];exact h1'
 ·rw[Array.getElem?_setIfInBounds_ne (by omega)];exact h2
 ·rw[Array.getElem?_setIfInBounds_self_of_lt (by omega)]
 ·rw[Array.getElem?_setIfInBounds_ne (by omega)];exact h4
 ·intro i hi1 hi2;rw[Array.getElem?_setIfInBounds_ne (by omega)];exact h5 i hi1 hi2
theorem fB.drew(h:fB w g t n vc d s cs k):fB w.drew g t n vc d s cs k:=h
end
theorem grownBy_set{w w':World}{g:Nat}(h:w.grownBy w' (some g))(i:Nat)(u:Value):w.grownBy (w'.setCell ⟨g,i,none⟩ u) (some g):=
 ⟨h.os,h.tape,h.output,by have:=h.size;simpa using this,fun k hk hne=>(Below.heap_setCell w' ⟨g,i,none⟩ u k (fun e=>hne (by rw[e]))).trans (h.block k hk hne)⟩
theorem grownBy_drew{w w':World}{row:Option Nat}(h:w.grownBy w' row):w.grownBy w'.drew row:=⟨h.os,h.tape,h.output,h.size,h.block⟩
theorem grownBy_trans{a b c:World}{row:Option Nat}(h:a.grownBy b row)(h2:b.grownBy c row):a.grownBy c row:=
 ⟨h2.os.trans h.os,h2.tape.trans h.tape,h2.output.trans h.output,Nat.le_trans h.size h2.size,fun k hk hne=>(h2.block k (Nat.lt_of_lt_of_le hk h.size) hne).trans (h.block k hk hne)⟩
theorem grownBy_below{w w':World}{g:Nat}(h:w.grownBy w' (some g)){B:Nat}(hB:B<=g)(hw:B<=w.heap.size):Below B w w':=
 ⟨h.os,h.tape,h.output,h.size,fun k hk=>h.block k (by omega) (fun e=>by injection e with e;omega)⟩
def mD(w:World)(base:Nat)(vc:Value)(cs:List Int):Prop:=w.ownsRow base 85 1 vc cs.length (cs.map (Value.int .u64))
theorem mD.form{w:World}{base:Nat}{vc:Value}{cs:List Int}(h:mD w base vc cs)(hp:0<cs.length):
  ∃gc cap,vc=.slice (some ⟨gc,0,none⟩) cs.length cap/\base<=gc/\gc<w.heap.size/\(∀i,i<cs.length->w.cell? ⟨gc,i,none⟩=some (.int .u64 (cs.getD i 0)))/\∀g C,bZ w g 143 C->g≠gc:=by
 obtain⟨gc,cap,rfl,hb,hlt⟩:=World.ownsRow.form h hp;refine⟨gc,cap,rfl,hb,hlt,fun i hi=>?_,fun g C hC e=>?_⟩
 ·rw[World.ownsRow.cellAt h i (by omega),List.getElem?_map,List.getElem?_eq_getElem hi,List.getD_eq_getElem?_getD,List.getElem?_eq_getElem hi];rfl
 ·exact jD h hC (by decide) (by rw[e];rfl)
theorem UA(cs:List Int)(id:Int)(j:Nat):uK cs id (j+1)=mV (uK cs id j) (pw (cs.getD j 0) (CU id j).toNat 2147483579):=by
 have b1:=IL cs id j;have b2:=og (cs.getD j 0) (CU id j).toNat (m:=2147483579) (by omega);rw[uK,wV b1.1 (by omega) b2.1 (by omega)]
theorem WX{id:Int}(j:Nat)(h0:0<=id)(h1:id<100):CU id (j+1)=smul (CU id j) id:=by
 have b:=yc id j;rw[CU,kV b.1 (by omega) h0 (by omega)]
theorem aW8(g:Nat)(t:Int)(n:Nat)(vc:Value)(cs:List Int)(d s:Int)(base:Nat)(w:World)(hg:fB w g t n vc d s cs 1)(ho:mD w base vc cs)(hn:n<=9)(hl:0<cs.length)(Dh:cs.length<=9)
  (hel:∀i,i<cs.length->jM (cs.getD i 0)=true):
  Calls Try.prog 93 #[.pointer (some ⟨g,0,none⟩)] w fun e w'=>e=.returned (.tuple #[])/\fB w' g t n vc d s cs (n+1)/\w.grownBy w' (some g):=by
 obtain⟨gc,cap,rfl,hbase,hgc,hcell,hne⟩:=ho.form hl;have hgg:g≠gc:=by
  obtain⟨C,hC,_⟩:=hg;exact hne g C hC
 have HC:=Lib.hid hcell;have HEL:=Lib.hid hel;clear hcell hne hel ho
 go_enter Try.func93,Try.ntmps93
 go_wp2_with fail
 go_loopw [2] (fun i wr=>∃k:Nat,1<=k/\k<=n+1/\i=.int .i64 k/\fB wr g t n (.slice (some ⟨gc,0,none⟩) cs.length cap) d s cs k/\w.grownBy wr (some g)) (fun i _=>n+1-(intOf i).toNat)
 case atStart=>exact⟨1,by omega,by omega,rfl,hg,World.grownBy.refl _ _⟩
 case round=>
  obtain⟨k,hk1,hk,rfl,hG,hgr⟩:=hrel;obtain⟨c0,c1,c2,c3,c4⟩:=hG.cells;have HG:=Lib.hid hG;clear hG;by_cases hlt:k<=n
  ·have hlt':(k:Int)<=(n:Int):=by omega
   obtain⟨wo,rfl⟩:∃wo:World,wo=wr:=⟨_,rfl⟩;have HGR:=Lib.hid hgr;clear hgr
   go_wp2_with fail
   go_loopw [3,4,20] (fun x o i wr=>∃j:Nat,j<=cs.length/\i=.int .i64 j/\x=.int .u64 (CU k j)/\o=.int .u64 (uK cs k j)/\wr=wo) (fun _ _ i _=>cs.length-(intOf i).toNat)
   case atStart=>exact⟨0,by omega,rfl,rfl,rfl,rfl⟩
   case round=>
    obtain⟨j,hj,rfl,rfl,rfl,rfl⟩:=hrel;by_cases hjl:j<cs.length
    ·have hcj:wr.cell? ⟨gc,j,none⟩=some (.int .u64 (cs.getD j 0)):=(World.cell?_of_block (HGR.out.block gc hgc (fun e=>hgg (by injection e with e;exact e.symm)))).trans (HC.out j hjl);have he:=sW (HEL.out j hjl);have P1:=Lib.hid (UA cs k j);have P2:=Lib.hid (WX (id:=(k:Int)) j (by omega) (by omega));have b1:=yc (k:Int) j;obtain⟨b1,b2⟩:=b1;obtain⟨he1,he2⟩:=he;generalize cs.getD j 0=C at*;generalize CU (k:Int) j=X at*;generalize uK cs (k:Int) j=O at*
     go_wp2_with (first|(go_at_call 48;refine(AL C X _ (by omega) he2 b1 (by omega)).mono ?_;rintro e w' ⟨rfl,rfl⟩)|(go_at_call 46;refine(qP _ _ _).mono ?_;rintro e w' ⟨rfl,rfl⟩)|(go_at_call 70;refine(IE k _ (by omega) (by omega)).mono ?_;rintro e w' ⟨rfl,rfl⟩)|(go_at_call 37;refine(nT _ _ _).mono ?_;rintro e w' ⟨rfl,rfl⟩))
     refine⟨⟨j+1,by omega,by go_num,by rw[P2.out],by rw[P1.out],by first|rfl|trivial⟩,by simp[intOf];omega⟩
    ·obtain rfl:j=cs.length:=by omega
     obtain⟨u0,hu0⟩:=HG.out.room (i:=6+k) (by omega);have hz0:=HG.out.frozen (6+k);have q1:(0:Int)<=(k:Int):=by omega
     have q2:(k:Int)<10:=by omega
     have q3:k<10:=by omega
     go_wp2_with fail
     refine⟨⟨k+1,by omega,by omega,by go_num,HG.out.lay hk1 q3,grownBy_set HGR.out _ _⟩,by simp[intOf];omega⟩
  ·obtain rfl:k=n+1:=by omega
   have hlt':¬((n+1:Nat):Int)<=(n:Int):=by omega
   go_wp2_with fail
   go_end0
   exact⟨rfl,HG.out,hgr⟩
theorem az8(g:Nat)(t:Int)(n:Nat)(vc:Value)(cs:List Int)(base:Nat)(id:Int)(w:World)(hg:fB w g t n vc 0 0 cs 1)(ho:mD w base vc cs)(hn:n<=9)(hl:0<cs.length)(Dh:cs.length<=9)
  (hel:∀i,i<cs.length->jM (cs.getD i 0)=true)(h1:1<=id)(h2:id<=n):
  Calls Try.prog 47 #[.pointer (some ⟨g,0,none⟩),.int .i64 id] w fun e w'=>e=.returned (.int .u64 (pub cs id))/\fB w' g t n vc 1 0 cs (n+1)/\w.grownBy w' (some g):=by
 obtain⟨k,rfl⟩:=Int.eq_ofNat_of_zero_le (show 0<=id by omega);obtain⟨c0,c1,c2,c3,c4⟩:=hg.cells;have hG1:=hg.state 1;have Ye:w.grownBy (w.setCell ⟨g,4,none⟩ (.int .i32 1)) (some g):=grownBy_set (World.grownBy.refl _ _) 4 _;have ho1:mD (w.setCell ⟨g,4,none⟩ (.int .i32 1)) base vc cs:=by
  obtain⟨C,hC,_⟩:=hg;exact jT ho hC (by decide) 4 _
 have nI:=(aW8 g t n vc cs 0 1 base _ hG1 ho1 hn hl Dh hel).mono (fun e w' h=>(⟨h.1,h.2.1,grownBy_trans Ye h.2.2⟩:e=.returned (.tuple #[])/\(fB w' g t n vc 0 1 cs (n+1)/\w.grownBy w' (some g))));have hdo:=Onc.doC g 3 (.pointer (some ⟨g,0,none⟩)) w (fun w'=>fB w' g t n vc 0 1 cs (n+1)/\w.grownBy w' (some g)) c3 c4 (hg.frozen 4) nI
  (fun w' h=>⟨h.1.cells.2.2.2.1,h.1.cells.2.2.2.2,h.1.frozen 3,h.1.frozen 4⟩)
 have HDO:=Lib.hid hdo;have hmf:∀(fn:Fn) (first cap:Array Value) (w:World),(Instr.makeFunc fn first cap).run Try.prog w=.ok (.func fn first cap) w:=fun _ _ _ _=>rfl
 have q1:(0:Int)<=(k:Int):=by omega
 have q2:(k:Int)<10:=by omega
 clear hG1 Ye ho1 nI hdo c0 c1 c2 c3 c4
 go_enter Try.func47,Try.ntmps47
 go_wp2_with fail
 refine HDO.out.mono ?_;rintro e w1 ⟨rfl,w',⟨hG,hgr⟩,rfl⟩;have hF:=(hG.drew.done 1).state 0;have hR:=grownBy_set (grownBy_set (grownBy_drew hgr) 3 (.int .u32 1)) 4 (.int .i32 0);generalize((w'.drew.setCell ⟨g,3,none⟩ (.int .u32 1)).setCell ⟨g,4,none⟩ (.int .i32 0))=wf at*;have hs:=hF.share (i:=k) (by omega) (by omega);have HF:=Lib.hid hF;clear hF hG hgr
 go_wp2_with fail
 go_ret
 exact⟨rfl,HF.out,hR⟩
end Ud
namespace Gn
open Go.RowKit Pl ny oI qj Mem oG Ud
def GroupPost(t n:Int)(cs:List Int)(w:World)(e:Ending)(w':World):Prop:=
 Below w.heap.size w w'/\
 ((dw t n cs=false/\e=.returned (.tuple #[.pointer none,.int .i64 4]))\/
  (dw t n cs=true/\∃g vc,e=.returned (.tuple #[.pointer (some ⟨g,0,none⟩),.int .i64 0])/\w.heap.size<=g/\fB w' g t n vc 0 0 cs 1/\mD w' w.heap.size vc cs))
def dS(t n:Int)(vc:Value):Array Value:=
 #[.int .i64 t,.int .i64 n,vc,.int .u32 0,.int .i32 0,.int .u32 0,.int .u64 0,.int .u64 0,.int .u64 0,.int .u64 0,.int .u64 0,.int .u64 0,.int .u64 0,.int .u64 0,.int .u64 0,.int .u64 0]
def yR(t n:Int)(cs:List Int)(w:World)(e:Ending)(w':World):Prop:=
 Below w.heap.size w w'/\
 ((dw t n cs=false/\e=.returned (.tuple #[.pointer none,.int .i64 4]))\/
  (dw t n cs=true/\∃g vc,e=.returned (.tuple #[.pointer (some ⟨g,0,none⟩),.int .i64 0])/\w.heap.size<=g/\bZ w' g 143 (dS t n vc)/\mD w' w.heap.size vc cs))
theorem ah1:(Try.prog.info? 85).map (fun i=>(i.zero,i.size,i.bytes))=some (some (.int .u64 0),1,8):=by kernel_rfl
theorem aZ3(t n:Int)(cs:List Int)(v:Value)(w:World)(hv:Nums .u64 w w.heap.size v cs)(hl:cs.length<=65536)
  (hbad:t<2\/n<t\/9<n\/(cs.length:Int)≠t\/cs.getD 0 0=1):
  Calls Try.prog 27 #[.agg #[.int .i64 t,.int .i64 n,v]] w (yR t n cs w):=by
 obtain⟨A,c,rfl,hc,hcell⟩:=hv;have hE:Hid (dw t n cs=false):=by
  show dw t n cs=false;exact Nw (fun h=>by
   obtain⟨h1,h2,h3,h4,h5⟩:=h;rcases hbad with h|h|h|h|h
   ·omega
   ·omega
   ·omega
   ·exact h h4
   ·exact h5 h)
 have HC:=Lib.hid hcell;clear hcell;by_cases h1:t<2
 case pos=>
  clear hbad
  go_enter Try.func27,Try.ntmps27
  go_wp2_with fail
  go_ret2
  exact⟨aK _ _,.inl ⟨hE.out,rfl⟩⟩
 by_cases h2:n<t
 case pos=>
  clear hbad
  go_enter Try.func27,Try.ntmps27
  go_wp2_with fail
  go_ret2
  exact⟨aK _ _,.inl ⟨hE.out,rfl⟩⟩
 by_cases h3:9<n
 case pos=>
  clear hbad
  go_enter Try.func27,Try.ntmps27
  go_wp2_with fail
  go_ret2
  exact⟨aK _ _,.inl ⟨hE.out,rfl⟩⟩
 by_cases h4:(cs.length:Int)=t
 case neg=>
  have h4':((cs.length:Int) != t)=true:=by rw[bne_iff_ne];omega
  clear hbad h4
  go_enter Try.func27,Try.ntmps27
  go_wp2_with fail
  go_ret2
  exact⟨aK _ _,.inl ⟨hE.out,rfl⟩⟩
 have h4':((cs.length:Int) != t)=false:=by rw[bne_eq_false_iff_eq];omega
 have h5:cs.getD 0 0=1:=by
  rcases hbad with h|h|h|h|h
  ·omega
  ·omega
  ·omega
  ·exact absurd h4 h
  ·exact h
 have h6:(cs.getD 0 0==1)=true:=by rw[beq_iff_eq];exact h5
 have hp:0<cs.length:=by omega
 have hp1:(0:Int)<(cs.length:Int):=by omega
 obtain⟨b,off,rfl,hb,hcells⟩:=HC.out hp;have hc0:=hcells 0 hp;rw[Nat.add_zero]at hc0;clear hcells hbad h4 h5 HC;generalize cs.getD 0 0=X at*
 go_enter Try.func27,Try.ntmps27
 go_wp2_with fail
 go_ret2
 exact⟨aK _ _,.inl ⟨hE.out,rfl⟩⟩
theorem jc{w:World}{g:Nat}(t:TypeId)(cs:Array Value)(h:w.heap.size=g):bZ (w.alloc (.cells cs t)) g t cs:=h ▸ bZ.new w t cs
theorem GU{w:World}{g:Nat}{t n:Int}{vc:Value}{cs:List Int}(h:bZ w g 143 (dS t n vc)):fB w g t n vc 0 0 cs 1:=
 ⟨_,h,rfl,rfl,rfl,rfl,rfl,rfl,fun i h1 h2=>absurd h1 (by omega)⟩
def CQ(w:World)(gc:Nat)(cs:List Int)(k:Nat):Prop:=∃C:Array Value,bZ w gc 85 C/\C.size=cs.length/\∀j,j<k->C[j]?=some (.int .u64 (cs.getD j 0))
theorem CQ.lay{w:World}{gc:Nat}{cs:List Int}{k:Nat}(h:CQ w gc cs k)(hk:k<cs.length):CQ (w.setCell ⟨gc,k,none⟩ (.int .u64 (cs.getD k 0))) gc cs (k+1):=by
 obtain⟨C,hb,hs,hc⟩:=h;refine⟨_,hb.gK k _,by rw[Array.size_setIfInBounds];exact hs,fun j hj=>?_⟩;by_cases e:j=k
 ·subst e;rw[Array.getElem?_setIfInBounds_self_of_lt (by omega)]
 ·rw[Array.getElem?_setIfInBounds_ne (by omega)];exact hc j (by omega)
theorem CQ.room{w:World}{gc:Nat}{cs:List Int}{k:Nat}(h:CQ w gc cs k)(hk:k<cs.length):(∃u,w.cell? ⟨gc,k,none⟩=some u)/\w.frozen? ⟨gc,k,none⟩=false:=by
 obtain⟨C,hb,hs,hc⟩:=h;exact⟨⟨_,(hb.cell k).trans (Array.getElem?_eq_getElem (by omega))⟩,hb.frozen k⟩
theorem CQ.own{w:World}{gc base:Nat}{cs:List Int}(h:CQ w gc cs cs.length)(hb:base<=gc)(hl:cs.length<=65536):mD w base (.slice (some ⟨gc,0,none⟩) cs.length cs.length) cs:=by
 obtain⟨C,hblk,hs,hc⟩:=h;refine⟨by simp,.inr ⟨gc,cs.length,C,rfl,hb,hblk,Nat.le_refl _,by unfold maxLen;omega,by omega,?_⟩⟩;apply List.ext_getElem?;intro j;rw[List.getElem?_take,List.getElem?_map];by_cases hj:j<cs.length
 ·rw[if_pos (by omega),Array.getElem?_toList,hc j hj,List.getElem?_eq_getElem hj,List.getD_eq_getElem?_getD,List.getElem?_eq_getElem hj];rfl
 ·rw[if_neg (by omega),List.getElem?_eq_none (by omega)];rfl
theorem aB8(n:Int)(cs:List Int)(v:Value)(w:World)(hv:Nums .u64 w w.heap.size v cs)(hcb:∀i,i<cs.length->0<=cs.getD i 0)
  (h1:2<=cs.length)(h2:(cs.length:Int)<=n)(h3:n<=9)(h5:cs.getD 0 0≠1):
  Calls Try.prog 27 #[.agg #[.int .i64 cs.length,.int .i64 n,v]] w (yR cs.length n cs w):=by
 obtain⟨A,c,rfl,hc,hcell⟩:=hv;have hE:Hid (dw cs.length n cs=lG cs cs.length):=by
  show dw cs.length n cs=_;exact BX ⟨by omega,h2,h3,rfl,h5⟩
 have HCB:=Lib.hid hcb;obtain⟨b,off,rfl,hb,hcells⟩:=hcell (by omega);have hc0:=hcells 0 (by omega);rw[Nat.add_zero]at hc0;have HC:=Lib.hid hcells;have n1:¬(cs.length:Int)<2:=by omega
 have n2:¬n<(cs.length:Int):=by omega
 have n3:¬9<n:=by omega
 have n4:((cs.length:Int) != (cs.length:Int))=false:=by rw[bne_eq_false_iff_eq]
 have n5:(cs.getD 0 0==1)=false:=by rw[beq_eq_false_iff_ne];exact h5
 have n6:(0:Int)<(cs.length:Int):=by omega
 have hmk:∀W,(Instr.makeSlice 136 (.int .i64 cs.length) (.int .i64 cs.length)).run Try.prog W=.ok (.slice (some ⟨W.heap.size,0,none⟩) cs.length cs.length) (W.alloc (.cells (madeCells #[.int .u64 0] cs.length) 85)):=
  fun W=>run_make_row' 136 85 (.int .u64 0) 8 Try.underlying136 ah1 rfl .i64 .i64 cs.length (by omega) (by omega) W
 have hsz:(madeCells #[Value.int .u64 0] cs.length).size=cs.length:=by simp[madeCells]
 have HSZ:=Lib.hid hsz;clear hcell hcells hcb h5 hsz;generalize madeCells #[Value.int .u64 0] cs.length=MC at*;generalize hX0:cs.getD 0 0=X at*;clear hX0
 go_enter Try.func27,Try.ntmps27
 go_upto_region 3 with fail
 go_cut [4] (fun p wx=>p=.pointer (some ⟨w.heap.size+2,0,none⟩)/\bZ wx (w.heap.size+2) 143 (dS cs.length n (.slice (some ⟨w.heap.size+1,0,none⟩) cs.length cs.length))/\
  bZ wx (w.heap.size+1) 85 MC/\bZ wx w.heap.size 28 #[.int .i64 cs.length,.int .i64 n,.slice (some ⟨b,off,none⟩) cs.length c]/\Below w.heap.size w wx)
 case first=>
  go_region
  all_goals
   go_wp2_with fail
   go_meet
   refine⟨rfl,jc _ _ (by simp),(jc _ _ (by simp)).alloc _,((bZ.new _ _ _).alloc _).alloc _,(((aK _ _).alloc (by simp) _).alloc (by simp;omega) _).drew⟩
 case rest=>
  obtain⟨rfl,hB2,hB1,hB0,hbw⟩:=hcut
  rename World=>w0
  have hx2:w0.cell? ⟨w.heap.size,2,none⟩=some (.slice (some ⟨b,off,none⟩) cs.length c):=hB0.cell 2
  go_wp2_with fail
  go_loopw [51] (fun i wr=>∃k:Nat,k<=cs.length/\i=.int .i64 k/\lG cs k=true/\CQ wr (w.heap.size+1) cs k/\bZ wr (w.heap.size+2) 143 (dS cs.length n (.slice (some ⟨w.heap.size+1,0,none⟩) cs.length cs.length))/\Below w.heap.size w wr) (fun i _=>cs.length-(intOf i).toNat)
  case atStart=>exact⟨0,by omega,rfl,rfl,⟨MC,hB1,HSZ.out,fun j hj=>absurd hj (by omega)⟩,hB2,hbw⟩
  case round=>
   obtain⟨k,hk,rfl,hels,hrow,pK,nY⟩:=hrel;have HEL:=Lib.hid hels;have HRW:=Lib.hid hrow;clear hels hrow hB1 hB2 hB0;by_cases hlt:k<cs.length
   ·have hck:=(nY.cell (p:=⟨b,off+k,none⟩) hb).trans (HC.out k hlt);have hcb:=HCB.out k hlt;have hbad:jM (cs.getD k 0)=false->Hid (dw cs.length n cs=false):=fun h=>by
     show dw cs.length n cs=false;rw[hE.out];exact Vo cs hlt h
    have hgood:jM (cs.getD k 0)=true->lG cs (k+1)=true:=fun h=>Ql cs HEL.out h
    have bG9:=Lib.hid (HRW.out.lay hlt);obtain⟨⟨u0,hu0⟩,hz0⟩:=HRW.out.room hlt;have HBAD:=Lib.hid hbad;have bo4:=Lib.hid hgood;have hg2:wr.cell? ⟨w.heap.size+2,2,none⟩=some (.slice (some ⟨w.heap.size+1,0,none⟩) cs.length cs.length):=pK.cell 2;clear hbad hgood;generalize cs.getD k 0=Y at*;obtain⟨bl,hbl⟩:∃bl,jM Y=bl:=⟨_,rfl⟩;have HBL:=Lib.hid hbl;clear hbl;cases bl
    case false=>
     have hE2:=HBAD.out HBL.out
     go_wp2_with (go_at_call 61;refine(rP _ Y _ hcb HBL.out).mono ?_;rintro e w' ⟨rfl,rfl⟩)
     go_ret2
     exact⟨nY,.inl ⟨hE2.out,rfl⟩⟩
    case true=>
     go_wp2_with (go_at_call 61;refine(rP _ Y _ hcb HBL.out).mono ?_;rintro e w' ⟨rfl,rfl⟩)
     refine⟨⟨k+1,by omega,by go_num,bo4.out HBL.out,bG9.out,pK.far (by show w.heap.size+2≠w.heap.size+1;omega) _,nY.setCell (by show w.heap.size<=w.heap.size+1;omega) _⟩,by simp[intOf];omega⟩
   ·obtain rfl:k=cs.length:=by omega
    have hE2:Hid (dw cs.length n cs=true):=by
     show dw cs.length n cs=true;rw[hE.out];exact HEL.out
    go_wp2_with fail
    go_ret2
    exact⟨nY,.inr ⟨hE2.out,_,_,rfl,by omega,pK,HRW.out.own (by omega) (by omega)⟩⟩
theorem aZ2(t n:Int)(cs:List Int)(v:Value)(w:World)(hv:Nums .u64 w w.heap.size v cs)(hl:cs.length<=65536)(hcb:∀i,i<cs.length->0<=cs.getD i 0):
  Calls Try.prog 27 #[.agg #[.int .i64 t,.int .i64 n,v]] w (yR t n cs w):=by
 by_cases h:t<2\/n<t\/9<n\/(cs.length:Int)≠t\/cs.getD 0 0=1
 ·exact aZ3 t n cs v w hv hl h
 ·have e:t=cs.length:=by omega
  subst e;exact aB8 n cs v w hv hcb (by omega) (by omega) (by omega) (by omega)
theorem ofC(t n:Int)(cs:List Int)(v:Value)(w:World)(hv:Nums .u64 w w.heap.size v cs)(hl:cs.length<=65536)(hcb:∀i,i<cs.length->0<=cs.getD i 0):
  Calls Try.prog 27 #[.agg #[.int .i64 t,.int .i64 n,v]] w (GroupPost t n cs w):=
 (aZ2 t n cs v w hv hl hcb).mono fun _ _ ⟨h1,h2⟩=>⟨h1,h2.imp id fun⟨a,g,vc,b,c,d,f⟩=>⟨a,g,vc,b,c,GU d,f⟩⟩
end Gn
namespace Cpl
open Pl
theorem aA9(a b:Int)(n:Nat)(m:Int):pw (a*b%m) n m=pw a n m*pw b n m%m:=by
 rw[aB0];unfold pw;rw[Int.mul_pow,<-Int.mul_emod]
theorem aH3(ids:List Int)(k:Nat)(hb:∀i,i<ids.length->1<=ids.getD i 0/\ids.getD i 0<=9)(hk:k<ids.length)(j:Nat)(hj:j<=ids.length):
  mg ids k j*pw (iC ids k j) OG 1073741789%1073741789=Ws ids k j:=by
 induction j with
 |zero=>
  show 1*pw 1 OG 1073741789%1073741789=1;unfold pw;rw[Int.one_pow];rfl
 |succ j ih=>
  by_cases hjk:j=k
  ·subst hjk;rw[EN,zQ,Ko];exact ih (by omega)
  ·have hx:=hb j (by omega);have hy:=hb k hk;have ih:=ih (by omega);rw[EM _ hjk,zO _ hjk,J9 _ hjk,<-ih];have bu:=MO ids k j;have bd:=EO ids k j;generalize ids.getD j 0=x at*;generalize ids.getD k 0=y at*;generalize mg ids k j=u at*;generalize iC ids k j=d at*;have e1:Un (IntKind.u64.wrap x) (IntKind.u64.wrap y)=(x+1073741789-y)%1073741789:=by
    unfold Un;simp only[IntKind.wrap_u64];omega
   rw[e1];generalize hbel:(x+1073741789-y)%1073741789=b;have hb0:0<=b/\b<1073741789:=by omega
   rw[lN (by omega) (by omega),kV bu.1 (by omega) (by omega) (by omega),kV bd.1 (by omega) hb0.1 (by omega),aA9];generalize pw d OG 1073741789=p;generalize pw b OG 1073741789=q;generalize(1073741789:Int)=m;rw[pY,fO (u*x),fO (u*p%m*x),Int.mul_assoc (u*p%m) x q,fO (u*p) (x*q) m];congr 1
   ac_rfl
theorem C9(ids:List Int)(k:Nat)(hb:∀i,i<ids.length->1<=ids.getD i 0/\ids.getD i 0<=9)(hk:k<ids.length):fF ids k=weight ids k:=by
 have bu:=MO ids k ids.length;have bp:=og (iC ids k ids.length) OG (m:=1073741789) (by omega);unfold fF weight;rw[kV bu.1 (by omega) bp.1 (by omega),aH3 ids k hb hk _ (Nat.le_refl _)]
end Cpl
namespace Mem
open Go.RowKit Pl
structure Cm where
 id:Int
 d:Int
 e:Int
deriving Inhabited
def Cm.cells(c:Cm):List Value:=[.int .i64 c.id,.int .u64 c.d,.int .u64 c.e]
def aU(l:List Cm):List Value:=l.flatMap Cm.cells
def Cm.zero:Cm:=⟨0,0,0⟩
theorem dL(l:List Cm):(aU l).length=l.length*3:=by
 induction l with
 |nil=>rfl
 |cons c l ih=>
  show(Cm.cells c++aU l).length=_;rw[List.length_append,ih,List.length_cons];simp[Cm.cells];omega
theorem Dj(a b:List Cm):aU (a++b)=aU a++aU b:=by simp[aU]
theorem Jw(c:Cm):aU [c]=[.int .i64 c.id,.int .u64 c.d,.int .u64 c.e]:=by simp[aU,Cm.cells]
theorem Ci(l:List Cm)(i:Nat)(h:i<l.length):
  (aU l)[i*3]?=some (.int .i64 (l.getD i .zero).id)/\(aU l)[i*3+1]?=some (.int .u64 (l.getD i .zero).d)/\(aU l)[i*3+2]?=some (.int .u64 (l.getD i .zero).e):=by
 induction l generalizing i with
 |nil=>simp at h
 |cons c l ih=>
  have e:aU (c::l)=.int .i64 c.id:: .int .u64 c.d:: .int .u64 c.e::aU l:=rfl;rw[e];cases i with
  |zero=>exact⟨rfl,rfl,rfl⟩
  |succ i=>
   have:=ih i (by simpa using h);have e1:(i+1)*3=i*3+1+1+1:=by omega
   rw[e1,List.getD_cons_succ]
   simpa using this
theorem IV(l:List Cm):∀u∈aU l,u.oneCell'=true:=by
 intro u hu;simp only[aU,List.mem_flatMap]at hu;obtain⟨c,_,hu⟩:=hu;simp only[Cm.cells,List.mem_cons,List.not_mem_nil,or_false]at hu;rcases hu with rfl|rfl|rfl<;>rfl
def oK(w:World)(B:Nat)(v:Value)(l:List Cm):Prop:=Row w B 3 v l.length (aU l)
theorem oK.later{w w':World}{v:Value}{l:List Cm}(h:oK w w.heap.size v l)(hb:Below w.heap.size w w'):oK w' w'.heap.size v l:=Row.later h hb
theorem oK.own{w:World}{base:Nat}{e:TypeId}{v:Value}{l:List Cm}(h:w.ownsRow base e 3 v l.length (aU l)):oK w w.heap.size v l:=Row.own h
theorem oK.shape{w:World}{B:Nat}{v:Value}{l:List Cm}(h:oK w B v l):∃A c,v=.slice A l.length c:=by
 obtain⟨_,A,c,rfl,_⟩:=h;exact⟨A,c,rfl⟩
theorem oK.at_{w:World}{B:Nat}{A:Option Addr}{n c:Nat}{l:List Cm}(h:oK w B (.slice A n c) l)(hp:0<l.length):
  ∃b off,A=some ⟨b,off,none⟩/\b<B/\∀i,i<l.length->w.cell? ⟨b,off+i*3,none⟩=some (.int .i64 (l.getD i .zero).id)/\
   w.cell? ⟨b,off+i*3+1,none⟩=some (.int .u64 (l.getD i .zero).d)/\w.cell? ⟨b,off+i*3+2,none⟩=some (.int .u64 (l.getD i .zero).e):=by
 obtain⟨_,A',c',hv,_,h⟩:=h;obtain⟨b,off,hA,hB,h⟩:=h hp;have:A=A':=by injection hv
 refine⟨b,off,by rw[this,hA],hB,fun i hi=>?_⟩;obtain⟨h1,h2,h3⟩:=Ci l i hi;exact⟨h _ _ h1,by rw[Nat.add_assoc];exact h _ _ h2,by rw[Nat.add_assoc];exact h _ _ h3⟩
end Mem
namespace ni
open Go.RowKit Pl ny oI Mem
def nU(n:Int)(l:List Cm)(k:Nat):Int:=
 if(l.getD k .zero).id<1\/n<(l.getD k .zero).id then 5 else if 0<k/\(l.getD k .zero).id<=(l.getD (k-1) .zero).id then 6 else 0
def dh(n:Int)(l:List Cm):Nat->Int
 |0=>0
 |k+1=>if dh n l k=0 then nU n l k else dh n l k
def kP(l:List Cm):Nat->Bool
 |0=>true
 |k+1=>kP l k&&(pG (l.getD k .zero).d&&pG (l.getD k .zero).e)
def um(t n:Int)(l:List Cm):Int:=
 if(l.length:Int)<t\/n<(l.length:Int)then 7 else if dh n l l.length≠0 then dh n l l.length else if kP l l.length=true then 0 else 3
theorem xK(n:Int)(l:List Cm){j k:Nat}(h:j<=k)(hj:dh n l j≠0):dh n l k=dh n l j:=by
 induction k with
 |zero=>
  obtain rfl:j=0:=by omega
  rfl
 |succ k ih=>
  rcases Nat.lt_or_ge k j with hlt|hge
  ·obtain rfl:j=k+1:=by omega
   rfl
  ·rw[dh,ih hge,if_neg hj]
theorem Eo(n:Int)(l:List Cm){j k:Nat}(h:j<=k)(hk:dh n l k=0):dh n l j=0:=by
 by_cases h0:dh n l j=0
 ·exact h0
 ·rw[xK n l h h0]at hk;exact absurd hk h0
theorem O9(n:Int)(l:List Cm){k m:Nat}{x:Int}(hk:k<m)(h0:dh n l k=0)(hx:nU n l k=x)(hn:x≠0):dh n l m=x:=by
 rw[xK n l (j:=k+1) (by omega) (by rw[dh,if_pos h0,hx];exact hn),dh,if_pos h0,hx]
theorem zh{n:Int}{l:List Cm}{k:Nat}(h0:dh n l k=0)(hx:nU n l k=0):dh n l (k+1)=0:=by rw[dh,if_pos h0,hx]
theorem IK{n:Int}{l:List Cm}{k m:Nat}(h:dh n l m=0)(hk:k<m):nU n l k=0:=by
 have h1:=Eo n l (j:=k+1) (by omega) h;have h2:=Eo n l (j:=k) (by omega) h;rw[dh,if_pos h2]at h1;exact h1
theorem KT{n:Int}{l:List Cm}{k:Nat}(h:nU n l k=0):1<=(l.getD k .zero).id/\(l.getD k .zero).id<=n/\(0<k->(l.getD (k-1) .zero).id<(l.getD k .zero).id):=by
 unfold nU at h;by_cases h1:(l.getD k .zero).id<1\/n<(l.getD k .zero).id
 ·rw[if_pos h1]at h;omega
 rw[if_neg h1]at h;by_cases h2:0<k/\(l.getD k .zero).id<=(l.getD (k-1) .zero).id
 ·rw[if_pos h2]at h;omega
 exact⟨by omega,by omega,fun h0=>by
  have:¬(l.getD k .zero).id<=(l.getD (k-1) .zero).id:=fun h=>h2 ⟨h0,h⟩
  omega⟩
theorem XE(l:List Cm){j k:Nat}(h:j<=k)(hk:kP l k=true):kP l j=true:=by
 induction k with
 |zero=>
  obtain rfl:j=0:=by omega
  exact hk
 |succ k ih=>
  rw[kP,Bool.and_eq_true]at hk;rcases Nat.lt_or_ge k j with hj|hj
  ·obtain rfl:j=k+1:=by omega
   rw[kP,Bool.and_eq_true];exact hk
  ·exact ih hj hk.1
theorem Lu(l:List Cm){j k:Nat}(h:j<k)(hk:kP l k=true):pG (l.getD j .zero).d=true/\pG (l.getD j .zero).e=true:=by
 have h1:=XE l (j:=j+1) (by omega) hk;rw[kP,Bool.and_eq_true,Bool.and_eq_true]at h1;exact h1.2
theorem EF(l:List Cm){k:Nat}(hk:kP l k=true)(h1:pG (l.getD k .zero).d=true)(h2:pG (l.getD k .zero).e=true):kP l (k+1)=true:=by
 rw[kP,hk,h1,h2];rfl
theorem UW(l:List Cm){j k:Nat}(h:j<k)(hj:pG (l.getD j .zero).d=false\/pG (l.getD j .zero).e=false):kP l k=false:=by
 cases hk:kP l k with
 |false=>rfl
 |true=>
  obtain⟨h1,h2⟩:=Lu l h hk;rcases hj with hj|hj
  ·rw[h1]at hj;cases hj
  ·rw[h2]at hj;cases hj
theorem ac5{t n:Int}{l:List Cm}(h:(l.length:Int)<t\/n<(l.length:Int)):um t n l=7:=by unfold um;rw[if_pos h]
theorem Xl{t n:Int}{l:List Cm}(h:¬((l.length:Int)<t\/n<(l.length:Int)))(h2:dh n l l.length≠0):um t n l=dh n l l.length:=by unfold um;rw[if_neg h,if_pos h2]
theorem aB6{t n:Int}{l:List Cm}(h:¬((l.length:Int)<t\/n<(l.length:Int)))(h2:dh n l l.length=0)(h3:kP l l.length=false):um t n l=3:=by
 unfold um;rw[if_neg h,if_neg (fun h'=>h' h2),if_neg (by rw[h3];simp)]
theorem Xm{t n:Int}{l:List Cm}(h:¬((l.length:Int)<t\/n<(l.length:Int)))(h2:dh n l l.length=0)(h3:kP l l.length=true):um t n l=0:=by
 unfold um;rw[if_neg h,if_neg (fun h'=>h' h2),if_pos h3]
theorem zk{t n:Int}{l:List Cm}(h:um t n l=0):t<=(l.length:Int)/\(l.length:Int)<=n/\dh n l l.length=0/\kP l l.length=true:=by
 unfold um at h;by_cases h1:(l.length:Int)<t\/n<(l.length:Int)
 ·rw[if_pos h1]at h;omega
 rw[if_neg h1]at h;by_cases h2:dh n l l.length≠0
 ·rw[if_pos h2]at h;exact absurd h h2
 rw[if_neg h2]at h;by_cases h3:kP l l.length=true
 ·exact⟨by omega,by omega,by omega,h3⟩
 ·rw[if_neg h3]at h;omega
def Good(n:Int)(l:List Cm):Prop:=∀k,k<l.length->(1<=(l.getD k .zero).id/\(l.getD k .zero).id<=n)/\(0<k->(l.getD (k-1) .zero).id<(l.getD k .zero).id)/\
 (0<(l.getD k .zero).d/\(l.getD k .zero).d<2147483579)/\(0<(l.getD k .zero).e/\(l.getD k .zero).e<2147483579)
theorem Td{x:Int}(h:pG x=true):0<x/\x<2147483579:=by
 unfold pG jM at h;rw[Bool.and_eq_true,decide_eq_true_iff]at h;exact⟨h.1.1,h.1.2.1⟩
theorem tq{t n:Int}{l:List Cm}(h:um t n l=0):Good n l:=by
 obtain⟨_,_,h3,h4⟩:=zk h;intro k hk;have h5:=KT (IK h3 hk);have h6:=Lu l hk h4;exact⟨⟨h5.1,h5.2.1⟩,h5.2.2,Td h6.1,Td h6.2⟩
def flat(l:List Cm):Nat->List Int
 |0=>[]
 |k+1=>flat l k++[(l.getD k .zero).id,(l.getD k .zero).d,(l.getD k .zero).e]
theorem flat_length(l:List Cm)(k:Nat):(flat l k).length=3*k:=by
 induction k with
 |zero=>rfl
 |succ k ih=>rw[flat,List.length_append,ih];simp;omega
def dB(l:List Cm)(key:Int)(k j:Nat):List Int:=[(l.getD k .zero).id,key]++flat l j
theorem kX(l:List Cm)(key:Int)(k j:Nat):(dB l key k j).length=2+3*j:=by
 rw[dB,List.length_append,flat_length];simp
theorem xU(l:List Cm)(key:Int)(k j:Nat):dB l key k (j+1)=dB l key k j++[(l.getD j .zero).id,(l.getD j .zero).d,(l.getD j .zero).e]:=by
 rw[dB,flat,dB,List.append_assoc]
theorem aj1{n:Int}{l:List Cm}(hg:Good n l)(hn:n<=9)(j:Nat)(hj:j<=l.length):∀x∈flat l j,0<=x/\x<18446744073709551616:=by
 induction j with
 |zero=>intro x hx;cases hx
 |succ j ih=>
  intro x hx;have h:=hg j (by omega);rw[flat]at hx;rcases List.mem_append.1 hx with h1|h1
  ·exact ih (by omega) x h1
  ·simp only[List.mem_cons,List.not_mem_nil,or_false]at h1;rcases h1 with rfl|rfl|rfl
   ·omega
   ·omega
   ·omega
theorem CJ{n:Int}{l:List Cm}(hg:Good n l)(hn:n<=9){key:Int}(hk:0<=key/\key<18446744073709551616){k:Nat}(h:k<l.length):
  ∀i,i<(dB l key k l.length).length->0<=(dB l key k l.length).getD i 0/\(dB l key k l.length).getD i 0<18446744073709551616:=by
 intro i hi;have hm:(dB l key k l.length).getD i 0∈dB l key k l.length:=by
  rw[List.getD_eq_getElem?_getD,List.getElem?_eq_getElem hi];exact List.getElem_mem hi
 generalize(dB l key k l.length).getD i 0=x at hm;rw[dB]at hm;rcases List.mem_append.1 hm with h1|h1
 ·simp only[List.mem_cons,List.not_mem_nil,or_false]at h1;have:=hg k h;rcases h1 with rfl|rfl
  ·omega
  ·exact hk
 ·exact aj1 hg hn _ (Nat.le_refl _) x h1
def lH(l:List Cm)(key:Int)(msg:ByteArray)(k:Nat):Int:=vX 1 msg (dB l key k l.length)
theorem rV(l:List Cm)(key:Int)(msg:ByteArray)(k:Nat):0<=lH l key msg k/\lH l key msg k<1073741789:=Nq _ _ _
def lV(l:List Cm)(key:Int)(msg:ByteArray)(k:Nat):Int:=mV (l.getD k .zero).d (pw (l.getD k .zero).e (lH l key msg k).toNat 2147483579)
def mP(l:List Cm)(key:Int)(msg:ByteArray)(k:Nat):List Int:=(List.range k).map (lV l key msg)
theorem qM(l:List Cm)(key:Int)(msg:ByteArray)(k:Nat):(mP l key msg k).length=k:=by simp[mP]
theorem Lh(l:List Cm)(key:Int)(msg:ByteArray)(k:Nat):mP l key msg (k+1)=mP l key msg k++[lV l key msg k]:=by simp[mP,List.range_succ]
theorem UE(l:List Cm)(key:Int)(msg:ByteArray){k i:Nat}(h:i<k):(mP l key msg k).getD i 0=lV l key msg i:=by
 unfold mP;rw[List.getD_eq_getElem?_getD,List.getElem?_map,List.getElem?_range h];rfl
def JE(l:List Cm)(key:Int)(msg:ByteArray):Nat->Int
 |0=>1
 |k+1=>mV (JE l key msg k) (lV l key msg k)
def dM(l:List Cm)(key:Int)(msg:ByteArray):Int:=qy 1 (mP l key msg l.length) l.length
theorem VH(l:List Cm)(key:Int)(msg:ByteArray)(n k:Nat)(h:k<=n):qy 1 (mP l key msg n) k=JE l key msg k:=by
 induction k with
 |zero=>rfl
 |succ k ih=>rw[qy,ih (by omega),UE l key msg (by omega),JE]
theorem DU(l:List Cm)(key:Int)(msg:ByteArray):dM l key msg=JE l key msg l.length:=VH _ _ _ _ _ (Nat.le_refl _)
theorem TU(l:List Cm)(key:Int)(msg:ByteArray)(k:Nat):0<=JE l key msg k/\JE l key msg k<2147483579:=by
 cases k with
 |zero=>unfold JE;omega
 |succ k=>exact DJ _ _
def gV(l:List Cm)(k:Nat):List Int:=(List.range k).map fun i=>(l.getD i .zero).id
theorem kL(l:List Cm)(k:Nat):(gV l k).length=k:=by simp[gV]
theorem ES(l:List Cm)(k:Nat):gV l (k+1)=gV l k++[(l.getD k .zero).id]:=by simp[gV,List.range_succ]
theorem X5(l:List Cm){k i:Nat}(h:i<k):(gV l k).getD i 0=(l.getD i .zero).id:=by
 unfold gV;rw[List.getD_eq_getElem?_getD,List.getElem?_map,List.getElem?_range h];rfl
def Ef(d e b w s c:Int):Int:=mM (mM d (smul e b)) (smul (smul w s) c)
def QO(d e b w s c:Int):Int:=(d+e*b+w*s%1073741789*c%1073741789)%1073741789
theorem sign_eq{d e b w s c:Int}(hd:0<=d/\d<1073741789)(he:0<=e/\e<1073741789)(hb:0<=b/\b<1073741789)(hw:0<=w/\w<1073741789)(hs:0<=s/\s<1073741789)(hc:0<=c/\c<1073741789):Ef d e b w s c=QO d e b w s c:=by
 have b1:=lS e b;have b2:=lS w s;have b3:=lS (smul w s) c;have b4:=Dt d (smul e b);unfold Ef QO;have e1:mM d (smul e b)=(d+e*b)%1073741789:=by
  unfold mM;rw[lN (by omega) (by omega),kV he.1 (by omega) hb.1 (by omega)];generalize e*b=x;omega
 have e2:smul (smul w s) c=w*s%1073741789*c%1073741789:=by
  rw[kV b2.1 (by omega) hc.1 (by omega),kV hw.1 (by omega) hs.1 (by omega)]
 rw[e1]at b4;rw[e2]at b3;rw[e1,e2];unfold mM;rw[lN (by omega) (by omega)];generalize w*s%1073741789*c%1073741789=x;generalize e*b=y;omega
end ni
namespace Dl
open Go.RowKit Pl ny oI ni qj Mem oG Ud Gn
section
section
variable{P:Program}(w:World)
theorem IJ(dT sT ty e:TypeId)(i:TypeInfo)(size:Nat)(hu:P.underlying dT=some (.slice e))(hi:P.info? e=some i)(hsz:i.size=size)
  (g n dc:Nat)(cur:Array Value)(hg:bZ w g e cur)(hcur:cur.size=n*size)(B:Nat)(u:Value)(xs:List Value)(hr:Row w B size u n xs)(h1:∀u∈xs,u.oneCell'=true):
  (Builtin.copy_ #[dT,sT] ty #[.slice (some ⟨g,0,none⟩) n dc,u]).run P w=.ok (goInt n) (w.setRow g xs.toArray):=by
 obtain⟨hl,A,c,rfl,hc,hr⟩:=hr;subst hsz;rcases A with _|ad
 ·have hn:n=0:=by
   rcases Nat.eq_zero_or_pos n with h0|h0
   ·exact h0
   ·obtain⟨b,off,h,_⟩:=hr h0;cases h
  subst hn;have hxs:xs=[]:=List.eq_nil_of_length_eq_zero (by simpa using hl);subst hxs;have hce:cur=#[]:=Array.eq_empty_of_size_eq_zero (by simpa using hcur);subst hce;have hs:=setRow_self w g #[] e (0,0) hg;simp[Builtin.copy_,run_underlying hu,Builtin.lenOf,Builtin.firstCells,sizeOf,typeInfo,hi,storeCells,hs]
 ·have hcells:∀j u,xs[j]?=some u->w.cell? (ad.add j)=some u:=by
   intro j u hju;rcases Nat.eq_zero_or_pos n with h0|h0
   ·subst h0;have hn:xs=[]:=List.eq_nil_of_length_eq_zero (by simpa using hl);subst hn;simp at hju
   ·obtain⟨b,off,h,_,hcell⟩:=hr h0;injection h with h
    subst h;rw[JG];exact hcell j u hju
  have hf:=run_firstCells_some (P:=P) w i.size n ad n c xs hl hcells;have hst:=run_storeCells_at P g 0 e xs 0 cur w hg (by rw[hcur,hl];omega) h1;have e1:cur.toList.take (0+0)++xs++cur.toList.drop (0+0+xs.length)=xs:=by
   rw[List.drop_of_length_le (by rw[Array.length_toList,hcur,hl];omega)];simp
  rw[e1]at hst;simp[Builtin.copy_,run_underlying hu,Builtin.lenOf,sizeOf,typeInfo,hi,hf,hst]
end
theorem Qn{w:World}{g:Nat}{t:TypeId}{cs:Array Value}(h:bZ w g t cs)(cs2:Array Value):bZ (w.setRow g cs2) g t cs2:=setRow_heap w g cs cs2 t (0,0) h
structure Pk(w:World)(p g:Nat)(vc lv:Value)(t n:Int)(cs:List Int)(l:List Cm)(msg:ByteArray)(base:Nat):Prop where
 pk:bZ w p 146 #[.pointer (some ⟨g,0,none⟩),lv,.string msg]
 iJ:oK w w.heap.size lv l
 grp:fB w g t n vc 0 0 cs 1
 own:mD w base vc cs
theorem Pk.later{w w':World}{p g:Nat}{vc lv:Value}{t n:Int}{cs:List Int}{l:List Cm}{msg:ByteArray}{base:Nat}(h:Pk w p g vc lv t n cs l msg base)(hb:Below w.heap.size w w'):Pk w' p g vc lv t n cs l msg base:=
 ⟨h.pk.below hb h.pk.lt,h.iJ.later hb,h.grp.below hb h.grp.lt,own_below h.own hb (Nat.le_refl _)⟩
theorem Pk.cells{w:World}{p g:Nat}{vc lv:Value}{t n:Int}{cs:List Int}{l:List Cm}{msg:ByteArray}{base:Nat}(h:Pk w p g vc lv t n cs l msg base):
  w.cell? ⟨p,0,none⟩=some (.pointer (some ⟨g,0,none⟩))/\w.cell? ⟨p,1,none⟩=some lv/\w.cell? ⟨p,2,none⟩=some (.string msg):=⟨h.pk.cell 0,h.pk.cell 1,h.pk.cell 2⟩
section
variable{w:World}{p g:Nat}{vc lv:Value}{t n:Int}{cs:List Int}{l:List Cm}{msg:ByteArray}{base:Nat}
theorem aq6(h:Pk w p g vc lv t n cs l msg base)(hl:l.length<=65536)(x:Int)(hx:x=if(l.length:Int)<t\/n<(l.length:Int)then 7 else 0):
  Calls Try.prog 73 #[.pointer (some ⟨p,0,none⟩)] w fun e w'=>e=.returned (.int .i64 x)/\Below w.heap.size w w':=by
 obtain⟨p0,p1,p2⟩:=h.cells;obtain⟨g0,g1,g2,g3,g4⟩:=h.grp.cells;obtain⟨A,c,rfl⟩:=h.iJ.shape;have HX:=Lib.hid hx;clear hx h;by_cases h1:(l.length:Int)<t
 ·have hx2:Hid (x=7):=by
   show x=7;rw[HX.out,if_pos (.inl h1)]
  go_enter Try.func73,Try.ntmps73
  go_wp2_with fail
  go_quiet (fail)
  go_wp2_with fail
  go_ret
  exact⟨by rw[hx2.out];rfl,below_drewN (Below.refl _ _) _⟩
 by_cases h2:n<(l.length:Int)
 ·have hx2:Hid (x=7):=by
   show x=7;rw[HX.out,if_pos (.inr h2)]
  go_enter Try.func73,Try.ntmps73
  go_wp2_with fail
  go_quiet (fail)
  go_wp2_with fail
  go_ret
  exact⟨by rw[hx2.out];rfl,below_drewN (Below.refl _ _) _⟩
 have hx2:Hid (x=0):=by
  show x=0;rw[HX.out,if_neg (by omega)]
 go_enter Try.func73,Try.ntmps73
 go_wp2_with fail
 go_quiet (fail)
 go_wp2_with fail
 go_ret
 exact⟨by rw[hx2.out];rfl,below_drewN (Below.refl _ _) _⟩
theorem ab9(h:Pk w p g vc lv t n cs l msg base)(hl:l.length<=65536):
  Calls Try.prog 74 #[.pointer (some ⟨p,0,none⟩)] w fun e w'=>e=.returned (.int .i64 (dh n l l.length))/\Below w.heap.size w w':=by
 obtain⟨A,c,rfl⟩:=h.iJ.shape;have H:=Lib.hid h;obtain⟨p0,p1,p2⟩:=h.cells;clear h
 go_enter Try.func74,Try.ntmps74
 go_wp2_with fail
 go_loopw [10] (fun i wr=>∃k:Nat,k<=l.length/\i=.int .i64 k/\dh n l k=0/\Below w.heap.size w wr) (fun i _=>l.length-(intOf i).toNat)
 case atStart=>exact⟨0,by omega,rfl,rfl,Below.refl _ _⟩
 case round=>
  obtain⟨k,hk,rfl,he,hbw⟩:=hrel;have HE:=Lib.hid he;clear he p0 p1 p2;by_cases hlt:k<l.length
  ·obtain⟨b,off,rfl,hb,hc⟩:=H.out.iJ.at_ (by omega);have HW:=H.out.later hbw;obtain⟨q0,q1,q2⟩:=HW.cells;obtain⟨g0,g1,g2,g3,g4⟩:=HW.grp.cells;obtain⟨x0,x1,x2⟩:=hc k hlt;replace x0:=(hbw.cell (p:=⟨b,off+k*3,none⟩) hb).trans x0;replace x1:=(hbw.cell (p:=⟨b,off+k*3+1,none⟩) hb).trans x1;replace x2:=(hbw.cell (p:=⟨b,off+k*3+2,none⟩) hb).trans x2;have hpr:0<k->wr.cell? ⟨b,off+(k-1)*3,none⟩=some (.int .i64 (l.getD (k-1) .zero).id):=fun h0=>(hbw.cell (p:=⟨b,off+(k-1)*3,none⟩) hb).trans (hc (k-1) (by omega)).1
   have hpl:=HW.pk.lt;have hgl:=HW.grp.lt;have hbl:b<wr.heap.size:=by have:=hbw.size;omega
   have eAt:Hid (nU n l k=if(l.getD k .zero).id<1\/n<(l.getD k .zero).id then 5 else if 0<k/\(l.getD k .zero).id<=(l.getD (k-1) .zero).id then 6 else 0):=by
    show nU n l k=_;rfl
   have hfin:∀x,nU n l k=x->x≠0->Hid (dh n l l.length=x):=fun x hx hn=>O9 n l hlt HE.out hx hn
   have hstep:nU n l k=0->Hid (dh n l (k+1)=0):=fun hx=>zh HE.out hx
   have FIN:=Lib.hid hfin;have STEP:=Lib.hid hstep;have hbox:=aK wr (.cells #[.int .i64 (l.getD k .zero).id,.int .u64 (l.getD k .zero).d,.int .u64 (l.getD k .zero).e] 37);have hbb:=Lib.hid (hbw.trans (hbox.mono hbw.size));clear hc hfin hstep HW hbw hbox;generalize(l.getD k .zero).id=X at*;generalize(l.getD k .zero).d=D at*;generalize(l.getD k .zero).e=E at*;generalize(l.getD (k-1) .zero).id=Y at*;by_cases d1:X<1
   case pos=>
    have hF:=FIN.out 5 (by rw[eAt.out,if_pos (.inl d1)]) (by omega)
    go_wp2_with fail
    go_quiet (fail)
    go_wp2_with fail
    go_ret
    exact⟨by rw[hF.out];rfl,below_drewN hbb.out _⟩
   by_cases d2:n<X
   case pos=>
    have hF:=FIN.out 5 (by rw[eAt.out,if_pos (.inr d2)]) (by omega)
    go_wp2_with fail
    go_quiet (fail)
    go_wp2_with fail
    go_ret
    exact⟨by rw[hF.out];rfl,below_drewN hbb.out _⟩
   have e2:nU n l k=if 0<k/\X<=Y then 6 else 0:=by rw[eAt.out,if_neg (by omega)]
   by_cases d3:0<k
   case neg=>
    have d3':¬(0:Int)<(k:Int):=by omega
    have hS:=STEP.out (by rw[e2,if_neg (fun h=>d3 h.1)]);clear e2
    go_wp2_with fail
    go_quiet (fail)
    go_wp2_with fail
    go_quiet (fail)
    go_wp2_with fail
    refine⟨⟨k+1,by omega,by go_num,hS.out,?_⟩,by simp[intOf];omega⟩
    first|exact below_drewN hbb.out _|exact below_drewN (below_drewN hbb.out _) _
   have d3':(0:Int)<(k:Int):=by omega
   have y0:=hpr d3;obtain⟨j,rfl⟩:∃j,k=j+1:=⟨k-1,by omega⟩;rw[Nat.add_sub_cancel]at y0;have s1:IntKind.i64.wrap (((j+1:Nat):Int)-1)=(j:Int):=by rw[IntKind.wrap_i64];omega
   have s2:IntKind.i64.wrap ((j:Int)+1-1)=(j:Int):=by rw[IntKind.wrap_i64];omega
   have s3:IntKind.i64.wrap (j:Int)=(j:Int):=by rw[IntKind.wrap_i64];omega
   have s4:(j:Int)<(l.length:Int):=by omega
   have s5:(0:Int)<=(j:Int):=by omega
   clear hpr;by_cases d4:X<=Y
   case pos=>
    have hF:=FIN.out 6 (by rw[e2,if_pos ⟨d3,d4⟩]) (by omega);clear e2
    go_wp2_with fail
    go_quiet (fail)
    go_wp2_with fail
    go_quiet (fail)
    go_wp2_with fail
    go_ret
    exact⟨by rw[hF.out];rfl,by first|exact below_drewN hbb.out _|exact below_drewN (below_drewN hbb.out _) _⟩
   have hS:=STEP.out (by rw[e2,if_neg (fun h=>d4 h.2)]);clear e2
   go_wp2_with fail
   go_quiet (fail)
   go_wp2_with fail
   go_quiet (fail)
   go_wp2_with fail
   refine⟨⟨j+1+1,by omega,by go_num,hS.out,?_⟩,by simp[intOf];omega⟩
   first|exact below_drewN hbb.out _|exact below_drewN (below_drewN hbb.out _) _
  ·obtain rfl:k=l.length:=by omega
   go_wp2_with fail
   go_ret
   exact⟨by rw[HE.out];rfl,hbw⟩
end
end
section
section
variable{w:World}{p g:Nat}{vc lv:Value}{t n:Int}{cs:List Int}{l:List Cm}{msg:ByteArray}{base:Nat}
theorem zo{D:Int}{b1 b2:Bool}(e1:jM D=b1)(e2:(D==1)=b2)(h:b1=false\/b2=true):pG D=false:=by
 unfold pG;rw[e1];rcases h with rfl|rfl
 ·rfl
 ·rw[beq_iff_eq]at e2;rw[e2];cases b1<;>rfl
theorem Rw{D:Int}(e1:jM D=true)(e2:(D==1)=false):pG D=true:=by
 unfold pG;rw[beq_eq_false_iff_ne]at e2;rw[e1];simp[e2]
theorem He(h:Pk w p g vc lv t n cs l msg base)(hl:l.length<=65536)
  (hb:∀i,i<l.length->0<=(l.getD i .zero).d/\0<=(l.getD i .zero).e)(x:Int)(hx:x=if kP l l.length=true then 0 else 3):
  Calls Try.prog 75 #[.pointer (some ⟨p,0,none⟩)] w fun e w'=>e=.returned (.int .i64 x)/\Below w.heap.size w w':=by
 obtain⟨A,c,rfl⟩:=h.iJ.shape;have H:=Lib.hid h;obtain⟨p0,p1,p2⟩:=h.cells;have HB:=Lib.hid hb;have HX:=Lib.hid hx;clear h hb hx
 go_enter Try.func75,Try.ntmps75
 go_wp2_with fail
 go_loopw [14] (fun i wr=>∃k:Nat,k<=l.length/\i=.int .i64 k/\kP l k=true/\Below w.heap.size w wr) (fun i _=>l.length-(intOf i).toNat)
 case atStart=>exact⟨0,by omega,rfl,rfl,Below.refl _ _⟩
 case round=>
  obtain⟨k,hk,rfl,he,hbw⟩:=hrel;have HE:=Lib.hid he;clear he p0 p1 p2;by_cases hlt:k<l.length
  ·obtain⟨b,off,rfl,hb,hc⟩:=H.out.iJ.at_ (by omega);obtain⟨x0,x1,x2⟩:=hc k hlt;replace x0:=(hbw.cell (p:=⟨b,off+k*3,none⟩) hb).trans x0;replace x1:=(hbw.cell (p:=⟨b,off+k*3+1,none⟩) hb).trans x1;replace x2:=(hbw.cell (p:=⟨b,off+k*3+2,none⟩) hb).trans x2;obtain⟨bD,bE⟩:=HB.out k hlt;have hbad:(pG (l.getD k .zero).d=false\/pG (l.getD k .zero).e=false)->Hid (x=3):=fun h=>by
    show x=3;rw[HX.out,if_neg];rw[UW l hlt h];simp
   have hstep:pG (l.getD k .zero).d=true->pG (l.getD k .zero).e=true->Hid (kP l (k+1)=true):=fun h1 h2=>EF l HE.out h1 h2
   have BAD:=Lib.hid hbad;have STEP:=Lib.hid hstep;have hbox:=aK wr (.cells #[.int .i64 (l.getD k .zero).id,.int .u64 (l.getD k .zero).d,.int .u64 (l.getD k .zero).e] 37);have hbb:=Lib.hid (hbw.trans (hbox.mono hbw.size));clear hc hbad hstep hbw hbox;generalize(l.getD k .zero).id=X at*;generalize(l.getD k .zero).d=D at*;generalize(l.getD k .zero).e=E at*;have i0':∀W,(Instr.index 182 (.agg #[.int .u64 D,.int .u64 E]) (.int .i64 0)).run Try.prog W=.ok (.int .u64 D) W:=fun _=>by kernel_rfl
   have i1':∀W,(Instr.index 182 (.agg #[.int .u64 D,.int .u64 E]) (.int .i64 1)).run Try.prog W=.ok (.int .u64 E) W:=fun _=>by kernel_rfl
   go_wp2_with fail
   go_loop [23] (fun i=>(i=.int .i64 0)\/(i=.int .i64 1/\Hid (pG D=true))\/(i=.int .i64 2/\Hid (pG D=true)/\Hid (pG E=true))) (fun i=>(2-intOf i).toNat)
   case atStart=>exact .inl rfl
   case round=>
    rcases hrel with rfl|⟨rfl,hD⟩|⟨rfl,hD,hEE⟩
    ·obtain⟨b1,e1⟩:∃b,jM D=b:=⟨_,rfl⟩;obtain⟨b2,e2⟩:∃b,(D==1)=b:=⟨_,rfl⟩;have E1:=Lib.hid e1;clear e1;cases b1
     case false=>
      have hF:=BAD.out (.inl (zo E1.out e2 (.inl rfl)));cases b2
      all_goals
       go_wp2_with (go_at_call 61;refine(rP _ D _ bD E1.out).mono ?_;rintro e w' ⟨rfl,rfl⟩)
       go_ret
       exact⟨by rw[hF.out];rfl,hbb.out⟩
     cases b2
     case true=>
      have hF:=BAD.out (.inl (zo E1.out e2 (.inr rfl)))
      go_wp2_with (go_at_call 61;refine(rP _ D _ bD E1.out).mono ?_;rintro e w' ⟨rfl,rfl⟩)
      go_ret
      exact⟨by rw[hF.out];rfl,hbb.out⟩
     have HG:=Lib.hid (Rw E1.out e2)
     go_wp2_with (go_at_call 61;refine(rP _ D _ bD E1.out).mono ?_;rintro e w' ⟨rfl,rfl⟩)
     refine⟨.inr (.inl ⟨rfl,HG⟩),by simp[intOf]⟩
    ·obtain⟨b1,e1⟩:∃b,jM E=b:=⟨_,rfl⟩;obtain⟨b2,e2⟩:∃b,(E==1)=b:=⟨_,rfl⟩;have E1:=Lib.hid e1;clear e1;cases b1
     case false=>
      have hF:=BAD.out (.inr (zo E1.out e2 (.inl rfl)));cases b2
      all_goals
       go_wp2_with (go_at_call 61;refine(rP _ E _ bE E1.out).mono ?_;rintro e w' ⟨rfl,rfl⟩)
       go_ret
       exact⟨by rw[hF.out];rfl,hbb.out⟩
     cases b2
     case true=>
      have hF:=BAD.out (.inr (zo E1.out e2 (.inr rfl)))
      go_wp2_with (go_at_call 61;refine(rP _ E _ bE E1.out).mono ?_;rintro e w' ⟨rfl,rfl⟩)
      go_ret
      exact⟨by rw[hF.out];rfl,hbb.out⟩
     have HG:=Lib.hid (Rw E1.out e2)
     go_wp2_with (go_at_call 61;refine(rP _ E _ bE E1.out).mono ?_;rintro e w' ⟨rfl,rfl⟩)
     refine⟨.inr (.inr ⟨rfl,hD,HG⟩),by simp[intOf]⟩
    ·have hS:=STEP.out hD.out hEE.out
     go_wp2_with fail
     refine⟨⟨k+1,by omega,by go_num,hS.out,hbb.out⟩,by simp[intOf];omega⟩
  ·obtain rfl:k=l.length:=by omega
   have hF:Hid (x=0):=by
    show x=0;rw[HX.out,if_pos HE.out]
   go_wp2_with fail
   go_ret
   exact⟨by rw[hF.out];rfl,hbw⟩
theorem X4:(Try.prog.info? 37).map (fun i=>(i.zero,i.size,i.bytes))=some (some (.agg #[.int .i64 0,.int .u64 0,.int .u64 0]),3,24):=by kernel_rfl
def am6(t n:Int)(cs:List Int)(l:List Cm)(msg:ByteArray)(g:Nat)(vc:Value)(base:Nat)(w:World)(e:Ending)(w':World):Prop:=
 Below w.heap.size w w'/\
 ((um t n l≠0/\e=.returned (.tuple #[.pointer none,.int .i64 (um t n l)]))\/
  (um t n l=0/\∃p lv,e=.returned (.tuple #[.pointer (some ⟨p,0,none⟩),.int .i64 0])/\Pk w' p g vc lv t n cs l msg base))
def Zu(t n:Int)(cs:List Int)(l:List Cm)(msg:ByteArray)(g:Nat)(vc:Value)(base:Nat)(w:World)(e:Ending)(w':World):Prop:=
 Below w.heap.size w w'/\
 ((um t n l≠0/\e=.returned (.tuple #[.pointer none,.int .i64 (um t n l)]))\/
  (um t n l=0/\∃p lv,e=.returned (.tuple #[.pointer (some ⟨p,0,none⟩),.int .i64 0])/\Pk w' p g vc lv t n cs l msg base/\w.heap.size<=p/\∃lb,lv=.slice (some ⟨lb,0,none⟩) l.length l.length/\w.heap.size<=lb))
theorem Qp{w w':World}(h:w.grownBy w' none):Below w.heap.size w w':=⟨h.os,h.tape,h.output,h.size,fun k hk=>h.block k hk (by simp)⟩
theorem ac7{w:World}{base:Nat}{e:TypeId}{size g n:Nat}{xs:List Value}(h:w.ownsRow base e size (.slice (some ⟨g,0,none⟩) n n) n xs):∃cur,bZ w g e cur/\cur.size=n*size:=by
 rcases h.2 with⟨h,_⟩|⟨g',cap',cur,h,hb,hh,hnc,hcm,hcs,htake⟩
 ·simp at h
 ·simp only[Value.slice.injEq,Option.some.injEq,Addr.mk.injEq,and_true,true_and]at h;obtain⟨rfl,rfl⟩:=h;exact⟨cur,hh,hcs⟩
theorem copied{w w1:World}{g:Nat}{cur:Array Value}(hb:bZ w1 g 37 cur)(hl:l.length<=65536)(hbw:Below w.heap.size w w1)(hg:w.heap.size<=g):
  (w1.setRow g (aU l).toArray).ownsRow w.heap.size 37 3 (.slice (some ⟨g,0,none⟩) l.length l.length) l.length (aU l)/\Below w.heap.size w (w1.setRow g (aU l).toArray):=by
 refine⟨⟨dL l,.inr ⟨g,l.length,_,rfl,hg,Qn hb _,Nat.le_refl _,by unfold maxLen;omega,by simp[dL],?_⟩⟩,?_⟩
 ·show(aU l).take (l.length*3)=aU l;rw[<-dL l,List.take_length]
 ·exact hbw.trans ⟨rfl,rfl,rfl,by simp[World.setRow],fun k hk=>setRow_other w1 g k _ (by omega)⟩
theorem Rf(hG:fB w g t n vc 0 0 cs 1)(hO:mD w base vc cs)(hC:oK w w.heap.size lv l)(hl:l.length<=65536)
  (hb:∀i,i<l.length->0<=(l.getD i .zero).d/\0<=(l.getD i .zero).e):
  Calls Try.prog 32 #[.pointer (some ⟨g,0,none⟩),.string msg,lv] w (Zu t n cs l msg g vc base w):=by
 obtain⟨A,c,rfl⟩:=hC.shape;have HG:=Lib.hid hG;have HO:=Lib.hid hO;have HC:=Lib.hid hC;have HB:=Lib.hid hb;obtain⟨i0,hi,hz0,hz1,hz2⟩:=info_parts X4;clear hG hO hC hb
 go_enter Try.func32,Try.ntmps32
 go_wp2_with (first|(refine wpList_make_full _ rfl _ _ 40 rfl w.heap.size 37 i0 (.agg #[.int .i64 0,.int .u64 0,.int .u64 0]) 3 Try.underlying40 hi hz0 hz1 .i64 .i64 _ _ l.length rfl rfl (by go_simp) (by go_simp) (by rw[hz2];omega) (by unfold maxLen;omega) (Nat.le_refl _) ?_;intro w1 hown1 Ye;obtain⟨cur,hcur,hcs⟩:=ac7 hown1;have hbn:=Qp Ye;have hcm1:=HC.out.later hbn;have hcopy:=IJ (P:=Try.prog) w1 40 40 3 37 i0 3 Try.underlying40 hi hz1 w.heap.size l.length l.length cur hcur hcs w1.heap.size (.slice A l.length c) (aU l) hcm1 (IV l);obtain⟨hown2,hbw2⟩:=copied (l:=l) hcur hl hbn (Nat.le_refl _);clear hcm1;generalize w1.setRow w.heap.size (aU l).toArray=w2 at*))
 have bd3:bZ (w2.alloc (.cells #[.pointer (some ⟨g,0,none⟩),.slice (some ⟨w.heap.size,0,none⟩) l.length l.length,.string msg] 146)) w2.heap.size 146 #[.pointer (some ⟨g,0,none⟩),.slice (some ⟨w.heap.size,0,none⟩) l.length l.length,.string msg]:=bZ.new _ _ _;have bg7:Pk (w2.alloc (.cells #[.pointer (some ⟨g,0,none⟩),.slice (some ⟨w.heap.size,0,none⟩) l.length l.length,.string msg] 146)) w2.heap.size g vc (.slice (some ⟨w.heap.size,0,none⟩) l.length l.length) t n cs l msg base:=
  have hbx:=aK w2 (.cells #[.pointer (some ⟨g,0,none⟩),.slice (some ⟨w.heap.size,0,none⟩) l.length l.length,.string msg] 146)
  ⟨bd3,(oK.own hown2).later hbx,(HG.out.below hbw2 HG.out.lt).below hbx (by have:=HG.out.lt;have:=hbw2.size;omega),own_below (own_below HO.out hbw2 (Nat.le_refl _)) hbx (Nat.le_refl _)⟩
 have bg6:=bg7.later (aK _ (.cells #[.func (.func 73) #[] #[],.func (.func 74) #[] #[],.func (.func 75) #[] #[]] 150));have HPK:=Lib.hid bg6;have hbw3:=Lib.hid ((hbw2.alloc hbw2.size (.cells #[.pointer (some ⟨g,0,none⟩),.slice (some ⟨w.heap.size,0,none⟩) l.length l.length,.string msg] 146)).alloc (by have:=hbw2.size;simp;omega) (.cells #[.func (.func 73) #[] #[],.func (.func 74) #[] #[],.func (.func 75) #[] #[]] 150));have hqb:=Lib.hid (jc (w:=(w2.alloc (.cells #[.pointer (some ⟨g,0,none⟩),.slice (some ⟨w.heap.size,0,none⟩) l.length l.length,.string msg] 146))) (g:=w2.heap.size+1) 150 #[.func (.func 73) #[] #[],.func (.func 74) #[] #[],.func (.func 75) #[] #[]] (by simp));have HSZ:=Lib.hid hbw2.size;clear bd3 bg7 bg6 hown2 hbw2 hown1 Ye hcur hcs hbn
 go_loopw [26] (fun i wr=>(i=.int .i64 0\/(i=.int .i64 1/\¬((l.length:Int)<t\/n<(l.length:Int)))\/(i=.int .i64 2/\¬((l.length:Int)<t\/n<(l.length:Int))/\dh n l l.length=0)\/(i=.int .i64 3/\um t n l=0))/\
  Pk wr w2.heap.size g vc (.slice (some ⟨w.heap.size,0,none⟩) l.length l.length) t n cs l msg base/\bZ wr (w2.heap.size+1) 150 #[.func (.func 73) #[] #[],.func (.func 74) #[] #[],.func (.func 75) #[] #[]]/\Below w.heap.size w wr) (fun i _=>(3-intOf i).toNat)
 case atStart=>exact⟨.inl rfl,HPK.out,hqb.out,hbw3.out⟩
 case round=>
  obtain⟨hph,hPk,hq,hbw⟩:=hrel;have q0:wr.cell? ⟨w2.heap.size+1,0,none⟩=some (.func (.func 73) #[] #[]):=hq.cell 0;have q1:wr.cell? ⟨w2.heap.size+1,1,none⟩=some (.func (.func 74) #[] #[]):=hq.cell 1;have q2:wr.cell? ⟨w2.heap.size+1,2,none⟩=some (.func (.func 75) #[] #[]):=hq.cell 2;have HP:=Lib.hid hPk;clear hPk HPK;rcases hph with rfl|⟨rfl,hfew⟩|⟨rfl,hfew,hris⟩|⟨rfl,h0⟩
  ·by_cases hfew:(l.length:Int)<t\/n<(l.length:Int)
   ·have hE:=Lib.hid (ac5 hfew);have hm:=Lib.hid (aq6 HP.out hl 7 (by rw[if_pos hfew]));clear hfew
    go_wp2_with fail
    refine hm.out.mono ?_;rintro e w5 ⟨rfl,hb5⟩
    go_wp2_with fail
    go_ret2
    exact⟨hbw.trans (hb5.mono hbw.size),.inl ⟨by rw[hE.out];omega,by rw[hE.out];rfl⟩⟩
   ·have hm:=Lib.hid (aq6 HP.out hl 0 (by rw[if_neg hfew]));have aR1:=Lib.hid hfew;clear hfew
    go_wp2_with fail
    refine hm.out.mono ?_;rintro e w5 ⟨rfl,hb5⟩
    go_wp2_with fail
    exact⟨⟨.inr (.inl ⟨rfl,aR1.out⟩),HP.out.later hb5,hq.below hb5 hq.lt,hbw.trans (hb5.mono hbw.size)⟩,by simp[intOf]⟩
  ·have aR1:=Lib.hid hfew;have hm:=Lib.hid (ab9 HP.out hl);by_cases hr:dh n l l.length=0
   ·rw[hr]at hm;have HR:=Lib.hid hr;clear hfew hr
    go_wp2_with fail
    refine hm.out.mono ?_;rintro e w5 ⟨rfl,hb5⟩
    go_wp2_with fail
    exact⟨⟨.inr (.inr (.inl ⟨rfl,aR1.out,HR.out⟩)),HP.out.later hb5,hq.below hb5 hq.lt,hbw.trans (hb5.mono hbw.size)⟩,by simp[intOf]⟩
   ·have hE:=Lib.hid (Xl hfew hr);have HNZ:=Lib.hid hr;have hne:(dh n l l.length != 0)=true:=by rw[bne_iff_ne];exact hr
    generalize dh n l l.length=x at*;clear hfew hr
    go_wp2_with fail
    refine hm.out.mono ?_;rintro e w5 ⟨rfl,hb5⟩
    go_wp2_with fail
    go_ret2
    exact⟨hbw.trans (hb5.mono hbw.size),.inl ⟨by rw[hE.out];exact HNZ.out,by rw[hE.out];rfl⟩⟩
  ·by_cases hn:kP l l.length=true
   ·have hE:=Lib.hid (Xm hfew hris hn);have hm:=Lib.hid (He HP.out hl HB.out 0 (by rw[if_pos hn]));clear hfew hris hn
    go_wp2_with fail
    refine hm.out.mono ?_;rintro e w5 ⟨rfl,hb5⟩
    go_wp2_with fail
    exact⟨⟨.inr (.inr (.inr ⟨rfl,hE.out⟩)),HP.out.later hb5,hq.below hb5 hq.lt,hbw.trans (hb5.mono hbw.size)⟩,by simp[intOf]⟩
   ·have hE:=Lib.hid (aB6 hfew hris (by simpa using hn));have hm:=Lib.hid (He HP.out hl HB.out 3 (by rw[if_neg hn]));clear hfew hris hn
    go_wp2_with fail
    refine hm.out.mono ?_;rintro e w5 ⟨rfl,hb5⟩
    go_wp2_with fail
    go_ret2
    exact⟨hbw.trans (hb5.mono hbw.size),.inl ⟨by rw[hE.out];omega,by rw[hE.out];rfl⟩⟩
  ·have H0:=Lib.hid h0;clear h0
   go_wp2_with fail
   go_ret2
   exact⟨hbw,.inr ⟨H0.out,_,_,rfl,HP.out,HSZ.out,_,rfl,Nat.le_refl _⟩⟩
theorem aB5(hG:fB w g t n vc 0 0 cs 1)(hO:mD w base vc cs)(hC:oK w w.heap.size lv l)(hl:l.length<=65536)
  (hb:∀i,i<l.length->0<=(l.getD i .zero).d/\0<=(l.getD i .zero).e):
  Calls Try.prog 32 #[.pointer (some ⟨g,0,none⟩),.string msg,lv] w (am6 t n cs l msg g vc base w):=
 (Rf hG hO hC hl hb).mono fun _ _ ⟨h1,h2⟩=>⟨h1,h2.imp id fun⟨a,p,lv,b,c,_⟩=>⟨a,p,lv,b,c⟩⟩
end
end
end Dl
end Go.Proofs.Ytpfpokjaeffbjab
