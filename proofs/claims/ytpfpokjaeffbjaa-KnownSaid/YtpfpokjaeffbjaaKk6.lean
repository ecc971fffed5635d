/- Part of the proof: Mem, Slices, Hash, RefHash, Verify, DealPlain, GroupPlain, Locks, Once, Group, GroupOf, Coms, PkgPlain, Package, PackageOf, PackageNums. -/
import Derived.Test.YtpfpokjaeffbjaaKk0
import Derived.Test.YtpfpokjaeffbjaaKk5
import Derived.Lib.Hide
import Derived.Deep.QuietTactic
import Derived.BigQuiet
import Derived.Deep.LoopGhost
import Derived.Deep.Draws
import Derived.Deep.AppendLies
import Derived.Deep.Onto
import Derived.OneCell
import Derived.Lib.AppendStr
import Derived.Deep.RegionHeld3
import Derived.Deep.DrawnRows
import Derived.Test.YtpfpokjaeffbjaaProg
import Derived.Conc.MuLone
import Derived.Conc.MuData
import Derived.KernelRfl
import Derived.Test.YtpfpokjaeffbjaaRows
import Derived.WalkKit
import Derived.Defers
import Derived.Laws.Pointers
import Derived.Laws.LoneSync
import Derived.RegionTactic
import Derived.RegionCalls
import Derived.Deep.DeepCutAuto
import Derived.Deep.OwnRows
import Derived.Deep.RegionLaw
set_option linter.unusedVariables false
set_option linter.unusedSimpArgs false
set_option maxRecDepth 100000
set_option maxHeartbeats 16000000
open Go.Value renaming int→bU,oneCell'→cw
open Nat renaming zero_add→cZ,le_refl→aH,lt_or_ge→bw
open List renaming getElem?_map→bZ,getElem?_eq_getElem→aN,getD_eq_getElem?_getD→aC,range→bq,map_append→cB,length_append→dG,mem_cons→aM,not_mem_nil→bA
open Go.World renaming cell?_setCell_other→bX,ownsRow_nil→cy
open Array renaming getElem?_eq_getElem→aI,size_setIfInBounds→cL,getElem?_setIfInBounds_ne→aB,getElem?_setIfInBounds_self_of_lt→aW
open Go.Builtin renaming firstCells→di
open Go.Proofs.Try renaming prog→dS
open Int renaming eq_ofNat_of_zero_le→cn,emod_emod_of_dvd→cM
open Bool renaming and_eq_true→aD
open Go.IntKind renaming wrap_i64→cE
namespace Go.Proofs.Ytpfpokjaeffbjaa
open Go renaming World→ae,Value→af,Goroutine→ah,Frame→ai,TypeId→aj,FuncId→ak,Program→au,undef→av,execOp→ax
open Go.Lib renaming hid→ay
namespace Mem
open Go.RowKit Pl
def fW(k:IntKind)(w:ae)(B:Nat)(v:af)(l:List Int):Prop:=
 ∃(A:Option Addr) (c:Nat),v=.slice A l.length c/\l.length<=c/\
  (0<l.length->∃b off,A=some ⟨b,off,none⟩/\b<B/\∀i,i<l.length->w.cell? ⟨b,off+i,none⟩=some (.int k (l.getD i 0)))
theorem km{P:au}{f:ak}{args:Array af}{w:ae}{a n:Nat}{v:af}
  (h:Calls P f args (w.drewN (a+n)) fun e w'=>e=.returned v/\w.drewN (a+n)=w'):
  Calls P f args (w.drewN (a+n)) fun e w''=>e=.returned v/\∃m,w''=w.drewN (a+m):=
 h.mono fun _ _ ⟨he,hm⟩=>⟨he,n,hm.symm⟩
theorem below_drewN{B:Nat}{a w:ae}(h:Below B a w)(n:Nat):Below B a (w.drewN n):=⟨h.os,h.tape,h.output,h.size,h.block⟩
theorem fW.below{k:IntKind}{w w':ae}{B:Nat}{v:af}{l:List Int}(h:fW k w B v l)(hb:Below B w w'):fW k w' B v l:=by
 obtain⟨A,c,rfl,hc,h⟩:=h;refine⟨A,c,rfl,hc,fun hl=>?_⟩;obtain⟨b,off,rfl,hB,h⟩:=h hl;exact⟨b,off,rfl,hB,fun i hi=>(hb.cell (p:=⟨b,off+i,none⟩) hB).trans (h i hi)⟩
theorem fW.more{k:IntKind}{w:ae}{B B':Nat}{v:af}{l:List Int}(h:fW k w B v l)(hb:B<=B'):fW k w B' v l:=by
 obtain⟨A,c,rfl,hc,h⟩:=h;refine⟨A,c,rfl,hc,fun hl=>?_⟩;obtain⟨b,off,rfl,hB,h⟩:=h hl;exact⟨b,off,rfl,by omega,h⟩
theorem fW.later{k:IntKind}{w w':ae}{v:af}{l:List Int}(h:fW k w w.heap.size v l)(hb:Below w.heap.size w w'):fW k w' w'.heap.size v l:=
 (h.below hb).more hb.size
theorem fW.own{k:IntKind}{w:ae}{base:Nat}{e:aj}{v:af}{l:List Int}(h:w.ownsRow base e 1 v l.length (l.map (bU k))):fW k w w.heap.size v l:=by
 rcases h.2 with⟨rfl,h0⟩|⟨g,cap,cur,rfl,hbg,hg,hnc,hcm,hcs,htake⟩
 ·exact⟨none,0,by rw[h0],by omega,fun hp=>absurd hp (by omega)⟩
 ·refine⟨some ⟨g,0,none⟩,cap,rfl,hnc,fun hp=>⟨g,0,rfl,(Array.getElem?_eq_some_iff.1 hg).1,fun i hi=>?_⟩⟩;have h1:=h.cellAt i (by omega);rw[cZ,h1,bZ,aN hi,aC,aN hi];rfl
theorem jT{w:ae}{base:Nat}{e:aj}{size:Nat}{v:af}{n:Nat}{xs:List af}(h:w.ownsRow base e size v n xs)(k:Nat):(w.drewN k).ownsRow base e size v n xs:=h
theorem fW.lit{k:IntKind}(w:ae)(l:List Int)(t:aj):fW k (w.alloc (.cells (l.map (bU k)).toArray t)) (w.heap.size+1) (.slice (some ⟨w.heap.size,0,none⟩) l.length l.length) l:=by
 refine⟨some ⟨w.heap.size,0,none⟩,l.length,rfl,aH _,fun hp=>⟨w.heap.size,0,rfl,by omega,fun i hi=>?_⟩⟩;rw[cZ,World.cell?_alloc_new,List.getElem?_toArray,bZ,aN hi,aC,aN hi];rfl
def ft(w:ae)(g:Nat)(t:aj)(cs:Array af):Prop:=w.heap[g]?=some (.cells cs t (0,0))
theorem ft.lt{w:ae}{g:Nat}{t:aj}{cs:Array af}(h:ft w g t cs):g<w.heap.size:=(Array.getElem?_eq_some_iff.1 h).1
theorem ft.cell{w:ae}{g:Nat}{t:aj}{cs:Array af}(h:ft w g t cs)(i:Nat):w.cell? ⟨g,i,none⟩=cs[i]?:=cell_of_row w g i cs t (0,0) h
theorem ft.frozen{w:ae}{g:Nat}{t:aj}{cs:Array af}(h:ft w g t cs)(i:Nat):w.frozen? ⟨g,i,none⟩=false:=by
 unfold ft at h;simp[World.frozen?,h]
theorem ft.new(w:ae)(t:aj)(cs:Array af):ft (w.alloc (.cells cs t)) w.heap.size t cs:=heap_alloc_new w _
theorem ft.alloc{w:ae}{g:Nat}{t:aj}{cs:Array af}(h:ft w g t cs)(o:Obj):ft (w.alloc o) g t cs:=(Below.heap_alloc w o g h.lt).trans h
theorem ft.iM{w:ae}{g:Nat}{t:aj}{cs:Array af}(h:ft w g t cs)(i:Nat)(u:af):ft (w.setCell ⟨g,i,none⟩ u) g t (cs.setIfInBounds i u):=by
 unfold ft at h ⊢;simp[World.setCell,Array.getElem?_modify,h]
theorem ft.far{w:ae}{g:Nat}{t:aj}{cs:Array af}(h:ft w g t cs){p:Addr}(hp:g≠p.block)(u:af):ft (w.setCell p u) g t cs:=(Below.heap_setCell w p u g hp).trans h
theorem ft.below{w w':ae}{g:Nat}{t:aj}{cs:Array af}{B:Nat}(h:ft w g t cs)(hb:Below B w w')(hg:g<B):ft w' g t cs:=(hb.block g hg).trans h
theorem ft.grown{w w':ae}{g:Nat}{t:aj}{cs:Array af}{row:Option Nat}(h:ft w g t cs)(hb:w.grownBy w' row)(hg:some g≠row):ft w' g t cs:=(hb.block g h.lt hg).trans h
theorem ft.ne_{w:ae}{g g':Nat}{t t':aj}{cs cs':Array af}(h:ft w g t cs)(h':ft w g' t' cs')(hne:t≠t'):g≠g':=by
 rintro rfl;unfold ft at h h';rw[h]at h';injection h' with h'
 injection h' with _ ht
 exact hne ht
theorem kX{w:ae}{base:Nat}{e:aj}{size n:Nat}{v:af}{xs:List af}{g:Nat}{t:aj}{cs:Array af}(h:w.ownsRow base e size v n xs)(hg:ft w g t cs)(hne:e≠t):some g≠v.ownBlock:=by
 rcases h.2 with⟨rfl,_⟩|⟨g',cap,cur,rfl,_,hh,_⟩
 ·simp[Value.ownBlock]
 ·intro he;have:g=g':=by simpa [Value.ownBlock]using he
  subst this;exact ft.ne_ (t:=e) hh hg hne rfl
theorem LQ{w:ae}{base base':Nat}{e e':aj}{size size' n n':Nat}{v v':af}{xs xs':List af}(h:w.ownsRow base e size v n xs)(h':w.ownsRow base' e' size' v' n' xs')(hne:e≠e'):v.ownBlock=none\/v.ownBlock≠v'.ownBlock:=by
 rcases h.2 with⟨rfl,_⟩|⟨g,cap,cur,rfl,_,hh,_⟩
 ·exact .inl rfl
 ·right;intro he;exact kX h' (g:=g) hh (Ne.symm hne) (by rw[<-he];rfl)
theorem jc{w w':ae}{base:Nat}{e:aj}{size n:Nat}{v:af}{xs:List af}{B:Nat}(h:w.ownsRow base e size v n xs)(hb:Below B w w')(hB:w.heap.size<=B):w'.ownsRow base e size v n xs:=by
 obtain⟨h1,h2⟩:=h;refine⟨h1,?_⟩;rcases h2 with h2|⟨g,cap,cur,hv,hg,hh,r⟩
 ·exact .inl h2
 ·have hlt:g<w.heap.size:=(Array.getElem?_eq_some_iff.1 hh).1;exact .inr ⟨g,cap,cur,hv,hg,(hb.block g (by omega)).trans hh,r⟩
theorem mF{w:ae}{base:Nat}{e:aj}{size n:Nat}{v:af}{xs:List af}{g:Nat}{t:aj}{cs:Array af}(h:w.ownsRow base e size v n xs)(hg:ft w g t cs)(hne:e≠t)(i:Nat)(u:af):(w.setCell ⟨g,i,none⟩ u).ownsRow base e size v n xs:=by
 have hn:=kX h hg hne;obtain⟨h1,h2⟩:=h;refine⟨h1,?_⟩;rcases h2 with h2|⟨g',cap,cur,hv,hb,hh,r⟩
 ·exact .inl h2
 ·subst hv;have aW7:g'≠g:=fun e=>hn (by rw[e];rfl);exact .inr ⟨g',cap,cur,rfl,hb,(Below.heap_setCell w ⟨g,i,none⟩ u g' aW7).trans hh,r⟩
theorem kz{w:ae}{base:Nat}{e:aj}{size n:Nat}{v:af}{xs:List af}(h:w.ownsRow base e size v n xs):∃A c,v=.slice A n c:=by
 rcases h.2 with⟨rfl,rfl⟩|⟨g,cap,cur,rfl,_⟩
 ·exact⟨none,0,rfl⟩
 ·exact⟨some ⟨g,0,none⟩,cap,rfl⟩
theorem yP{w w':ae}{base Vl:Nat}{e e2:aj}{size Zr n n2:Nat}{v v2:af}{xs xs2:List af}{cs:Array af}(h2:w.ownsRow Vl e2 Zr v2 n2 xs2)(h:w.ownsRow base e size v n xs)(hne:e2≠e)
  (hg:(w.alloc (.cells cs e)).grownBy w' v.ownBlock):w'.ownsRow Vl e2 Zr v2 n2 xs2:=
 (h2.alloc _).kept hg (LQ h2 h hne)
theorem jH{w w':ae}{base:Nat}{e t:aj}{size n:Nat}{v:af}{xs:List af}{g:Nat}{cs RR:Array af}(h2:ft w g t RR)(h:w.ownsRow base e size v n xs)(hne:e≠t)
  (hg:(w.alloc (.cells cs e)).grownBy w' v.ownBlock):ft w' g t RR:=
 (h2.alloc _).grown hg (kX h h2 hne)
theorem jk{W w w':ae}{base:Nat}{e:aj}{size n:Nat}{v:af}{xs:List af}{cs:Array af}(hb:Below base W w)(h:w.ownsRow base e size v n xs)(hB:base<=w.heap.size)
  (hg:(w.alloc (.cells cs e)).grownBy w' v.ownBlock):Below base W w':=
 (hb.alloc hB _).grown hg (by simp<;>omega) fun k hk=>(h.lt k hk).1
def Row(w:ae)(B size:Nat)(v:af)(n:Nat)(xs:List af):Prop:=
 xs.length=n*size/\∃(A:Option Addr) (c:Nat),v=.slice A n c/\n<=c/\
  (0<n->∃b off,A=some ⟨b,off,none⟩/\b<B/\∀j u,xs[j]?=some u->w.cell? ⟨b,off+j,none⟩=some u)
theorem Row.below{w w':ae}{B size:Nat}{v:af}{n:Nat}{xs:List af}(h:Row w B size v n xs)(hb:Below B w w'):Row w' B size v n xs:=by
 obtain⟨h1,A,c,rfl,hc,h⟩:=h;refine⟨h1,A,c,rfl,hc,fun hl=>?_⟩;obtain⟨b,off,rfl,hB,h⟩:=h hl;exact⟨b,off,rfl,hB,fun j u hu=>(hb.cell (p:=⟨b,off+j,none⟩) hB).trans (h j u hu)⟩
theorem Row.more{w:ae}{B B' size:Nat}{v:af}{n:Nat}{xs:List af}(h:Row w B size v n xs)(hb:B<=B'):Row w B' size v n xs:=by
 obtain⟨h1,A,c,rfl,hc,h⟩:=h;refine⟨h1,A,c,rfl,hc,fun hl=>?_⟩;obtain⟨b,off,rfl,hB,h⟩:=h hl;exact⟨b,off,rfl,by omega,h⟩
theorem Row.later{w w':ae}{size:Nat}{v:af}{n:Nat}{xs:List af}(h:Row w w.heap.size size v n xs)(hb:Below w.heap.size w w'):Row w' w'.heap.size size v n xs:=(h.below hb).more hb.size
theorem Row.own{w:ae}{base:Nat}{e:aj}{size:Nat}{v:af}{n:Nat}{xs:List af}(h:w.ownsRow base e size v n xs):Row w w.heap.size size v n xs:=by
 refine⟨h.1,?_⟩;rcases h.2 with⟨rfl,h0⟩|⟨g,cap,cur,rfl,hbg,hg,hnc,hcm,hcs,htake⟩
 ·exact⟨none,0,by rw[h0],by omega,fun hp=>absurd hp (by omega)⟩
 ·refine⟨some ⟨g,0,none⟩,cap,rfl,hnc,fun hp=>⟨g,0,rfl,(Array.getElem?_eq_some_iff.1 hg).1,fun j u hu=>?_⟩⟩;have hlt:j<n*size:=by have:=h.1;have:=(List.getElem?_eq_some_iff.1 hu).1;omega
  rw[cZ,h.cellAt j hlt,hu]
theorem yz(b off j:Nat):(⟨b,off,none⟩:Addr).add j=⟨b,off+j,none⟩:=by
 unfold Addr.add;split
 ·rename_i h;subst h;rfl
 ·rfl
section
variable{P:au}(w:ae)
theorem run_append_nil(base:Nat)(t ty e:aj)(i:TypeInfo)(size:Nat)(ht:P.underlying t=some (.slice e))(hi:P.info? e=some i)
  (v:af)(n:Nat)(xs:List af)(hown:w.ownsRow base e size v n xs)(c:Nat):(Builtin.append_ #[t,t] ty #[v,.slice none 0 c]).run P w=.ok v w:=by
 rcases hown.2 with⟨rfl,rfl⟩|⟨g,cap,cur,rfl,_,_,hnc,_⟩
 ·simp[Builtin.append_,run_underlying ht,sizeOf,typeInfo,hi,Builtin.lenOf,di]
 ·simp[Builtin.append_,run_underlying ht,sizeOf,typeInfo,hi,Builtin.lenOf,di,hnc,storeCells]
theorem BU(base:Nat)(t ty e:aj)(i:TypeInfo)(z:af)(size bytes:Nat)(ht:P.underlying t=some (.slice e))(hi:P.info? e=some i)(hz:i.zero=some z)
  (hsize:i.size=size)(hby:i.bytes=bytes)(hzs:z.cells.size=size)(hsz:0<size)
  (v:af)(n:Nat)(xs:List af)(hown:w.ownsRow base e size v n xs)
  (B:Nat)(u:af)(m:Nat)(news:List af)(hr:Row w B size u m news)(h1:∀u∈news,u.oneCell'=true)
  (h63:n+m<=maxLen)(hbytes:(n+m)*bytes<=140737488355328)(hbase:base<=w.heap.size):
  ∃v' w',(Builtin.append_ #[t,t] ty #[v,u]).run P w=.ok v' w'/\w'.ownsRow base e size v' (n+m) (xs++news)/\w.grownBy w' v.ownBlock:=by
 obtain⟨hl,A,c,rfl,hc,hr⟩:=hr;rcases A with _|ad
 ·have hm:m=0:=by
   rcases Nat.eq_zero_or_pos m with h0|h0
   ·exact h0
   ·obtain⟨b,off,h,_⟩:=hr h0;cases h
  subst hm;have hn:news=[]:=List.eq_nil_of_length_eq_zero (by simpa using hl);subst hn;exact⟨v,w,run_append_nil w base t ty e i size ht hi v n xs hown c,by simpa using hown,World.grownBy.refl w _⟩
 ·have hcells:∀j u,news[j]?=some u->w.cell? (ad.add j)=some u:=by
   intro j u hu;rcases Nat.eq_zero_or_pos m with h0|h0
   ·subst h0;have hn:news=[]:=List.eq_nil_of_length_eq_zero (by simpa using hl);subst hn;simp at hu
   ·obtain⟨b,off,h,_,hcell⟩:=hr h0;injection h with h
    subst h;rw[yz];exact hcell j u hu
  obtain⟨v',w',hrun,h2,h3,_⟩:=run_append_own (P:=P) w base t ty e i z size bytes ht hi hz hsize hby hzs hsz v n xs hown ad m c news hl hcells h1 h63 hbytes hbase;exact⟨v',w',hrun,h2,h3⟩
theorem xu{ops:Array Oper}{rest:List Oper}{o:Oper}{a:Act}{Q:Exit->Act->ae->Prop}(hgd:o.guard=none)(s x:Operand)(t:aj)
  (ho:o.op=.call {callee:=.builtin .append,args:=#[s,x],argTypes:=#[t,t]})
  (base:Nat)(e:aj)(i:TypeInfo)(z:af)(size bytes:Nat)(ht:P.underlying t=some (.slice e))(hi:P.info? e=some i)(hz:i.zero=some z)
  (hsize:i.size=size)(hby:i.bytes=bytes)(hzs:z.cells.size=size)(hsz:0<size)
  (v:af)(n:Nat)(xs:List af)(hs:a.eval s=v)(hown:w.ownsRow base e size v n xs)
  (B:Nat)(u:af)(m:Nat)(news:List af)(hx:a.eval x=u)(hr:Row w B size u m news)(h1:∀u∈news,u.oneCell'=true)
  (h63:n+m<=maxLen)(hbytes:(n+m)*bytes<=140737488355328)(hbase:base<=w.heap.size)
  (h:∀v' w',w'.ownsRow base e size v' (n+m) (xs++news)->w.grownBy w' v.ownBlock->wpList P ops Q rest (a.put o.dst v') w'):wpList P ops Q (o::rest) a w:=
 wpList_plain hgd fun K hK=>by
  obtain⟨v',w',hrun,h2,h3⟩:=BU (P:=P) w base t o.type e i z size bytes ht hi hz hsize hby hzs hsz v n xs hown B u m news hr h1 h63 hbytes hbase;unfold Oper.wp ax;simp only[ho,resolve,invoke,builtin,Sem.run_bind,Sem.run_pure,Result.andThen_ok,List.map_toArray,List.map_cons,List.map_nil,hs,hx,hrun];exact hK _ _ (h v' w' h2 h3)
end
end Mem
namespace KM
open Go.RowKit Pl uU Mem
theorem aN9(l:List Int)(x:Int)(v:af)(w:ae)(hv:fW .u64 w w.heap.size v l)(hl:l.length<=65536):
  Calls dS 43 #[v,.int .u64 x] w fun e w'=>e=.returned (.int .u64 (rL l x))/\∃n,w'=w.drewN n:=by
 obtain⟨A,c,rfl,hc,hcell⟩:=hv;have HC:=ay hcell;clear hcell;go_enter Try.func43,Try.ntmps43
 go_wp2_with fail
 go_loopw [5,6] (fun o i wr=>∃k n:Nat,k<=l.length/\wr=w.drewN n/\o=.int .u64 (rL (l.drop k) x)/\i=.int .i64 ((k:Int)-1)) (fun _ i _=>(intOf i+1).toNat)
 case atStart=>exact⟨l.length,0,by omega,rfl,by simp[rL],rfl⟩
 case round=>
  obtain⟨k,n,hk,rfl,rfl,rfl⟩:=hrel;rcases k with _|j
  ·go_wp2_with fail
   go_ret
   exact⟨rfl,n,rfl⟩
  ·rw[show(((j+1:Nat):Int)-1)=(j:Int)from by omega];obtain⟨b,off,rfl,hb,hcells⟩:=HC.out (by omega);have hcj:=hcells j (by omega);have hjl:j<l.length:=by omega
   have HS:Hid (rL (l.drop j) x=kW (smul (rL (l.drop (j+1)) x) x) (l.getD j 0)):=by
    show rL (l.drop j) x=_;rw[List.drop_eq_getElem_cons hjl,aC,aN hjl];rfl
   clear hcells;generalize hP:rL (l.drop (j+1)) x=p at*;have HP:=ay hP;clear hP;generalize hD:l.getD j 0=d at*;have HD:=ay hD;clear hD;go_wp2_with fail
   go_quiet ((first|(go_at_call 69;exact km (lM _ _ _))|(go_at_call 73;exact km (Nr _ _ _))))
   go_wp2_with fail
   go_roundw
   case rel=>exact⟨j,_,by omega,rfl,by rw[HS.out],rfl⟩
   case measure=>simp[intOf]
theorem SL(l:List Int)(x:Int)(v:af)(w:ae)(hv:fW .u64 w w.heap.size v l)(hl:l.length<=65536)(hx:0<=x)(hx':x<1073741789)
  (hb:∀i,i<l.length->0<=l.getD i 0/\l.getD i 0<1073741789):
  Calls dS 46 #[v,.int .u64 x] w fun e w'=>e=.returned (.int .u64 (Ix l x l.length))/\w=w':=by
 obtain⟨A,c,rfl,hc,hcell⟩:=hv;have HC:=ay hcell;have HB:=ay hb;clear hcell hb;go_enter Try.func46,Try.ntmps46
 go_wp2_with fail
 go_loop [5,6,11] (fun s a i=>∃k:Nat,k<=l.length/\s=.int .u64 (Ix l x k)/\a=.int .u64 (wD x k)/\i=.int .i64 k) (fun _ _ i=>l.length-(intOf i).toNat)
 case atStart=>exact⟨0,by omega,rfl,rfl,rfl⟩
 case round=>
  obtain⟨k,hk,rfl,rfl,rfl⟩:=hrel;by_cases hlt:k<l.length
  ·obtain⟨b,off,rfl,_,hcells⟩:=HC.out (by omega);have Bn:=hcells k hlt;have hbk:=HB.out k hlt;have ha:=BV x k;have hs:=ak3 l x k;have h1:=mul_lt hbk.1 hbk.2 ha.1 ha.2;have h2:=mul_lt ha.1 ha.2 hx hx';obtain⟨h11,h12⟩:=h1;obtain⟨h21,h22⟩:=h2;have h13:l.getD k 0*wD x k<1152921501000000000:=by omega
   have h23:wD x k*x<1152921501000000000:=by omega
   obtain⟨hs1,hs2⟩:=hs;have E1:Hid (Ix l x (k+1)=(Ix l x k+l.getD k 0*wD x k)%1073741789):=by
    show Ix l x (k+1)=_;rfl
   have E2:Hid (wD x (k+1)=wD x k*x%1073741789):=by
    show wD x (k+1)=_;rfl
   clear hcells h12 h22 hbk ha;generalize l.getD k 0=d at*;generalize Ix l x k=s at*;generalize wD x k=a at*;go_wp2_with fail
   go_round
   case rel=>exact⟨k+1,by omega,by rw[E1.out],by rw[E2.out],by go_num⟩
   case measure=>simp[intOf]<;>omega
  ·obtain rfl:k=l.length:=by omega
   go_wp2_with fail
   go_ret
   exact⟨rfl,rfl⟩
theorem Lc7(ids:List Int)(k:Nat)(v:af)(w:ae)(hv:fW .i64 w w.heap.size v ids)(hl:ids.length<=65536)(hk:k<ids.length):
  Calls dS 77 #[v,.int .i64 k] w fun e w'=>e=.returned (.int .u64 (iz ids k))/\∃n,w'=w.drewN n:=by
 obtain⟨A,c,rfl,hc,hcell⟩:=hv;obtain⟨b,off,rfl,_,hcells⟩:=hcell (by omega);have Bn:=hcells k hk;have HC:=ay hcells;clear hcell hcells;go_enter Try.func77,Try.ntmps77
 go_wp2_with fail
 go_loopw [5,6,11] (fun u d i wr=>∃j n:Nat,j<=ids.length/\wr=w.drewN n/\u=.int .u64 (ra ids k j)/\d=.int .u64 (jf ids k j)/\i=.int .i64 j) (fun _ _ i _=>ids.length-(intOf i).toNat)
 case atStart=>exact⟨0,0,by omega,rfl,rfl,rfl,rfl⟩
 case round=>
  obtain⟨j,n,hj,rfl,rfl,rfl,rfl⟩:=hrel;by_cases hlt:j<ids.length
  ·have hcj:=HC.out j hlt;by_cases hjk:j=k
   ·subst hjk;have E1:=ay (Mf ids j);have E2:=ay (Gw ids j);have hne:((j:Int) != (j:Int))=false:=by rw[bne_eq_false_iff_eq]
    clear hcj;go_wp2_with fail
    go_roundw
    case rel=>exact⟨j+1,n,by omega,rfl,by rw[E1.out],by rw[E2.out],by go_num⟩
    case measure=>simp[intOf]<;>omega
   ·have E1:=ay (Me ids hjk);have E2:=ay (Gv ids hjk);have hne:((j:Int) != (k:Int))=true:=by rw[bne_iff_ne];omega
    generalize hX:ids.getD j 0=X at*;generalize hY:ids.getD k 0=Y at*;have HX:=ay hX;have HY:=ay hY;clear hX hY;generalize ra ids k j=U at*;generalize jf ids k j=D at*;go_wp2_with (first|(go_at_call 44;refine(small _ _).mono ?_;rintro e w' ⟨rfl,rfl⟩)|(go_at_call 69;refine(lM _ _ _).mono ?_;rintro e w' ⟨rfl,rfl⟩))
    go_quiet ((first|(go_at_call 69;exact km (lM _ _ _))|(go_at_call 44;exact km (small _ _))|(go_at_call 111;exact km (aj3 _ _ _))))
    go_wp2_with fail
    go_roundw
    case rel=>exact⟨j+1,_,by omega,rfl,by rw[E1.out],by rw[E2.out],by go_num⟩
    case measure=>simp[intOf]<;>omega
  ·obtain rfl:j=ids.length:=by omega
   have bd:=Mg ids k ids.length;have E:Hid (iz ids k=smul (ra ids k ids.length) (pw (jf ids k ids.length) qm2 1073741789)):=by
    show iz ids k=_;rfl
   go_wp2_with (first|(go_at_call 112;refine(inverse _ _ bd.1 bd.2).mono ?_;rintro e w' ⟨rfl,rfl⟩)|(go_at_call 69;refine(lM _ _ _).mono ?_;rintro e w' ⟨rfl,rfl⟩))
   go_ret
   exact⟨by rw[E.out];rfl,n,rfl⟩
theorem ad5(first:Int)(l:List Int)(v:af)(w:ae)(hv:fW .u64 w w.heap.size v l)(hl:l.length<=65536):
  Calls dS 72 #[.int .u64 first,.func (.func 73) #[] #[],v] w fun e w'=>e=.returned (.int .u64 (xA first l l.length))/\w=w':=by
 obtain⟨A,c,rfl,hc,hcell⟩:=hv;have HC:=ay hcell;clear hcell;go_enter Try.func72,Try.ntmps72
 go_wp2_with fail
 go_loop [0,11] (fun s i=>∃k:Nat,k<=l.length/\s=.int .u64 (xA first l k)/\i=.int .i64 k) (fun _ i=>l.length-(intOf i).toNat)
 case atStart=>exact⟨0,by omega,rfl,rfl⟩
 case round=>
  obtain⟨k,hk,rfl,rfl⟩:=hrel;by_cases hlt:k<l.length
  ·obtain⟨b,off,rfl,_,hcells⟩:=HC.out (by omega);have Bn:=hcells k hlt;have E1:Hid (xA first l (k+1)=kW (xA first l k) (l.getD k 0)):=by
    show xA first l (k+1)=_
    rfl
   clear hcells;generalize hX:l.getD k 0=X at*;have HX:=ay hX;clear hX;go_wp2_with (go_at_call 73;refine(Nr _ _ _).mono ?_;rintro e w' ⟨rfl,rfl⟩)
   go_round
   case rel=>exact⟨k+1,by omega,by rw[E1.out],by go_num⟩
   case measure=>simp[intOf]<;>omega
  ·obtain rfl:k=l.length:=by omega
   go_wp2_with fail
   go_ret
   exact⟨rfl,rfl⟩
theorem a60(first:Int)(l:List Int)(v:af)(w:ae)(hv:fW .u64 w w.heap.size v l)(hl:l.length<=65536):
  Calls dS 88 #[.int .u64 first,.func (.func 65) #[] #[],v] w fun e w'=>e=.returned (.int .u64 (oX first l l.length))/\w=w':=by
 obtain⟨A,c,rfl,hc,hcell⟩:=hv;have HC:=ay hcell;clear hcell;go_enter Try.func88,Try.ntmps88
 go_wp2_with fail
 go_loop [0,11] (fun s i=>∃k:Nat,k<=l.length/\s=.int .u64 (oX first l k)/\i=.int .i64 k) (fun _ i=>l.length-(intOf i).toNat)
 case atStart=>exact⟨0,by omega,rfl,rfl⟩
 case round=>
  obtain⟨k,hk,rfl,rfl⟩:=hrel;by_cases hlt:k<l.length
  ·obtain⟨b,off,rfl,_,hcells⟩:=HC.out (by omega);have Bn:=hcells k hlt;have E1:Hid (oX first l (k+1)=mY (oX first l k) (l.getD k 0)):=by
    show oX first l (k+1)=_
    rfl
   clear hcells;generalize hX:l.getD k 0=X at*;have HX:=ay hX;clear hX;go_wp2_with (go_at_call 65;refine(qJ _ _ _).mono ?_;rintro e w' ⟨rfl,rfl⟩)
   go_round
   case rel=>exact⟨k+1,by omega,by rw[E1.out],by go_num⟩
   case measure=>simp[intOf]<;>omega
  ·obtain rfl:k=l.length:=by omega
   go_wp2_with fail
   go_ret
   exact⟨rfl,rfl⟩
end KM
namespace Hsh
open Go.RowKit Pl uU Mem KM
theorem aq0(h b:Int)(B:Nat)(w:ae)(hc:w.cell? ⟨B,0,none⟩=some (.int .u64 h))(hf:w.frozen? ⟨B,0,none⟩=false)(hb0:0<=b)(hb1:b<256):
  Calls dS 121 #[.int .u8 b,.pointer (some ⟨B,0,none⟩)] w fun e w'=>e=.returned (.tuple #[])/\w.setCell ⟨B,0,none⟩ (.int .u64 (mix h b))=w':=by
 go_enter Try.func121,Try.ntmps121
 go_wp2
 go_end0
 exact⟨rfl,rfl⟩
theorem Us(tag:Int)(s:ByteArray)(l:List Int)(v:af)(w:ae)(hv:fW .u64 w w.heap.size v l)(hl:l.length<=65536)(hs:s.size<=1000000)
  (ht0:0<=tag)(ht1:tag<256)(hb:∀i,i<l.length->0<=l.getD i 0/\l.getD i 0<18446744073709551616):
  Calls dS 89 #[.int .u8 tag,.string s,v] w fun e w'=>e=.returned (.int .u64 (uH tag s l))/\∃x,w.alloc (.cells #[.int .u64 x] 40)=w':=by
 obtain⟨A,c,rfl,hc,hcell⟩:=hv;have HC:=ay hcell;have HB:=ay hb;clear hcell hb;have hmf:∀(fn:Fn) (first cap:Array af) (w:ae),(Instr.makeFunc fn first cap).run dS w=.ok (.func fn first cap) w:=fun _ _ _ _=>rfl;go_enter Try.func89,Try.ntmps89
 go_wp2_with fail
 refine(aq0 UJ tag w.heap.size _ (by simp[UJ]) (by simp[go_sem]) ht0 ht1).mono ?_;rintro e w' ⟨rfl,rfl⟩;go_wp2_with fail
 have hm0:0<=mix UJ tag:=wG _ _;generalize hM:mix UJ tag=m0 at*;have HM:=ay hM;clear hM;go_loopw [18] (fun i wr=>∃k:Nat,k<=l.length/\i=.int .i64 k/\wr=w.alloc (.cells #[.int .u64 (vY m0 l k)] 40)) (fun i _=>l.length-(intOf i).toNat)
 case atStart=>exact⟨0,by omega,rfl,rfl⟩
 case round=>
  obtain⟨k,hk,rfl,rfl⟩:=hrel;by_cases hlt:k<l.length
  ·obtain⟨b,off,rfl,hb,hcells⟩:=HC.out (by omega);have Bn:=hcells k hlt;have hbk:=HB.out k hlt;have E1:Hid (vY m0 l (k+1)=Gl (vY m0 l k) (l.getD k 0) 8):=by
    show vY m0 l (k+1)=_;rfl
   clear hcells;generalize hX:l.getD k 0=X at*;have HX:=ay hX;clear hX;generalize hy:vY m0 l k=y at*;have HY:=ay hy;clear hy;obtain⟨x0,x1⟩:=hbk;go_wp2_with fail
   go_loopw [10,22] (fun n i wr=>∃j:Nat,j<=8/\n=.int .u64 (dv X j)/\i=.int .i64 j/\wr=w.alloc (.cells #[.int .u64 (Gl y X j)] 40)) (fun _ i _=>8-(intOf i).toNat)
   case atStart=>exact⟨0,by omega,rfl,rfl,rfl⟩
   case round=>
    obtain⟨j,hj,rfl,rfl,rfl⟩:=hrel;by_cases hj8:j<8
    ·have bd:=a87 X j x0 x1;obtain⟨d0,d1⟩:=bd;have E2:Hid (Gl y X (j+1)=mix (Gl y X j) (dv X j%256)):=by
      show Gl y X (j+1)=_;rfl
     have E3:Hid (dv X (j+1)=dv X j/256):=by
      show dv X (j+1)=_;rfl
     generalize dv X j=d at*;generalize Gl y X j=z at*;go_wp2_with fail
     refine(aq0 z _ w.heap.size _ (by simp) (by simp[go_sem]) (by omega) (by omega)).mono ?_;rintro e w' ⟨rfl,rfl⟩;go_wp2_with fail
     go_roundw
     case rel=>exact⟨j+1,by omega,by rw[E3.out],by go_num,by rw[E2.out]⟩
     case measure=>simp[intOf]<;>omega
    ·obtain rfl:j=8:=by omega
     go_wp2_with fail
     go_roundw
     case rel=>exact⟨k+1,by omega,by go_num,by rw[E1.out]⟩
     case measure=>simp[intOf]<;>omega
  ·obtain rfl:k=l.length:=by omega
   have hm1:0<=vY m0 l l.length:=Gk _ _ _ hm0;generalize Ht:vY m0 l l.length=m1 at*;have HN1:=ay Ht;clear Ht;go_wp2_with fail
   go_loopw [34] (fun i wr=>∃k:Nat,k<=s.size/\i=.int .i64 k/\wr=w.alloc (.cells #[.int .u64 (oU m1 s k)] 40)) (fun i _=>s.size-(intOf i).toNat)
   case atStart=>exact⟨0,by omega,rfl,rfl⟩
   case round=>
    obtain⟨k,hk,rfl,rfl⟩:=hrel;by_cases hlt:k<s.size
    ·have E1:Hid (oU m1 s (k+1)=mix (oU m1 s k) (s[k].toNat:Int)):=by
      show oU m1 s (k+1)=_;exact Lp _ _ hlt
     generalize hy:oU m1 s k=y at*;have HY:=ay hy;clear hy;have u1:((s[k].toNat:Nat):Int)<256:=by have:=s[k].toNat_lt;omega
     go_wp2_with fail
     refine(aq0 y (s[k].toNat:Int) w.heap.size _ (by simp) (by simp[go_sem]) (by omega) u1).mono ?_;rintro e w' ⟨rfl,rfl⟩;go_wp2_with fail
     go_roundw
     case rel=>exact⟨k+1,by omega,by go_num,by rw[E1.out]⟩
     case measure=>simp[intOf]<;>omega
    ·obtain rfl:k=s.size:=by omega
     have hm2:0<=oU m1 s s.size:=FV _ _ _ hm1;have E1:Hid (uH tag s l=oU m1 s s.size%1073741789):=by
      show uH tag s l=_;unfold uH;rw[HM.out,HN1.out]
     generalize oU m1 s s.size=y at*;go_wp2_with fail
     go_ret
     exact⟨by rw[E1.out];rfl,y,rfl⟩
end Hsh
namespace Rhs
open Go.RowKit Pl uU Mem
theorem OP:(Try.prog.info? 5).map (fun i=>(i.zero,i.size,i.bytes))=some (some (.int .u8 0),1,1):=kr
end Rhs
namespace ng
open Go.RowKit Pl uU Mem KM Hsh Rhs
attribute [local go_sem ↓] Go.wp_at_zero Go.wp_at_succ
def l5(r key:Int)(s:ByteArray):Int:=uH 2 s [r,key]
theorem G0(r key:Int)(s:ByteArray):0<=l5 r key s/\l5 r key s<1073741789:=JV _ _ _
theorem ai2{r key:Int}(h0:0<=r/\r<18446744073709551616)(h1:0<=key/\key<18446744073709551616):
  ∀i,i<[r,key].length->0<=[r,key].getD i 0/\[r,key].getD i 0<18446744073709551616:=by
 intro i hi;match i,hi with
 |0,_=>exact h0
 |1,_=>exact h1
theorem FC(z:Int)(w:ae)(h0:0<=z)(h1:z<18446744073709551616):
  Calls dS 42 #[.int .u64 z] w fun e w'=>e=.returned (.int .u64 (pw 4 z.toNat 2147483579))/\w=w':=by
 obtain⟨n,rfl⟩:=cn h0;exact base n w (by omega)
theorem yM(a z:Int)(w:ae)(ha:0<=a)(ha':a<2147483579)(h0:0<=z)(h1:z<18446744073709551616):
  Calls dS 68 #[.int .u64 a,.int .u64 z] w fun e w'=>e=.returned (.int .u64 (pw a z.toNat 2147483579))/\w=w':=by
 obtain⟨n,rfl⟩:=cn h0;exact power a n w ha ha' (by omega)
theorem SN(z:Int)(w:ae)(h0:0<=z)(h1:z<18446744073709551616):
  Calls dS 45 #[.int .u64 z] w fun e w'=>e=.returned (.int .u64 (pw 4 z.toNat 2147483579))/\w=w':=by
 obtain⟨n,rfl⟩:=cn h0;exact WO n w (by omega)
theorem wW(r key:Int)(s:ByteArray)(w:ae)(hs:s.size<=1000000)(h0:0<=r/\r<18446744073709551616)(h1:0<=key/\key<18446744073709551616):
  Calls dS 59 #[.int .u64 r,.int .u64 key,.string s] w fun e w'=>e=.returned (.int .u64 (l5 r key s))/\Below w.heap.size w w':=by
 have HB:=ay (ai2 h0 h1);have hn:=fW.lit (k:=.u64) w [r,key] 40;have HN:=ay hn;clear hn h0 h1;go_enter Try.func59,Try.ntmps59
 go_wp2_with fail
 refine(Us 2 s [r,key] _ _ (HN.out.more (by simp)) (by simp) hs (by omega) (by omega) HB.out).mono ?_;rintro e w' ⟨rfl,x,rfl⟩;go_wp2_with fail
 go_ret
 exact⟨rfl,(bre.alloc nle _).alloc (by simp) _⟩
def nM(key:Int)(s:ByteArray)(r z:Int):Bool:=
 jO key&&jO r&&decide (z<1073741789)&&decide (key≠1)&&decide (r≠1)&&decide (pw 4 z.toNat 2147483579=r*pw key (l5 r key s).toNat 2147483579%2147483579)
theorem mZ(b:Bool)(n:Int)(w:ae)(h0:0<=n)(h:jO n=b):
  Calls dS 47 #[.int .u64 n] w fun e w'=>e=.returned (.tuple #[.int .u64 n,.bool b])/\w=w':=by
 subst h;exact QY n w h0
theorem vM(b:Bool)(n:Int)(w:ae)(h:decide (n<1073741789)=b):
  Calls dS 41 #[.int .u64 n] w fun e w'=>e=.returned (.tuple #[.int .u64 n,.bool b])/\w=w':=by
 subst h;exact oh n w
theorem rR{n:Int}(h:jO n=true):0<n/\n<2147483579:=by
 unfold jO at h;rw[decide_eq_true_iff]at h;exact⟨h.1,h.2.1⟩
theorem FZ(n:Int)(w:ae)(h0:0<=n)(h1:n<18446744073709551616):
  Calls dS 44 #[.int .i64 n] w fun e w'=>e=.returned (.int .u64 n)/\w=w':=
 (small n w).mono fun _ _ hh=>⟨by rw[hh.1,ny h0 h1],hh.2⟩
theorem eB(w:ae)(o:Obj):Below w.heap.size w (w.alloc o):=bre.alloc nle _
theorem uV(key:Int)(s:ByteArray)(r z:Int)(w:ae)(hs:s.size<=1000000)(hk:0<=key/\key<18446744073709551616)(hr:0<=r/\r<18446744073709551616)(hz:0<=z/\z<18446744073709551616):
  Calls dS 28 #[.int .u64 key,.string s,.agg #[.int .u64 r,.int .u64 z]] w fun e w'=>e=.returned (.bool (nM key s r z))/\Below w.heap.size w w':=by
 obtain⟨b1,e1⟩:∃b,jO key=b:=⟨_,rfl⟩;obtain⟨b2,e2⟩:∃b,jO r=b:=⟨_,rfl⟩;obtain⟨b3,e3⟩:∃b,decide (z<1073741789)=b:=⟨_,rfl⟩;have E1:=ay e1;have E2:=ay e2;have E3:=ay e3;have CY:Hid (nM key s r z=(b1&&b2&&b3&&decide (key≠1)&&decide (r≠1)&&decide (pw 4 z.toNat 2147483579=r*pw key (l5 r key s).toNat 2147483579%2147483579))):=by
  show nM key s r z=_;unfold nM;rw[e1,e2,e3]
 clear e1 e2 e3;cases b1;case false=>
  have hF:Hid (nM key s r z=false):=by
   show nM key s r z=false;rw[CY.out];rfl
  cases b2<;>cases b3
  all_goals
   go_enter Try.func28,Try.ntmps28
   go_wp2_with fail
   refine(mZ _ key _ hk.1 E1.out).mono ?_;rintro e w' ⟨rfl,rfl⟩;go_wp2_with fail
   refine(mZ _ r _ hr.1 E2.out).mono ?_;rintro e w' ⟨rfl,rfl⟩;go_wp2_with fail
   refine(vM _ z _ E3.out).mono ?_;rintro e w' ⟨rfl,rfl⟩;go_wp2_with fail
   go_ret
   exact⟨by rw[hF.out];rfl,eB _ _⟩
 cases b2;case false=>
  have hF:Hid (nM key s r z=false):=by
   show nM key s r z=false;rw[CY.out];rfl
  cases b3;all_goals
   go_enter Try.func28,Try.ntmps28
   go_wp2_with fail
   refine(mZ _ key _ hk.1 E1.out).mono ?_;rintro e w' ⟨rfl,rfl⟩;go_wp2_with fail
   refine(mZ _ r _ hr.1 E2.out).mono ?_;rintro e w' ⟨rfl,rfl⟩;go_wp2_with fail
   refine(vM _ z _ E3.out).mono ?_;rintro e w' ⟨rfl,rfl⟩;go_wp2_with fail
   go_ret
   exact⟨by rw[hF.out];rfl,eB _ _⟩
 cases b3;case false=>
  have hF:Hid (nM key s r z=false):=by
   show nM key s r z=false;rw[CY.out];rfl
  go_enter Try.func28,Try.ntmps28
  go_wp2_with fail
  refine(mZ _ key _ hk.1 E1.out).mono ?_;rintro e w' ⟨rfl,rfl⟩;go_wp2_with fail
  refine(mZ _ r _ hr.1 E2.out).mono ?_;rintro e w' ⟨rfl,rfl⟩;go_wp2_with fail
  refine(vM _ z _ E3.out).mono ?_;rintro e w' ⟨rfl,rfl⟩;go_wp2_with fail
  go_ret
  exact⟨by rw[hF.out];rfl,eB _ _⟩
 by_cases c1:key=1;case pos=>
  have hF:Hid (nM key s r z=false):=by
   show nM key s r z=false;rw[CY.out,c1];rfl
  have t1:(key==1)=true:=by rw[beq_iff_eq];exact c1
  clear c1;go_enter Try.func28,Try.ntmps28
  go_wp2_with fail
  refine(mZ _ key _ hk.1 E1.out).mono ?_;rintro e w' ⟨rfl,rfl⟩;go_wp2_with fail
  refine(mZ _ r _ hr.1 E2.out).mono ?_;rintro e w' ⟨rfl,rfl⟩;go_wp2_with fail
  refine(vM _ z _ E3.out).mono ?_;rintro e w' ⟨rfl,rfl⟩;go_wp2_with fail
  go_ret
  exact⟨by rw[hF.out];rfl,eB _ _⟩
 have t1:(key==1)=false:=by rw[beq_eq_false_iff_ne];exact c1
 by_cases c2:r=1;case pos=>
  have hF:Hid (nM key s r z=false):=by
   show nM key s r z=false;rw[CY.out,c2];simp
  have t2:(r==1)=true:=by rw[beq_iff_eq];exact c2
  clear c1 c2;go_enter Try.func28,Try.ntmps28
  go_wp2_with fail
  refine(mZ _ key _ hk.1 E1.out).mono ?_;rintro e w' ⟨rfl,rfl⟩;go_wp2_with fail
  refine(mZ _ r _ hr.1 E2.out).mono ?_;rintro e w' ⟨rfl,rfl⟩;go_wp2_with fail
  refine(vM _ z _ E3.out).mono ?_;rintro e w' ⟨rfl,rfl⟩;go_wp2_with fail
  go_ret
  exact⟨by rw[hF.out];rfl,eB _ _⟩
 have t2:(r==1)=false:=by rw[beq_eq_false_iff_ne];exact c2
 have k1:=rR E1.out;have k2:=rR E2.out;have hc:=G0 r key s;have bp:=EL key (l5 r key s).toNat (m:=2147483579) (by omega);have hT:Hid (nM key s r z=(pw 4 z.toNat 2147483579==mY r (pw key (l5 r key s).toNat 2147483579))):=by
  show nM key s r z=_;rw[CY.out,yo (by omega) (by omega) bp.1 (by omega)];simp[c1,c2];rw[Bool.eq_iff_iff,decide_eq_true_iff,beq_iff_eq]
 clear c1 c2 CY;go_enter Try.func28,Try.ntmps28
 go_wp2_with fail
 refine(mZ _ key _ hk.1 E1.out).mono ?_;rintro e w' ⟨rfl,rfl⟩;go_wp2_with fail
 refine(mZ _ r _ hr.1 E2.out).mono ?_;rintro e w' ⟨rfl,rfl⟩;go_wp2_with fail
 refine(vM _ z _ E3.out).mono ?_;rintro e w' ⟨rfl,rfl⟩;go_wp2_with fail
 refine(FC z _ hz.1 hz.2).mono ?_;rintro e w' ⟨rfl,rfl⟩;go_wp2_with fail
 refine(wW r key s _ hs hr hk).mono ?_;rintro e w1 ⟨rfl,hb⟩;go_wp2_with fail
 refine(yM key _ _ hk.1 k1.2 hc.1 (by omega)).mono ?_;rintro e w' ⟨rfl,rfl⟩;go_wp2_with fail
 refine(qJ _ _ _).mono ?_;rintro e w' ⟨rfl,rfl⟩;go_wp2_with fail
 go_ret
 exact⟨by rw[hT.out];rfl,(eB _ _).trans (hb.mono (by simp))⟩
end ng
namespace mJ
open Pl
def comms(coeffs:List Int)(k:Nat):List Int:=(coeffs.take k).map fun c=>pw 4 c.toNat 2147483579
def ky(coeffs:List Int)(n:Nat):List Int:=(bq n).map fun(i:Nat)=>rL coeffs ((i:Int)+1)
def oV(coeffs:List Int)(n:Nat):List Int:=(bq n).map fun(i:Nat)=>Ix coeffs ((i:Int)+1) coeffs.length
def nN(coeffs:List Int):Nat->Bool
 |0=>true
 |k+1=>nN coeffs k&&decide (coeffs.getD k 0<1073741789)
def iO(t n:Int)(coeffs:List Int):Int:=
 if t<2\/n<t\/9<n\/(coeffs.length:Int)≠t then 1 else if coeffs.getD 0 0=0\/nN coeffs coeffs.length=false then 2 else 0
theorem Xb(coeffs:List Int){j k:Nat}(h:j<=k)(hk:nN coeffs k=true):nN coeffs j=true:=by
 induction k with
 |zero=>
  obtain rfl:j=0:=by omega
  exact hk
 |succ k ih=>
  rw[nN,aD]at hk;rcases bw k j with hj|hj
  ·obtain rfl:j=k+1:=by omega
   rw[nN,aD];exact hk
  ·exact ih hj hk.1
theorem Gj(coeffs:List Int){j k:Nat}(h:j<k)(hk:nN coeffs k=true):coeffs.getD j 0<1073741789:=by
 have h1:=Xb coeffs (j:=j+1) (by omega) hk;rw[nN,aD,decide_eq_true_iff]at h1;exact h1.2
theorem EO(coeffs:List Int){k:Nat}(hk:nN coeffs k=true)(h:coeffs.getD k 0<1073741789):nN coeffs (k+1)=true:=by
 rw[nN,hk,Bool.true_and,decide_eq_true_iff];exact h
theorem IQ(coeffs:List Int){j k:Nat}(h:j<k)(hj:¬coeffs.getD j 0<1073741789):nN coeffs k=false:=by
 cases hk:nN coeffs k with
 |false=>rfl
 |true=>exact absurd (Gj coeffs h hk) hj
theorem wV(coeffs:List Int){k:Nat}(h:k<coeffs.length):comms coeffs (k+1)=comms coeffs k++[pw 4 (coeffs.getD k 0).toNat 2147483579]:=by
 unfold comms;rw[List.take_succ_eq_append_getElem h,cB,aC,aN h];rfl
theorem EC(l:List Int){k:Nat}(h:k<l.length):l.take (k+1)=l.take k++[l.getD k 0]:=by
 rw[List.take_succ_eq_append_getElem h,aC,aN h];rfl
theorem rU(coeffs:List Int){k:Nat}(h:k<=coeffs.length):(comms coeffs k).length=k:=by
 unfold comms;rw[List.length_map,List.length_take];omega
theorem F4(coeffs:List Int)(n:Nat):ky coeffs (n+1)=ky coeffs n++[rL coeffs ((n:Int)+1)]:=by
 simp[ky,List.range_succ]
theorem F3(coeffs:List Int)(n:Nat):oV coeffs (n+1)=oV coeffs n++[Ix coeffs ((n:Int)+1) coeffs.length]:=by
 simp[oV,List.range_succ]
theorem tL(coeffs:List Int)(n:Nat):(ky coeffs n).length=n:=by simp[ky]
def Gf(l:List Int)(x:Int):Nat->Int
 |0=>0
 |j+1=>Gf l x j+l.getD j 0*x^j
def horner(x:Int):List Int->Int
 |[]=>0
 |c::l=>horner x l*x+c
theorem ak4(x:Int)(j:Nat):wD x j=x^j%1073741789:=by
 induction j with
 |zero=>simp[wD]
 |succ j ih=>rw[wD,ih,mG,Int.pow_succ]
theorem ak2(l:List Int)(x:Int)(j:Nat):Ix l x j=Gf l x j%1073741789:=by
 induction j with
 |zero=>rfl
 |succ j ih=>
  rw[Ix,ih,ak4,Gf,Int.add_emod,cM _ (Int.dvd_refl _),Db,<-Int.add_emod]
theorem P9(c:Int)(l:List Int)(x:Int)(j:Nat):Gf (c::l) x (j+1)=Gf l x j*x+c:=by
 induction j with
 |zero=>simp[Gf]
 |succ j ih=>
  rw[Gf,ih,Gf,List.getD_cons_succ,Int.pow_succ,Int.add_mul,Int.mul_assoc (l.getD j 0)];omega
theorem IG(l:List Int)(x:Int):Gf l x l.length=horner x l:=by
 induction l with
 |nil=>rfl
 |cons c l ih=>rw[List.length_cons,P9,ih,horner]
theorem WV(l:List Int)(x:Int):0<=rL l x/\rL l x<1073741789:=by
 cases l with
 |nil=>unfold rL;exact⟨by simp,by simp⟩
 |cons c l=>exact Nu _ _
theorem II(l:List Int)(x:Int)(hx:0<=x)(hx':x<1073741789)(hl:∀c∈l,0<=c/\c<1073741789):rL l x=horner x l%1073741789:=by
 induction l with
 |nil=>rfl
 |cons c l ih=>
  have h1:=ih (fun d hd=>hl d (List.mem_cons_of_mem _ hd));have b:=WV l x;have hc:=hl c (List.mem_cons_self ..);show kW (smul (rL l x) x) c=_;have b2:=uX (rL l x) x;have e1:kW (smul (rL l x) x) c=(smul (rL l x) x+c)%1073741789:=by
   unfold kW;rw[ny (by omega) (by omega)]
  rw[e1,xD b.1 (by omega) hx (by omega),h1,horner,mG,Int.add_emod,cM _ (Int.dvd_refl _),<-Int.add_emod]
theorem Jq{l:List Int}{P:Int->Prop}(h:∀i,i<l.length->P (l.getD i 0)):∀c∈l,P c:=by
 intro c hc;obtain⟨i,hi,rfl⟩:=List.mem_iff_getElem.1 hc;have:=h i hi
 rwa [aC,aN hi]at this
theorem SZ(l:List Int)(x:Int)(hx:0<=x)(hx':x<1073741789)(hl:∀i,i<l.length->0<=l.getD i 0/\l.getD i 0<1073741789):rL l x=Ix l x l.length:=by
 rw[II l x hx hx' (Jq hl),ak2,IG]
theorem Ko{t n:Int}{coeffs:List Int}(h:iO t n coeffs=0):2<=t/\t<=n/\n<=9/\(coeffs.length:Int)=t/\coeffs.getD 0 0≠0/\nN coeffs coeffs.length=true:=by
 unfold iO at h;by_cases h1:t<2\/n<t\/9<n\/(coeffs.length:Int)≠t
 ·rw[if_pos h1]at h;omega
 rw[if_neg h1]at h;by_cases h2:coeffs.getD 0 0=0\/nN coeffs coeffs.length=false
 ·rw[if_pos h2]at h;omega
 refine⟨by omega,by omega,by omega,by omega,fun h=>h2 (.inl h),?_⟩;cases hk:nN coeffs coeffs.length with
 |true=>rfl
 |false=>exact absurd (.inr hk) h2
theorem PU{t n:Int}{coeffs:List Int}(h:iO t n coeffs=0)(hb:∀i,i<coeffs.length->0<=coeffs.getD i 0):ky coeffs n.toNat=oV coeffs n.toNat:=by
 obtain⟨_,_,h3,_,_,h6⟩:=Ko h;unfold ky oV;apply List.map_congr_left;intro i hi;have:=List.mem_range.1 hi
 exact SZ coeffs _ (by omega) (by omega) fun j hj=>⟨hb j hj,Gj coeffs hj h6⟩
end mJ
namespace nG
open Pl mJ
def lC(cs:List Int):Nat->Bool
 |0=>true
 |k+1=>lC cs k&&jO (cs.getD k 0)
def gD(t n:Int)(cs:List Int):Bool:=decide (2<=t/\t<=n/\n<=9/\(cs.length:Int)=t/\cs.getD 0 0≠1)&&lC cs cs.length
theorem UW(cs:List Int){j k:Nat}(h:j<=k)(hk:lC cs k=true):lC cs j=true:=by
 induction k with
 |zero=>
  obtain rfl:j=0:=by omega
  exact hk
 |succ k ih=>
  rw[lC,aD]at hk;rcases bw k j with hj|hj
  ·obtain rfl:j=k+1:=by omega
   rw[lC,aD];exact hk
  ·exact ih hj hk.1
theorem Kf(cs:List Int){j k:Nat}(h:j<k)(hk:lC cs k=true):jO (cs.getD j 0)=true:=by
 have h1:=UW cs (j:=j+1) (by omega) hk;rw[lC,aD]at h1;exact h1.2
theorem MK(cs:List Int){k:Nat}(hk:lC cs k=true)(h:jO (cs.getD k 0)=true):lC cs (k+1)=true:=by
 rw[lC,hk,h];rfl
theorem QX(cs:List Int){j k:Nat}(h:j<k)(hj:jO (cs.getD j 0)=false):lC cs k=false:=by
 cases hk:lC cs k with
 |false=>rfl
 |true=>rw[Kf cs h hk]at hj;cases hj
theorem kE{t n:Int}{cs:List Int}(h:gD t n cs=true):2<=t/\t<=n/\n<=9/\(cs.length:Int)=t/\cs.getD 0 0≠1/\lC cs cs.length=true:=by
 unfold gD at h;rw[aD,decide_eq_true_iff]at h;exact⟨h.1.1,h.1.2.1,h.1.2.2.1,h.1.2.2.2.1,h.1.2.2.2.2,h.2⟩
theorem zR{t n:Int}{cs:List Int}(h:¬(2<=t/\t<=n/\n<=9/\(cs.length:Int)=t/\cs.getD 0 0≠1)):gD t n cs=false:=by
 unfold gD;rw[decide_eq_false h];rfl
theorem JZ{t n:Int}{cs:List Int}(h:2<=t/\t<=n/\n<=9/\(cs.length:Int)=t/\cs.getD 0 0≠1):gD t n cs=lC cs cs.length:=by
 unfold gD;rw[decide_eq_true h];rfl
theorem rS{t n:Int}{cs:List Int}(h:gD t n cs=true){j:Nat}(hj:j<cs.length):jO (cs.getD j 0)=true:=Kf cs hj (kE h).2.2.2.2.2
def wF(cs:List Int)(id:Int):Nat->Int
 |0=>1
 |j+1=>wF cs id j*pw (cs.getD j 0) (wD id j).toNat 2147483579%2147483579
def EM(cs:List Int)(id:Int):Int:=wF cs id cs.length
theorem Ge(cs:List Int)(id:Int)(j:Nat):0<=wF cs id j/\wF cs id j<2147483579:=by
 cases j with
 |zero=>unfold wF;omega
 |succ j=>unfold wF;omega
theorem al2(cs:List Int)(id:Int):0<=EM cs id/\EM cs id<2147483579:=Ge _ _ _
def iw(t n:Int)(cs:List Int)(id share:Int):Int:=
 if gD t n cs=false then 4 else if id<1\/n<id then 5 else if 1073741789<=share then 2 else 0
def lW(t n:Int)(cs:List Int)(id share:Int):Bool:=decide (iw t n cs id share=0/\pw 4 share.toNat 2147483579=EM cs id)
theorem rW{t n:Int}{cs:List Int}{id share:Int}(h:iw t n cs id share≠0):lW t n cs id share=false:=by
 unfold lW;rw[decide_eq_false (fun h'=>h h'.1)]
theorem GZ{t n:Int}{cs:List Int}{id share:Int}(h:gD t n cs=false):iw t n cs id share=4:=by unfold iw;rw[if_pos h]
theorem Fz{t n:Int}{cs:List Int}{id share:Int}(h:gD t n cs=true)(h2:id<1\/n<id):iw t n cs id share=5:=by
 unfold iw;rw[if_neg (by rw[h];simp),if_pos h2]
theorem Ra{t n:Int}{cs:List Int}{id share:Int}(h:gD t n cs=true)(h2:¬(id<1\/n<id))(h3:1073741789<=share):iw t n cs id share=2:=by
 unfold iw;rw[if_neg (by rw[h];simp),if_neg h2,if_pos h3]
theorem Rc{t n:Int}{cs:List Int}{id share:Int}(h:gD t n cs=true)(h2:¬(id<1\/n<id))(h3:¬1073741789<=share):iw t n cs id share=0:=by
 unfold iw;rw[if_neg (by rw[h];simp),if_neg h2,if_neg h3]
theorem Rf{t n:Int}{cs:List Int}{id share:Int}(h:iw t n cs id share=0):lW t n cs id share=(pw 4 share.toNat 2147483579==EM cs id):=by
 unfold lW;rw[Bool.eq_iff_iff,decide_eq_true_iff,beq_iff_eq];exact⟨fun h'=>h'.2,fun h'=>⟨h,h'⟩⟩
end nG
namespace Lck
abbrev ap8:Go.Conc.Locks.MuLink:={lock:=82,unlock:=83,ilock:=119,iunlock:=120,lockSlow:=133,unlockSlow:=135,disable:=91,enable:=92,acquire:=105,relMerge:=90,cas32:=132,add32:=134,tMutex:=132,tIMutex:=130,tPMutex:=195,tPIMutex:=215,tPI32:=217,tUP:=174,tNoCopy:=109,tU32:=114}
theorem mb:Go.Conc.Locks.MuLib dS ap8:=
 ⟨Try.func82,Try.func83,Try.func119,Try.func120,Try.func91,Try.func92,Try.func105,Try.func90,Try.func132,Try.func134,Try.underlying130,Try.runUnderlying130,Try.sizeOf130,Try.isAgg130,Try.zeroValue130,Try.underlying132,Try.runUnderlying132,Try.sizeOf132,Try.isAgg132,Try.zeroValue132,Try.underlying195,Try.runUnderlying195,Try.sizeOf195,Try.isAgg195,Try.zeroValue195,Try.underlying215,Try.runUnderlying215,Try.sizeOf215,Try.isAgg215,Try.zeroValue215,Try.underlying217,Try.runUnderlying217,Try.sizeOf217,Try.isAgg217,Try.zeroValue217,Try.underlying174,Try.runUnderlying174,Try.sizeOf174,Try.isAgg174,Try.zeroValue174,Try.underlying109,Try.runUnderlying109,Try.sizeOf109,Try.isAgg109,Try.zeroValue109,Try.underlying21,Try.runUnderlying21,Try.sizeOf21,Try.isAgg21,Try.zeroValue21,kr⟩
end Lck
namespace Onc
open Go.RowKit Go.MuLone Go.Conc.Locks Lck
theorem BI(a:Addr)(x:af)(u:FrameMode)(w:ae)(hc:w.cell? a=some x)(hz:w.frozen? a=false):
  CallsD dS 137 #[.pointer (some a),.bool true] u w fun e u' w'=>u'=u/\(e=.returned (.tuple #[])/\w'=w.drew.setCell a (.int .u32 1)):=by
 have hc':w.drew.cell? a=some x:=by go_simp
 have hz':w.drew.frozen? a=false:=by go_simp
 have hst:=run_call_store (P:=dS) Try.func146 kr kr kr kr (k:=.u32) (y:=1) hc' hz';go_enter_d Try.func137,Try.ntmps137
 go_wp2
 go_region_calls
 all_goals(go_end0;exact⟨rfl,rfl⟩)
theorem aN6(b off:Nat)(x:af)(w:ae)(Q:ae->Prop)
  (h0:w.cell? ⟨b,off,none⟩=some (.int .u32 0))(h1:w.cell? ⟨b,off+1,none⟩=some (.int .i32 0))
  (f1:w.frozen? ⟨b,off+1,none⟩=false)
  (hf:Calls dS 104 #[x] (w.setCell ⟨b,off+1,none⟩ (.int .i32 1)) fun e w'=>e=.returned (.tuple #[])/\Q w')
  (hQ:∀w',Q w'->w'.cell? ⟨b,off,none⟩=some (.int .u32 0)/\w'.cell? ⟨b,off+1,none⟩=some (.int .i32 1)/\w'.frozen? ⟨b,off,none⟩=false/\w'.frozen? ⟨b,off+1,none⟩=false):
  Calls dS 127 #[.pointer (some ⟨b,off,none⟩),.func (.func 104) #[x] #[]] w fun e w''=>e=.returned (.tuple #[])/\
   ∃w',Q w'/\w''=(w'.drew.setCell ⟨b,off,none⟩ (.int .u32 1)).setCell ⟨b,off+1,none⟩ (.int .i32 0):=by
 have hl:=run_call_load (P:=dS) Try.func136 kr kr kr .u32 kr (w:=w.setCell ⟨b,off+1,none⟩ (.int .i32 1)) (a:=⟨b,off,none⟩) (x:=0) ((bX _ ⟨b,off+1,none⟩ ⟨b,off,none⟩ _ (by simp)).trans h0);have hnot:∀(x:Bool) (w:ae),(Op.unary .not (.bool x)).run dS w=.ok (.bool (!x)) w:=fun _ _=>rfl;go_enter_defers Try.func127,Try.ntmps127
 go_wp2_with (go_at_call 82;refine(lock_free mb ⟨b,off+1,none⟩ _ (by go_simp) (by go_simp)).mono ?_;rintro e w' ⟨rfl,rfl⟩)
 go_wp2_with (go_at_call 126;go_in)
 refine hf.mono ?_;rintro e w' ⟨rfl,hq⟩;obtain⟨q0,q1,z0,z1⟩:=hQ w' hq;go_wp2
 refine leaves_cons (f:=137) (args:=#[.pointer (some ⟨b,off,none⟩),.bool true]) (by simp) (by simp[go_sem]) ?_;refine(BI ⟨b,off,none⟩ (.int .u32 0) .returning _ q0 z0).mono ?_;rintro e u' w'' ⟨rfl,rfl,rfl⟩;refine leaves_cons (f:=83) (args:=#[.pointer (some ⟨b,off+1,none⟩)]) (by simp[settle]) (by simp[go_sem]) ?_;refine(unlock_deferred mb ⟨b,off+1,none⟩ _ _ ?_ ?_).mono ?_
 ·refine(bX _ ⟨b,off,none⟩ ⟨b,off+1,none⟩ _ (by simp)).trans ?_;rw[World.cell?_drew];exact q1
 ·simp[z1]
 rintro e u' w'' ⟨rfl,rfl,rfl⟩;simp[Leaves,settle,results,Try.results127]<;>exact⟨w',hq,rfl⟩
theorem doC(b off:Nat)(x:af)(w:ae)(Q:ae->Prop)
  (h0:w.cell? ⟨b,off,none⟩=some (.int .u32 0))(h1:w.cell? ⟨b,off+1,none⟩=some (.int .i32 0))
  (f1:w.frozen? ⟨b,off+1,none⟩=false)
  (hf:Calls dS 104 #[x] (w.setCell ⟨b,off+1,none⟩ (.int .i32 1)) fun e w'=>e=.returned (.tuple #[])/\Q w')
  (hQ:∀w',Q w'->w'.cell? ⟨b,off,none⟩=some (.int .u32 0)/\w'.cell? ⟨b,off+1,none⟩=some (.int .i32 1)/\w'.frozen? ⟨b,off,none⟩=false/\w'.frozen? ⟨b,off+1,none⟩=false):
  Calls dS 103 #[.pointer (some ⟨b,off,none⟩),.func (.func 104) #[x] #[]] w fun e w''=>e=.returned (.tuple #[])/\
   ∃w',Q w'/\w''=(w'.drew.setCell ⟨b,off,none⟩ (.int .u32 1)).setCell ⟨b,off+1,none⟩ (.int .i32 0):=by
 have hl:=run_call_load (P:=dS) Try.func136 kr kr kr .u32 kr h0;have hnot:∀(x:Bool) (w:ae),(Op.unary .not (.bool x)).run dS w=.ok (.bool (!x)) w:=fun _ _=>rfl;go_enter Try.func103,Try.ntmps103
 go_wp2_with (first|(go_at_call 127;refine(aN6 b off x _ Q h0 h1 f1 hf hQ).mono ?_;rintro e w' ⟨rfl,hw⟩)|(go_at_call 126;go_in))
 go_end0
 exact⟨rfl,hw⟩
end Onc
namespace RB
open Go.RowKit Pl mJ nG uU Mem ng
def ib(w:ae)(g:Nat)(t n:Int)(vc:af)(d s:Int)(cs:List Int)(k:Nat):Prop:=
 ∃C:Array af,ft w g 137 C/\C.size=16/\C[0]?=some (.int .i64 t)/\C[1]?=some (.int .i64 n)/\C[2]?=some vc/\C[3]?=some (.int .u32 d)/\C[4]?=some (.int .i32 s)/\
  ∀i:Nat,1<=i->i<k->C[6+i]?=some (.int .u64 (EM cs i))
section
variable{w:ae}{g:Nat}{t n:Int}{vc:af}{d s:Int}{cs:List Int}{k:Nat}
theorem ib.lt(h:ib w g t n vc d s cs k):g<w.heap.size:=h.choose_spec.1.lt
theorem ib.cells(h:ib w g t n vc d s cs k):w.cell? ⟨g,0,none⟩=some (.int .i64 t)/\w.cell? ⟨g,1,none⟩=some (.int .i64 n)/\w.cell? ⟨g,2,none⟩=some vc/\w.cell? ⟨g,3,none⟩=some (.int .u32 d)/\w.cell? ⟨g,4,none⟩=some (.int .i32 s):=by
 obtain⟨C,hb,hs,h0,h1,h2,h3,h4,_⟩:=h;exact⟨(hb.cell 0).trans h0,(hb.cell 1).trans h1,(hb.cell 2).trans h2,(hb.cell 3).trans h3,(hb.cell 4).trans h4⟩
theorem ib.frozen(h:ib w g t n vc d s cs k)(i:Nat):w.frozen? ⟨g,i,none⟩=false:=h.choose_spec.1.frozen i
theorem ib.share(h:ib w g t n vc d s cs k){i:Nat}(h1:1<=i)(hi:i<k):w.cell? ⟨g,6+i,none⟩=some (.int .u64 (EM cs i)):=by
 obtain⟨C,hb,hs,_,_,_,_,_,h⟩:=h;exact(hb.cell _).trans (h i h1 hi)
theorem ib.room(h:ib w g t n vc d s cs k){i:Nat}(hi:i<16):∃u,w.cell? ⟨g,i,none⟩=some u:=by
 obtain⟨C,hb,hs,_⟩:=h;exact⟨_,(hb.cell i).trans (aI (by omega))⟩
theorem ib.grown{w':ae}{row:Option Nat}(h:ib w g t n vc d s cs k)(hg:w.grownBy w' row)(hne:some g≠row):ib w' g t n vc d s cs k:=by
 obtain⟨C,hb,r⟩:=h;exact⟨C,hb.grown hg hne,r⟩
theorem ib.below{w':ae}{B:Nat}(h:ib w g t n vc d s cs k)(hg:Below B w w')(hlt:g<B):ib w' g t n vc d s cs k:=by
 obtain⟨C,hb,r⟩:=h;exact⟨C,hb.below hg hlt,r⟩
theorem ib.lay(h:ib w g t n vc d s cs k)(h1:1<=k)(hk:k<10):ib (w.setCell ⟨g,6+k,none⟩ (.int .u64 (EM cs k))) g t n vc d s cs (k+1):=by
 obtain⟨C,hb,hs,h0,h1',h2,h3,h4,h5⟩:=h;refine⟨_,hb.iM (6+k) _,by rw[cL];exact hs,?_,?_,?_,?_,?_,?_⟩
 ·rw[aB (by omega)];exact h0
 ·rw[aB (by omega)];exact h1'
 ·rw[aB (by omega)];exact h2
 ·rw[aB (by omega)];exact h3
 ·rw[aB (by omega)];exact h4
 ·intro i hi1 hi2;by_cases e:i=k
  ·subst e;rw[aW (by omega)]
  ·rw[aB (by omega)];exact h5 i hi1 (by omega)
theorem ib.state(h:ib w g t n vc d s cs k)(s':Int):ib (w.setCell ⟨g,4,none⟩ (.int .i32 s')) g t n vc d s' cs k:=by
 obtain⟨C,hb,hs,h0,h1',h2,h3,h4,h5⟩:=h;refine⟨_,hb.iM 4 _,by rw[cL];exact hs,?_,?_,?_,?_,?_,?_⟩
 ·rw[aB (by omega)];exact h0
 ·rw[aB (by omega)];exact h1'
 ·rw[aB (by omega)];exact h2
 ·rw[aB (by omega)];exact h3
 ·rw[aW (by omega)]
 ·intro i hi1 hi2;rw[aB (by omega)];exact h5 i hi1 hi2
theorem ib.done(h:ib w g t n vc d s cs k)(d':Int):ib (w.setCell ⟨g,3,none⟩ (.int .u32 d')) g t n vc d' s cs k:=by
 obtain⟨C,hb,hs,h0,h1',h2,h3,h4,h5⟩:=h;refine⟨_,hb.iM 3 _,by rw[cL];exact hs,?_,?_,?_,?_,?_,?_⟩
 ·rw[aB (by omega)];exact h0
 ·rw[aB (by omega)];exact h1'
 ·rw[aB (by omega)];exact h2
 ·rw[aW (by omega)]
 ·rw[aB (by omega)];exact h4
 ·intro i hi1 hi2;rw[aB (by omega)];exact h5 i hi1 hi2
theorem ib.drew(h:ib w g t n vc d s cs k):ib w.drew g t n vc d s cs k:=h
end
theorem grownBy_set{w w':ae}{g:Nat}(h:w.grownBy w' (some g))(i:Nat)(u:af):w.grownBy (w'.setCell ⟨g,i,none⟩ u) (some g):=
 ⟨h.os,h.tape,h.output,by have:=h.size;simpa using this,fun k hk hne=>(Below.heap_setCell w' ⟨g,i,none⟩ u k (fun e=>hne (by rw[e]))).trans (h.block k hk hne)⟩
theorem grownBy_drew{w w':ae}{row:Option Nat}(h:w.grownBy w' row):w.grownBy w'.drew row:=⟨h.os,h.tape,h.output,h.size,h.block⟩
theorem Em{a b c:ae}{row:Option Nat}(h:a.grownBy b row)(h2:b.grownBy c row):a.grownBy c row:=
 ⟨h2.os.trans h.os,h2.tape.trans h.tape,h2.output.trans h.output,Nat.le_trans h.size h2.size,fun k hk hne=>(h2.block k (Nat.lt_of_lt_of_le hk h.size) hne).trans (h.block k hk hne)⟩
theorem En{w w':ae}{g:Nat}(h:w.grownBy w' (some g)){B:Nat}(hB:B<=g)(hw:B<=w.heap.size):Below B w w':=
 ⟨h.os,h.tape,h.output,h.size,fun k hk=>h.block k (by omega) (fun e=>by injection e with e;omega)⟩
def ml(w:ae)(base:Nat)(vc:af)(cs:List Int):Prop:=w.ownsRow base 79 1 vc cs.length (cs.map (bU .u64))
theorem ml.form{w:ae}{base:Nat}{vc:af}{cs:List Int}(h:ml w base vc cs)(hp:0<cs.length):
  ∃gc cap,vc=.slice (some ⟨gc,0,none⟩) cs.length cap/\base<=gc/\gc<w.heap.size/\(∀i,i<cs.length->w.cell? ⟨gc,i,none⟩=some (.int .u64 (cs.getD i 0)))/\∀g C,ft w g 137 C->g≠gc:=by
 obtain⟨gc,cap,rfl,hb,hlt⟩:=World.ownsRow.form h hp;refine⟨gc,cap,rfl,hb,hlt,fun i hi=>?_,fun g C hC e=>?_⟩
 ·rw[World.ownsRow.cellAt h i (by omega),bZ,aN hi,aC,aN hi];rfl
 ·exact kX h hC (by decide) (by rw[e];rfl)
theorem P8(cs:List Int)(id:Int)(j:Nat):wF cs id (j+1)=mY (wF cs id j) (pw (cs.getD j 0) (wD id j).toNat 2147483579):=by
 have b1:=Ge cs id j;have b2:=EL (cs.getD j 0) (wD id j).toNat (m:=2147483579) (by omega);rw[wF,yo b1.1 (by omega) b2.1 (by omega)]
theorem SD{id:Int}(j:Nat)(h0:0<=id)(h1:id<100):wD id (j+1)=smul (wD id j) id:=by
 have b:=BV id j;rw[wD,xD b.1 (by omega) h0 (by omega)]
theorem aL7(g:Nat)(t:Int)(n:Nat)(vc:af)(cs:List Int)(d s:Int)(base:Nat)(w:ae)(hg:ib w g t n vc d s cs 1)(ho:ml w base vc cs)(hn:n<=9)(hl:0<cs.length)(Ad:cs.length<=9)
  (hel:∀i,i<cs.length->jO (cs.getD i 0)=true):
  Calls dS 104 #[.pointer (some ⟨g,0,none⟩)] w fun e w'=>e=.returned (.tuple #[])/\ib w' g t n vc d s cs (n+1)/\w.grownBy w' (some g):=by
 obtain⟨gc,cap,rfl,hbase,hgc,hcell,hne⟩:=ho.form hl;have hgg:g≠gc:=by
  obtain⟨C,hC,_⟩:=hg;exact hne g C hC
 have HC:=ay hcell;have HEL:=ay hel;clear hcell hne hel ho;go_enter Try.func104,Try.ntmps104
 go_wp2_with fail
 go_loopw [2] (fun i wr=>∃k:Nat,1<=k/\k<=n+1/\i=.int .i64 k/\ib wr g t n (.slice (some ⟨gc,0,none⟩) cs.length cap) d s cs k/\w.grownBy wr (some g)) (fun i _=>n+1-(intOf i).toNat)
 case atStart=>exact⟨1,by omega,by omega,rfl,hg,World.grownBy.refl _ _⟩
 case round=>
  obtain⟨k,hk1,hk,rfl,hG,hgr⟩:=hrel;obtain⟨c0,c1,c2,c3,c4⟩:=hG.cells;have HG:=ay hG;clear hG;by_cases hlt:k<=n
  ·have hlt':(k:Int)<=(n:Int):=by omega
   obtain⟨wo,rfl⟩:∃wo:ae,wo=wr:=⟨_,rfl⟩;have HGR:=ay hgr;clear hgr;go_wp2_with fail
   go_loopw [3,4,20] (fun x o i wr=>∃j:Nat,j<=cs.length/\i=.int .i64 j/\x=.int .u64 (wD k j)/\o=.int .u64 (wF cs k j)/\wr=wo) (fun _ _ i _=>cs.length-(intOf i).toNat)
   case atStart=>exact⟨0,by omega,rfl,rfl,rfl,rfl⟩
   case round=>
    obtain⟨j,hj,rfl,rfl,rfl,rfl⟩:=hrel;by_cases hjl:j<cs.length
    ·have hcj:wr.cell? ⟨gc,j,none⟩=some (.int .u64 (cs.getD j 0)):=(World.cell?_of_block (HGR.out.block gc hgc (fun e=>hgg (by injection e with e;exact e.symm)))).trans (HC.out j hjl);have he:=rR (HEL.out j hjl);have P1:=ay (P8 cs k j);have P2:=ay (SD (id:=(k:Int)) j (by omega) (by omega));have b1:=BV (k:Int) j;obtain⟨b1,b2⟩:=b1;obtain⟨he1,he2⟩:=he;generalize cs.getD j 0=C at*;generalize wD (k:Int) j=X at*;generalize wF cs (k:Int) j=O at*;go_wp2_with (first|(go_at_call 68;refine(yM C X _ (by omega) he2 b1 (by omega)).mono ?_;rintro e w' ⟨rfl,rfl⟩)|(go_at_call 65;refine(qJ _ _ _).mono ?_;rintro e w' ⟨rfl,rfl⟩)|(go_at_call 44;refine(FZ k _ (by omega) (by omega)).mono ?_;rintro e w' ⟨rfl,rfl⟩)|(go_at_call 69;refine(lM _ _ _).mono ?_;rintro e w' ⟨rfl,rfl⟩))
     refine⟨⟨j+1,by omega,by go_num,by rw[P2.out],by rw[P1.out],by first|rfl|trivial⟩,by simp[intOf]<;>omega⟩
    ·obtain rfl:j=cs.length:=by omega
     obtain⟨u0,hu0⟩:=HG.out.room (i:=6+k) (by omega);have hz0:=HG.out.frozen (6+k);have q1:(0:Int)<=(k:Int):=by omega
     have q2:(k:Int)<10:=by omega
     have q3:k<10:=by omega
     go_wp2_with fail
     refine⟨⟨k+1,by omega,by omega,by go_num,HG.out.lay hk1 q3,grownBy_set HGR.out _ _⟩,by simp[intOf]<;>omega⟩
  ·obtain rfl:k=n+1:=by omega
   have hlt':¬((n+1:Nat):Int)<=(n:Int):=by omega
   go_wp2_with fail
   go_end0
   exact⟨rfl,HG.out,hgr⟩
theorem aj5(g:Nat)(t:Int)(n:Nat)(vc:af)(cs:List Int)(base:Nat)(id:Int)(w:ae)(hg:ib w g t n vc 0 0 cs 1)(ho:ml w base vc cs)(hn:n<=9)(hl:0<cs.length)(Ad:cs.length<=9)
  (hel:∀i,i<cs.length->jO (cs.getD i 0)=true)(h1:1<=id)(h2:id<=n):
  Calls dS 66 #[.pointer (some ⟨g,0,none⟩),.int .i64 id] w fun e w'=>e=.returned (.int .u64 (EM cs id))/\ib w' g t n vc 1 0 cs (n+1)/\w.grownBy w' (some g):=by
 obtain⟨k,rfl⟩:=cn (show 0<=id by omega);obtain⟨c0,c1,c2,c3,c4⟩:=hg.cells;have Wd:=hg.state 1;have Uk:w.grownBy (w.setCell ⟨g,4,none⟩ (.int .i32 1)) (some g):=grownBy_set (World.grownBy.refl _ _) 4 _;have ho1:ml (w.setCell ⟨g,4,none⟩ (.int .i32 1)) base vc cs:=by
  obtain⟨C,hC,_⟩:=hg;exact mF ho hC (by decide) 4 _
 have mS:=(aL7 g t n vc cs 0 1 base _ Wd ho1 hn hl Ad hel).mono (fun e w' h=>(⟨h.1,h.2.1,Em Uk h.2.2⟩:e=.returned (.tuple #[])/\(ib w' g t n vc 0 1 cs (n+1)/\w.grownBy w' (some g))));have hdo:=Onc.doC g 3 (.pointer (some ⟨g,0,none⟩)) w (fun w'=>ib w' g t n vc 0 1 cs (n+1)/\w.grownBy w' (some g)) c3 c4 (hg.frozen 4) mS
  (fun w' h=>⟨h.1.cells.2.2.2.1,h.1.cells.2.2.2.2,h.1.frozen 3,h.1.frozen 4⟩)
 have HDO:=ay hdo;have hmf:∀(fn:Fn) (first cap:Array af) (w:ae),(Instr.makeFunc fn first cap).run dS w=.ok (.func fn first cap) w:=fun _ _ _ _=>rfl;have q1:(0:Int)<=(k:Int):=by omega
 have q2:(k:Int)<10:=by omega
 clear Wd Uk ho1 mS hdo c0 c1 c2 c3 c4;go_enter Try.func66,Try.ntmps66
 go_wp2_with fail
 refine HDO.out.mono ?_;rintro e w1 ⟨rfl,w',⟨hG,hgr⟩,rfl⟩;have hF:=(hG.drew.done 1).state 0;have hR:=grownBy_set (grownBy_set (grownBy_drew hgr) 3 (.int .u32 1)) 4 (.int .i32 0);generalize((w'.drew.setCell ⟨g,3,none⟩ (.int .u32 1)).setCell ⟨g,4,none⟩ (.int .i32 0))=wf at*;have hs:=hF.share (i:=k) (by omega) (by omega);have HF:=ay hF;clear hF hG hgr;go_wp2_with fail
 go_ret
 exact⟨rfl,HF.out,hR⟩
end RB
namespace Lc
open Go.RowKit Pl mJ nG uU Mem ng RB
def RD(t n:Int)(cs:List Int)(w:ae)(e:Ending)(w':ae):Prop:=
 Below w.heap.size w w'/\
 ((gD t n cs=false/\e=.returned (.tuple #[.pointer none,.int .i64 4]))\/
  (gD t n cs=true/\∃g vc,e=.returned (.tuple #[.pointer (some ⟨g,0,none⟩),.int .i64 0])/\w.heap.size<=g/\ib w' g t n vc 0 0 cs 1/\ml w' w.heap.size vc cs))
def gI(t n:Int)(vc:af):Array af:=
 #[.int .i64 t,.int .i64 n,vc,.int .u32 0,.int .i32 0,.int .u32 0,.int .u64 0,.int .u64 0,.int .u64 0,.int .u64 0,.int .u64 0,.int .u64 0,.int .u64 0,.int .u64 0,.int .u64 0,.int .u64 0]
def xo(t n:Int)(cs:List Int)(w:ae)(e:Ending)(w':ae):Prop:=
 Below w.heap.size w w'/\
 ((gD t n cs=false/\e=.returned (.tuple #[.pointer none,.int .i64 4]))\/
  (gD t n cs=true/\∃g vc,e=.returned (.tuple #[.pointer (some ⟨g,0,none⟩),.int .i64 0])/\w.heap.size<=g/\ft w' g 137 (gI t n vc)/\ml w' w.heap.size vc cs))
theorem X3:(Try.prog.info? 79).map (fun i=>(i.zero,i.size,i.bytes))=some (some (.int .u64 0),1,8):=kr
theorem aP0(t n:Int)(cs:List Int)(v:af)(w:ae)(hv:fW .u64 w w.heap.size v cs)(hl:cs.length<=65536)
  (hbad:t<2\/n<t\/9<n\/(cs.length:Int)≠t\/cs.getD 0 0=1):
  Calls dS 55 #[.agg #[.int .i64 t,.int .i64 n,v]] w (xo t n cs w):=by
 obtain⟨A,c,rfl,hc,hcell⟩:=hv;have hE:Hid (gD t n cs=false):=by
  show gD t n cs=false;exact zR (fun h=>by
   obtain⟨h1,h2,h3,h4,h5⟩:=h;rcases hbad with h|h|h|h|h
   ·omega
   ·omega
   ·omega
   ·exact h h4
   ·exact h5 h)
 have HC:=ay hcell;clear hcell;by_cases h1:t<2;case pos=>
  clear hbad;go_enter Try.func55,Try.ntmps55
  go_wp2_with fail
  go_ret2
  exact⟨eB _ _,.inl ⟨hE.out,rfl⟩⟩
 by_cases h2:n<t;case pos=>
  clear hbad;go_enter Try.func55,Try.ntmps55
  go_wp2_with fail
  go_ret2
  exact⟨eB _ _,.inl ⟨hE.out,rfl⟩⟩
 by_cases h3:9<n;case pos=>
  clear hbad;go_enter Try.func55,Try.ntmps55
  go_wp2_with fail
  go_ret2
  exact⟨eB _ _,.inl ⟨hE.out,rfl⟩⟩
 by_cases h4:(cs.length:Int)=t;case neg=>
  have h4':((cs.length:Int) != t)=true:=by rw[bne_iff_ne];omega
  clear hbad h4;go_enter Try.func55,Try.ntmps55
  go_wp2_with fail
  go_ret2
  exact⟨eB _ _,.inl ⟨hE.out,rfl⟩⟩
 have h4':((cs.length:Int) != t)=false:=by rw[bne_eq_false_iff_eq];omega
 have h5:cs.getD 0 0=1:=by
  rcases hbad with h|h|h|h|h
  ·omega
  ·omega
  ·omega
  ·exact absurd h4 h
  ·exact h
 have h6:(cs.getD 0 0==1)=true:=by rw[beq_iff_eq];exact h5
 have hp:0<cs.length:=by omega
 have hp1:(0:Int)<(cs.length:Int):=by omega
 obtain⟨b,off,rfl,hb,hcells⟩:=HC.out hp;have hc0:=hcells 0 hp;rw[Nat.add_zero]at hc0;clear hcells hbad h4 h5 HC;generalize cs.getD 0 0=X at*;go_enter Try.func55,Try.ntmps55
 go_wp2_with fail
 go_ret2
 exact⟨eB _ _,.inl ⟨hE.out,rfl⟩⟩
theorem jG{w:ae}{g:Nat}(t:aj)(cs:Array af)(h:w.heap.size=g):ft (w.alloc (.cells cs t)) g t cs:=h ▸ ft.new w t cs
theorem EW{w:ae}{g:Nat}{t n:Int}{vc:af}{cs:List Int}(h:ft w g 137 (gI t n vc)):ib w g t n vc 0 0 cs 1:=
 ⟨_,h,rfl,rfl,rfl,rfl,rfl,rfl,fun i h1 h2=>absurd h1 (by omega)⟩
def zY(w:ae)(gc:Nat)(cs:List Int)(k:Nat):Prop:=∃C:Array af,ft w gc 79 C/\C.size=cs.length/\∀j,j<k->C[j]?=some (.int .u64 (cs.getD j 0))
theorem zY.lay{w:ae}{gc:Nat}{cs:List Int}{k:Nat}(h:zY w gc cs k)(hk:k<cs.length):zY (w.setCell ⟨gc,k,none⟩ (.int .u64 (cs.getD k 0))) gc cs (k+1):=by
 obtain⟨C,hb,hs,hc⟩:=h;refine⟨_,hb.iM k _,by rw[cL];exact hs,fun j hj=>?_⟩;by_cases e:j=k
 ·subst e;rw[aW (by omega)]
 ·rw[aB (by omega)];exact hc j (by omega)
theorem zY.room{w:ae}{gc:Nat}{cs:List Int}{k:Nat}(h:zY w gc cs k)(hk:k<cs.length):(∃u,w.cell? ⟨gc,k,none⟩=some u)/\w.frozen? ⟨gc,k,none⟩=false:=by
 obtain⟨C,hb,hs,hc⟩:=h;exact⟨⟨_,(hb.cell k).trans (aI (by omega))⟩,hb.frozen k⟩
theorem zY.own{w:ae}{gc base:Nat}{cs:List Int}(h:zY w gc cs cs.length)(hb:base<=gc)(hl:cs.length<=65536):ml w base (.slice (some ⟨gc,0,none⟩) cs.length cs.length) cs:=by
 obtain⟨C,hblk,hs,hc⟩:=h;refine⟨by simp,.inr ⟨gc,cs.length,C,rfl,hb,hblk,aH _,by unfold maxLen;omega,by omega,?_⟩⟩;apply List.ext_getElem?;intro j;rw[List.getElem?_take,bZ];by_cases hj:j<cs.length
 ·rw[if_pos (by omega),Array.getElem?_toList,hc j hj,aN hj,aC,aN hj];rfl
 ·rw[if_neg (by omega),List.getElem?_eq_none (by omega)];rfl
theorem al8(n:Int)(cs:List Int)(v:af)(w:ae)(hv:fW .u64 w w.heap.size v cs)(hcb:∀i,i<cs.length->0<=cs.getD i 0)
  (h1:2<=cs.length)(h2:(cs.length:Int)<=n)(h3:n<=9)(h5:cs.getD 0 0≠1):
  Calls dS 55 #[.agg #[.int .i64 cs.length,.int .i64 n,v]] w (xo cs.length n cs w):=by
 obtain⟨A,c,rfl,hc,hcell⟩:=hv;have hE:Hid (gD cs.length n cs=lC cs cs.length):=by
  show gD cs.length n cs=_;exact JZ ⟨by omega,h2,h3,rfl,h5⟩
 have Nb:=ay hcb;obtain⟨b,off,rfl,hb,hcells⟩:=hcell (by omega);have hc0:=hcells 0 (by omega);rw[Nat.add_zero]at hc0;have HC:=ay hcells;have n1:¬(cs.length:Int)<2:=by omega
 have n2:¬n<(cs.length:Int):=by omega
 have n3:¬9<n:=by omega
 have n4:((cs.length:Int) != (cs.length:Int))=false:=by rw[bne_eq_false_iff_eq]
 have n5:(cs.getD 0 0==1)=false:=by rw[beq_eq_false_iff_ne];exact h5
 have n6:(0:Int)<(cs.length:Int):=by omega
 have hmk:∀W,(Instr.makeSlice 126 (.int .i64 cs.length) (.int .i64 cs.length)).run dS W=.ok (.slice (some ⟨W.heap.size,0,none⟩) cs.length cs.length) (W.alloc (.cells (madeCells #[.int .u64 0] cs.length) 79)):=
  fun W=>run_make_row' 126 79 (.int .u64 0) 8 Try.underlying126 X3 rfl .i64 .i64 cs.length (by omega) (by omega) W
 have hsz:(madeCells #[bU .u64 0] cs.length).size=cs.length:=by simp[madeCells]
 have HSZ:=ay hsz;clear hcell hcells hcb h5 hsz;generalize madeCells #[bU .u64 0] cs.length=MC at*;generalize Wb:cs.getD 0 0=X at*;clear Wb;go_enter Try.func55,Try.ntmps55
 go_upto_region 3 with fail
 go_cut [4] (fun p wx=>p=.pointer (some ⟨w.heap.size+2,0,none⟩)/\ft wx (w.heap.size+2) 137 (gI cs.length n (.slice (some ⟨w.heap.size+1,0,none⟩) cs.length cs.length))/\
  ft wx (w.heap.size+1) 79 MC/\ft wx w.heap.size 31 #[.int .i64 cs.length,.int .i64 n,.slice (some ⟨b,off,none⟩) cs.length c]/\Below w.heap.size w wx)
 case first=>
  go_region
  all_goals
   go_wp2_with fail
   go_meet
   refine⟨rfl,jG _ _ (by simp),(jG _ _ (by simp)).alloc _,((ft.new _ _ _).alloc _).alloc _,(((eB _ _).alloc (by simp) _).alloc (by simp<;>omega) _).drew⟩
 case rest=>
  obtain⟨rfl,hB2,hB1,hB0,fM⟩:=hcut;rename ae=>w0
  have hx2:w0.cell? ⟨w.heap.size,2,none⟩=some (.slice (some ⟨b,off,none⟩) cs.length c):=hB0.cell 2;go_wp2_with fail
  go_loopw [51] (fun i wr=>∃k:Nat,k<=cs.length/\i=.int .i64 k/\lC cs k=true/\zY wr (w.heap.size+1) cs k/\ft wr (w.heap.size+2) 137 (gI cs.length n (.slice (some ⟨w.heap.size+1,0,none⟩) cs.length cs.length))/\Below w.heap.size w wr) (fun i _=>cs.length-(intOf i).toNat)
  case atStart=>exact⟨0,by omega,rfl,rfl,⟨MC,hB1,HSZ.out,fun j hj=>absurd hj (by omega)⟩,hB2,fM⟩
  case round=>
   obtain⟨k,hk,rfl,aZ1,hrow,Mq,mV⟩:=hrel;have HEL:=ay aZ1;have HRW:=ay hrow;clear aZ1 hrow hB1 hB2 hB0;by_cases hlt:k<cs.length
   ·have Bn:=(mV.cell (p:=⟨b,off+k,none⟩) hb).trans (HC.out k hlt);have hcb:=Nb.out k hlt;have hbad:jO (cs.getD k 0)=false->Hid (gD cs.length n cs=false):=fun h=>by
     show gD cs.length n cs=false;rw[hE.out];exact QX cs hlt h
    have tC:jO (cs.getD k 0)=true->lC cs (k+1)=true:=fun h=>MK cs HEL.out h;have bE9:=ay (HRW.out.lay hlt);obtain⟨⟨u0,hu0⟩,hz0⟩:=HRW.out.room hlt;have RA:=ay hbad;have bd8:=ay tC;have hg2:wr.cell? ⟨w.heap.size+2,2,none⟩=some (.slice (some ⟨w.heap.size+1,0,none⟩) cs.length cs.length):=Mq.cell 2;clear hbad tC;generalize cs.getD k 0=Y at*;obtain⟨bl,hbl⟩:∃bl,jO Y=bl:=⟨_,rfl⟩;have HBL:=ay hbl;clear hbl;cases bl;case false=>
     have Mz:=RA.out HBL.out;go_wp2_with (go_at_call 47;refine(mZ _ Y _ hcb HBL.out).mono ?_;rintro e w' ⟨rfl,rfl⟩)
     go_ret2
     exact⟨mV,.inl ⟨Mz.out,rfl⟩⟩
    case true=>
     go_wp2_with (go_at_call 47;refine(mZ _ Y _ hcb HBL.out).mono ?_;rintro e w' ⟨rfl,rfl⟩)
     refine⟨⟨k+1,by omega,by go_num,bd8.out HBL.out,bE9.out,Mq.far (by show w.heap.size+2≠w.heap.size+1;omega) _,mV.setCell (by show w.heap.size<=w.heap.size+1;omega) _⟩,by simp[intOf]<;>omega⟩
   ·obtain rfl:k=cs.length:=by omega
    have Mz:Hid (gD cs.length n cs=true):=by
     show gD cs.length n cs=true;rw[hE.out];exact HEL.out
    go_wp2_with fail
    go_ret2
    exact⟨mV,.inr ⟨Mz.out,_,_,rfl,by omega,Mq,HRW.out.own (by omega) (by omega)⟩⟩
theorem aO9(t n:Int)(cs:List Int)(v:af)(w:ae)(hv:fW .u64 w w.heap.size v cs)(hl:cs.length<=65536)(hcb:∀i,i<cs.length->0<=cs.getD i 0):
  Calls dS 55 #[.agg #[.int .i64 t,.int .i64 n,v]] w (xo t n cs w):=by
 by_cases h:t<2\/n<t\/9<n\/(cs.length:Int)≠t\/cs.getD 0 0=1
 ·exact aP0 t n cs v w hv hl h
 ·have e:t=cs.length:=by omega
  subst e;exact al8 n cs v w hv hcb (by omega) (by omega) (by omega) (by omega)
theorem ofC(t n:Int)(cs:List Int)(v:af)(w:ae)(hv:fW .u64 w w.heap.size v cs)(hl:cs.length<=65536)(hcb:∀i,i<cs.length->0<=cs.getD i 0):
  Calls dS 55 #[.agg #[.int .i64 t,.int .i64 n,v]] w (RD t n cs w):=
 (aO9 t n cs v w hv hl hcb).mono fun _ _ ⟨h1,h2⟩=>⟨h1,h2.imp id fun⟨a,g,vc,b,c,d,f⟩=>⟨a,g,vc,b,c,EW d,f⟩⟩
end Lc
namespace Mem
open Go.RowKit Pl
structure Cm where
 id:Int
 d:Int
 e:Int
deriving Inhabited
def Cm.cells(c:Cm):List af:=[.int .i64 c.id,.int .u64 c.d,.int .u64 c.e]
def eX(l:List Cm):List af:=l.flatMap Cm.cells
def Cm.zero:Cm:=⟨0,0,0⟩
theorem gg(l:List Cm):(eX l).length=l.length*3:=by
 induction l with
 |nil=>rfl
 |cons c l ih=>
  show(Cm.cells c++eX l).length=_;rw[dG,ih,List.length_cons];simp[Cm.cells]<;>omega
theorem Ag(a b:List Cm):eX (a++b)=eX a++eX b:=by simp[eX]
theorem GX(c:Cm):eX [c]=[.int .i64 c.id,.int .u64 c.d,.int .u64 c.e]:=by simp[eX,Cm.cells]
theorem zT(l:List Cm)(i:Nat)(h:i<l.length):
  (eX l)[i*3]?=some (.int .i64 (l.getD i .zero).id)/\(eX l)[i*3+1]?=some (.int .u64 (l.getD i .zero).d)/\(eX l)[i*3+2]?=some (.int .u64 (l.getD i .zero).e):=by
 induction l generalizing i with
 |nil=>simp at h
 |cons c l ih=>
  have e:eX (c::l)=.int .i64 c.id:: .int .u64 c.d:: .int .u64 c.e::eX l:=rfl;rw[e];cases i with
  |zero=>exact⟨rfl,rfl,rfl⟩
  |succ i=>
   have:=ih i (by simpa using h)
   have e1:(i+1)*3=i*3+1+1+1:=by omega
   rw[e1,List.getD_cons_succ];simpa using this
theorem Gi(l:List Cm):∀u∈eX l,u.oneCell'=true:=by
 intro u hu;simp only[eX,List.mem_flatMap]at hu;obtain⟨c,_,hu⟩:=hu;simp only[Cm.cells,aM,bA,or_false]at hu;rcases hu with rfl|rfl|rfl<;>rfl
def lI(w:ae)(B:Nat)(v:af)(l:List Cm):Prop:=Row w B 3 v l.length (eX l)
theorem lI.later{w w':ae}{v:af}{l:List Cm}(h:lI w w.heap.size v l)(hb:Below w.heap.size w w'):lI w' w'.heap.size v l:=Row.later h hb
theorem lI.own{w:ae}{base:Nat}{e:aj}{v:af}{l:List Cm}(h:w.ownsRow base e 3 v l.length (eX l)):lI w w.heap.size v l:=Row.own h
theorem lI.shape{w:ae}{B:Nat}{v:af}{l:List Cm}(h:lI w B v l):∃A c,v=.slice A l.length c:=by
 obtain⟨_,A,c,rfl,_⟩:=h;exact⟨A,c,rfl⟩
theorem lI.at_{w:ae}{B:Nat}{A:Option Addr}{n c:Nat}{l:List Cm}(h:lI w B (.slice A n c) l)(hp:0<l.length):
  ∃b off,A=some ⟨b,off,none⟩/\b<B/\∀i,i<l.length->w.cell? ⟨b,off+i*3,none⟩=some (.int .i64 (l.getD i .zero).id)/\
   w.cell? ⟨b,off+i*3+1,none⟩=some (.int .u64 (l.getD i .zero).d)/\w.cell? ⟨b,off+i*3+2,none⟩=some (.int .u64 (l.getD i .zero).e):=by
 obtain⟨_,A',c',hv,_,h⟩:=h;obtain⟨b,off,hA,hB,h⟩:=h hp;have:A=A':=by injection hv
 refine⟨b,off,by rw[this,hA],hB,fun i hi=>?_⟩;obtain⟨h1,h2,h3⟩:=zT l i hi;exact⟨h _ _ h1,by rw[Nat.add_assoc];exact h _ _ h2,by rw[Nat.add_assoc];exact h _ _ h3⟩
end Mem
namespace mI
open Go.RowKit Pl mJ nG Mem
def oo(n:Int)(l:List Cm)(k:Nat):Int:=
 if(l.getD k .zero).id<1\/n<(l.getD k .zero).id then 5 else if 0<k/\(l.getD k .zero).id<=(l.getD (k-1) .zero).id then 6 else 0
def fT(n:Int)(l:List Cm):Nat->Int
 |0=>0
 |k+1=>if fT n l k=0 then oo n l k else fT n l k
def ko(l:List Cm):Nat->Bool
 |0=>true
 |k+1=>ko l k&&(jx (l.getD k .zero).d&&jx (l.getD k .zero).e)
def rD(t n:Int)(l:List Cm):Int:=
 if(l.length:Int)<t\/n<(l.length:Int)then 7 else if fT n l l.length≠0 then fT n l l.length else if ko l l.length=true then 0 else 3
theorem vW(n:Int)(l:List Cm){j k:Nat}(h:j<=k)(hj:fT n l j≠0):fT n l k=fT n l j:=by
 induction k with
 |zero=>
  obtain rfl:j=0:=by omega
  rfl
 |succ k ih=>
  rcases bw k j with hlt|hge
  ·obtain rfl:j=k+1:=by omega
   rfl
  ·rw[fT,ih hge,if_neg hj]
theorem BW(n:Int)(l:List Cm){j k:Nat}(h:j<=k)(hk:fT n l k=0):fT n l j=0:=by
 by_cases h0:fT n l j=0
 ·exact h0
 ·rw[vW n l h h0]at hk;exact absurd hk h0
theorem LD(n:Int)(l:List Cm){k m:Nat}{x:Int}(hk:k<m)(h0:fT n l k=0)(hx:oo n l k=x)(hn:x≠0):fT n l m=x:=by
 rw[vW n l (j:=k+1) (by omega) (by rw[fT,if_pos h0,hx];exact hn),fT,if_pos h0,hx]
theorem F9{n:Int}{l:List Cm}{k:Nat}(h0:fT n l k=0)(hx:oo n l k=0):fT n l (k+1)=0:=by rw[fT,if_pos h0,hx]
theorem Ga{n:Int}{l:List Cm}{k m:Nat}(h:fT n l m=0)(hk:k<m):oo n l k=0:=by
 have h1:=BW n l (j:=k+1) (by omega) h;have h2:=BW n l (j:=k) (by omega) h;rw[fT,if_pos h2]at h1;exact h1
theorem Iy{n:Int}{l:List Cm}{k:Nat}(h:oo n l k=0):1<=(l.getD k .zero).id/\(l.getD k .zero).id<=n/\(0<k->(l.getD (k-1) .zero).id<(l.getD k .zero).id):=by
 unfold oo at h;by_cases h1:(l.getD k .zero).id<1\/n<(l.getD k .zero).id
 ·rw[if_pos h1]at h;omega
 rw[if_neg h1]at h;by_cases h2:0<k/\(l.getD k .zero).id<=(l.getD (k-1) .zero).id
 ·rw[if_pos h2]at h;omega
 exact⟨by omega,by omega,fun h0=>by
  have:¬(l.getD k .zero).id<=(l.getD (k-1) .zero).id:=fun h=>h2 ⟨h0,h⟩
  omega⟩
theorem Tp(l:List Cm){j k:Nat}(h:j<=k)(hk:ko l k=true):ko l j=true:=by
 induction k with
 |zero=>
  obtain rfl:j=0:=by omega
  exact hk
 |succ k ih=>
  rw[ko,aD]at hk;rcases bw k j with hj|hj
  ·obtain rfl:j=k+1:=by omega
   rw[ko,aD];exact hk
  ·exact ih hj hk.1
theorem I0(l:List Cm){j k:Nat}(h:j<k)(hk:ko l k=true):jx (l.getD j .zero).d=true/\jx (l.getD j .zero).e=true:=by
 have h1:=Tp l (j:=j+1) (by omega) hk;rw[ko,aD,aD]at h1;exact h1.2
theorem L6(l:List Cm){k:Nat}(hk:ko l k=true)(h1:jx (l.getD k .zero).d=true)(h2:jx (l.getD k .zero).e=true):ko l (k+1)=true:=by
 rw[ko,hk,h1,h2];rfl
theorem Qr(l:List Cm){j k:Nat}(h:j<k)(hj:jx (l.getD j .zero).d=false\/jx (l.getD j .zero).e=false):ko l k=false:=by
 cases hk:ko l k with
 |false=>rfl
 |true=>
  obtain⟨h1,h2⟩:=I0 l h hk;rcases hj with hj|hj
  ·rw[h1]at hj;cases hj
  ·rw[h2]at hj;cases hj
theorem WX{t n:Int}{l:List Cm}(h:(l.length:Int)<t\/n<(l.length:Int)):rD t n l=7:=by unfold rD;rw[if_pos h]
theorem S4{t n:Int}{l:List Cm}(h:¬((l.length:Int)<t\/n<(l.length:Int)))(h2:fT n l l.length≠0):rD t n l=fT n l l.length:=by unfold rD;rw[if_neg h,if_pos h2]
theorem al5{t n:Int}{l:List Cm}(h:¬((l.length:Int)<t\/n<(l.length:Int)))(h2:fT n l l.length=0)(h3:ko l l.length=false):rD t n l=3:=by
 unfold rD;rw[if_neg h,if_neg (fun h'=>h' h2),if_neg (by rw[h3];simp)]
theorem al4{t n:Int}{l:List Cm}(h:¬((l.length:Int)<t\/n<(l.length:Int)))(h2:fT n l l.length=0)(h3:ko l l.length=true):rD t n l=0:=by
 unfold rD;rw[if_neg h,if_neg (fun h'=>h' h2),if_pos h3]
theorem xJ{t n:Int}{l:List Cm}(h:rD t n l=0):t<=(l.length:Int)/\(l.length:Int)<=n/\fT n l l.length=0/\ko l l.length=true:=by
 unfold rD at h;by_cases h1:(l.length:Int)<t\/n<(l.length:Int)
 ·rw[if_pos h1]at h;omega
 rw[if_neg h1]at h;by_cases h2:fT n l l.length≠0
 ·rw[if_pos h2]at h;exact absurd h h2
 rw[if_neg h2]at h;by_cases h3:ko l l.length=true
 ·exact⟨by omega,by omega,by omega,h3⟩
 ·rw[if_neg h3]at h;omega
def Good(n:Int)(l:List Cm):Prop:=∀k,k<l.length->(1<=(l.getD k .zero).id/\(l.getD k .zero).id<=n)/\(0<k->(l.getD (k-1) .zero).id<(l.getD k .zero).id)/\
 (0<(l.getD k .zero).d/\(l.getD k .zero).d<2147483579)/\(0<(l.getD k .zero).e/\(l.getD k .zero).e<2147483579)
theorem OO{x:Int}(h:jx x=true):0<x/\x<2147483579:=by
 unfold jx jO at h;rw[aD,decide_eq_true_iff]at h;exact⟨h.1.1,h.1.2.1⟩
theorem vB{t n:Int}{l:List Cm}(h:rD t n l=0):Good n l:=by
 obtain⟨_,_,h3,h4⟩:=xJ h;intro k hk;have h5:=Iy (Ga h3 hk);have h6:=I0 l hk h4;exact⟨⟨h5.1,h5.2.1⟩,h5.2.2,OO h6.1,OO h6.2⟩
def flat(l:List Cm):Nat->List Int
 |0=>[]
 |k+1=>flat l k++[(l.getD k .zero).id,(l.getD k .zero).d,(l.getD k .zero).e]
theorem J4(l:List Cm)(k:Nat):(flat l k).length=3*k:=by
 induction k with
 |zero=>rfl
 |succ k ih=>rw[flat,dG,ih];simp<;>omega
def fZ(l:List Cm)(key:Int)(k j:Nat):List Int:=[(l.getD k .zero).id,key]++flat l j
theorem kT(l:List Cm)(key:Int)(k j:Nat):(fZ l key k j).length=2+3*j:=by
 rw[fZ,dG,J4];simp
theorem wj(l:List Cm)(key:Int)(k j:Nat):fZ l key k (j+1)=fZ l key k j++[(l.getD j .zero).id,(l.getD j .zero).d,(l.getD j .zero).e]:=by
 rw[fZ,flat,fZ,List.append_assoc]
theorem Yx{n:Int}{l:List Cm}(hg:Good n l)(hn:n<=9)(j:Nat)(hj:j<=l.length):∀x∈flat l j,0<=x/\x<18446744073709551616:=by
 induction j with
 |zero=>intro x hx;cases hx
 |succ j ih=>
  intro x hx;have h:=hg j (by omega);rw[flat]at hx;rcases List.mem_append.1 hx with h1|h1
  ·exact ih (by omega) x h1
  ·simp only[aM,bA,or_false]at h1;rcases h1 with rfl|rfl|rfl
   ·omega
   ·omega
   ·omega
theorem zW{n:Int}{l:List Cm}(hg:Good n l)(hn:n<=9){key:Int}(hk:0<=key/\key<18446744073709551616){k:Nat}(h:k<l.length):
  ∀i,i<(fZ l key k l.length).length->0<=(fZ l key k l.length).getD i 0/\(fZ l key k l.length).getD i 0<18446744073709551616:=by
 intro i hi;have hm:(fZ l key k l.length).getD i 0∈fZ l key k l.length:=by
  rw[aC,aN hi];exact List.getElem_mem hi
 generalize(fZ l key k l.length).getD i 0=x at hm;rw[fZ]at hm;rcases List.mem_append.1 hm with h1|h1
 ·simp only[aM,bA,or_false]at h1;have:=hg k h
  rcases h1 with rfl|rfl
  ·omega
  ·exact hk
 ·exact Yx hg hn _ nle x h1
def mh(l:List Cm)(key:Int)(msg:ByteArray)(k:Nat):Int:=uH 1 msg (fZ l key k l.length)
theorem Dp(l:List Cm)(key:Int)(msg:ByteArray)(k:Nat):0<=mh l key msg k/\mh l key msg k<1073741789:=JV _ _ _
def mM(l:List Cm)(key:Int)(msg:ByteArray)(k:Nat):Int:=mY (l.getD k .zero).d (pw (l.getD k .zero).e (mh l key msg k).toNat 2147483579)
def mA(l:List Cm)(key:Int)(msg:ByteArray)(k:Nat):List Int:=(bq k).map (mM l key msg)
theorem pJ(l:List Cm)(key:Int)(msg:ByteArray)(k:Nat):(mA l key msg k).length=k:=by simp[mA]
theorem IL(l:List Cm)(key:Int)(msg:ByteArray)(k:Nat):mA l key msg (k+1)=mA l key msg k++[mM l key msg k]:=by simp[mA,List.range_succ]
theorem Qc(l:List Cm)(key:Int)(msg:ByteArray){k i:Nat}(h:i<k):(mA l key msg k).getD i 0=mM l key msg i:=by
 unfold mA;rw[aC,bZ,List.getElem?_range h];rfl
def G9(l:List Cm)(key:Int)(msg:ByteArray):Nat->Int
 |0=>1
 |k+1=>mY (G9 l key msg k) (mM l key msg k)
def iT(l:List Cm)(key:Int)(msg:ByteArray):Int:=oX 1 (mA l key msg l.length) l.length
theorem Rp(l:List Cm)(key:Int)(msg:ByteArray)(n k:Nat)(h:k<=n):oX 1 (mA l key msg n) k=G9 l key msg k:=by
 induction k with
 |zero=>rfl
 |succ k ih=>rw[oX,ih (by omega),Qc l key msg (by omega),G9]
theorem Ha(l:List Cm)(key:Int)(msg:ByteArray):iT l key msg=G9 l key msg l.length:=Rp _ _ _ _ _ nle
theorem Px(l:List Cm)(key:Int)(msg:ByteArray)(k:Nat):0<=G9 l key msg k/\G9 l key msg k<2147483579:=by
 cases k with
 |zero=>unfold G9;omega
 |succ k=>exact Bq _ _
def kM(l:List Cm)(k:Nat):List Int:=(bq k).map fun i=>(l.getD i .zero).id
theorem kD(l:List Cm)(k:Nat):(kM l k).length=k:=by simp[kM]
theorem CF(l:List Cm)(k:Nat):kM l (k+1)=kM l k++[(l.getD k .zero).id]:=by simp[kM,List.range_succ]
def Zt(d e b w s c:Int):Int:=kW (kW d (smul e b)) (smul (smul w s) c)
end mI
namespace Ew
open Go.RowKit Pl mJ nG mI uU Mem ng RB Lc
section
section
variable{P:au}(w:ae)
theorem F8(dT sT ty e:aj)(i:TypeInfo)(size:Nat)(hu:P.underlying dT=some (.slice e))(hi:P.info? e=some i)(hsz:i.size=size)
  (g n dc:Nat)(cur:Array af)(hg:ft w g e cur)(GG:cur.size=n*size)(B:Nat)(u:af)(xs:List af)(hr:Row w B size u n xs)(h1:∀u∈xs,u.oneCell'=true):
  (Builtin.copy_ #[dT,sT] ty #[.slice (some ⟨g,0,none⟩) n dc,u]).run P w=.ok (goInt n) (w.setRow g xs.toArray):=by
 obtain⟨hl,A,c,rfl,hc,hr⟩:=hr;subst hsz;rcases A with _|ad
 ·have hn:n=0:=by
   rcases Nat.eq_zero_or_pos n with h0|h0
   ·exact h0
   ·obtain⟨b,off,h,_⟩:=hr h0;cases h
  subst hn;have hxs:xs=[]:=List.eq_nil_of_length_eq_zero (by simpa using hl);subst hxs;have hce:cur=#[]:=Array.eq_empty_of_size_eq_zero (by simpa using GG);subst hce;have hs:=setRow_self w g #[] e (0,0) hg;simp[Builtin.copy_,run_underlying hu,Builtin.lenOf,di,sizeOf,typeInfo,hi,storeCells,hs]
 ·have hcells:∀j u,xs[j]?=some u->w.cell? (ad.add j)=some u:=by
   intro j u hju;rcases Nat.eq_zero_or_pos n with h0|h0
   ·subst h0;have hn:xs=[]:=List.eq_nil_of_length_eq_zero (by simpa using hl);subst hn;simp at hju
   ·obtain⟨b,off,h,_,hcell⟩:=hr h0;injection h with h
    subst h;rw[yz];exact hcell j u hju
  have hf:=run_firstCells_some (P:=P) w i.size n ad n c xs hl hcells;have hst:=run_storeCells_at P g 0 e xs 0 cur w hg (by rw[GG,hl];omega) h1;have e1:cur.toList.take (0+0)++xs++cur.toList.drop (0+0+xs.length)=xs:=by
   rw[List.drop_of_length_le (by rw[Array.length_toList,GG,hl];omega)];simp
  rw[e1]at hst;simp[Builtin.copy_,run_underlying hu,Builtin.lenOf,sizeOf,typeInfo,hi,hf,hst]
end
theorem MR{w:ae}{g:Nat}{t:aj}{cs:Array af}(h:ft w g t cs)(RR:Array af):ft (w.setRow g RR) g t RR:=setRow_heap w g cs RR t (0,0) h
structure Pk(w:ae)(p g:Nat)(vc lv:af)(t n:Int)(cs:List Int)(l:List Cm)(msg:ByteArray)(base:Nat):Prop where
 pk:ft w p 164 #[.pointer (some ⟨g,0,none⟩),lv,.string msg]
 iJ:lI w w.heap.size lv l
 kP:ib w g t n vc 0 0 cs 1
 own:ml w base vc cs
theorem Pk.later{w w':ae}{p g:Nat}{vc lv:af}{t n:Int}{cs:List Int}{l:List Cm}{msg:ByteArray}{base:Nat}(h:Pk w p g vc lv t n cs l msg base)(hb:Below w.heap.size w w'):Pk w' p g vc lv t n cs l msg base:=
 ⟨h.pk.below hb h.pk.lt,h.iJ.later hb,h.kP.below hb h.kP.lt,jc h.own hb nle⟩
theorem Pk.cells{w:ae}{p g:Nat}{vc lv:af}{t n:Int}{cs:List Int}{l:List Cm}{msg:ByteArray}{base:Nat}(h:Pk w p g vc lv t n cs l msg base):
  w.cell? ⟨p,0,none⟩=some (.pointer (some ⟨g,0,none⟩))/\w.cell? ⟨p,1,none⟩=some lv/\w.cell? ⟨p,2,none⟩=some (.string msg):=⟨h.pk.cell 0,h.pk.cell 1,h.pk.cell 2⟩
section
variable{w:ae}{p g:Nat}{vc lv:af}{t n:Int}{cs:List Int}{l:List Cm}{msg:ByteArray}{base:Nat}
theorem ZW(h:Pk w p g vc lv t n cs l msg base)(hl:l.length<=65536)(x:Int)(hx:x=if(l.length:Int)<t\/n<(l.length:Int)then 7 else 0):
  Calls dS 85 #[.pointer (some ⟨p,0,none⟩)] w fun e w'=>e=.returned (.int .i64 x)/\Below w.heap.size w w':=by
 obtain⟨p0,p1,p2⟩:=h.cells;obtain⟨g0,g1,g2,g3,g4⟩:=h.kP.cells;obtain⟨A,c,rfl⟩:=h.iJ.shape;have HX:=ay hx;clear hx h;by_cases h1:(l.length:Int)<t
 ·have hx2:Hid (x=7):=by
   show x=7;rw[HX.out,if_pos (.inl h1)]
  go_enter Try.func85,Try.ntmps85
  go_wp2_with fail
  go_quiet (fail)
  go_wp2_with fail
  go_ret
  exact⟨by rw[hx2.out];rfl,below_drewN bre _⟩
 by_cases h2:n<(l.length:Int)
 ·have hx2:Hid (x=7):=by
   show x=7;rw[HX.out,if_pos (.inr h2)]
  go_enter Try.func85,Try.ntmps85
  go_wp2_with fail
  go_quiet (fail)
  go_wp2_with fail
  go_ret
  exact⟨by rw[hx2.out];rfl,below_drewN bre _⟩
 have hx2:Hid (x=0):=by
  show x=0;rw[HX.out,if_neg (by omega)]
 go_enter Try.func85,Try.ntmps85
 go_wp2_with fail
 go_quiet (fail)
 go_wp2_with fail
 go_ret
 exact⟨by rw[hx2.out];rfl,below_drewN bre _⟩
theorem WL(h:Pk w p g vc lv t n cs l msg base)(hl:l.length<=65536):
  Calls dS 86 #[.pointer (some ⟨p,0,none⟩)] w fun e w'=>e=.returned (.int .i64 (fT n l l.length))/\Below w.heap.size w w':=by
 obtain⟨A,c,rfl⟩:=h.iJ.shape;have H:=ay h;obtain⟨p0,p1,p2⟩:=h.cells;clear h;go_enter Try.func86,Try.ntmps86
 go_wp2_with fail
 go_loopw [10] (fun i wr=>∃k:Nat,k<=l.length/\i=.int .i64 k/\fT n l k=0/\Below w.heap.size w wr) (fun i _=>l.length-(intOf i).toNat)
 case atStart=>exact⟨0,by omega,rfl,rfl,Below.refl _ _⟩
 case round=>
  obtain⟨k,hk,rfl,he,fM⟩:=hrel;have HE:=ay he;clear he p0 p1 p2;by_cases hlt:k<l.length
  ·obtain⟨b,off,rfl,hb,hc⟩:=H.out.iJ.at_ (by omega);have HW:=H.out.later fM;obtain⟨q0,q1,q2⟩:=HW.cells;obtain⟨g0,g1,g2,g3,g4⟩:=HW.kP.cells;obtain⟨x0,x1,x2⟩:=hc k hlt;replace x0:=(fM.cell (p:=⟨b,off+k*3,none⟩) hb).trans x0;replace x1:=(fM.cell (p:=⟨b,off+k*3+1,none⟩) hb).trans x1;replace x2:=(fM.cell (p:=⟨b,off+k*3+2,none⟩) hb).trans x2;have hpr:0<k->wr.cell? ⟨b,off+(k-1)*3,none⟩=some (.int .i64 (l.getD (k-1) .zero).id):=fun h0=>(fM.cell (p:=⟨b,off+(k-1)*3,none⟩) hb).trans (hc (k-1) (by omega)).1;have hpl:=HW.pk.lt;have hgl:=HW.kP.lt;have hbl:b<wr.heap.size:=by have:=fM.size;omega
   have Q3:Hid (oo n l k=if(l.getD k .zero).id<1\/n<(l.getD k .zero).id then 5 else if 0<k/\(l.getD k .zero).id<=(l.getD (k-1) .zero).id then 6 else 0):=by
    show oo n l k=_;rfl
   have hfin:∀x,oo n l k=x->x≠0->Hid (fT n l l.length=x):=fun x hx hn=>LD n l hlt HE.out hx hn;have hstep:oo n l k=0->Hid (fT n l (k+1)=0):=fun hx=>F9 HE.out hx;have RY:=ay hfin;have STEP:=ay hstep;have JU:=eB wr (.cells #[.int .i64 (l.getD k .zero).id,.int .u64 (l.getD k .zero).d,.int .u64 (l.getD k .zero).e] 52);have hbb:=ay (fM.trans (JU.mono fM.size));clear hc hfin hstep HW fM JU;generalize(l.getD k .zero).id=X at*;generalize(l.getD k .zero).d=D at*;generalize(l.getD k .zero).e=E at*;generalize(l.getD (k-1) .zero).id=Y at*;by_cases d1:X<1;case pos=>
    have hF:=RY.out 5 (by rw[Q3.out,if_pos (.inl d1)]) (by omega);go_wp2_with fail
    go_quiet (fail)
    go_wp2_with fail
    go_ret
    exact⟨by rw[hF.out];rfl,below_drewN hbb.out _⟩
   by_cases d2:n<X;case pos=>
    have hF:=RY.out 5 (by rw[Q3.out,if_pos (.inr d2)]) (by omega);go_wp2_with fail
    go_quiet (fail)
    go_wp2_with fail
    go_ret
    exact⟨by rw[hF.out];rfl,below_drewN hbb.out _⟩
   have e2:oo n l k=if 0<k/\X<=Y then 6 else 0:=by rw[Q3.out,if_neg (by omega)]
   by_cases d3:0<k;case neg=>
    have d3':¬(0:Int)<(k:Int):=by omega
    have hS:=STEP.out (by rw[e2,if_neg (fun h=>d3 h.1)]);clear e2;go_wp2_with fail
    go_quiet (fail)
    go_wp2_with fail
    go_quiet (fail)
    go_wp2_with fail
    refine⟨⟨k+1,by omega,by go_num,hS.out,?_⟩,by simp[intOf]<;>omega⟩;first|exact below_drewN hbb.out _|exact below_drewN (below_drewN hbb.out _) _
   have d3':(0:Int)<(k:Int):=by omega
   have y0:=hpr d3;obtain⟨j,rfl⟩:∃j,k=j+1:=⟨k-1,by omega⟩;rw[Nat.add_sub_cancel]at y0;have s1:IntKind.i64.wrap (((j+1:Nat):Int)-1)=(j:Int):=by rw[cE];omega
   have s2:IntKind.i64.wrap ((j:Int)+1-1)=(j:Int):=by rw[cE];omega
   have s3:IntKind.i64.wrap (j:Int)=(j:Int):=by rw[cE];omega
   have s4:(j:Int)<(l.length:Int):=by omega
   have s5:(0:Int)<=(j:Int):=by omega
   clear hpr;by_cases d4:X<=Y;case pos=>
    have hF:=RY.out 6 (by rw[e2,if_pos ⟨d3,d4⟩]) (by omega);clear e2;go_wp2_with fail
    go_quiet (fail)
    go_wp2_with fail
    go_quiet (fail)
    go_wp2_with fail
    go_ret
    exact⟨by rw[hF.out];rfl,by first|exact below_drewN hbb.out _|exact below_drewN (below_drewN hbb.out _) _⟩
   have hS:=STEP.out (by rw[e2,if_neg (fun h=>d4 h.2)]);clear e2;go_wp2_with fail
   go_quiet (fail)
   go_wp2_with fail
   go_quiet (fail)
   go_wp2_with fail
   refine⟨⟨j+1+1,by omega,by go_num,hS.out,?_⟩,by simp[intOf]<;>omega⟩;first|exact below_drewN hbb.out _|exact below_drewN (below_drewN hbb.out _) _
  ·obtain rfl:k=l.length:=by omega
   go_wp2_with fail
   go_ret
   exact⟨by rw[HE.out];rfl,fM⟩
end
end
section
section
variable{w:ae}{p g:Nat}{vc lv:af}{t n:Int}{cs:List Int}{l:List Cm}{msg:ByteArray}{base:Nat}
theorem xO{D:Int}{b1 b2:Bool}(e1:jO D=b1)(e2:(D==1)=b2)(h:b1=false\/b2=true):jx D=false:=by
 unfold jx;rw[e1];rcases h with rfl|rfl
 ·rfl
 ·rw[beq_iff_eq]at e2;rw[e2];cases b1<;>rfl
theorem NV{D:Int}(e1:jO D=true)(e2:(D==1)=false):jx D=true:=by
 unfold jx;rw[beq_eq_false_iff_ne]at e2;rw[e1];simp[e2]
theorem Fp(h:Pk w p g vc lv t n cs l msg base)(hl:l.length<=65536)
  (hb:∀i,i<l.length->0<=(l.getD i .zero).d/\0<=(l.getD i .zero).e)(x:Int)(hx:x=if ko l l.length=true then 0 else 3):
  Calls dS 87 #[.pointer (some ⟨p,0,none⟩)] w fun e w'=>e=.returned (.int .i64 x)/\Below w.heap.size w w':=by
 obtain⟨A,c,rfl⟩:=h.iJ.shape;have H:=ay h;obtain⟨p0,p1,p2⟩:=h.cells;have HB:=ay hb;have HX:=ay hx;clear h hb hx;go_enter Try.func87,Try.ntmps87
 go_wp2_with fail
 go_loopw [14] (fun i wr=>∃k:Nat,k<=l.length/\i=.int .i64 k/\ko l k=true/\Below w.heap.size w wr) (fun i _=>l.length-(intOf i).toNat)
 case atStart=>exact⟨0,by omega,rfl,rfl,Below.refl _ _⟩
 case round=>
  obtain⟨k,hk,rfl,he,fM⟩:=hrel;have HE:=ay he;clear he p0 p1 p2;by_cases hlt:k<l.length
  ·obtain⟨b,off,rfl,hb,hc⟩:=H.out.iJ.at_ (by omega);obtain⟨x0,x1,x2⟩:=hc k hlt;replace x0:=(fM.cell (p:=⟨b,off+k*3,none⟩) hb).trans x0;replace x1:=(fM.cell (p:=⟨b,off+k*3+1,none⟩) hb).trans x1;replace x2:=(fM.cell (p:=⟨b,off+k*3+2,none⟩) hb).trans x2;obtain⟨bD,bE⟩:=HB.out k hlt;have hbad:(jx (l.getD k .zero).d=false\/jx (l.getD k .zero).e=false)->Hid (x=3):=fun h=>by
    show x=3;rw[HX.out,if_neg];rw[Qr l hlt h];simp
   have hstep:jx (l.getD k .zero).d=true->jx (l.getD k .zero).e=true->Hid (ko l (k+1)=true):=fun h1 h2=>L6 l HE.out h1 h2;have BAD:=ay hbad;have STEP:=ay hstep;have JU:=eB wr (.cells #[.int .i64 (l.getD k .zero).id,.int .u64 (l.getD k .zero).d,.int .u64 (l.getD k .zero).e] 52);have hbb:=ay (fM.trans (JU.mono fM.size));clear hc hbad hstep fM JU;generalize(l.getD k .zero).id=X at*;generalize(l.getD k .zero).d=D at*;generalize(l.getD k .zero).e=E at*;have i0':∀W,(Instr.index 73 (.agg #[.int .u64 D,.int .u64 E]) (.int .i64 0)).run dS W=.ok (.int .u64 D) W:=fun _=>by kernel_rfl
   have i1':∀W,(Instr.index 73 (.agg #[.int .u64 D,.int .u64 E]) (.int .i64 1)).run dS W=.ok (.int .u64 E) W:=fun _=>by kernel_rfl
   go_wp2_with fail
   go_loop [23] (fun i=>(i=.int .i64 0)\/(i=.int .i64 1/\Hid (jx D=true))\/(i=.int .i64 2/\Hid (jx D=true)/\Hid (jx E=true))) (fun i=>(2-intOf i).toNat)
   case atStart=>exact .inl rfl
   case round=>
    rcases hrel with rfl|⟨rfl,hD⟩|⟨rfl,hD,hEE⟩
    ·obtain⟨b1,e1⟩:∃b,jO D=b:=⟨_,rfl⟩;obtain⟨b2,e2⟩:∃b,(D==1)=b:=⟨_,rfl⟩;have E1:=ay e1;clear e1;cases b1;case false=>
      have hF:=BAD.out (.inl (xO E1.out e2 (.inl rfl)));cases b2;all_goals
       go_wp2_with (go_at_call 47;refine(mZ _ D _ bD E1.out).mono ?_;rintro e w' ⟨rfl,rfl⟩)
       go_ret
       exact⟨by rw[hF.out];rfl,hbb.out⟩
     cases b2;case true=>
      have hF:=BAD.out (.inl (xO E1.out e2 (.inr rfl)));go_wp2_with (go_at_call 47;refine(mZ _ D _ bD E1.out).mono ?_;rintro e w' ⟨rfl,rfl⟩)
      go_ret
      exact⟨by rw[hF.out];rfl,hbb.out⟩
     have HG:=ay (NV E1.out e2);go_wp2_with (go_at_call 47;refine(mZ _ D _ bD E1.out).mono ?_;rintro e w' ⟨rfl,rfl⟩)
     refine⟨.inr (.inl ⟨rfl,HG⟩),by simp[intOf]⟩
    ·obtain⟨b1,e1⟩:∃b,jO E=b:=⟨_,rfl⟩;obtain⟨b2,e2⟩:∃b,(E==1)=b:=⟨_,rfl⟩;have E1:=ay e1;clear e1;cases b1;case false=>
      have hF:=BAD.out (.inr (xO E1.out e2 (.inl rfl)));cases b2;all_goals
       go_wp2_with (go_at_call 47;refine(mZ _ E _ bE E1.out).mono ?_;rintro e w' ⟨rfl,rfl⟩)
       go_ret
       exact⟨by rw[hF.out];rfl,hbb.out⟩
     cases b2;case true=>
      have hF:=BAD.out (.inr (xO E1.out e2 (.inr rfl)));go_wp2_with (go_at_call 47;refine(mZ _ E _ bE E1.out).mono ?_;rintro e w' ⟨rfl,rfl⟩)
      go_ret
      exact⟨by rw[hF.out];rfl,hbb.out⟩
     have HG:=ay (NV E1.out e2);go_wp2_with (go_at_call 47;refine(mZ _ E _ bE E1.out).mono ?_;rintro e w' ⟨rfl,rfl⟩)
     refine⟨.inr (.inr ⟨rfl,hD,HG⟩),by simp[intOf]⟩
    ·have hS:=STEP.out hD.out hEE.out;go_wp2_with fail
     refine⟨⟨k+1,by omega,by go_num,hS.out,hbb.out⟩,by simp[intOf]<;>omega⟩
  ·obtain rfl:k=l.length:=by omega
   have hF:Hid (x=0):=by
    show x=0;rw[HX.out,if_pos HE.out]
   go_wp2_with fail
   go_ret
   exact⟨by rw[hF.out];rfl,fM⟩
theorem CB:(Try.prog.info? 52).map (fun i=>(i.zero,i.size,i.bytes))=some (some (.agg #[.int .i64 0,.int .u64 0,.int .u64 0]),3,24):=kr
def Y3(t n:Int)(cs:List Int)(l:List Cm)(msg:ByteArray)(g:Nat)(vc:af)(base:Nat)(w:ae)(e:Ending)(w':ae):Prop:=
 Below w.heap.size w w'/\
 ((rD t n l≠0/\e=.returned (.tuple #[.pointer none,.int .i64 (rD t n l)]))\/
  (rD t n l=0/\∃p lv,e=.returned (.tuple #[.pointer (some ⟨p,0,none⟩),.int .i64 0])/\Pk w' p g vc lv t n cs l msg base))
def VE(t n:Int)(cs:List Int)(l:List Cm)(msg:ByteArray)(g:Nat)(vc:af)(base:Nat)(w:ae)(e:Ending)(w':ae):Prop:=
 Below w.heap.size w w'/\
 ((rD t n l≠0/\e=.returned (.tuple #[.pointer none,.int .i64 (rD t n l)]))\/
  (rD t n l=0/\∃p lv,e=.returned (.tuple #[.pointer (some ⟨p,0,none⟩),.int .i64 0])/\Pk w' p g vc lv t n cs l msg base/\w.heap.size<=p/\∃lb,lv=.slice (some ⟨lb,0,none⟩) l.length l.length/\w.heap.size<=lb))
theorem MV{w w':ae}(h:w.grownBy w' none):Below w.heap.size w w':=⟨h.os,h.tape,h.output,h.size,fun k hk=>h.block k hk (by simp)⟩
theorem WY{w:ae}{base:Nat}{e:aj}{size g n:Nat}{xs:List af}(h:w.ownsRow base e size (.slice (some ⟨g,0,none⟩) n n) n xs):∃cur,ft w g e cur/\cur.size=n*size:=by
 rcases h.2 with⟨h,_⟩|⟨g',cap',cur,h,hb,hh,hnc,hcm,hcs,htake⟩
 ·simp at h
 ·simp only[Value.slice.injEq,Option.some.injEq,Addr.mk.injEq,and_true,true_and]at h;obtain⟨rfl,rfl⟩:=h;exact⟨cur,hh,hcs⟩
theorem copied{w w1:ae}{g:Nat}{cur:Array af}(hb:ft w1 g 52 cur)(hl:l.length<=65536)(fM:Below w.heap.size w w1)(hg:w.heap.size<=g):
  (w1.setRow g (eX l).toArray).ownsRow w.heap.size 52 3 (.slice (some ⟨g,0,none⟩) l.length l.length) l.length (eX l)/\Below w.heap.size w (w1.setRow g (eX l).toArray):=by
 refine⟨⟨gg l,.inr ⟨g,l.length,_,rfl,hg,MR hb _,aH _,by unfold maxLen;omega,by simp[gg],?_⟩⟩,?_⟩
 ·show(eX l).take (l.length*3)=eX l;rw[<-gg l,List.take_length]
 ·exact fM.trans ⟨rfl,rfl,rfl,by simp[World.setRow],fun k hk=>setRow_other w1 g k _ (by omega)⟩
theorem NG(hG:ib w g t n vc 0 0 cs 1)(hO:ml w base vc cs)(hC:lI w w.heap.size lv l)(hl:l.length<=65536)
  (hb:∀i,i<l.length->0<=(l.getD i .zero).d/\0<=(l.getD i .zero).e):
  Calls dS 56 #[.pointer (some ⟨g,0,none⟩),.string msg,lv] w (VE t n cs l msg g vc base w):=by
 obtain⟨A,c,rfl⟩:=hC.shape;have HG:=ay hG;have HO:=ay hO;have HC:=ay hC;have HB:=ay hb;obtain⟨i0,hi,hz0,hz1,hz2⟩:=info_parts CB;clear hG hO hC hb;go_enter Try.func56,Try.ntmps56
 go_wp2_with (first|(refine wpList_make_full _ rfl _ _ 26 rfl w.heap.size 52 i0 (.agg #[.int .i64 0,.int .u64 0,.int .u64 0]) 3 Try.underlying26 hi hz0 hz1 .i64 .i64 _ _ l.length rfl rfl (by go_simp) (by go_simp) (by rw[hz2];omega) (by unfold maxLen;omega) nle ?_;intro w1 hown1 Uk;obtain⟨cur,GG,hcs⟩:=WY hown1;have hbn:=MV Uk;have aZ6:=HC.out.later hbn;have bO7:=F8 (P:=dS) w1 26 26 3 52 i0 3 Try.underlying26 hi hz1 w.heap.size l.length l.length cur GG hcs w1.heap.size (.slice A l.length c) (eX l) aZ6 (Gi l);obtain⟨hown2,lf⟩:=copied (l:=l) GG hl hbn nle;clear aZ6;generalize w1.setRow w.heap.size (eX l).toArray=w2 at*))
 have aW1:ft (w2.alloc (.cells #[.pointer (some ⟨g,0,none⟩),.slice (some ⟨w.heap.size,0,none⟩) l.length l.length,.string msg] 164)) w2.heap.size 164 #[.pointer (some ⟨g,0,none⟩),.slice (some ⟨w.heap.size,0,none⟩) l.length l.length,.string msg]:=ft.new _ _ _;have a07:Pk (w2.alloc (.cells #[.pointer (some ⟨g,0,none⟩),.slice (some ⟨w.heap.size,0,none⟩) l.length l.length,.string msg] 164)) w2.heap.size g vc (.slice (some ⟨w.heap.size,0,none⟩) l.length l.length) t n cs l msg base:=
  have Hv:=eB w2 (.cells #[.pointer (some ⟨g,0,none⟩),.slice (some ⟨w.heap.size,0,none⟩) l.length l.length,.string msg] 164)
  ⟨aW1,(lI.own hown2).later Hv,(HG.out.below lf HG.out.lt).below Hv (by have:=HG.out.lt;have:=lf.size;omega),jc (jc HO.out lf nle) Hv nle⟩
 have a06:=a07.later (eB _ (.cells #[.func (.func 85) #[] #[],.func (.func 86) #[] #[],.func (.func 87) #[] #[]] 168));have HPK:=ay a06;have Uq:=ay ((lf.alloc lf.size (.cells #[.pointer (some ⟨g,0,none⟩),.slice (some ⟨w.heap.size,0,none⟩) l.length l.length,.string msg] 164)).alloc (by have:=lf.size;simp<;>omega) (.cells #[.func (.func 85) #[] #[],.func (.func 86) #[] #[],.func (.func 87) #[] #[]] 168));have hqb:=ay (jG (w:=(w2.alloc (.cells #[.pointer (some ⟨g,0,none⟩),.slice (some ⟨w.heap.size,0,none⟩) l.length l.length,.string msg] 164))) (g:=w2.heap.size+1) 168 #[.func (.func 85) #[] #[],.func (.func 86) #[] #[],.func (.func 87) #[] #[]] (by simp));have HSZ:=ay lf.size;clear aW1 a07 a06 hown2 lf hown1 Uk GG hcs hbn;go_loopw [26] (fun i wr=>(i=.int .i64 0\/(i=.int .i64 1/\¬((l.length:Int)<t\/n<(l.length:Int)))\/(i=.int .i64 2/\¬((l.length:Int)<t\/n<(l.length:Int))/\fT n l l.length=0)\/(i=.int .i64 3/\rD t n l=0))/\
  Pk wr w2.heap.size g vc (.slice (some ⟨w.heap.size,0,none⟩) l.length l.length) t n cs l msg base/\ft wr (w2.heap.size+1) 168 #[.func (.func 85) #[] #[],.func (.func 86) #[] #[],.func (.func 87) #[] #[]]/\Below w.heap.size w wr) (fun i _=>(3-intOf i).toNat)
 case atStart=>exact⟨.inl rfl,HPK.out,hqb.out,Uq.out⟩
 case round=>
  obtain⟨hph,hPk,hq,fM⟩:=hrel;have q0:wr.cell? ⟨w2.heap.size+1,0,none⟩=some (.func (.func 85) #[] #[]):=hq.cell 0;have q1:wr.cell? ⟨w2.heap.size+1,1,none⟩=some (.func (.func 86) #[] #[]):=hq.cell 1;have q2:wr.cell? ⟨w2.heap.size+1,2,none⟩=some (.func (.func 87) #[] #[]):=hq.cell 2;have HP:=ay hPk;clear hPk HPK;rcases hph with rfl|⟨rfl,vO⟩|⟨rfl,vO,hris⟩|⟨rfl,h0⟩
  ·by_cases vO:(l.length:Int)<t\/n<(l.length:Int)
   ·have hE:=ay (WX vO);have hm:=ay (ZW HP.out hl 7 (by rw[if_pos vO]));clear vO;go_wp2_with fail
    refine hm.out.mono ?_;rintro e w5 ⟨rfl,xp⟩;go_wp2_with fail
    go_ret2
    exact⟨fM.trans (xp.mono fM.size),.inl ⟨by rw[hE.out];omega,by rw[hE.out];rfl⟩⟩
   ·have hm:=ay (ZW HP.out hl 0 (by rw[if_neg vO]));have aE9:=ay vO;clear vO;go_wp2_with fail
    refine hm.out.mono ?_;rintro e w5 ⟨rfl,xp⟩;go_wp2_with fail
    exact⟨⟨.inr (.inl ⟨rfl,aE9.out⟩),HP.out.later xp,hq.below xp hq.lt,fM.trans (xp.mono fM.size)⟩,by simp[intOf]⟩
  ·have aE9:=ay vO;have hm:=ay (WL HP.out hl);by_cases hr:fT n l l.length=0
   ·rw[hr]at hm;have HR:=ay hr;clear vO hr;go_wp2_with fail
    refine hm.out.mono ?_;rintro e w5 ⟨rfl,xp⟩;go_wp2_with fail
    exact⟨⟨.inr (.inr (.inl ⟨rfl,aE9.out,HR.out⟩)),HP.out.later xp,hq.below xp hq.lt,fM.trans (xp.mono fM.size)⟩,by simp[intOf]⟩
   ·have hE:=ay (S4 vO hr);have HNZ:=ay hr;have hne:(fT n l l.length != 0)=true:=by rw[bne_iff_ne];exact hr
    generalize fT n l l.length=x at*;clear vO hr;go_wp2_with fail
    refine hm.out.mono ?_;rintro e w5 ⟨rfl,xp⟩;go_wp2_with fail
    go_ret2
    exact⟨fM.trans (xp.mono fM.size),.inl ⟨by rw[hE.out];exact HNZ.out,by rw[hE.out];rfl⟩⟩
  ·by_cases hn:ko l l.length=true
   ·have hE:=ay (al4 vO hris hn);have hm:=ay (Fp HP.out hl HB.out 0 (by rw[if_pos hn]));clear vO hris hn;go_wp2_with fail
    refine hm.out.mono ?_;rintro e w5 ⟨rfl,xp⟩;go_wp2_with fail
    exact⟨⟨.inr (.inr (.inr ⟨rfl,hE.out⟩)),HP.out.later xp,hq.below xp hq.lt,fM.trans (xp.mono fM.size)⟩,by simp[intOf]⟩
   ·have hE:=ay (al5 vO hris (by simpa using hn));have hm:=ay (Fp HP.out hl HB.out 3 (by rw[if_neg hn]));clear vO hris hn;go_wp2_with fail
    refine hm.out.mono ?_;rintro e w5 ⟨rfl,xp⟩;go_wp2_with fail
    go_ret2
    exact⟨fM.trans (xp.mono fM.size),.inl ⟨by rw[hE.out];omega,by rw[hE.out];rfl⟩⟩
  ·have H0:=ay h0;clear h0;go_wp2_with fail
   go_ret2
   exact⟨fM,.inr ⟨H0.out,_,_,rfl,HP.out,HSZ.out,_,rfl,aH _⟩⟩
theorem al3(hG:ib w g t n vc 0 0 cs 1)(hO:ml w base vc cs)(hC:lI w w.heap.size lv l)(hl:l.length<=65536)
  (hb:∀i,i<l.length->0<=(l.getD i .zero).d/\0<=(l.getD i .zero).e):
  Calls dS 56 #[.pointer (some ⟨g,0,none⟩),.string msg,lv] w (Y3 t n cs l msg g vc base w):=
 (NG hG hO hC hl hb).mono fun _ _ ⟨h1,h2⟩=>⟨h1,h2.imp id fun⟨a,p,lv,b,c,_⟩=>⟨a,p,lv,b,c⟩⟩
end
end
end Ew
namespace Ew
open Go.RowKit Pl mJ nG mI uU Mem ng KM Hsh RB Lc
section
variable{w:ae}{p g:Nat}{vc lv:af}{t n:Int}{cs:List Int}{l:List Cm}{msg:ByteArray}{base:Nat}
theorem aS9(h:Pk w p g vc lv t n cs l msg base):
  Calls dS 57 #[.pointer (some ⟨p,0,none⟩)] w fun e w'=>e=.returned (.int .i64 l.length)/\w=w':=by
 obtain⟨p0,p1,p2⟩:=h.cells;obtain⟨A,c,rfl⟩:=h.iJ.shape;clear h;go_enter Try.func57,Try.ntmps57
 go_wp2_with fail
 go_ret
 exact⟨rfl,rfl⟩
theorem au7(hG:ib w g t n vc 0 0 cs 1)(hO:ml w base vc cs)(hl:0<cs.length):
  Calls dS 60 #[.pointer (some ⟨g,0,none⟩)] w fun e w'=>e=.returned (.int .u64 (cs.getD 0 0))/\w=w':=by
 obtain⟨g0,g1,g2,g3,g4⟩:=hG.cells;obtain⟨gc,cap,rfl,-,-,hc,-⟩:=hO.form hl;have hc0:=hc 0 hl;have hl':(0:Int)<(cs.length:Int):=by omega
 clear hG hO hc;generalize cs.getD 0 0=X at*;go_enter Try.func60,Try.ntmps60
 go_wp2_with fail
 go_ret
 exact⟨rfl,rfl⟩
theorem Fa:(Try.prog.info? 40).map (fun i=>(i.zero,i.size,i.bytes))=some (some (.int .u64 0),1,8):=kr
theorem ae4(h:Pk w p g vc lv t n cs l msg base)(hgd:mI.Good n l)(hn:n<=9)(Ad:l.length<=9)(hcl:0<cs.length)(hc0:0<=cs.getD 0 0/\cs.getD 0 0<18446744073709551616)(CM:msg.size<=1000000){k:Nat}(hk:k<l.length):
  Calls dS 84 #[.pointer (some ⟨p,0,none⟩),.int .i64 k] w fun e w'=>e=.returned (.int .u64 (mh l (cs.getD 0 0) msg k))/\Below w.heap.size w w':=by
 obtain⟨p0,p1,p2⟩:=h.cells;obtain⟨A,c,rfl⟩:=h.iJ.shape;obtain⟨b,off,rfl,hb,hc⟩:=h.iJ.at_ (by omega);obtain⟨x0,x1,x2⟩:=hc k hk;have hp:=h.pk.lt;have hgk:=hgd k hk;have H:=ay h;have HC:=ay hc;have HG:=ay hgd;have HBD:=ay (zW hgd hn hc0 hk);have hnm:Hid (fZ l (cs.getD 0 0) k 0=[(l.getD k .zero).id,cs.getD 0 0]):=by
  show _=_;simp[fZ,flat]
 have wX:IntKind.u64.wrap (l.getD k .zero).id=(l.getD k .zero).id:=ny (by omega) (by omega);have k1:(0:Int)<=(k:Int):=by omega
 have k2:(k:Int)<(l.length:Int):=by omega
 obtain⟨i0,hi,hz0,hz1,hz2⟩:=info_parts Fa;have hbP:Hid (mh l (cs.getD 0 0) msg k=uH 1 msg (fZ l (cs.getD 0 0) k l.length)):=by
  show mh l (cs.getD 0 0) msg k=_;rfl
 have hkc:=ay (au7 (w:=w.drew) (show ib w.drew g t n vc 0 0 cs 1 from h.kP) (show ml w.drew base vc cs from h.own) hcl);clear h hc hgd hgk hc0 x1 x2;generalize(l.getD k .zero).id=X at*;generalize cs.getD 0 0=K at*;go_enter Try.func84,Try.ntmps84
 go_wp2_with fail
 go_region_held3 (fun w'=>(w'.cell? ⟨p,0,none⟩=some (.pointer (some ⟨g,0,none⟩))/\w'.cell? ⟨p,1,none⟩=some (.slice (some ⟨b,off,none⟩) l.length c))/\w'.cell? ⟨b,off+k*3,none⟩=some (.int .i64 X)) (go_keep)
  (first|(go_at_call 60;refine hkc.out.mono ?_;rintro e w' ⟨rfl,rfl⟩))
 all_goals
  have hown0:((w.alloc (.cells #[.int .u64 X,.int .u64 K] 40)).drew).ownsRow w.heap.size 40 1 (.slice (some ⟨w.heap.size,0,none⟩) 2 2) (2+3*0) ((fZ l K k 0).map (bU .u64)):=by
   rw[hnm.out];exact World.ownsRow_lit w #[.int .u64 X,.int .u64 K] 2 nle (by unfold maxLen;omega) rfl
  have Ek:Below w.heap.size w (w.alloc (.cells #[.int .u64 X,.int .u64 K] 40)).drew:=(eB _ _).drew;generalize(w.alloc (.cells #[.int .u64 X,.int .u64 K] 40)).drew=w1 at*;have VG:=ay (H.out.later Ek);obtain⟨r0,r1,r2⟩:=VG.out.cells;have HO0:=ay hown0;have HB0:=ay Ek;clear hown0 Ek p0 p1 p2;go_wp2_with fail
  go_loopw [5,28] (fun v i wr=>∃j:Nat,j<=l.length/\i=.int .i64 j/\wr.ownsRow w.heap.size 40 1 v (2+3*j) ((fZ l K k j).map (bU .u64))/\Below w.heap.size w wr) (fun _ i _=>l.length-(intOf i).toNat)
  case atStart=>exact⟨0,by omega,rfl,HO0.out,HB0.out⟩
  case round=>
   obtain⟨j,hj,rfl,hown,fM⟩:=hrel;have HO:=ay hown;clear hown r0 r1 r2;by_cases hlt:j<l.length
   ·obtain⟨y0,y1,y2⟩:=HC.out j hlt;replace y0:=(fM.cell (p:=⟨b,off+j*3,none⟩) hb).trans y0;replace y1:=(fM.cell (p:=⟨b,off+j*3+1,none⟩) hb).trans y1;replace y2:=(fM.cell (p:=⟨b,off+j*3+2,none⟩) hb).trans y2;have hgj:=HG.out j hlt;have wY:IntKind.u64.wrap (l.getD j .zero).id=(l.getD j .zero).id:=ny (by omega) (by omega);have hst:=ay (wj l K k j);have hlen:wr.heap.size<(wr.alloc (.cells #[.int .i64 (l.getD j .zero).id,.int .u64 (l.getD j .zero).d,.int .u64 (l.getD j .zero).e] 52)).heap.size:=by simp
    obtain⟨⟨gj1,gj2⟩,-⟩:=hgj;generalize(l.getD j .zero).id=Y at*;generalize(l.getD j .zero).d=D at*;generalize(l.getD j .zero).e=E at*;go_wp2_with (at_builtin;refine wpList_append_own _ rfl (.tmp 32) (.tmp 40) _ rfl w.heap.size 40 i0 (.int .u64 0) 1 8 Try.underlying29 hi hz0 hz1 hz2 rfl (by decide) _ _ _ rfl ((HO.out.alloc _).alloc _) ⟨wr.heap.size+1,0,none⟩ 3 3 [.int .u64 Y,.int .u64 D,.int .u64 E] rfl rfl (World.news_of_block (jG _ _ (by simp))) (by simp[cw]) (by unfold maxLen;omega) (by omega) (by have:=fM.size;simp<;>omega) ?_;intro v1 w2 hown1 hgrow1 _)
    have lf:=(((fM.alloc fM.size (.cells #[.int .i64 Y,.int .u64 D,.int .u64 E] 52)).alloc (by have:=fM.size;simp<;>omega) (.cells #[.int .u64 Y,.int .u64 D,.int .u64 E] 40)).grown hgrow1 (by have:=fM.size;simp<;>omega) fun k hk=>(((HO.out.alloc (.cells #[.int .i64 Y,.int .u64 D,.int .u64 E] 52)).alloc (.cells #[.int .u64 Y,.int .u64 D,.int .u64 E] 40)).lt k hk).1);refine⟨⟨j+1,by omega,by go_num,by rw[hst.out,cB,show 2+3*(j+1)=2+3*j+3 by omega];exact hown1,lf⟩,by simp[intOf]<;>omega⟩
   ·obtain rfl:j=l.length:=by omega
    have HPf:=ay (H.out.later fM);obtain⟨r0,r1,r2⟩:=HPf.out.cells;have OU:=fW.own (l:=fZ l K k l.length) (by rw[kT];exact HO.out);have hh:=ay (Us 1 msg (fZ l K k l.length) _ wr OU (by rw[kT];omega) CM (by omega) (by omega) HBD.out);obtain⟨A5,c5,rfl⟩:=kz HO.out;rw[<-hbP.out]at hh;clear OU;go_wp2_with fail
    refine hh.out.mono ?_;rintro e w' ⟨rfl,x,rfl⟩;go_wp2_with fail
    go_ret
    exact⟨rfl,fM.alloc fM.size _⟩
theorem aO4(h:Pk w p g vc lv t n cs l msg base)(hgd:mI.Good n l)(hn:n<=9)(Ad:l.length<=9)(hcl:0<cs.length)(hc0:0<=cs.getD 0 0/\cs.getD 0 0<18446744073709551616)(CM:msg.size<=1000000){k:Nat}(hk:k<l.length):
  Calls dS 64 #[.pointer (some ⟨p,0,none⟩),.int .i64 k] w fun e w'=>e=.returned (.int .u64 (mM l (cs.getD 0 0) msg k))/\Below w.heap.size w w':=by
 obtain⟨p0,p1,p2⟩:=h.cells;obtain⟨A,c,rfl⟩:=h.iJ.shape;obtain⟨b,off,rfl,hb,hc⟩:=h.iJ.at_ (by omega);obtain⟨x0,x1,x2⟩:=hc k hk;obtain⟨-,-,⟨d0,d1⟩,e0,e1⟩:=hgd k hk;have hP:Hid (mM l (cs.getD 0 0) msg k=mY (l.getD k .zero).d (pw (l.getD k .zero).e (mh l (cs.getD 0 0) msg k).toNat 2147483579)):=by
  show mM l (cs.getD 0 0) msg k=_;rfl
 have Hv:=eB w (.cells #[.int .i64 (l.getD k .zero).id,.int .u64 (l.getD k .zero).d,.int .u64 (l.getD k .zero).e] 52);have hbi:=ay (ae4 (h.later Hv.drew) hgd hn Ad hcl hc0 CM hk);have hbb:=Dp l (cs.getD 0 0) msg k;have k1:(0:Int)<=(k:Int):=by omega
 have k2:(k:Int)<(l.length:Int):=by omega
 have tH:=ay Hv;obtain⟨bb0,bb1⟩:=hbb;have b0:(w.alloc (.cells #[.int .i64 (l.getD k .zero).id,.int .u64 (l.getD k .zero).d,.int .u64 (l.getD k .zero).e] 52)).cell? ⟨w.heap.size,1,none⟩=some (.int .u64 (l.getD k .zero).d):=by simp
 have b1:(w.alloc (.cells #[.int .i64 (l.getD k .zero).id,.int .u64 (l.getD k .zero).d,.int .u64 (l.getD k .zero).e] 52)).cell? ⟨w.heap.size,2,none⟩=some (.int .u64 (l.getD k .zero).e):=by simp
 have hsz:w.heap.size<(w.alloc (.cells #[.int .i64 (l.getD k .zero).id,.int .u64 (l.getD k .zero).d,.int .u64 (l.getD k .zero).e] 52)).heap.size:=by simp
 clear h hc hgd hc0 Hv;generalize(l.getD k .zero).id=X at*;generalize(l.getD k .zero).d=D at*;generalize(l.getD k .zero).e=E at*;generalize mh l (cs.getD 0 0) msg k=Bd at*;generalize mM l (cs.getD 0 0) msg k=R at*;go_enter Try.func64,Try.ntmps64
 go_wp2_with fail
 generalize w.alloc (.cells #[.int .i64 X,.int .u64 D,.int .u64 E] 52)=wb at*;go_region_held3 (fun w'=>w'.cell? ⟨w.heap.size,1,none⟩=some (.int .u64 D)/\w'.cell? ⟨w.heap.size,2,none⟩=some (.int .u64 E))
  (first|go_keep|(exact⟨(hb1.cell (p:=⟨w.heap.size,1,none⟩) hsz).trans b0,(hb1.cell (p:=⟨w.heap.size,2,none⟩) hsz).trans b1⟩))
  (first|(go_at_call 84;refine hbi.out.mono ?_;rintro e w1 ⟨rfl,hb1⟩)|(go_at_call 68;refine(yM E Bd _ (by omega) e1 bb0 (by omega)).mono ?_;rintro e w' ⟨rfl,rfl⟩)|(go_at_call 65;refine(qJ _ _ _).mono ?_;rintro e w' ⟨rfl,rfl⟩))
 all_goals
  go_wp2_with fail
  go_ret
  exact⟨by rw[hP.out];rfl,tH.out.trans ((bre.drew).trans (hb1.mono (Nat.le_of_lt hsz)))⟩
theorem T7:(Try.prog.info? 79).map (fun i=>(i.zero,i.size,i.bytes))=some (some (.int .u64 0),1,8):=kr
theorem Fb:(Try.prog.info? 3).map (fun i=>(i.zero,i.size,i.bytes))=some (some (.int .i64 0),1,8):=kr
theorem a97(h:Pk w p g vc lv t n cs l msg base)(hgd:mI.Good n l)(hn:n<=9)(Ad:l.length<=9)(hcl:0<cs.length)(hc0:0<=cs.getD 0 0/\cs.getD 0 0<18446744073709551616)(CM:msg.size<=1000000)
  (r x:Int)(hx:(iT l (cs.getD 0 0) msg=1/\r=0/\x=11)\/(iT l (cs.getD 0 0) msg≠1/\r=iT l (cs.getD 0 0) msg/\x=0)):
  Calls dS 58 #[.pointer (some ⟨p,0,none⟩)] w fun e w'=>e=.returned (.tuple #[.int .u64 r,.int .i64 x])/\Below w.heap.size w w':=by
 obtain⟨p0,p1,p2⟩:=h.cells;obtain⟨A,c,rfl⟩:=h.iJ.shape;have H:=ay h;have HG:=ay hgd;have HC0:=ay hc0;have HX:=ay hx;obtain⟨i0,hi,hz0,hz1,hz2⟩:=info_parts T7;clear h hgd hc0 hx;have hAP:Hid (iT l (cs.getD 0 0) msg=oX 1 (mA l (cs.getD 0 0) msg l.length) l.length):=by
  show iT l (cs.getD 0 0) msg=_;rfl
 go_enter Try.func58,Try.ntmps58
 go_wp2_with fail
 go_loopw [4,12] (fun v i wr=>∃k:Nat,k<=l.length/\i=.int .i64 k/\wr.ownsRow w.heap.size 79 1 v k ((mA l (cs.getD 0 0) msg k).map (bU .u64))/\Below w.heap.size w wr) (fun _ i _=>l.length-(intOf i).toNat)
 case atStart=>exact⟨0,by omega,rfl,cy _ _ _ _,Below.refl _ _⟩
 case round=>
  obtain⟨k,hk,rfl,hown,fM⟩:=hrel;have HO:=ay hown;clear hown p0 p1 p2;by_cases hlt:k<l.length
  ·have hpt:=ay (aO4 (H.out.later fM) HG.out hn Ad hcl HC0.out CM hlt);have hst:=ay (IL l (cs.getD 0 0) msg k);generalize mM l (cs.getD 0 0) msg k=R at*;go_wp2_with (first|(go_at_call 64;refine hpt.out.mono ?_;rintro e w2 ⟨rfl,hb2⟩;have hown2:=jc HO.out hb2 nle;have lf:=fM.trans (hb2.mono fM.size))|(at_builtin;refine wpList_append_own _ rfl (.tmp 15) (.tmp 19) _ rfl w.heap.size 79 i0 (.int .u64 0) 1 8 Try.underlying126 hi hz0 hz1 hz2 rfl (by decide) _ _ _ rfl (hown2.alloc _) ⟨w2.heap.size,0,none⟩ 1 1 [.int .u64 R] rfl rfl (cell_one_new _ _ _) (by simp[cw]) (by unfold maxLen;omega) (by omega) (by have:=lf.size;simp<;>omega) ?_;intro v3 w3 JL CO _))
   refine⟨⟨k+1,by omega,by go_num,by rw[hst.out,cB];exact JL,jk lf hown2 lf.size CO⟩,by simp[intOf]<;>omega⟩
  ·obtain rfl:k=l.length:=by omega
   have OU:=fW.own (l:=mA l (cs.getD 0 0) msg l.length) (by rw[pJ];exact HO.out);obtain⟨A5,c5,rfl⟩:=kz HO.out;have hfo:=a60 1 (mA l (cs.getD 0 0) msg l.length) _ wr OU (by rw[pJ];omega);rw[pJ,<-hAP.out]at hfo;have HF:=ay hfo;clear OU hfo;generalize iT l (cs.getD 0 0) msg=R at*;rcases HX.out with⟨hr1,hr2,hr3⟩|⟨hr1,hr2,hr3⟩
   ·have t1:(R==1)=true:=by rw[beq_iff_eq];exact hr1
    subst hr2 hr3;clear hr1;go_wp2_with fail
    refine HF.out.mono ?_;rintro e w' ⟨rfl,rfl⟩;go_wp2_with fail
    go_ret2
    exact⟨rfl,fM⟩
   ·have t1:(R==1)=false:=by rw[beq_eq_false_iff_ne];exact hr1
    subst hr2 hr3;clear hr1;go_wp2_with fail
    refine HF.out.mono ?_;rintro e w' ⟨rfl,rfl⟩;go_wp2_with fail
    go_ret2
    exact⟨rfl,fM⟩
theorem LP(h:Pk w p g vc lv t n cs l msg base)(Ad:l.length<=9){k:Nat}(hk:k<l.length):
  Calls dS 70 #[.pointer (some ⟨p,0,none⟩),.int .i64 k] w fun e w'=>e=.returned (.int .u64 (iz (kM l l.length) k))/\Below w.heap.size w w':=by
 obtain⟨p0,p1,p2⟩:=h.cells;obtain⟨A,c,rfl⟩:=h.iJ.shape;obtain⟨b,off,rfl,hb,hc⟩:=h.iJ.at_ (by omega);have H:=ay h;have HC:=ay hc;obtain⟨i0,hi,hz0,hz1,hz2⟩:=info_parts Fb;clear h hc;go_enter Try.func70,Try.ntmps70
 go_wp2_with fail
 go_loopw [5,13] (fun v i wr=>∃j:Nat,j<=l.length/\i=.int .i64 j/\wr.ownsRow w.heap.size 3 1 v j ((kM l j).map (bU .i64))/\Below w.heap.size w wr) (fun _ i _=>l.length-(intOf i).toNat)
 case atStart=>exact⟨0,by omega,rfl,cy _ _ _ _,Below.refl _ _⟩
 case round=>
  obtain⟨j,hj,rfl,hown,fM⟩:=hrel;have HO:=ay hown;clear hown p0 p1 p2;by_cases hlt:j<l.length
  ·obtain⟨y0,y1,y2⟩:=HC.out j hlt;replace y0:=(fM.cell (p:=⟨b,off+j*3,none⟩) hb).trans y0;replace y1:=(fM.cell (p:=⟨b,off+j*3+1,none⟩) hb).trans y1;replace y2:=(fM.cell (p:=⟨b,off+j*3+2,none⟩) hb).trans y2;have hst:=ay (CF l j);generalize(l.getD j .zero).id=Y at*;generalize(l.getD j .zero).d=D at*;generalize(l.getD j .zero).e=E at*;go_wp2_with (at_builtin;refine wpList_append_own _ rfl (.tmp 17) (.tmp 20) _ rfl w.heap.size 3 i0 (.int .i64 0) 1 8 Try.underlying41 hi hz0 hz1 hz2 rfl (by decide) _ _ _ rfl ((HO.out.alloc _).alloc _) ⟨wr.heap.size+1,0,none⟩ 1 1 [.int .i64 Y] rfl rfl (World.news_of_block (jG _ _ (by simp))) (by simp[cw]) (by unfold maxLen;omega) (by omega) (by have:=fM.size;simp<;>omega) ?_;intro v1 w2 hown1 hgrow1 _)
   have lf:=(((fM.alloc fM.size (.cells #[.int .i64 Y,.int .u64 D,.int .u64 E] 52)).alloc (by have:=fM.size;simp<;>omega) (.cells #[.int .i64 Y] 3)).grown hgrow1 (by have:=fM.size;simp<;>omega) fun k hk=>(((HO.out.alloc (.cells #[.int .i64 Y,.int .u64 D,.int .u64 E] 52)).alloc (.cells #[.int .i64 Y] 3)).lt k hk).1);refine⟨⟨j+1,by omega,by go_num,by rw[hst.out,cB];exact hown1,lf⟩,by simp[intOf]<;>omega⟩
  ·obtain rfl:j=l.length:=by omega
   have OU:=fW.own (l:=kM l l.length) (by rw[kD];exact HO.out);obtain⟨A5,c5,rfl⟩:=kz HO.out;have hlg:=ay (Lc7 (kM l l.length) k _ wr OU (by rw[kD];omega) (by rw[kD];exact hk));clear OU;go_wp2_with fail
   refine hlg.out.mono ?_;rintro e w' ⟨rfl,nq,rfl⟩;go_wp2_with fail
   go_ret
   exact⟨rfl,below_drewN fM _⟩
end
end Ew
end Go.Proofs.Ytpfpokjaeffbjaa
