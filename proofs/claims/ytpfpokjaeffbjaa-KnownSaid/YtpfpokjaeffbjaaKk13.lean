/- Part of the proof: Map, SigPlain, SignPlain, KnFast, KnCheck, Combine, KnComb, KnPre, PackPlain, Pack, UnpackPlain, Unpack, KnBytes, KnBytes2, Signer. -/
import Derived.Test.YtpfpokjaeffbjaaKk0
import Derived.Test.YtpfpokjaeffbjaaKk6
import Derived.Test.YtpfpokjaeffbjaaRows
import Derived.Test.YtpfpokjaeffbjaaKk12
import Derived.Maps.Keyed
import Derived.DeepKeys4
import Derived.MapKept
import Derived.ChangeMaps5
import Derived.WideLaws
import Derived.WideMake
import Derived.WalkKit
import Derived.Laws.BytesArg
import Derived.Lib.JoinLaws
import Derived.Test.YtpfpokjaeffbjaaKk1
import Derived.StillTailTactics
import Derived.Deep.RegionHeld3
import Derived.Deep.DeepCutAuto
import Derived.Defers
import Derived.Deep.RegionLaw
set_option linter.unusedVariables false
set_option linter.unusedSimpArgs false
set_option maxRecDepth 100000
set_option maxHeartbeats 16000000
open Go.Proofs.Try renaming prog→dS
open Option renaming map_some→cI,getD_some→aJ
open List renaming getElem?_map→bZ,getElem?_eq_getElem→aN,mem_of_getElem?→b7,length_append→dG,map_append→cB,range→bq,getD_eq_getElem?_getD→aC
open Option.some renaming injEq→dD
open Nat renaming lt_or_ge→bw,le_refl→aH,zero_add→cZ
open Go.Value renaming int→bU,oneCell'→cw
open Go.IntKind renaming wrap_i64→cE
open Go.RowKit.Below renaming heap_setCell→ck
namespace Go.Proofs.Ytpfpokjaeffbjaa
open Go renaming World→ae,Value→af,Goroutine→ah,Frame→ai,TypeId→aj,FuncId→ak,Program→au,undef→av,execOp→ax
open Go.Lib renaming hid→ay
namespace Ey
open Go.RowKit Go.Maps Pl Mem Odr
def nB(c:Cm):af:=.agg #[.int .i64 c.id,.int .u64 c.d,.int .u64 c.e]
def DL(q:Int×Int):af:=.agg #[.int .u64 q.1,.int .u64 q.2]
def jr(id:Int)(q:Int×Int):Cm:=⟨id,pw 4 q.1.toNat 2147483579,pw 4 q.2.toNat 2147483579⟩
theorem TY{a b:Cm}(h:nB a=nB b):a=b:=by
 obtain⟨a1,a2,a3⟩:=a;obtain⟨b1,b2,b3⟩:=b;simp only[nB]at h;simp at h;obtain⟨rfl,rfl,rfl⟩:=h;rfl
theorem laidOut:laidOutB dS=true:=kr
theorem keyed:Keyed dS 52:=
 Keyed.of_law (deep_law_laid laidOut (m:=2) (by omega) (of_decide_eq_true kr) kr (by rw[Try.underlying52]))
theorem FA:Try.prog.cellsOf 52=3:=kr
def Fits(c:Cm):Prop:=(-9223372036854775808<=c.id/\c.id<=9223372036854775807)/\(0<=c.d/\c.d<18446744073709551616)/\(0<=c.e/\c.e<18446744073709551616)
theorem yY{c:Cm}(h:Fits c):∃lk,keyOf dS 52 (nB c)=some lk:=by
 obtain⟨⟨h1,h2⟩,⟨h3,h4⟩,h5,h6⟩:=h;have hk:Try.prog.keyType 52=true:=kr
 have hf:(nB c).formed dS 52=true:=by simp[nB,Value.formed,Try.underlying52,FA]
 have w1:(Lit.int .i64 c.id).wf=true:=WalkArith.wf_i64 ⟨h1,h2⟩;have w2:(Lit.int .u64 c.d).wf=true:=WalkArith.wf_u64 ⟨h3,by omega⟩;have w3:(Lit.int .u64 c.e).wf=true:=WalkArith.wf_u64 ⟨h5,by omega⟩;have k1:Try.prog.cellsOf 3=1:=kr
 have k2:Try.prog.cellsOf 40=1:=kr
 obtain⟨N,hN⟩:∃N,Try.prog.types.size+1=N+1+1:=⟨Try.prog.types.size-1,by
  have:1<=Try.prog.types.size:=of_decide_eq_true kr
  omega⟩
 have hl:Try.prog.keyLits (Try.prog.types.size+1) 52 (nB c).cells.toList=some [.int .i64 c.id,.int .u64 c.d,.int .u64 c.e]:=by
  rw[hN];simp[Program.keyLits,nB,Value.cells,Try.underlying52,FA,Try.underlying3,Try.underlying40,k1,k2,w1,w2,w3]
 refine⟨.string (keyBytes [.int .i64 c.id,.int .u64 c.d,.int .u64 c.e]),?_⟩;unfold keyOf;rw[Try.underlying52];simp only[hk,hf,Bool.and_self,if_true,hl,cI]
def lD(w:ae)(M:Nat)(id:Int)(pl:List (Int×Int)):Prop:=
 ∃(es:Array MapEntry) (clock:Nat),w.heap[M]?=some (.map es clock)/\es.toList.map (fun e=>(e.key,e.val))=pl.map fun q=>(nB (jr id q),DL q)
theorem vE{id:Int}(h:1<=id/\id<=9)(q:Int×Int):Fits (jr id q):=by
 have h1:=EL 4 q.1.toNat (m:=2147483579) (by omega);have h2:=EL 4 q.2.toNat (m:=2147483579) (by omega);exact⟨⟨by show _<=id;omega,by show id<=_;omega⟩,⟨h1.1,by show pw 4 q.1.toNat 2147483579<_;omega⟩,h2.1,by show pw 4 q.2.toNat 2147483579<_;omega⟩
section
variable{w:ae}{M:Nat}{id:Int}{pl:List (Int×Int)}
theorem lD.lt(h:lD w M id pl):M<w.heap.size:=by
 obtain⟨es,clock,h,_⟩:=h;exact(Array.getElem?_eq_some_iff.1 h).1
theorem lD.of_block{w':ae}(h:lD w M id pl)(hb:w'.heap[M]?=w.heap[M]?):lD w' M id pl:=by
 obtain⟨es,clock,h1,h2⟩:=h;exact⟨es,clock,hb.trans h1,h2⟩
theorem lD.new(w:ae)(id:Int):lD (w.alloc (.map #[] 0)) w.heap.size id []:=⟨#[],0,heap_alloc_new w _,rfl⟩
theorem Da{es:Array MapEntry}(h:es.toList.map (fun e=>(e.key,e.val))=pl.map fun q=>(nB (jr id q),DL q))(j:Nat):es.toList[j]?.map (fun e=>(e.key,e.val))=pl[j]?.map fun q=>(nB (jr id q),DL q):=by
 have:=congrArg (fun l=>l[j]?) h
 simpa [bZ]using this
theorem Bo(hid:1<=id/\id<=9){es:Array MapEntry}(h:es.toList.map (fun e=>(e.key,e.val))=pl.map fun q=>(nB (jr id q),DL q)){c:Cm}(hc:Fits c)(w:ae):
  ((Instr.findKey 52 (nB c) es.toList).run dS w=.ok none w/\∀q∈pl,jr id q≠c)\/
  ∃j q,(Instr.findKey 52 (nB c) es.toList).run dS w=.ok (some (j,DL q)) w/\pl[j]?=some q/\jr id q=c:=by
 obtain⟨lk,hlk⟩:=yY hc;have hall:∀e∈es.toList,∃l,keyOf dS 52 e.key=some l:=by
  intro e he;obtain⟨j,hj,rfl⟩:=List.mem_iff_getElem.1 he;have:=Da h j
  rw[aN hj]at this;cases hq:pl[j]? with
  |none=>rw[hq]at this;cases this
  |some q=>
   rw[hq]at this;simp only[cI,dD,Prod.mk.injEq]at this;rw[this.1];exact yY (vE hid q)
 rcases keyed.find w hlk es.toList hall with⟨h1,h2⟩|⟨j,e,h1,h2,h3⟩
 ·refine .inl ⟨h1,fun q hq hqc=>?_⟩;obtain⟨j,hj,rfl⟩:=List.mem_iff_getElem.1 hq;have:=Da h j
  rw[aN hj]at this;cases he:es.toList[j]? with
  |none=>rw[he]at this;cases this
  |some e=>
   rw[he]at this;simp only[cI,dD,Prod.mk.injEq]at this;exact h2 e (b7 he) (by rw[this.1,hqc])
 ·have:=Da h j
  rw[h2]at this;cases hq:pl[j]? with
  |none=>rw[hq]at this;cases this
  |some q=>
   rw[hq]at this;simp only[cI,dD,Prod.mk.injEq]at this;exact .inr ⟨j,q,by rw[h1,this.2],hq,TY (by rw[<-this.1,h3])⟩
theorem Ak:Try.prog.underlying 157=some (.map 52 161):=Try.underlying157
theorem PR:Try.prog.underlying 157=some (.map (Try.prog.mapKeyOf 157) (Try.prog.mapElemOf 157)):=by
 simp[Program.mapKeyOf,Program.mapElemOf]
theorem Ny(h:lD w M id pl)(ty:aj):(Builtin.len_ #[157] ty #[.map (some M)]).run dS w=.ok (goInt pl.length) w:=by
 obtain⟨es,clock,h1,h2⟩:=h;have hl:=congrArg List.length h2;simp at hl;rw[run_len_map w 157 ty M es clock PR h1,hl]
theorem F7(h:lD w M id pl)(hid:1<=id/\id<=9)(hinj:∀q∈pl,∀q'∈pl,jr id q=jr id q'->q=q'){c:Cm}(hc:Fits c){q:Int×Int}(hq:q∈pl)(hqc:jr id q=c):
  (Instr.lookup 157 (.map (some M)) (nB c) true).run dS w=.ok (.tuple #[DL q,.bool true]) w:=by
 obtain⟨es,clock,h1,h2⟩:=h;obtain⟨lk,hlk⟩:=yY hc;have Bn:=keyed.check w es.isEmpty hlk;rcases Bo hid h2 hc w with⟨h3,h4⟩|⟨j,q',h3,h4,h5⟩
 ·exact absurd hqc (h4 q hq)
 ·have e:q'=q:=hinj q' (b7 h4) q hq (h5.trans hqc.symm);rw[e]at h3;simp[Instr.lookup,run_underlying Ak,MapKept.run_getObj_map h1,Bn,h3]
theorem Iu(h:lD w M id pl)(hid:1<=id/\id<=9){c:Cm}(hc:Fits c)(hq:∀q∈pl,jr id q≠c):
  (Instr.lookup 157 (.map (some M)) (nB c) true).run dS w=.ok (.tuple #[DL (0,0),.bool false]) w:=by
 obtain⟨es,clock,h1,h2⟩:=h;obtain⟨lk,hlk⟩:=yY hc;have Bn:=keyed.check w es.isEmpty hlk;rcases Bo hid h2 hc w with⟨h3,h4⟩|⟨j,q',h3,h4,h5⟩
 ·simp[Instr.lookup,run_underlying Ak,MapKept.run_getObj_map h1,Bn,h3];rfl
 ·exact absurd h5 (hq q' (b7 h4))
theorem nE{α β:Type}(f:α->β):∀(l:List α) (j:Nat),(l.eraseIdx j).map f=(l.map f).eraseIdx j
 |[],j=>by simp
 |a::l,0=>by simp
 |a::l,j+1=>by simp[nE f l j]
theorem BG{es:Array MapEntry}{clock:Nat}(h:w.heap[M]?=some (.map es clock))(o:Obj):w.grownBy {w with heap:=w.heap.setIfInBounds M o} (some M)/\({w with heap:=w.heap.setIfInBounds M o}:ae).heap[M]?=some o:=by
 have hlt:M<w.heap.size:=(Array.getElem?_eq_some_iff.1 h).1;refine⟨⟨rfl,rfl,rfl,by simp,fun k hk hne=>?_⟩,?_⟩
 ·show(w.heap.setIfInBounds M o)[k]?=w.heap[k]?;rw[Array.getElem?_setIfInBounds_ne (fun e=>hne (by rw[e]))]
 ·show(w.heap.setIfInBounds M o)[M]?=some o;rw[Array.getElem?_setIfInBounds_self_of_lt hlt]
theorem DR(h:lD w M id pl)(hid:1<=id/\id<=9)(q:Int×Int)(hq:∀q'∈pl,jr id q'≠jr id q):
  ∃w',(Instr.mapUpdate 157 (.map (some M)) (nB (jr id q)) (DL q)).run dS w=.ok () w'/\lD w' M id (pl++[q])/\w.grownBy w' (some M):=by
 obtain⟨es,clock,h1,h2⟩:=h;obtain⟨lk,hlk⟩:=yY (vE hid q);have Bn:=keyed.check w false hlk;rcases Bo hid h2 (vE hid q) w with⟨h3,h4⟩|⟨j,q',h3,h4,h5⟩
 ·obtain⟨g1,g2⟩:=BG h1 (.map (es.push {key:=nB (jr id q),val:=DL q,born:=clock}) (clock+1));refine⟨_,?_,⟨_,_,g2,?_⟩,g1⟩
  ·simp[Instr.mapUpdate,run_underlying Ak,MapKept.run_getObj_map h1,Bn,h3,MapKept.run_setObj_map _ h1]
  ·simp[h2]
 ·exact absurd h5 (hq q' (b7 h4))
theorem LC(h:lD w M id pl)(hid:1<=id/\id<=9){j:Nat}{q:Int×Int}(hj:pl[j]?=some q)(hinj:∀i q',pl[i]?=some q'->jr id q'=jr id q->i=j)(ty:aj):
  ∃w',(Builtin.delete_ #[157,52] ty #[.map (some M),nB (jr id q)]).run dS w=.ok (.tuple #[]) w'/\lD w' M id (pl.eraseIdx j)/\w.grownBy w' (some M):=by
 obtain⟨es,clock,h1,h2⟩:=h;obtain⟨lk,hlk⟩:=yY (vE hid q);have Bn:=keyed.check w es.isEmpty hlk;rcases Bo hid h2 (vE hid q) w with⟨h3,h4⟩|⟨i,q',h3,h4,h5⟩
 ·exact absurd rfl (h4 q (b7 hj))
 ·have e:i=j:=hinj i q' h4 h5;subst e;obtain⟨g1,g2⟩:=BG h1 (.map (es.eraseIdxIfInBounds i) clock);refine⟨_,?_,⟨_,_,g2,?_⟩,g1⟩
  ·simp[Builtin.delete_,run_underlying Ak,MapKept.run_getObj_map h1,Bn,h3,MapKept.run_setObj_map _ h1]
  ·have hlen:=congrArg List.length h2;simp at hlen;have hi:i<es.size:=by rw[hlen];exact(List.getElem?_eq_some_iff.1 h4).1
   rw[Array.eraseIdxIfInBounds,dif_pos hi,Array.toList_eraseIdx,nE,h2,nE]
end
end Ey
namespace DI
open Go.RowKit Pl mJ nG mI Mem Ey Odr ng
def newE(t n:Int)(cs:List Int)(id share:Int):Int:=if iw t n cs id share≠0 then iw t n cs id share else if lW t n cs id share=false then 8 else 0
theorem L3{t n:Int}{cs:List Int}{id share:Int}(h:iw t n cs id share≠0):newE t n cs id share=iw t n cs id share:=by unfold newE;rw[if_pos h]
theorem L1{t n:Int}{cs:List Int}{id share:Int}(h:iw t n cs id share=0)(h2:lW t n cs id share=false):newE t n cs id share=8:=by unfold newE;rw[if_neg (fun h'=>h' h),if_pos h2]
theorem Xn{t n:Int}{cs:List Int}{id share:Int}(h:iw t n cs id share=0)(h2:lW t n cs id share=true):newE t n cs id share=0:=by unfold newE;rw[if_neg (fun h'=>h' h),if_neg (by rw[h2];simp)]
theorem EX{t n:Int}{cs:List Int}{id share:Int}(h:newE t n cs id share=0):iw t n cs id share=0/\lW t n cs id share=true:=by
 unfold newE at h;by_cases h1:iw t n cs id share≠0
 ·rw[if_pos h1]at h;exact absurd h h1
 rw[if_neg h1]at h;by_cases h2:lW t n cs id share=false
 ·rw[if_pos h2]at h;omega
 ·exact⟨by omega,by simpa using h2⟩
theorem uQ{t n:Int}{cs:List Int}{id share:Int}(h:iw t n cs id share=0):gD t n cs=true/\1<=id/\id<=n/\share<1073741789:=by
 unfold iw at h;by_cases h1:gD t n cs=false
 ·rw[if_pos h1]at h;omega
 rw[if_neg h1]at h;by_cases h2:id<1\/n<id
 ·rw[if_pos h2]at h;omega
 rw[if_neg h2]at h;by_cases h3:1073741789<=share
 ·rw[if_pos h3]at h;omega
 ·exact⟨by simpa using h1,by omega,by omega,by omega⟩
structure St where
 t:Int
 n:Int
 cs:List Int
 id:Int
 share:Int
 pl:List (Int×Int)
structure Ok(s:St):Prop where
 kP:gD s.t s.n s.cs=true
 id1:1<=s.id
 idn:s.id<=s.n
 Zv:0<=s.share
 VT:s.share<1073741789
 few:s.pl.length<=6
 sc:∀q∈s.pl,(0<q.1/\q.1<1073741789)/\(0<q.2/\q.2<1073741789)
 uniq:s.pl.Pairwise (·≠·)
theorem Ok.spec{s:St}(h:Ok s):2<=s.t/\s.t<=s.n/\s.n<=9/\(s.cs.length:Int)=s.t/\s.cs.getD 0 0≠1/\(∀i,i<s.cs.length->jO (s.cs.getD i 0)=true):=by
 have h1:=kE h.kP;exact⟨h1.1,h1.2.1,h1.2.2.1,h1.2.2.2.1,h1.2.2.2.2.1,fun i hi=>rS h.kP hi⟩
theorem Ok.id9{s:St}(h:Ok s):1<=s.id/\s.id<=9:=by
 have:=h.spec;have:=h.id1;have:=h.idn;omega
theorem Ok.key{s:St}(h:Ok s):0<s.cs.length/\(0<s.cs.getD 0 0/\s.cs.getD 0 0<2147483579):=by
 have h1:=h.spec;exact⟨by omega,rR (h1.2.2.2.2.2 0 (by omega))⟩
theorem Di{id:Int}{q q':Int×Int}(h1:(0<q.1/\q.1<1073741789)/\(0<q.2/\q.2<1073741789))(h2:(0<q'.1/\q'.1<1073741789)/\(0<q'.2/\q'.2<1073741789))(h:jr id q=jr id q'):q=q':=by
 have e:qq=1073741789:=rfl;simp only[jr,Cm.mk.injEq,true_and]at h;have a1:=J3 (a:=q.1.toNat) (b:=q'.1.toNat) (by omega) (by omega) h.1;have a2:=J3 (a:=q.2.toNat) (b:=q'.2.toNat) (by omega) (by omega) h.2;obtain⟨x,y⟩:=q;obtain⟨x',y'⟩:=q';simp only at h1 h2 a1 a2;rw[Prod.mk.injEq];omega
theorem Wq{pl:List (Int×Int)}(h:pl.Pairwise (·≠·)){i j:Nat}{q:Int×Int}(hi:pl[i]?=some q)(hj:pl[j]?=some q):i=j:=by
 obtain⟨hi',ei⟩:=List.getElem?_eq_some_iff.1 hi;obtain⟨hj',ej⟩:=List.getElem?_eq_some_iff.1 hj;rcases Nat.lt_trichotomy i j with hlt|heq|hgt
 ·exact absurd (ei.trans ej.symm) (List.pairwise_iff_getElem.1 h i j hi' hj' hlt)
 ·exact heq
 ·exact absurd (ej.trans ei.symm) (List.pairwise_iff_getElem.1 h j i hj' hi' hgt)
theorem Ok.aC7{s:St}(h:Ok s){j:Nat}{q:Int×Int}(hj:s.pl[j]?=some q):∀i q',s.pl[i]?=some q'->jr s.id q'=jr s.id q->i=j:=fun i q' hi he=>by
 have e:=Di (h.sc q' (b7 hi)) (h.sc q (b7 hj)) he;subst e;exact Wq h.uniq hi hj
def rV(s:St)(d e:Int):Int:=if d=0\/e=0\/1073741789<=d\/1073741789<=e then 2 else if(d,e)∈s.pl then 15 else if s.pl.length=6 then 9 else 0
def yq(s:St)(d e:Int):St:=if rV s d e=0 then{s with pl:=s.pl++[(d,e)]}else s
def Ku(s:St)(d e:Int):Cm:=if rV s d e=0 then jr s.id (d,e)else .zero
theorem yr{s:St}{d e:Int}(h:d=0\/e=0\/1073741789<=d\/1073741789<=e):rV s d e=2:=by unfold rV;rw[if_pos h]
theorem Vb{s:St}{d e:Int}(h:¬(d=0\/e=0\/1073741789<=d\/1073741789<=e))(h2:(d,e)∈s.pl):rV s d e=15:=by unfold rV;rw[if_neg h,if_pos h2]
theorem Q9{s:St}{d e:Int}(h:¬(d=0\/e=0\/1073741789<=d\/1073741789<=e))(h2:(d,e)∉s.pl)(h3:s.pl.length=6):rV s d e=9:=by unfold rV;rw[if_neg h,if_neg h2,if_pos h3]
theorem YM{s:St}{d e:Int}(h:¬(d=0\/e=0\/1073741789<=d\/1073741789<=e))(h2:(d,e)∉s.pl)(h3:s.pl.length≠6):rV s d e=0:=by unfold rV;rw[if_neg h,if_neg h2,if_neg h3]
theorem pC{s:St}{d e:Int}(h:rV s d e≠0):yq s d e=s/\Ku s d e=.zero:=⟨by unfold yq;rw[if_neg h],by unfold Ku;rw[if_neg h]⟩
theorem Kt{s:St}{d e:Int}(h:rV s d e=0):yq s d e={s with pl:=s.pl++[(d,e)]}/\Ku s d e=jr s.id (d,e):=⟨by unfold yq;rw[if_pos h],by unfold Ku;rw[if_pos h]⟩
theorem Q8{s:St}{d e:Int}(h:rV s d e=0):¬(d=0\/e=0\/1073741789<=d\/1073741789<=e)/\(d,e)∉s.pl/\s.pl.length≠6:=by
 unfold rV at h;by_cases h1:d=0\/e=0\/1073741789<=d\/1073741789<=e
 ·rw[if_pos h1]at h;omega
 rw[if_neg h1]at h;by_cases h2:(d,e)∈s.pl
 ·rw[if_pos h2]at h;omega
 rw[if_neg h2]at h;by_cases h3:s.pl.length=6
 ·rw[if_pos h3]at h;omega
 ·exact⟨h1,h2,h3⟩
theorem Va{s:St}{d e:Int}(h:Ok s)(hd:0<=d)(he:0<=e):Ok (yq s d e):=by
 by_cases h0:rV s d e=0
 ·obtain⟨h1,h2,h3⟩:=Q8 h0;rw[(Kt h0).1];refine⟨h.kP,h.id1,h.idn,h.Zv,h.VT,?_,?_,?_⟩
  ·show(s.pl++[(d,e)]).length<=6;rw[dG,List.length_singleton];have:=h.few;omega
  ·intro q hq;rcases List.mem_append.1 hq with hq|hq
   ·exact h.sc q hq
   ·rw[List.mem_singleton.1 hq];exact⟨⟨by show 0<d;omega,by show d<_;omega⟩,by show 0<e;omega,by show e<_;omega⟩
  ·refine List.pairwise_append.2 ⟨h.uniq,List.pairwise_singleton _ _,fun a ha b hb=>?_⟩;rw[List.mem_singleton.1 hb];rintro rfl;exact h2 ha
 ·rw[(pC h0).1];exact h
theorem O3{n:Int}{l:List Cm}(h:mI.Good n l){j:Nat}(hj:j<l.length):∀i,i<j->(l.getD i .zero).id<(l.getD j .zero).id:=by
 induction j with
 |zero=>intro i hi;omega
 |succ j ih=>
  intro i hi;have h1:=(h (j+1) hj).2.1 (by omega);simp only[Nat.add_sub_cancel]at h1;rcases bw i j with h2|h2
  ·have:=ih (by omega) i h2
   omega
  ·obtain rfl:i=j:=by omega
   exact h1
theorem UG{n:Int}{l:List Cm}(h:mI.Good n l){i j:Nat}(hi:i<l.length)(hj:j<l.length)(he:(l.getD i .zero).id=(l.getD j .zero).id):i=j:=by
 rcases Nat.lt_trichotomy i j with hlt|heq|hgt
 ·have:=O3 h hj i hlt;omega
 ·exact heq
 ·have:=O3 h hi j hgt;omega
def mQ(id:Int)(l:List Cm):Nat->Int
 |0=> -1
 |k+1=>if(l.getD k .zero).id=id then(k:Int)else mQ id l k
theorem EY{id:Int}{l:List Cm}{k:Nat}(h:(l.getD k .zero).id=id):mQ id l (k+1)=k:=by rw[mQ,if_pos h]
theorem Jp{id:Int}{l:List Cm}{k:Nat}(h:¬(l.getD k .zero).id=id):mQ id l (k+1)=mQ id l k:=by rw[mQ,if_neg h]
theorem wH(id:Int)(l:List Cm)(k:Nat):(mQ id l k= -1/\∀i,i<k->(l.getD i .zero).id≠id)\/∃m:Nat,m<k/\mQ id l k=m/\(l.getD m .zero).id=id:=by
 induction k with
 |zero=>exact .inl ⟨rfl,fun i hi=>by omega⟩
 |succ k ih=>
  by_cases h:(l.getD k .zero).id=id
  ·exact .inr ⟨k,by omega,EY h,h⟩
  ·rw[Jp h];rcases ih with⟨h1,h2⟩|⟨m,h1,h2,h3⟩
   ·refine .inl ⟨h1,fun i hi=>?_⟩;rcases bw i k with h3|h3
    ·exact h2 i h3
    ·obtain rfl:i=k:=by omega
     exact h
   ·exact .inr ⟨m,by omega,h2,h3⟩
theorem yU{n:Int}{l:List Cm}(hg:mI.Good n l){id:Int}{k:Nat}(hk:k<l.length)(h:(l.getD k .zero).id=id):mQ id l l.length=k:=by
 rcases wH id l l.length with⟨_,h2⟩|⟨m,h1,h2,h3⟩
 ·exact absurd h (h2 k hk)
 ·rw[h2,UG hg h1 hk (h3.trans h.symm)]
def tM(s:St)(msg:ByteArray)(l:List Cm)(k:Nat)(q:Int×Int):Int:=
 Zt q.1 q.2 (mh l (s.cs.getD 0 0) msg k) (iz (kM l l.length) k) s.share (l5 (iT l (s.cs.getD 0 0) msg) (s.cs.getD 0 0) msg)
inductive kV(s:St)(msg:ByteArray)(l:List Cm):Int->Int->St->Prop
 |pk (h:rD s.t s.n l≠0):kV s msg l 0 (rD s.t s.n l) s
 |mine (h:rD s.t s.n l=0) (hn:∀k q,k<l.length->q∈s.pl->jr s.id q≠l.getD k .zero):kV s msg l 0 10 s
 |zero (k j:Nat) (q:Int×Int) (h:rD s.t s.n l=0) (hk:k<l.length) (hj:s.pl[j]?=some q) (hq:jr s.id q=l.getD k .zero) (ha:iT l (s.cs.getD 0 0) msg=1):kV s msg l 0 11 s
 |good (k j:Nat) (q:Int×Int) (h:rD s.t s.n l=0) (hk:k<l.length) (hj:s.pl[j]?=some q) (hq:jr s.id q=l.getD k .zero) (ha:iT l (s.cs.getD 0 0) msg≠1):
   kV s msg l (tM s msg l k q) 0 {s with pl:=s.pl.eraseIdx j}
theorem ak5{s s':St}{msg:ByteArray}{l:List Cm}{v e:Int}(hr:kV s msg l v e s')(h:rD s.t s.n l≠0):v=0/\e=rD s.t s.n l/\s'=s:=by
 cases hr with
 |pk h=>exact⟨rfl,rfl,rfl⟩
 |mine h'=>exact absurd h' h
 |zero _ _ _ h'=>exact absurd h' h
 |good _ _ _ h'=>exact absurd h' h
theorem Ve{id:Int}{q:Int×Int}{c:Cm}(h:jr id q=c):c.id=id:=by rw[<-h];rfl
theorem SG{s s':St}{msg:ByteArray}{l:List Cm}{v e:Int}(hr:kV s msg l v e s')(h:rD s.t s.n l=0)(hm:mQ s.id l l.length<0):v=0/\e=10/\s'=s:=by
 have hno:∀k q,k<l.length->jr s.id q=l.getD k .zero->False:=fun k q hk hq=>by
  have:=yU (vB h) hk (Ve hq)
  omega
 cases hr with
 |pk h'=>exact absurd h h'
 |mine h'=>exact⟨rfl,rfl,rfl⟩
 |zero k j q h' hk hj hq=>exact absurd hq (hno k q hk)
 |good k j q h' hk hj hq=>exact absurd hq (hno k q hk)
theorem SJ{s s':St}{msg:ByteArray}{l:List Cm}{v e:Int}(hr:kV s msg l v e s')(h:rD s.t s.n l=0){m:Nat}(hm:mQ s.id l l.length=m)(hn:¬∃q∈s.pl,jr s.id q=l.getD m .zero):v=0/\e=10/\s'=s:=by
 have hno:∀k j q,k<l.length->s.pl[j]?=some q->jr s.id q=l.getD k .zero->False:=fun k j q hk hj hq=>by
  have h1:=yU (vB h) hk (Ve hq);have h2:k=m:=by omega
  subst h2;exact hn ⟨q,b7 hj,hq⟩
 cases hr with
 |pk h'=>exact absurd h h'
 |mine h'=>exact⟨rfl,rfl,rfl⟩
 |zero k j q h' hk hj hq=>exact absurd hq (hno k j q hk hj)
 |good k j q h' hk hj hq=>exact absurd hq (hno k j q hk hj)
theorem WM{s s':St}{msg:ByteArray}{l:List Cm}{v e:Int}(hr:kV s msg l v e s')(hok:Ok s)(h:rD s.t s.n l=0){m:Nat}(hm:mQ s.id l l.length=m){q:Int×Int}(hq:q∈s.pl)(hqm:jr s.id q=l.getD m .zero):
  ∃j,s.pl[j]?=some q/\((iT l (s.cs.getD 0 0) msg=1/\v=0/\e=11/\s'=s)\/(iT l (s.cs.getD 0 0) msg≠1/\v=tM s msg l m q/\e=0/\s'={s with pl:=s.pl.eraseIdx j})):=by
 have hin:∀k j q',k<l.length->s.pl[j]?=some q'->jr s.id q'=l.getD k .zero->k=m/\q'=q:=fun k j q' hk hj hq'=>by
  have h1:=yU (vB h) hk (Ve hq');have h2:k=m:=by omega
  subst h2;exact⟨rfl,Di (hok.sc q' (b7 hj)) (hok.sc q hq) (hq'.trans hqm.symm)⟩
 cases hr with
 |pk h'=>exact absurd h h'
 |mine h' hn=>
  rcases wH s.id l l.length with⟨h1,_⟩|⟨m',h1,h2,h3⟩
  ·omega
  ·have:m'=m:=by omega
   subst this;exact absurd hqm (hn m' q h1 hq)
 |zero k j q' h' hk hj hq' ha=>
  obtain⟨rfl,rfl⟩:=hin k j q' hk hj hq';exact⟨j,hj,.inl ⟨ha,rfl,rfl,rfl⟩⟩
 |good k j q' h' hk hj hq' ha=>
  obtain⟨rfl,rfl⟩:=hin k j q' hk hj hq';exact⟨j,hj,.inr ⟨ha,rfl,rfl,rfl⟩⟩
end DI
namespace Kn
open Pl Odr nG mI Mem ng DI
def bitsOf:Nat->Nat->List Bool
 |0,_=>[]
 |f+1,n=>if n=0 then []else(n%2==1)::bitsOf f (n/2)
theorem Ie:∀f n,n<2^f->val (bitsOf f n)=n
 |0,n,h=>by
  have:n=0:=by simpa using h
  rw[this];rfl
 |f+1,n,h=>by
  rw[bitsOf];split
  ·rename_i h0;rw[h0];rfl
  ·rw[val,Ie f (n/2) (by rw[Nat.pow_succ]at h;omega)];by_cases h2:n%2=1
   ·rw[h2];simp<;>omega
   ·have:(n%2==1)=false:=by rw[beq_eq_false_iff_ne];exact h2
    rw[this];simp<;>omega
def WT(a:Int)(n:Nat)(m:Int):Int:=fq a m (bitsOf 31 n)
theorem rK(a:Int){n:Nat}{m:Int}(hm:1<m)(hn:n<2147483648):pw a n m=WT a n m:=by
 unfold WT;rw[ad4 a hm,Ie 31 n (by
  have:(2:Nat)^31=2147483648:=rfl
  omega)]
def E9(n:Int):Bool:=decide (0<n/\n<2147483579)&&decide (WT n 1073741789 2147483579=1)
theorem vz(n:Int):jO n=E9 n:=by
 unfold jO E9;rw[<-rK n (by omega) (by omega),show(1073741789:Nat)=qq from rfl,Bool.eq_iff_iff];simp only[Bool.and_eq_true,decide_eq_true_eq,and_assoc]
def E8(n:Int):Bool:=E9 n&&decide (n≠1)
theorem vw(n:Int):jx n=E8 n:=by unfold jx E8;rw[vz]
def YD(cs:List Int):Nat->Bool
 |0=>true
 |k+1=>YD cs k&&E9 (cs.getD k 0)
theorem Ke(cs:List Int):∀k,lC cs k=YD cs k
 |0=>rfl
 |k+1=>by rw[lC,YD,Ke cs k,vz]
def GK(t n:Int)(cs:List Int):Bool:=decide (2<=t/\t<=n/\n<=9/\(cs.length:Int)=t/\cs.getD 0 0≠1)&&YD cs cs.length
theorem C7(t n:Int)(cs:List Int):gD t n cs=GK t n cs:=by unfold gD GK;rw[Ke]
def vH(t n:Int)(cs:List Int)(id share:Int):Int:=if GK t n cs=false then 4 else if id<1\/n<id then 5 else if 1073741789<=share then 2 else 0
theorem uR(t n:Int)(cs:List Int)(id share:Int):iw t n cs id share=vH t n cs id share:=by unfold iw vH;rw[C7]
def Br(t n:Int)(cs:List Int)(id share:Int):Bool:=decide (vH t n cs id share=0)&&decide (pw 4 share.toNat 2147483579=EM cs id)
theorem zU(t n:Int)(cs:List Int)(id share:Int):lW t n cs id share=Br t n cs id share:=by
 unfold lW Br;rw[uR,Bool.eq_iff_iff];simp only[Bool.and_eq_true,decide_eq_true_eq]
def IY(t n:Int)(cs:List Int)(id share:Int):Int:=if vH t n cs id share≠0 then vH t n cs id share else if Br t n cs id share=false then 8 else 0
theorem yR(t n:Int)(cs:List Int)(id share:Int):newE t n cs id share=IY t n cs id share:=by unfold newE IY;rw[uR,zU]
def Xo(l:List Cm):Nat->Bool
 |0=>true
 |k+1=>Xo l k&&(E8 (l.getD k .zero).d&&E8 (l.getD k .zero).e)
theorem IZ(l:List Cm):∀k,ko l k=Xo l k
 |0=>rfl
 |k+1=>by rw[ko,Xo,IZ l k,vw,vw]
def pkF(t n:Int)(l:List Cm):Int:=
 if(l.length:Int)<t\/n<(l.length:Int)then 7 else if fT n l l.length≠0 then fT n l l.length else if Xo l l.length=true then 0 else 3
theorem NH(t n:Int)(l:List Cm):rD t n l=pkF t n l:=by unfold rD pkF;rw[IZ]
def NI(l:List Cm)(key:Int)(msg:ByteArray)(k:Nat):Int:=mY (l.getD k .zero).d (WT (l.getD k .zero).e (mh l key msg k).toNat 2147483579)
theorem EN(l:List Cm)(key:Int)(msg:ByteArray)(k:Nat):mM l key msg k=NI l key msg k:=by
 have:=Dp l key msg k
 unfold mM NI;rw[rK _ (by omega) (by omega)]
def KC(l:List Cm)(key:Int)(msg:ByteArray):Nat->Int
 |0=>1
 |k+1=>mY (KC l key msg k) (NI l key msg k)
theorem yx(l:List Cm)(key:Int)(msg:ByteArray):iT l key msg=KC l key msg l.length:=by
 have:∀k,G9 l key msg k=KC l key msg k:=by
  intro k;induction k with
  |zero=>rfl
  |succ k ih=>rw[G9,KC,ih,EN]
 rw[Ha,this]
def QC(ids:List Int)(k:Nat):Int:=smul (ra ids k ids.length) (WT (jf ids k ids.length) 1073741787 1073741789)
theorem Cs(ids:List Int)(k:Nat):iz ids k=QC ids k:=by
 unfold iz QC;rw[<-rK _ (by omega) (by omega)];rfl
def Ic(key:Int)(s:ByteArray)(r z:Int):Bool:=
 E9 key&&E9 r&&decide (z<1073741789)&&decide (key≠1)&&decide (r≠1)&&decide (WT 4 z.toNat 2147483579=r*WT key (l5 r key s).toNat 2147483579%2147483579)
theorem qO(key:Int)(s:ByteArray)(r z:Int):nM key s r z=Ic key s r z:=by
 have hc:=G0 r key s;unfold nM Ic;rw[vz,vz];by_cases hz:z<1073741789
 ·rw[rK 4 (by omega) (by omega),rK key (by omega) (by omega)]
 ·simp only[hz,decide_false,Bool.and_false,Bool.false_and]
end Kn
namespace Kn
open Go.RowKit Go.Conc Pl Mem Cc mJ nG Chk
def IE:List (Int×Int×List Int×Int×Int×Bool×Int):=[(2,3,[1024,16384],1,12,true,0),(2,3,[1024,16384],3,26,true,0),(2,3,[1024,16384],3,25,false,0),(2,3,[1024,16384],1,19,false,0),(2,3,[1024,16384],0,5,false,5),(2,3,[1024,16384],4,33,false,5),(2,3,[1024,16384],9,1073741789,false,5),(2,3,[1024,16384],1,1073741801,false,2),(2,3,[1,4],1,1,false,4),(2,3,[4,1],1,1,true,0),(2,3,[4,2],1,1,false,4),(2,3,[4,0],1,1,false,4),(2,3,[4,2147483583],1,1,false,4),(1,3,[4],1,1,false,4),(2,10,[4,4],1,1,false,4),(2,1,[4,4],1,1,false,4),(3,3,[4,4],1,1,false,4)]
def yw:List (List Int):=[[1,4],[4,1],[4,2],[4,0],[4,2147483583],[4],[4,4],[4,4],[4,4]]
noncomputable def Gz:Code:=match(eK 4 iZ).2 with|.seq a _=>a|_=>.skip
def oq(A1:Option Addr)(k1 B:Nat):Array af:=#[.int .i64 2,.int .i64 3,.slice A1 2 k1,.int .i64 1,.int .u64 12,.bool true,.int .i64 0,.int .i64 2,.int .i64 3,.slice A1 2 k1,.int .i64 3,.int .u64 26,.bool true,.int .i64 0,.int .i64 2,.int .i64 3,.slice A1 2 k1,.int .i64 3,.int .u64 25,.bool false,.int .i64 0,.int .i64 2,.int .i64 3,.slice A1 2 k1,.int .i64 1,.int .u64 19,.bool false,.int .i64 0,.int .i64 2,.int .i64 3,.slice A1 2 k1,.int .i64 0,.int .u64 5,.bool false,.int .i64 5,.int .i64 2,.int .i64 3,.slice A1 2 k1,.int .i64 4,.int .u64 33,.bool false,.int .i64 5,.int .i64 2,.int .i64 3,.slice A1 2 k1,.int .i64 9,.int .u64 1073741789,.bool false,.int .i64 5,.int .i64 2,.int .i64 3,.slice A1 2 k1,.int .i64 1,.int .u64 1073741801,.bool false,.int .i64 2,.int .i64 2,.int .i64 3,.slice (some ⟨B+0,0,none⟩) 2 2,.int .i64 1,.int .u64 1,.bool false,.int .i64 4,.int .i64 2,.int .i64 3,.slice (some ⟨B+1,0,none⟩) 2 2,.int .i64 1,.int .u64 1,.bool true,.int .i64 0,.int .i64 2,.int .i64 3,.slice (some ⟨B+2,0,none⟩) 2 2,.int .i64 1,.int .u64 1,.bool false,.int .i64 4,.int .i64 2,.int .i64 3,.slice (some ⟨B+3,0,none⟩) 2 2,.int .i64 1,.int .u64 1,.bool false,.int .i64 4,.int .i64 2,.int .i64 3,.slice (some ⟨B+4,0,none⟩) 2 2,.int .i64 1,.int .u64 1,.bool false,.int .i64 4,.int .i64 1,.int .i64 3,.slice (some ⟨B+5,0,none⟩) 1 1,.int .i64 1,.int .u64 1,.bool false,.int .i64 4,.int .i64 2,.int .i64 10,.slice (some ⟨B+6,0,none⟩) 2 2,.int .i64 1,.int .u64 1,.bool false,.int .i64 4,.int .i64 2,.int .i64 1,.slice (some ⟨B+7,0,none⟩) 2 2,.int .i64 1,.int .u64 1,.bool false,.int .i64 4,.int .i64 3,.int .i64 3,.slice (some ⟨B+8,0,none⟩) 2 2,.int .i64 1,.int .u64 1,.bool false,.int .i64 4]
def aC1(A1:Option Addr)(k1 B j:Nat)(l:List Int):af:=if j<8 then .slice A1 2 k1 else .slice (some ⟨B+(j-8),0,none⟩) l.length l.length
theorem WS:∀r∈IE,lW r.1 r.2.1 r.2.2.1 r.2.2.2.1 r.2.2.2.2.1=r.2.2.2.2.2.1/\iw r.1 r.2.1 r.2.2.1 r.2.2.2.1 r.2.2.2.2.1=r.2.2.2.2.2.2/\r.2.2.1.length<=9/\(∀i,i<r.2.2.1.length->0<=r.2.2.1.getD i 0)/\(0<=r.2.2.2.2.1/\r.2.2.2.2.1<18446744073709551616):=by
 have h:∀r∈IE,Br r.1 r.2.1 r.2.2.1 r.2.2.2.1 r.2.2.2.2.1=r.2.2.2.2.2.1/\vH r.1 r.2.1 r.2.2.1 r.2.2.2.1 r.2.2.2.2.1=r.2.2.2.2.2.2/\r.2.2.1.length<=9/\(∀i,i<r.2.2.1.length->0<=r.2.2.1.getD i 0)/\(0<=r.2.2.2.2.1/\r.2.2.2.2.1<18446744073709551616):=by decide+kernel
 intro r hr;rw[zU,uR];exact h r hr
theorem P6(A1:Option Addr)(k1 B:Nat):∀j r,IE[j]?=some r->(oq A1 k1 B)[j*7]?=some (.int .i64 r.1)/\(oq A1 k1 B)[j*7+1]?=some (.int .i64 r.2.1)/\(oq A1 k1 B)[j*7+2]?=some (aC1 A1 k1 B j r.2.2.1)/\(oq A1 k1 B)[j*7+3]?=some (.int .i64 r.2.2.2.1)/\(oq A1 k1 B)[j*7+4]?=some (.int .u64 r.2.2.2.2.1)/\(oq A1 k1 B)[j*7+5]?=some (.bool r.2.2.2.2.2.1)/\(oq A1 k1 B)[j*7+6]?=some (.int .i64 r.2.2.2.2.2.2):=by
 intro j r h;have hlt:=(List.getElem?_eq_some_iff.1 h).1;have:j=0\/j=1\/j=2\/j=3\/j=4\/j=5\/j=6\/j=7\/j=8\/j=9\/j=10\/j=11\/j=12\/j=13\/j=14\/j=15\/j=16:=by
  have:IE.length=17:=rfl
  omega
 rcases this with rfl|rfl|rfl|rfl|rfl|rfl|rfl|rfl|rfl|rfl|rfl|rfl|rfl|rfl|rfl|rfl|rfl<;>(cases h;exact⟨rfl,rfl,rfl,rfl,rfl,rfl,rfl⟩)
structure aD6(A1:Option Addr)(k1:Nat)(w:ae)(tb:Nat)(w':ae):Prop where
 bel:Below w.heap.size w w'
 blk:ft w' tb 56 (oq A1 k1 w.heap.size)
 nums:∀j r,IE[j]?=some r->fW .u64 w' w'.heap.size (aC1 A1 k1 w.heap.size j r.2.2.1) r.2.2.1
theorem bo6(A1:Option Addr)(k1:Nat)(w:ae)(hg:fW .u64 w w.heap.size (.slice A1 2 k1) [1024,16384]):aD6 A1 k1 w (w.heap.size+9) ((lay .u64 40 w yw).alloc (.cells (oq A1 k1 w.heap.size) 56)):=by
 have hs:=Cn .u64 40 yw w;have hb:=Lc6 .u64 40 yw w;have hn:Below (lay .u64 40 w yw).heap.size (lay .u64 40 w yw) ((lay .u64 40 w yw).alloc (.cells (oq A1 k1 w.heap.size) 56)):=bre.alloc nle _;refine⟨hb.trans (hn.mono hb.size),?_,fun j r hj=>?_⟩
 ·have:=ft.new (lay .u64 40 w yw) 56 (oq A1 k1 w.heap.size)
  rw[hs]at this;exact this
 ·have hlt:=(List.getElem?_eq_some_iff.1 hj).1;have h17:IE.length=17:=rfl;unfold aC1;split
  ·have hr:r.2.2.1=[1024,16384]:=by
    have:j=0\/j=1\/j=2\/j=3\/j=4\/j=5\/j=6\/j=7:=by omega
    rcases this with rfl|rfl|rfl|rfl|rfl|rfl|rfl|rfl<;>(cases hj;rfl)
   rw[hr];exact(hg.later hb).later hn
  ·have jz:yw[j-8]?=some r.2.2.1:=by
    have:j=8\/j=9\/j=10\/j=11\/j=12\/j=13\/j=14\/j=15\/j=16:=by omega
    rcases this with rfl|rfl|rfl|rfl|rfl|rfl|rfl|rfl|rfl<;>(cases hj;rfl)
   exact(Co .u64 40 yw w (j-8) _ jz).later hn
noncomputable def TS:Code:=match Gz with|.seq a _=>a|_=>.skip
noncomputable def au5:Code:=match Gz with|.seq _ a=>a|_=>.skip
theorem au2{w:ae}{y:Nat->af}{gb k1:Nat}{A1:Option Addr}(y1:y 1=.pointer (some ⟨gb,0,none⟩))(g0:w.cell? ⟨gb,0,none⟩=some (.int .i64 2))(g1:w.cell? ⟨gb,1,none⟩=some (.int .i64 3))(g2:w.cell? ⟨gb,2,none⟩=some (.slice A1 2 k1))(hg:fW .u64 w w.heap.size (.slice A1 2 k1) [1024,16384]):TS.wp dS (fun e a w'=>e=.normal/\a.defers=[]/\a.tmps.size=271/\a.tmps[1]?=some (y 1)/\a.tmps[2]?=some (y 2)/\a.tmps[183]?=some (.slice (some ⟨w.heap.size+9,0,none⟩) 17 17)/\a.tmps[184]?=some (.int .i64 17)/\a.tmps[185]?=some (.int .i64 0)/\aD6 A1 k1 w (w.heap.size+9) w') ⟨jK y,[]⟩ w:=by
 have HD:=ay (bo6 A1 k1 w hg);have hgl:=World.block_lt_of_cell? w _ g0;clear hg;simp only[TS,Gz,iZ,eK,Try.f9,aJ,jK,y1];go_wp2_with fail
 repeat' (first|exact HD.out|exact rfl|refine And.intro ?_ ?_)
theorem XU{w w0:ae}{y:Nat->af}{tb k1:Nat}{A1:Option Addr}(bm5:y 183=.slice (some ⟨tb,0,none⟩) 17 17)(bm4:y 184=.int .i64 17)(bm3:y 185=.int .i64 0)(hD:aD6 A1 k1 w0 tb w):au5.wp dS (fun e a w'=>e=.normal/\a.defers=[]/\a.tmps.size=271/\a.tmps[1]?=some (y 1)/\a.tmps[2]?=some (y 2)/\Below w.heap.size w w') ⟨jK y,[]⟩ w:=by
 have HD:=ay hD;clear hD;simp only[au5,Gz,iZ,eK,Try.f9,aJ,jK,bm5,bm4,bm3];obtain⟨W,rfl⟩:∃W:ae,W=w:=⟨_,rfl⟩;go_wp2_with fail
 go_loopw [185] (fun i wr=>∃j:Nat,j<=17/\i=.int .i64 j/\Below W.heap.size W wr) (fun i _=>17-(intOf i).toNat)
 case atStart=>exact⟨0,by omega,rfl,Below.refl _ _⟩
 case round=>
  obtain⟨j,hj,rfl,fM⟩:=hrel;by_cases hlt:j<17
  ·obtain⟨r,hr⟩:∃r,IE[j]?=some r:=⟨IE[j],aN hlt⟩;obtain⟨c0,c1,c2,c3,c4,c5,c6⟩:=P6 A1 k1 w0.heap.size j r hr;have hm:=WS r (b7 hr);have hblk:=HD.out.blk.below fM HD.out.blk.lt;have iC:=(HD.out.nums j r hr).later fM;rw[<-hblk.cell]at c0 c1 c2 c3 c4 c5 c6;have HM:=ay hm;have zz:=ay fM;have q1:(j:Int)<17:=by omega
   have q2:(0:Int)<=(j:Int)/\(j:Int)<17:=by omega
   obtain⟨A2,k2,hsh⟩:=Lev.kY iC;rw[hsh]at iC c2;have Hj:=ay iC;clear hm iC fM hblk hr hsh;obtain⟨T,N,L,ID,SH,OK,E⟩:=r;simp only at c0 c1 c2 c3 c4 c5 c6 HM Hj;have zL:Below wr.heap.size wr (wr.alloc (.cells #[.int .i64 T,.int .i64 N,.slice A2 L.length k2,.int .i64 ID,.int .u64 SH,.bool OK,.int .i64 E] 56)):=bre.alloc nle _;have rC:=ay zL;have tH:=ay (ft.new wr 56 #[.int .i64 T,.int .i64 N,.slice A2 L.length k2,.int .i64 ID,.int .u64 SH,.bool OK,.int .i64 E]);clear zL;go_wp2_with fail
   refine(Vf T N L _ ID SH _ (Hj.out.later rC.out) (by have:=HM.out.2.2.1;omega) HM.out.2.2.2.1 HM.out.2.2.2.2).mono ?_;rintro e w2 ⟨rfl,kg⟩;rw[HM.out.1,HM.out.2.1];have lU:wr.heap.size<(wr.alloc (.cells #[.int .i64 T,.int .i64 N,.slice A2 L.length k2,.int .i64 ID,.int .u64 SH,.bool OK,.int .i64 E] 56)).heap.size:=by simp
   have b5:w2.cell? ⟨wr.heap.size,5,none⟩=some (.bool OK):=(kg.cell (p:=⟨wr.heap.size,5,none⟩) lU).trans (tH.out.cell 5);have b6:w2.cell? ⟨wr.heap.size,6,none⟩=some (.int .i64 E):=(kg.cell (p:=⟨wr.heap.size,6,none⟩) lU).trans (tH.out.cell 6);have vJ:=ay (zz.out.trans ((rC.out.trans (kg.mono rC.out.size)).mono zz.out.size));have tEE:(E != E)=false:=by rw[bne_eq_false_iff_eq]
   have tOO:(OK != OK)=false:=by rw[bne_eq_false_iff_eq]
   have n1:wr.heap.size<w2.heap.size:=by have:=kg.size;omega
   generalize wr.heap.size=bx at*;clear kg tH rC zz Hj HM;go_wp2_with fail
   exact⟨⟨j+1,by omega,by go_num,vJ.out⟩,by simp[intOf]<;>omega⟩
  ·obtain rfl:j=17:=by omega
   go_wp2_with fail
   repeat' (first|exact fM|exact rfl|refine And.intro ?_ ?_)
end Kn
namespace Cmb
open Go.RowKit Pl uU Mem KM
theorem uE:(Try.prog.info? 76).map (fun i=>(i.zero,i.size,i.bytes))=some (some (.int .u64 0),1,8):=kr
theorem combineC(ids shares:List Int)(u v:af)(w:ae)(hu:fW .i64 w w.heap.size u ids)(hv:fW .u64 w w.heap.size v shares)(hl:ids.length<=65536)(cj0:shares.length<=65536):
  Calls dS 31 #[u,v] w fun e w'=>e=.returned (.tuple #[.int .u64 (pB ids shares),.int .i64 (oK ids shares)])/\Below w.heap.size w w':=by
 obtain⟨A,c,rfl,hc,hcell⟩:=hu;obtain⟨A2,c2,rfl,hc2,CU⟩:=hv;have bu3:Hid (fW .i64 w w.heap.size (.slice A ids.length c) ids):=⟨A,c,rfl,hc,hcell⟩;have HC:=ay hcell;have HC2:=ay CU;clear hcell CU;by_cases h1:ids.length=shares.length;case neg=>
  have hE:=zo ids shares (fun h=>h1 h.1);have hA:pB ids shares=0:=by rw[pB,hE];rfl
  rw[hE,hA];have ht:((ids.length:Int) != (shares.length:Int))=true:=by rw[bne_iff_ne];omega
  clear hE hA;go_enter Try.func31,Try.ntmps31
  go_wp2_with fail
  go_ret2
  exact⟨rfl,Below.refl _ _⟩
 have h1b:((ids.length:Int) != (shares.length:Int))=false:=by rw[bne_eq_false_iff_eq];omega
 by_cases h2:ids.length=0;case pos=>
  have hE:=zo ids shares (fun h=>absurd h.2.1 (by omega));have hA:pB ids shares=0:=by rw[pB,hE];rfl
  rw[hE,hA];have ht:((ids.length:Int)==0)=true:=by rw[beq_iff_eq];omega
  have H1:=ay h1;clear hE hA h1 h2;go_enter Try.func31,Try.ntmps31
  go_wp2_with fail
  go_ret2
  exact⟨rfl,Below.refl _ _⟩
 have h2b:((ids.length:Int)==0)=false:=by rw[beq_eq_false_iff_ne];omega
 by_cases h3:ids.length<=9;case neg=>
  have hE:=zo ids shares (fun h=>h3 h.2.2);have hA:pB ids shares=0:=by rw[pB,hE];rfl
  rw[hE,hA];have H1:=ay h1;clear hE hA h1;go_enter Try.func31,Try.ntmps31
  go_wp2_with fail
  go_ret2
  exact⟨rfl,Below.refl _ _⟩
 have h2':0<ids.length:=by omega
 have H1:=ay h1;have l1:shares.length<=ids.length:=by omega
 have l2:ids.length<=shares.length:=by omega
 clear h1 h2;obtain⟨i0,hi,hz0,hz1,hz2⟩:=info_parts uE;go_enter Try.func31,Try.ntmps31
 go_wp2_with fail
 go_loopw [6,28] (fun b i wr=>∃k:Nat,k<=ids.length/\i=.int .i64 k/\jZ ids shares k=0/\wr.ownsRow w.heap.size 76 1 b k ((lR ids shares k).map (bU .u64))/\Below w.heap.size w wr) (fun _ i _=>ids.length-(intOf i).toNat)
 case atStart=>exact⟨0,by omega,rfl,rfl,World.ownsRow_nil _ _ _ _,Below.refl _ _⟩
 case round=>
  obtain⟨k,hk,rfl,Um,hown,fM⟩:=hrel;have HO:=ay hown;have HR:=ay Um;clear hown Um;by_cases hlt:k<ids.length
  ·obtain⟨b,off,rfl,hb,hcells⟩:=HC.out (by omega);obtain⟨b2,IU,rfl,hb2,yi⟩:=HC2.out (by omega);have Bn:=(fM.cell (p:=⟨b,off+k,none⟩) hb).trans (hcells k hlt);have bv7:=(fM.cell (p:=⟨b2,IU+k,none⟩) hb2).trans (yi k (by omega));have HN:=ay (bu3.out.later fM);have Q3:Hid (Dh ids shares k=if ids.getD k 0<1\/9<ids.getD k 0 then 5 else if 0<k/\ids.getD k 0<=ids.getD (k-1) 0 then 6 else if 1073741789<=shares.getD k 0 then 2 else 0):=by
    show Dh ids shares k=_;rfl
   have aa9:0<k->wr.cell? ⟨b,off+(k-1),none⟩=some (.int .i64 (ids.getD (k-1) 0)):=fun _=>(fM.cell (p:=⟨b,off+(k-1),none⟩) hb).trans (hcells (k-1) (by omega));have HP:=ay aa9;have hst:=IM ids shares k;clear hcells yi aa9;have HST:=ay hst;clear hst;have fin:∀x:Int,Dh ids shares k=x->x≠0->Hid (oK ids shares=x/\pB ids shares=0):=by
    intro x hx hn;have hE:=U9 ids shares H1.out h2' h3 hlt HR.out hx hn;exact⟨hE,by rw[pB,if_neg (by rw[hE];exact hn)]⟩
   have RY:=ay fin;clear fin;generalize hX:ids.getD k 0=x at*;have HX:=ay hX;clear hX;generalize hY:shares.getD k 0=y at*;have HY:=ay hY;clear hY;by_cases c1:x<1\/9<x
   ·have hF:=RY.out 5 (by rw[Q3.out,if_pos c1]) (by omega);rcases c1 with c1|c1
    ·go_wp2_with (go_at_call 41;refine(oh _ _).mono ?_;rintro e w' ⟨rfl,rfl⟩)
     go_ret2
     exact⟨by rw[hF.out.1,hF.out.2];rfl,fM⟩
    ·have c2:¬x<1:=by omega
     go_wp2_with (go_at_call 41;refine(oh _ _).mono ?_;rintro e w' ⟨rfl,rfl⟩)
     go_ret2
     exact⟨by rw[hF.out.1,hF.out.2];rfl,fM⟩
   have c1a:¬x<1:=by omega
   have c1b:¬9<x:=by omega
   have a63:(0<k->¬x<=ids.getD (k-1) 0)->¬1073741789<=y->jZ ids shares (k+1)=0:=by
    intro hn hy;rw[jZ,if_pos HR.out,Q3.out,if_neg (by omega),if_neg (fun h=>hn h.1 h.2),if_neg hy]
   have be9:=ay a63;clear a63;by_cases Yb:0<k
   ·have hpc:=HP.out Yb;generalize hP:ids.getD (k-1) 0=p at*;have HPP:=ay hP;clear hP;by_cases c3:x<=p
    ·have hF:=RY.out 6 (by rw[Q3.out,if_neg (by omega),if_pos ⟨Yb,c3⟩]) (by omega);go_wp2_with (go_at_call 41;refine(oh _ _).mono ?_;rintro e w' ⟨rfl,rfl⟩)
     go_ret2
     exact⟨by rw[hF.out.1,hF.out.2];rfl,fM⟩
    by_cases c5:1073741789<=y
    ·have hF:=RY.out 2 (by rw[Q3.out,if_neg (by omega),if_neg (fun h=>c3 h.2),if_pos c5]) (by omega);have c4:¬y<1073741789:=by omega
     go_wp2_with (go_at_call 41;refine(Ip _ _ (by omega)).mono ?_;rintro e w' ⟨rfl,rfl⟩)
     go_ret2
     exact⟨by rw[hF.out.1,hF.out.2];rfl,fM⟩
    ·have c4:y<1073741789:=by omega
     have hR:=be9.out (fun _=>c3) c5;have HR2:=ay hR;clear hR c5;go_wp2_with (go_at_call 41;refine(EG _ _ (by omega)).mono ?_;rintro e w' ⟨rfl,rfl⟩)
     refine(Lc7 ids k _ _ HN.out hl hlt).mono ?_;rintro e w' ⟨rfl,n,rfl⟩;go_wp2_with (first|(go_at_call 69;refine(lM _ _ _).mono ?_;rintro e w' ⟨rfl,rfl⟩)|(at_builtin;refine wpList_append_own _ rfl (.tmp 63) (.tmp 69) _ rfl w.heap.size 76 i0 (.int .u64 0) 1 8 Try.underlying75 hi hz0 hz1 hz2 rfl (by decide) _ _ _ rfl (((jT HO.out n).alloc _)) ⟨wr.heap.size,0,none⟩ 1 1 [.int .u64 (smul y (iz ids k))] rfl rfl (cell_one_new _ _ _) (by simp[cw]) (by unfold maxLen;omega) (by omega) (by have:=fM.size;simp<;>omega) ?_;intro v' w1 hown' hgrow _))
     have lf:Below w.heap.size w w1:=((below_drewN fM n).alloc fM.size _).grown hgrow (by have:=fM.size;simp<;>omega) (fun k hk=>(((jT HO.out n).alloc (Obj.cells #[.int .u64 0] 76)).lt k hk).1);have e5:(lR ids shares k).map (bU .u64)++[.int .u64 (smul y (iz ids k))]=(lR ids shares (k+1)).map (bU .u64):=by
      rw[HST.out,cB];rfl
     rw[e5]at hown';refine⟨⟨k+1,by omega,by go_num,HR2.out,hown',lf⟩,?_⟩;simp[intOf]<;>omega
   ·by_cases c3:1073741789<=y
    ·have hF:=RY.out 2 (by rw[Q3.out,if_neg (by omega),if_neg (fun h=>Yb h.1),if_pos c3]) (by omega);have c4:¬y<1073741789:=by omega
     go_wp2_with (go_at_call 41;refine(Ip _ _ (by omega)).mono ?_;rintro e w' ⟨rfl,rfl⟩)
     go_ret2
     exact⟨by rw[hF.out.1,hF.out.2];rfl,fM⟩
    ·have c4:y<1073741789:=by omega
     have hR:=be9.out (fun h=>absurd h Yb) c3;have HR2:=ay hR;clear hR c3;go_wp2_with (go_at_call 41;refine(EG _ _ (by omega)).mono ?_;rintro e w' ⟨rfl,rfl⟩)
     refine(Lc7 ids k _ _ HN.out hl hlt).mono ?_;rintro e w' ⟨rfl,n,rfl⟩;go_wp2_with (first|(go_at_call 69;refine(lM _ _ _).mono ?_;rintro e w' ⟨rfl,rfl⟩)|(at_builtin;refine wpList_append_own _ rfl (.tmp 63) (.tmp 69) _ rfl w.heap.size 76 i0 (.int .u64 0) 1 8 Try.underlying75 hi hz0 hz1 hz2 rfl (by decide) _ _ _ rfl (((jT HO.out n).alloc _)) ⟨wr.heap.size,0,none⟩ 1 1 [.int .u64 (smul y (iz ids k))] rfl rfl (cell_one_new _ _ _) (by simp[cw]) (by unfold maxLen;omega) (by omega) (by have:=fM.size;simp<;>omega) ?_;intro v' w1 hown' hgrow _))
     have lf:Below w.heap.size w w1:=((below_drewN fM n).alloc fM.size _).grown hgrow (by have:=fM.size;simp<;>omega) (fun k hk=>(((jT HO.out n).alloc (Obj.cells #[.int .u64 0] 76)).lt k hk).1);have e5:(lR ids shares k).map (bU .u64)++[.int .u64 (smul y (iz ids k))]=(lR ids shares (k+1)).map (bU .u64):=by
      rw[HST.out,cB];rfl
     rw[e5]at hown';refine⟨⟨k+1,by omega,by go_num,HR2.out,hown',lf⟩,?_⟩;simp[intOf]<;>omega
  ·obtain rfl:k=ids.length:=by omega
   have HF:Hid (oK ids shares=0/\pB ids shares=xA 0 (lR ids shares ids.length) ids.length):=by
    show oK ids shares=0/\_;have h:oK ids shares=0:=U8 ids shares H1.out h2' h3 HR.out;exact⟨h,by rw[pB,if_pos h]⟩
   have hpl:=DV ids shares ids.length;have iC:=fW.own (k:=.u64) (l:=lR ids shares ids.length) (by rw[hpl];exact HO.out);have Hj:=ay iC;have HPL:=ay hpl;clear iC hpl;go_wp2_with fail
   refine(ad5 0 _ _ _ Hj.out (by rw[HPL.out];omega)).mono ?_;rintro e w' ⟨rfl,rfl⟩;go_wp2_with fail
   go_ret2
   exact⟨by rw[HF.out.1,HF.out.2,HPL.out];rfl,fM⟩
end Cmb
namespace Kn
open Go.RowKit Go.Conc Pl Mem Cc mJ nG Cmb
def Cq(w:ae):List (IntKind×aj×List Int)->ae
 |[]=>w
 |r::L=>Cq (w.alloc (.cells (r.2.2.map (bU r.1)).toArray r.2.1)) L
theorem E6:∀(L:List (IntKind×aj×List Int)) (w:ae),(Cq w L).heap.size=w.heap.size+L.length
 |[],w=>rfl
 |r::L,w=>by rw[Cq,E6 L];simp<;>omega
theorem wI:∀(L:List (IntKind×aj×List Int)) (w:ae),Below w.heap.size w (Cq w L)
 |[],w=>Below.refl _ _
 |r::L,w=>by
  have hb:Below w.heap.size w (w.alloc (.cells (r.2.2.map (bU r.1)).toArray r.2.1)):=bre.alloc nle _;exact hb.trans ((wI L _).mono hb.size)
theorem yV:∀(L:List (IntKind×aj×List Int)) (w:ae) (j:Nat) (k:IntKind) (t:aj) (l:List Int),L[j]?=some (k,t,l)->fW k (Cq w L) (Cq w L).heap.size (.slice (some ⟨w.heap.size+j,0,none⟩) l.length l.length) l
 |[],w,j,k,t,l,h=>by cases h
 |r::L,w,0,k,t,l,h=>by
  simp at h;subst h;have h1:=fW.lit (k:=k) w l t;have h2:fW k (w.alloc (.cells (l.map (bU k)).toArray t)) (w.alloc (.cells (l.map (bU k)).toArray t)).heap.size (.slice (some ⟨w.heap.size,0,none⟩) l.length l.length) l:=h1.more (by simp);exact h2.later (wI L _)
 |r::L,w,j+1,k,t,l,h=>by
  have h1:=yV L (w.alloc (.cells (r.2.2.map (bU r.1)).toArray r.2.1)) j k t l (by simpa using h);rw[show(w.alloc (.cells (r.2.2.map (bU r.1)).toArray r.2.1)).heap.size+j=w.heap.size+(j+1) by simp<;>omega]at h1;exact h1
abbrev VM:=List Int×List Int×Int×Int×Option Nat×Option Nat
def Es:List VM:=[([1,2],[12,19],5,0,some 0,some 1),([1,3],[12,26],5,0,some 2,some 3),([1,2,3],[12,19,26],5,0,some 4,some 5),([4],[9],9,0,some 6,some 7),([],[],0,12,none,none),([1],[],0,12,some 8,none),([0],[1],0,5,some 9,some 10),([10],[1],0,5,some 11,some 12),([2,2],[1,1],0,6,some 13,some 14),([2,1],[1,1073741789],0,6,some 15,some 16),([1,2],[1,1073741789],0,2,some 17,some 18)]
def uL:List (IntKind×aj×List Int):=[(.i64,3,[1,2]),(.u64,40,[12,19]),(.i64,3,[1,3]),(.u64,40,[12,26]),(.i64,3,[1,2,3]),(.u64,40,[12,19,26]),(.i64,3,[4]),(.u64,40,[9]),(.i64,3,[1]),(.i64,3,[0]),(.u64,40,[1]),(.i64,3,[10]),(.u64,40,[1]),(.i64,3,[2,2]),(.u64,40,[1,1]),(.i64,3,[2,1]),(.u64,40,[1,1073741789]),(.i64,3,[1,2]),(.u64,40,[1,1073741789])]
def slV(B:Nat)(p:Option Nat)(l:List Int):af:=match p with
 |some p=>.slice (some ⟨B+p,0,none⟩) l.length l.length
 |none=>.slice none 0 0
noncomputable def Gy:Code:=match(eK 5 iZ).2 with|.seq a _=>a|_=>.skip
def uM(B:Nat):Array af:=#[.slice (some ⟨B+0,0,none⟩) 2 2,.slice (some ⟨B+1,0,none⟩) 2 2,.int .u64 5,.int .i64 0,.slice (some ⟨B+2,0,none⟩) 2 2,.slice (some ⟨B+3,0,none⟩) 2 2,.int .u64 5,.int .i64 0,.slice (some ⟨B+4,0,none⟩) 3 3,.slice (some ⟨B+5,0,none⟩) 3 3,.int .u64 5,.int .i64 0,.slice (some ⟨B+6,0,none⟩) 1 1,.slice (some ⟨B+7,0,none⟩) 1 1,.int .u64 9,.int .i64 0,.slice none 0 0,.slice none 0 0,.int .u64 0,.int .i64 12,.slice (some ⟨B+8,0,none⟩) 1 1,.slice none 0 0,.int .u64 0,.int .i64 12,.slice (some ⟨B+9,0,none⟩) 1 1,.slice (some ⟨B+10,0,none⟩) 1 1,.int .u64 0,.int .i64 5,.slice (some ⟨B+11,0,none⟩) 1 1,.slice (some ⟨B+12,0,none⟩) 1 1,.int .u64 0,.int .i64 5,.slice (some ⟨B+13,0,none⟩) 2 2,.slice (some ⟨B+14,0,none⟩) 2 2,.int .u64 0,.int .i64 6,.slice (some ⟨B+15,0,none⟩) 2 2,.slice (some ⟨B+16,0,none⟩) 2 2,.int .u64 0,.int .i64 6,.slice (some ⟨B+17,0,none⟩) 2 2,.slice (some ⟨B+18,0,none⟩) 2 2,.int .u64 0,.int .i64 2]
def MP(ids shares:List Int):Int:=if oK ids shares=0 then xA 0 ((bq ids.length).map fun i=>smul (shares.getD i 0) (QC ids i)) ids.length else 0
theorem MO(ids shares:List Int):pB ids shares=MP ids shares:=by
 unfold pB MP lR;simp only[Cs]
theorem YE:∀r∈Es,pB r.1 r.2.1=r.2.2.1/\oK r.1 r.2.1=r.2.2.2.1/\r.1.length<=9/\r.2.1.length<=9:=by
 have h:∀r∈Es,MP r.1 r.2.1=r.2.2.1/\oK r.1 r.2.1=r.2.2.2.1/\r.1.length<=9/\r.2.1.length<=9:=by decide+kernel
 intro r hr;rw[MO];exact h r hr
theorem Q0(B:Nat):∀(j:Nat) (r:VM),Es[j]?=some r->(uM B)[j*4]?=some (slV B r.2.2.2.2.1 r.1)/\(uM B)[j*4+1]?=some (slV B r.2.2.2.2.2 r.2.1)/\(uM B)[j*4+2]?=some (.int .u64 r.2.2.1)/\(uM B)[j*4+3]?=some (.int .i64 r.2.2.2.1):=by
 intro j r h;have hlt:=(List.getElem?_eq_some_iff.1 h).1;have:j=0\/j=1\/j=2\/j=3\/j=4\/j=5\/j=6\/j=7\/j=8\/j=9\/j=10:=by
  have:Es.length=11:=rfl
  omega
 rcases this with rfl|rfl|rfl|rfl|rfl|rfl|rfl|rfl|rfl|rfl|rfl<;>(cases h;exact⟨rfl,rfl,rfl,rfl⟩)
theorem Ki:∀(j:Nat) (r:VM),Es[j]?=some r->(∀p,r.2.2.2.2.1=some p->uL[p]?=some (.i64,3,r.1))/\(r.2.2.2.2.1=none->r.1=[])/\(∀p,r.2.2.2.2.2=some p->uL[p]?=some (.u64,40,r.2.1))/\(r.2.2.2.2.2=none->r.2.1=[]):=by
 intro j r h;have hlt:=(List.getElem?_eq_some_iff.1 h).1;have:j=0\/j=1\/j=2\/j=3\/j=4\/j=5\/j=6\/j=7\/j=8\/j=9\/j=10:=by
  have:Es.length=11:=rfl
  omega
 rcases this with rfl|rfl|rfl|rfl|rfl|rfl|rfl|rfl|rfl|rfl|rfl<;>(cases h;refine⟨fun p hp=>?_,fun hp=>?_,fun p hp=>?_,fun hp=>?_⟩<;>(cases hp<;>rfl))
structure aF6(w:ae)(tb:Nat)(w':ae):Prop where
 bel:Below w.heap.size w w'
 blk:ft w' tb 60 (uM w.heap.size)
 ids:∀(j:Nat) (r:VM),Es[j]?=some r->fW .i64 w' w'.heap.size (slV w.heap.size r.2.2.2.2.1 r.1) r.1
 shs:∀(j:Nat) (r:VM),Es[j]?=some r->fW .u64 w' w'.heap.size (slV w.heap.size r.2.2.2.2.2 r.2.1) r.2.1
theorem ER(k:IntKind)(w:ae)(B:Nat):fW k w B (.slice none 0 0) []:=⟨none,0,rfl,aH _,fun h=>absurd h (by simp)⟩
theorem bz3(w:ae):aF6 w (w.heap.size+19) ((Cq w uL).alloc (.cells (uM w.heap.size) 60)):=by
 have hs:=E6 uL w;have hb:=wI uL w;have hn:Below (Cq w uL).heap.size (Cq w uL) ((Cq w uL).alloc (.cells (uM w.heap.size) 60)):=bre.alloc nle _;refine⟨hb.trans (hn.mono hb.size),?_,fun j r hj=>?_,fun j r hj=>?_⟩
 ·have:=ft.new (Cq w uL) 60 (uM w.heap.size)
  rw[hs]at this;exact this
 ·obtain⟨h1,h2,-,-⟩:=Ki j r hj;cases hp:r.2.2.2.2.1 with
  |none=>rw[h2 hp];exact ER _ _ _
  |some p=>exact(yV uL w p _ _ _ (h1 p hp)).later hn
 ·obtain⟨-,-,h1,h2⟩:=Ki j r hj;cases hp:r.2.2.2.2.2 with
  |none=>rw[h2 hp];exact ER _ _ _
  |some p=>exact(yV uL w p _ _ _ (h1 p hp)).later hn
noncomputable def TR:Code:=match Gy with|.seq a _=>a|_=>.skip
noncomputable def au4:Code:=match Gy with|.seq _ a=>a|_=>.skip
theorem au1{w:ae}{y:Nat->af}:TR.wp dS (fun e a w'=>e=.normal/\a.defers=[]/\a.tmps.size=271/\a.tmps[1]?=some (y 1)/\a.tmps[2]?=some (y 2)/\a.tmps[240]?=some (.slice (some ⟨w.heap.size+19,0,none⟩) 11 11)/\a.tmps[241]?=some (.int .i64 11)/\a.tmps[242]?=some (.int .i64 0)/\aF6 w (w.heap.size+19) w') ⟨jK y,[]⟩ w:=by
 have HD:=ay (bz3 w);simp only[TR,Gy,iZ,eK,Try.f9,aJ,jK];go_wp2_with fail
 repeat' (first|exact HD.out|exact rfl|refine And.intro ?_ ?_)
theorem XT{w w0:ae}{y:Nat->af}{tb:Nat}(bl9:y 240=.slice (some ⟨tb,0,none⟩) 11 11)(bl8:y 241=.int .i64 11)(bl6:y 242=.int .i64 0)(hD:aF6 w0 tb w):au4.wp dS (fun e a w'=>e=.normal/\a.defers=[]/\a.tmps.size=271/\a.tmps[1]?=some (y 1)/\a.tmps[2]?=some (y 2)/\Below w.heap.size w w') ⟨jK y,[]⟩ w:=by
 have HD:=ay hD;clear hD;simp only[au4,Gy,iZ,eK,Try.f9,aJ,jK,bl9,bl8,bl6];obtain⟨W,rfl⟩:∃W:ae,W=w:=⟨_,rfl⟩;go_wp2_with fail
 go_loopw [242] (fun i wr=>∃j:Nat,j<=11/\i=.int .i64 j/\Below W.heap.size W wr) (fun i _=>11-(intOf i).toNat)
 case atStart=>exact⟨0,by omega,rfl,Below.refl _ _⟩
 case round=>
  obtain⟨j,hj,rfl,fM⟩:=hrel;by_cases hlt:j<11
  ·obtain⟨r,hr⟩:∃r,Es[j]?=some r:=⟨Es[j],aN hlt⟩;obtain⟨c0,c1,c2,c3⟩:=Q0 w0.heap.size j r hr;have hm:=YE r (b7 hr);have hblk:=HD.out.blk.below fM HD.out.blk.lt;have Ht:=(HD.out.ids j r hr).later fM;have hn2:=(HD.out.shs j r hr).later fM;rw[<-hblk.cell]at c0 c1 c2 c3;have HM:=ay hm;have zz:=ay fM;have q1:(j:Int)<11:=by omega
   have q2:(0:Int)<=(j:Int)/\(j:Int)<11:=by omega
   obtain⟨A2,k2,hsh⟩:=Lev.kY Ht;rw[hsh]at Ht c0;obtain⟨A3,k3,aV3⟩:=Lev.kY hn2;rw[aV3]at hn2 c1;have HN1:=ay Ht;have HN2:=ay hn2;clear hm Ht hn2 fM hblk hr hsh aV3;obtain⟨IDS,SHS,S,E,pp1,pp2⟩:=r;simp only at c0 c1 c2 c3 HM HN1 HN2;have zL:Below wr.heap.size wr (wr.alloc (.cells #[.slice A2 IDS.length k2,.slice A3 SHS.length k3,.int .u64 S,.int .i64 E] 60)):=bre.alloc nle _;have rC:=ay zL;have tH:=ay (ft.new wr 60 #[.slice A2 IDS.length k2,.slice A3 SHS.length k3,.int .u64 S,.int .i64 E]);clear zL;go_wp2_with fail
   refine(combineC IDS SHS _ _ _ (HN1.out.later rC.out) (HN2.out.later rC.out) (by have:=HM.out.2.2.1;omega) (by have:=HM.out.2.2.2;omega)).mono ?_;rintro e w2 ⟨rfl,kg⟩;rw[HM.out.1,HM.out.2.1];have lU:wr.heap.size<(wr.alloc (.cells #[.slice A2 IDS.length k2,.slice A3 SHS.length k3,.int .u64 S,.int .i64 E] 60)).heap.size:=by simp
   have b2:w2.cell? ⟨wr.heap.size,2,none⟩=some (.int .u64 S):=(kg.cell (p:=⟨wr.heap.size,2,none⟩) lU).trans (tH.out.cell 2);have b3:w2.cell? ⟨wr.heap.size,3,none⟩=some (.int .i64 E):=(kg.cell (p:=⟨wr.heap.size,3,none⟩) lU).trans (tH.out.cell 3);have vJ:=ay (zz.out.trans ((rC.out.trans (kg.mono rC.out.size)).mono zz.out.size));have tEE:(E != E)=false:=by rw[bne_eq_false_iff_eq]
   have tSS:(S != S)=false:=by rw[bne_eq_false_iff_eq]
   have n1:wr.heap.size<w2.heap.size:=by have:=kg.size;omega
   generalize wr.heap.size=bx at*;clear kg tH rC zz HN1 HN2 HM;go_wp2_with fail
   exact⟨⟨j+1,by omega,by go_num,vJ.out⟩,by simp[intOf]<;>omega⟩
  ·obtain rfl:j=11:=by omega
   go_wp2_with fail
   repeat' (first|exact fM|exact rfl|refine And.intro ?_ ?_)
end Kn
namespace Kn
open Go.RowKit Go.Conc Pl Mem Cc mJ Nf Dea
structure xm(W:ae)(gb:Nat)(A1:Option Addr)(k1:Nat)(A2:Option Addr)(k2:Nat)(a:Act)(w:ae):Prop where
 size:a.tmps.size=271
 s1:a.tmps[1]?=some (.pointer (some ⟨gb,0,none⟩))
 s2:a.tmps[2]?=some (.slice A2 3 k2)
 bel:Below W.heap.size W w
 gb1:W.heap.size<=gb
 kP:ft w gb 31 #[.int .i64 2,.int .i64 3,.slice A1 2 k1]
 cs:fW .u64 w w.heap.size (.slice A1 2 k1) [1024,16384]
 sh:fW .u64 w w.heap.size (.slice A2 3 k2) [12,19,26]
theorem xm.go{W:ae}{gb:Nat}{A1:Option Addr}{k1:Nat}{A2:Option Addr}{k2:Nat}{a a':Act}{w w':ae}(h:xm W gb A1 k1 A2 k2 a w)(h0:a'.tmps.size=271)(h1:a'.tmps[1]?=a.tmps[1]?)(h2:a'.tmps[2]?=a.tmps[2]?)(hb:Below w.heap.size w w'):xm W gb A1 k1 A2 k2 a' w':=
 ⟨h0,h1.trans h.s1,h2.trans h.s2,h.bel.trans (hb.mono h.bel.size),h.gb1,h.kP.below hb h.kP.lt,h.cs.later hb,h.sh.later hb⟩
section
variable{W w:ae}{gb:Nat}{A1:Option Addr}{k1:Nat}{A2:Option Addr}{k2:Nat}{a:Act}
theorem TX(h:xm W gb A1 k1 A2 k2 a w)(hd:a.defers=[]):GA.wp dS (fun e a' w'=>e=.normal/\a'.defers=[]/\xm W gb A1 k1 A2 k2 a' w') a w:=by
 obtain⟨T,df⟩:=a;obtain rfl:df=[]:=hd;obtain⟨y,rfl,hy⟩:=oa T h.size;have e1:=hy _ _ h.s1;have e2:=hy _ _ h.s2;have hsq:GA=.seq at7 au6:=rfl;rw[hsq];refine wp_seq (Code.wp_mono ?_ (au3 (y:=y)));rintro e a' w' ⟨rfl,hd',hs,t1,t2,t88,t89,t90,hD⟩;have hS:xm W gb A1 k1 A2 k2 a' w':=h.go hs (t1.trans (by rw[e1];exact h.s1.symm)) (t2.trans (by rw[e2];exact h.s2.symm)) hD.bel;obtain⟨T',df⟩:=a';obtain rfl:df=[]:=hd';obtain⟨y',rfl,hy'⟩:=oa T' hs;have f1:=hy' _ _ hS.s1;have f2:=hy' _ _ hS.s2;refine Code.wp_mono ?_ (XV (hy' _ _ t88) (hy' _ _ t89) (hy' _ _ t90) hD);rintro e a2 w2 ⟨rfl,hd2,hs2,u1,u2,hb⟩;exact⟨rfl,hd2,hS.go hs2 (u1.trans (by rw[f1];exact hS.s1.symm)) (u2.trans (by rw[f2];exact hS.s2.symm)) hb⟩
theorem TV(h:xm W gb A1 k1 A2 k2 a w)(hd:a.defers=[]):Gz.wp dS (fun e a' w'=>e=.normal/\a'.defers=[]/\xm W gb A1 k1 A2 k2 a' w') a w:=by
 obtain⟨T,df⟩:=a;obtain rfl:df=[]:=hd;obtain⟨y,rfl,hy⟩:=oa T h.size;have e1:=hy _ _ h.s1;have e2:=hy _ _ h.s2;have hsq:Gz=.seq TS au5:=rfl;rw[hsq];refine wp_seq (Code.wp_mono ?_ (au2 (y:=y) e1 (h.kP.cell 0) (h.kP.cell 1) (h.kP.cell 2) h.cs));rintro e a' w' ⟨rfl,hd',hs,t1,t2,t88,t89,t90,hD⟩;have hS:xm W gb A1 k1 A2 k2 a' w':=h.go hs (t1.trans (by rw[e1];exact h.s1.symm)) (t2.trans (by rw[e2];exact h.s2.symm)) hD.bel;obtain⟨T',df⟩:=a';obtain rfl:df=[]:=hd';obtain⟨y',rfl,hy'⟩:=oa T' hs;have f1:=hy' _ _ hS.s1;have f2:=hy' _ _ hS.s2;refine Code.wp_mono ?_ (XU (hy' _ _ t88) (hy' _ _ t89) (hy' _ _ t90) hD);rintro e a2 w2 ⟨rfl,hd2,hs2,u1,u2,hb⟩;exact⟨rfl,hd2,hS.go hs2 (u1.trans (by rw[f1];exact hS.s1.symm)) (u2.trans (by rw[f2];exact hS.s2.symm)) hb⟩
theorem TU(h:xm W gb A1 k1 A2 k2 a w)(hd:a.defers=[]):Gy.wp dS (fun e a' w'=>e=.normal/\a'.defers=[]/\xm W gb A1 k1 A2 k2 a' w') a w:=by
 obtain⟨T,df⟩:=a;obtain rfl:df=[]:=hd;obtain⟨y,rfl,hy⟩:=oa T h.size;have e1:=hy _ _ h.s1;have e2:=hy _ _ h.s2;have hsq:Gy=.seq TR au4:=rfl;rw[hsq];refine wp_seq (Code.wp_mono ?_ (au1 (y:=y)));rintro e a' w' ⟨rfl,hd',hs,t1,t2,t88,t89,t90,hD⟩;have hS:xm W gb A1 k1 A2 k2 a' w':=h.go hs (t1.trans (by rw[e1];exact h.s1.symm)) (t2.trans (by rw[e2];exact h.s2.symm)) hD.bel;obtain⟨T',df⟩:=a';obtain rfl:df=[]:=hd';obtain⟨y',rfl,hy'⟩:=oa T' hs;have f1:=hy' _ _ hS.s1;have f2:=hy' _ _ hS.s2;refine Code.wp_mono ?_ (XT (hy' _ _ t88) (hy' _ _ t89) (hy' _ _ t90) hD);rintro e a2 w2 ⟨rfl,hd2,hs2,u1,u2,hb⟩;exact⟨rfl,hd2,hS.go hs2 (u1.trans (by rw[f1];exact hS.s1.symm)) (u2.trans (by rw[f2];exact hS.s2.symm)) hb⟩
end
theorem XS:iO 2 3 [5,7]=0/\comms [5,7] 2=[1024,16384]/\ky [5,7] 3=[12,19,26]:=by decide+kernel
noncomputable def knT:Code:=(eK 6 iZ).2
theorem au0{W:ae}:Hs dS (fun a w'=>∃gb A1 k1 A2 k2,xm W gb A1 k1 A2 k2 a w') (fun _ _=>False) (eK 6 iZ).1 ⟨#[av,av,av,av,av,av,av,av,av,av,av,av,av,av,av,av,av,av,av,av,av,av,av,av,av,av,av,av,av,av,av,av,av,av,av,av,av,av,av,av,av,av,av,av,av,av,av,av,av,av,av,av,av,av,av,av,av,av,av,av,av,av,av,av,av,av,av,av,av,av,av,av,av,av,av,av,av,av,av,av,av,av,av,av,av,av,av,av,av,av,av,av,av,av,av,av,av,av,av,av,av,av,av,av,av,av,av,av,av,av,av,av,av,av,av,av,av,av,av,av,av,av,av,av,av,av,av,av,av,av,av,av,av,av,av,av,av,av,av,av,av,av,av,av,av,av,av,av,av,av,av,av,av,av,av,av,av,av,av,av,av,av,av,av,av,av,av,av,av,av,av,av,av,av,av,av,av,av,av,av,av,av,av,av,av,av,av,av,av,av,av,av,av,av,av,av,av,av,av,av,av,av,av,av,av,av,av,av,av,av,av,av,av,av,av,av,av,av,av,av,av,av,av,av,av,av,av,av,av,av,av,av,av,av,av,av,av,av,av,av,av,av,av,av,av,av,av,av,av,av,av,av,av,av,av,av,av,av,av,av,av,av,av,av,av,av,av,av,av,av,av],[]⟩ W:=by
 have hls:(eK 6 iZ).1=(eK 3 iZ).1++[GA,Gz,Gy]:=rfl;have HP:=ay fun(gb:Nat) (A1:Option Addr) (k1:Nat) (A2:Option Addr) (k2:Nat) (a:Act) (w:ae) (h:xm W gb A1 k1 A2 k2 a w) (hd:a.defers=[])=>(show Hs dS (fun a w'=>∃gb A1 k1 A2 k2,xm W gb A1 k1 A2 k2 a w') (fun _ _=>False) [GA,Gz,Gy] a w from by
  refine gA (Code.wp_mono ?_ (TX h hd));rintro e a w ⟨rfl,hd,h⟩;refine⟨hd,gA (Code.wp_mono ?_ (TV h hd))⟩;rintro e a w ⟨rfl,hd,h⟩;refine⟨hd,gA (Code.wp_mono ?_ (TU h hd))⟩;rintro e a w ⟨rfl,hd,h⟩;exact⟨hd,gb,A1,k1,A2,k2,h⟩)
 obtain⟨LL,hLL⟩:∃LL,LL=[GA,Gz,Gy]:=⟨_,rfl⟩;rw[hls,<-hLL];rw[<-hLL]at HP;obtain⟨kd0,kd1,kd2⟩:=XS;have hnb:Below W.heap.size W (W.alloc (.cells #[.int .u64 5,.int .u64 7] 40)):=bre.alloc nle _;have aX4:fW .u64 (W.alloc (.cells #[.int .u64 5,.int .u64 7] 40)) (W.alloc (.cells #[.int .u64 5,.int .u64 7] 40)).heap.size (.slice (some ⟨W.heap.size,0,none⟩) 2 2) [5,7]:=by
  have:=fW.lit (k:=.u64) W [5,7] 40
  simpa using this
 have HNB:=ay hnb;have HDE:=ay (U5 2 3 [5,7] _ _ aX4 (by decide) (fun i hi=>by
  have:i=0\/i=1:=by simp at hi<;>omega
  rcases this with rfl|rfl<;>simp))
 clear hls hLL hnb aX4;simp only[iZ,eK,Try.f9,aJ,List.cons_append,List.nil_append];refine gA ?_;go_wp2_with fail
 refine gA ?_;go_wp2_with fail
 refine HDE.out.mono ?_;rintro e w1 ⟨kg,⟨h1,-⟩|⟨-,vc,vs,rfl,h2,h3⟩⟩
 ·exact absurd kd0 h1
 rw[show([5,7]:List Int).length=2 from rfl,kd1]at h2;rw[show(3:Int).toNat=3 from rfl,kd2]at h3;obtain⟨A1,k1,e1⟩:=Lev.kY h2;obtain⟨A2,k2,e2⟩:=Lev.kY h3;subst e1 e2;obtain⟨bc,oc,rfl,hbc,hcc⟩:=(show∃b off,A1=some ⟨b,off,none⟩/\b<w1.heap.size/\∀i,i<2->w1.cell? ⟨b,off+i,none⟩=some (.int .u64 (([1024,16384]:List Int).getD i 0))from by
  obtain⟨A',c',hv,_,h⟩:=h2;cases hv;exact h (by decide))
 obtain⟨bs,os,rfl,hbs,hcs⟩:=(show∃b off,A2=some ⟨b,off,none⟩/\b<w1.heap.size/\∀i,i<3->w1.cell? ⟨b,off+i,none⟩=some (.int .u64 (([12,19,26]:List Int).getD i 0))from by
  obtain⟨A',c',hv,_,h⟩:=h3;cases hv;exact h (by decide))
 have u0:=hcc 0 (by decide);have u1:=hcc 1 (by decide);have v0:=hcs 0 (by decide);have v1:=hcs 1 (by decide);have v2:=hcs 2 (by decide);have HBE:=ay (HNB.out.trans (kg.mono HNB.out.size));have H2:=ay h2;have H3:=ay h3;simp only[List.getD_cons_zero,List.getD_cons_succ,Nat.add_zero,show([1024,16384]:List Int).length=2 from rfl,show([12,19,26]:List Int).length=3 from rfl]at u0 u1 v0 v1 v2 H2 H3;clear h2 h3 hcc hcs kg HDE HNB kd0 kd1 kd2;go_wp2_with fail
 refine gA ?_;go_wp2_with fail
 refine HP.out w1.heap.size (some ⟨bc,oc,none⟩) k1 (some ⟨bs,os,none⟩) k2 _ _ ?_ rfl;have hn:Below w1.heap.size w1 (w1.alloc (.cells #[.int .i64 2,.int .i64 3,.slice (some ⟨bc,oc,none⟩) 2 k1] 31)):=bre.alloc nle _;exact⟨rfl,rfl,rfl,HBE.out.trans (hn.mono HBE.out.size),HBE.out.size,ft.new _ _ _,H2.out.later hn,H3.out.later hn⟩
end Kn
namespace Ppl
open Go.RowKit Pl Mem
def Dj(c:Cm)(j:Nat):Int:=
 if j=0 then IntKind.u8.wrap c.id else if j<5 then IntKind.u8.wrap (c.d/2^(8*(j-1)))else IntKind.u8.wrap (c.e/2^(8*(j-5)))
def nine(c:Cm):List Int:=(bq 9).map (Dj c)
def packed(l:List Cm):List Int:=l.flatMap nine
theorem oZ(c:Cm):(nine c).length=9:=by simp[nine]
theorem DW(l:List Cm):(packed l).length=9*l.length:=by
 induction l with
 |nil=>rfl
 |cons c l ih=>
  show(nine c++packed l).length=_;rw[dG,ih,oZ,List.length_cons];omega
theorem Xm(c:Cm){j:Nat}(h:j<9):(nine c).getD j 0=Dj c j:=by
 unfold nine;rw[aC,bZ,List.getElem?_range h];rfl
theorem yN(l:List Cm){k j:Nat}(hk:k<l.length)(hj:j<9):(packed l).getD (9*k+j) 0=Dj (l.getD k .zero) j:=by
 induction l generalizing k with
 |nil=>simp at hk
 |cons c l ih=>
  show(nine c++packed l).getD _ _=_;cases k with
  |zero=>
   rw[aC,List.getElem?_append_left (by rw[oZ];omega),show 9*0+j=j by omega,<-aC,Xm c hj];rfl
  |succ k=>
   rw[aC,List.getElem?_append_right (by rw[oZ];omega),oZ,show 9*(k+1)+j-9=9*k+j by omega,<-aC,ih (by simpa using hk)];rfl
def Pre(l:List Cm)(cs:Array af)(p:Nat):Prop:=cs.size=9*l.length/\∀i,i<p->cs[i]?=some (.int .u8 ((packed l).getD i 0))
theorem Pre.step{l:List Cm}{cs:Array af}{p:Nat}(h:Pre l cs p)(hp:p<9*l.length){x:Int}(hx:x=(packed l).getD p 0):Pre l (cs.setIfInBounds p (.int .u8 x)) (p+1):=by
 refine⟨by rw[Array.size_setIfInBounds];exact h.1,fun i hi=>?_⟩;rw[Array.getElem?_setIfInBounds];by_cases e:p=i
 ·subst e;rw[if_pos rfl,if_pos (by rw[h.1];exact hp),hx]
 ·rw[if_neg e];exact h.2 i (by omega)
theorem Pre.zero(l:List Cm){cs:Array af}(h:cs.size=9*l.length):Pre l cs 0:=⟨h,fun i hi=>absurd hi (by omega)⟩
end Ppl
namespace Pak
open Go.RowKit Pl uU Mem Ppl ng
theorem OP:(Try.prog.info? 5).map (fun i=>(i.zero,i.size,i.bytes))=some (some (.int .u8 0),1,1):=kr
def rB(l:List Cm)(w:ae)(p:Nat)(wr:ae):Prop:=∃cs:Array af,ft wr w.heap.size 5 cs/\Pre l cs p/\Below w.heap.size w wr
theorem rB.lay{l:List Cm}{w wr:ae}{p:Nat}(h:rB l w p wr)(hp:p<9*l.length){x:Int}(hx:x=(packed l).getD p 0):rB l w (p+1) (wr.setCell ⟨w.heap.size,p,none⟩ (.int .u8 x)):=by
 obtain⟨cs,hb,hpre,fM⟩:=h;exact⟨_,hb.iM p _,hpre.step hp hx,fM.setCell nle _⟩
theorem rB.alloc{l:List Cm}{w wr:ae}{p:Nat}(h:rB l w p wr)(o:Obj):rB l w p (wr.alloc o):=by
 obtain⟨cs,hb,hpre,fM⟩:=h;exact⟨cs,hb.alloc o,hpre,fM.alloc fM.size o⟩
theorem rB.cell{l:List Cm}{w wr:ae}{p:Nat}(h:rB l w p wr){i:Nat}(hi:i<9*l.length):(wr.cell? ⟨w.heap.size,i,none⟩).isSome=true/\wr.frozen? ⟨w.heap.size,i,none⟩=false:=by
 obtain⟨cs,hb,hpre,fM⟩:=h;refine⟨?_,hb.frozen i⟩;rw[hb.cell i,Array.getElem?_eq_getElem (by rw[hpre.1];exact hi)];rfl
theorem rB.lt{l:List Cm}{w wr:ae}{p:Nat}(h:rB l w p wr):w.heap.size<wr.heap.size:=h.choose_spec.1.lt
theorem NJ(l:List Cm)(v:af)(w:ae)(hv:lI w w.heap.size v l)(hl:l.length<=65536)
  (hb:∀i,i<l.length->(0<=(l.getD i .zero).d/\(l.getD i .zero).d<18446744073709551616)/\(0<=(l.getD i .zero).e/\(l.getD i .zero).e<18446744073709551616)):
  Calls dS 16 #[v] w fun e w'=>e=.returned (.string (strOfNums (packed l)))/\Below w.heap.size w w':=by
 obtain⟨A,c,rfl⟩:=hv.shape;have HV:=ay hv;have HB:=ay hb;have m9:IntKind.i64.wrap (9*(l.length:Int))=((9*l.length:Nat):Int):=by rw[cE];omega
 clear hv hb;obtain⟨i0,hi,hz0,hz1,hz2⟩:=info_parts OP;go_enter Try.func16,Try.ntmps16
 go_wp2_with (refine wpList_make_row _ rfl _ _ 72 rfl 5 i0 (.int .u8 0) Try.underlying72 hi hz0 hz1 rfl .i64 .i64 (9*l.length) (by go_simp) (by go_simp) (by rw[hz2];omega) (by omega) ?_)
 go_loopw [16] (fun i wr=>∃k:Nat,k<=l.length/\i=.int .i64 k/\rB l w (9*k) wr) (fun i _=>l.length-(intOf i).toNat)
 case atStart=>
  refine⟨0,by omega,rfl,_,ft.new _ _ _,Pre.zero l ?_,bre.alloc nle _⟩;simp[madeCells]
 case round=>
  obtain⟨k,hk,rfl,hinv⟩:=hrel;by_cases hlt:k<l.length
  ·obtain⟨b,off,rfl,hb,hc⟩:=HV.out.at_ (by omega);have fM:Below w.heap.size w wr:=hinv.choose_spec.2.2;have zz:=ay fM;obtain⟨x0,x1,x2⟩:=hc k hlt;replace x0:=(fM.cell (p:=⟨b,off+k*3,none⟩) hb).trans x0;replace x1:=(fM.cell (p:=⟨b,off+k*3+1,none⟩) hb).trans x1;replace x2:=(fM.cell (p:=⟨b,off+k*3+2,none⟩) hb).trans x2;have hbd:=HB.out k hlt;have e0:Hid ((l.getD k .zero).id%256=(packed l).getD (9*k) 0):=by
    show _=(packed l).getD (9*k) 0;rw[<-IntKind.wrap_u8];exact(yN l hlt (j:=0) (by omega)).symm
   have e1:Hid (∀j,j<4->(l.getD k .zero).d/2^(8*j)%256=(packed l).getD (9*k+1+j) 0):=by
    show∀j,_;intro j hj;rw[<-IntKind.wrap_u8,Nat.add_assoc,yN l hlt (j:=1+j) (by omega),Dj,if_neg (by omega),if_pos (by omega),show 1+j-1=j by omega]
   have e2:Hid (∀j,j<4->(l.getD k .zero).e/2^(8*j)%256=(packed l).getD (9*k+5+j) 0):=by
    show∀j,_;intro j hj;rw[<-IntKind.wrap_u8,Nat.add_assoc,yN l hlt (j:=5+j) (by omega),Dj,if_neg (by omega),if_neg (by omega),show 5+j-5=j by omega]
   obtain⟨⟨D0,D1⟩,E0,E1⟩:=hbd;have HP:=ay hinv;have cc7:=hinv.lt;have h0c:=hinv.cell (i:=9*k) (by omega);obtain⟨u0,hu0⟩:=Option.isSome_iff_exists.1 h0c.1;have hz0:=h0c.2;have Ht:¬wr.heap.size=w.heap.size:=by omega
   have hn2:¬w.heap.size=wr.heap.size:=by omega
   clear hc hinv fM h0c;generalize(l.getD k .zero).id=x at*;generalize(l.getD k .zero).d=D at*;generalize(l.getD k .zero).e=E at*;have s9:IntKind.i64.wrap (9*(k:Int))=((9*k:Nat):Int):=by rw[cE];omega
   have s1:IntKind.i64.wrap (((9*k:Nat):Int)+1)=((9*k+1:Nat):Int):=by rw[cE];omega
   have Zy:IntKind.i64.wrap (((9*k:Nat):Int)+9)=((9*k+9:Nat):Int):=by rw[cE];omega
   have i0':∀W,(Instr.index 73 (.agg #[.int .u64 D,.int .u64 E]) (.int .i64 0)).run dS W=.ok (.int .u64 D) W:=fun _=>by kernel_rfl
   have i1':∀W,(Instr.index 73 (.agg #[.int .u64 D,.int .u64 E]) (.int .i64 1)).run dS W=.ok (.int .u64 E) W:=fun _=>by kernel_rfl
   go_wp2_with fail
   go_loopw [6,41] (fun p i wr=>∃m:Nat,m<=2/\i=.int .i64 m/\p=.slice (some ⟨w.heap.size,9*k,none⟩) (1+4*m) 9/\rB l w (9*k+1+4*m) wr) (fun _ i _=>(2-intOf i).toNat)
   case atStart=>
    refine⟨0,by omega,rfl,by congr 1<;>omega,?_⟩;exact(HP.out.lay (by omega) e0.out).alloc _
   case round=>
    obtain⟨m,hm,rfl,rfl,hinv⟩:=hrel;have HP2:=ay hinv;clear hinv hu0 hz0;by_cases hm2:m<2
    ·have hX:Hid (∃X,(bU .u64 X=if m=0 then .int .u64 D else .int .u64 E)/\0<=X/\X<18446744073709551616/\∀j,j<4->X/2^(8*j)%256=(packed l).getD (9*k+1+4*m+j) 0):=by
      show∃X,_;have:m=0\/m=1:=by omega
      rcases this with rfl|rfl
      ·exact⟨D,by rw[if_pos rfl],D0,D1,e1.out⟩
      ·exact⟨E,by rw[if_neg (by omega)],E0,E1,e2.out⟩
     obtain⟨X,hXe,X0,X1,hXb⟩:=hX.out;have HXB:=ay hXb;have hidx:∀W,(Instr.index 73 (.agg #[.int .u64 D,.int .u64 E]) (.int .i64 m)).run dS W=.ok (.int .u64 X) W:=by
      intro W;have:m=0\/m=1:=by omega
      rcases this with rfl|rfl
      ·rw[if_pos rfl]at hXe;rw[hXe];exact i0' W
      ·rw[if_neg (by omega)]at hXe;rw[hXe];exact i1' W
     clear hXb hX hXe i0' i1' e1 e2 e0;go_wp2_with fail
     go_loopw [6,44] (fun p i wr=>∃j:Nat,j<=4/\i=.int .i64 j/\p=.slice (some ⟨w.heap.size,9*k,none⟩) (1+4*m+j) 9/\rB l w (9*k+1+4*m+j) wr) (fun _ i _=>(4-intOf i).toNat)
     case atStart=>exact⟨0,by omega,rfl,rfl,HP2.out⟩
     case round=>
      obtain⟨j,hj,rfl,rfl,hinv⟩:=hrel;have HP3:=ay hinv;clear hinv;by_cases hj4:j<4
      ·have s8:IntKind.i64.wrap (8*(j:Int))=8*(j:Int):=by rw[cE];omega
       have n8:(8*(j:Int)).toNat=8*j:=by omega
       have p8:(0:Int)<=8*(j:Int):=by omega
       have hce:=HP3.out.cell (i:=9*k+(1+4*m+j)) (by omega);obtain⟨u1,hu1⟩:=Option.isSome_iff_exists.1 hce.1;have hz3:=hce.2;have hn3:=HP3.out.lt;have hn4:¬w.heap.size=wr.heap.size:=by omega
       clear hce;go_wp2_with fail
       refine⟨⟨j+1,by omega,by go_num,by congr 1,?_⟩,by simp[intOf]<;>omega⟩;rw[show 9*k+(1+4*m+j)=9*k+1+4*m+j by omega];exact(HP3.out.lay (by omega) (HXB.out j hj4)).alloc _
      ·obtain rfl:j=4:=by omega
       go_wp2_with fail
       refine⟨⟨m+1,by omega,by go_num,rfl,?_⟩,by simp[intOf]<;>omega⟩;rw[show 9*k+1+4*(m+1)=9*k+1+4*m+4 by omega];exact HP3.out
    ·obtain rfl:m=2:=by omega
     go_wp2_with fail
     refine⟨⟨k+1,by omega,by go_num,?_⟩,by simp[intOf]<;>omega⟩;rw[show 9*(k+1)=9*k+1+4*2 by omega];exact HP2.out
  ·obtain rfl:k=l.length:=by omega
   obtain⟨cs,hblk,hpre,fM⟩:=hinv;have hcv:=run_convert_bytes_arg (P:=dS) wr 72 5 Try.underlying72 Try.underlying5 w.heap.size 0 (9*l.length) (9*l.length) (packed l) (DW l)
    (fun i hi=>by rw[cZ,hblk.cell i];exact hpre.2 i hi) 9 Try.underlying9
   go_wp2_with fail
   go_ret
   exact⟨rfl,fM⟩
end Pak
namespace Upl
open Go.RowKit Pl Mem
theorem rz(s:ByteArray)(k:Nat):0<=gY s k/\gY s k<256:=by
 unfold gY;split
 ·have:=(s[k]).toNat_lt;omega
 ·omega
theorem xb(s:ByteArray)(k:Nat)(h:k<s.size):((s[k]'h).toNat:Int)=gY s k:=by unfold gY;rw[dif_pos h]
def M7(s:ByteArray)(k:Nat)(t:ByteArray):Prop:=t.size+9*k=s.size/\∀i,gY t i=gY s (9*k+i)
theorem Dl(t:ByteArray)(i n:Nat)(h:n<=t.size):gY (t.extract n t.size) i=gY t (n+i):=by
 unfold gY;by_cases hi:n+i<t.size
 ·rw[dif_pos hi,dif_pos (by simp<;>omega)];congr 1;simp[ByteArray.getElem_extract]
 ·rw[dif_neg hi,dif_neg (by simp<;>omega)]
theorem size_extract(t:ByteArray)(n:Nat):(t.extract n t.size).size=t.size-n:=by simp
theorem M7.zero(s:ByteArray):M7 s 0 s:=⟨by omega,fun i=>by rw[Nat.mul_zero,cZ]⟩
theorem M7.next{s t:ByteArray}{k:Nat}(h:M7 s k t)(h9:9<=t.size):M7 s (k+1) (t.extract 9 t.size):=by
 refine⟨by rw[size_extract];have:=h.1;omega,fun i=>?_⟩;rw[Dl t i 9 h9,h.2];congr 1;omega
def num(s:ByteArray)(p:Nat):Nat->Int
 |0=>0
 |j+1=>num s p j+gY s (p+j)*256^j
theorem Td(s:ByteArray)(p j:Nat):0<=num s p j/\num s p j<256^j:=by
 induction j with
 |zero=>unfold num;simp
 |succ j ih=>
  have hb:=rz s (p+j);have hp:(0:Int)<256^j:=Int.pow_pos (by omega);have h1:0<=gY s (p+j)*256^j:=Int.mul_nonneg hb.1 (by omega);have h2:gY s (p+j)*256^j<=255*256^j:=Int.mul_le_mul_of_nonneg_right (by omega) (by omega);rw[num,Int.pow_succ];omega
theorem NP(s:ByteArray)(p:Nat):0<=num s p 4/\num s p 4<4294967296:=by
 have:=Td s p 4
 have e:(256:Int)^4=4294967296:=rfl;rw[e]at this;exact this
theorem al7(x b:Int)(j:Nat)(hj:j<4)(hx:0<=x/\x<256^j)(hb:0<=b/\b<256):
  bits BinOp.or IntKind.u64 x (b*2^(8*j))=x+b*256^j:=by
 obtain⟨X,rfl⟩:=Int.eq_ofNat_of_zero_le hx.1;obtain⟨B,rfl⟩:=Int.eq_ofNat_of_zero_le hb.1;have hp:(2:Int)^(8*j)=256^j:=by rw[Int.pow_mul];rfl
 have hpn:(2:Nat)^(8*j)=256^j:=by rw[Nat.pow_mul]
 have hc:(256:Int)^j=((256^j:Nat):Int):=by rw[Int.natCast_pow];rfl
 have hX:X<256^j:=by have:=hx.2;rw[hc]at this;exact Int.ofNat_lt.1 this
 have hle:256^j<=16777216:=by
  have:j=0\/j=1\/j=2\/j=3:=by omega
  rcases this with rfl|rfl|rfl|rfl<;>decide
 have hm:B*256^j<=255*16777216:=Nat.mul_le_mul (by omega) hle;have e:=bits_or_u64_nat X (B*256^j) (by omega) (by omega);have c:((B*256^j:Nat):Int)=(B:Int)*256^j:=by rw[Int.natCast_mul,hc]
 rw[hp,<-c,e];have h2:X|||B*256^j=X+B*256^j:=by
  rw[Nat.or_comm,Nat.mul_comm,<-hpn,<-Nat.two_pow_add_eq_or_of_lt (by rw[hpn];exact hX)];omega
 rw[h2,Int.natCast_add]
theorem NK(s:ByteArray)(p j:Nat)(hj:j<4):bits BinOp.or IntKind.u64 (num s p j) (IntKind.u64.wrap (gY s (p+j)*2^(8*j)))=num s p (j+1):=by
 have hb:=rz s (p+j);have hw:IntKind.u64.wrap (gY s (p+j)*2^(8*j))=gY s (p+j)*2^(8*j):=by
  have:j=0\/j=1\/j=2\/j=3:=by omega
  have e0:(2:Int)^(8*0)=1:=rfl;have e1:(2:Int)^(8*1)=256:=rfl;have e2:(2:Int)^(8*2)=65536:=rfl;have e3:(2:Int)^(8*3)=16777216:=rfl;rcases this with rfl|rfl|rfl|rfl
  ·rw[e0];exact ny (by omega) (by omega)
  ·rw[e1];exact ny (by omega) (by omega)
  ·rw[e2];exact ny (by omega) (by omega)
  ·rw[e3];exact ny (by omega) (by omega)
 rw[hw,al7 _ _ j hj (Td s p j) hb,num]
def piece(s:ByteArray)(k:Nat):Cm:=⟨gY s (9*k),num s (9*k+1) 4,num s (9*k+5) 4⟩
def Lm(s:ByteArray)(k:Nat):Int:=
 if(piece s k).id<1\/9<(piece s k).id then 5 else if 0<k/\(piece s k).id<=(piece s (k-1)).id then 6
 else if jx (piece s k).d=false\/jx (piece s k).e=false then 3 else 0
def mL(s:ByteArray):Nat->Int
 |0=>0
 |k+1=>if mL s k=0 then Lm s k else mL s k
def Nn(s:ByteArray):Int:=if s.size%9=0/\s.size<=81 then mL s (s.size/9)else 13
def pieces(s:ByteArray)(k:Nat):List Cm:=(bq k).map (piece s)
theorem vX(s:ByteArray)(k:Nat):(pieces s k).length=k:=by simp[pieces]
theorem IJ(s:ByteArray)(k:Nat):pieces s (k+1)=pieces s k++[piece s k]:=by simp[pieces,List.range_succ]
theorem Ig(s:ByteArray){j k:Nat}(h:j<=k)(hj:mL s j≠0):mL s k=mL s j:=by
 induction k with
 |zero=>
  obtain rfl:j=0:=by omega
  rfl
 |succ k ih=>
  rcases bw k j with hlt|hge
  ·obtain rfl:j=k+1:=by omega
   rfl
  ·rw[mL,ih hge,if_neg hj]
theorem ah6(s:ByteArray){k:Nat}{x:Int}(h1:s.size%9=0)(h2:s.size<=81)(hk:9*k<s.size)(h0:mL s k=0)(hx:Lm s k=x)(hn:x≠0):Nn s=x:=by
 unfold Nn;rw[if_pos ⟨h1,h2⟩,Ig s (j:=k+1) (by omega) (by rw[mL,if_pos h0,hx];exact hn),mL,if_pos h0,hx]
theorem ah5(s:ByteArray){k:Nat}(h1:s.size%9=0)(h2:s.size<=81)(hk:9*k=s.size)(h0:mL s k=0):Nn s=0:=by
 unfold Nn;rw[if_pos ⟨h1,h2⟩,show s.size/9=k by omega,h0]
theorem Nl(s:ByteArray)(h:¬(s.size%9=0/\s.size<=81)):Nn s=13:=by unfold Nn;rw[if_neg h]
end Upl
namespace Unp
open Go.RowKit Pl uU Mem Upl ng
def Cr(s:ByteArray):Nat->Int
 |0=>0
 |k+1=>(piece s k).id
def strSize:af->Nat
 |.string t=>t.size
 |_=>0
def ba5(s:ByteArray)(w:ae)(x v l:af)(wr:ae):Prop:=
 ∃(k:Nat) (t:ByteArray),x=.string t/\M7 s k t/\mL s k=0/\l=.int .i64 (Cr s k)/\wr.ownsRow w.heap.size 52 3 v k (eX (pieces s k))/\Below w.heap.size w wr
def Du(s:ByteArray)(w:ae)(e:Ending)(w':ae):Prop:=
 Below w.heap.size w w'/\
 ((Nn s≠0/\e=.returned (.tuple #[.slice none 0 0,.int .i64 (Nn s)]))\/
  (Nn s=0/\∃v,e=.returned (.tuple #[v,.int .i64 0])/\lI w' w'.heap.size v (pieces s (s.size/9))))
theorem CB:(Try.prog.info? 52).map (fun i=>(i.zero,i.size,i.bytes))=some (some (.agg #[.int .i64 0,.int .u64 0,.int .u64 0]),3,24):=kr
theorem Np(s:ByteArray)(w:ae)(hs:s.size<=maxLen):
  Calls dS 21 #[.string s] w (Du s w):=by
 unfold maxLen at hs;by_cases c1:s.size%9=0;case neg=>
  have hE:=ay (Nl s (fun h=>c1 h.1));have t1:(((s.size:Int)%9) != 0)=true:=by rw[bne_iff_ne];omega
  go_enter Try.func21,Try.ntmps21
  go_wp2_with fail
  go_ret2
  exact⟨Below.refl _ _,.inl ⟨by rw[hE.out];omega,by rw[hE.out];rfl⟩⟩
 have t1:(((s.size:Int)%9) != 0)=false:=by rw[bne_eq_false_iff_eq];omega
 by_cases c2:81<s.size;case pos=>
  have hE:=ay (Nl s (fun h=>by omega));clear c1;go_enter Try.func21,Try.ntmps21
  go_wp2_with fail
  go_ret2
  exact⟨Below.refl _ _,.inl ⟨by rw[hE.out];omega,by rw[hE.out];rfl⟩⟩
 have C1:=ay c1;clear c1;obtain⟨i0,hi,hz0,hz1,hz2⟩:=info_parts CB;go_enter Try.func21,Try.ntmps21
 go_wp2_with fail
 go_loopw [0,4,5] (fun x v l wr=>ba5 s w x v l wr) (fun x _ _ _=>strSize x)
 case atStart=>exact⟨0,s,rfl,M7.zero s,rfl,rfl,World.ownsRow_nil _ _ _ _,Below.refl _ _⟩
 case round=>
  obtain⟨k,t,rfl,T8,Um,rfl,hown,fM⟩:=hrel;have HT:=ay T8;have HE:=ay Um;have HO:=ay hown;have hsz:=T8.1;clear T8 Um hown;by_cases h0:t.size=0
  ·have hl:t.toList=[]:=by
    rw[ByteArray.toList_eq];exact List.eq_nil_of_length_eq_zero (by rw[Array.length_toList];exact h0)
   have hk:9*k=s.size:=by omega
   have HU:=ay (ah5 s C1.out (by omega) hk HE.out);have hk9:Hid (s.size/9=k):=by
    show s.size/9=k;omega
   have hcm:=lI.own (l:=pieces s k) (by rw[vX];exact HO.out);have HCM:=ay hcm;clear hcm hk;go_wp2_with fail
   go_ret2
   exact⟨fM,.inr ⟨HU.out,_,rfl,by rw[hk9.out];exact HCM.out⟩⟩
  ·have h9:9<=t.size:=by have:=C1.out;omega
   have hl:t.toList.isEmpty=false:=by
    rw[ByteArray.toList_eq];cases h:t.data.toList with
    |nil=>exact absurd (show t.data.size=0 by rw[<-Array.length_toList,h];rfl) h0
    |cons a l=>rfl
   have hb0:((t[0]'(by omega)).toNat:Int)=gY s (9*k):=by rw[xb,HT.out.2,Nat.add_zero]
   have bd0:=rz s (9*k);obtain⟨wo,rfl⟩:∃wo:ae,wo=wr:=⟨_,rfl⟩;clear h0;go_wp2_with fail
   go_loopw [29] (fun i wr=>∃j:Nat,j<=4/\i=.int .i64 j/\ft wr wo.heap.size 52 #[.int .i64 (gY s (9*k)),.int .u64 (num s (9*k+1) j),.int .u64 (num s (9*k+5) j)]/\Below wo.heap.size wo wr) (fun i _=>(4-intOf i).toNat)
   case atStart=>exact⟨0,by omega,rfl,by first|exact ft.new _ _ _|simpa [num]using ft.new wo 52 #[.int .i64 (gY s (9*k)),.int .u64 0,.int .u64 0],eB _ _⟩
   case round=>
    obtain⟨j,hj,rfl,hblk,mV⟩:=hrel;have hc1:wr.cell? ⟨wo.heap.size,1,none⟩=some (.int .u64 (num s (9*k+1) j)):=hblk.cell 1;have hc2:wr.cell? ⟨wo.heap.size,2,none⟩=some (.int .u64 (num s (9*k+5) j)):=hblk.cell 2;have QL:=hblk.frozen 1;have hf2:=hblk.frozen 2;by_cases hj4:j<4
    ·have hb1:((t[1+j]'(by omega)).toNat:Int)=gY s (9*k+1+j):=by rw[xb,HT.out.2,Nat.add_assoc]
     have xp:((t[5+j]'(by omega)).toNat:Int)=gY s (9*k+5+j):=by rw[xb,HT.out.2,Nat.add_assoc]
     have bd1:=rz s (9*k+1+j);have bd5:=rz s (9*k+5+j);have s1:IntKind.i64.wrap (1+(j:Int))=1+(j:Int):=by rw[cE];omega
     have s5:IntKind.i64.wrap (5+(j:Int))=5+(j:Int):=by rw[cE];omega
     have s8:IntKind.i64.wrap (8*(j:Int))=8*(j:Int):=by rw[cE];omega
     have n1:(1+(j:Int)).toNat=1+j:=by omega
     have n5:(5+(j:Int)).toNat=5+j:=by omega
     have n8:(8*(j:Int)).toNat=8*j:=by omega
     have p1:(0:Int)<=1+(j:Int):=by omega
     have p5:(0:Int)<=5+(j:Int):=by omega
     have p8:(0:Int)<=8*(j:Int):=by omega
     have q1:1+(j:Int)<(t.size:Int):=by omega
     have q5:5+(j:Int)<(t.size:Int):=by omega
     have q8:8*(j:Int)<=64:=by omega
     have v1:Hid (bits BinOp.or IntKind.u64 (num s (9*k+1) j) (IntKind.u64.wrap (gY s (9*k+1+j)*2^(8*j)))=num s (9*k+1) (j+1)):=by
      show bits BinOp.or IntKind.u64 (num s (9*k+1) j) _=_;exact NK s _ j hj4
     have v5:Hid (bits BinOp.or IntKind.u64 (num s (9*k+5) j) (IntKind.u64.wrap (gY s (9*k+5+j)*2^(8*j)))=num s (9*k+5) (j+1)):=by
      show bits BinOp.or IntKind.u64 (num s (9*k+5) j) _=_;exact NK s _ j hj4
     go_wp2_with fail
     go_region
     all_goals
      go_wp2_with fail
      go_region
      all_goals
       go_wp2_with fail
       refine⟨⟨j+1,by omega,by go_num,?_,?_⟩,by simp[intOf]<;>omega⟩;case refine_2=>
        have hq:∀x y:af,Below wo.heap.size wo ((wr.setCell ⟨wo.heap.size,1,none⟩ x).setCell ⟨wo.heap.size,2,none⟩ y):=fun x y=>(mV.setCell (p:=⟨wo.heap.size,1,none⟩) nle x).setCell (p:=⟨wo.heap.size,2,none⟩) nle y;first|exact hq _ _|exact below_drewN (hq _ _) 2|exact((hq _ _).drew).drew
       rw[v1.out,v5.out];exact(hblk.iM 1 (.int .u64 (num s (9*k+1) (j+1)))).iM 2 (.int .u64 (num s (9*k+5) (j+1)))
    ·obtain rfl:j=4:=by omega
     have zf:=fM.trans (mV.mono fM.size);have hOF:=jc HO.out mV nle;have HOF:=ay hOF;have bdd:=NP s (9*k+1);have bde:=NP s (9*k+5);have hc0:wr.cell? ⟨wo.heap.size,0,none⟩=some (.int .i64 (gY s (9*k))):=hblk.cell 0;have Q3:Hid (Lm s k=if gY s (9*k)<1\/9<gY s (9*k)then 5 else if 0<k/\gY s (9*k)<=(piece s (k-1)).id then 6
      else if jx (num s (9*k+1) 4)=false\/jx (num s (9*k+5) 4)=false then 3 else 0):=by
      show Lm s k=_;rfl
     have ePc:Hid (piece s k=⟨gY s (9*k),num s (9*k+1) 4,num s (9*k+5) 4⟩):=by
      show piece s k=_;rfl
     have fin:∀x:Int,Lm s k=x->x≠0->Hid (Nn s=x):=fun x hx hn=>ah6 s C1.out (by omega) (by omega) HE.out hx hn;have RY:=ay fin;have hlast:Hid (Cr s k=if 0<k then(piece s (k-1)).id else 0):=by
      show Cr s k=_;cases k with
      |zero=>rfl
      |succ k=>rfl
     clear fin hOF hb0;generalize gY s (9*k)=x at*;generalize num s (9*k+1) 4=D at*;generalize num s (9*k+5) 4=E at*;generalize hLL:Cr s k=L at*;have HLL:=ay hLL;clear hLL;obtain⟨D0,D1⟩:=bdd;obtain⟨E0,E1'⟩:=bde;by_cases d1:x<1\/9<x;case pos=>
      have hF:=RY.out 5 (by rw[Q3.out,if_pos d1]) (by omega);rcases d1 with d1|d1
      ·go_wp2_with fail
       go_ret2
       exact⟨zf,.inl ⟨by rw[hF.out];omega,by rw[hF.out];rfl⟩⟩
      ·have d2:¬x<1:=by omega
       go_wp2_with fail
       go_ret2
       exact⟨zf,.inl ⟨by rw[hF.out];omega,by rw[hF.out];rfl⟩⟩
     have d2:¬x<1:=by omega
     have d3:¬9<x:=by omega
     have ac2:x<=L↔(0<k/\x<=(piece s (k-1)).id):=by
      rw[hlast.out];by_cases h:0<k
      ·rw[if_pos h];exact⟨fun h'=>⟨h,h'⟩,fun h'=>h'.2⟩
      ·rw[if_neg h];exact⟨fun h'=>by omega,fun h'=>absurd h'.1 h⟩
     have HLI:=ay ac2;clear ac2;by_cases d4:x<=L;case pos=>
      have hF:=RY.out 6 (by rw[Q3.out,if_neg d1,if_pos (HLI.out.1 d4)]) (by omega);clear d1;go_wp2_with fail
      go_ret2
      exact⟨zf,.inl ⟨by rw[hF.out];omega,by rw[hF.out];rfl⟩⟩
     have e3:Lm s k=if jx D=false\/jx E=false then 3 else 0:=by rw[Q3.out,if_neg d1,if_neg (fun h=>d4 (HLI.out.2 h))]
     have a62:(jx D=false\/jx E=false)->Hid (Nn s=3):=fun h=>RY.out 3 (by rw[e3,if_pos h]) (by omega);have Zc:=ay a62;have E3:=ay e3;clear d1 e3 a62;have i0':∀W,(Instr.index 73 (.agg #[.int .u64 D,.int .u64 E]) (.int .i64 0)).run dS W=.ok (.int .u64 D) W:=fun _=>by kernel_rfl
     have i1':∀W,(Instr.index 73 (.agg #[.int .u64 D,.int .u64 E]) (.int .i64 1)).run dS W=.ok (.int .u64 E) W:=fun _=>by kernel_rfl
     go_wp2_with fail
     go_loop [76] (fun i=>(i=.int .i64 0)\/(i=.int .i64 1/\Hid (jx D=true))\/(i=.int .i64 2/\Hid (jx D=true)/\Hid (jx E=true))) (fun i=>(2-intOf i).toNat)
     case atStart=>exact .inl rfl
     case round=>
      rcases hrel with rfl|⟨rfl,hD⟩|⟨rfl,hD,hEE⟩
      ·skip
       obtain⟨b1,e1⟩:∃b,jO D=b:=⟨_,rfl⟩;obtain⟨b2,e2⟩:∃b,(D==1)=b:=⟨_,rfl⟩;have E1:=ay e1;clear e1;cases b1;case false=>
        have hF:=Zc.out (.inl (by unfold jx;rw[E1.out];rfl));cases b2;all_goals
         go_wp2_with (go_at_call 47;refine(mZ _ D _ (by omega) E1.out).mono ?_;rintro e w' ⟨rfl,rfl⟩)
         go_ret2
         exact⟨zf,.inl ⟨by rw[hF.out];omega,by rw[hF.out];rfl⟩⟩
       cases b2;case true=>
        have hF:=Zc.out (.inl (by unfold jx;rw[beq_iff_eq]at e2;rw[e2];simp));go_wp2_with (go_at_call 47;refine(mZ _ D _ (by omega) E1.out).mono ?_;rintro e w' ⟨rfl,rfl⟩)
        go_ret2
        exact⟨zf,.inl ⟨by rw[hF.out];omega,by rw[hF.out];rfl⟩⟩
       have tC:jx D=true:=by unfold jx;rw[E1.out];rw[beq_eq_false_iff_ne]at e2;simp[e2]
       have HG:=ay tC;clear tC;go_wp2_with (go_at_call 47;refine(mZ _ D _ (by omega) E1.out).mono ?_;rintro e w' ⟨rfl,rfl⟩)
       refine⟨.inr (.inl ⟨rfl,HG⟩),by simp[intOf]⟩
      ·skip
       obtain⟨b1,e1⟩:∃b,jO E=b:=⟨_,rfl⟩;obtain⟨b2,e2⟩:∃b,(E==1)=b:=⟨_,rfl⟩;have E1:=ay e1;clear e1;cases b1;case false=>
        have hF:=Zc.out (.inr (by unfold jx;rw[E1.out];rfl));cases b2;all_goals
         go_wp2_with (go_at_call 47;refine(mZ _ E _ (by omega) E1.out).mono ?_;rintro e w' ⟨rfl,rfl⟩)
         go_ret2
         exact⟨zf,.inl ⟨by rw[hF.out];omega,by rw[hF.out];rfl⟩⟩
       cases b2;case true=>
        have hF:=Zc.out (.inr (by unfold jx;rw[beq_iff_eq]at e2;rw[e2];simp));go_wp2_with (go_at_call 47;refine(mZ _ E _ (by omega) E1.out).mono ?_;rintro e w' ⟨rfl,rfl⟩)
        go_ret2
        exact⟨zf,.inl ⟨by rw[hF.out];omega,by rw[hF.out];rfl⟩⟩
       have tC:jx E=true:=by unfold jx;rw[E1.out];rw[beq_eq_false_iff_ne]at e2;simp[e2]
       have HG:=ay tC;clear tC;go_wp2_with (go_at_call 47;refine(mZ _ E _ (by omega) E1.out).mono ?_;rintro e w' ⟨rfl,rfl⟩)
       refine⟨.inr (.inr ⟨rfl,hD,HG⟩),by simp[intOf]⟩
      ·have hst:Hid (mL s (k+1)=0):=by
        show mL s (k+1)=0;rw[mL,if_pos HE.out,E3.out,if_neg];rintro (h|h)
        ·rw[hD.out]at h;cases h
        ·rw[hEE.out]at h;cases h
       have hlt:=hblk.lt;have h81:k<=9:=by omega
       have T9:=ay (HT.out.next h9);have q9:(9:Int)<=(t.size:Int):=by omega
       go_wp2_with (at_builtin;refine wpList_append_own _ rfl (.tmp 93) (.tmp 95) _ rfl w.heap.size 52 i0 (.agg #[.int .i64 0,.int .u64 0,.int .u64 0]) 3 24 Try.underlying26 hi hz0 hz1 hz2 rfl (by decide) _ _ _ rfl (HOF.out.alloc _) ⟨wr.heap.size,0,none⟩ 1 1 [.int .i64 x,.int .u64 D,.int .u64 E] rfl rfl (World.news_of_block (heap_alloc_new _ _)) (by simp[cw]) (by unfold maxLen;omega) (by omega) (by have:=zf.size;simp<;>omega) ?_;intro v1 w1 hown1 hgrow1 _)
       have wK:=jk zf HOF.out zf.size hgrow1;have Ym:w1.ownsRow w.heap.size 52 3 v1 (k+1) (eX (pieces s (k+1))):=by
        rw[IJ,Ag,ePc.out,GX];exact hown1
       have hL1:x=Cr s (k+1):=by
        show x=(piece s k).id;rw[ePc.out]
       have Ry:=ay Ym;have HL1:=ay hL1;clear hown1 hgrow1 Ym hL1;go_wp2_with fail
       refine⟨⟨k+1,_,rfl,T9.out,hst.out,by rw[HL1.out],Ry.out,wK⟩,?_⟩;simp[strSize]<;>omega
end Unp
namespace Kn
open Go.RowKit Pl Mem Cc nG Ppl Upl ng
open Pak (NJ)
section
open Unp (Np Du)
noncomputable def lS:Code:=Try.f32.body.getD .skip
def kS(y:Nat->af):Array af:=#[y 0,y 1,y 2,y 3,y 4,y 5,y 6,y 7,y 8,y 9,y 10,y 11,y 12,y 13,y 14,y 15,y 16,y 17,y 18,y 19,y 20,y 21,y 22,y 23,y 24,y 25,y 26,y 27,y 28,y 29,y 30,y 31,y 32,y 33,y 34,y 35,y 36,y 37,y 38,y 39,y 40,y 41,y 42,y 43,y 44,y 45,y 46,y 47,y 48,y 49,y 50,y 51,y 52,y 53,y 54,y 55,y 56,y 57,y 58,y 59,y 60,y 61,y 62,y 63,y 64,y 65,y 66,y 67,y 68,y 69,y 70,y 71,y 72,y 73,y 74,y 75,y 76,y 77,y 78,y 79,y 80,y 81,y 82,y 83,y 84,y 85,y 86,y 87,y 88,y 89,y 90,y 91,y 92,y 93,y 94,y 95,y 96,y 97,y 98,y 99,y 100,y 101,y 102,y 103,y 104,y 105,y 106,y 107,y 108,y 109,y 110,y 111,y 112,y 113,y 114,y 115,y 116,y 117,y 118]
theorem BK(T:Array af)(h:T.size=119):∃y:Nat->af,T=kS y/\∀i v,T[i]?=some v->y i=v:=by
 refine⟨fun i=>T.getD i av,?_,fun i v hv=>?_⟩
 ·have e:T=((bq 119).map fun i=>T.getD i av).toArray:=by
   refine Array.ext (by simp[h]) fun i h1 h2=>?_;simp[Array.getD,h1]
  exact e.trans rfl
 ·simp only[Array.getD];split
  ·rename_i hlt;rw[Array.getElem?_eq_getElem hlt]at hv;exact Option.some.inj hv
  ·rename_i hlt;rw[Array.getElem?_eq_none (by omega)]at hv;cases hv
noncomputable def XX:Code:=match(eK 4 lS).2 with|.seq a _=>a|_=>.skip
noncomputable def av0:Code:=match XX with|.seq a _=>a|_=>.skip
noncomputable def av4:Code:=match XX with|.seq _ a=>a|_=>.skip
abbrev bf3:=ByteArray×Int×Int
def Rn:List bf3:=[(({data:=#[]}:ByteArray),0,0),(({data:=#[1,4,0,0,0,16,0,0,0]}:ByteArray),1,0),(({data:=#[1,4,0,0,0,16,0,0,0]}:ByteArray)++({data:=#[9,64,0,0,0,4,0,0,0]}:ByteArray),2,0),(({data:=#[1,4,0,0,0,16,0,0,0]}:ByteArray).extract 1 9,0,13),(({data:=#[1,4,0,0,0,16,0,0,0]}:ByteArray)++({data:=#[120]}:ByteArray),0,13),(({data:=#[1,4,0,0,0,16,0,0,0]}:ByteArray)++({data:=#[1,4,0,0,0,16,0,0,0]}:ByteArray)++({data:=#[1,4,0,0,0,16,0,0,0]}:ByteArray)++({data:=#[1,4,0,0,0,16,0,0,0]}:ByteArray)++({data:=#[1,4,0,0,0,16,0,0,0]}:ByteArray)++({data:=#[1,4,0,0,0,16,0,0,0]}:ByteArray)++({data:=#[1,4,0,0,0,16,0,0,0]}:ByteArray)++({data:=#[1,4,0,0,0,16,0,0,0]}:ByteArray)++({data:=#[1,4,0,0,0,16,0,0,0]}:ByteArray)++({data:=#[1,4,0,0,0,16,0,0,0]}:ByteArray),0,13),(({data:=#[0]}:ByteArray)++({data:=#[1,4,0,0,0,16,0,0,0]}:ByteArray).extract 1 9,0,5),(({data:=#[10]}:ByteArray)++({data:=#[1,4,0,0,0,16,0,0,0]}:ByteArray).extract 1 9,0,5),(({data:=#[1,4,0,0,0,16,0,0,0]}:ByteArray)++({data:=#[1,4,0,0,0,16,0,0,0]}:ByteArray),0,6),(({data:=#[9,64,0,0,0,4,0,0,0]}:ByteArray)++({data:=#[1,4,0,0,0,16,0,0,0]}:ByteArray),0,6),(({data:=#[1,1,0,0,0,4,0,0,0]}:ByteArray),0,3),(({data:=#[1,4,0,0,0,2,0,0,0]}:ByteArray),0,3),(({data:=#[1,4,0,0,0,0,0,0,0]}:ByteArray),0,3),(({data:=#[1,255,255,255,255,4,0,0,0]}:ByteArray),0,3),(({data:=#[1,4,0,0,0,16,0,0,0]}:ByteArray)++({data:=#[1,0,0,0,0,0,0,0,0]}:ByteArray),0,6)]
def xd:Array af:=#[.string (({data:=#[]}:ByteArray)),.int .i64 0,.int .i64 0,.string (({data:=#[1,4,0,0,0,16,0,0,0]}:ByteArray)),.int .i64 1,.int .i64 0,.string (({data:=#[1,4,0,0,0,16,0,0,0]}:ByteArray)++({data:=#[9,64,0,0,0,4,0,0,0]}:ByteArray)),.int .i64 2,.int .i64 0,.string (({data:=#[1,4,0,0,0,16,0,0,0]}:ByteArray).extract 1 9),.int .i64 0,.int .i64 13,.string (({data:=#[1,4,0,0,0,16,0,0,0]}:ByteArray)++({data:=#[120]}:ByteArray)),.int .i64 0,.int .i64 13,.string (({data:=#[1,4,0,0,0,16,0,0,0]}:ByteArray)++({data:=#[1,4,0,0,0,16,0,0,0]}:ByteArray)++({data:=#[1,4,0,0,0,16,0,0,0]}:ByteArray)++({data:=#[1,4,0,0,0,16,0,0,0]}:ByteArray)++({data:=#[1,4,0,0,0,16,0,0,0]}:ByteArray)++({data:=#[1,4,0,0,0,16,0,0,0]}:ByteArray)++({data:=#[1,4,0,0,0,16,0,0,0]}:ByteArray)++({data:=#[1,4,0,0,0,16,0,0,0]}:ByteArray)++({data:=#[1,4,0,0,0,16,0,0,0]}:ByteArray)++({data:=#[1,4,0,0,0,16,0,0,0]}:ByteArray)),.int .i64 0,.int .i64 13,.string (({data:=#[0]}:ByteArray)++({data:=#[1,4,0,0,0,16,0,0,0]}:ByteArray).extract 1 9),.int .i64 0,.int .i64 5,.string (({data:=#[10]}:ByteArray)++({data:=#[1,4,0,0,0,16,0,0,0]}:ByteArray).extract 1 9),.int .i64 0,.int .i64 5,.string (({data:=#[1,4,0,0,0,16,0,0,0]}:ByteArray)++({data:=#[1,4,0,0,0,16,0,0,0]}:ByteArray)),.int .i64 0,.int .i64 6,.string (({data:=#[9,64,0,0,0,4,0,0,0]}:ByteArray)++({data:=#[1,4,0,0,0,16,0,0,0]}:ByteArray)),.int .i64 0,.int .i64 6,.string (({data:=#[1,1,0,0,0,4,0,0,0]}:ByteArray)),.int .i64 0,.int .i64 3,.string (({data:=#[1,4,0,0,0,2,0,0,0]}:ByteArray)),.int .i64 0,.int .i64 3,.string (({data:=#[1,4,0,0,0,0,0,0,0]}:ByteArray)),.int .i64 0,.int .i64 3,.string (({data:=#[1,255,255,255,255,4,0,0,0]}:ByteArray)),.int .i64 0,.int .i64 3,.string (({data:=#[1,4,0,0,0,16,0,0,0]}:ByteArray)++({data:=#[1,0,0,0,0,0,0,0,0]}:ByteArray)),.int .i64 0,.int .i64 6]
theorem Ro:∀(j:Nat) (r:bf3),Rn[j]?=some r->xd[j*3]?=some (.string r.1)/\xd[j*3+1]?=some (.int .i64 r.2.1)/\xd[j*3+2]?=some (.int .i64 r.2.2):=by
 intro j r h;have hlt:=(List.getElem?_eq_some_iff.1 h).1;have:j=0\/j=1\/j=2\/j=3\/j=4\/j=5\/j=6\/j=7\/j=8\/j=9\/j=10\/j=11\/j=12\/j=13\/j=14:=by
  have:Rn.length=15:=rfl
  omega
 rcases this with rfl|rfl|rfl|rfl|rfl|rfl|rfl|rfl|rfl|rfl|rfl|rfl|rfl|rfl|rfl<;>(cases h;exact⟨rfl,rfl,rfl⟩)
def Zo(s:ByteArray)(k:Nat):Int:=
 if(piece s k).id<1\/9<(piece s k).id then 5 else if 0<k/\(piece s k).id<=(piece s (k-1)).id then 6
 else if E8 (piece s k).d=false\/E8 (piece s k).e=false then 3 else 0
def BB(s:ByteArray):Nat->Int
 |0=>0
 |k+1=>if BB s k=0 then Zo s k else BB s k
def ah7(s:ByteArray):Int:=if s.size%9=0/\s.size<=81 then BB s (s.size/9)else 13
theorem Wp(s:ByteArray):Nn s=ah7 s:=by
 have:∀k,mL s k=BB s k:=by
  intro k;induction k with
  |zero=>rfl
  |succ k ih=>rw[mL,BB,ih];unfold Lm Zo;rw[vw,vw]
 unfold Nn ah7;rw[this]
theorem YX:∀r∈Rn,Nn r.1=r.2.2/\(r.2.2=0->((r.1.size/9:Nat):Int)=r.2.1)/\(r.2.2≠0->r.2.1=0)/\r.1.size<=1000:=by
 have h:∀r∈Rn,ah7 r.1=r.2.2/\(r.2.2=0->((r.1.size/9:Nat):Int)=r.2.1)/\(r.2.2≠0->r.2.1=0)/\r.1.size<=1000:=by decide+kernel
 intro r hr;rw[Wp];exact h r hr
structure aG1(w:ae)(tb:Nat)(w':ae):Prop where
 bel:Below w.heap.size w w'
 blk:ft w' tb 139 xd
theorem bB1(w:ae):aG1 w w.heap.size (w.drew.alloc (.cells xd 139)):=by
 have hn:Below w.heap.size w (w.drew.alloc (.cells xd 139)):=bre.drew.alloc nle _;exact⟨hn,ft.new w.drew 139 xd⟩
theorem aT9{w:ae}{y:Nat->af}(y1:y 1=.string ⟨#[1,4,0,0,0,16,0,0,0]⟩)(y2:y 2=.string ⟨#[9,64,0,0,0,4,0,0,0]⟩):av0.wp dS (fun e a w'=>e=.normal/\a.defers=[]/\a.tmps.size=119/\a.tmps[72]?=some (.slice (some ⟨w.heap.size,0,none⟩) 15 15)/\a.tmps[73]?=some (.int .i64 15)/\a.tmps[74]?=some (.int .i64 0)/\aG1 w w.heap.size w') ⟨kS y,[]⟩ w:=by
 have HD:=ay (bB1 w);simp only[av0,XX,lS,eK,Try.f32,aJ,kS,y1,y2];go_region_held3 (fun w'=>w'=w'.drew\/True) (first|go_keep|exact .inr trivial) (first|fail)
 all_goals repeat' (first|exact HD.out|exact rfl|refine And.intro ?_ ?_)
theorem av1{w w0:ae}{y:Nat->af}{tb:Nat}(y72:y 72=.slice (some ⟨tb,0,none⟩) 15 15)(y73:y 73=.int .i64 15)(y74:y 74=.int .i64 0)(hD:aG1 w0 tb w):av4.wp dS (fun e a w'=>e=.normal/\a.defers=[]/\a.tmps.size=119/\Below w.heap.size w w') ⟨kS y,[]⟩ w:=by
 have HD:=ay hD;clear hD;simp only[av4,XX,lS,eK,Try.f32,aJ,kS,y72,y73,y74];obtain⟨W,rfl⟩:∃W:ae,W=w:=⟨_,rfl⟩;go_wp2_with fail
 go_loopw [74] (fun i wr=>∃j:Nat,j<=15/\i=.int .i64 j/\Below W.heap.size W wr) (fun i _=>15-(intOf i).toNat)
 case atStart=>exact⟨0,by omega,rfl,Below.refl _ _⟩
 case round=>
  obtain⟨j,hj,rfl,fM⟩:=hrel;by_cases hlt:j<15
  ·obtain⟨r,hr⟩:∃r,Rn[j]?=some r:=⟨Rn[j],aN hlt⟩;obtain⟨c0,c1,c2⟩:=Ro j r hr;have hm:=YX r (b7 hr);have hblk:=HD.out.blk.below fM HD.out.blk.lt;rw[<-hblk.cell]at c0 c1 c2;have HM:=ay hm;have zz:=ay fM;have q1:(j:Int)<15:=by omega
   have q2:(0:Int)<=(j:Int)/\(j:Int)<15:=by omega
   clear hm fM hblk hr;obtain⟨SS,NN,E⟩:=r;simp only at c0 c1 c2 HM;have zL:Below wr.heap.size wr (wr.alloc (.cells #[.string SS,.int .i64 NN,.int .i64 E] 139)):=bre.alloc nle _;have rC:=ay zL;have tH:=ay (ft.new wr 139 #[.string SS,.int .i64 NN,.int .i64 E]);clear zL;go_wp2_with fail
   refine(Np SS _ (by have:=HM.out.2.2.2;unfold maxLen;omega)).mono ?_;rintro e w2 ⟨kg,hres⟩;rw[HM.out.1]at hres;have lU:wr.heap.size<(wr.alloc (.cells #[.string SS,.int .i64 NN,.int .i64 E] 139)).heap.size:=by simp
   have b1:w2.cell? ⟨wr.heap.size,1,none⟩=some (.int .i64 NN):=(kg.cell (p:=⟨wr.heap.size,1,none⟩) lU).trans (tH.out.cell 1);have b2:w2.cell? ⟨wr.heap.size,2,none⟩=some (.int .i64 E):=(kg.cell (p:=⟨wr.heap.size,2,none⟩) lU).trans (tH.out.cell 2);have vJ:=ay (zz.out.trans ((rC.out.trans (kg.mono rC.out.size)).mono zz.out.size));have tEE:(E != E)=false:=by rw[bne_eq_false_iff_eq]
   have h2:=HM.out.2.1;have h3:=HM.out.2.2.1;have n1:wr.heap.size<w2.heap.size:=by have:=kg.size;omega
   generalize wr.heap.size=bx at*;clear kg tH rC zz HM;rcases hres with⟨h1,rfl⟩|⟨h1,v,rfl,hC⟩
   ·have t3:((0:Int) != NN)=false:=by rw[bne_eq_false_iff_eq];exact(h3 h1).symm
    go_wp2_with fail
    exact⟨⟨j+1,by omega,by go_num,vJ.out⟩,by simp[intOf]<;>omega⟩
   ·obtain⟨A2,k2,rfl⟩:=hC.shape;rw[vX];have t3:(((SS.size/9:Nat):Int) != NN)=false:=by rw[bne_eq_false_iff_eq];exact h2 h1
    subst h1;clear hC h2 h3;generalize SS.size/9=LL at*;go_wp2_with fail
    exact⟨⟨j+1,by omega,by go_num,vJ.out⟩,by simp[intOf]<;>omega⟩
  ·obtain rfl:j=15:=by omega
   go_wp2_with fail
   repeat' (first|exact fM|exact rfl|refine And.intro ?_ ?_)
end
noncomputable def au9:Code:=(eK 5 lS).2
theorem XW:nM 1024 ⟨#[109]⟩ 1 0=false/\nM 1 ⟨#[109]⟩ 4 1=false/\nM 2 ⟨#[109]⟩ 4 1=false/\nM 1024 ⟨#[109]⟩ 2 1=false/\nM 1024 ⟨#[109]⟩ 0 0=false:=by
 have h:Ic 1024 ⟨#[109]⟩ 1 0=false/\Ic 1 ⟨#[109]⟩ 4 1=false/\Ic 2 ⟨#[109]⟩ 4 1=false/\Ic 1024 ⟨#[109]⟩ 2 1=false/\Ic 1024 ⟨#[109]⟩ 0 0=false:=by decide+kernel
 rw[qO,qO,qO,qO,qO];exact h
theorem av3{w:ae}{y:Nat->af}:au9.wp dS (bodyPost dS Try.f32 fun e w'=>e=.returned (.bool true)/\Below w.heap.size w w') ⟨kS y,[]⟩ w:=by
 obtain⟨v1,v2,v3,v4,v5⟩:=XW;have c1:=fun w=>uV 1024 ⟨#[109]⟩ 1 0 w (by decide) (by omega) (by omega) (by omega);have c2:=fun w=>uV 1 ⟨#[109]⟩ 4 1 w (by decide) (by omega) (by omega) (by omega);have c3:=fun w=>uV 2 ⟨#[109]⟩ 4 1 w (by decide) (by omega) (by omega) (by omega);have c4:=fun w=>uV 1024 ⟨#[109]⟩ 2 1 w (by decide) (by omega) (by omega) (by omega);have c5:=fun w=>uV 1024 ⟨#[109]⟩ 0 0 w (by decide) (by omega) (by omega) (by omega);rw[v1]at c1;rw[v2]at c2;rw[v3]at c3;rw[v4]at c4;rw[v5]at c5;have C1:=ay c1;have C2:=ay c2;have C3:=ay c3;have C4:=ay c4;have C5:=ay c5;clear v1 v2 v3 v4 v5 c1 c2 c3 c4 c5;simp only[au9,lS,eK,Try.f32,aJ,kS];go_wp2_with fail
 refine(C1.out _).mono ?_;rintro e w1 ⟨rfl,hb1⟩;go_wp2_with fail
 refine(C2.out _).mono ?_;rintro e w2 ⟨rfl,hb2⟩;go_wp2_with fail
 refine(C3.out _).mono ?_;rintro e w3 ⟨rfl,hb3⟩;go_wp2_with fail
 refine(C4.out _).mono ?_;rintro e w4 ⟨rfl,hb4⟩;go_wp2_with fail
 refine(C5.out _).mono ?_;rintro e w5 ⟨rfl,xp⟩;go_wp2_with fail
 refine bodyPost_ret (results_tmp rfl _ _ _) rfl ⟨rfl,?_⟩;have h1:=hb1;have h2:=h1.trans (hb2.mono h1.size);have h3:=h2.trans (hb3.mono h2.size);have h4:=h3.trans (hb4.mono h3.size);exact h4.trans (xp.mono h4.size)
def pkL:List Cm:=[⟨1,4,16⟩,⟨258,1099511627783,2147483648⟩]
def xL:Array af:=#[.int .i64 1,.int .u64 4,.int .u64 16,.int .i64 258,.int .u64 1099511627783,.int .u64 2147483648]
theorem S0:strOfNums (packed [])=⟨#[]⟩/\strOfNums (packed pkL)=⟨#[1,4,0,0,0,16,0,0,0,2,7,0,0,0,0,0,0,128]⟩:=by decide+kernel
theorem WW(w:ae):lI (w.alloc (.cells xL 52)) (w.alloc (.cells xL 52)).heap.size (.slice (some ⟨w.heap.size,0,none⟩) 2 2) pkL:=by
 have hb:=ft.new w 52 xL;exact⟨rfl,_,_,rfl,aH _,fun _=>⟨_,0,rfl,hb.lt,fun j u hu=>by rw[cZ,hb.cell,show xL=(eX pkL).toArray from rfl,List.getElem?_toArray];exact hu⟩⟩
theorem av5{w:ae}{y:Nat->af}:Hs dS (fun x w'=>x.tmps.size=119/\x.tmps[1]?=some (.string ⟨#[1,4,0,0,0,16,0,0,0]⟩)/\x.tmps[2]?=some (.string ⟨#[9,64,0,0,0,4,0,0,0]⟩)/\Below w.heap.size w w') (fun _ _=>False) (eK 4 lS).1 ⟨kS y,[]⟩ w:=by
 have c1:=fun w=>NJ [] (.slice none 0 0) w ⟨rfl,none,0,rfl,aH _,fun h=>absurd h (by simp)⟩ (by decide) (fun i hi=>absurd hi (by simp));have c2:=fun w=>NJ pkL _ _ (WW w) (by decide) (by decide);rw[S0.1]at c1;rw[S0.2]at c2;have C1:=ay c1;have C2:=ay c2;clear c1 c2;simp only[lS,eK,Try.f32,aJ,kS];refine gA ?_;go_wp2_with fail
 refine gA ?_;go_wp2_with fail
 refine(C1.out _).mono ?_;rintro e w1 ⟨rfl,hb1⟩;go_wp2_with fail
 refine(C2.out w1).mono ?_;rintro e w2 ⟨rfl,hb2⟩;go_wp2_with fail
 refine gA ?_;go_wp2_with fail
 refine gA ?_;go_wp2_with fail
 refine⟨rfl,rfl,rfl,?_⟩;have hx:=eB w1 (.cells xL 52);have h2:=hb1.trans (hx.mono hb1.size);exact h2.trans (hb2.mono h2.size)
theorem Nk{P:au}{Q:Exit->Act->ae->Prop}{N:Act->ae->Prop}(T:Code)(k:∀a w,a.defers=[]->N a w->T.wp P Q a w):∀(cs:List Code) (a:Act) (w:ae),a.defers=[]->Hs P N (fun _ _=>False) cs a w->(xH cs T).wp P Q a w
 |[],a,w,hd,h=>k a w hd h
 |c::cs,a,w,hd,h=>wp_seq (Code.wp_mono (fun e a w hq=>by
   cases e with
   |normal=>exact Nk T k cs a w hq.1 hq.2
   |ret=>exact hq.2.elim
   |_=>exact hq.elim) h)
theorem br2(w:ae):lS.wp dS (bodyPost dS Try.f32 fun e w'=>e=.returned (.bool true)/\Below w.heap.size w w') ⟨kS fun _=>av,[]⟩ w:=by
 rw[<-kj 4 lS];refine Nk _ ?_ _ _ _ rfl (av5 (w:=w));rintro ⟨T,df⟩ w1 hd ⟨hs,t1,t2,hb1⟩;obtain rfl:df=[]:=hd;obtain⟨z1,rfl,hz⟩:=BK T hs;rw[show(eK 4 lS).2=.seq (.seq av0 av4) au9 from rfl];refine wp_seq (wp_seq (Code.wp_mono ?_ (aT9 (y:=z1) (hz _ _ t1) (hz _ _ t2))));rintro e ⟨T,df⟩ w2 ⟨rfl,hd,hs,t72,t73,t74,hD⟩;obtain rfl:df=[]:=hd;obtain⟨z2,rfl,hz⟩:=BK T hs;refine Code.wp_mono ?_ (av1 (hz _ _ t72) (hz _ _ t73) (hz _ _ t74) hD);rintro e ⟨T,df⟩ w3 ⟨rfl,hd,hs,hb3⟩;obtain rfl:df=[]:=hd;obtain⟨z3,rfl,hz⟩:=BK T hs;refine Code.wp_mono ?_ (av3 (w:=w3) (y:=z3));have h2:=hb1.trans (hD.bel.mono hb1.size);have h3:=h2.trans (hb3.mono h2.size);intro e a w' h;cases e with
 |normal=>exact⟨h.1,h.2.choose,h.2.choose_spec.1,h.2.choose_spec.2.1,h3.trans (h.2.choose_spec.2.2.mono h3.size)⟩
 |ret=>exact⟨h.1,h.2.choose,h.2.choose_spec.1,h.2.choose_spec.2.1,h3.trans (h.2.choose_spec.2.2.mono h3.size)⟩
 |panic c=>exact absurd h.2.1 (by simp)
 |outgrown=>exact absurd h.1 (by simp)
 |_=>exact h.elim
end Kn
namespace r7
open Go.RowKit Go.MuLone Go.Conc.Locks Pl mJ nG mI uU Mem Ey DI ng RB Lc Chk Lck
structure Only(X:List Nat)(w w':ae):Prop where
 os:w'.os=w.os
 tape:w'.tape=w.tape
 output:w'.output=w.output
 size:w.heap.size<=w'.heap.size
 block:∀k,k<w.heap.size->k∉X->w'.heap[k]?=w.heap[k]?
theorem Only.refl(X:List Nat)(w:ae):Only X w w:=⟨rfl,rfl,rfl,aH _,fun _ _ _=>rfl⟩
theorem Only.trans{X:List Nat}{a b c:ae}(h:Only X a b)(k:Only X b c):Only X a c:=
 ⟨k.os.trans h.os,k.tape.trans h.tape,k.output.trans h.output,Nat.le_trans h.size k.size,fun i hi hx=>(k.block i (Nat.lt_of_lt_of_le hi h.size) hx).trans (h.block i hi hx)⟩
theorem Only.of_below{X:List Nat}{a b:ae}(h:Below a.heap.size a b):Only X a b:=⟨h.os,h.tape,h.output,h.size,fun i hi _=>h.block i hi⟩
theorem Only.EB{X:List Nat}{a b c:ae}(h:Only X a b)(k:Below b.heap.size b c):Only X a c:=h.trans (.of_below k)
theorem Only.iM{X:List Nat}{a b:ae}(h:Only X a b){g:Nat}(hg:g∈X)(i:Nat)(u:af):Only X a (b.setCell ⟨g,i,none⟩ u):=
 h.trans ⟨rfl,rfl,rfl,by simp,fun k hk hx=>ck b ⟨g,i,none⟩ u k (fun e=>hx (by rw[e];exact hg))⟩
theorem Only.pK{X:List Nat}{a b:ae}(h:Only X a b){g:Nat}(hg:a.heap.size<=g)(i:Nat)(u:af):Only X a (b.setCell ⟨g,i,none⟩ u):=
 ⟨h.os,h.tape,h.output,by have:=h.size;simpa using this,fun k hk hx=>(ck b ⟨g,i,none⟩ u k (fun e=>by rw[e]at hk;exact absurd hk (by show¬g<_;omega))).trans (h.block k hk hx)⟩
theorem Only.grown{X:List Nat}{a b c:ae}(h:Only X a b){g:Nat}(hg:g∈X)(k:b.grownBy c (some g)):Only X a c:=
 h.trans ⟨k.os,k.tape,k.output,k.size,fun i hi hx=>k.block i hi (fun e=>hx (by injection e with e;rw[e];exact hg))⟩
theorem Only.alloc{X:List Nat}{a b:ae}(h:Only X a b)(o:Obj):Only X a (b.alloc o):=h.EB (eB _ _)
theorem Only.drew{X:List Nat}{a b:ae}(h:Only X a b):Only X a b.drew:=⟨h.os,h.tape,h.output,h.size,h.block⟩
theorem Only.blk{X:List Nat}{a b:ae}(h:Only X a b){g:Nat}{t:aj}{cs:Array af}(hb:ft a g t cs)(hg:g∉X):ft b g t cs:=(h.block g hb.lt hg).trans hb
def rG(l:Int)(g:Nat)(id share:Int)(M:Nat):Array af:=#[.int .i32 l,.int .u32 0,.pointer (some ⟨g,0,none⟩),.int .i64 id,.int .u64 share,.map (some M)]
structure Loc where
 S:Nat
 g:Nat
 gc:Nat
 cap:Nat
 M:Nat
 base:Nat
def Loc.foot(a:Loc):List Nat:=[a.S,a.g,a.gc,a.M]
structure iH(w:ae)(a:Loc)(s:St):Prop where
 sg:ft w a.S 159 (rG 0 a.g s.id s.share a.M)
 kP:ib w a.g s.t s.n (.slice (some ⟨a.gc,0,none⟩) s.cs.length a.cap) 0 0 s.cs 1
 own:ml w a.base (.slice (some ⟨a.gc,0,none⟩) s.cs.length a.cap) s.cs
 map:lD w a.M s.id s.pl
theorem qU{w w':ae}{base:Nat}{e:aj}{size n gc cap:Nat}{xs:List af}(h:w.ownsRow base e size (.slice (some ⟨gc,0,none⟩) n cap) n xs)(hb:w'.heap[gc]?=w.heap[gc]?):w'.ownsRow base e size (.slice (some ⟨gc,0,none⟩) n cap) n xs:=by
 refine⟨h.1,?_⟩;rcases h.2 with h2|⟨g,cp,cur,hv,hbg,hh,r⟩
 ·exact .inl h2
 ·simp only[Value.slice.injEq,dD,Addr.mk.injEq,and_true,true_and]at hv;obtain⟨rfl,rfl⟩:=hv;exact .inr ⟨gc,cap,cur,rfl,hbg,hb.trans hh,r⟩
theorem al6{w:ae}{base:Nat}{e:aj}{size n gc cap:Nat}{xs:List af}(h:w.ownsRow base e size (.slice (some ⟨gc,0,none⟩) n cap) n xs):base<=gc/\gc<w.heap.size:=h.lt gc rfl
theorem iH.keep{w w':ae}{a:Loc}{s:St}(h:iH w a s)(hb:∀k∈a.foot,w'.heap[k]?=w.heap[k]?):iH w' a s:=by
 refine⟨(hb a.S (by simp[Loc.foot])).trans h.sg,?_,qU h.own (hb a.gc (by simp[Loc.foot])),h.map.of_block (hb a.M (by simp[Loc.foot]))⟩;obtain⟨C,hC,r⟩:=h.kP;exact⟨C,(hb a.g (by simp[Loc.foot])).trans hC,r⟩
theorem iH.lt{w:ae}{a:Loc}{s:St}(h:iH w a s):∀k∈a.foot,k<w.heap.size:=by
 intro k hk;simp[Loc.foot]at hk;rcases hk with rfl|rfl|rfl|rfl
 ·exact h.sg.lt
 ·exact h.kP.lt
 ·exact(al6 h.own).2
 ·exact h.map.lt
theorem iH.apart{w:ae}{a:Loc}{s:St}(h:iH w a s):a.S≠a.g/\a.S≠a.gc/\a.S≠a.M/\a.g≠a.M/\a.gc≠a.M:=by
 obtain⟨C,hC,-⟩:=h.kP;obtain⟨es,cl,hM,-⟩:=h.map;have hS:=h.sg;have hne:∀{g t cs},ft w g t cs->g≠a.M:=fun{g t cs} hg e=>by
  subst e;unfold ft at hg;rw[hM]at hg;cases hg
 refine⟨ft.ne_ hS hC (by decide),?_,hne hS,hne hC,?_⟩
 ·intro e;exact kX h.own hS (by decide) (by rw[e];rfl)
 ·rcases h.own.2 with⟨hv,-⟩|⟨g,cp,cur,hv,_,hh,_⟩
  ·cases hv
  ·simp only[Value.slice.injEq,dD,Addr.mk.injEq,and_true,true_and]at hv;obtain⟨rfl,rfl⟩:=hv;exact hne (t:=79) (cs:=cur) hh
def pF(t n:Int)(cs:List Int)(id share:Int)(w:ae)(e:Ending)(w':ae):Prop:=
 Below w.heap.size w w'/\
 ((newE t n cs id share≠0/\e=.returned (.tuple #[.pointer none,.int .i64 (newE t n cs id share)]))\/
  (newE t n cs id share=0/\∃a:Loc,e=.returned (.tuple #[.pointer (some ⟨a.S,0,none⟩),.int .i64 0])/\iH w' a ⟨t,n,cs,id,share,[]⟩/\∀k∈a.foot,w.heap.size<=k))
theorem jM(t n:Int)(cs:List Int)(v:af)(id share:Int)(w:ae)(hv:fW .u64 w w.heap.size v cs)(hl:cs.length<=65536)(hcb:∀i,i<cs.length->0<=cs.getD i 0)
  (hs:0<=share/\share<18446744073709551616):
  Calls dS 51 #[.agg #[.int .i64 t,.int .i64 n,v],.int .i64 id,.int .u64 share] w (pF t n cs id share w):=by
 have fM:=eB w (.cells #[.int .i64 t,.int .i64 n,v] 31);have Bn:=ay (Vf t n cs v id share _ (hv.later fM) hl hcb hs);have zz:=ay fM;have HV:=ay hv;have Nb:=ay hcb;obtain⟨A,c,rfl,-⟩:=hv;have Rz:=ay (ft.new w 31 #[.int .i64 t,.int .i64 n,.slice A cs.length c]);clear fM hcb hs;obtain⟨bC,hbC⟩:∃b,lW t n cs id share=b:=⟨_,rfl⟩;rw[hbC]at Bn;have HBC:=ay hbC;clear hbC;by_cases h0:iw t n cs id share=0;case neg=>
  have hE:=ay (L3 h0);have HNZ:=ay h0;have hne:(iw t n cs id share != 0)=true:=by rw[bne_iff_ne];exact h0
  generalize iw t n cs id share=x at*;clear h0;go_enter Try.func51,Try.ntmps51
  go_wp2_with fail
  refine Bn.out.mono ?_;rintro e w1 ⟨rfl,hb1⟩;go_wp2_with fail
  go_ret2
  exact⟨zz.out.trans (hb1.mono (by simp)),.inl ⟨by rw[hE.out];exact HNZ.out,by rw[hE.out];rfl⟩⟩
 rw[h0]at Bn;have H0:=ay h0;clear h0;have m0:((0:Int) != 0)=false:=rfl;cases bC;case false=>
  have hE:=ay (L1 H0.out HBC.out);go_enter Try.func51,Try.ntmps51
  go_wp2_with fail
  refine Bn.out.mono ?_;rintro e w1 ⟨rfl,hb1⟩;go_wp2_with fail
  go_ret2
  exact⟨zz.out.trans (hb1.mono (by simp)),.inl ⟨by rw[hE.out];omega,by rw[hE.out];rfl⟩⟩
 have hE:=ay (Xn H0.out HBC.out);have hgo:=(uQ H0.out).1;have RN:=kE hgo;have HGO:=ay hgo;have hcl:0<cs.length:=by omega
 clear hgo RN;have hmm:= @run_makeMap dS;go_enter Try.func51,Try.ntmps51
 go_wp2_with fail
 refine Bn.out.mono ?_;rintro e w1 ⟨rfl,hb1⟩;have Mr:=Rz.out.below hb1 Rz.out.lt;have c0:w1.cell? ⟨w.heap.size,0,none⟩=some (.int .i64 t):=Mr.cell 0;have c1:w1.cell? ⟨w.heap.size,1,none⟩=some (.int .i64 n):=Mr.cell 1;have c2:w1.cell? ⟨w.heap.size,2,none⟩=some (.slice A cs.length c):=Mr.cell 2;have wK:=zz.out.trans (hb1.mono (by simp));have hof:=ay (ofC t n cs _ w1 (HV.out.later wK) hl Nb.out);have HW1:=ay wK;clear wK hb1 Mr Bn;go_wp2_with fail
 refine hof.out.mono ?_;rintro e w2 ⟨hb2,⟨hbad,rfl⟩|⟨hok,g,vc,rfl,hg,hG,hO⟩⟩
 ·rw[HGO.out]at hbad;cases hbad
 have lf:=HW1.out.trans (hb2.mono HW1.out.size);obtain⟨gc,cap,rfl,hgb,-,-,-⟩:=hO.form hcl;have HG:=ay hG;have HO:=ay hO;have HW2:=ay lf;have bD1:=ay HW1.out.size;clear hG hO lf hb2 hok;go_wp2_with fail
 go_ret2
 have ha:Below w2.heap.size w2 (w2.alloc (.map #[] 0)):=eB _ _;have hb:Below w2.heap.size w2 ((w2.alloc (.map #[] 0)).alloc (.cells (rG 0 g id share w2.heap.size) 159)):=ha.alloc (by simp) _;refine⟨HW2.out.trans (hb.mono HW2.out.size),.inr ⟨hE.out,⟨w2.heap.size+1,g,gc,cap,w2.heap.size,w1.heap.size⟩,rfl,⟨jG _ _ (by simp),HG.out.below hb HG.out.lt,jc HO.out hb nle,(lD.new w2 id).of_block (heap_alloc_old _ _ (by simp))⟩,?_⟩⟩;have h1:=HW2.out.size;have h2:=bD1.out;intro k hk;simp[Loc.foot]at hk;omega
theorem WE{w:ae}{S g M:Nat}{id share:Int}(h:ft w S 159 (rG 0 g id share M)):ft (w.setCell ⟨S,0,none⟩ (.int .i32 1)) S 159 (rG 1 g id share M):=h.iM 0 _
theorem WH{w:ae}{S g M:Nat}{id share:Int}(h:ft w S 159 (rG 1 g id share M)):ft (w.setCell ⟨S,0,none⟩ (.int .i32 0)) S 159 (rG 0 g id share M):=h.iM 0 _
structure l6(w:ae)(a:Loc)(s:St):Prop where
 sg:ft w a.S 159 (rG 1 a.g s.id s.share a.M)
 kP:ib w a.g s.t s.n (.slice (some ⟨a.gc,0,none⟩) s.cs.length a.cap) 0 0 s.cs 1
 own:ml w a.base (.slice (some ⟨a.gc,0,none⟩) s.cs.length a.cap) s.cs
 map:lD w a.M s.id s.pl
theorem l6.later{w w':ae}{a:Loc}{s:St}(h:l6 w a s)(hb:Below w.heap.size w w'):l6 w' a s:=
 ⟨h.sg.below hb h.sg.lt,h.kP.below hb h.kP.lt,jc h.own hb nle,h.map.of_block (hb.block _ h.map.lt)⟩
theorem iH.enter{w:ae}{a:Loc}{s:St}(h:iH w a s):l6 (w.setCell ⟨a.S,0,none⟩ (.int .i32 1)) a s:=by
 obtain⟨n1,n2,n3,-,-⟩:=h.apart;have hb:∀k,k≠a.S->(w.setCell ⟨a.S,0,none⟩ (.int .i32 1)).heap[k]?=w.heap[k]?:=fun k hk=>ck _ ⟨a.S,0,none⟩ _ k hk;refine⟨WE h.sg,?_,qU h.own (hb _ (Ne.symm n2)),h.map.of_block (hb _ (Ne.symm n3))⟩;obtain⟨C,hC,r⟩:=h.kP;exact⟨C,(hb _ (Ne.symm n1)).trans hC,r⟩
theorem l6.apart{w:ae}{a:Loc}{s:St}(h:l6 w a s):a.S≠a.g/\a.S≠a.gc/\a.S≠a.M:=by
 obtain⟨C,hC,-⟩:=h.kP;obtain⟨es,cl,hM,-⟩:=h.map;refine⟨ft.ne_ h.sg hC (by decide),fun e=>kX h.own h.sg (by decide) (by rw[e];rfl),fun e=>?_⟩;have hS:=h.sg;unfold ft at hS;rw[e,hM]at hS;cases hS
theorem l6.leave{w:ae}{a:Loc}{s:St}(h:l6 w a s):iH (w.setCell ⟨a.S,0,none⟩ (.int .i32 0)) a s:=by
 obtain⟨n1,n2,n3⟩:=h.apart;have hb:∀k,k≠a.S->(w.setCell ⟨a.S,0,none⟩ (.int .i32 0)).heap[k]?=w.heap[k]?:=fun k hk=>ck _ ⟨a.S,0,none⟩ _ k hk;refine⟨WH h.sg,?_,qU h.own (hb _ (Ne.symm n2)),h.map.of_block (hb _ (Ne.symm n3))⟩;obtain⟨C,hC,r⟩:=h.kP;exact⟨C,(hb _ (Ne.symm n1)).trans hC,r⟩
theorem l6.cells{w:ae}{a:Loc}{s:St}(h:l6 w a s):w.cell? ⟨a.S,0,none⟩=some (.int .i32 1)/\w.cell? ⟨a.S,2,none⟩=some (.pointer (some ⟨a.g,0,none⟩))/\w.cell? ⟨a.S,3,none⟩=some (.int .i64 s.id)/\
  w.cell? ⟨a.S,4,none⟩=some (.int .u64 s.share)/\w.cell? ⟨a.S,5,none⟩=some (.map (some a.M)):=⟨h.sg.cell 0,h.sg.cell 2,h.sg.cell 3,h.sg.cell 4,h.sg.cell 5⟩
theorem m6(a:Loc):a.S∈a.foot:=by simp[Loc.foot]
theorem KP(a:Loc):a.M∈a.foot:=by simp[Loc.foot]
theorem yc(w:ae)(a:Loc)(s:St)(h:iH w a s):
  Calls dS 53 #[.pointer (some ⟨a.S,0,none⟩)] w fun e w'=>e=.returned (.int .i64 s.pl.length)/\iH w' a s/\Only a.foot w w':=by
 have h0:w.cell? ⟨a.S,0,none⟩=some (.int .i32 0):=h.sg.cell 0;have hz:=h.sg.frozen 0;have hI:=h.enter;have hlk:=lock_free mb ⟨a.S,0,none⟩ w h0 hz;have HO:=ay (((Only.refl a.foot w).iM (m6 a) 0 (.int .i32 1)).iM (m6 a) 0 (.int .i32 0));obtain⟨c0,c2,c3,c4,c5⟩:=hI.cells;have HI:=ay hI;have hln:=Ny hI.map 3;have hz1:=hI.sg.frozen 0;have HLK:=ay hlk;clear h h0 hz hI hlk;generalize w.setCell ⟨a.S,0,none⟩ (.int .i32 1)=w1 at*;go_enter_defers Try.func53,Try.ntmps53
 go_wp2_with (go_at_call 82;refine HLK.out.mono ?_;rintro e w' ⟨rfl,rfl⟩)
 refine leaves_cons (f:=83) (args:=#[.pointer (some ⟨a.S,0,none⟩)]) (by simp) (by simp[go_sem]) ?_;refine(unlock_deferred mb ⟨a.S,0,none⟩ .returning _ c0 hz1).mono ?_;rintro e u' w'' ⟨rfl,rfl,rfl⟩;exact⟨_,results_tmp rfl _ _ _,rfl,HI.out.leave,HO.out⟩
theorem Jt{M:Nat}{id:Int}{pl:List (Int×Int)}(hid:1<=id/\id<=9)(hinj:∀q∈pl,∀q'∈pl,jr id q=jr id q'->q=q'){c:Cm}(hc:Fits c):
  ∃q b,(∀w:ae,lD w M id pl->(Instr.lookup 157 (.map (some M)) (nB c) true).run dS w=.ok (.tuple #[DL q,.bool b]) w)/\(b=true↔∃q'∈pl,jr id q'=c)/\(b=true->q∈pl/\jr id q=c):=by
 by_cases hq:∃q'∈pl,jr id q'=c
 ·obtain⟨q,hq1,hq2⟩:=hq;exact⟨q,true,fun w h=>F7 h hid hinj hc hq1 hq2,by simp<;>exact⟨q.1,q.2,hq1,hq2⟩,fun _=>⟨hq1,hq2⟩⟩
 ·exact⟨(0,0),false,fun w h=>Iu h hid hc (fun q h1 h2=>hq ⟨q,h1,h2⟩),by simp;intro x y h1 h2;exact hq ⟨(x,y),h1,h2⟩,fun h=>by cases h⟩
theorem MS{w:ae}{g:Nat}{T:aj}{x y z:af}(h:ft w g T #[x,y,z])(x' y' z':af):ft (((w.setCell ⟨g,0,none⟩ x').setCell ⟨g,1,none⟩ y').setCell ⟨g,2,none⟩ z') g T #[x',y',z']:=((h.iM 0 x').iM 1 y').iM 2 z'
theorem mr{w:ae}{a:Loc}{s:St}(h:l6 w a s){g:Nat}(hg:g∉a.foot)(x y z:af):l6 (((w.setCell ⟨g,0,none⟩ x).setCell ⟨g,1,none⟩ y).setCell ⟨g,2,none⟩ z) a s:=by
 have hb:∀k∈a.foot,(((w.setCell ⟨g,0,none⟩ x).setCell ⟨g,1,none⟩ y).setCell ⟨g,2,none⟩ z).heap[k]?=w.heap[k]?:=fun k hk=>by
  have hne:k≠g:=fun e=>hg (e ▸ hk);exact((ck _ ⟨g,2,none⟩ z k hne).trans (ck _ ⟨g,1,none⟩ y k hne)).trans (ck _ ⟨g,0,none⟩ x k hne)
 refine⟨(hb a.S (by simp[Loc.foot])).trans h.sg,?_,qU h.own (hb a.gc (by simp[Loc.foot])),h.map.of_block (hb a.M (by simp[Loc.foot]))⟩;obtain⟨C,hC,r⟩:=h.kP;exact⟨C,(hb a.g (by simp[Loc.foot])).trans hC,r⟩
end r7
end Go.Proofs.Ytpfpokjaeffbjaa
