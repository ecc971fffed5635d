/- Part of the proof: RenOp2, RenOp3, RenOp4, RenOp5, RenOp6, RenOp7, RenOp9, RenOp8, RenStep. -/
import Derived.Test.YtpfpokjaeffbjaaKk0
import Derived.Test.YtpfpokjaeffbjaaKk1
import Derived.Conc.Own5
import Derived.Conc.Listed
import Derived.Conc.CompanyDraw
set_option linter.unusedVariables false
set_option linter.unusedSimpArgs false
set_option maxRecDepth 100000
set_option maxHeartbeats 16000000
open Go.Sem renaming run_bind→aO
open Pure renaming pure→aX
open Go renaming underlying→dF,unsupported→bW,results→bR
open Go.Instr renaming sureAddr→dM,alloc→dw,loadAt→aT,storeAt→bI
open Array renaming getD_eq_getD_getElem?→bB,all_eq_true_iff_forall_mem→aV,mem_of_getElem?→bF,replicate→bN
open Go.Builtin renaming firstCells→di
open Bool renaming false_eq_true→aQ,and_eq_true→aD,not_eq_true'→bV
open List renaming cons_append→bK
open Go.GStep renaming after→dx
namespace Go.Proofs.Ytpfpokjaeffbjaa
open Go renaming World→ae,Value→af,Goroutine→ah,Frame→ai,TypeId→aj,FuncId→ak,Program→au,undef→av,execOp→ax
open Go.Lib renaming hid→ay
namespace Cc
section
section
variable{P:au}{S:ak->Prop}{ro:Nat->Md}{ρ:Nat->Option Nat}{v v' u u':af}
def Calm{α:Type}(P:au)(x:Sem α):Prop:=∀s h s',x.run P s=.halt h s'->Dv h
theorem Calm.bind{α β:Type}{x:Sem α}{f:α->Sem β}(h:Calm P x)(k:∀a,Calm P (f a)):Calm P (x>>=f):=fun s c s' e=>by
 rw[aO]at e;cases h1:x.run P s with
 |halt c' s₁=>rw[h1]at e;cases e;exact h s _ _ h1
 |ok a s₁=>rw[h1]at e;exact k a _ _ _ e
theorem Calm.pure{α:Type}(a:α):Calm P (aX a:Sem α):=fun s h s' e=>by cases e
theorem Calm.underlying(t:aj):Calm P (dF t):=fun s h s' e=>by
 cases hi:P.underlying t<;>(simp only[dF,aO,run_program,Result.andThen,hi]at e;cases e)
 trivial
theorem Calm.elemOf(t:aj):Calm P (Go.elemOf t):=by
 unfold Go.elemOf;exact Calm.bind (Calm.underlying t) fun d=>by
  split
  ·exact Calm.pure _
  ·intro s h s' e;cases e;trivial
theorem Calm.choose(q:Question):Calm P (Go.choose q):=fun s h s' e=>by simp only[Go.choose,Sem.run]at e;split at e<;>cases e
theorem Calm.newVar(t:aj)(v:af):Calm P (Go.newVar t v):=fun s h s' e=>by
 simp only[Go.newVar,Go.newRow,newObj,aO]at e;cases e
theorem Calm.program:Calm P program:=fun s h s' e=>by cases e
theorem fu.goPanic{α:Type}(v:af):fu P (goPanic v:Sem α):=fu.halt trivial
theorem fu.panic{α:Type}(e:RuntimeError):fu P (runtimePanic e:Sem α):=by
 unfold runtimePanic;refine fu.after (fun s h s' e=>Calm.program s h s' e) fun p=>?_;cases e<;>first
  |exact fu.goPanic _
  |exact fu.after (fun s h s' e=>Calm.elemOf _ s h s' e) fun _=>fu.after (fun s h s' e=>Calm.newVar _ _ s h s' e) fun _=>fu.goPanic _
theorem fu.bounds{α:Type}{k:IntKind}{x y:Int}{c:BoundsCode}:fu P (boundsPanic k x y c:Sem α):=by
 unfold boundsPanic;dsimp only;split
 ·refine fu.after (fun s h s' e=>?_) fun _=>fu.panic _;exact(Calm.bind (Calm.choose _) fun a=>Calm.pure (a==1)) s h s' e
 ·exact fu.after (fun s h s' e=>Calm.pure _ s h s' e) fun _=>fu.panic _
theorem SR.panic{α β:Type}{e:RuntimeError}{y:Sem β}{V:(Nat->Option Nat)->α->β->Prop}:SR P S ro ρ (runtimePanic e:Sem α) y V:=SR.never (fu.panic e)
theorem SR.bounds{α β:Type}{k:IntKind}{x y:Int}{c:BoundsCode}{z:Sem β}{V:(Nat->Option Nat)->α->β->Prop}:SR P S ro ρ (boundsPanic k x y c:Sem α) z V:=SR.never fu.bounds
theorem SR.qP{α β γ:Type}{m:String}{f:α->Sem β}{y:Sem γ}{V:(Nat->Option Nat)->β->γ->Prop}:SR P S ro ρ ((Go.stuck m:Sem α)>>=f) y V:=SR.never fu.stuck.bind
theorem SR.nU{α β γ:Type}{m:Unsupported}{f:α->Sem β}{y:Sem γ}{V:(Nat->Option Nat)->β->γ->Prop}(hm:Dv (.unsupported m)):SR P S ro ρ ((bW m:Sem α)>>=f) y V:=SR.never (fu.bind (fu.halt hm))
theorem SR.nW{α β γ:Type}{e:RuntimeError}{f:α->Sem β}{y:Sem γ}{V:(Nat->Option Nat)->β->γ->Prop}:SR P S ro ρ ((runtimePanic e:Sem α)>>=f) y V:=SR.never (fu.panic e).bind
theorem SR.asIntOf(h:VR S ρ v v'):SR P S ro ρ (asIntOf v) (asIntOf v') fun _ a b=>a=b:=by
 cases h<;>first|exact SR.pure rfl|exact SR.halt|exact SR.unsupported trivial
theorem SR.asInt(h:VR S ρ v v'):SR P S ro ρ (asInt v) (asInt v') fun _ a b=>a=b:=by
 unfold Go.asInt;exact SR.bind (SR.asIntOf h) fun _ a b _ e=>by subst e;exact SR.pure rfl
theorem SR.asBool(h:VR S ρ v v'):SR P S ro ρ (asBool v) (asBool v') fun _ a b=>a=b:=by
 cases h<;>first|exact SR.pure rfl|exact SR.halt
theorem SR.asAgg(h:VR S ρ v v'):SR P S ro ρ (asAgg v) (asAgg v') fun ρ' a b=>AR S ρ' a b:=by
 cases h<;>first|exact SR.pure ⟨by assumption,by assumption⟩|exact SR.halt
theorem SR.sureAddr(h:VR S ρ v v'):SR P S ro ρ (dM v) (dM v') fun ρ' a b=>nj ρ' a b:=by
 cases h with
 |ptr off sp h=>exact SR.pure ⟨h,rfl,rfl⟩
 |_=>exact SR.halt
theorem SR.asAddr(h:VR S ρ v v'):SR P S ro ρ (asAddr v) (asAddr v') fun ρ' a b=>nj ρ' a b:=by
 cases h with
 |ptr off sp h=>exact SR.pure ⟨h,rfl,rfl⟩
 |nilPtr=>show SR P S ro ρ (runtimePanic .nilDeref:Sem Addr) _ _;exact SR.panic
 |_=>exact SR.halt
theorem SR.loadCellsFrom{a a':Addr}:∀(n i:Nat) {ρ:Nat->Option Nat} {acc acc':Array af},nj ρ a a'->AR S ρ acc acc'->SR P S ro ρ (loadCellsFrom a i n acc) (loadCellsFrom a' i n acc') fun ρ' x y=>AR S ρ' x y
 |0,_,_,_,_,_,h=>SR.pure h
 |n+1,i,ρ,acc,acc',ha,h=>by
  unfold Go.loadCellsFrom;exact SR.bind (SR.load (.inl (ha.add i))) fun ρ' x y he hxy=>SR.loadCellsFrom n (i+1) (ha.mono he) ((h.mono he).push hxy)
theorem SR.loadCells{a a':Addr}(ha:nj ρ a a')(n:Nat):SR P S ro ρ (loadCells a n) (loadCells a' n) fun ρ' x y=>AR S ρ' x y:=SR.loadCellsFrom n 0 ha AR.empty
theorem SR.storeCells{a a':Addr}:∀(l l':List af) (i:Nat) {ρ:Nat->Option Nat},nj ρ a a'->AR S ρ l.toArray l'.toArray->SR P S ro ρ (storeCells a l i) (storeCells a' l' i) fun _ _ _=>True
 |[],[],_,_,_,_=>SR.pure trivial
 |[],_::_,_,_,_,h=>by have:=h.size;simp at this
 |_::_,[],_,_,_,h=>by have:=h.size;simp at this
 |v::l,v'::l',i,ρ,ha,h=>by
  unfold Go.storeCells;have hv:VR S ρ v v':=h.at_ 0 v v' (by simp) (by simp);have hl:AR S ρ l.toArray l'.toArray:=⟨by have:=h.size;simpa using this,fun j x y hx hy=>h.at_ (j+1) x y (by simpa using hx) (by simpa using hy)⟩;exact SR.bind (SR.store (.inl (ha.add i)) hv) fun ρ' _ _ he _=>SR.storeCells l l' (i+1) (ha.mono he) (hl.mono he)
theorem SR.loadVar{a a':Addr}(t:aj)(ha:nj ρ a a'):SR P S ro ρ (loadVar t a) (loadVar t a') fun ρ' x y=>VR S ρ' x y:=by
 unfold Go.loadVar;refine SR.bind (SR.isAgg t) fun ρ' x y he e=>?_;subst e;split
 ·refine SR.bind (SR.sizeOf t) fun gS n m gi e=>?_;subst e;exact SR.bind (SR.loadCells ((ha.mono he).mono gi) n) fun _ _ _ _ h=>SR.pure (VR.agg' h)
 ·exact SR.load (.inl (ha.mono he))
theorem SR.storeVar{a a':Addr}(t:aj)(ha:nj ρ a a')(hv:VR S ρ v v'):SR P S ro ρ (storeVar t a v) (storeVar t a' v') fun _ _ _=>True:=by
 unfold Go.storeVar;refine SR.bind (SR.sizeOf t) fun ρ' n m he e=>?_;subst e;have hc:=hv.cells;rw[hc.size];split
 ·exact SR.qP
 ·exact SR.storeCells _ _ 0 ((ha.mono he).mono (.refl _)) (by show AR S _ v.cells.toList.toArray v'.cells.toList.toArray;rw[Array.toArray_toList,Array.toArray_toList];exact(hc.mono he))
theorem SR.part{t:aj}{cs cs':Array af}(h:AR S ρ cs cs')(off:Nat):SR P S ro ρ (part t cs off) (part t cs' off) fun ρ' x y=>VR S ρ' x y:=by
 unfold Go.part;refine SR.bind (SR.isAgg t) fun ρ' x y he e=>?_;subst e;split
 ·refine SR.bind (SR.sizeOf t) fun gS n m gi e=>?_;subst e;exact SR.pure (VR.agg' (((h.mono he).mono gi).extract _ _))
 ·cases hc:cs[off]? with
  |none=>exact SR.stuck
  |some v=>
   obtain⟨v',hv',hr⟩:=h.get hc;simp only[hv'];exact SR.pure (hr.mono he)
theorem SR.alloc{t:aj}(hz:zu P S t):SR P S ro ρ (dw t true (.tuple #[])) (dw t true (.tuple #[])) fun ρ' x y=>VR S ρ' x y:=by
 unfold dw;refine SR.bind (SR.zeroValue hz) fun ρ' x y he h=>?_;exact SR.bind (SR.newRow h.cells) fun gS a b _ h=>SR.pure (nj.ptr h)
theorem SR.box{t:aj}(h:VR S ρ v v'):SR P S ro ρ (Instr.box t v) (Instr.box t v') fun ρ' x y=>VR S ρ' x y:=by
 unfold Instr.box;exact SR.bind (SR.newRow h.cells) fun gS a b _ h=>SR.pure (nj.ptr h)
theorem foldl_set{cs cs':Array af}{off:Nat}:∀(l:List (af×Nat)) (l':List (af×Nat)),l.length=l'.length->(∀(i:Nat) (x y:af×Nat),l[i]?=some x->l'[i]?=some y->VR S ρ x.1 y.1/\x.2=y.2)->AR S ρ cs cs'->
  AR S ρ (l.foldl (fun cs x=>cs.setIfInBounds (off+x.2) x.1) cs) (l'.foldl (fun cs x=>cs.setIfInBounds (off+x.2) x.1) cs')
 |[],[],_,_,h=>h
 |[],_::_,e,_,_=>by simp at e
 |_::_,[],e,_,_=>by simp at e
 |x::l,y::l',e,hl,h=>by
  obtain⟨h1,h2⟩:=hl 0 x y rfl rfl;simp only[List.foldl_cons];refine foldl_set l l' (by simpa using e) (fun i a b ha hb=>hl (i+1) a b ha hb) ?_;rw[h2];exact h.set _ h1
def xk(S:ak->Prop)(ρ:Nat->Option Nat)(l l':List (Nat×af)):Prop:=l.length=l'.length/\∀(i:Nat) (x y:Nat×af),l[i]?=some x->l'[i]?=some y->x.1=y.1/\VR S ρ x.2 y.2
theorem xk.mono{ρ':Nat->Option Nat}(e:Ext ρ ρ'){l l':List (Nat×af)}(h:xk S ρ l l'):xk S ρ' l l':=⟨h.1,fun i x y hx hy=>⟨(h.2 i x y hx hy).1,(h.2 i x y hx hy).2.mono e⟩⟩
theorem yn(place:Nat->Option (Nat×Nat)):∀(l l':List (Nat×af)) (cs cs':Array af),xk S ρ l l'->AR S ρ cs cs'->∀r,Instr.fill place cs l=some r->∃r',Instr.fill place cs' l'=some r'/\AR S ρ r r'
 |[],[],cs,cs',_,h,r,hr=>by
  simp only[Instr.fill]at hr;cases hr;exact⟨cs',rfl,h⟩
 |[],_::_,_,_,e,_,_,_=>by have:=e.1;simp at this
 |_::_,[],_,_,e,_,_,_=>by have:=e.1;simp at this
 |(i,v)::l,(i',v')::l',cs,cs',e,h,r,hr=>by
  obtain⟨h1,h2⟩:=e.2 0 _ _ rfl rfl;simp only at h1 h2;subst h1;unfold Instr.fill at hr ⊢;cases hp:place i with
  |none=>rw[hp]at hr;cases hr
  |some q=>
   obtain⟨off,size⟩:=q;rw[hp]at hr;simp only at hr ⊢;rw[<-h2.cells.size,<-h.size];split at hr
   ·cases hr
   ·rename_i hc;rw[if_neg hc];refine yn place l l' _ _ ⟨by have:=e.1;simpa using this,fun j x y hx hy=>e.2 (j+1) x y hx hy⟩ ?_ r hr;show AR S ρ (v.cells.zipIdx.foldl (fun cs x=>cs.setIfInBounds (off+x.2) x.1) cs) (v'.cells.zipIdx.foldl (fun cs x=>cs.setIfInBounds (off+x.2) x.1) cs');rw[<-Array.foldl_toList,<-Array.foldl_toList];refine foldl_set _ _ (by simp[h2.cells.size]) (fun j x y hx hy=>?_) h;rw[Array.getElem?_toList,Array.getElem?_zipIdx]at hx hy;cases hvx:v.cells[j]? with
    |none=>rw[hvx]at hx;cases hx
    |some a=>
     cases hvy:v'.cells[j]? with
     |none=>rw[hvy]at hy;cases hy
     |some b=>
      rw[hvx]at hx;rw[hvy]at hy;simp only[Option.map_some,Option.some.injEq]at hx hy;subst hx hy;exact⟨h2.cells.at_ j a b hvx hvy,rfl⟩
theorem AR.Yw{z z':Array af}(h:AR S ρ z z')(i:Nat):VR S ρ z[i]! z'[i]!:=by
 rw[Array.getElem!_eq_getD,Array.getElem!_eq_getD,bB,bB];cases hz:z[i]? with
 |none=>rw[h.none hz];exact .bool false
 |some v=>obtain⟨v',hv',hr⟩:=h.get hz;rw[hv'];exact hr
theorem tJ{z z':Array af}(h:AR S ρ z z')(n:Nat):AR S ρ ((Array.range n).map (z[·%z.size]!)) ((Array.range n).map (z'[·%z'.size]!)):=by
 rw[<-h.size];exact AR.map (fun i=>h.Yw (i%z.size)) _
end
end
section
section
variable{P:au}{S:ak->Prop}{ro:Nat->Md}{ρ:Nat->Option Nat}{v v' u u':af}
def Hl(P:au)(S:ak->Prop)(t:aj):Prop:=∀e,P.underlying t=some (.slice e)->zu P S e
theorem SR.build{t:aj}(hz:zu P S t){ps ps':Array (Nat×af)}(h:xk S ρ ps.toList ps'.toList):SR P S ro ρ (Instr.build t ps) (Instr.build t ps') fun ρ' x y=>VR S ρ' x y:=by
 unfold Instr.build;refine SR.bind (SR.zeroValue hz) fun fQ z z' fe hzz=>?_;refine SR.bind (SR.underlying t) fun gS d d' gi hd=>?_;obtain⟨rfl,-⟩:=hd;split
 ·rename_i fields;have key:∀(l:List Field) (ρ:Nat->Option Nat),SR P S ro ρ (l.mapM fun f=>(do aX (f.offset,<-Go.sizeOf f.type):Sem (Nat×Nat))) (l.mapM fun f=>(do aX (f.offset,<-Go.sizeOf f.type):Sem (Nat×Nat))) fun _ a b=>a=b:=by
   intro l;induction l with
   |nil=>intro ρ;simp only[List.mapM_nil];exact SR.pure rfl
   |cons f l ih=>
    intro ρ;simp only[List.mapM_cons];refine SR.bind (SR.bind (SR.sizeOf f.type) (W:=fun _ a b=>a=b) fun _ n m _ e=>by subst e;exact SR.pure rfl) fun fQ a b _ e=>?_;subst e;refine SR.bind (ih fQ) fun gS x y _ e=>?_;subst e;exact SR.pure rfl
  rw[Array.mapM_eq_mapM_toList];refine SR.bind (V:=fun _ a b=>a=b) ?_ fun iI pl pl' gU e=>?_
  ·refine SR.bind (key fields.toList gS) (W:=fun _ a b=>a=b) fun iI a b _ e=>?_;subst e;exact SR.pure rfl
  ·subst e;cases hf:Instr.fill (fun x=>pl[x]?) z.cells ps.toList with
   |none=>exact SR.stuck
   |some r=>
    obtain⟨r',hr',hrr⟩:=yn _ _ _ _ _ (((h.mono fe).mono gi).mono gU) ((hzz.cells.mono gi).mono gU) r hf;simp only[hr'];exact SR.pure (VR.agg' hrr)
 ·rename_i n elem;refine SR.bind (SR.sizeOf elem) fun iI m m' gU e=>?_;subst e;cases hf:Instr.fill (fun i=>some (i*m,m)) z.cells ps.toList with
  |none=>exact SR.stuck
  |some r=>
   obtain⟨r',hr',hrr⟩:=yn _ _ _ _ _ (((h.mono fe).mono gi).mono gU) ((hzz.cells.mono gi).mono gU) r hf;simp only[hr'];exact SR.pure (VR.agg' hrr)
 ·exact SR.stuck
theorem SR.buildSlice{t:aj}(hz:Hl P S t){len:Nat}{ps ps':Array (Nat×af)}(h:xk S ρ ps.toList ps'.toList):SR P S ro ρ (Instr.buildSlice t len ps) (Instr.buildSlice t len ps') fun ρ' x y=>VR S ρ' x y:=by
 unfold Instr.buildSlice;refine SR.bind (SR.underlying t) fun fQ d d' fe hd=>?_;obtain⟨rfl,hu⟩:=hd;split
 ·rename_i elem;refine SR.bind (SR.sizeOf elem) fun gS m m' gi e=>?_;subst e;by_cases hbig:len*m>2^24
  ·rw[if_pos hbig,if_pos hbig];exact SR.nU trivial
  ·rw[if_neg hbig,if_neg hbig];dsimp only;have tail:∀(iI:Nat->Option Nat) (z z':Array af),Ext gS iI->AR S iI z z'->
     SR P S ro iI (match Instr.fill (fun i=>some (i*m,m)) ((Array.range (len*m)).map (z[·%z.size]!)) ps.toList with
      |some cells=>do
       let mD<-Go.newRow elem cells
       aX (Value.slice (some mD) len len)
      |x=>Go.stuck "buildSlice: a part of the wrong size")
      (match Instr.fill (fun i=>some (i*m,m)) ((Array.range (len*m)).map (z'[·%z'.size]!)) ps'.toList with
      |some cells=>do
       let mD<-Go.newRow elem cells
       aX (Value.slice (some mD) len len)
      |x=>Go.stuck "buildSlice: a part of the wrong size") fun ρ' x y=>VR S ρ' x y:=by
    intro iI z z' gU hzz;cases hf:Instr.fill (fun i=>some (i*m,m)) ((Array.range (len*m)).map (z[·%z.size]!)) ps.toList with
    |none=>exact SR.stuck
    |some r=>
     obtain⟨r',hr',hrr⟩:=yn _ _ _ _ _ (((h.mono fe).mono gi).mono gU) (tJ hzz (len*m)) r hf;simp only[hr'];exact SR.bind (SR.newRow hrr) fun _ a b _ hab=>SR.pure (hab.slice _ _)
   split
   ·exact SR.bind (SR.pure (V:=fun ρ' a b=>AR S ρ' a b) AR.empty) fun iI z z' gU hzz=>tail iI z z' gU hzz
   ·exact SR.bind (SR.zeroValue (hz _ hu)) fun iI a b gU hab=>SR.bind (SR.pure (V:=fun ρ' a b=>AR S ρ' a b) hab.cells) fun qM z z' kN hzz=>tail qM z z' (gU.trans kN) hzz
 ·exact SR.stuck
theorem SR.field{t:aj}(h:VR S ρ v v')(f:Nat):SR P S ro ρ (Instr.field t v f) (Instr.field t v' f) fun ρ' x y=>VR S ρ' x y:=by
 unfold Instr.field;refine SR.bind (SR.underlying t) fun fQ d d' fe hd=>?_;obtain⟨rfl,hu⟩:=hd;split
 ·split
  ·exact SR.bind (SR.asAgg (h.mono fe)) fun _ a b _ hab=>SR.part hab _
  ·exact SR.stuck
 ·exact SR.stuck
theorem SR.partAt{a a':Addr}(h:nj ρ a a')(n k:Nat):SR P S ro ρ (partAt a n k) (partAt a' n k) fun ρ' x y=>nj ρ' x y:=by
 unfold Go.partAt;refine SR.bind (SR.byteOf h) fun fQ x y fe e=>?_;subst e;have h1:=h.mono fe;have hp:nj fQ {block:=a.block,off:=a.off+n} {block:=a'.block,off:=a'.off+n}:=⟨h1.1,by simp[h1.2.1],rfl⟩;refine SR.bind (SR.byteOf hp) fun gS x₂ y₂ gi e=>?_;subst e;have hp2:=hp.mono gi;refine SR.pure ?_;split
 ·exact hp2
 ·exact⟨hp2.1,hp2.2.1,rfl⟩
theorem SR.fieldAt{t:aj}(h:VR S ρ v v')(f:Nat):SR P S ro ρ (Instr.fieldAt t v f) (Instr.fieldAt t v' f) fun ρ' x y=>VR S ρ' x y:=by
 unfold Instr.fieldAt;refine SR.bind (SR.underlying t) fun fQ d d' fe hd=>?_;obtain⟨rfl,hu⟩:=hd;split
 ·split
  ·refine SR.bind (SR.sureAddr (h.mono fe)) fun gS a a' gi ha=>?_;refine SR.bind (V:=fun ρ' x y=>nj ρ' x y) ?_ fun _ x y _ hxy=>SR.pure hxy.ptr;unfold fieldPlace;refine SR.bind (SR.sizeOf _) fun iI n n' gU e=>?_;subst e;split
   ·exact SR.partAt (ha.mono gU) _ _
   ·exact SR.pure ((ha.mono gU).add _)
  ·exact SR.stuck
 ·exact SR.stuck
theorem SR.index{t:aj}(h:VR S ρ v v')(k:VR S ρ u u'):SR P S ro ρ (Instr.index t v u) (Instr.index t v' u') fun ρ' x y=>VR S ρ' x y:=by
 unfold Instr.index;refine SR.bind (SR.asIntOf k) fun fQ d d' fe e=>?_;subst e;refine SR.bind (SR.underlying t) fun gS d₂ a86 gi hd=>?_;obtain⟨rfl,hu⟩:=hd;have h2:=(h.mono fe).mono gi;cases h2 with
 |agg hx h1=>
  split
  ·rename_i heq;cases heq;split
   ·refine SR.bind (SR.sizeOf _) fun iI n n' gU e=>?_;subst e;exact SR.part ((AR.mk hx h1).mono gU) _
   ·exact SR.bounds
  ·rename_i heq;cases heq
  ·exact SR.stuck
 |string s=>
  split
  ·rename_i heq;cases heq
  ·rename_i heq;cases heq;split
   ·exact SR.pure (.int _ _)
   ·exact SR.bounds
  ·exact SR.stuck
 |_=>
  split
  ·rename_i heq;cases heq
  ·rename_i heq;cases heq
  ·exact SR.stuck
theorem SR.indexAt{t:aj}(h:VR S ρ v v')(k:VR S ρ u u'):SR P S ro ρ (Instr.indexAt t v u) (Instr.indexAt t v' u') fun ρ' x y=>VR S ρ' x y:=by
 unfold Instr.indexAt;refine SR.bind (SR.asIntOf k) fun fQ d d' fe e=>?_;subst e;obtain⟨kk,i⟩:=d;dsimp only;refine SR.bind (SR.underlying t) fun gS d₂ a86 gi hd=>?_;obtain⟨rfl,hu⟩:=hd;have h2:=(h.mono fe).mono gi;have tail:∀(b1 b2:Option Addr) (l1:Nat) (e1:aj) (ai3:Bool) (iI:Nat->Option Nat),((b1=none/\b2=none)\/∃x x',b1=some x/\b2=some x'/\nj iI x x')->SR P S ro iI (match b1 with
   |some a=>if 0<=i/\i<(l1:Int)then(do
     let mD<-Go.sizeOf e1
     aX (Value.pointer (some (a.add (i.toNat*mD)))):Sem af)else if ai3 then bW (.noEntry "op/indexAddr.an index out of range at an array of length 0 or 1 (ledger 616)")else boundsPanic kk i l1 .index
   |none=>boundsPanic kk i 0 .index) (match b2 with
   |some a=>if 0<=i/\i<(l1:Int)then(do
     let mD<-Go.sizeOf e1
     aX (Value.pointer (some (a.add (i.toNat*mD)))):Sem af)else if ai3 then bW (.noEntry "op/indexAddr.an index out of range at an array of length 0 or 1 (ledger 616)")else boundsPanic kk i l1 .index
   |none=>boundsPanic kk i 0 .index) fun ρ' x y=>VR S ρ' x y:=by
  intro b1 b2 l1 e1 ai3 iI hb;rcases hb with⟨rfl,rfl⟩|⟨x,x',rfl,rfl,hx⟩
  ·exact SR.bounds
  ·dsimp only;split
   ·refine SR.bind (SR.sizeOf _) fun qM n n' kN e=>?_;subst e;exact SR.pure ((hx.mono kN).add _).ptr
   ·split
    ·exact SR.unsupported trivial
    ·exact SR.bounds
 cases d₂ with
 |array len elem=>
  dsimp only;refine SR.bind (SR.sureAddr h2) fun iI a b gU hab=>?_;refine SR.bind (SR.pure (V:=fun ρ' x y=>x=(some a,len,elem)/\y=(some b,len,elem)) ⟨rfl,rfl⟩) fun qM x y kN hxy=>?_;obtain⟨rfl,rfl⟩:=hxy;dsimp only;refine SR.bind (SR.underlying t) fun sx d₃ ae0 uF hd=>?_;obtain⟨rfl,hu⟩:=hd;exact tail _ _ _ _ _ sx (.inr ⟨a,b,rfl,rfl,(hab.mono kN).mono uF⟩)
 |slice elem=>
  cases h2 with
  |ig l c=>
   dsimp only;refine SR.bind (SR.pure (V:=fun ρ' x y=>x=(none,l,elem)/\y=(none,l,elem)) ⟨rfl,rfl⟩) fun qM x y kN hxy=>?_;obtain⟨rfl,rfl⟩:=hxy;dsimp only;refine SR.bind (SR.underlying t) fun sx d₃ ae0 uF hd=>?_;obtain⟨rfl,hu⟩:=hd;exact SR.bounds
  | @slice b c off sp l cp hb=>
   dsimp only;refine SR.bind (SR.pure (V:=fun ρ' x y=>x=(some ⟨b,off,sp⟩,l,elem)/\y=(some ⟨c,off,sp⟩,l,elem)) ⟨rfl,rfl⟩) fun qM x y kN hxy=>?_;obtain⟨rfl,rfl⟩:=hxy;dsimp only;refine SR.bind (SR.underlying t) fun sx d₃ ae0 uF hd=>?_;obtain⟨rfl,hu⟩:=hd;exact tail _ _ _ _ _ sx (.inr ⟨⟨b,off,sp⟩,⟨c,off,sp⟩,rfl,rfl,show nj sx ⟨b,off,sp⟩ ⟨c,off,sp⟩from⟨uF b c (kN b c hb),rfl,rfl⟩⟩)
  |_=>exact SR.qP
 |_=>exact SR.qP
theorem SR.extract(h:VR S ρ v v')(i:Nat):SR P S ro ρ (Instr.extract v i) (Instr.extract v' i) fun ρ' x y=>VR S ρ' x y:=by
 cases h with
 |tuple hx h1=>
  unfold Instr.extract;rename_i x x';have A:AR S ρ x x':=⟨hx,h1⟩;cases hc:x[i]? with
  |none=>simp only[hc];exact SR.stuck
  |some z=>
   obtain⟨z',hz',hr⟩:=A.get hc;simp only[hc,hz'];exact SR.pure hr
 |_=>exact SR.stuck
theorem SR.makeFunc{f:ak}(hf:S f){x y x' y':Array af}(hx:AR S ρ x x')(hy:AR S ρ y y'):SR P S ro ρ (Instr.makeFunc (.func f) x y) (Instr.makeFunc (.func f) x' y') fun ρ' x y=>VR S ρ' x y:=SR.pure (VR.a57 hf hx hy)
end
end
section
section
variable{P:au}{S:ak->Prop}{ro:Nat->Md}{ρ:Nat->Option Nat}{v v' u u':af}
theorem SR.len{ts:Array aj}{t:aj}{args args':Array af}(h:AR S ρ args args')(hk:∃t0 d,ts[0]?=some t0/\P.underlying t0=some d/\(d=.string\/∃e,d=.slice e)):
  SR P S ro ρ (Builtin.len_ ts t args) (Builtin.len_ ts t args') fun ρ' x y=>VR S ρ' x y:=by
 obtain⟨t0,d0,h0,hu0,hd0⟩:=hk;unfold Builtin.len_;rw[h0];cases ha:args[0]? with
 |none=>exact SR.stuck
 |some x=>
  obtain⟨x',hx',hr⟩:=h.get ha;rw[hx'];dsimp only;refine SR.bind (SR.underlying t0) fun fQ d d' fe hd=>?_;obtain⟨rfl,hu⟩:=hd;rw[hu0]at hu;cases hu;rcases hd0 with rfl|⟨e,rfl⟩
  ·cases hr with
   |string s=>exact SR.pure (.int _ _)
   |_=>exact SR.stuck
  ·cases hr with
   |ig l c=>exact SR.pure (.int _ _)
   |slice off sp l c hb=>exact SR.pure (.int _ _)
   |_=>exact SR.stuck
theorem SR.lenOf(h:VR S ρ v v'):SR P S ro ρ (Builtin.lenOf v) (Builtin.lenOf v') fun _ a b=>a=b:=by
 cases h<;>first|exact SR.pure rfl|exact SR.stuck
theorem SR.firstCells(size n:Nat)(h:VR S ρ v v'):SR P S ro ρ (di size n v) (di size n v') fun ρ' a b=>AR S ρ' a b:=by
 cases h with
 |ig l c=>exact SR.pure AR.empty
 |slice off sp l c hb=>exact SR.loadCells (show nj ρ ⟨_,off,sp⟩ ⟨_,off,sp⟩from⟨hb,rfl,rfl⟩) _
 |string s=>exact SR.pure (AR.map (fun b=>.int _ _) _)
 |_=>exact SR.stuck
theorem DJ{z z':Array af}(h:AR S ρ z z')(n:Nat):AR S ρ (Builtin.zeroCells z n) (Builtin.zeroCells z' n):=by
 unfold Builtin.zeroCells;rw[h.size];have:=tJ h (n*z'.size)
 rw[h.size]at this;exact this
theorem SR.askRoom(n:Nat):SR P S ro ρ (askRoom n) (askRoom n) fun _ _ _=>True:=by
 unfold Go.askRoom;split
 ·exact SR.mark rfl
 ·exact SR.pure trivial
def grown(elem:aj)(m l cp n:Nat)(s y:af):Sem af:=do
 let L5<-Go.choose (.appendCap (l+n) cp elem)
 let i<-Go.typeInfo elem
 Go.askRoom (L5*i.bytes)
 let old<-di m l s
 let new<-di m n y
 let z<-Go.zeroValue elem
 let a<-Go.newRow elem (old++new++Builtin.zeroCells z.cells (L5-(l+n)))
 aX (.slice (some a) (l+n) L5)
theorem vA{elem:aj}(hz:zu P S elem)(m l cp n:Nat)(hs:VR S ρ v v')(hy:VR S ρ u u'):SR P S ro ρ (grown elem m l cp n v u) (grown elem m l cp n v' u') fun ρ' x y=>VR S ρ' x y:=by
 unfold grown;refine SR.bind SR.choose fun fQ k k' fe e=>?_;subst e;refine SR.bind (SR.typeInfo elem) fun gS i i' gi e=>?_;obtain⟨rfl,-⟩:=e;refine SR.bind (SR.askRoom _) fun iI _ _ gU _=>?_;have e3:=(fe.trans gi).trans gU;refine SR.bind (SR.firstCells m l (hs.mono e3)) fun qM o o' kN ho=>?_;refine SR.bind (SR.firstCells m n ((hy.mono e3).mono kN)) fun sx w w' uF hw=>?_;refine SR.bind (SR.zeroValue hz) fun EA z z' rq hzz=>?_;refine SR.bind (SR.newRow ((((ho.mono uF).mono rq).append (hw.mono rq)).append (DJ hzz.cells _))) fun _ a a' _ ha=>SR.pure (ha.slice _ _)
def laid(m l cp n:Nat)(A:Option Addr)(y:af):Sem af:=do
 let new<-di m n y
 match A with
 |some a=>do
  Go.storeCells (a.add (l*m)) new.toList
  aX (.slice (some a) (l+n) cp)
 |none=>aX (.slice none (l+n) cp)
theorem yg(m l cp n:Nat){A A':Option Addr}(hA:(A=none/\A'=none)\/∃a a',A=some a/\A'=some a'/\nj ρ a a')(hy:VR S ρ u u'):SR P S ro ρ (laid m l cp n A u) (laid m l cp n A' u') fun ρ' x y=>VR S ρ' x y:=by
 unfold laid;refine SR.bind (SR.firstCells m n hy) fun fQ w w' fe hw=>?_;rcases hA with⟨rfl,rfl⟩|⟨a,a',rfl,rfl,ha⟩
 ·exact SR.pure (.ig _ _)
 ·refine SR.bind (SR.storeCells _ _ 0 ((ha.mono fe).add _) (by rw[Array.toArray_toList,Array.toArray_toList];exact hw)) fun gS _ _ gi _=>?_;exact SR.pure (((ha.mono fe).mono gi).slice _ _)
theorem Calm.mark(m:Mark):Calm P (Go.mark m):=fun s h s' e=>by cases e
theorem Calm.shape(r:Nat):Calm P (Go.shape r):=fun s h s' e=>by cases e
theorem Calm.frozen(a:Addr):Calm P (Go.frozen a):=fun s h s' e=>by cases e
theorem Calm.holdsCells(a:Addr)(n:Nat):Calm P (Builtin.holdsCells a n):=by
 unfold Builtin.holdsCells;exact Calm.bind (Calm.shape _) fun o=>by split<;>exact Calm.pure _
theorem Calm.mayShare(a b c:Nat)(d:Option Addr)(x:af):Calm P (Builtin.mayShare a b c d x):=by
 unfold Builtin.mayShare;dsimp only;cases x<;>cases d<;>(try dsimp only)<;>repeat' (first|exact Calm.pure _|exact Calm.holdsCells _ _|exact Calm.frozen _|(refine Calm.bind ?_ fun _=>?_)|split)
theorem SR.append{ts:Array aj}{t:aj}{args args':Array af}(h:AR S ρ args args')(hz:∀t0,ts[0]?=some t0->Hl P S t0)(hn:∀t1 d,ts[1]?=some t1->P.underlying t1=some d->∀k,d≠ .int k):
  SR P S ro ρ (Builtin.append_ ts t args) (Builtin.append_ ts t args') fun ρ' x y=>VR S ρ' x y:=by
 unfold Builtin.append_;cases h0:ts[0]? with
 |none=>exact SR.stuck
 |some t0=>
 cases ha:args[0]? with
 |none=>exact SR.stuck
 |some x=>
 obtain⟨x',hx',hr⟩:=h.get ha;cases hb:args[1]? with
 |none=>exact SR.stuck
 |some y=>
 obtain⟨y',hy',hs⟩:=h.get hb;rw[hx',hy'];dsimp only;refine SR.bind (SR.underlying t0) fun fQ d d' fe hd=>?_;obtain⟨rfl,hu⟩:=hd;cases d with
 |slice elem=>
  have hze:=hz t0 h0 elem hu;cases hr with
  | @slice b c off sp l cp hb=>
   dsimp only;refine SR.bind (SR.sizeOf elem) fun gS m m' gi e=>?_;subst e;cases h1:ts[1]? with
   |none=>
    dsimp only;refine SR.bind (SR.pure (V:=fun _ a b=>a=false/\b=false) ⟨rfl,rfl⟩) fun iI z z' gU hzz=>?_;obtain⟨rfl,rfl⟩:=hzz;simp only[aQ,if_false,Bool.not_false,if_true,false_or];have Dy:=((fe.trans gi).trans gU);refine SR.bind (SR.lenOf (hs.mono Dy)) fun EA n n' rq e=>?_;subst e;have zB:=Dy.trans rq;by_cases hroom:l+n<=cp
    ·rw[if_pos hroom,if_pos hroom];exact yg m l cp n (.inr ⟨⟨b,off,sp⟩,⟨c,off,sp⟩,rfl,rfl,show nj _ ⟨b,off,sp⟩ ⟨c,off,sp⟩from⟨zB _ _ hb,rfl,rfl⟩⟩) (hs.mono zB)
    ·rw[if_neg hroom,if_neg hroom];refine SR.bind (SR.typeInfo elem) fun H6 i i' zN e=>?_;obtain⟨rfl,-⟩:=e;split
     ·exact SR.nW
     ·refine SR.bind (SR.typeInfo elem) fun tI j j' CQ e=>?_;obtain⟨rfl,-⟩:=e;have Hk:=(zB.trans zN).trans CQ;split
      ·refine SR.never ?_;refine fu.bind (fu.after (fun s h s' e=>Calm.mayShare _ _ _ _ _ s h s' e) fun _=>?_);split<;>first|exact fu.bind (fu.halt trivial)|exact fu.halt trivial|exact fu.after (fun s h s' e=>Calm.mark _ s h s' e) fun _=>fu.halt trivial
      ·exact vA hze m l cp n (.slice off sp l cp (Hk _ _ hb)) (hs.mono Hk)
   |some t1=>
    dsimp only;refine SR.bind (SR.underlying t1) fun iI d1 d1' gU hd1=>?_;obtain⟨rfl,hu1⟩:=hd1;refine SR.bind (SR.pure (V:=fun _ a b=>a=false/\b=false) (by constructor<;>(cases d1<;>first|rfl|exact absurd rfl (hn t1 _ h1 hu1 _)))) fun qM z z' kN hzz=>?_;obtain⟨rfl,rfl⟩:=hzz;simp only[aQ,if_false,Bool.not_false,if_true,false_or];have Dy:=(((fe.trans gi).trans gU).trans kN);refine SR.bind (SR.lenOf (hs.mono Dy)) fun EA n n' rq e=>?_;subst e;have zB:=Dy.trans rq;by_cases hroom:l+n<=cp
    ·rw[if_pos hroom,if_pos hroom];exact yg m l cp n (.inr ⟨⟨b,off,sp⟩,⟨c,off,sp⟩,rfl,rfl,show nj _ ⟨b,off,sp⟩ ⟨c,off,sp⟩from⟨zB _ _ hb,rfl,rfl⟩⟩) (hs.mono zB)
    ·rw[if_neg hroom,if_neg hroom];refine SR.bind (SR.typeInfo elem) fun H6 i i' zN e=>?_;obtain⟨rfl,-⟩:=e;split
     ·exact SR.nW
     ·refine SR.bind (SR.typeInfo elem) fun tI j j' CQ e=>?_;obtain⟨rfl,-⟩:=e;have Hk:=(zB.trans zN).trans CQ;split
      ·refine SR.never ?_;refine fu.bind (fu.after (fun s h s' e=>Calm.mayShare _ _ _ _ _ s h s' e) fun _=>?_);split<;>first|exact fu.bind (fu.halt trivial)|exact fu.halt trivial|exact fu.after (fun s h s' e=>Calm.mark _ s h s' e) fun _=>fu.halt trivial
      ·exact vA hze m l cp n (.slice off sp l cp (Hk _ _ hb)) (hs.mono Hk)
  |ig l cp=>
   dsimp only;refine SR.bind (SR.sizeOf elem) fun gS m m' gi e=>?_;subst e;cases h1:ts[1]? with
   |none=>
    dsimp only;refine SR.bind (SR.pure (V:=fun _ a b=>a=false/\b=false) ⟨rfl,rfl⟩) fun iI z z' gU hzz=>?_;obtain⟨rfl,rfl⟩:=hzz;simp only[aQ,if_false,Bool.not_false,if_true,false_or];have Dy:=((fe.trans gi).trans gU);refine SR.bind (SR.lenOf (hs.mono Dy)) fun EA n n' rq e=>?_;subst e;have zB:=Dy.trans rq;by_cases hroom:l+n<=cp
    ·rw[if_pos hroom,if_pos hroom];exact yg m l cp n (.inl ⟨rfl,rfl⟩) (hs.mono zB)
    ·rw[if_neg hroom,if_neg hroom];refine SR.bind (SR.typeInfo elem) fun H6 i i' zN e=>?_;obtain⟨rfl,-⟩:=e;split
     ·exact SR.nW
     ·refine SR.bind (SR.typeInfo elem) fun tI j j' CQ e=>?_;obtain⟨rfl,-⟩:=e;have Hk:=(zB.trans zN).trans CQ;split
      ·refine SR.never ?_;refine fu.bind (fu.after (fun s h s' e=>Calm.mayShare _ _ _ _ _ s h s' e) fun _=>?_);split<;>first|exact fu.bind (fu.halt trivial)|exact fu.halt trivial|exact fu.after (fun s h s' e=>Calm.mark _ s h s' e) fun _=>fu.halt trivial
      ·exact vA hze m l cp n (.ig l cp) (hs.mono Hk)
   |some t1=>
    dsimp only;refine SR.bind (SR.underlying t1) fun iI d1 d1' gU hd1=>?_;obtain⟨rfl,hu1⟩:=hd1;refine SR.bind (SR.pure (V:=fun _ a b=>a=false/\b=false) (by constructor<;>(cases d1<;>first|rfl|exact absurd rfl (hn t1 _ h1 hu1 _)))) fun qM z z' kN hzz=>?_;obtain⟨rfl,rfl⟩:=hzz;simp only[aQ,if_false,Bool.not_false,if_true,false_or];have Dy:=(((fe.trans gi).trans gU).trans kN);refine SR.bind (SR.lenOf (hs.mono Dy)) fun EA n n' rq e=>?_;subst e;have zB:=Dy.trans rq;by_cases hroom:l+n<=cp
    ·rw[if_pos hroom,if_pos hroom];exact yg m l cp n (.inl ⟨rfl,rfl⟩) (hs.mono zB)
    ·rw[if_neg hroom,if_neg hroom];refine SR.bind (SR.typeInfo elem) fun H6 i i' zN e=>?_;obtain⟨rfl,-⟩:=e;split
     ·exact SR.nW
     ·refine SR.bind (SR.typeInfo elem) fun tI j j' CQ e=>?_;obtain⟨rfl,-⟩:=e;have Hk:=(zB.trans zN).trans CQ;split
      ·refine SR.never ?_;refine fu.bind (fu.after (fun s h s' e=>Calm.mayShare _ _ _ _ _ s h s' e) fun _=>?_);split<;>first|exact fu.bind (fu.halt trivial)|exact fu.halt trivial|exact fu.after (fun s h s' e=>Calm.mark _ s h s' e) fun _=>fu.halt trivial
      ·exact vA hze m l cp n (.ig l cp) (hs.mono Hk)
  |_=>exact SR.stuck
 |_=>exact SR.stuck
theorem SR.copy{ts:Array aj}{t:aj}{args args':Array af}(h:AR S ρ args args'):SR P S ro ρ (Builtin.copy_ ts t args) (Builtin.copy_ ts t args') fun ρ' x y=>VR S ρ' x y:=by
 unfold Builtin.copy_;cases h0:ts[0]? with
 |none=>exact SR.stuck
 |some t0=>
 cases ha:args[0]? with
 |none=>exact SR.stuck
 |some x=>
 obtain⟨x',hx',hr⟩:=h.get ha;cases hb:args[1]? with
 |none=>exact SR.stuck
 |some y=>
 obtain⟨y',hy',hs⟩:=h.get hb;rw[hx',hy'];dsimp only;refine SR.bind (SR.underlying t0) fun fQ d d' fe hd=>?_;obtain⟨rfl,hu⟩:=hd;cases d with
 |slice elem=>
  have tail:∀(A A':Option Addr) (l:Nat),((A=none/\A'=none)\/∃a a',A=some a/\A'=some a'/\nj ρ a a')->SR P S ro fQ (do
    let n:=Nat.min (<-Builtin.lenOf y) l
    let cells<-di (<-Go.sizeOf elem) n y
    if let some a:=A then Go.storeCells a cells.toList
    aX (Go.goInt n):Sem af) (do
    let n:=Nat.min (<-Builtin.lenOf y') l
    let cells<-di (<-Go.sizeOf elem) n y'
    if let some a:=A' then Go.storeCells a cells.toList
    aX (Go.goInt n):Sem af) fun ρ' x y=>VR S ρ' x y:=by
   intro A A' l hA;refine SR.bind (SR.lenOf (hs.mono fe)) fun gS n n' gi e=>?_;subst e;refine SR.bind (SR.sizeOf elem) fun iI m m' gU e=>?_;subst e;refine SR.bind (SR.firstCells m _ (((hs.mono fe).mono gi).mono gU)) fun qM w w' kN hw=>?_;rcases hA with⟨rfl,rfl⟩|⟨a,a',rfl,rfl,ha⟩
   ·exact SR.pure (.int _ _)
   ·refine SR.bind (SR.storeCells _ _ 0 ((((ha.mono fe).mono gi).mono gU).mono kN) (by rw[Array.toArray_toList,Array.toArray_toList];exact hw)) fun sx _ _ uF _=>?_;exact SR.pure (.int _ _)
  cases hr with
  |ig l c=>exact tail none none l (.inl ⟨rfl,rfl⟩)
  | @slice b c off sp l cp hb=>exact tail (some ⟨b,off,sp⟩) (some ⟨c,off,sp⟩) l (.inr ⟨_,_,rfl,rfl,hb,rfl,rfl⟩)
  |_=>exact SR.stuck
 |_=>exact SR.stuck
end
end
section
section
variable{P:au}{S:ak->Prop}{ro:Nat->Md}{ρ:Nat->Option Nat}{v v' u u':af}
theorem SR.intArith(op:BinOp)(k:IntKind)(x y:Int):SR P S ro ρ (Op.intArith op k x y) (Op.intArith op k x y) fun ρ' a b=>VR S ρ' a b:=by
 cases op<;>first|exact SR.pure (.int _ _)|exact SR.stuck
theorem SR.intDiv(op:BinOp)(k:IntKind)(x y:Int):SR P S ro ρ (Op.intDiv op k x y) (Op.intDiv op k x y) fun ρ' a b=>VR S ρ' a b:=by
 unfold Op.intDiv;split
 ·exact SR.panic
 ·cases op<;>first|exact SR.pure (.int _ _)|exact SR.stuck
theorem SR.intBits(op:BinOp)(k:IntKind)(x y:Int):SR P S ro ρ (Op.intBits op k x y) (Op.intBits op k x y) fun ρ' a b=>VR S ρ' a b:=by
 cases op<;>first|exact SR.pure (.int _ _)|exact SR.stuck
theorem SR.shift(op:BinOp)(k:IntKind)(x:Int)(k':IntKind)(y:Int):SR P S ro ρ (Op.shift op k x k' y) (Op.shift op k x k' y) fun ρ' a b=>VR S ρ' a b:=by
 unfold Op.shift;split
 ·exact SR.panic
 ·cases op<;>first|exact SR.pure (.int _ _)|exact SR.stuck
theorem SR.intCmp(op:BinOp)(x y:Int):SR P S ro ρ (Op.intCmp op x y) (Op.intCmp op x y) fun ρ' a b=>VR S ρ' a b:=by
 cases op<;>first|exact SR.pure (.bool _)|exact SR.stuck
theorem SR.stringOp(op:BinOp)(x y:ByteArray):SR P S ro ρ (Op.stringOp op x y) (Op.stringOp op x y) fun ρ' a b=>VR S ρ' a b:=by
 unfold Op.stringOp;cases op<;>dsimp only<;>first
  |exact SR.pure (.bool _)
  |exact SR.stuck
  |(split
    ·exact SR.unsupported trivial
    ·exact SR.pure (.string _))
theorem zq{p:au}{d:Nat}{e:aj}{c c' off:Nat}{n:Int}(hc:c<=c'){r:Nat}(h:cellAtBytes p d e c off n=some r):cellAtBytes p d e c' off n=some r:=by
 unfold cellAtBytes at h ⊢;dsimp only at h ⊢;split at h
 ·cases h
 ·rename_i h0;rw[if_neg h0];cases hb:byteOfCell p d e (off%p.cellsOf e)with
  |none=>rw[hb]at h;cases h
  |some b=>
   rw[hb]at h;simp only[Option.bind_eq_bind,Option.bind_some]at h ⊢;split at h
   ·cases h
   ·rename_i h1;have h2:¬(decide ((Int.ofNat (off/p.cellsOf e*p.bytesOf e+b)+n<0))||decide (Int.ofNat (off/p.cellsOf e*p.bytesOf e+b)+n≥Int.ofNat (c'*p.bytesOf e)))=true:=by
     simp only[Bool.or_eq_true,decide_eq_true_eq,not_or]at h1 ⊢;refine⟨h1.1,?_⟩;have:=Nat.mul_le_mul_right (p.bytesOf e) hc
     simp only[Int.ofNat_eq_natCast]at*;omega
    rw[if_neg h2];exact h
theorem SR.unsafeAdd{t:aj}(h:VR S ρ v v')(k:VR S ρ u u'):SR P S ro ρ (Builtin.unsafeAdd_ #[] t #[v,u]) (Builtin.unsafeAdd_ #[] t #[v',u']) fun ρ' a b=>VR S ρ' a b/\((∃x x',a=.pointer (some x)/\b=.pointer (some x')/\nj ρ' x x')):=by
 unfold Builtin.unsafeAdd_;have tail:∀(p p':Option Addr),(p=none/\p'=none\/∃x x',p=some x/\p'=some x'/\nj ρ x x')->SR P S ro ρ (do
   let n<-Go.asInt u
   if n=0 then
    let some a:=p|bW (.unsafePointer "Add: from nil")
    if(<-Go.viewAt a.block).isSome then bW (.unsafePointer "Add: at a place where no cell lies")
    return .pointer p
   if n<0 then bW (.unsafePointer "Add: a move by a count below zero")
   let some a:=p|bW (.unsafePointer "Add")
   let some (e,cells)<-Go.shape a.block|bW (.unsafePointer "Add")
   let p<-Go.program
   match cellAtBytes p p.depth e (cells/p.cellsOf e) a.off n with
   |some off=>aX (.pointer (some {a with off}))
   |none=>bW (.unsafePointer "Add"):Sem af) (do
   let n<-Go.asInt u'
   if n=0 then
    let some a:=p'|bW (.unsafePointer "Add: from nil")
    if(<-Go.viewAt a.block).isSome then bW (.unsafePointer "Add: at a place where no cell lies")
    return .pointer p'
   if n<0 then bW (.unsafePointer "Add: a move by a count below zero")
   let some a:=p'|bW (.unsafePointer "Add")
   let some (e,cells)<-Go.shape a.block|bW (.unsafePointer "Add")
   let p<-Go.program
   match cellAtBytes p p.depth e (cells/p.cellsOf e) a.off n with
   |some off=>aX (.pointer (some {a with off}))
   |none=>bW (.unsafePointer "Add"):Sem af) fun ρ' a b=>VR S ρ' a b/\((∃x x',a=.pointer (some x)/\b=.pointer (some x')/\nj ρ' x x')):=by
  intro p p' hp;refine SR.bind (SR.asInt k) fun fQ n n' fe e=>?_;subst e;rcases hp with⟨rfl,rfl⟩|⟨x,x',rfl,rfl,hx⟩
  ·by_cases h0:n=0
   ·simp only[if_pos h0];exact SR.nU (m:=.unsafePointer _) trivial
   ·simp only[if_neg h0];by_cases h1:n<0
    ·simp only[if_pos h1];exact SR.nU (m:=.unsafePointer _) trivial
    ·simp only[if_neg h1];exact SR.unsupported trivial
  ·by_cases h0:n=0
   ·simp only[if_pos h0];refine SR.bind (SR.viewAt (fe _ _ hx.1)) fun gS a b gi hab=>?_;obtain⟨rfl,rfl⟩:=hab;simp only[Option.isSome_none,aQ,if_false];have hx2:=(hx.mono fe).mono gi;exact SR.pure ⟨hx2.ptr,x,x',rfl,rfl,hx2⟩
   ·simp only[if_neg h0];by_cases h1:n<0
    ·simp only[if_pos h1];exact SR.nU (m:=.unsafePointer _) trivial
    ·simp only[if_neg h1];refine SR.bind (SR.shape (fe _ _ hx.1)) fun gS a b gi hab=>?_;rcases hab with⟨e,m,m',rfl,rfl,hm⟩|⟨rfl,rfl⟩
     ·dsimp only;refine SR.bind SR.program fun iI p p' gU hp=>?_;obtain⟨rfl,rfl⟩:=hp;cases hc:cellAtBytes p p.depth e (m/p.cellsOf e) x.off n with
      |none=>exact SR.unsupported trivial
      |some off=>
       have:cellAtBytes p p.depth e (m'/p.cellsOf e) x'.off n=some off:=by
        rw[hx.2.1];exact zq (Nat.div_le_div_right hm) hc
       rw[this];have hx3:=((hx.mono fe).mono gi).mono gU;have:nj iI {x with off:=off} {x' with off:=off}:=⟨hx3.1,rfl,hx3.2.2⟩
       exact SR.pure ⟨this.ptr,_,_,rfl,rfl,this⟩
     ·exact SR.unsupported trivial
 cases h with
 |nilPtr=>exact tail none none (.inl ⟨rfl,rfl⟩)
 | @ptr b c off sp hb=>exact tail (some ⟨b,off,sp⟩) (some ⟨c,off,sp⟩) (.inr ⟨_,_,rfl,rfl,hb,rfl,rfl⟩)
 |_=>exact SR.stuck
theorem SR.movedNumber{t:aj}(h:VR S ρ v v')(k:VR S ρ u u'):SR P S ro ρ (Go.movedNumber t v u) (Go.movedNumber t v' u') fun ρ' a b=>VR S ρ' a b:=by
 unfold Go.movedNumber;refine SR.bind (SR.underlying t) fun fQ d d' fe hd=>?_;obtain⟨rfl,-⟩:=hd;have key:∀fQ,Ext ρ fQ->SR P S ro fQ (do
   let .pointer (some n):=v|Builtin.unsafeAdd_ #[] t #[v,u]
   let(a,lost)<-Go.behindNumber n
   match<-Builtin.unsafeAdd_ #[] t #[.pointer (some a),u]with
   |.pointer (some b)=>Go.asNumber b lost
   |v=>aX v:Sem af) (do
   let .pointer (some n):=v'|Builtin.unsafeAdd_ #[] t #[v',u']
   let(a,lost)<-Go.behindNumber n
   match<-Builtin.unsafeAdd_ #[] t #[.pointer (some a),u']with
   |.pointer (some b)=>Go.asNumber b lost
   |v=>aX v:Sem af) fun ρ' a b=>VR S ρ' a b:=by
  intro fQ fe;have hv:=h.mono fe;have hu:=k.mono fe;cases hv with
  | @ptr b c off sp hb=>
   dsimp only;refine SR.bind (SR.behindNumber (n:=⟨b,off,sp⟩) (n':=⟨c,off,sp⟩) ⟨hb,rfl,rfl⟩) fun gS a b gi hab=>?_;obtain⟨a,l⟩:=a;obtain⟨b,l'⟩:=b;obtain⟨h1,rfl⟩:=hab;dsimp only at h1 ⊢;refine SR.bind (SR.unsafeAdd h1.ptr (hu.mono gi)) fun iI x y gU hxy=>?_;obtain⟨-,z,z',rfl,rfl,hz⟩:=hxy;exact SR.Qq hz
  |junk _ _ _=>exact SR.stuck
  |_=>exact(SR.unsafeAdd (by constructor<;>assumption) hu).mono fun _ _ _ _ x=>x.1
 cases d<;>simp only[aQ,if_false,if_true]<;>first|exact key fQ fe|exact SR.nU (m:=.unsafePointer _) trivial
end
end
section
section
variable{P:au}{S:ak->Prop}{ro:Nat->Md}{ρ:Nat->Option Nat}{v v' u u':af}
theorem SR.Wo{α β:Type}{x:Sem α}{y:Sem β}{V:(Nat->Option Nat)->α->β->Prop}{a a':Addr}(h:nj ρ a a')(k:P.globals.size<=a.block->P.globals.size<=a'.block->SR P S ro ρ x y V):SR P S ro ρ x y V:=
 fun s w hr=>k (hr.low _ _ h.1).1 (hr.low _ _ h.1).2 s w hr
theorem SR.twoPlaces{a b:Addr}{c:Nat}(h:ρ a.block=some c){β:Type}{y:Sem β}{V:(Nat->Option Nat)->Nat×Nat->β->Prop}:SR P S ro ρ (Op.twoPlaces a b) y V:=by
 intro s w hr ht hd hro;have hl:=(hr.low _ _ h).1;have key:(Op.twoPlaces a b).run P s=.halt (.unsupported .addressObserved) s:=by
  unfold Op.twoPlaces;rw[aO,run_program,Result.andThen];have:(a.block != b.block||decide (a.block≥P.globals.size))=true:=by simp;omega
  simp only[this,if_true];rfl
 exact⟨fun a s' hx=>(by rw[key]at hx;cases hx),fun h s' hx=>(by rw[key]at hx;cases hx;trivial),fun a s' hx=>(by rw[key]at hx;cases hx)⟩
theorem SR.addrSub{a b a' b':Addr}{k:IntKind}(h:nj ρ a a'):SR P S ro ρ (Op.addrSub k a b) (Op.addrSub k a' b') fun ρ' x y=>VR S ρ' x y:=by
 unfold Op.addrSub;exact SR.bind (V:=fun _ a b=>a=b) (SR.twoPlaces h.1) fun _ _ _ _ e=>by subst e;exact SR.pure (.int _ _)
theorem SR.addrCmp{a b a' b':Addr}{op:BinOp}(h:nj ρ a a'):SR P S ro ρ (Op.addrCmp op a b) (Op.addrCmp op a' b') fun ρ' x y=>VR S ρ' x y:=by
 unfold Op.addrCmp;exact SR.bind (V:=fun _ a b=>a=b) (SR.twoPlaces h.1) fun _ _ _ _ e=>by
  subst e;cases op<;>first|exact SR.pure (.bool _)|exact SR.unsupported trivial
theorem SR.addrMod{a a':Addr}{k:IntKind}{n:Int}(h:nj ρ a a'):SR P S ro ρ (Op.addrMod k a n) (Op.addrMod k a' n) fun ρ' x y=>VR S ρ' x y:=by
 unfold Op.addrMod;refine SR.bind (SR.shape h.1) fun fQ x y fe hxy=>?_;rcases hxy with⟨e,m,m',rfl,rfl,-⟩|⟨rfl,rfl⟩
 ·dsimp only;refine SR.bind (SR.typeInfo e) fun gS i i' gi e=>?_;obtain⟨rfl,-⟩:=e;split
  ·exact SR.nU (m:=.addressObserved) trivial
  ·exact SR.bind (SR.byteOf ((h.mono fe).mono gi)) fun _ _ _ _ e=>by subst e;exact SR.pure (.int _ _)
 ·exact SR.unsupported trivial
def oG(P:au):Nat->aj->Bool
 |0,_=>false
 |d+1,t=>match P.underlying t with
  |some .bool|some .string=>true
  |some (.int _)=>match P.info? t with
   |some i=>match i.desc with
    |.named "sync.copyChecker" _=>false
    |_=>true
   |none=>false
  |some (.struct fs)=>!P.stoodInHeld t&&fs.all fun f=>oG P d f.type
  |_=>false
theorem SR.forIn{α β γ:Type}(l:List α)(f:α->β->Sem (ForInStep β))(g:α->γ->Sem (ForInStep γ))(R:(Nat->Option Nat)->β->γ->Prop)(hm:∀ρ ρ' b c,Ext ρ ρ'->R ρ b c->R ρ' b c)
  (h:∀x∈l,∀ρ b c,R ρ b c->SR P S ro ρ (f x b) (g x c) fun ρ' a a'=>(∃b c,a=.yield b/\a'=.yield c/\R ρ' b c)\/∃b c,a=.done b/\a'=.done c/\R ρ' b c):
  ∀{ρ:Nat->Option Nat} (b:β) (c:γ),R ρ b c->SR P S ro ρ (forIn l b f) (forIn l c g) R:=by
 induction l with
 |nil=>intro ρ b c hb;simp only[List.forIn_nil];exact SR.pure hb
 |cons x l ih=>
  intro ρ b c hb;simp only[List.forIn_cons];refine SR.bind (h x (by simp) ρ b c hb) fun fQ a a' fe haa=>?_;rcases haa with⟨b,c,rfl,rfl,hb⟩|⟨b,c,rfl,rfl,hb⟩
  ·exact ih (fun y hy=>h y (by simp[hy])) b c hb
  ·exact SR.pure hb
theorem SR.equalIn(d:Nat):∀(D:Nat) {t:aj} {ρ:Nat->Option Nat} {v v' u u':af},oG P D t=true->VR S ρ v v'->VR S ρ u u'->SR P S ro ρ (Op.equalIn d t v u) (Op.equalIn d t v' u') fun _ a b=>a=b:=by
 induction d with
 |zero=>intro D t ρ v v' u u' _ _ _;exact SR.unsupported trivial
 |succ d ih=>
  intro D t ρ v v' u u' hf h k;cases D with
  |zero=>cases hf
  |succ D=>
  unfold Op.equalIn;refine SR.bind (SR.underlying t) fun fQ x x' fe hd=>?_;obtain⟨rfl,hu⟩:=hd;unfold oG at hf;rw[hu]at hf;have h1:=h.mono fe;have k1:=k.mono fe;cases x with
  |bool=>cases h1<;>cases k1<;>first|exact SR.pure rfl|exact SR.stuck
  |string=>cases h1<;>cases k1<;>first|exact SR.pure rfl|exact SR.stuck
  |int kk=>
   have hc:∀i,P.info? t=some i->∀u,i.desc≠ .named "sync.copyChecker" u:=by
    intro i hi u e;rw[hi]at hf;simp only[e]at hf;cases hf
   cases h1<;>cases k1<;>first
    |exact SR.stuck
    |exact SR.unsupported trivial
    |(dsimp only;split<;>first|exact SR.pure rfl|exact SR.stuck)
    |skip
   ·rename_i n _ _ _ _ _;rcases n with(_|m)|m<;>first|exact SR.pure rfl|exact SR.unsupported trivial
   ·rename_i n;rcases n with(_|m)|m<;>first|exact SR.pure rfl|exact SR.unsupported trivial
   ·rename_i b c off sp hb b2 c2 IU sp2 hb2;dsimp only;refine SR.bind (SR.behindNumber (n:=⟨b,off,sp⟩) (n':=⟨c,off,sp⟩) ⟨hb,rfl,rfl⟩) fun gS x y gi hxy=>?_;refine SR.bind (SR.behindNumber (n:=⟨b2,IU,sp2⟩) (n':=⟨c2,IU,sp2⟩) ⟨gi _ _ hb2,rfl,rfl⟩) fun iI x2 y2 gU ca4=>?_;refine SR.Wo (hxy.1.mono gU) fun l1 l2=>?_;refine SR.bind SR.program fun qM p p' kN hp=>?_;obtain⟨rfl,rfl⟩:=hp;have e1:(x.1.block==x2.1.block&&decide (x.1.block<p.globals.size))=false:=by simp;omega
    have e2:(y.1.block==y2.1.block&&decide (y.1.block<p.globals.size))=false:=by simp;omega
    simp only[e1,e2,aQ,if_false];refine SR.bind (SR.typeInfo t) fun sx i i' uF hi=>?_;obtain⟨rfl,hi⟩:=hi;have:=hc _ hi
    split
    ·rename_i u e;exact absurd e (this u)
    ·exact SR.unsupported trivial
  |struct fs=>
   simp only[aD,bV,aV]at hf;cases h1 with
   |agg hx hxs=>
    cases k1 with
    |agg hy hys=>
     dsimp only;refine SR.bind SR.program fun gS p p' gi hp=>?_;obtain⟨rfl,rfl⟩:=hp;simp only[hf.1,aQ,if_false];simp only[<-Array.forIn_toList];refine SR.bind (SR.forIn (R:=fun ρ a b=>Ext gS ρ/\a=b) fs.toList _ _ (fun _ _ _ _ e k=>⟨k.1.trans e,k.2⟩) (fun f hfm iI b c e=>?_) _ _ ⟨.refl _,rfl⟩) fun iI a b _ e=>?_
     ·obtain⟨gU,rfl⟩:=e;by_cases hn:f.name≠ "_"
      ·rw[if_pos hn,if_pos hn];refine SR.bind (SR.part (((AR.mk hx hxs).mono gi).mono gU) f.offset) fun qM a a' kN haa=>?_;refine SR.bind (SR.part ((((AR.mk hy hys).mono gi).mono gU).mono kN) f.offset) fun sx c c' uF hcc=>?_;refine SR.bind (ih D (hf.2 f (by simpa using hfm)) (haa.mono uF) hcc) fun EA q q' rq e=>?_;subst e;have E:=(gU.trans kN).trans (uF.trans rq);split
       ·exact SR.pure (.inr ⟨_,_,rfl,rfl,E,rfl⟩)
       ·exact SR.pure (.inl ⟨_,_,rfl,rfl,E,rfl⟩)
      ·rw[if_neg hn,if_neg hn];exact SR.pure (.inl ⟨_,_,rfl,rfl,gU,rfl⟩)
     ·obtain⟨-,rfl⟩:=e;split<;>exact SR.pure rfl
    |_=>exact SR.stuck
   |_=>cases k1<;>exact SR.stuck
  |_=>cases hf
theorem Kb{op:BinOp}{t:aj}{X Y:Operand}(hg:P.eqGuardType P.depth t=false){d:TypeDesc}(hd:P.underlying t=some d)(hi:∀ms,d≠ .interface ms)(v u:af)(w:ae):(Go.eqGuard op t X Y v u).run P w=.ok () w/\∀es,(Go.eqGuard op t X Y v u).events P w es=es:=by
 have hu:∀w,(dF t).run P w=.ok d w/\∀es,(dF t).events P w es=es:=fun w=>by
  unfold dF;simp[hd]
 have hin:∀w,(Op.eqGuardIn Op.maxDepth t .nilIface .nilIface).run P w=.ok false w/\∀es,(Op.eqGuardIn Op.maxDepth t .nilIface .nilIface).events P w es=es:=fun w=>by
  unfold Op.maxDepth Op.eqGuardIn;constructor
  ·rw[aO,(hu w).1];cases d<;>first|rfl|exact absurd rfl (hi _)
  ·intro es;rw[Sem.events_bind,(hu w).1,(hu w).2];cases d<;>first|rfl|exact absurd rfl (hi _)
 have tail:∀b:Bool,(if b=true then(pure ():Sem Unit)else(do if<-Op.eqGuardIn Op.maxDepth t .nilIface .nilIface then unsupported (.noEntry "binop/eql: two nil values of an interface type with methods, neither of them the literal nil"))).run P w=.ok () w/\∀es,(if b=true then(pure ():Sem Unit)else(do if<-Op.eqGuardIn Op.maxDepth t .nilIface .nilIface then unsupported (.noEntry "binop/eql: two nil values of an interface type with methods, neither of them the literal nil"))).events P w es=es:=by
  intro b;cases b
  ·simp[(hin w).1,(hin w).2]
  ·exact⟨rfl,fun _=>rfl⟩
 unfold Go.eqGuard;cases op<;>first
  |exact⟨rfl,fun _=>rfl⟩
  |(simp only[Bool.not_true,aQ,if_false]
    split
    ·exact tail _
    ·simp[hg]
    ·exact⟨rfl,fun _=>rfl⟩)
theorem SR.eqGuard{op:BinOp}{t:aj}{X Y:Operand}(hg:P.eqGuardType P.depth t=false)(hf:oG P 8 t=true):SR P S ro ρ (Go.eqGuard op t X Y v u) (Go.eqGuard op t X Y v' u') fun _ _ _=>True:=by
 obtain⟨d,hd,hi⟩:∃d,P.underlying t=some d/\∀ms,d≠ .interface ms:=by
  unfold oG at hf;cases hd:P.underlying t with
  |none=>rw[hd]at hf;cases hf
  |some d=>exact⟨d,rfl,fun ms e=>by rw[hd,e]at hf;cases hf⟩
 intro s w hr ht hdr hro;have k:=fun v u w=>Kb (P:=P) (op:=op) (X:=X) (Y:=Y) hg hd hi v u w;refine⟨fun a s' hx=>?_,fun h s' hx=>(by rw[(k v u s).1]at hx;cases hx),fun a s' hx=>?_⟩
 ·rw[(k v u s).1]at hx;cases hx;exact⟨ρ,(),w,(k v' u' w).1,by rw[(k v' u' w).2];exact Mv.refl hr ht hdr,trivial⟩
 ·rw[(k v u s).1]at hx;cases hx;exact⟨rfl,0,rfl,fun τ d' _=>⟨(k v u _).1,fun es=>by rw[(k v u _).2,(k v u _).2]⟩⟩
end
end
section
section
variable{P:au}{S:ak->Prop}{ro:Nat->Md}{ρ:Nat->Option Nat}{v v' u u':af}
theorem SR.aA4{t:aj}{b:Bool}(ht:oG P 8 t=true)(h:VR S ρ v v')(k:VR S ρ u u'):SR P S ro ρ (do aX (.bool (<-Op.equal t v u)):Sem af) (do aX (.bool (<-Op.equal t v' u')):Sem af) fun ρ' a b=>VR S ρ' a b:=
 SR.bind (SR.equalIn Op.maxDepth 8 ht h k) fun _ _ _ _ e=>by subst e;exact SR.pure (.bool _)
theorem SR.YC{t:aj}{b:Bool}(ht:oG P 8 t=true)(h:VR S ρ v v')(k:VR S ρ u u'):SR P S ro ρ (do aX (.bool (!(<-Op.equal t v u))):Sem af) (do aX (.bool (!(<-Op.equal t v' u'))):Sem af) fun ρ' a b=>VR S ρ' a b:=
 SR.bind (SR.equalIn Op.maxDepth 8 ht h k) fun _ _ _ _ e=>by subst e;exact SR.pure (.bool _)
theorem LV{t:aj}{d:TypeDesc}(ht:oG P 8 t=true)(h:P.underlying t=some d):d≠ .unsafePointer:=by
 intro e;subst e;unfold oG at ht;rw[h]at ht;cases ht
theorem SR.moved{t:aj}(ht:oG P 8 t=true)(h:VR S ρ v v')(k:VR S ρ u u'):SR P S ro ρ (do if(<-dF t) matches .unsafePointer then Go.movedPointer t v u else Go.movedNumber t v u:Sem af) (do if(<-dF t) matches .unsafePointer then Go.movedPointer t v' u' else Go.movedNumber t v' u':Sem af) fun ρ' a b=>VR S ρ' a b:=by
 refine SR.bind (SR.underlying t) fun fQ d d' fe hd=>?_;obtain⟨rfl,hu⟩:=hd;have:=LV ht hu
 have h1:=SR.movedNumber (t:=t) (P:=P) (ro:=ro) (h.mono fe) (k.mono fe);cases d<;>simp only[aQ,if_false]<;>first|exact h1|exact absurd rfl this
theorem QW{t:aj}(ht:oG P 8 t=true)(v u:af)(hj:v=.nilIface\/u=.nilIface):fu P (Op.equal t v u):=by
 obtain⟨d,hd,hi⟩:∃d,P.underlying t=some d/\((d=.bool\/d=.string)\/(∃k,d=.int k)\/∃fs,d=.struct fs):=by
  unfold oG at ht;cases hd:P.underlying t with
  |none=>rw[hd]at ht;cases ht
  |some d=>cases d<;>rw[hd]at ht<;>first|exact⟨_,rfl,.inl (.inl rfl)⟩|exact⟨_,rfl,.inl (.inr rfl)⟩|exact⟨_,rfl,.inr (.inl ⟨_,rfl⟩)⟩|exact⟨_,rfl,.inr (.inr ⟨_,rfl⟩)⟩|cases ht
 have hu:∀w,(dF t).run P w=.ok d w:=fun w=>by
  unfold dF;simp[hd]
 intro s;unfold Op.equal Op.maxDepth Op.equalIn;rw[aO,hu s];have st:∀m:String,∃h s',(stuck m:Sem Bool).run P s=.halt h s'/\Dv h:=fun m=>fu.stuck s;have un:∃h s',(bW .addressObserved:Sem Bool).run P s=.halt h s'/\Dv h:=fu.halt (h:=.unsupported .addressObserved) trivial s;rcases hj with rfl|rfl
 ·rcases hi with(rfl|rfl)|⟨k,rfl⟩|⟨fs,rfl⟩<;>rcases u with _|_|_|_|_|(_|_)|_|_|_|_|_|_|_|_|_<;>first|exact st _|exact un
 ·rcases hi with(rfl|rfl)|⟨k,rfl⟩|⟨fs,rfl⟩<;>rcases v with _|_|_|_|_|(_|_)|_|_|_|_|_|_|_|_|_<;>first|exact st _|exact un
theorem YV{op:BinOp}{t:aj}(ht:oG P 8 t=true)(v u:af)(hj:v=.nilIface\/u=.nilIface):fu P (Go.binOp op t v u):=by
 have he:=QW ht v u hj;have ne:fu P (do pure (.bool (<-Op.equal t v u)):Sem af):=he.bind;have nn:fu P (do pure (.bool (!(<-Op.equal t v u))):Sem af):=he.bind;rcases hj with rfl|rfl
 ·cases op<;>cases u<;>first|exact fu.stuck|exact ne|exact nn|exact fu.halt (h:=.unsupported .addressObserved) trivial
 ·cases op<;>rcases v with _|_|_|_|_|(_|_)|_|_|_|_|_|_|_|_|_<;>first|exact fu.stuck|exact ne|exact nn|exact fu.halt (h:=.unsupported .addressObserved) trivial
theorem SR.binOp{op:BinOp}{t:aj}(ht:oG P 8 t=true)(h:VR S ρ v v')(k:VR S ρ u u'):SR P S ro ρ (Go.binOp op t v u) (Go.binOp op t v' u') fun ρ' a b=>VR S ρ' a b:=by
 by_cases hj:v=.nilIface\/u=.nilIface
 ·exact SR.never (YV ht v u hj)
 have Wh:=SR.aA4 (ro:=ro) (b:=true) ht h k;have V4:=SR.YC (ro:=ro) (b:=true) ht h k;have mv:=SR.moved (ro:=ro) ht h k;have mn:=SR.movedNumber (P:=P) (ro:=ro) (t:=t) h k;have mn':=SR.movedNumber (P:=P) (ro:=ro) (t:=t) k h;have ao:∀(y:Sem af) V,SR P S ro ρ (bW .addressObserved:Sem af) y V:=fun _ _=>SR.unsupported trivial;unfold Go.binOp at mv ⊢;cases h with
 |junk _ _ _=>exact absurd (.inl rfl) hj
 |int kk n=>
  cases k with
  |junk _ _ _=>exact absurd (.inr rfl) hj
  |int k2 n2=>
   cases op<;>dsimp only<;>first
    |exact SR.shift _ _ _ _ _
    |(by_cases hk:kk≠k2
      ·simp only[if_pos hk];exact SR.stuck
      ·simp only[if_neg hk];first|exact SR.intArith _ _ _ _|exact SR.intDiv _ _ _ _|exact SR.intBits _ _ _ _|exact SR.intCmp _ _ _)
  | @ptr b c off sp hb=>
   have bh:=SR.behindNumber (P:=P) (S:=S) (ro:=ro) (ρ:=ρ) (n:=⟨b,off,sp⟩) (n':=⟨c,off,sp⟩) ⟨hb,rfl,rfl⟩;cases op<;>dsimp only<;>first|exact Wh|exact V4|exact mn'|exact SR.stuck|exact ao _ _|exact SR.bind bh (fun _ a b _ hab=>SR.addrMod hab.1)
  |nilPtr=>cases op<;>dsimp only<;>first|exact Wh|exact V4|exact mn'|exact SR.stuck|exact ao _ _
  |_=>cases op<;>dsimp only<;>first|exact Wh|exact V4|exact SR.stuck|exact ao _ _
 |string s=>
  cases k with
  |junk _ _ _=>exact absurd (.inr rfl) hj
  |string s2=>cases op<;>dsimp only<;>exact SR.stringOp _ _ _
  |_=>cases op<;>dsimp only<;>first|exact Wh|exact V4|exact SR.stuck|exact ao _ _
 | @ptr b c off sp hb=>
  have bh:=SR.behindNumber (P:=P) (S:=S) (ro:=ro) (ρ:=ρ) (n:=⟨b,off,sp⟩) (n':=⟨c,off,sp⟩) ⟨hb,rfl,rfl⟩;cases k with
  |junk _ _ _=>exact absurd (.inr rfl) hj
  |int k2 n2=>
   have mi:=SR.movedNumber (P:=P) (ro:=ro) (t:=t) (VR.ptr (S:=S) off sp hb) (VR.int k2 (-n2));cases op<;>dsimp only<;>first|exact Wh|exact V4|exact mv|exact mi|exact SR.stuck|exact ao _ _|exact SR.bind bh (fun _ a b _ hab=>SR.addrMod hab.1)
  | @ptr b2 c2 IU sp2 hb2=>
   have bh2:=fun(fQ:Nat->Option Nat) (he:Ext ρ fQ)=>SR.behindNumber (P:=P) (S:=S) (ro:=ro) (ρ:=fQ) (n:=⟨b2,IU,sp2⟩) (n':=⟨c2,IU,sp2⟩) ⟨he _ _ hb2,rfl,rfl⟩;cases op<;>dsimp only<;>first|exact Wh|exact V4|exact SR.stuck|exact ao _ _|exact SR.bind bh (fun _ a b he hab=>SR.bind (bh2 _ he) (fun _ a2 b2 he2 bw2=>SR.addrSub (hab.1.mono he2)))|exact SR.bind bh (fun _ a b he hab=>SR.bind (bh2 _ he) (fun _ a2 b2 he2 bw2=>SR.addrCmp (hab.1.mono he2)))
  |_=>cases op<;>dsimp only<;>first|exact Wh|exact V4|exact SR.stuck|exact ao _ _
 |nilPtr=>
  cases k with
  |junk _ _ _=>exact absurd (.inr rfl) hj
  |int k2 n2=>
   have mi:=SR.movedNumber (P:=P) (ro:=ro) (ρ:=ρ) (t:=t) (VR.nilPtr (S:=S)) (VR.int k2 (-n2));cases op<;>dsimp only<;>first|exact Wh|exact V4|exact mv|exact mi|exact SR.stuck|exact ao _ _
  |_=>cases op<;>dsimp only<;>first|exact Wh|exact V4|exact SR.stuck|exact ao _ _
 |_=>cases k<;>first|(exfalso;exact hj (.inr rfl))|(cases op<;>dsimp only<;>first|exact Wh|exact V4|exact SR.stuck|exact ao _ _)
end
end
section
section
variable{P:au}{S:ak->Prop}{ro:Nat->Md}{ρ:Nat->Option Nat}{v v' u u':af}
def PD(S:ak->Prop)(ρ:Nat->Option Nat):Option af->Option af->Prop
 |none,none=>True
 |some a,some b=>VR S ρ a b
 |_,_=>False
theorem PD.mono{ρ':Nat->Option Nat}(x:Ext ρ ρ'){a b:Option af}(h:PD S ρ a b):PD S ρ' a b:=by
 cases a<;>cases b<;>first|exact trivial|exact VR.mono (h:=h) x|exact h.elim
theorem SR.sliceBound(y:Nat)(c:BoundsCode)(h:VR S ρ v v'):SR P S ro ρ (Instr.sliceBound v y c) (Instr.sliceBound v' y c) fun _ a b=>a=b:=by
 unfold Instr.sliceBound;refine SR.bind (SR.asIntOf h) fun fQ a b _ e=>?_;subst e;obtain⟨k,i⟩:=a;dsimp only;split
 ·exact SR.pure rfl
 ·exact SR.bounds
theorem SR.sliceBounds(iS:Bool)(len cap:Nat){lo lo' hi hi' mx mx':Option af}(h1:PD S ρ lo lo')(h2:PD S ρ hi hi')(h3:PD S ρ mx mx'):SR P S ro ρ (Instr.sliceBounds iS len cap lo hi mx) (Instr.sliceBounds iS len cap lo' hi' mx') fun _ a b=>a=b:=by
 unfold Instr.sliceBounds;cases mx<;>cases mx'<;>(first|exact h3.elim|skip)<;>cases hi<;>cases hi'<;>(first|exact h2.elim|skip)<;>cases lo<;>cases lo'<;>(first|exact h1.elim|skip)<;>dsimp only
 all_goals
  refine SR.bind (V:=fun _ a b=>a=b) (by first|exact SR.pure rfl|exact SR.sliceBound _ _ h3) fun fQ a a' e1 ea=>?_;subst ea;first
   |exact SR.qP
   |(refine SR.bind (V:=fun _ a b=>a=b) (by first|exact SR.pure rfl|exact SR.sliceBound _ _ (VR.mono (h:=h2) e1)) fun gS b b' e2 eb=>?_
     subst eb;refine SR.bind (V:=fun _ a b=>a=b) (by first|exact SR.pure rfl|exact SR.sliceBound _ _ (VR.mono (h:=VR.mono (h:=h1) e1) e2)) fun iI d d' e3 ed=>?_;subst ed;exact SR.pure rfl)
theorem SR.slice{t:aj}(ht:∃d,P.underlying t=some d/\(d=.string\/∃e,d=.slice e))(h:VR S ρ v v'){lo lo' hi hi' mx mx':Option af}(h1:PD S ρ lo lo')(h2:PD S ρ hi hi')(h3:PD S ρ mx mx'):
  SR P S ro ρ (Instr.slice t v lo hi mx) (Instr.slice t v' lo' hi' mx') fun ρ' a b=>VR S ρ' a b:=by
 obtain⟨d0,hu0,hd0⟩:=ht;unfold Instr.slice;refine SR.bind (SR.underlying t) fun fQ d d' fe hd=>?_;obtain⟨rfl,hu⟩:=hd;rw[hu0]at hu;cases hu;have hs:mx.isSome=mx'.isSome:=by cases mx<;>cases mx'<;>first|rfl|exact h3.elim
 rcases hd0 with rfl|⟨e,rfl⟩
 ·cases h with
  |string s=>
   dsimp only;rw[hs];split
   ·exact SR.qP
   ·refine SR.bind (SR.sliceBounds false s.size s.size (h1.mono fe) (h2.mono fe) (show PD S fQ none none from trivial)) fun gS a b _ e=>?_;subst e;exact SR.pure (.string _)
  |_=>exact SR.stuck
 ·have go:∀(len cap:Nat) (A A':Option Addr),((A=none/\A'=none)\/∃a a',A=some a/\A'=some a'/\nj ρ a a')->SR P S ro fQ (do
    let(l,h,m)<-Instr.sliceBounds true len cap lo hi mx
    let size<-Go.sizeOf e
    aX (.slice (if m=l then A else A.map (·.add (l*size))) (h-l) (m-l)):Sem af) (do
    let(l,h,m)<-Instr.sliceBounds true len cap lo' hi' mx'
    let size<-Go.sizeOf e
    aX (.slice (if m=l then A' else A'.map (·.add (l*size))) (h-l) (m-l)):Sem af) fun ρ' a b=>VR S ρ' a b:=by
   intro len cap A A' hA;refine SR.bind (SR.sliceBounds true len cap (h1.mono fe) (h2.mono fe) (h3.mono fe)) fun gS a b gi e2=>?_;subst e2;obtain⟨l,hh,m⟩:=a;dsimp only;refine SR.bind (SR.sizeOf e) fun iI z z' gU e3=>?_;subst e3;refine SR.pure ?_;rcases hA with⟨rfl,rfl⟩|⟨a,a',rfl,rfl,ha⟩
   ·split
    ·exact .ig _ _
    ·exact .ig _ _
   ·have ha3:=((ha.mono fe).mono gi).mono gU;split
    ·exact ha3.slice _ _
    ·exact(ha3.add _).slice _ _
  cases h with
  |ig l c=>exact go l c none none (.inl ⟨rfl,rfl⟩)
  |slice off sp l c hb=>exact go l c _ _ (.inr ⟨_,_,rfl,rfl,(show nj ρ ⟨_,off,sp⟩ ⟨_,off,sp⟩from⟨hb,rfl,rfl⟩)⟩)
  |_=>exact SR.stuck
theorem SR.sliceAt{t:aj}(ht:∃d,P.underlying t=some d/\(d=.string\/∃e,d=.slice e))(h:VR S ρ v v'){lo lo' hi hi' mx mx':Option af}(h1:PD S ρ lo lo')(h2:PD S ρ hi hi')(h3:PD S ρ mx mx'):
  SR P S ro ρ (Instr.sliceAt t v lo hi mx) (Instr.sliceAt t v' lo' hi' mx') fun ρ' a b=>VR S ρ' a b:=by
 have hk:=ht;obtain⟨d0,hu0,hd0⟩:=ht;unfold Instr.sliceAt;refine SR.bind (SR.underlying t) fun fQ d d' fe hd=>?_;obtain⟨rfl,hu⟩:=hd;rw[hu0]at hu;cases hu;have key:=SR.slice (ro:=ro) hk (h.mono fe) (h1.mono fe) (h2.mono fe) (h3.mono fe);rcases hd0 with rfl|⟨e,rfl⟩
 ·exact key
 ·exact key
theorem SR.UI{β:Type}(f:af->β->Sem (ForInStep β))(hf:∀ρ x x' b,VR S ρ x x'->SR P S ro ρ (f x b) (f x' b) fun _ a a'=>a=a'):
  ∀(l l':List af) {ρ:Nat->Option Nat} (b:β),AR S ρ l.toArray l'.toArray->SR P S ro ρ (ForIn.forIn l b f) (ForIn.forIn l' b f) fun _ a a'=>a=a'
 |[],[],_,b,_=>by simp only[List.forIn_nil];exact SR.pure rfl
 |[],_::_,_,_,h=>by have:=h.size;simp at this
 |_::_,[],_,_,h=>by have:=h.size;simp at this
 |x::l,x'::l',ρ,b,h=>by
  simp only[List.forIn_cons];have h0:VR S ρ x x':=h.2 0 x x' (by simp) (by simp);have hl:AR S ρ l.toArray l'.toArray:=⟨by have:=h.size;simpa using this,fun i a a' e1 e2=>h.2 (i+1) a a' (by simpa using e1) (by simpa using e2)⟩;refine SR.bind (hf ρ x x' b h0) fun fQ a a' fe e=>?_;subst e;cases a with
  |done c=>exact SR.pure rfl
  |yield c=>exact SR.UI f hf l l' c (hl.mono fe)
theorem SR.bytesToString(h:VR S ρ v v'):SR P S ro ρ (Conv.bytesToString v) (Conv.bytesToString v') fun ρ' a b=>VR S ρ' a b:=by
 unfold Conv.bytesToString;cases h with
 |ig l c=>exact SR.pure (.string _)
 |slice off sp l c hb=>
  dsimp only;refine SR.bind (SR.loadCells (show nj ρ ⟨_,off,sp⟩ ⟨_,off,sp⟩from⟨hb,rfl,rfl⟩) _) fun fQ x x' fe hx=>?_;simp only[<-Array.forIn_toList];refine SR.bind (SR.UI _ (fun ρ x x' b hxx=>?_) x.toList x'.toList _ hx) fun gS a a' gi e=>?_
  ·cases hxx with
   |int k n=>
    cases k<;>first|exact SR.pure rfl|exact SR.stuck
   |_=>exact SR.stuck
  ·subst e;exact SR.pure (.string _)
 |_=>exact SR.stuck
theorem SR.toStr{s d e:aj}(hs:P.underlying s=some (.slice e))(hd:P.underlying d=some .string)(he:P.underlying e=some (.int .u8))(h:VR S ρ v v'):SR P S ro ρ (Go.convert s d v) (Go.convert s d v') fun ρ' a b=>VR S ρ' a b:=by
 unfold Go.convert;refine SR.bind (SR.underlying s) fun fQ x x' fe hx=>?_;obtain⟨rfl,hx⟩:=hx;rw[hs]at hx;cases hx;refine SR.bind (SR.underlying d) fun gS y y' gi hy=>?_;obtain⟨rfl,hy⟩:=hy;rw[hd]at hy;cases hy;have h':=(h.mono fe).mono gi;have go:∀(a b:af),VR S gS a b->SR P S ro gS (do
   match<-dF e with
   |.int .u8=>Conv.bytesToString a
   |.int .i32=>Conv.runesToString a
   |_=>Go.stuck "Convert: a slice of what to string?" :Sem af) (do
   match<-dF e with
   |.int .u8=>Conv.bytesToString b
   |.int .i32=>Conv.runesToString b
   |_=>Go.stuck "Convert: a slice of what to string?" :Sem af) fun ρ' a b=>VR S ρ' a b:=by
  intro a b hab;refine SR.bind (SR.underlying e) fun iI z z' gU hz=>?_;obtain⟨rfl,hz⟩:=hz;rw[he]at hz;cases hz;exact SR.bytesToString (hab.mono gU)
 have hh:=h';cases h' with
 |int k n=>unfold Conv.intToString;exact SR.pure (.string _)
 |string s=>exact SR.pure (.string s)
 |junk _ _ _=>exact SR.never (fu.after (fun s h s' e=>Calm.underlying _ s h s' e) fun d=>by
   split
   ·unfold Conv.bytesToString;exact fu.stuck
   ·unfold Conv.runesToString;exact fu.stuck
   ·exact fu.stuck)
 |_=>exact go _ _ hh
end
end
section
def fI:Nat->af->Bool
 |_,.bool _|_,.int _ _|_,.string _|_,.pointer none|_,.slice none _ _|_,.nilFunc=>true
 |n+1,.agg xs|n+1,.tuple xs=>xs.all (fI n)
 |_,_=>false
theorem mz{S:ak->Prop}{ρ:Nat->Option Nat}:∀(n:Nat) (v:af),fI n v=true->VR S ρ v v:=by
 intro n;induction n with
 |zero=>
  intro v h;cases v with
  |bool b=>exact .bool b
  |int k n=>exact .int k n
  |string s=>exact .string s
  |pointer a=>cases a with
   |none=>exact .nilPtr
   |some a=>simp[fI]at h
  |slice a l c=>cases a with
   |none=>exact .ig l c
   |some a=>simp[fI]at h
  |nilFunc=>exact .nilFunc
  |_=>simp[fI]at h
 |succ n ih=>
  intro v h;cases v with
  |bool b=>exact .bool b
  |int k n=>exact .int k n
  |string s=>exact .string s
  |pointer a=>cases a with
   |none=>exact .nilPtr
   |some a=>simp[fI]at h
  |slice a l c=>cases a with
   |none=>exact .ig l c
   |some a=>simp[fI]at h
  |nilFunc=>exact .nilFunc
  |agg xs=>
   simp only[fI,aV]at h;exact .agg rfl fun i v v' a b=>by rw[a]at b;cases b;exact ih v (h v (bF a))
  |tuple xs=>
   simp only[fI,aV]at h;exact .tuple rfl fun i v v' a b=>by rw[a]at b;cases b;exact ih v (h v (bF a))
  |_=>simp[fI]at h
def lA(S:ak->Bool):Operand->Bool
 |.tmp _=>true
 |.const v=>fI 8 v
 |.global _=>false
 |.func f=>S f
def H7(P:au)(t:aj):Bool:=match P.info? t with
 |some i=>match i.zero with
  |some v=>fI 8 v
  |none=>true
 |none=>true
def Kg(P:au)(t:aj):Bool:=match P.underlying t with
 |some (.slice e)=>H7 P e
 |_=>true
def XM(P:au)(ts:Array aj):Bool:=match ts[0]? with
 |some t=>match P.underlying t with
  |some .string|some (.slice _)=>true
  |_=>false
 |none=>false
def a96(P:au)(ts:Array aj):Bool:=(match ts[0]? with
 |some t=>Kg P t
 |none=>true)&&match ts[1]? with
 |some t=>match P.underlying t with
  |some (.int _)=>false
  |_=>true
 |none=>true
def Vh(P:au)(S:ak->Bool)(c:Call):Bool:=c.args.all (lA S)&&match c.callee with
 |.value f=>lA S f
 |.builtin .len=>XM P c.argTypes
 |.builtin .append=>a96 P c.argTypes
 |.builtin .copy=>true
 |_=>false
def Qd(P:au)(S:ak->Bool)(o:Oper):Bool:=
 let k:=lA S
 match o.op with
 |.move x|.assign x|.box _ x|.load _ x|.nilCheck x|.unOp _ _ x|.fieldAddr _ x _|.field _ x _|.extract x _=>k x
 |.pick c a b=>k c&&k a&&k b
 |.alloc t=>H7 P t
 |.build t ps=>H7 P t&&ps.all fun p=>k p.2
 |.buildSlice t _ ps=>Kg P t&&ps.all fun p=>k p.2
 |.store _ a x|.indexAddr _ a x|.index _ a x=>k a&&k x
 |.binOp _ t x y _=>oG P 8 t&& !P.eqGuardType P.depth t&&k x&&k y
 |.convert s d x=>(match P.underlying s,P.underlying d with
  |some (.int _),some (.int _)=>true
  |some (.slice e),some .string=>(match P.underlying e with
   |some (.int .u8)=>true
   |_=>false)
  |_,_=>false)&&k x
 |.slice t x lo hi mx=>XM P #[t]&&k x&&lo.all k&&hi.all k&&mx.all k
 |.makeFunc (.func f) x y=>S f&&x.all k&&y.all k
 |.makeSlice t l c=>Kg P t&&k l&&k c
 |.call c=>Vh P S c
 |_=>false
section
variable{P:au}{S:ak->Bool}{ro:Nat->Md}{ρ:Nat->Option Nat}{v v' u u':af}
theorem Bx{t:aj}(h:H7 P t=true):zu P (fun f=>S f=true) t:=by
 intro i v hi hz ρ;unfold H7 at h;rw[hi]at h;simp only[hz]at h;exact mz 8 v h
theorem Dc{t:aj}(h:Kg P t=true):Hl P (fun f=>S f=true) t:=by
 intro e he;unfold Kg at h;rw[he]at h;exact Bx h
def Zd(S:ak->Bool)(ρ:Nat->Option Nat)(e e':Operand->af):Prop:=∀x,lA S x=true->VR (fun f=>S f=true) ρ (e x) (e' x)
theorem Zd.args{e e':Operand->af}(h:Zd S ρ e e'){xs:Array Operand}(hx:xs.all (lA S)=true):AR (fun f=>S f=true) ρ (xs.map e) (xs.map e'):=by
 rw[aV]at hx;refine⟨by simp,fun i a b ha hb=>?_⟩;rw[Array.getElem?_map]at ha hb;cases hl:xs[i]? with
 |none=>rw[hl]at ha;cases ha
 |some z=>rw[hl]at ha hb;cases ha;cases hb;exact h z (hx z (bF hl))
theorem Zd.opt{e e':Operand->af}(h:Zd S ρ e e'){x:Option Operand}(hx:x.all (lA S)=true):PD (fun f=>S f=true) ρ (x.map e) (x.map e'):=by
 cases x with
 |none=>exact trivial
 |some x=>exact h x (by simpa using hx)
theorem Zd.parts{e e':Operand->af}(h:Zd S ρ e e'){xs:Array (Nat×Operand)}(hx:(xs.all fun p=>lA S p.2)=true):xk (fun f=>S f=true) ρ (xs.map fun(i,x)=>(i,e x)).toList (xs.map fun(i,x)=>(i,e' x)).toList:=by
 rw[aV]at hx;refine⟨by simp,fun i a b ha hb=>?_⟩;rw[Array.getElem?_toList,Array.getElem?_map]at ha hb;cases hl:xs[i]? with
 |none=>rw[hl]at ha;cases ha
 |some z=>rw[hl]at ha hb;cases ha;cases hb;exact⟨rfl,h z.2 (hx z (bF hl))⟩
def KO(S:ak->Bool)(ρ:Nat->Option Nat)(n n':Next):Prop:=
 (∃v v',n=.value v/\n'=.value v'/\VR (fun f=>S f=true) ρ v v')\/(n=.skip/\n'=.skip)\/∃f a a',n=.enter f a/\n'=.enter f a'/\S f=true/\AR (fun f=>S f=true) ρ a a'
theorem SR.value{x y:Sem af}(h:SR P (fun f=>S f=true) ro ρ x y fun ρ' a b=>VR (fun f=>S f=true) ρ' a b):SR P (fun f=>S f=true) ro ρ (do aX (.value (<-x)):Sem Next) (do aX (.value (<-y)):Sem Next) (KO S):=
 SR.bind h fun _ a b _ hab=>SR.pure (.inl ⟨a,b,rfl,rfl,hab⟩)
theorem SR.unit{x y:Sem Unit}(h:SR P (fun f=>S f=true) ro ρ x y fun _ _ _=>True):SR P (fun f=>S f=true) ro ρ (do x;aX .skip:Sem Next) (do y;aX .skip:Sem Next) (KO S):=
 SR.bind h fun _ a b _ hab=>SR.pure (.inr (.inl ⟨rfl,rfl⟩))
theorem SR.loadAt(t:aj)(h:VR (fun f=>S f=true) ρ v v'):SR P (fun f=>S f=true) ro ρ (aT t v) (aT t v') fun ρ' a b=>VR (fun f=>S f=true) ρ' a b:=by
 unfold aT;exact SR.bind (SR.sureAddr h) fun _ a b _ hab=>SR.loadVar t hab
theorem SR.storeAt(t:aj)(h:VR (fun f=>S f=true) ρ v v')(k:VR (fun f=>S f=true) ρ u u'):SR P (fun f=>S f=true) ro ρ (bI t v u) (bI t v' u') fun _ _ _=>True:=by
 unfold bI;exact SR.bind (SR.sureAddr h) fun _ a b he hab=>SR.storeVar t hab (k.mono he)
theorem SR.unary(op:UnOp)(h:VR (fun f=>S f=true) ρ v v'):SR P (fun f=>S f=true) ro ρ (Op.unary op v) (Op.unary op v') fun ρ' a b=>VR (fun f=>S f=true) ρ' a b:=by
 have ao:∀(y:Sem af) V,SR P (fun f=>S f=true) ro ρ (bW .addressObserved:Sem af) y V:=fun _ _=>SR.unsupported trivial;cases h<;>cases op<;>first|exact SR.stuck|exact ao _ _|exact SR.pure (.int _ _)|exact SR.pure (.bool _)
theorem SR.convert{s d:aj}{k k':IntKind}(hs:P.underlying s=some (.int k))(hd:P.underlying d=some (.int k'))(h:VR (fun f=>S f=true) ρ v v'):SR P (fun f=>S f=true) ro ρ (Go.convert s d v) (Go.convert s d v') fun ρ' a b=>VR (fun f=>S f=true) ρ' a b:=by
 unfold Go.convert;refine SR.bind (SR.underlying s) fun fQ x x' fe hx=>?_;obtain⟨rfl,hx⟩:=hx;rw[hs]at hx;cases hx;refine SR.bind (SR.underlying d) fun gS y y' gi hy=>?_;obtain⟨rfl,hy⟩:=hy;rw[hd]at hy;cases hy;have ao:∀(y:Sem af) V,SR P (fun f=>S f=true) ro gS (bW .addressObserved:Sem af) y V:=fun _ _=>SR.unsupported trivial;have an:∀(y:Sem af) V,SR P (fun f=>S f=true) ro gS (bW (.noEntry "convert/other"):Sem af) y V:=fun _ _=>SR.unsupported trivial;cases h<;>dsimp only<;>first|exact SR.pure (.int _ _)|exact ao _ _|exact an _ _|exact SR.stuck
theorem SR.makeSlice{t:aj}(hz:Hl P (fun f=>S f=true) t)(h:VR (fun f=>S f=true) ρ v v')(k:VR (fun f=>S f=true) ρ u u'):SR P (fun f=>S f=true) ro ρ (Instr.makeSlice t v u) (Instr.makeSlice t v' u') fun ρ' a b=>VR (fun f=>S f=true) ρ' a b:=by
 unfold Instr.makeSlice;refine SR.bind (SR.underlying t) fun fQ d d' fe hd=>?_;obtain⟨rfl,hu⟩:=hd;cases d with
 |slice elem=>
  dsimp only;refine SR.bind (SR.asInt (h.mono fe)) fun gS l l' gi e=>?_;subst e;refine SR.bind (SR.asInt ((k.mono fe).mono gi)) fun iI c c' gU e=>?_;subst e;refine SR.bind (SR.typeInfo elem) fun qM i i' kN e=>?_;obtain⟨rfl,hi⟩:=e;have tail:∀sx,SR P (fun f=>S f=true) ro sx (do
    Go.askRoom ((IntKind.i64.wrap c).toNat*i.bytes)
    let n:=(IntKind.i64.wrap c).toNat*(<-Go.sizeOf elem)
    let zero<-if n=0 then aX #[]else do aX (<-Go.zeroValue elem).cells
    let a<-Go.newRow elem ((Array.range n).map (zero[·%zero.size]!))
    aX (.slice (some a) (IntKind.i64.wrap l).toNat (IntKind.i64.wrap c).toNat):Sem af) (do
    Go.askRoom ((IntKind.i64.wrap c).toNat*i.bytes)
    let n:=(IntKind.i64.wrap c).toNat*(<-Go.sizeOf elem)
    let zero<-if n=0 then aX #[]else do aX (<-Go.zeroValue elem).cells
    let a<-Go.newRow elem ((Array.range n).map (zero[·%zero.size]!))
    aX (.slice (some a) (IntKind.i64.wrap l).toNat (IntKind.i64.wrap c).toNat):Sem af) fun ρ' a b=>VR (fun f=>S f=true) ρ' a b:=by
   intro sx;refine SR.bind (SR.askRoom _) fun EA _ _ rq _=>?_;refine SR.bind (SR.sizeOf elem) fun H6 m m' zN e=>?_;subst e;dsimp only;have fin:∀(tI:Nat->Option Nat) (z z':Array af),AR (fun f=>S f=true) tI z z'->SR P (fun f=>S f=true) ro tI (do
     let a<-Go.newRow elem ((Array.range ((IntKind.i64.wrap c).toNat*m)).map (z[·%z.size]!))
     aX (.slice (some a) (IntKind.i64.wrap l).toNat (IntKind.i64.wrap c).toNat):Sem af) (do
     let a<-Go.newRow elem ((Array.range ((IntKind.i64.wrap c).toNat*m)).map (z'[·%z'.size]!))
     aX (.slice (some a) (IntKind.i64.wrap l).toNat (IntKind.i64.wrap c).toNat):Sem af) fun ρ' a b=>VR (fun f=>S f=true) ρ' a b:=
    fun tI z z' hzz=>SR.bind (SR.newRow (tJ hzz _)) fun _ a b _ hab=>SR.pure (hab.slice _ _)
   split
   ·exact SR.bind (SR.pure (V:=fun ρ' a b=>AR (fun f=>S f=true) ρ' a b) AR.empty) fun tI z z' _ hzz=>fin tI z z' hzz
   ·exact SR.bind (SR.zeroValue (hz _ hu)) fun H6 a b _ hab=>SR.bind (SR.pure (V:=fun ρ' a b=>AR (fun f=>S f=true) ρ' a b) hab.cells) fun tI z z' _ hzz=>fin tI z z' hzz
  split
  ·split
   ·exact SR.nW
   ·split
    ·exact SR.nW
    ·exact SR.never (fu.after (fun s h s' e=>Calm.choose _ s h s' e) fun _=>fu.bind (fu.panic _))
  ·exact tail qM
 |_=>exact SR.stuck
theorem SR.ofValue{args args':Array af}(h:VR (fun f=>S f=true) ρ v v')(ha:AR (fun f=>S f=true) ρ args args'):SR P (fun f=>S f=true) ro ρ (Deferred.ofValue v args) (Deferred.ofValue v' args') fun ρ' d d'=>
  (d.target=.nil/\d'.target=.nil)\/∃f c c',d.target=.fn (.func f) c/\d'.target=.fn (.func f) c'/\S f=true/\AR (fun f=>S f=true) ρ' (d.args++c) (d'.args++c'):=by
 cases h with
 |nilFunc=>exact SR.pure (.inl ⟨rfl,rfl⟩)
 |func hf hx hy h1 h2=>exact SR.pure (.inr ⟨_,_,_,rfl,rfl,hf,((AR.mk hx h1).append ha).append (AR.mk hy h2)⟩)
 |_=>exact SR.stuck
def Ho(P:au)(S:ak->Bool):Prop:=∀f,S f=true->∃fn,P.funcs[f]?=some fn/\fn.body.isNone=false/\(fn.name== "runtime.NumGoroutine")=false
theorem SR.callFunc{f:ak}{args args':Array af}(B:Ho P S)(hf:S f=true)(ha:AR (fun f=>S f=true) ρ args args'):SR P (fun f=>S f=true) ro ρ (Go.callFunc f args) (Go.callFunc f args') (KO S):=by
 unfold Go.callFunc;refine SR.bind SR.program fun fQ p p' fe hp=>?_;obtain⟨rfl,rfl⟩:=hp;obtain⟨fn,h1,h2,h3⟩:=B f hf;simp only[h1,h2,h3,aQ,if_false];exact SR.pure (.inr (.inr ⟨f,args,args',rfl,rfl,hf,ha.mono fe⟩))
theorem SR.aC0{e e':Operand->af}(B:Ho P S)(h:Zd S ρ e e'){c:Call}{t:aj}(hc:Vh P S c=true):
  SR P (fun f=>S f=true) ro ρ (do let d<-Go.resolve e c t;Go.invoke d.target d.args:Sem Next) (do let d<-Go.resolve e' c t;Go.invoke d.target d.args:Sem Next) (KO S):=by
 unfold Vh at hc;simp only[aD]at hc;have ha:=h.args hc.1;unfold Go.resolve;cases hk:c.callee with
 |value f=>
  rw[hk]at hc;dsimp only;refine SR.bind (SR.ofValue (h f hc.2) ha) fun fQ d d' fe hd=>?_;rcases hd with⟨h1,h2⟩|⟨g,x,x',h1,h2,hg,hx⟩
  ·rw[h1,h2];unfold Go.invoke;exact SR.panic
  ·rw[h1,h2];unfold Go.invoke;exact SR.callFunc B hg hx
 |builtin b=>
  rw[hk]at hc;cases b with
  |len=>
   dsimp only;refine SR.bind (SR.pure (V:=fun ρ' d d'=>∃ks,d=⟨.builtin .len c.argTypes t ks,c.args.map e⟩/\d'=⟨.builtin .len c.argTypes t ks,c.args.map e'⟩) ⟨_,rfl,rfl⟩) fun fQ d d' fe hd=>?_;obtain⟨ks,rfl,rfl⟩:=hd;unfold Go.invoke Go.builtin;refine SR.value (SR.len (ha.mono fe) ?_);have:=hc.2
   simp only[XM]at this;cases h0:c.argTypes[0]? with
   |none=>rw[h0]at this;cases this
   |some t0=>
    rw[h0]at this;simp only at this;cases hu:P.underlying t0 with
    |none=>rw[hu]at this;cases this
    |some d=>
     rw[hu]at this;cases d<;>first|exact⟨t0,_,rfl,hu,.inl rfl⟩|exact⟨t0,_,rfl,hu,.inr ⟨_,rfl⟩⟩|cases this
  |append=>
   dsimp only;refine SR.bind (SR.pure (V:=fun ρ' d d'=>∃ks,d=⟨.builtin .append c.argTypes t ks,c.args.map e⟩/\d'=⟨.builtin .append c.argTypes t ks,c.args.map e'⟩) ⟨_,rfl,rfl⟩) fun fQ d d' fe hd=>?_;obtain⟨ks,rfl,rfl⟩:=hd;unfold Go.invoke Go.builtin;have:=hc.2
   simp only[a96,aD]at this;refine SR.value (SR.append (ha.mono fe) (fun t0 h0=>?_) (fun t1 d h1 hu kk e=>?_))
   ·have h:=this.1;rw[h0]at h;exact Dc h
   ·have h:=this.2;rw[h1]at h;simp only[hu,e]at h;cases h
  |copy=>
   dsimp only;refine SR.bind (SR.pure (V:=fun ρ' d d'=>∃ks,d=⟨.builtin .copy c.argTypes t ks,c.args.map e⟩/\d'=⟨.builtin .copy c.argTypes t ks,c.args.map e'⟩) ⟨_,rfl,rfl⟩) fun fQ d d' fe hd=>?_;obtain⟨ks,rfl,rfl⟩:=hd;unfold Go.invoke Go.builtin;exact SR.value (SR.copy (ha.mono fe))
  |_=>cases hc.2
 |invoke a b=>rw[hk]at hc;cases hc.2
theorem SR.exec{e e':Operand->af}(B:Ho P S)(h:Zd S ρ e e'){o:Oper}(ho:Qd P S o=true):SR P (fun f=>S f=true) ro ρ (ax e o) (ax e' o) (KO S):=by
 unfold Qd at ho;unfold ax;cases hop:o.op with
 |move x=>rw[hop]at ho;exact SR.pure (.inl ⟨_,_,rfl,rfl,h x ho⟩)
 |assign x=>rw[hop]at ho;exact SR.pure (.inl ⟨_,_,rfl,rfl,h x ho⟩)
 |pick c a b=>
  rw[hop]at ho;simp only[aD]at ho;refine SR.bind (SR.asBool (h c ho.1.1)) fun fQ x y fe e=>?_;subst e;refine SR.pure (.inl ⟨_,_,rfl,rfl,?_⟩);split
  ·exact(h a ho.1.2).mono fe
  ·exact(h b ho.2).mono fe
 |alloc t=>rw[hop]at ho;exact SR.value (SR.alloc (Bx ho))
 |box t x=>rw[hop]at ho;exact SR.value (SR.box (h x ho))
 |build t ps=>
  rw[hop]at ho;simp only[aD]at ho;exact SR.value (SR.build (Bx ho.1) (h.parts ho.2))
 |buildSlice t n ps=>
  rw[hop]at ho;simp only[aD]at ho;exact SR.value (SR.buildSlice (Dc ho.1) (h.parts ho.2))
 |load t x=>rw[hop]at ho;exact SR.value (SR.loadAt t (h x ho))
 |store t a x=>
  rw[hop]at ho;simp only[aD]at ho;exact SR.unit (SR.storeAt t (h a ho.1) (h x ho.2))
 |nilCheck x=>
  rw[hop]at ho;have hh:=h x ho;dsimp only;generalize e x=v at hh;generalize e' x=v' at hh;have h2:=hh;cases hh<;>dsimp only<;>first|exact SR.panic|exact SR.pure (.inl ⟨_,_,rfl,rfl,h2⟩)
 |binOp op t x y t'=>
  rw[hop]at ho;simp only[aD,bV]at ho;refine SR.value ?_;exact SR.bind (SR.eqGuard ho.1.1.2 ho.1.1.1) fun fQ _ _ fe _=>SR.binOp ho.1.1.1 ((h x ho.1.2).mono fe) ((h y ho.2).mono fe)
 |unOp op t x=>rw[hop]at ho;exact SR.value (SR.unary op (h x ho))
 |convert s d x=>
  rw[hop]at ho;simp only[aD]at ho;refine SR.value ?_;cases hs:P.underlying s with
  |none=>rw[hs]at ho;cases ho.1
  |some a=>
   cases hd:P.underlying d with
   |none=>rw[hs,hd]at ho;cases a<;>cases ho.1
   |some b=>
    rw[hs,hd]at ho;cases a<;>cases b<;>first
     |exact SR.convert hs hd (h x ho.2)
     |cases ho.1
     |(rename_i e
       have h1:=ho.1;dsimp only at h1;cases he:P.underlying e with
       |none=>rw[he]at h1;cases h1
       |some d0=>
        rw[he]at h1;cases d0 with
        |int k=>
         cases k<;>first
          |exact SR.toStr hs hd he (h x ho.2)
          |cases h1
        |_=>cases h1)
 |makeFunc f x y=>
  rw[hop]at ho;cases f with
  |func f=>
   simp only[aD]at ho;exact SR.value (SR.makeFunc (S:=(fun f=>S f=true)) ho.1.1 (h.args ho.1.2) (h.args ho.2))
  |_=>cases ho
 |makeSlice t l c=>
  rw[hop]at ho;simp only[aD]at ho;exact SR.value (SR.makeSlice (Dc ho.1.1) (h l ho.1.2) (h c ho.2))
 |slice t x lo hi mx=>
  rw[hop]at ho;simp only[aD]at ho;have hl:=ho.1.1.1.1;refine SR.value (SR.sliceAt ?_ (h x ho.1.1.1.2) (h.opt ho.1.1.2) (h.opt ho.1.2) (h.opt ho.2));unfold XM at hl;simp only[List.getElem?_toArray,List.getElem?_cons_zero]at hl;cases hu:P.underlying t with
  |none=>rw[hu]at hl;cases hl
  |some d=>
   rw[hu]at hl;cases d<;>first|exact⟨_,rfl,.inl rfl⟩|exact⟨_,rfl,.inr ⟨_,rfl⟩⟩|cases hl
 |fieldAddr t x f=>rw[hop]at ho;exact SR.value (SR.fieldAt (h x ho) f)
 |field t x f=>rw[hop]at ho;exact SR.value (SR.field (h x ho) f)
 |indexAddr t x y=>
  rw[hop]at ho;simp only[aD]at ho;exact SR.value (SR.indexAt (h x ho.1) (h y ho.2))
 |index t x y=>
  rw[hop]at ho;simp only[aD]at ho;exact SR.value (SR.index (h x ho.1) (h y ho.2))
 |extract x i=>rw[hop]at ho;exact SR.value (SR.extract (h x ho) i)
 |call c=>rw[hop]at ho;exact SR.aC0 B h ho
 |_=>rw[hop]at ho;cases ho
end
end
section
open Go.Conc
def ES:Nat->Bool:=fun _=>false
def yb(D:Nat->Bool):Operand->Bool
 |.tmp t=>!D t
 |_=>true
def ae3(D:Nat->Bool)(c:Call):Bool:=c.args.all (yb D)&&match c.callee with
 |.value f=>yb D f
 |.builtin _=>true
 |_=>false
def Xa(D:Nat->Bool)(o:Oper):Bool:=
 let k:=yb D
 (match o.dst with
 |some d=>!D d
 |none=>true)&&match o.op with
 |.move x|.assign x|.box _ x|.load _ x|.nilCheck x|.unOp _ _ x|.fieldAddr _ x _|.field _ x _|.extract x _=>k x
 |.pick c a b=>k c&&k a&&k b
 |.alloc _=>true
 |.build _ ps=>ps.all fun p=>k p.2
 |.buildSlice _ _ ps=>ps.all fun p=>k p.2
 |.store _ a x|.indexAddr _ a x|.index _ a x=>k a&&k x
 |.binOp _ _ x y _=>k x&&k y
 |.convert _ _ x=>k x
 |.makeFunc _ x y=>x.all k&&y.all k
 |.makeSlice _ l c=>k l&&k c
 |.slice _ x lo hi mx=>k x&&lo.all k&&hi.all k&&mx.all k
 |.call c=>ae3 D c
 |_=>false
def yL(D:Nat->Bool):ResultVar->Bool
 |.tmp t=>!D t
 |.cell t _=>!D t
theorem Gc{P:au}{f:ak}(fn:Func)(_:P.funcs[f]?=some fn):fn.results.all (yL ES)=true:=by
 rw[aV];intro r _;cases r<;>rfl
def codeOk(P:au)(S:ak->Bool)(D:Nat->Bool):Code->Bool
 |.skip|.label _|.exit _|.ret=>true
 |.region _ ops _=>ops.all fun o=>Qd P S o&&Xa D o
 |.seq a b=>codeOk P S D a&&codeOk P S D b
 |.cond c a b=>lA S c&&yb D c&&codeOk P S D a&&codeOk P S D b
 |.block _ a|.loop a=>codeOk P S D a
 |_=>false
def za(P:au)(S:ak->Bool)(D:Nat->Bool):Item->Bool
 |.code c|.inLoop c=>codeOk P S D c
 |.inBlock _=>true
 |.inRegion ops _=>ops.all fun o=>Qd P S o&&Xa D o
 |_=>false
def nI(D:Nat->Bool)(xs:Array af):Array af:=xs.mapIdx fun i v=>if D i then av else v
def uy(D:Nat->Bool)(a:Act):Act:={a with tmps:=nI D a.tmps}
theorem pL(xs:Array af):nI ES xs=xs:=by
 unfold nI ES;refine Array.ext (by simp) fun i h1 h2=>by simp
theorem TK(D:Nat->Bool)(xs:Array af){t:Nat}(h:D t=false):(nI D xs)[t]?=xs[t]?:=by
 unfold nI;rw[Array.getElem?_mapIdx];cases xs[t]? with
 |none=>rfl
 |some v=>simp[h]
theorem Ci(D:Nat->Bool)(xs:Array af){t:Nat}(h:D t=false):(nI D xs).getD t av=xs.getD t av:=by
 rw[bB,bB,TK D xs h]
theorem jB{D:Nat->Bool}{a:Act}{x:Operand}(h:yb D x=true):(uy D a).eval x=a.eval x:=by
 cases x with
 |tmp t=>exact Ci D a.tmps (by simpa [yb]using h)
 |_=>rfl
theorem Ov(D:Nat->Bool)(a:Act)(d:Option Tmp)(v:af)(h:(match d with|some d=>!D d|none=>true)=true):nI D (a.put d v).tmps=((uy D a).put d v).tmps:=by
 cases d with
 |none=>rfl
 |some d=>
  have hd:D d=false:=by simpa using h
  show nI D (a.tmps.setIfInBounds d v)=(nI D a.tmps).setIfInBounds d v;unfold nI;apply Array.ext_getElem?;intro j;simp only[Array.getElem?_mapIdx,Array.getElem?_setIfInBounds,Array.size_mapIdx];by_cases e:d=j
  ·subst e;by_cases hl:d<a.tmps.size<;>simp[hl,hd]
  ·simp[e]
theorem Gu{D:Nat->Bool}{a:Act}{xs:Array Operand}(h:xs.all (yb D)=true):xs.map (uy D a).eval=xs.map a.eval:=by
 rw[aV]at h;exact Array.map_congr_left fun x hx=>jB (h x hx)
theorem Qw{D:Nat->Bool}{a:Act}{xs:Array (Nat×Operand)}(h:(xs.all fun p=>yb D p.2)=true):(xs.map fun(i,x)=>(i,(uy D a).eval x))=xs.map fun(i,x)=>(i,a.eval x):=by
 rw[aV]at h;exact Array.map_congr_left fun⟨i,x⟩ hx=>by show(i,_)=(i,_);rw[jB (h (i,x) hx)]
theorem Gt{D:Nat->Bool}{a:Act}{x:Option Operand}(h:x.all (yb D)=true):x.map (uy D a).eval=x.map a.eval:=by
 cases x with
 |none=>rfl
 |some x=>simp only[Option.map_some];rw[jB (by simpa using h)]
theorem Jo{D:Nat->Bool}{a:Act}{o:Oper}(h:Xa D o=true):ax (uy D a).eval o=ax a.eval o:=by
 unfold Xa at h;simp only[aD]at h;obtain⟨-,h⟩:=h;unfold ax;cases hop:o.op<;>rw[hop]at h<;>dsimp only at h ⊢<;>first
  |rfl
  |(cases h;done)
  |(rw[jB h])
  |(rw[Qw h])
  |(simp only[aD]at h;rw[jB h.1,jB h.2])
  |(simp only[aD]at h;rw[jB h.1.1,jB h.1.2,jB h.2])
  |(simp only[aD]at h;rw[Gu h.1,Gu h.2])
  |(simp only[aD]at h;rw[jB h.1.1.1,Gt h.1.1.2,Gt h.1.2,Gt h.2])
  |skip
 rename_i c;unfold ae3 at h;simp only[aD]at h;obtain⟨h1,h2⟩:=h;unfold Go.resolve;rw[Gu h1];cases hc:c.callee with
 |value f=>rw[hc]at h2;dsimp only at h2 ⊢;rw[jB h2]
 |builtin b=>rfl
 |invoke r n=>rw[hc]at h2;cases h2
theorem zJ{D:Nat->Bool}{xs:Array af}{ops:Array Oper}(h:∀o∈ops,Xa D o=true):yielded ops (nI D xs)=yielded ops xs:=by
 funext j;unfold yielded;cases ho:ops[j]? with
 |none=>rfl
 |some o=>
  have hD:=h o (bF ho);unfold Xa at hD;simp only[aD]at hD;cases hd:o.dst with
  |none=>simp[hd]
  |some d=>
   rw[hd]at hD;simp only[Option.bind_some,hd];rw[TK D xs (by simpa using hD.1)]
theorem po{D:Nat->Bool}{xs:Array af}{fn:Func}(h:fn.results.all (yL D)=true):bR fn (nI D xs)=bR fn xs:=by
 unfold bR;rw[Array.mapM_eq_mapM_toList];rw[Array.mapM_eq_mapM_toList];congr 1;congr 1;rw[aV]at h;have:∀l:List ResultVar,(∀r∈l,yL D r=true)->(l.mapM fun
   |.tmp t=>(aX ((nI D xs).getD t av):Sem af)
   |.cell x t=>do Go.loadVar t (<-Go.asAddr ((nI D xs).getD x av)))=(l.mapM fun
   |.tmp t=>(aX (xs.getD t av):Sem af)
   |.cell x t=>do Go.loadVar t (<-Go.asAddr (xs.getD x av))):=by
  intro l;induction l with
  |nil=>intro _;rfl
  |cons r l ih=>
   intro hl;simp only[List.mapM_cons];rw[ih fun r hr=>hl r (by simp[hr])];have hr:=hl r (by simp);cases r with
   |tmp t=>dsimp only;rw[Ci D xs (by simpa [yL]using hr)]
   |cell t ty=>dsimp only;rw[Ci D xs (by simpa [yL]using hr)]
 exact this _ fun r hr=>h r (by simpa using hr)
def aO8(P:au)(t:ak->Code->Bool)(f:ak):Bool:=match P.funcs[f]? with
 |some fn=>match fn.body with
  |some c=>!(fn.name== "runtime.NumGoroutine")&&t f c
  |none=>false
 |none=>false
theorem Ap{P:au}{t:ak->Code->Bool}{L:List ak}(h:L.all (aO8 P t)=true)(f:ak)(hf:L.contains f=true):∃fn c,P.funcs[f]?=some fn/\fn.body=some c/\(fn.name== "runtime.NumGoroutine")=false/\t f c=true:=by
 have h1:=List.all_eq_true.1 h f (by simpa using hf);unfold aO8 at h1;split at h1
 ·rename_i fn e;split at h1
  ·rename_i c e2;rw[aD,bV]at h1;exact⟨fn,c,e,e2,h1⟩
  ·cases h1
 ·cases h1
def nL(P:au)(S:ak->Bool):Prop:=∀f,S f=true->∃fn c,P.funcs[f]?=some fn/\fn.body=some c/\(fn.name== "runtime.NumGoroutine")=false/\codeOk P S ES c=true
theorem nL.body{P:au}{S:ak->Bool}(h:nL P S):Ho P S:=fun f hf=>by
 obtain⟨fn,c,h1,h2,h3,_⟩:=h f hf;exact⟨fn,h1,by rw[h2];rfl,h3⟩
section
variable(P:au)(S:ak->Bool)
inductive FR(ρ:Nat->Option Nat)(D:Nat->Bool)(Ks K:List Item):ai->ai->Prop
 |run {b b':ai} {a a':Act} (X:List Item) (hfn:b'.fn=b.fn) (hk:b.kind=.normal) (hk':b'.kind=.normal) (hd:a.defers=[]) (hd':a'.defers=[]) (hX:X.all (za P S D)=true) (ht:AR (fun f=>S f=true) ρ (nI D a.tmps) (nI D a'.tmps)) (hR:∀fn,P.funcs[b.fn]?=some fn->fn.results.all (yL D)=true):
   FR ρ D Ks K (b.at a (X++Ks)) (b'.at a' (X++K))
 |ret {b b':ai} {a a':Act} {todo todo':List Item} (hfn:b'.fn=b.fn) (hk:b.kind=.normal) (hk':b'.kind=.normal) (hd:a.defers=[]) (hd':a'.defers=[]) (ht:AR (fun f=>S f=true) ρ (nI D a.tmps) (nI D a'.tmps)) (hR:∀fn,P.funcs[b.fn]?=some fn->fn.results.all (yL D)=true):
   FR ρ D Ks K {b.at a todo with mode:=.returning} {b'.at a' todo' with mode:=.returning}
inductive KR(D:Nat->Bool)(Ks K:List Item):(Nat->Option Nat)->List ai->List ai->Prop
 |one {ρ:Nat->Option Nat} {f f':ai} (h:FR P S ρ D Ks K f f'):KR D Ks K ρ [f] [f']
 |cons {ρ:Nat->Option Nat} {f f' c c':ai} {r r':List ai} (h:FR P S ρ ES [] [] f f') (hS:S f.fn=true)
   (hp:∀ρ' v v',Ext ρ ρ'->VR (fun f=>S f=true) ρ' v v'->KR D Ks K ρ' (c.finish v::r) (c'.finish v'::r')):KR D Ks K ρ (f::c::r) (f'::c'::r')
end
def fK:Item:=.code (.refuse "")
def dZ:ai:={fn:=0,tmps:=#[],todo:=[fK],defers:=[{target:=.nil,args:=#[]}],mode:=.run,kind:=.normal}
def Y5(Ks K:List Item):Prop:=(Ks=[]/\K=[])\/Ks=[fK]
section
variable{P:au}{S:ak->Bool}{ro:Nat->Md}{ρ:Nat->Option Nat}{D:Nat->Bool}{Ks K:List Item}
theorem AR.put{a a':Act}(h:AR (fun f=>S f=true) ρ a.tmps a'.tmps)(d:Option Tmp){v v':af}(hv:VR (fun f=>S f=true) ρ v v'):AR (fun f=>S f=true) ρ (a.put d v).tmps (a'.put d v').tmps:=by
 cases d with
 |none=>exact h
 |some d=>exact h.set d hv
theorem put_defers(a:Act)(d:Option Tmp)(v:af):(a.put d v).defers=a.defers:=by cases d<;>rfl
theorem evR{a a':Act}(h:AR (fun f=>S f=true) ρ a.tmps a'.tmps):Zd S ρ a.eval a'.eval:=fun x hx=>by
 cases x with
 |tmp t=>exact h.getD t
 |const v=>exact mz 8 v hx
 |global g=>cases hx
 |func f=>exact .func (S:=(fun f=>S f=true)) hx rfl rfl (by simp) (by simp)
theorem H9{a a':Act}(h:AR (fun f=>S f=true) ρ a.tmps a'.tmps)(ops:Array Oper):yielded ops a.tmps=yielded ops a'.tmps:=by
 funext j;unfold yielded;cases hd:(ops[j]?).bind (·.dst)with
 |none=>rfl
 |some d=>
  simp only[Option.bind_some];cases hv:a.tmps[d]? with
  |none=>rw[h.none hv]
  |some v=>
   obtain⟨v',hv',hr⟩:=h.get hv;rw[hv'];cases hr with
   |junk _ _ hb=>cases v'<;>first|rfl|exact absurd rfl (hb _)
   |_=>rfl
theorem Mv.sub{G:Nat}{S:ak->Prop}{s w s' w':ae}{ρ':Nat->Option Nat}{es es':Array Event}(h:Mv G S ro ρ s w ρ' s' w' es)(k:∀e∈es',e∈es):Mv G S ro ρ s w ρ' s' w' es':=
 {h with evs:=fun e he=>h.evs e (k e he)}
def Bad(st:GStep)(cs:List ai):Prop:=(∃o w es,st=.ended o w es)\/∃fr w es chain,st=.go (G fr cs) w es/\fr.mode=.panicking chain/\fr.defers=[]
variable(P) in
def M8(g g1:ah)(s s1:ae)(es:Array Event):Prop:=s1.tape=s.tape/\∃c,s1.drawn=s.drawn+c/\
  ∀τ d,(∀j,j<c->τ (d+j)=s.tape (s.drawn+j))->stepG P true g (World.on s τ d)=.go g1 (World.on s1 τ (d+c)) es
variable(P S) in
def af9(ro:Nat->Md)(ρ:Nat->Option Nat)(D:Nat->Bool)(Ks K:List Item)(f:ai)(base:List ai)(f':ai)(base':List ai)(s w:ae):Prop:=
 ∃(g:ai) (b2:List ai) (s1:ae) (es1:Array Event),stepG P true (G f (base++[dZ])) s=.go (G g (b2++[dZ])) s1 es1/\M8 P (G f (base++[dZ])) (G g (b2++[dZ])) s s1 es1/\
  ∃(g':ai) (M0:List ai) (w1:ae) (vK:Nat->Option Nat) (es:Array Event),(∀main tail,stepG P main (G f' (base'++tail)) w=.go (G g' (M0++tail)) w1 es)/\KR P S D Ks K vK (g::b2) (g'::M0)/\Mv P.globals.size (fun f=>S f=true) ro ρ s w vK s1 w1 es
theorem wU{id:Nat}(hK:Ks=[]\/Ks=[fK]):∀(X:List Item) {k':List Item},exitTo id (X++Ks)=some k'->∃Y,k'=Y++Ks/\(∀K,exitTo id (X++K)=some (Y++K))/\∀y∈Y,y∈X
 |[],k',h=>by
  rcases hK with rfl|rfl<;>simp[exitTo,fK]at h
 |x::X,k',h=>by
  cases x with
  |inBlock i=>
   simp only[bK,exitTo]at h;by_cases hi:(i==id)=true
   ·rw[if_pos hi]at h;cases h;exact⟨X,rfl,fun K=>by simp only[bK,exitTo];rw[if_pos hi],fun y hy=>by simp[hy]⟩
   ·rw[if_neg hi]at h;obtain⟨Y,h1,h2,h3⟩:=wU hK X h;exact⟨Y,h1,fun K=>by simp only[bK,exitTo];rw[if_neg hi];exact h2 K,fun y hy=>by simp[h3 y hy]⟩
  |_=>
   simp only[bK,exitTo]at h;obtain⟨Y,h1,h2,h3⟩:=wU hK X h;exact⟨Y,h1,fun K=>by simp only[bK,exitTo];exact h2 K,fun y hy=>by simp[h3 y hy]⟩
theorem lN{main:Bool}{b:ai}{a:Act}{w w':ae}{cs:List ai}{fn:Func}{todo:List Item}{c:ai}{v:af}(hn:b.kind=.normal)(hd:a.defers=[])(hf:P.funcs[b.fn]?=some fn)
  (hr:(results fn a.tmps).run P w=.ok v w'):
  stepG P main (G {b.at a todo with mode:=.returning} (c::cs)) w=.go (G (c.finish v) cs) w' (seen P b.fn ((results fn a.tmps).events P w #[])):=by
 simp[G,stepG,unwind,doReturn,Frame.at,hn,hd,hf,hr,dx]
theorem FW{main:Bool}{b:ai}{a:Act}{w w':ae}{cs:List ai}{fn:Func}{todo:List Item}{h:Halt}(hn:b.kind=.normal)(hd:a.defers=[])(hf:P.funcs[b.fn]?=some fn)
  (hr:(results fn a.tmps).run P w=.halt h w'):∃o es,stepG P main (G {b.at a todo with mode:=.returning} cs) w=.ended o w' es:=by
 cases h<;>simp[G,stepG,unwind,Frame.at,hn,hd,hf,hr,dx]
theorem SR.results{a a':Act}(h:AR (fun f=>S f=true) ρ a.tmps a'.tmps)(fn:Func):SR P (fun f=>S f=true) ro ρ (bR fn a.tmps) (bR fn a'.tmps) fun ρ' v v'=>VR (fun f=>S f=true) ρ' v v':=by
 unfold bR;have key:∀(l:List ResultVar) (ρ:Nat->Option Nat),AR (fun f=>S f=true) ρ a.tmps a'.tmps->SR P (fun f=>S f=true) ro ρ (l.mapM fun
   |.tmp t=>(aX (a.tmps.getD t av):Sem af)
   |.cell x t=>do Go.loadVar t (<-Go.asAddr (a.tmps.getD x av))) (l.mapM fun
   |.tmp t=>(aX (a'.tmps.getD t av):Sem af)
   |.cell x t=>do Go.loadVar t (<-Go.asAddr (a'.tmps.getD x av))) fun ρ' x y=>AR (fun f=>S f=true) ρ' x.toArray y.toArray:=by
  intro l;induction l with
  |nil=>intro ρ _;simp only[List.mapM_nil];exact SR.pure AR.empty
  |cons r l ih=>
   intro ρ h;simp only[List.mapM_cons];refine SR.bind (V:=fun ρ' x y=>VR (fun f=>S f=true) ρ' x y) ?_ fun fQ x y fe hxy=>?_
   ·cases r with
    |tmp t=>exact SR.pure (h.getD t)
    |cell x t=>exact SR.bind (SR.asAddr (h.getD x)) fun _ _ _ _ hab=>SR.loadVar t hab
   ·refine SR.bind (ih fQ (h.mono fe)) fun gS xs ys gi hh=>?_;refine SR.pure ?_;have:=(AR.one (hxy.mono gi)).append hh
    simpa using this
 rw[Array.mapM_eq_mapM_toList];rw[Array.mapM_eq_mapM_toList];refine SR.bind (V:=fun ρ' x y=>AR (fun f=>S f=true) ρ' x y) ?_ fun fQ x y fe hxy=>?_
 ·exact SR.bind (key _ ρ h) fun fQ x y _ hh=>SR.pure hh
 ·refine SR.pure ?_;by_cases hs:x.size=1
  ·have hs':y.size=1:=by rw[<-hxy.size];exact hs
   rw[dif_pos hs,dif_pos hs'];exact hxy.at_ 0 _ _ (by simp[hs]) (by simp[hs'])
  ·have hs':¬y.size=1:=by rw[<-hxy.size];exact hs
   rw[dif_neg hs,dif_neg hs'];exact VR.tuple' hxy
theorem BJ(F:nL P S)(Uz:Y5 Ks K){f f':ai}{base base':List ai}{s w:ae}(h:KR P S D Ks K ρ (f::base) (f'::base'))(hr:HR P.globals.size (fun f=>S f=true) ro ρ s w)(ht:s.tape=w.tape)(hd:s.drawn=w.drawn)(hro:∀b,s.heap.size<=b->ro b=.all):
  af9 P S ro ρ D Ks K f base f' base' s w\/(base=[]/\f.mode=.returning)\/Bad (stepG P true (G f (base++[dZ])) s) (base++[dZ]):=by
 have refl:=Mv.refl (ro:=ro) (S:=(fun f=>S f=true)) hr ht hd;have ctl:∀{g g':ai},(∀s,stepG P true (G f (base++[dZ])) s=.go (G g (base++[dZ])) s #[])->(∀main tail,stepG P main (G f' (base'++tail)) w=.go (G g' (base'++tail)) w #[])->KR P S D Ks K ρ (g::base) (g'::base')->af9 P S ro ρ D Ks K f base f' base' s w:=
  fun h1 h2 h3=>⟨_,base,s,#[],h1 s,⟨rfl,0,rfl,fun τ d _=>h1 _⟩,_,base',w,ρ,#[],h2,h3,refl⟩
 obtain⟨sj,iu,si,hf,JX,reb⟩:∃sj iu si,FR P S ρ sj iu si f f'/\Y5 iu si/\∀ρ' g g',Ext ρ ρ'->g.fn=f.fn->FR P S ρ' sj iu si g g'->KR P S D Ks K ρ' (g::base) (g'::base'):=by
  cases h with
  |one h=>exact⟨_,_,_,h,Uz,fun _ _ _ _ _ h=>.one h⟩
  |cons h hS hp=>exact⟨_,_,_,h,.inl ⟨rfl,rfl⟩,fun ρ' g g' e hfn h=>.cons h (by rw[hfn];exact hS) fun gS v v' e2 hv=>hp gS v v' (e.trans e2) hv⟩
 cases hf with
 | @ret b b' a a' todo todo' hfn hk hk' nD nP Bl hR=>
  cases h with
  |one _=>exact .inr (.inl ⟨rfl,rfl⟩)
  |cons h hS hp=>
   rename_i c c' r r';obtain⟨fn,code,Ae,-⟩:=F _ hS;have Ae:P.funcs[b.fn]?=some fn:=Ae;have ax3:P.funcs[b'.fn]?=some fn:=by rw[hfn];exact Ae
   have e1:=po (xs:=a.tmps) (hR fn Ae);have e2:=po (xs:=a'.tmps) (hR fn Ae);obtain⟨k1,k2,k3⟩:=SR.results (P:=P) (ro:=ro) (a:=uy sj a) (a':=uy sj a') Bl fn s w hr ht hd hro;simp only[uy]at k1 k2 k3;rw[e1]at k1 k2 k3;rw[e2]at k1;cases hres:(bR fn a.tmps).run P s with
   |halt hh s1=>
    obtain⟨o,es,e⟩:=FW (main:=true) (todo:=todo) (cs:=c::(r++[dZ])) hk nD Ae hres;exact .inr (.inr (.inl ⟨_,_,_,e⟩))
   |ok v s1=>
    obtain⟨vK,v',w1,h1,h2,h3⟩:=k1 v s1 hres;obtain⟨l1,n,l2,l3⟩:=k3 v s1 hres;exact .inl ⟨c.finish v,r,s1,_,lN hk nD Ae hres,⟨l1,n,l2,fun τ d m8=>by have:=lN (main:=true) (todo:=todo) (cs:=r++[dZ]) (c:=c) hk nD Ae (l3 τ d m8).1;rw[(l3 τ d m8).2]at this;exact this⟩,c'.finish v',r',w1,vK,_,fun main tail=>lN hk' nP ax3 h1,hp vK v v' h2.ext h3,h2.sub fun e he=>mem_seen he⟩
 | @run b b' a a' X hfn hk hk' nD nP hX Bl hR=>
  have CN:b.kind≠ .early:=by rw[hk];simp
  have ax0:b'.kind≠ .early:=by rw[hk'];simp
  have top:∀{ρ':Nat->Option Nat} {a2 wm:Act} (X2:List Item),Ext ρ ρ'->a2.defers=[]->wm.defers=[]->X2.all (za P S sj)=true->AR (fun f=>S f=true) ρ' (nI sj a2.tmps) (nI sj wm.tmps)->KR P S D Ks K ρ' (b.at a2 (X2++iu)::base) (b'.at wm (X2++si)::base'):=
   fun X2 e d1 d2 hx hh=>reb _ _ _ e rfl (.run X2 hfn hk hk' d1 d2 hx hh hR)
  have ret:∀{todo todo':List Item},KR P S D Ks K ρ ({b.at a todo with mode:=.returning}::base) ({b'.at a' todo' with mode:=.returning}::base'):=
   reb _ _ _ (.refl _) rfl (.ret hfn hk hk' nD nP Bl hR)
  have ay5:iu=[]\/iu=[fK]:=JX.imp (·.1) id;cases X with
  |nil=>
   rcases JX with⟨rfl,rfl⟩|rfl
   ·exact .inl (ctl (fun _=>stepG_end) (fun _ _=>stepG_end) ret)
   ·refine .inr (.inr (.inl ?_));exact⟨_,_,_,by simp[G,stepG,stepG.exec,Frame.at,fK];exact⟨rfl,rfl,rfl⟩⟩
  |cons x X=>
   simp only[List.all_cons,aD]at hX;obtain⟨hx,hX⟩:=hX;have pop:AR (fun f=>S f=true) ρ (uy sj a).tmps (uy sj a').tmps:=Bl;cases x with
   |code c=>
    have one:∀{c1:Code},codeOk P S sj c1=true->(Item.code c1::X).all (za P S sj)=true:=fun h1=>by simp only[List.all_cons,aD];exact⟨h1,hX⟩
    cases c with
    |skip=>exact .inl (ctl (fun _=>stepG_skip) (fun _ _=>stepG_skip) (top X (.refl _) nD nP hX Bl))
    |label l=>exact .inl (ctl (fun _=>stepG_label) (fun _ _=>stepG_label) (top X (.refl _) nD nP hX Bl))
    |ret=>exact .inl (ctl (fun _=>stepG_ret') (fun _ _=>stepG_ret') ret)
    |seq c1 c2=>
     simp only[za,codeOk,aD]at hx;exact .inl (ctl (fun _=>stepG_seq) (fun _ _=>stepG_seq) (top (.code c1:: .code c2::X) (.refl _) nD nP (by simp only[List.all_cons,aD];exact⟨hx.1,hx.2,hX⟩) Bl))
    |block id c1=>exact .inl (ctl (fun _=>stepG_block) (fun _ _=>stepG_block) (top (.code c1:: .inBlock id::X) (.refl _) nD nP (by simp only[List.all_cons,aD];exact⟨hx,rfl,hX⟩) Bl))
    |loop c1=>exact .inl (ctl (fun _=>stepG_loop) (fun _ _=>stepG_loop) (top (.code c1:: .inLoop c1::X) (.refl _) nD nP (by simp only[List.all_cons,aD];exact⟨hx,hx,hX⟩) Bl))
    |cond q c1 c2=>
     simp only[za,codeOk,aD]at hx;have hv:=evR pop q hx.1.1.1;rw[jB hx.1.1.2,jB hx.1.1.2]at hv;have dead:(∀t,a.eval q≠ .bool t)->Bad (stepG P true (G (b.at a (.code (.cond q c1 c2)::X++iu)) (base++[dZ])) s) (base++[dZ]):=fun hn=>by
      refine .inl ?_;have he:(b.at a (.code (.cond q c1 c2)::(X++iu))).eval q=a.eval q:=Frame.eval_at _ _ _ _;simp only[Frame.at]at he;cases hq:a.eval q<;>first
       |exact absurd hq (hn _)
       |(rw[hq]at he;exact⟨_,_,_,by simp[G,stepG,stepG.exec,Frame.at,he];exact⟨rfl,rfl,rfl⟩⟩)
     cases hq:a.eval q with
     |bool t=>
      rw[hq]at hv;have hq':a'.eval q=.bool t:=by
       generalize a'.eval q=z at hv;cases hv;rfl
      exact .inl (ctl (fun _=>stepG_cond hq) (fun _ _=>stepG_cond hq') (top (.code (if t then c1 else c2)::X) (.refl _) nD nP (by cases t<;>simp only[List.all_cons,aD]<;>first|exact⟨hx.1.2,hX⟩|exact⟨hx.2,hX⟩) Bl))
     |_=>exact .inr (.inr (dead fun t e=>by rw[hq]at e;cases e))
    |exit id=>
     cases he:exitTo id (X++iu)with
     |none=>
      refine .inr (.inr (.inl ?_));exact⟨_,_,_,by simp[G,stepG,stepG.exec,Frame.at,he];exact⟨rfl,rfl,rfl⟩⟩
     |some k'=>
      obtain⟨Y,rfl,h2,h3⟩:=wU ay5 X he;refine .inl (ctl (fun _=>stepG_exit he) (fun _ _=>stepG_exit (h2 si)) (top Y (.refl _) nD nP ?_ Bl));rw[List.all_eq_true]at hX ⊢;exact fun y hy=>hX y (h3 y hy)
    |region id ops draw=>
     cases draw with
     |false=>exact .inl (ctl (fun _=>stepG_region) (fun _ _=>stepG_region) (top (.inRegion ops (List.range ops.size)::X) (.refl _) nD nP (by simp only[List.all_cons,aD];exact⟨hx,hX⟩) Bl))
     |true=>
      have e:b'.fn=b.fn:=hfn;refine .inl ⟨_,base,_,_,stepG_region_draw,⟨rfl,1,rfl,fun τ d m8=>by
       have e:=m8 0 (by omega);simp only[Nat.add_zero]at e;refine(stepG_region_draw (P:=P) (main:=true) (b:=b) (a:=a) (k:=X++iu) (cs:=base++[dZ]) (w:=World.on s τ d) (id:=id) (ops:=ops)).trans ?_;show GStep.go (G (b.at a (.inRegion ops (Region.schedule _ ops (τ d (.order b.fn id)))::(X++iu))) _) _ _=_;rw[e];rfl⟩,b'.at a' (.inRegion ops (Region.schedule (P.follows .mixedOrders) ops (s.tape s.drawn (.order b.fn id)))::(X++si)),base',{w with drawn:=w.drawn+1},ρ,#[],fun main tail=>?_,top (.inRegion ops _::X) (.refl _) nD nP (by simp only[List.all_cons,aD];exact⟨hx,hX⟩) Bl,?_⟩
      ·rw[ht,hd,<-e];exact stepG_region_draw
      ·exact⟨.refl _,⟨hr.inj,hr.row,hr.hole,hr.low,hr.gs,hr.gw⟩,ht,by simp[hd],rfl,rfl,rfl,Nat.le_refl _,fun _ _ _=>rfl,fun _ _ _ _ _ cs _ _ hc=>⟨cs,hc,rfl,fun _ _=>rfl⟩,fun _ _ h=>.inl h,by simp,Nat.le_refl _,rfl,rfl,fun a b=>⟨a,b⟩⟩
    |_=>cases hx
   |inBlock id=>exact .inl (ctl (fun _=>stepG_inBlock) (fun _ _=>stepG_inBlock) (top X (.refl _) nD nP hX Bl))
   |inLoop c=>exact .inl (ctl (fun _=>stepG_inLoop) (fun _ _=>stepG_inLoop) (top (.code c:: .inLoop c::X) (.refl _) nD nP (by simp only[List.all_cons,aD];exact⟨hx,hx,hX⟩) Bl))
   |inRegion ops l=>
    cases l with
    |nil=>exact .inl (ctl (fun _=>stepG_region_end) (fun _ _=>stepG_region_end) (top X (.refl _) nD nP hX Bl))
    |cons i rest=>
     have hrest:(Item.inRegion ops rest::X).all (za P S sj)=true:=by simp only[List.all_cons,aD];exact⟨hx,hX⟩
     have hxD:∀o∈ops,Qd P S o=true/\Xa sj o=true:=fun o ho=>by
      have:(ops.all fun o=>Qd P S o&&Xa sj o)=true:=hx
      rw[aV]at this;simpa using this o ho
     have hy:yielded ops a.tmps=yielded ops a'.tmps:=by
      have:=H9 pop ops
      simp only[uy]at this;rw[zJ fun o ho=>(hxD o ho).2,zJ fun o ho=>(hxD o ho).2]at this;exact this
     have put':∀{o:Oper} {ρ':Nat->Option Nat} {v v':af},o∈ops->Ext ρ ρ'->VR (fun f=>S f=true) ρ' v v'->AR (fun f=>S f=true) ρ' (nI sj (a.put o.dst v).tmps) (nI sj (a'.put o.dst v').tmps):=by
      intro o ρ' v v' ho e hv;have hD:=(hxD o ho).2;unfold Xa at hD;simp only[aD]at hD;rw[Ov sj a o.dst _ hD.1,Ov sj a' o.dst _ hD.1];exact AR.put (pop.mono e) o.dst hv
     cases ho:ops[i]? with
     |none=>
      have st:∀(b:ai) (a:Act) (k:List Item) (main:Bool) (cs:List ai) (w:ae),stepG P main (G (b.at a (.inRegion ops (i::rest)::k)) cs) w=.go (G (b.at a (.inRegion ops rest::k)) cs) w #[]:=by
       intro b a k main cs w;simp[G,stepG,stepG.exec,Frame.at,ho,Frame.finish]
      exact .inl (ctl (fun _=>st ..) (fun _ _=>st ..) (top (.inRegion ops rest::X) (.refl _) nD nP hrest Bl))
     |some o=>
      cases hw:Region.wanted o (yielded ops a.tmps)with
      |false=>
       have hw':Region.wanted o (yielded ops a'.tmps)=false:=by rw[<-hy];exact hw
       exact .inl (ctl (fun _=>stepG_unwanted ho hw) (fun _ _=>stepG_unwanted ho hw') (top (.inRegion ops rest::X) (.refl _) (by rw[put_defers];exact nD) (by rw[put_defers];exact nP) hrest (put' (bF ho) (.refl _) VR.undef)))
      |true=>
       have hw':Region.wanted o (yielded ops a'.tmps)=true:=by rw[<-hy];exact hw
       obtain⟨hok,hoD⟩:=hxD o (bF ho);obtain⟨k1,k2,k3⟩:=SR.exec (P:=P) (ro:=ro) F.body (evR pop) hok s w hr ht hd hro;rw[Jo hoD]at k1 k2 k3;rw[Jo hoD]at k1;cases hrun:(ax a.eval o).run P s with
       |halt hh s1=>
        have tm:=k2 hh s1 hrun;refine .inr (.inr ?_);have e:=stepG_oper (P:=P) (main:=true) (b:=b) (rest:=rest) (k:=X++iu) (cs:=base++[dZ]) (w:=s) ho hw;have hk1:(b.kind==CallKind.early)=false:=by simpa using CN
        cases hh with
        |panic v=>
         refine .inr ⟨(b.at a (.inRegion ops (i::rest)::(X++iu))).raise [{v,recovered:=false}],s1,listed P b.fn a o s,[{v,recovered:=false}],?_,rfl,?_⟩
         ·show stepG P true (G (b.at a (.inRegion ops (i::rest)::(X++iu))) (base++[dZ])) s=_;rw[e];simp[stepG.apply,hrun,G,Frame.at,hk1,dx,listed]
         ·simp[Frame.raise,Frame.at,nD]
        |stuck m=>
         refine .inl ?_;show∃o w es,stepG P true (G (b.at a (.inRegion ops (i::rest)::(X++iu))) (base++[dZ])) s=_;rw[e];exact⟨_,_,_,by simp[stepG.apply,hrun,dx];exact⟨rfl,rfl,rfl⟩⟩
        |unsupported u=>
         refine .inl ?_;show∃o w es,stepG P true (G (b.at a (.inRegion ops (i::rest)::(X++iu))) (base++[dZ])) s=_;rw[e];cases u<;>first
          |exact tm.elim
          |exact⟨_,_,_,by simp[stepG.apply,hrun,dx];exact⟨rfl,rfl,rfl⟩⟩
        |_=>exact tm.elim
       |ok nx s1=>
        obtain⟨vK,nx',w1,h1,h2,h3⟩:=k1 nx s1 hrun;obtain⟨l1,n,l2,l3⟩:=k3 nx s1 hrun;have l4:∀τ d,(∀j,j<n->τ (d+j)=s.tape (s.drawn+j))->listed P b.fn a o (World.on s τ d)=listed P b.fn a o s:=fun τ d m8=>by unfold listed;rw[(l3 τ d m8).2]
        have h2':∀fn,Mv P.globals.size (fun f=>S f=true) ro ρ s w vK s1 w1 (listed P fn a' o w):=fun fn=>h2.sub fun e he=>mem_listed he;rcases h3 with⟨v,v',rfl,rfl,hv⟩|⟨rfl,rfl⟩|⟨g,ik,as',rfl,rfl,hg,has⟩
        ·exact .inl ⟨_,base,s1,_,stepG_value ho hw CN hrun,⟨l1,n,l2,fun τ d m8=>by rw[<-l4 τ d m8];exact stepG_value ho hw CN (l3 τ d m8).1⟩,_,base',w1,vK,_,fun main tail=>stepG_value ho hw' ax0 h1,top (.inRegion ops rest::X) h2.ext (by rw[put_defers];exact nD) (by rw[put_defers];exact nP) hrest (put' (bF ho) h2.ext hv),h2' _⟩
        ·exact .inl ⟨_,base,s1,_,stepG_none ho hw CN hrun,⟨l1,n,l2,fun τ d m8=>by rw[<-l4 τ d m8];exact stepG_none ho hw CN (l3 τ d m8).1⟩,_,base',w1,vK,_,fun main tail=>stepG_none ho hw' ax0 h1,top (.inRegion ops rest::X) h2.ext (by rw[put_defers];exact nD) (by rw[put_defers];exact nP) hrest (put' (bF ho) h2.ext VR.undef),h2' _⟩
        ·obtain⟨fn,code,QL,hf2,hf3,hf4⟩:=F g hg;refine .inl ⟨Frame.enter P g ik .normal,b.at a (.inRegion ops (i::rest)::(X++iu))::base,s1,_,stepG_enter ho hw CN hrun,⟨l1,n,l2,fun τ d m8=>by rw[<-l4 τ d m8];exact stepG_enter ho hw CN (l3 τ d m8).1⟩,Frame.enter P g as' .normal,b'.at a' (.inRegion ops (i::rest)::(X++si))::base',w1,vK,_,fun main tail=>stepG_enter ho hw' ax0 h1,?_,h2' _⟩;rw[enter_at ik QL hf2,enter_at as' QL hf2];refine .cons ?_ hg fun gS v v' e2 hv=>?_
         ·refine .run (b:=Go.Conc.base g) (b':=Go.Conc.base g) [.code code] rfl rfl rfl rfl rfl (by simp only[List.all_cons,aD];exact⟨hf4,rfl⟩) ?_ Gc;show AR (fun f=>S f=true) vK (nI ES (ik++bN (fn.ntmps-ik.size) av)) (nI ES (as'++bN (fn.ntmps-as'.size) av));rw[pL,pL,<-has.size];exact has.append (AR.replicate _ VR.undef)
         ·have f1:(b.at a (.inRegion ops (i::rest)::(X++iu))).finish v=b.at (a.put o.dst v) (.inRegion ops rest::(X++iu)):=by rw[Frame.finish_at,ho];rfl
          have f2:(b'.at a' (.inRegion ops (i::rest)::(X++si))).finish v'=b'.at (a'.put o.dst v') (.inRegion ops rest::(X++si)):=by rw[Frame.finish_at,ho];rfl
          rw[f1,f2];exact top (.inRegion ops rest::X) (h2.ext.trans e2) (by rw[put_defers];exact nD) (by rw[put_defers];exact nP) hrest (put' (bF ho) (h2.ext.trans e2) hv)
   |_=>cases hx
end
end
end Cc
end Go.Proofs.Ytpfpokjaeffbjaa
