/- Part of the proof: RenOp3, RenOp4, RenOp5, RenOp6, RenOp7. -/
import Derived.Test.YtpfpokjaeffbjabBb2
set_option linter.unusedVariables false
set_option linter.unusedSimpArgs false
set_option maxRecDepth 100000
set_option maxHeartbeats 16000000
namespace Go.Proofs.Ytpfpokjaeffbjab
namespace Cc
section
section
variable{P:Program}{S:FuncId->Prop}{ro:Nat->Md}{ρ:Nat->Option Nat}{v v' u u':Value}
def JV(P:Program)(S:FuncId->Prop)(t:TypeId):Prop:=∀e,P.underlying t=some (.slice e)->Bz P S e
theorem SR.build{t:TypeId}(hz:Bz P S t){ps ps':Array (Nat×Value)}(h:yP S ρ ps.toList ps'.toList):SR P S ro ρ (Instr.build t ps) (Instr.build t ps') fun ρ' x y=>VR S ρ' x y:=by
 unfold Instr.build;refine SR.bind (SR.zeroValue hz) fun dI z z' he₁ hzz=>?_
 refine SR.bind (SR.underlying t) fun fM d d' he₂ hd=>?_
 obtain⟨rfl,-⟩:=hd;split
 ·rename_i fields;have key:∀(l:List Field) (ρ:Nat->Option Nat),SR P S ro ρ (l.mapM fun f=>(do Pure.pure (f.offset,<-Go.sizeOf f.type):Sem (Nat×Nat))) (l.mapM fun f=>(do Pure.pure (f.offset,<-Go.sizeOf f.type):Sem (Nat×Nat))) fun _ a b=>a=b:=by
   intro l
   induction l with
   |nil=>intro ρ;simp only[List.mapM_nil];exact SR.pure rfl
   |cons f l ih=>
    intro ρ;simp only[List.mapM_cons];refine SR.bind (SR.bind (SR.sizeOf f.type) (W:=fun _ a b=>a=b) fun _ n m _ e=>by subst e;exact SR.pure rfl) fun dI a b _ e=>?_
    subst e;refine SR.bind (ih dI) fun fM x y _ e=>?_
    subst e;exact SR.pure rfl
  rw[Array.mapM_eq_mapM_toList];refine SR.bind (V:=fun _ a b=>a=b) ?_ fun iK pl pl' fJ e=>?_
  ·refine SR.bind (key fields.toList fM) (W:=fun _ a b=>a=b) fun iK a b _ e=>?_
   subst e;exact SR.pure rfl
  ·subst e;cases hf:Instr.fill (fun x=>pl[x]?) z.cells ps.toList with
   |none=>exact SR.stuck
   |some r=>
    obtain⟨r',hr',hrr⟩:=zV _ _ _ _ _ (((h.mono he₁).mono he₂).mono fJ) ((hzz.cells.mono he₂).mono fJ) r hf;simp only[hr'];exact SR.pure (VR.agg' hrr)
 ·rename_i n elem;refine SR.bind (SR.sizeOf elem) fun iK m m' fJ e=>?_
  subst e;cases hf:Instr.fill (fun i=>some (i*m,m)) z.cells ps.toList with
  |none=>exact SR.stuck
  |some r=>
   obtain⟨r',hr',hrr⟩:=zV _ _ _ _ _ (((h.mono he₁).mono he₂).mono fJ) ((hzz.cells.mono he₂).mono fJ) r hf;simp only[hr'];exact SR.pure (VR.agg' hrr)
 ·exact SR.stuck
theorem SR.buildSlice{t:TypeId}(hz:JV P S t){len:Nat}{ps ps':Array (Nat×Value)}(h:yP S ρ ps.toList ps'.toList):SR P S ro ρ (Instr.buildSlice t len ps) (Instr.buildSlice t len ps') fun ρ' x y=>VR S ρ' x y:=by
 unfold Instr.buildSlice;refine SR.bind (SR.underlying t) fun dI d d' he₁ hd=>?_
 obtain⟨rfl,hu⟩:=hd;split
 ·rename_i elem;refine SR.bind (SR.sizeOf elem) fun fM m m' he₂ e=>?_
  subst e;by_cases hbig:len*m>2^24
  ·rw[if_pos hbig,if_pos hbig];exact SR.oM trivial
  ·rw[if_neg hbig,if_neg hbig];dsimp only;have tail:∀(iK:Nat->Option Nat) (z z':Array Value),Ext fM iK->AR S iK z z'->
     SR P S ro iK (match Instr.fill (fun i=>some (i*m,m)) ((Array.range (len*m)).map (z[·%z.size]!)) ps.toList with
      |some cells=>do
       let __do_lift<-Go.newRow elem cells
       Pure.pure (Value.slice (some __do_lift) len len)
      |x=>Go.stuck "buildSlice: a part of the wrong size")
      (match Instr.fill (fun i=>some (i*m,m)) ((Array.range (len*m)).map (z'[·%z'.size]!)) ps'.toList with
      |some cells=>do
       let __do_lift<-Go.newRow elem cells
       Pure.pure (Value.slice (some __do_lift) len len)
      |x=>Go.stuck "buildSlice: a part of the wrong size") fun ρ' x y=>VR S ρ' x y:=by
    intro iK z z' fJ hzz;cases hf:Instr.fill (fun i=>some (i*m,m)) ((Array.range (len*m)).map (z[·%z.size]!)) ps.toList with
    |none=>exact SR.stuck
    |some r=>
     obtain⟨r',hr',hrr⟩:=zV _ _ _ _ _ (((h.mono he₁).mono he₂).mono fJ) (uG hzz (len*m)) r hf;simp only[hr'];exact SR.bind (SR.newRow hrr) fun _ a b _ hab=>SR.pure (hab.slice _ _)
   split
   ·exact SR.bind (SR.pure (V:=fun ρ' a b=>AR S ρ' a b) AR.empty) fun iK z z' fJ hzz=>tail iK z z' fJ hzz
   ·exact SR.bind (SR.zeroValue (hz _ hu)) fun iK a b fJ hab=>SR.bind (SR.pure (V:=fun ρ' a b=>AR S ρ' a b) hab.cells) fun qW z z' kT hzz=>tail qW z z' (fJ.trans kT) hzz
 ·exact SR.stuck
theorem SR.field{t:TypeId}(h:VR S ρ v v')(f:Nat):SR P S ro ρ (Instr.field t v f) (Instr.field t v' f) fun ρ' x y=>VR S ρ' x y:=by
 unfold Instr.field;refine SR.bind (SR.underlying t) fun dI d d' he₁ hd=>?_
 obtain⟨rfl,hu⟩:=hd;split
 ·split
  ·exact SR.bind (SR.asAgg (h.mono he₁)) fun _ a b _ hab=>SR.part hab _
  ·exact SR.stuck
 ·exact SR.stuck
theorem SR.partAt{a a':Addr}(h:oL ρ a a')(n k:Nat):SR P S ro ρ (partAt a n k) (partAt a' n k) fun ρ' x y=>oL ρ' x y:=by
 unfold Go.partAt;refine SR.bind (SR.byteOf h) fun dI x y he₁ e=>?_
 subst e;have h1:=h.mono he₁;have hp:oL dI {block:=a.block,off:=a.off+n} {block:=a'.block,off:=a'.off+n}:=⟨h1.1,by simp[h1.2.1],rfl⟩;refine SR.bind (SR.byteOf hp) fun fM x₂ y₂ he₂ e=>?_
 subst e;have hp2:=hp.mono he₂;refine SR.pure ?_;split
 ·exact hp2
 ·exact⟨hp2.1,hp2.2.1,rfl⟩
theorem SR.fieldAt{t:TypeId}(h:VR S ρ v v')(f:Nat):SR P S ro ρ (Instr.fieldAt t v f) (Instr.fieldAt t v' f) fun ρ' x y=>VR S ρ' x y:=by
 unfold Instr.fieldAt;refine SR.bind (SR.underlying t) fun dI d d' he₁ hd=>?_
 obtain⟨rfl,hu⟩:=hd;split
 ·split
  ·refine SR.bind (SR.sureAddr (h.mono he₁)) fun fM a a' he₂ ha=>?_
   refine SR.bind (V:=fun ρ' x y=>oL ρ' x y) ?_ fun _ x y _ hxy=>SR.pure hxy.ptr
   unfold fieldPlace;refine SR.bind (SR.sizeOf _) fun iK n n' fJ e=>?_
   subst e;split
   ·exact SR.partAt (ha.mono fJ) _ _
   ·exact SR.pure ((ha.mono fJ).add _)
  ·exact SR.stuck
 ·exact SR.stuck
theorem SR.index{t:TypeId}(h:VR S ρ v v')(k:VR S ρ u u'):SR P S ro ρ (Instr.index t v u) (Instr.index t v' u') fun ρ' x y=>VR S ρ' x y:=by
 unfold Instr.index;refine SR.bind (SR.asIntOf k) fun dI d d' he₁ e=>?_
 subst e;refine SR.bind (SR.underlying t) fun fM d₂ bk8 he₂ hd=>?_
 obtain⟨rfl,hu⟩:=hd;have h2:=(h.mono he₁).mono he₂;cases h2 with
 |agg hx h1=>
  split
  ·rename_i heq;cases heq;split
   ·refine SR.bind (SR.sizeOf _) fun iK n n' fJ e=>?_
    subst e;exact SR.part ((AR.mk hx h1).mono fJ) _
   ·exact SR.bounds
  ·rename_i heq;cases heq
  ·exact SR.stuck
 |string s=>
  split
  ·rename_i heq;cases heq
  ·rename_i heq;cases heq;split
   ·exact SR.pure (.int _ _)
   ·exact SR.bounds
  ·exact SR.stuck
 |_=>
  split
  ·rename_i heq;cases heq
  ·rename_i heq;cases heq
  ·exact SR.stuck
theorem SR.indexAt{t:TypeId}(h:VR S ρ v v')(k:VR S ρ u u'):SR P S ro ρ (Instr.indexAt t v u) (Instr.indexAt t v' u') fun ρ' x y=>VR S ρ' x y:=by
 unfold Instr.indexAt;refine SR.bind (SR.asIntOf k) fun dI d d' he₁ e=>?_
 subst e;obtain⟨kk,i⟩:=d;dsimp only;refine SR.bind (SR.underlying t) fun fM d₂ bk8 he₂ hd=>?_
 obtain⟨rfl,hu⟩:=hd;have h2:=(h.mono he₁).mono he₂;have tail:∀(b1 b2:Option Addr) (l1:Nat) (e1:TypeId) (tiny:Bool) (iK:Nat->Option Nat),((b1=none/\b2=none)\/∃x x',b1=some x/\b2=some x'/\oL iK x x')->SR P S ro iK (match b1 with
   |some a=>if 0<=i/\i<(l1:Int)then(do
     let __do_lift<-Go.sizeOf e1
     Pure.pure (Value.pointer (some (a.add (i.toNat*__do_lift)))):Sem Value)else if tiny then Go.unsupported (.noEntry "op/indexAddr.an index out of range at an array of length 0 or 1 (ledger 616)")else boundsPanic kk i l1 .index
   |none=>boundsPanic kk i 0 .index) (match b2 with
   |some a=>if 0<=i/\i<(l1:Int)then(do
     let __do_lift<-Go.sizeOf e1
     Pure.pure (Value.pointer (some (a.add (i.toNat*__do_lift)))):Sem Value)else if tiny then Go.unsupported (.noEntry "op/indexAddr.an index out of range at an array of length 0 or 1 (ledger 616)")else boundsPanic kk i l1 .index
   |none=>boundsPanic kk i 0 .index) fun ρ' x y=>VR S ρ' x y:=by
  intro b1 b2 l1 e1 tiny iK hb;rcases hb with⟨rfl,rfl⟩|⟨x,x',rfl,rfl,hx⟩
  ·exact SR.bounds
  ·dsimp only;split
   ·refine SR.bind (SR.sizeOf _) fun qW n n' kT e=>?_
    subst e;exact SR.pure ((hx.mono kT).add _).ptr
   ·split
    ·exact SR.unsupported trivial
    ·exact SR.bounds
 cases d₂ with
 |array len elem=>
  dsimp only;refine SR.bind (SR.sureAddr h2) fun iK a b fJ hab=>?_
  refine SR.bind (SR.pure (V:=fun ρ' x y=>x=(some a,len,elem)/\y=(some b,len,elem)) ⟨rfl,rfl⟩) fun qW x y kT hxy=>?_
  obtain⟨rfl,rfl⟩:=hxy;dsimp only;refine SR.bind (SR.underlying t) fun ug d₃ av2 vU hd=>?_
  obtain⟨rfl,hu⟩:=hd;exact tail _ _ _ _ _ ug (.inr ⟨a,b,rfl,rfl,(hab.mono kT).mono vU⟩)
 |slice elem=>
  cases h2 with
  |gQ l c=>
   dsimp only;refine SR.bind (SR.pure (V:=fun ρ' x y=>x=(none,l,elem)/\y=(none,l,elem)) ⟨rfl,rfl⟩) fun qW x y kT hxy=>?_
   obtain⟨rfl,rfl⟩:=hxy;dsimp only;refine SR.bind (SR.underlying t) fun ug d₃ av2 vU hd=>?_
   obtain⟨rfl,hu⟩:=hd;exact SR.bounds
  | @slice b c off sp l cp hb=>
   dsimp only;refine SR.bind (SR.pure (V:=fun ρ' x y=>x=(some ⟨b,off,sp⟩,l,elem)/\y=(some ⟨c,off,sp⟩,l,elem)) ⟨rfl,rfl⟩) fun qW x y kT hxy=>?_
   obtain⟨rfl,rfl⟩:=hxy;dsimp only;refine SR.bind (SR.underlying t) fun ug d₃ av2 vU hd=>?_
   obtain⟨rfl,hu⟩:=hd;exact tail _ _ _ _ _ ug (.inr ⟨⟨b,off,sp⟩,⟨c,off,sp⟩,rfl,rfl,show oL ug ⟨b,off,sp⟩ ⟨c,off,sp⟩from⟨vU b c (kT b c hb),rfl,rfl⟩⟩)
  |_=>exact SR.Ap
 |_=>exact SR.Ap
theorem SR.extract(h:VR S ρ v v')(i:Nat):SR P S ro ρ (Instr.extract v i) (Instr.extract v' i) fun ρ' x y=>VR S ρ' x y:=by
 cases h with
 |tuple hx h1=>
  unfold Instr.extract;rename_i x x';have A:AR S ρ x x':=⟨hx,h1⟩;cases hc:x[i]? with
  |none=>simp only[hc];exact SR.stuck
  |some z=>
   obtain⟨z',hz',hr⟩:=A.get hc;simp only[hc,hz'];exact SR.pure hr
 |_=>exact SR.stuck
theorem SR.makeFunc{f:FuncId}(hf:S f){x y x' y':Array Value}(hx:AR S ρ x x')(hy:AR S ρ y y'):SR P S ro ρ (Instr.makeFunc (.func f) x y) (Instr.makeFunc (.func f) x' y') fun ρ' x y=>VR S ρ' x y:=SR.pure (VR.func' hf hx hy)
end
end
section
section
variable{P:Program}{S:FuncId->Prop}{ro:Nat->Md}{ρ:Nat->Option Nat}{v v' u u':Value}
theorem SR.len{ts:Array TypeId}{t:TypeId}{args args':Array Value}(h:AR S ρ args args')(hk:∃t0 d,ts[0]?=some t0/\P.underlying t0=some d/\(d=.string\/∃e,d=.slice e)):
  SR P S ro ρ (Builtin.len_ ts t args) (Builtin.len_ ts t args') fun ρ' x y=>VR S ρ' x y:=by
 obtain⟨t0,d0,h0,hu0,hd0⟩:=hk;unfold Builtin.len_;rw[h0];cases ha:args[0]? with
 |none=>exact SR.stuck
 |some x=>
  obtain⟨x',hx',hr⟩:=h.get ha;rw[hx'];dsimp only;refine SR.bind (SR.underlying t0) fun dI d d' he₁ hd=>?_
  obtain⟨rfl,hu⟩:=hd;rw[hu0]at hu;cases hu;rcases hd0 with rfl|⟨e,rfl⟩
  ·cases hr with
   |string s=>exact SR.pure (.int _ _)
   |_=>exact SR.stuck
  ·cases hr with
   |gQ l c=>exact SR.pure (.int _ _)
   |slice off sp l c hb=>exact SR.pure (.int _ _)
   |_=>exact SR.stuck
theorem SR.lenOf(h:VR S ρ v v'):SR P S ro ρ (Builtin.lenOf v) (Builtin.lenOf v') fun _ a b=>a=b:=by
 cases h<;>first|exact SR.pure rfl|exact SR.stuck
theorem SR.firstCells(size n:Nat)(h:VR S ρ v v'):SR P S ro ρ (Builtin.firstCells size n v) (Builtin.firstCells size n v') fun ρ' a b=>AR S ρ' a b:=by
 cases h with
 |gQ l c=>exact SR.pure AR.empty
 |slice off sp l c hb=>exact SR.loadCells (show oL ρ ⟨_,off,sp⟩ ⟨_,off,sp⟩from⟨hb,rfl,rfl⟩) _
 |string s=>exact SR.pure (AR.map (fun b=>.int _ _) _)
 |_=>exact SR.stuck
theorem FY{z z':Array Value}(h:AR S ρ z z')(n:Nat):AR S ρ (Builtin.zeroCells z n) (Builtin.zeroCells z' n):=by
 unfold Builtin.zeroCells;rw[h.size];have:=uG h (n*z'.size);rw[h.size]at this;exact this
theorem SR.askRoom(n:Nat):SR P S ro ρ (askRoom n) (askRoom n) fun _ _ _=>True:=by
 unfold Go.askRoom;split
 ·exact SR.mark rfl
 ·exact SR.pure trivial
def grown(elem:TypeId)(m l cp n:Nat)(s y:Value):Sem Value:=do
 let newCap<-Go.choose (.appendCap (l+n) cp elem)
 let i<-Go.typeInfo elem
 Go.askRoom (newCap*i.bytes)
 let old<-Builtin.firstCells m l s
 let new<-Builtin.firstCells m n y
 let z<-Go.zeroValue elem
 let a<-Go.newRow elem (old++new++Builtin.zeroCells z.cells (newCap-(l+n)))
 Pure.pure (.slice (some a) (l+n) newCap)
theorem wR{elem:TypeId}(hz:Bz P S elem)(m l cp n:Nat)(hs:VR S ρ v v')(hy:VR S ρ u u'):SR P S ro ρ (grown elem m l cp n v u) (grown elem m l cp n v' u') fun ρ' x y=>VR S ρ' x y:=by
 unfold grown;refine SR.bind SR.choose fun dI k k' he₁ e=>?_
 subst e;refine SR.bind (SR.typeInfo elem) fun fM i i' he₂ e=>?_
 obtain⟨rfl,-⟩:=e;refine SR.bind (SR.askRoom _) fun iK _ _ fJ _=>?_
 have e3:=(he₁.trans he₂).trans fJ;refine SR.bind (SR.firstCells m l (hs.mono e3)) fun qW o o' kT ho=>?_
 refine SR.bind (SR.firstCells m n ((hy.mono e3).mono kT)) fun ug w w' vU hw=>?_
 refine SR.bind (SR.zeroValue hz) fun Gp z z' rO hzz=>?_
 refine SR.bind (SR.newRow ((((ho.mono vU).mono rO).append (hw.mono rO)).append (FY hzz.cells _))) fun _ a a' _ ha=>SR.pure (ha.slice _ _)
def laid(m l cp n:Nat)(A:Option Addr)(y:Value):Sem Value:=do
 let new<-Builtin.firstCells m n y
 match A with
 |some a=>do
  Go.storeCells (a.add (l*m)) new.toList
  Pure.pure (.slice (some a) (l+n) cp)
 |none=>Pure.pure (.slice none (l+n) cp)
theorem zN(m l cp n:Nat){A A':Option Addr}(hA:(A=none/\A'=none)\/∃a a',A=some a/\A'=some a'/\oL ρ a a')(hy:VR S ρ u u'):SR P S ro ρ (laid m l cp n A u) (laid m l cp n A' u') fun ρ' x y=>VR S ρ' x y:=by
 unfold laid;refine SR.bind (SR.firstCells m n hy) fun dI w w' he₁ hw=>?_
 rcases hA with⟨rfl,rfl⟩|⟨a,a',rfl,rfl,ha⟩
 ·exact SR.pure (.gQ _ _)
 ·refine SR.bind (SR.storeCells _ _ 0 ((ha.mono he₁).add _) (by rw[Array.toArray_toList,Array.toArray_toList];exact hw)) fun fM _ _ he₂ _=>?_
  exact SR.pure (((ha.mono he₁).mono he₂).slice _ _)
theorem Calm.mark(m:Mark):Calm P (Go.mark m):=fun s h s' e=>by cases e
theorem Calm.shape(r:Nat):Calm P (Go.shape r):=fun s h s' e=>by cases e
theorem Calm.frozen(a:Addr):Calm P (Go.frozen a):=fun s h s' e=>by cases e
theorem Calm.holdsCells(a:Addr)(n:Nat):Calm P (Builtin.holdsCells a n):=by
 unfold Builtin.holdsCells;exact Calm.bind (Calm.shape _) fun o=>by split<;>exact Calm.pure _
theorem Calm.mayShare(a b c:Nat)(d:Option Addr)(x:Value):Calm P (Builtin.mayShare a b c d x):=by
 unfold Builtin.mayShare;dsimp only;cases x<;>cases d<;>(try dsimp only)<;>repeat' (first|exact Calm.pure _|exact Calm.holdsCells _ _|exact Calm.frozen _|(refine Calm.bind ?_ fun _=>?_)|split)
theorem SR.append{ts:Array TypeId}{t:TypeId}{args args':Array Value}(h:AR S ρ args args')(hz:∀t0,ts[0]?=some t0->JV P S t0)(hn:∀t1 d,ts[1]?=some t1->P.underlying t1=some d->∀k,d≠ .int k):
  SR P S ro ρ (Builtin.append_ ts t args) (Builtin.append_ ts t args') fun ρ' x y=>VR S ρ' x y:=by
 unfold Builtin.append_;cases h0:ts[0]? with
 |none=>exact SR.stuck
 |some t0=>
 cases ha:args[0]? with
 |none=>exact SR.stuck
 |some x=>
 obtain⟨x',hx',hr⟩:=h.get ha;cases hb:args[1]? with
 |none=>exact SR.stuck
 |some y=>
 obtain⟨y',hy',hs⟩:=h.get hb;rw[hx',hy'];dsimp only;refine SR.bind (SR.underlying t0) fun dI d d' he₁ hd=>?_
 obtain⟨rfl,hu⟩:=hd;cases d with
 |slice elem=>
  have hze:=hz t0 h0 elem hu;cases hr with
  | @slice b c off sp l cp hb=>
   dsimp only;refine SR.bind (SR.sizeOf elem) fun fM m m' he₂ e=>?_
   subst e;cases h1:ts[1]? with
   |none=>
    dsimp only;refine SR.bind (SR.pure (V:=fun _ a b=>a=false/\b=false) ⟨rfl,rfl⟩) fun iK z z' fJ hzz=>?_
    obtain⟨rfl,rfl⟩:=hzz;simp only[Bool.false_eq_true,if_false,Bool.not_false,if_true,false_or];have E₀:=((he₁.trans he₂).trans fJ);refine SR.bind (SR.lenOf (hs.mono E₀)) fun Gp n n' rO e=>?_
    subst e;have BG:=E₀.trans rO;by_cases hroom:l+n<=cp
    ·rw[if_pos hroom,if_pos hroom];exact zN m l cp n (.inr ⟨⟨b,off,sp⟩,⟨c,off,sp⟩,rfl,rfl,show oL _ ⟨b,off,sp⟩ ⟨c,off,sp⟩from⟨BG _ _ hb,rfl,rfl⟩⟩) (hs.mono BG)
    ·rw[if_neg hroom,if_neg hroom];refine SR.bind (SR.typeInfo elem) fun J6 i i' BQ e=>?_
     obtain⟨rfl,-⟩:=e;split
     ·exact SR.oN
     ·refine SR.bind (SR.typeInfo elem) fun uF j j' EW e=>?_
      obtain⟨rfl,-⟩:=e;have JU:=(BG.trans BQ).trans EW;split
      ·refine SR.never ?_;refine Never.bind (Never.after (fun s h s' e=>Calm.mayShare _ _ _ _ _ s h s' e) fun _=>?_);split<;>first|exact Never.bind (Never.halt trivial)|exact Never.halt trivial|exact Never.after (fun s h s' e=>Calm.mark _ s h s' e) fun _=>Never.halt trivial
      ·exact wR hze m l cp n (.slice off sp l cp (JU _ _ hb)) (hs.mono JU)
   |some t1=>
    dsimp only;refine SR.bind (SR.underlying t1) fun iK d1 d1' fJ hd1=>?_
    obtain⟨rfl,hu1⟩:=hd1;refine SR.bind (SR.pure (V:=fun _ a b=>a=false/\b=false) (by constructor<;>(cases d1<;>first|rfl|exact absurd rfl (hn t1 _ h1 hu1 _)))) fun qW z z' kT hzz=>?_
    obtain⟨rfl,rfl⟩:=hzz;simp only[Bool.false_eq_true,if_false,Bool.not_false,if_true,false_or];have E₀:=(((he₁.trans he₂).trans fJ).trans kT);refine SR.bind (SR.lenOf (hs.mono E₀)) fun Gp n n' rO e=>?_
    subst e;have BG:=E₀.trans rO;by_cases hroom:l+n<=cp
    ·rw[if_pos hroom,if_pos hroom];exact zN m l cp n (.inr ⟨⟨b,off,sp⟩,⟨c,off,sp⟩,rfl,rfl,show oL _ ⟨b,off,sp⟩ ⟨c,off,sp⟩from⟨BG _ _ hb,rfl,rfl⟩⟩) (hs.mono BG)
    ·rw[if_neg hroom,if_neg hroom];refine SR.bind (SR.typeInfo elem) fun J6 i i' BQ e=>?_
     obtain⟨rfl,-⟩:=e;split
     ·exact SR.oN
     ·refine SR.bind (SR.typeInfo elem) fun uF j j' EW e=>?_
      obtain⟨rfl,-⟩:=e;have JU:=(BG.trans BQ).trans EW;split
      ·refine SR.never ?_;refine Never.bind (Never.after (fun s h s' e=>Calm.mayShare _ _ _ _ _ s h s' e) fun _=>?_);split<;>first|exact Never.bind (Never.halt trivial)|exact Never.halt trivial|exact Never.after (fun s h s' e=>Calm.mark _ s h s' e) fun _=>Never.halt trivial
      ·exact wR hze m l cp n (.slice off sp l cp (JU _ _ hb)) (hs.mono JU)
  |gQ l cp=>
   dsimp only;refine SR.bind (SR.sizeOf elem) fun fM m m' he₂ e=>?_
   subst e;cases h1:ts[1]? with
   |none=>
    dsimp only;refine SR.bind (SR.pure (V:=fun _ a b=>a=false/\b=false) ⟨rfl,rfl⟩) fun iK z z' fJ hzz=>?_
    obtain⟨rfl,rfl⟩:=hzz;simp only[Bool.false_eq_true,if_false,Bool.not_false,if_true,false_or];have E₀:=((he₁.trans he₂).trans fJ);refine SR.bind (SR.lenOf (hs.mono E₀)) fun Gp n n' rO e=>?_
    subst e;have BG:=E₀.trans rO;by_cases hroom:l+n<=cp
    ·rw[if_pos hroom,if_pos hroom];exact zN m l cp n (.inl ⟨rfl,rfl⟩) (hs.mono BG)
    ·rw[if_neg hroom,if_neg hroom];refine SR.bind (SR.typeInfo elem) fun J6 i i' BQ e=>?_
     obtain⟨rfl,-⟩:=e;split
     ·exact SR.oN
     ·refine SR.bind (SR.typeInfo elem) fun uF j j' EW e=>?_
      obtain⟨rfl,-⟩:=e;have JU:=(BG.trans BQ).trans EW;split
      ·refine SR.never ?_;refine Never.bind (Never.after (fun s h s' e=>Calm.mayShare _ _ _ _ _ s h s' e) fun _=>?_);split<;>first|exact Never.bind (Never.halt trivial)|exact Never.halt trivial|exact Never.after (fun s h s' e=>Calm.mark _ s h s' e) fun _=>Never.halt trivial
      ·exact wR hze m l cp n (.gQ l cp) (hs.mono JU)
   |some t1=>
    dsimp only;refine SR.bind (SR.underlying t1) fun iK d1 d1' fJ hd1=>?_
    obtain⟨rfl,hu1⟩:=hd1;refine SR.bind (SR.pure (V:=fun _ a b=>a=false/\b=false) (by constructor<;>(cases d1<;>first|rfl|exact absurd rfl (hn t1 _ h1 hu1 _)))) fun qW z z' kT hzz=>?_
    obtain⟨rfl,rfl⟩:=hzz;simp only[Bool.false_eq_true,if_false,Bool.not_false,if_true,false_or];have E₀:=(((he₁.trans he₂).trans fJ).trans kT);refine SR.bind (SR.lenOf (hs.mono E₀)) fun Gp n n' rO e=>?_
    subst e;have BG:=E₀.trans rO;by_cases hroom:l+n<=cp
    ·rw[if_pos hroom,if_pos hroom];exact zN m l cp n (.inl ⟨rfl,rfl⟩) (hs.mono BG)
    ·rw[if_neg hroom,if_neg hroom];refine SR.bind (SR.typeInfo elem) fun J6 i i' BQ e=>?_
     obtain⟨rfl,-⟩:=e;split
     ·exact SR.oN
     ·refine SR.bind (SR.typeInfo elem) fun uF j j' EW e=>?_
      obtain⟨rfl,-⟩:=e;have JU:=(BG.trans BQ).trans EW;split
      ·refine SR.never ?_;refine Never.bind (Never.after (fun s h s' e=>Calm.mayShare _ _ _ _ _ s h s' e) fun _=>?_);split<;>first|exact Never.bind (Never.halt trivial)|exact Never.halt trivial|exact Never.after (fun s h s' e=>Calm.mark _ s h s' e) fun _=>Never.halt trivial
      ·exact wR hze m l cp n (.gQ l cp) (hs.mono JU)
  |_=>exact SR.stuck
 |_=>exact SR.stuck
theorem SR.copy{ts:Array TypeId}{t:TypeId}{args args':Array Value}(h:AR S ρ args args'):SR P S ro ρ (Builtin.copy_ ts t args) (Builtin.copy_ ts t args') fun ρ' x y=>VR S ρ' x y:=by
 unfold Builtin.copy_;cases h0:ts[0]? with
 |none=>exact SR.stuck
 |some t0=>
 cases ha:args[0]? with
 |none=>exact SR.stuck
 |some x=>
 obtain⟨x',hx',hr⟩:=h.get ha;cases hb:args[1]? with
 |none=>exact SR.stuck
 |some y=>
 obtain⟨y',hy',hs⟩:=h.get hb;rw[hx',hy'];dsimp only;refine SR.bind (SR.underlying t0) fun dI d d' he₁ hd=>?_
 obtain⟨rfl,hu⟩:=hd;cases d with
 |slice elem=>
  have tail:∀(A A':Option Addr) (l:Nat),((A=none/\A'=none)\/∃a a',A=some a/\A'=some a'/\oL ρ a a')->SR P S ro dI (do
    let n:=Nat.min (<-Builtin.lenOf y) l
    let cells<-Builtin.firstCells (<-Go.sizeOf elem) n y
    if let some a:=A then Go.storeCells a cells.toList
    Pure.pure (Go.goInt n):Sem Value) (do
    let n:=Nat.min (<-Builtin.lenOf y') l
    let cells<-Builtin.firstCells (<-Go.sizeOf elem) n y'
    if let some a:=A' then Go.storeCells a cells.toList
    Pure.pure (Go.goInt n):Sem Value) fun ρ' x y=>VR S ρ' x y:=by
   intro A A' l hA;refine SR.bind (SR.lenOf (hs.mono he₁)) fun fM n n' he₂ e=>?_
   subst e;refine SR.bind (SR.sizeOf elem) fun iK m m' fJ e=>?_
   subst e;refine SR.bind (SR.firstCells m _ (((hs.mono he₁).mono he₂).mono fJ)) fun qW w w' kT hw=>?_
   rcases hA with⟨rfl,rfl⟩|⟨a,a',rfl,rfl,ha⟩
   ·exact SR.pure (.int _ _)
   ·refine SR.bind (SR.storeCells _ _ 0 ((((ha.mono he₁).mono he₂).mono fJ).mono kT) (by rw[Array.toArray_toList,Array.toArray_toList];exact hw)) fun ug _ _ vU _=>?_
    exact SR.pure (.int _ _)
  cases hr with
  |gQ l c=>exact tail none none l (.inl ⟨rfl,rfl⟩)
  | @slice b c off sp l cp hb=>exact tail (some ⟨b,off,sp⟩) (some ⟨c,off,sp⟩) l (.inr ⟨_,_,rfl,rfl,hb,rfl,rfl⟩)
  |_=>exact SR.stuck
 |_=>exact SR.stuck
end
end
section
section
variable{P:Program}{S:FuncId->Prop}{ro:Nat->Md}{ρ:Nat->Option Nat}{v v' u u':Value}
theorem SR.intArith(op:BinOp)(k:IntKind)(x y:Int):SR P S ro ρ (Op.intArith op k x y) (Op.intArith op k x y) fun ρ' a b=>VR S ρ' a b:=by
 cases op<;>first|exact SR.pure (.int _ _)|exact SR.stuck
theorem SR.intDiv(op:BinOp)(k:IntKind)(x y:Int):SR P S ro ρ (Op.intDiv op k x y) (Op.intDiv op k x y) fun ρ' a b=>VR S ρ' a b:=by
 unfold Op.intDiv;split
 ·exact SR.panic
 ·cases op<;>first|exact SR.pure (.int _ _)|exact SR.stuck
theorem SR.intBits(op:BinOp)(k:IntKind)(x y:Int):SR P S ro ρ (Op.intBits op k x y) (Op.intBits op k x y) fun ρ' a b=>VR S ρ' a b:=by
 cases op<;>first|exact SR.pure (.int _ _)|exact SR.stuck
theorem SR.shift(op:BinOp)(k:IntKind)(x:Int)(k':IntKind)(y:Int):SR P S ro ρ (Op.shift op k x k' y) (Op.shift op k x k' y) fun ρ' a b=>VR S ρ' a b:=by
 unfold Op.shift;split
 ·exact SR.panic
 ·cases op<;>first|exact SR.pure (.int _ _)|exact SR.stuck
theorem SR.intCmp(op:BinOp)(x y:Int):SR P S ro ρ (Op.intCmp op x y) (Op.intCmp op x y) fun ρ' a b=>VR S ρ' a b:=by
 cases op<;>first|exact SR.pure (.bool _)|exact SR.stuck
theorem SR.stringOp(op:BinOp)(x y:ByteArray):SR P S ro ρ (Op.stringOp op x y) (Op.stringOp op x y) fun ρ' a b=>VR S ρ' a b:=by
 unfold Op.stringOp;cases op<;>dsimp only<;>first
  |exact SR.pure (.bool _)
  |exact SR.stuck
  |(split
    ·exact SR.unsupported trivial
    ·exact SR.pure (.string _))
theorem Bo{p:Program}{d:Nat}{e:TypeId}{c c' off:Nat}{n:Int}(hc:c<=c'){r:Nat}(h:cellAtBytes p d e c off n=some r):cellAtBytes p d e c' off n=some r:=by
 unfold cellAtBytes at h ⊢;dsimp only at h ⊢;split at h
 ·cases h
 ·rename_i h0;rw[if_neg h0];cases hb:byteOfCell p d e (off%p.cellsOf e)with
  |none=>rw[hb]at h;cases h
  |some b=>
   rw[hb]at h;simp only[Option.bind_eq_bind,Option.bind_some]at h ⊢;split at h
   ·cases h
   ·rename_i h1;have h2:¬(decide ((Int.ofNat (off/p.cellsOf e*p.bytesOf e+b)+n<0))||decide (Int.ofNat (off/p.cellsOf e*p.bytesOf e+b)+n≥Int.ofNat (c'*p.bytesOf e)))=true:=by
     simp only[Bool.or_eq_true,decide_eq_true_eq,not_or]at h1 ⊢;refine⟨h1.1,?_⟩;have:=Nat.mul_le_mul_right (p.bytesOf e) hc;simp only[Int.ofNat_eq_natCast]at*;omega
    rw[if_neg h2];exact h
theorem SR.unsafeAdd{t:TypeId}(h:VR S ρ v v')(k:VR S ρ u u'):SR P S ro ρ (Builtin.unsafeAdd_ #[] t #[v,u]) (Builtin.unsafeAdd_ #[] t #[v',u']) fun ρ' a b=>VR S ρ' a b/\((∃x x',a=.pointer (some x)/\b=.pointer (some x')/\oL ρ' x x')):=by
 unfold Builtin.unsafeAdd_;have tail:∀(p p':Option Addr),(p=none/\p'=none\/∃x x',p=some x/\p'=some x'/\oL ρ x x')->SR P S ro ρ (do
   let n<-Go.asInt u
   if n=0 then
    let some a:=p|Go.unsupported (.unsafePointer "Add: from nil")
    if(<-Go.viewAt a.block).isSome then Go.unsupported (.unsafePointer "Add: at a place where no cell lies")
    return .pointer p
   if n<0 then Go.unsupported (.unsafePointer "Add: a move by a count below zero")
   let some a:=p|Go.unsupported (.unsafePointer "Add")
   let some (e,cells)<-Go.shape a.block|Go.unsupported (.unsafePointer "Add")
   let p<-Go.program
   match cellAtBytes p p.depth e (cells/p.cellsOf e) a.off n with
   |some off=>Pure.pure (.pointer (some {a with off}))
   |none=>Go.unsupported (.unsafePointer "Add"):Sem Value) (do
   let n<-Go.asInt u'
   if n=0 then
    let some a:=p'|Go.unsupported (.unsafePointer "Add: from nil")
    if(<-Go.viewAt a.block).isSome then Go.unsupported (.unsafePointer "Add: at a place where no cell lies")
    return .pointer p'
   if n<0 then Go.unsupported (.unsafePointer "Add: a move by a count below zero")
   let some a:=p'|Go.unsupported (.unsafePointer "Add")
   let some (e,cells)<-Go.shape a.block|Go.unsupported (.unsafePointer "Add")
   let p<-Go.program
   match cellAtBytes p p.depth e (cells/p.cellsOf e) a.off n with
   |some off=>Pure.pure (.pointer (some {a with off}))
   |none=>Go.unsupported (.unsafePointer "Add"):Sem Value) fun ρ' a b=>VR S ρ' a b/\((∃x x',a=.pointer (some x)/\b=.pointer (some x')/\oL ρ' x x')):=by
  intro p p' hp;refine SR.bind (SR.asInt k) fun dI n n' he₁ e=>?_
  subst e;rcases hp with⟨rfl,rfl⟩|⟨x,x',rfl,rfl,hx⟩
  ·by_cases h0:n=0
   ·simp only[if_pos h0];exact SR.oM (m:=.unsafePointer _) trivial
   ·simp only[if_neg h0];by_cases h1:n<0
    ·simp only[if_pos h1];exact SR.oM (m:=.unsafePointer _) trivial
    ·simp only[if_neg h1];exact SR.unsupported trivial
  ·by_cases h0:n=0
   ·simp only[if_pos h0];refine SR.bind (SR.viewAt (he₁ _ _ hx.1)) fun fM a b he₂ hab=>?_
    obtain⟨rfl,rfl⟩:=hab;simp only[Option.isSome_none,Bool.false_eq_true,if_false];have hx2:=(hx.mono he₁).mono he₂;exact SR.pure ⟨hx2.ptr,x,x',rfl,rfl,hx2⟩
   ·simp only[if_neg h0];by_cases h1:n<0
    ·simp only[if_pos h1];exact SR.oM (m:=.unsafePointer _) trivial
    ·simp only[if_neg h1];refine SR.bind (SR.shape (he₁ _ _ hx.1)) fun fM a b he₂ hab=>?_
     rcases hab with⟨e,m,m',rfl,rfl,hm⟩|⟨rfl,rfl⟩
     ·dsimp only;refine SR.bind SR.program fun iK p p' fJ hp=>?_
      obtain⟨rfl,rfl⟩:=hp;cases hc:cellAtBytes p p.depth e (m/p.cellsOf e) x.off n with
      |none=>exact SR.unsupported trivial
      |some off=>
       have:cellAtBytes p p.depth e (m'/p.cellsOf e) x'.off n=some off:=by
        rw[hx.2.1];exact Bo (Nat.div_le_div_right hm) hc
       rw[this];have hx3:=((hx.mono he₁).mono he₂).mono fJ;have:oL iK {x with off:=off} {x' with off:=off}:=⟨hx3.1,rfl,hx3.2.2⟩;exact SR.pure ⟨this.ptr,_,_,rfl,rfl,this⟩
     ·exact SR.unsupported trivial
 cases h with
 |nilPtr=>exact tail none none (.inl ⟨rfl,rfl⟩)
 | @ptr b c off sp hb=>exact tail (some ⟨b,off,sp⟩) (some ⟨c,off,sp⟩) (.inr ⟨_,_,rfl,rfl,hb,rfl,rfl⟩)
 |_=>exact SR.stuck
theorem SR.movedNumber{t:TypeId}(h:VR S ρ v v')(k:VR S ρ u u'):SR P S ro ρ (Go.movedNumber t v u) (Go.movedNumber t v' u') fun ρ' a b=>VR S ρ' a b:=by
 unfold Go.movedNumber;refine SR.bind (SR.underlying t) fun dI d d' he₁ hd=>?_
 obtain⟨rfl,-⟩:=hd;have key:∀dI,Ext ρ dI->SR P S ro dI (do
   let .pointer (some n):=v|Builtin.unsafeAdd_ #[] t #[v,u]
   let(a,lost)<-Go.behindNumber n
   match<-Builtin.unsafeAdd_ #[] t #[.pointer (some a),u]with
   |.pointer (some b)=>Go.asNumber b lost
   |v=>Pure.pure v:Sem Value) (do
   let .pointer (some n):=v'|Builtin.unsafeAdd_ #[] t #[v',u']
   let(a,lost)<-Go.behindNumber n
   match<-Builtin.unsafeAdd_ #[] t #[.pointer (some a),u']with
   |.pointer (some b)=>Go.asNumber b lost
   |v=>Pure.pure v:Sem Value) fun ρ' a b=>VR S ρ' a b:=by
  intro dI he₁;have hv:=h.mono he₁;have hu:=k.mono he₁;cases hv with
  | @ptr b c off sp hb=>
   dsimp only;refine SR.bind (SR.behindNumber (n:=⟨b,off,sp⟩) (n':=⟨c,off,sp⟩) ⟨hb,rfl,rfl⟩) fun fM a b he₂ hab=>?_
   obtain⟨a,l⟩:=a;obtain⟨b,l'⟩:=b;obtain⟨h1,rfl⟩:=hab;dsimp only at h1 ⊢;refine SR.bind (SR.unsafeAdd h1.ptr (hu.mono he₂)) fun iK x y fJ hxy=>?_
   obtain⟨-,z,z',rfl,rfl,hz⟩:=hxy;exact SR.UU hz
  |junk _ _ _=>exact SR.stuck
  |_=>exact(SR.unsafeAdd (by constructor<;>assumption) hu).mono fun _ _ _ _ x=>x.1
 cases d<;>simp only[Bool.false_eq_true,if_false,if_true]<;>first|exact key dI he₁|exact SR.oM (m:=.unsafePointer _) trivial
end
end
section
section
variable{P:Program}{S:FuncId->Prop}{ro:Nat->Md}{ρ:Nat->Option Nat}{v v' u u':Value}
theorem SR.aa4{α β:Type}{x:Sem α}{y:Sem β}{V:(Nat->Option Nat)->α->β->Prop}{a a':Addr}(h:oL ρ a a')(k:P.globals.size<=a.block->P.globals.size<=a'.block->SR P S ro ρ x y V):SR P S ro ρ x y V:=
 fun s w hr=>k (hr.low _ _ h.1).1 (hr.low _ _ h.1).2 s w hr
theorem SR.twoPlaces{a b:Addr}{c:Nat}(h:ρ a.block=some c){β:Type}{y:Sem β}{V:(Nat->Option Nat)->Nat×Nat->β->Prop}:SR P S ro ρ (Op.twoPlaces a b) y V:=by
 intro s w hr ht hd hro;have hl:=(hr.low _ _ h).1;have key:(Op.twoPlaces a b).run P s=.halt (.unsupported .addressObserved) s:=by
  unfold Op.twoPlaces;rw[Sem.run_bind,run_program,Result.andThen];have:(a.block != b.block||decide (a.block≥P.globals.size))=true:=by simp;omega
  simp only[this,if_true];rfl
 exact⟨fun a s' hx=>(by rw[key]at hx;cases hx),fun h s' hx=>(by rw[key]at hx;cases hx;trivial),fun a s' hx=>(by rw[key]at hx;cases hx)⟩
theorem SR.addrSub{a b a' b':Addr}{k:IntKind}(h:oL ρ a a'):SR P S ro ρ (Op.addrSub k a b) (Op.addrSub k a' b') fun ρ' x y=>VR S ρ' x y:=by
 unfold Op.addrSub;exact SR.bind (V:=fun _ a b=>a=b) (SR.twoPlaces h.1) fun _ _ _ _ e=>by subst e;exact SR.pure (.int _ _)
theorem SR.addrCmp{a b a' b':Addr}{op:BinOp}(h:oL ρ a a'):SR P S ro ρ (Op.addrCmp op a b) (Op.addrCmp op a' b') fun ρ' x y=>VR S ρ' x y:=by
 unfold Op.addrCmp;exact SR.bind (V:=fun _ a b=>a=b) (SR.twoPlaces h.1) fun _ _ _ _ e=>by
  subst e;cases op<;>first|exact SR.pure (.bool _)|exact SR.unsupported trivial
theorem SR.addrMod{a a':Addr}{k:IntKind}{n:Int}(h:oL ρ a a'):SR P S ro ρ (Op.addrMod k a n) (Op.addrMod k a' n) fun ρ' x y=>VR S ρ' x y:=by
 unfold Op.addrMod;refine SR.bind (SR.shape h.1) fun dI x y he₁ hxy=>?_
 rcases hxy with⟨e,m,m',rfl,rfl,-⟩|⟨rfl,rfl⟩
 ·dsimp only;refine SR.bind (SR.typeInfo e) fun fM i i' he₂ e=>?_
  obtain⟨rfl,-⟩:=e;split
  ·exact SR.oM (m:=.addressObserved) trivial
  ·exact SR.bind (SR.byteOf ((h.mono he₁).mono he₂)) fun _ _ _ _ e=>by subst e;exact SR.pure (.int _ _)
 ·exact SR.unsupported trivial
def pV(P:Program):Nat->TypeId->Bool
 |0,_=>false
 |d+1,t=>match P.underlying t with
  |some .bool|some .string=>true
  |some (.int _)=>match P.info? t with
   |some i=>match i.desc with
    |.named "sync.copyChecker" _=>false
    |_=>true
   |none=>false
  |some (.struct fs)=>!P.stoodInHeld t&&fs.all fun f=>pV P d f.type
  |_=>false
theorem SR.forIn{α β γ:Type}(l:List α)(f:α->β->Sem (ForInStep β))(g:α->γ->Sem (ForInStep γ))(R:(Nat->Option Nat)->β->γ->Prop)(hm:∀ρ ρ' b c,Ext ρ ρ'->R ρ b c->R ρ' b c)
  (h:∀x∈l,∀ρ b c,R ρ b c->SR P S ro ρ (f x b) (g x c) fun ρ' a a'=>(∃b c,a=.yield b/\a'=.yield c/\R ρ' b c)\/∃b c,a=.done b/\a'=.done c/\R ρ' b c):
  ∀{ρ:Nat->Option Nat} (b:β) (c:γ),R ρ b c->SR P S ro ρ (forIn l b f) (forIn l c g) R:=by
 induction l with
 |nil=>intro ρ b c hb;simp only[List.forIn_nil];exact SR.pure hb
 |cons x l ih=>
  intro ρ b c hb;simp only[List.forIn_cons];refine SR.bind (h x (by simp) ρ b c hb) fun dI a a' he₁ haa=>?_
  rcases haa with⟨b,c,rfl,rfl,hb⟩|⟨b,c,rfl,rfl,hb⟩
  ·exact ih (fun y hy=>h y (by simp[hy])) b c hb
  ·exact SR.pure hb
theorem SR.equalIn(d:Nat):∀(D:Nat) {t:TypeId} {ρ:Nat->Option Nat} {v v' u u':Value},pV P D t=true->VR S ρ v v'->VR S ρ u u'->SR P S ro ρ (Op.equalIn d t v u) (Op.equalIn d t v' u') fun _ a b=>a=b:=by
 induction d with
 |zero=>intro D t ρ v v' u u' _ _ _;exact SR.unsupported trivial
 |succ d ih=>
  intro D t ρ v v' u u' hf h k;cases D with
  |zero=>cases hf
  |succ D=>
  unfold Op.equalIn;refine SR.bind (SR.underlying t) fun dI x x' he₁ hd=>?_
  obtain⟨rfl,hu⟩:=hd;unfold pV at hf;rw[hu]at hf;have h1:=h.mono he₁;have k1:=k.mono he₁;cases x with
  |bool=>cases h1<;>cases k1<;>first|exact SR.pure rfl|exact SR.stuck
  |string=>cases h1<;>cases k1<;>first|exact SR.pure rfl|exact SR.stuck
  |int kk=>
   have hc:∀i,P.info? t=some i->∀u,i.desc≠ .named "sync.copyChecker" u:=by
    intro i hi u e;rw[hi]at hf;simp only[e]at hf;cases hf
   cases h1<;>cases k1<;>first
    |exact SR.stuck
    |exact SR.unsupported trivial
    |(dsimp only;split<;>first|exact SR.pure rfl|exact SR.stuck)
    |skip
   ·rename_i n _ _ _ _ _;rcases n with(_|m)|m<;>first|exact SR.pure rfl|exact SR.unsupported trivial
   ·rename_i n;rcases n with(_|m)|m<;>first|exact SR.pure rfl|exact SR.unsupported trivial
   ·rename_i b c off sp hb b2 c2 off2 sp2 hb2;dsimp only;refine SR.bind (SR.behindNumber (n:=⟨b,off,sp⟩) (n':=⟨c,off,sp⟩) ⟨hb,rfl,rfl⟩) fun fM x y he₂ hxy=>?_
    refine SR.bind (SR.behindNumber (n:=⟨b2,off2,sp2⟩) (n':=⟨c2,off2,sp2⟩) ⟨he₂ _ _ hb2,rfl,rfl⟩) fun iK x2 y2 fJ bY7=>?_
    refine SR.aa4 (hxy.1.mono fJ) fun l1 l2=>?_
    refine SR.bind SR.program fun qW p p' kT hp=>?_
    obtain⟨rfl,rfl⟩:=hp;have e1:(x.1.block==x2.1.block&&decide (x.1.block<p.globals.size))=false:=by simp;omega
    have e2:(y.1.block==y2.1.block&&decide (y.1.block<p.globals.size))=false:=by simp;omega
    simp only[e1,e2,Bool.false_eq_true,if_false];refine SR.bind (SR.typeInfo t) fun ug i i' vU hi=>?_
    obtain⟨rfl,hi⟩:=hi;have:=hc _ hi;split
    ·rename_i u e;exact absurd e (this u)
    ·exact SR.unsupported trivial
  |struct fs=>
   simp only[Bool.and_eq_true,Bool.not_eq_true',Array.all_eq_true_iff_forall_mem]at hf;cases h1 with
   |agg hx hxs=>
    cases k1 with
    |agg hy hys=>
     dsimp only;refine SR.bind SR.program fun fM p p' he₂ hp=>?_
     obtain⟨rfl,rfl⟩:=hp;simp only[hf.1,Bool.false_eq_true,if_false];simp only[<-Array.forIn_toList];refine SR.bind (SR.forIn (R:=fun ρ a b=>Ext fM ρ/\a=b) fs.toList _ _ (fun _ _ _ _ e k=>⟨k.1.trans e,k.2⟩) (fun f hfm iK b c e=>?_) _ _ ⟨.refl _,rfl⟩) fun iK a b _ e=>?_
     ·obtain⟨fJ,rfl⟩:=e;by_cases hn:f.name≠ "_"
      ·rw[if_pos hn,if_pos hn];refine SR.bind (SR.part (((AR.mk hx hxs).mono he₂).mono fJ) f.offset) fun qW a a' kT haa=>?_
       refine SR.bind (SR.part ((((AR.mk hy hys).mono he₂).mono fJ).mono kT) f.offset) fun ug c c' vU hcc=>?_
       refine SR.bind (ih D (hf.2 f (by simpa using hfm)) (haa.mono vU) hcc) fun Gp q q' rO e=>?_
       subst e;have E:=(fJ.trans kT).trans (vU.trans rO);split
       ·exact SR.pure (.inr ⟨_,_,rfl,rfl,E,rfl⟩)
       ·exact SR.pure (.inl ⟨_,_,rfl,rfl,E,rfl⟩)
      ·rw[if_neg hn,if_neg hn];exact SR.pure (.inl ⟨_,_,rfl,rfl,fJ,rfl⟩)
     ·obtain⟨-,rfl⟩:=e;split<;>exact SR.pure rfl
    |_=>exact SR.stuck
   |_=>cases k1<;>exact SR.stuck
  |_=>cases hf
theorem NQ{op:BinOp}{t:TypeId}{X Y:Operand}(hg:P.eqGuardType P.depth t=false){d:TypeDesc}(hd:P.underlying t=some d)(hi:∀ms,d≠ .interface ms)(v u:Value)(w:World):(Go.eqGuard op t X Y v u).run P w=.ok () w/\∀es,(Go.eqGuard op t X Y v u).events P w es=es:=by
 have hu:∀w,(Go.underlying t).run P w=.ok d w/\∀es,(Go.underlying t).events P w es=es:=fun w=>by
  unfold Go.underlying;simp[hd]
 have hin:∀w,(Op.eqGuardIn Op.maxDepth t .nilIface .nilIface).run P w=.ok false w/\∀es,(Op.eqGuardIn Op.maxDepth t .nilIface .nilIface).events P w es=es:=fun w=>by
  unfold Op.maxDepth Op.eqGuardIn;constructor
  ·rw[Sem.run_bind,(hu w).1];cases d<;>first|rfl|exact absurd rfl (hi _)
  ·intro es;rw[Sem.events_bind,(hu w).1,(hu w).2];cases d<;>first|rfl|exact absurd rfl (hi _)
 have tail:∀b:Bool,(if b=true then(pure ():Sem Unit)else(do if<-Op.eqGuardIn Op.maxDepth t .nilIface .nilIface then unsupported (.noEntry "binop/eql: two nil values of an interface type with methods, neither of them the literal nil"))).run P w=.ok () w/\∀es,(if b=true then(pure ():Sem Unit)else(do if<-Op.eqGuardIn Op.maxDepth t .nilIface .nilIface then unsupported (.noEntry "binop/eql: two nil values of an interface type with methods, neither of them the literal nil"))).events P w es=es:=by
  intro b;cases b
  ·simp[(hin w).1,(hin w).2]
  ·exact⟨rfl,fun _=>rfl⟩
 unfold Go.eqGuard;cases op<;>first
  |exact⟨rfl,fun _=>rfl⟩
  |(simp only[Bool.not_true,Bool.false_eq_true,if_false]
    split
    ·exact tail _
    ·simp[hg]
    ·exact⟨rfl,fun _=>rfl⟩)
theorem SR.eqGuard{op:BinOp}{t:TypeId}{X Y:Operand}(hg:P.eqGuardType P.depth t=false)(hf:pV P 8 t=true):SR P S ro ρ (Go.eqGuard op t X Y v u) (Go.eqGuard op t X Y v' u') fun _ _ _=>True:=by
 obtain⟨d,hd,hi⟩:∃d,P.underlying t=some d/\∀ms,d≠ .interface ms:=by
  unfold pV at hf;cases hd:P.underlying t with
  |none=>rw[hd]at hf;cases hf
  |some d=>exact⟨d,rfl,fun ms e=>by rw[hd,e]at hf;cases hf⟩
 intro s w hr ht hdr hro;have k:=fun v u w=>NQ (P:=P) (op:=op) (X:=X) (Y:=Y) hg hd hi v u w
 refine⟨fun a s' hx=>?_,fun h s' hx=>(by rw[(k v u s).1]at hx;cases hx),fun a s' hx=>?_⟩
 ·rw[(k v u s).1]at hx;cases hx;exact⟨ρ,(),w,(k v' u' w).1,by rw[(k v' u' w).2];exact Mv.refl hr ht hdr,trivial⟩
 ·rw[(k v u s).1]at hx;cases hx;exact⟨rfl,0,rfl,fun τ d' _=>⟨(k v u _).1,fun es=>by rw[(k v u _).2,(k v u _).2]⟩⟩
end
end
section
section
variable{P:Program}{S:FuncId->Prop}{ro:Nat->Md}{ρ:Nat->Option Nat}{v v' u u':Value}
theorem SR.aM4{t:TypeId}{b:Bool}(ht:pV P 8 t=true)(h:VR S ρ v v')(k:VR S ρ u u'):SR P S ro ρ (do Pure.pure (.bool (<-Op.equal t v u)):Sem Value) (do Pure.pure (.bool (<-Op.equal t v' u')):Sem Value) fun ρ' a b=>VR S ρ' a b:=
 SR.bind (SR.equalIn Op.maxDepth 8 ht h k) fun _ _ _ _ e=>by subst e;exact SR.pure (.bool _)
theorem SR.aj8{t:TypeId}{b:Bool}(ht:pV P 8 t=true)(h:VR S ρ v v')(k:VR S ρ u u'):SR P S ro ρ (do Pure.pure (.bool (!(<-Op.equal t v u))):Sem Value) (do Pure.pure (.bool (!(<-Op.equal t v' u'))):Sem Value) fun ρ' a b=>VR S ρ' a b:=
 SR.bind (SR.equalIn Op.maxDepth 8 ht h k) fun _ _ _ _ e=>by subst e;exact SR.pure (.bool _)
theorem PG{t:TypeId}{d:TypeDesc}(ht:pV P 8 t=true)(h:P.underlying t=some d):d≠ .unsafePointer:=by
 intro e;subst e;unfold pV at ht;rw[h]at ht;cases ht
theorem SR.moved{t:TypeId}(ht:pV P 8 t=true)(h:VR S ρ v v')(k:VR S ρ u u'):SR P S ro ρ (do if(<-Go.underlying t) matches .unsafePointer then Go.movedPointer t v u else Go.movedNumber t v u:Sem Value) (do if(<-Go.underlying t) matches .unsafePointer then Go.movedPointer t v' u' else Go.movedNumber t v' u':Sem Value) fun ρ' a b=>VR S ρ' a b:=by
 refine SR.bind (SR.underlying t) fun dI d d' he₁ hd=>?_
 obtain⟨rfl,hu⟩:=hd;have:=PG ht hu;have h1:=SR.movedNumber (t:=t) (P:=P) (ro:=ro) (h.mono he₁) (k.mono he₁);cases d<;>simp only[Bool.false_eq_true,if_false]<;>first|exact h1|exact absurd rfl this
theorem Vl{t:TypeId}(ht:pV P 8 t=true)(v u:Value)(hj:v=.nilIface\/u=.nilIface):Never P (Op.equal t v u):=by
 obtain⟨d,hd,hi⟩:∃d,P.underlying t=some d/\((d=.bool\/d=.string)\/(∃k,d=.int k)\/∃fs,d=.struct fs):=by
  unfold pV at ht;cases hd:P.underlying t with
  |none=>rw[hd]at ht;cases ht
  |some d=>cases d<;>rw[hd]at ht<;>first|exact⟨_,rfl,.inl (.inl rfl)⟩|exact⟨_,rfl,.inl (.inr rfl)⟩|exact⟨_,rfl,.inr (.inl ⟨_,rfl⟩)⟩|exact⟨_,rfl,.inr (.inr ⟨_,rfl⟩)⟩|cases ht
 have hu:∀w,(Go.underlying t).run P w=.ok d w:=fun w=>by
  unfold Go.underlying;simp[hd]
 intro s;unfold Op.equal Op.maxDepth Op.equalIn;rw[Sem.run_bind,hu s];have st:∀m:String,∃h s',(stuck m:Sem Bool).run P s=.halt h s'/\FP h:=fun m=>Never.stuck s
 have un:∃h s',(Go.unsupported .addressObserved:Sem Bool).run P s=.halt h s'/\FP h:=Never.halt (h:=.unsupported .addressObserved) trivial s;rcases hj with rfl|rfl
 ·rcases hi with(rfl|rfl)|⟨k,rfl⟩|⟨fs,rfl⟩<;>rcases u with _|_|_|_|_|(_|_)|_|_|_|_|_|_|_|_|_<;>first|exact st _|exact un
 ·rcases hi with(rfl|rfl)|⟨k,rfl⟩|⟨fs,rfl⟩<;>rcases v with _|_|_|_|_|(_|_)|_|_|_|_|_|_|_|_|_<;>first|exact st _|exact un
theorem al3{op:BinOp}{t:TypeId}(ht:pV P 8 t=true)(v u:Value)(hj:v=.nilIface\/u=.nilIface):Never P (Go.binOp op t v u):=by
 have he:=Vl ht v u hj;have ne:Never P (do pure (.bool (<-Op.equal t v u)):Sem Value):=he.bind;have nn:Never P (do pure (.bool (!(<-Op.equal t v u))):Sem Value):=he.bind;rcases hj with rfl|rfl
 ·cases op<;>cases u<;>first|exact Never.stuck|exact ne|exact nn|exact Never.halt (h:=.unsupported .addressObserved) trivial
 ·cases op<;>rcases v with _|_|_|_|_|(_|_)|_|_|_|_|_|_|_|_|_<;>first|exact Never.stuck|exact ne|exact nn|exact Never.halt (h:=.unsupported .addressObserved) trivial
theorem SR.binOp{op:BinOp}{t:TypeId}(ht:pV P 8 t=true)(h:VR S ρ v v')(k:VR S ρ u u'):SR P S ro ρ (Go.binOp op t v u) (Go.binOp op t v' u') fun ρ' a b=>VR S ρ' a b:=by
 by_cases hj:v=.nilIface\/u=.nilIface
 ·exact SR.never (al3 ht v u hj)
 have Z5:=SR.aM4 (ro:=ro) (b:=true) ht h k;have ZV:=SR.aj8 (ro:=ro) (b:=true) ht h k;have mv:=SR.moved (ro:=ro) ht h k;have mn:=SR.movedNumber (P:=P) (ro:=ro) (t:=t) h k;have mn':=SR.movedNumber (P:=P) (ro:=ro) (t:=t) k h;have ao:∀(y:Sem Value) V,SR P S ro ρ (Go.unsupported .addressObserved:Sem Value) y V:=fun _ _=>SR.unsupported trivial
 unfold Go.binOp at mv ⊢;cases h with
 |junk _ _ _=>exact absurd (.inl rfl) hj
 |int kk n=>
  cases k with
  |junk _ _ _=>exact absurd (.inr rfl) hj
  |int k2 n2=>
   cases op<;>dsimp only<;>first
    |exact SR.shift _ _ _ _ _
    |(by_cases hk:kk≠k2
      ·simp only[if_pos hk];exact SR.stuck
      ·simp only[if_neg hk];first|exact SR.intArith _ _ _ _|exact SR.intDiv _ _ _ _|exact SR.intBits _ _ _ _|exact SR.intCmp _ _ _)
  | @ptr b c off sp hb=>
   have bh:=SR.behindNumber (P:=P) (S:=S) (ro:=ro) (ρ:=ρ) (n:=⟨b,off,sp⟩) (n':=⟨c,off,sp⟩) ⟨hb,rfl,rfl⟩;cases op<;>dsimp only<;>first|exact Z5|exact ZV|exact mn'|exact SR.stuck|exact ao _ _|exact SR.bind bh (fun _ a b _ hab=>SR.addrMod hab.1)
  |nilPtr=>cases op<;>dsimp only<;>first|exact Z5|exact ZV|exact mn'|exact SR.stuck|exact ao _ _
  |_=>cases op<;>dsimp only<;>first|exact Z5|exact ZV|exact SR.stuck|exact ao _ _
 |string s=>
  cases k with
  |junk _ _ _=>exact absurd (.inr rfl) hj
  |string s2=>cases op<;>dsimp only<;>exact SR.stringOp _ _ _
  |_=>cases op<;>dsimp only<;>first|exact Z5|exact ZV|exact SR.stuck|exact ao _ _
 | @ptr b c off sp hb=>
  have bh:=SR.behindNumber (P:=P) (S:=S) (ro:=ro) (ρ:=ρ) (n:=⟨b,off,sp⟩) (n':=⟨c,off,sp⟩) ⟨hb,rfl,rfl⟩;cases k with
  |junk _ _ _=>exact absurd (.inr rfl) hj
  |int k2 n2=>
   have mi:=SR.movedNumber (P:=P) (ro:=ro) (t:=t) (VR.ptr (S:=S) off sp hb) (VR.int k2 (-n2));cases op<;>dsimp only<;>first|exact Z5|exact ZV|exact mv|exact mi|exact SR.stuck|exact ao _ _|exact SR.bind bh (fun _ a b _ hab=>SR.addrMod hab.1)
  | @ptr b2 c2 off2 sp2 hb2=>
   have bh2:=fun(dI:Nat->Option Nat) (he:Ext ρ dI)=>SR.behindNumber (P:=P) (S:=S) (ro:=ro) (ρ:=dI) (n:=⟨b2,off2,sp2⟩) (n':=⟨c2,off2,sp2⟩) ⟨he _ _ hb2,rfl,rfl⟩
   cases op<;>dsimp only<;>first|exact Z5|exact ZV|exact SR.stuck|exact ao _ _|exact SR.bind bh (fun _ a b he hab=>SR.bind (bh2 _ he) (fun _ a2 b2 he2 bB0=>SR.addrSub (hab.1.mono he2)))|exact SR.bind bh (fun _ a b he hab=>SR.bind (bh2 _ he) (fun _ a2 b2 he2 bB0=>SR.addrCmp (hab.1.mono he2)))
  |_=>cases op<;>dsimp only<;>first|exact Z5|exact ZV|exact SR.stuck|exact ao _ _
 |nilPtr=>
  cases k with
  |junk _ _ _=>exact absurd (.inr rfl) hj
  |int k2 n2=>
   have mi:=SR.movedNumber (P:=P) (ro:=ro) (ρ:=ρ) (t:=t) (VR.nilPtr (S:=S)) (VR.int k2 (-n2));cases op<;>dsimp only<;>first|exact Z5|exact ZV|exact mv|exact mi|exact SR.stuck|exact ao _ _
  |_=>cases op<;>dsimp only<;>first|exact Z5|exact ZV|exact SR.stuck|exact ao _ _
 |_=>cases k<;>first|(exfalso;exact hj (.inr rfl))|(cases op<;>dsimp only<;>first|exact Z5|exact ZV|exact SR.stuck|exact ao _ _)
end
end
end Cc
end Go.Proofs.Ytpfpokjaeffbjab
