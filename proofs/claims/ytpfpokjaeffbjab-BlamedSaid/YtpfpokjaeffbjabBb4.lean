/- Part of the proof: RenOp8, RenStep, Tape. -/
import Derived.Test.YtpfpokjaeffbjabBb3
import Derived.Conc.Own5
import Derived.Conc.Listed
import Derived.Conc.CompanyDraw
set_option linter.unusedVariables false
set_option linter.unusedSimpArgs false
set_option maxRecDepth 100000
set_option maxHeartbeats 16000000
namespace Go.Proofs.Ytpfpokjaeffbjab
namespace Cc
section
def bT:Nat->Value->Bool
 |_,.bool _|_,.int _ _|_,.string _|_,.pointer none|_,.slice none _ _|_,.nilFunc=>true
 |n+1,.agg xs|n+1,.tuple xs=>xs.all (bT n)
 |_,_=>false
theorem mO{S:FuncId->Prop}{ρ:Nat->Option Nat}:∀(n:Nat) (v:Value),bT n v=true->VR S ρ v v:=by
 intro n
 induction n with
 |zero=>
  intro v h;cases v with
  |bool b=>exact .bool b
  |int k n=>exact .int k n
  |string s=>exact .string s
  |pointer a=>cases a with
   |none=>exact .nilPtr
   |some a=>simp[bT]at h
  |slice a l c=>cases a with
   |none=>exact .gQ l c
   |some a=>simp[bT]at h
  |nilFunc=>exact .nilFunc
  |_=>simp[bT]at h
 |succ n ih=>
  intro v h;cases v with
  |bool b=>exact .bool b
  |int k n=>exact .int k n
  |string s=>exact .string s
  |pointer a=>cases a with
   |none=>exact .nilPtr
   |some a=>simp[bT]at h
  |slice a l c=>cases a with
   |none=>exact .gQ l c
   |some a=>simp[bT]at h
  |nilFunc=>exact .nilFunc
  |agg xs=>
   simp only[bT,Array.all_eq_true_iff_forall_mem]at h;exact .agg rfl fun i v v' a b=>by rw[a]at b;cases b;exact ih v (h v (Array.mem_of_getElem? a))
  |tuple xs=>
   simp only[bT,Array.all_eq_true_iff_forall_mem]at h;exact .tuple rfl fun i v v' a b=>by rw[a]at b;cases b;exact ih v (h v (Array.mem_of_getElem? a))
  |_=>simp[bT]at h
def mQ(S:FuncId->Bool):Operand->Bool
 |.tmp _=>true
 |.const v=>bT 8 v
 |.global _=>false
 |.func f=>S f
def J7(P:Program)(t:TypeId):Bool:=match P.info? t with
 |some i=>match i.zero with
  |some v=>bT 8 v
  |none=>true
 |none=>true
def NU(P:Program)(t:TypeId):Bool:=match P.underlying t with
 |some (.slice e)=>J7 P e
 |_=>true
def ba8(P:Program)(ts:Array TypeId):Bool:=match ts[0]? with
 |some t=>match P.underlying t with
  |some .string|some (.slice _)=>true
  |_=>false
 |none=>false
def bm0(P:Program)(ts:Array TypeId):Bool:=(match ts[0]? with
 |some t=>NU P t
 |none=>true)&&match ts[1]? with
 |some t=>match P.underlying t with
  |some (.int _)=>false
  |_=>true
 |none=>true
def Y5(P:Program)(S:FuncId->Bool)(c:Call):Bool:=c.args.all (mQ S)&&match c.callee with
 |.value f=>mQ S f
 |.builtin .len=>ba8 P c.argTypes
 |.builtin .append=>bm0 P c.argTypes
 |.builtin .copy=>true
 |_=>false
def UF(P:Program)(S:FuncId->Bool)(o:Oper):Bool:=
 let k:=mQ S
 match o.op with
 |.move x|.assign x|.box _ x|.load _ x|.nilCheck x|.unOp _ _ x|.fieldAddr _ x _|.field _ x _|.extract x _=>k x
 |.pick c a b=>k c&&k a&&k b
 |.alloc t=>J7 P t
 |.build t ps=>J7 P t&&ps.all fun p=>k p.2
 |.buildSlice t _ ps=>NU P t&&ps.all fun p=>k p.2
 |.store _ a x|.indexAddr _ a x|.index _ a x=>k a&&k x
 |.binOp _ t x y _=>pV P 8 t&& !P.eqGuardType P.depth t&&k x&&k y
 |.convert s d x=>(match P.underlying s,P.underlying d with
  |some (.int _),some (.int _)=>true
  |_,_=>false)&&k x
 |.makeFunc (.func f) x y=>S f&&x.all k&&y.all k
 |.makeSlice t l c=>NU P t&&k l&&k c
 |.call c=>Y5 P S c
 |_=>false
section
variable{P:Program}{S:FuncId->Bool}{ro:Nat->Md}{ρ:Nat->Option Nat}{v v' u u':Value}
theorem DX{t:TypeId}(h:J7 P t=true):Bz P (fun f=>S f=true) t:=by
 intro i v hi hz ρ;unfold J7 at h;rw[hi]at h;simp only[hz]at h;exact mO 8 v h
theorem Fe{t:TypeId}(h:NU P t=true):JV P (fun f=>S f=true) t:=by
 intro e he;unfold NU at h;rw[he]at h;exact DX h
def EvR(S:FuncId->Bool)(ρ:Nat->Option Nat)(e e':Operand->Value):Prop:=∀x,mQ S x=true->VR (fun f=>S f=true) ρ (e x) (e' x)
theorem EvR.args{e e':Operand->Value}(h:EvR S ρ e e'){xs:Array Operand}(hx:xs.all (mQ S)=true):AR (fun f=>S f=true) ρ (xs.map e) (xs.map e'):=by
 rw[Array.all_eq_true_iff_forall_mem]at hx;refine⟨by simp,fun i a b ha hb=>?_⟩;rw[Array.getElem?_map]at ha hb;cases hl:xs[i]? with
 |none=>rw[hl]at ha;cases ha
 |some z=>rw[hl]at ha hb;cases ha;cases hb;exact h z (hx z (Array.mem_of_getElem? hl))
theorem EvR.parts{e e':Operand->Value}(h:EvR S ρ e e'){xs:Array (Nat×Operand)}(hx:(xs.all fun p=>mQ S p.2)=true):yP (fun f=>S f=true) ρ (xs.map fun(i,x)=>(i,e x)).toList (xs.map fun(i,x)=>(i,e' x)).toList:=by
 rw[Array.all_eq_true_iff_forall_mem]at hx;refine⟨by simp,fun i a b ha hb=>?_⟩;rw[Array.getElem?_toList,Array.getElem?_map]at ha hb;cases hl:xs[i]? with
 |none=>rw[hl]at ha;cases ha
 |some z=>rw[hl]at ha hb;cases ha;cases hb;exact⟨rfl,h z.2 (hx z (Array.mem_of_getElem? hl))⟩
def Ou(S:FuncId->Bool)(ρ:Nat->Option Nat)(n n':Next):Prop:=
 (∃v v',n=.value v/\n'=.value v'/\VR (fun f=>S f=true) ρ v v')\/(n=.skip/\n'=.skip)\/∃f a a',n=.enter f a/\n'=.enter f a'/\S f=true/\AR (fun f=>S f=true) ρ a a'
theorem SR.value{x y:Sem Value}(h:SR P (fun f=>S f=true) ro ρ x y fun ρ' a b=>VR (fun f=>S f=true) ρ' a b):SR P (fun f=>S f=true) ro ρ (do Pure.pure (.value (<-x)):Sem Next) (do Pure.pure (.value (<-y)):Sem Next) (Ou S):=
 SR.bind h fun _ a b _ hab=>SR.pure (.inl ⟨a,b,rfl,rfl,hab⟩)
theorem SR.unit{x y:Sem Unit}(h:SR P (fun f=>S f=true) ro ρ x y fun _ _ _=>True):SR P (fun f=>S f=true) ro ρ (do x;Pure.pure .skip:Sem Next) (do y;Pure.pure .skip:Sem Next) (Ou S):=
 SR.bind h fun _ a b _ hab=>SR.pure (.inr (.inl ⟨rfl,rfl⟩))
theorem SR.loadAt(t:TypeId)(h:VR (fun f=>S f=true) ρ v v'):SR P (fun f=>S f=true) ro ρ (Instr.loadAt t v) (Instr.loadAt t v') fun ρ' a b=>VR (fun f=>S f=true) ρ' a b:=by
 unfold Instr.loadAt;exact SR.bind (SR.sureAddr h) fun _ a b _ hab=>SR.loadVar t hab
theorem SR.storeAt(t:TypeId)(h:VR (fun f=>S f=true) ρ v v')(k:VR (fun f=>S f=true) ρ u u'):SR P (fun f=>S f=true) ro ρ (Instr.storeAt t v u) (Instr.storeAt t v' u') fun _ _ _=>True:=by
 unfold Instr.storeAt;exact SR.bind (SR.sureAddr h) fun _ a b he hab=>SR.storeVar t hab (k.mono he)
theorem SR.unary(op:UnOp)(h:VR (fun f=>S f=true) ρ v v'):SR P (fun f=>S f=true) ro ρ (Op.unary op v) (Op.unary op v') fun ρ' a b=>VR (fun f=>S f=true) ρ' a b:=by
 have ao:∀(y:Sem Value) V,SR P (fun f=>S f=true) ro ρ (Go.unsupported .addressObserved:Sem Value) y V:=fun _ _=>SR.unsupported trivial
 cases h<;>cases op<;>first|exact SR.stuck|exact ao _ _|exact SR.pure (.int _ _)|exact SR.pure (.bool _)
theorem SR.convert{s d:TypeId}{k k':IntKind}(hs:P.underlying s=some (.int k))(hd:P.underlying d=some (.int k'))(h:VR (fun f=>S f=true) ρ v v'):SR P (fun f=>S f=true) ro ρ (Go.convert s d v) (Go.convert s d v') fun ρ' a b=>VR (fun f=>S f=true) ρ' a b:=by
 unfold Go.convert;refine SR.bind (SR.underlying s) fun dI x x' he₁ hx=>?_
 obtain⟨rfl,hx⟩:=hx;rw[hs]at hx;cases hx;refine SR.bind (SR.underlying d) fun fM y y' he₂ hy=>?_
 obtain⟨rfl,hy⟩:=hy;rw[hd]at hy;cases hy;have ao:∀(y:Sem Value) V,SR P (fun f=>S f=true) ro fM (Go.unsupported .addressObserved:Sem Value) y V:=fun _ _=>SR.unsupported trivial
 have an:∀(y:Sem Value) V,SR P (fun f=>S f=true) ro fM (Go.unsupported (.noEntry "convert/other"):Sem Value) y V:=fun _ _=>SR.unsupported trivial
 cases h<;>dsimp only<;>first|exact SR.pure (.int _ _)|exact ao _ _|exact an _ _|exact SR.stuck
theorem SR.makeSlice{t:TypeId}(hz:JV P (fun f=>S f=true) t)(h:VR (fun f=>S f=true) ρ v v')(k:VR (fun f=>S f=true) ρ u u'):SR P (fun f=>S f=true) ro ρ (Instr.makeSlice t v u) (Instr.makeSlice t v' u') fun ρ' a b=>VR (fun f=>S f=true) ρ' a b:=by
 unfold Instr.makeSlice;refine SR.bind (SR.underlying t) fun dI d d' he₁ hd=>?_
 obtain⟨rfl,hu⟩:=hd;cases d with
 |slice elem=>
  dsimp only;refine SR.bind (SR.asInt (h.mono he₁)) fun fM l l' he₂ e=>?_
  subst e;refine SR.bind (SR.asInt ((k.mono he₁).mono he₂)) fun iK c c' fJ e=>?_
  subst e;refine SR.bind (SR.typeInfo elem) fun qW i i' kT e=>?_
  obtain⟨rfl,hi⟩:=e;have tail:∀ug,SR P (fun f=>S f=true) ro ug (do
    Go.askRoom ((IntKind.i64.wrap c).toNat*i.bytes)
    let n:=(IntKind.i64.wrap c).toNat*(<-Go.sizeOf elem)
    let zero<-if n=0 then Pure.pure #[]else do Pure.pure (<-Go.zeroValue elem).cells
    let a<-Go.newRow elem ((Array.range n).map (zero[·%zero.size]!))
    Pure.pure (.slice (some a) (IntKind.i64.wrap l).toNat (IntKind.i64.wrap c).toNat):Sem Value) (do
    Go.askRoom ((IntKind.i64.wrap c).toNat*i.bytes)
    let n:=(IntKind.i64.wrap c).toNat*(<-Go.sizeOf elem)
    let zero<-if n=0 then Pure.pure #[]else do Pure.pure (<-Go.zeroValue elem).cells
    let a<-Go.newRow elem ((Array.range n).map (zero[·%zero.size]!))
    Pure.pure (.slice (some a) (IntKind.i64.wrap l).toNat (IntKind.i64.wrap c).toNat):Sem Value) fun ρ' a b=>VR (fun f=>S f=true) ρ' a b:=by
   intro ug;refine SR.bind (SR.askRoom _) fun Gp _ _ rO _=>?_
   refine SR.bind (SR.sizeOf elem) fun J6 m m' BQ e=>?_
   subst e;dsimp only;have fin:∀(uF:Nat->Option Nat) (z z':Array Value),AR (fun f=>S f=true) uF z z'->SR P (fun f=>S f=true) ro uF (do
     let a<-Go.newRow elem ((Array.range ((IntKind.i64.wrap c).toNat*m)).map (z[·%z.size]!))
     Pure.pure (.slice (some a) (IntKind.i64.wrap l).toNat (IntKind.i64.wrap c).toNat):Sem Value) (do
     let a<-Go.newRow elem ((Array.range ((IntKind.i64.wrap c).toNat*m)).map (z'[·%z'.size]!))
     Pure.pure (.slice (some a) (IntKind.i64.wrap l).toNat (IntKind.i64.wrap c).toNat):Sem Value) fun ρ' a b=>VR (fun f=>S f=true) ρ' a b:=
    fun uF z z' hzz=>SR.bind (SR.newRow (uG hzz _)) fun _ a b _ hab=>SR.pure (hab.slice _ _)
   split
   ·exact SR.bind (SR.pure (V:=fun ρ' a b=>AR (fun f=>S f=true) ρ' a b) AR.empty) fun uF z z' _ hzz=>fin uF z z' hzz
   ·exact SR.bind (SR.zeroValue (hz _ hu)) fun J6 a b _ hab=>SR.bind (SR.pure (V:=fun ρ' a b=>AR (fun f=>S f=true) ρ' a b) hab.cells) fun uF z z' _ hzz=>fin uF z z' hzz
  split
  ·split
   ·exact SR.oN
   ·split
    ·exact SR.oN
    ·exact SR.never (Never.after (fun s h s' e=>Calm.choose _ s h s' e) fun _=>Never.bind (Never.panic _))
  ·exact tail qW
 |_=>exact SR.stuck
theorem SR.ofValue{args args':Array Value}(h:VR (fun f=>S f=true) ρ v v')(ha:AR (fun f=>S f=true) ρ args args'):SR P (fun f=>S f=true) ro ρ (Deferred.ofValue v args) (Deferred.ofValue v' args') fun ρ' d d'=>
  (d.target=.nil/\d'.target=.nil)\/∃f c c',d.target=.fn (.func f) c/\d'.target=.fn (.func f) c'/\S f=true/\AR (fun f=>S f=true) ρ' (d.args++c) (d'.args++c'):=by
 cases h with
 |nilFunc=>exact SR.pure (.inl ⟨rfl,rfl⟩)
 |func hf hx hy h1 h2=>exact SR.pure (.inr ⟨_,_,_,rfl,rfl,hf,((AR.mk hx h1).append ha).append (AR.mk hy h2)⟩)
 |_=>exact SR.stuck
def JX(P:Program)(S:FuncId->Bool):Prop:=∀f,S f=true->∃fn,P.funcs[f]?=some fn/\fn.body.isNone=false/\(fn.name== "runtime.NumGoroutine")=false
theorem SR.callFunc{f:FuncId}{args args':Array Value}(B:JX P S)(hf:S f=true)(ha:AR (fun f=>S f=true) ρ args args'):SR P (fun f=>S f=true) ro ρ (Go.callFunc f args) (Go.callFunc f args') (Ou S):=by
 unfold Go.callFunc;refine SR.bind SR.program fun dI p p' he₁ hp=>?_
 obtain⟨rfl,rfl⟩:=hp;obtain⟨fn,h1,h2,h3⟩:=B f hf;simp only[h1,h2,h3,Bool.false_eq_true,if_false];exact SR.pure (.inr (.inr ⟨f,args,args',rfl,rfl,hf,ha.mono he₁⟩))
theorem SR.aO1{e e':Operand->Value}(B:JX P S)(h:EvR S ρ e e'){c:Call}{t:TypeId}(hc:Y5 P S c=true):
  SR P (fun f=>S f=true) ro ρ (do let d<-Go.resolve e c t;Go.invoke d.target d.args:Sem Next) (do let d<-Go.resolve e' c t;Go.invoke d.target d.args:Sem Next) (Ou S):=by
 unfold Y5 at hc;simp only[Bool.and_eq_true]at hc;have ha:=h.args hc.1;unfold Go.resolve;cases hk:c.callee with
 |value f=>
  rw[hk]at hc;dsimp only;refine SR.bind (SR.ofValue (h f hc.2) ha) fun dI d d' he₁ hd=>?_
  rcases hd with⟨h1,h2⟩|⟨g,x,x',h1,h2,hg,hx⟩
  ·rw[h1,h2];unfold Go.invoke;exact SR.panic
  ·rw[h1,h2];unfold Go.invoke;exact SR.callFunc B hg hx
 |builtin b=>
  rw[hk]at hc;cases b with
  |len=>
   dsimp only;refine SR.bind (SR.pure (V:=fun ρ' d d'=>∃ks,d=⟨.builtin .len c.argTypes t ks,c.args.map e⟩/\d'=⟨.builtin .len c.argTypes t ks,c.args.map e'⟩) ⟨_,rfl,rfl⟩) fun dI d d' he₁ hd=>?_
   obtain⟨ks,rfl,rfl⟩:=hd;unfold Go.invoke Go.builtin;refine SR.value (SR.len (ha.mono he₁) ?_);have:=hc.2;simp only[ba8]at this;cases h0:c.argTypes[0]? with
   |none=>rw[h0]at this;cases this
   |some t0=>
    rw[h0]at this;simp only at this;cases hu:P.underlying t0 with
    |none=>rw[hu]at this;cases this
    |some d=>
     rw[hu]at this;cases d<;>first|exact⟨t0,_,rfl,hu,.inl rfl⟩|exact⟨t0,_,rfl,hu,.inr ⟨_,rfl⟩⟩|cases this
  |append=>
   dsimp only;refine SR.bind (SR.pure (V:=fun ρ' d d'=>∃ks,d=⟨.builtin .append c.argTypes t ks,c.args.map e⟩/\d'=⟨.builtin .append c.argTypes t ks,c.args.map e'⟩) ⟨_,rfl,rfl⟩) fun dI d d' he₁ hd=>?_
   obtain⟨ks,rfl,rfl⟩:=hd;unfold Go.invoke Go.builtin;have:=hc.2;simp only[bm0,Bool.and_eq_true]at this;refine SR.value (SR.append (ha.mono he₁) (fun t0 h0=>?_) (fun t1 d h1 hu kk e=>?_))
   ·have h:=this.1;rw[h0]at h;exact Fe h
   ·have h:=this.2;rw[h1]at h;simp only[hu,e]at h;cases h
  |copy=>
   dsimp only;refine SR.bind (SR.pure (V:=fun ρ' d d'=>∃ks,d=⟨.builtin .copy c.argTypes t ks,c.args.map e⟩/\d'=⟨.builtin .copy c.argTypes t ks,c.args.map e'⟩) ⟨_,rfl,rfl⟩) fun dI d d' he₁ hd=>?_
   obtain⟨ks,rfl,rfl⟩:=hd;unfold Go.invoke Go.builtin;exact SR.value (SR.copy (ha.mono he₁))
  |_=>cases hc.2
 |invoke a b=>rw[hk]at hc;cases hc.2
theorem SR.exec{e e':Operand->Value}(B:JX P S)(h:EvR S ρ e e'){o:Oper}(ho:UF P S o=true):SR P (fun f=>S f=true) ro ρ (execOp e o) (execOp e' o) (Ou S):=by
 unfold UF at ho;unfold execOp;cases hop:o.op with
 |move x=>rw[hop]at ho;exact SR.pure (.inl ⟨_,_,rfl,rfl,h x ho⟩)
 |assign x=>rw[hop]at ho;exact SR.pure (.inl ⟨_,_,rfl,rfl,h x ho⟩)
 |pick c a b=>
  rw[hop]at ho;simp only[Bool.and_eq_true]at ho;refine SR.bind (SR.asBool (h c ho.1.1)) fun dI x y he₁ e=>?_
  subst e;refine SR.pure (.inl ⟨_,_,rfl,rfl,?_⟩);split
  ·exact(h a ho.1.2).mono he₁
  ·exact(h b ho.2).mono he₁
 |alloc t=>rw[hop]at ho;exact SR.value (SR.alloc (DX ho))
 |box t x=>rw[hop]at ho;exact SR.value (SR.box (h x ho))
 |build t ps=>
  rw[hop]at ho;simp only[Bool.and_eq_true]at ho;exact SR.value (SR.build (DX ho.1) (h.parts ho.2))
 |buildSlice t n ps=>
  rw[hop]at ho;simp only[Bool.and_eq_true]at ho;exact SR.value (SR.buildSlice (Fe ho.1) (h.parts ho.2))
 |load t x=>rw[hop]at ho;exact SR.value (SR.loadAt t (h x ho))
 |store t a x=>
  rw[hop]at ho;simp only[Bool.and_eq_true]at ho;exact SR.unit (SR.storeAt t (h a ho.1) (h x ho.2))
 |nilCheck x=>
  rw[hop]at ho;have hh:=h x ho;dsimp only;generalize e x=v at hh;generalize e' x=v' at hh;have h2:=hh;cases hh<;>dsimp only<;>first|exact SR.panic|exact SR.pure (.inl ⟨_,_,rfl,rfl,h2⟩)
 |binOp op t x y t'=>
  rw[hop]at ho;simp only[Bool.and_eq_true,Bool.not_eq_true']at ho;refine SR.value ?_;exact SR.bind (SR.eqGuard ho.1.1.2 ho.1.1.1) fun dI _ _ he₁ _=>SR.binOp ho.1.1.1 ((h x ho.1.2).mono he₁) ((h y ho.2).mono he₁)
 |unOp op t x=>rw[hop]at ho;exact SR.value (SR.unary op (h x ho))
 |convert s d x=>
  rw[hop]at ho;simp only[Bool.and_eq_true]at ho;refine SR.value ?_;cases hs:P.underlying s with
  |none=>rw[hs]at ho;cases ho.1
  |some a=>
   cases hd:P.underlying d with
   |none=>rw[hs,hd]at ho;cases a<;>cases ho.1
   |some b=>
    rw[hs,hd]at ho;cases a<;>cases b<;>first|exact SR.convert hs hd (h x ho.2)|cases ho.1
 |makeFunc f x y=>
  rw[hop]at ho;cases f with
  |func f=>
   simp only[Bool.and_eq_true]at ho;exact SR.value (SR.makeFunc (S:=(fun f=>S f=true)) ho.1.1 (h.args ho.1.2) (h.args ho.2))
  |_=>cases ho
 |makeSlice t l c=>
  rw[hop]at ho;simp only[Bool.and_eq_true]at ho;exact SR.value (SR.makeSlice (Fe ho.1.1) (h l ho.1.2) (h c ho.2))
 |fieldAddr t x f=>rw[hop]at ho;exact SR.value (SR.fieldAt (h x ho) f)
 |field t x f=>rw[hop]at ho;exact SR.value (SR.field (h x ho) f)
 |indexAddr t x y=>
  rw[hop]at ho;simp only[Bool.and_eq_true]at ho;exact SR.value (SR.indexAt (h x ho.1) (h y ho.2))
 |index t x y=>
  rw[hop]at ho;simp only[Bool.and_eq_true]at ho;exact SR.value (SR.index (h x ho.1) (h y ho.2))
 |extract x i=>rw[hop]at ho;exact SR.value (SR.extract (h x ho) i)
 |call c=>rw[hop]at ho;exact SR.aO1 B h ho
 |_=>rw[hop]at ho;cases ho
end
end
section
open Go.Conc
def CY:Nat->Bool:=fun _=>false
def BO(D:Nat->Bool):Operand->Bool
 |.tmp t=>!D t
 |_=>true
def av4(D:Nat->Bool)(c:Call):Bool:=c.args.all (BO D)&&match c.callee with
 |.value f=>BO D f
 |.builtin _=>true
 |_=>false
def opD(D:Nat->Bool)(o:Oper):Bool:=
 let k:=BO D
 (match o.dst with
 |some d=>!D d
 |none=>true)&&match o.op with
 |.move x|.assign x|.box _ x|.load _ x|.nilCheck x|.unOp _ _ x|.fieldAddr _ x _|.field _ x _|.extract x _=>k x
 |.pick c a b=>k c&&k a&&k b
 |.alloc _=>true
 |.build _ ps=>ps.all fun p=>k p.2
 |.buildSlice _ _ ps=>ps.all fun p=>k p.2
 |.store _ a x|.indexAddr _ a x|.index _ a x=>k a&&k x
 |.binOp _ _ x y _=>k x&&k y
 |.convert _ _ x=>k x
 |.makeFunc _ x y=>x.all k&&y.all k
 |.makeSlice _ l c=>k l&&k c
 |.call c=>av4 D c
 |_=>false
def resD(D:Nat->Bool):ResultVar->Bool
 |.tmp t=>!D t
 |.cell t _=>!D t
theorem yg{P:Program}{f:FuncId}(fn:Func)(_:P.funcs[f]?=some fn):fn.results.all (resD CY)=true:=by
 rw[Array.all_eq_true_iff_forall_mem];intro r _;cases r<;>rfl
def codeOk(P:Program)(S:FuncId->Bool)(D:Nat->Bool):Code->Bool
 |.skip|.label _|.exit _|.ret=>true
 |.region _ ops _=>ops.all fun o=>UF P S o&&opD D o
 |.seq a b=>codeOk P S D a&&codeOk P S D b
 |.cond c a b=>mQ S c&&BO D c&&codeOk P S D a&&codeOk P S D b
 |.block _ a|.loop a=>codeOk P S D a
 |_=>false
def AZ(P:Program)(S:FuncId->Bool)(D:Nat->Bool):Item->Bool
 |.code c|.inLoop c=>codeOk P S D c
 |.inBlock _=>true
 |.inRegion ops _=>ops.all fun o=>UF P S o&&opD D o
 |_=>false
def nV(D:Nat->Bool)(xs:Array Value):Array Value:=xs.mapIdx fun i v=>if D i then undef else v
def xG(D:Nat->Bool)(a:Act):Act:={a with tmps:=nV D a.tmps}
theorem vM(xs:Array Value):nV CY xs=xs:=by
 unfold nV CY;refine Array.ext (by simp) fun i h1 h2=>by simp
theorem Jb(D:Nat->Bool)(xs:Array Value){t:Nat}(h:D t=false):(nV D xs)[t]?=xs[t]?:=by
 unfold nV;rw[Array.getElem?_mapIdx];cases xs[t]? with
 |none=>rfl
 |some v=>simp[h]
theorem EI(D:Nat->Bool)(xs:Array Value){t:Nat}(h:D t=false):(nV D xs).getD t undef=xs.getD t undef:=by
 rw[Array.getD_eq_getD_getElem?,Array.getD_eq_getD_getElem?,Jb D xs h]
theorem kE{D:Nat->Bool}{a:Act}{x:Operand}(h:BO D x=true):(xG D a).eval x=a.eval x:=by
 cases x with
 |tmp t=>exact EI D a.tmps (by simpa [BO]using h)
 |_=>rfl
theorem SC(D:Nat->Bool)(a:Act)(d:Option Tmp)(v:Value)(h:(match d with|some d=>!D d|none=>true)=true):nV D (a.put d v).tmps=((xG D a).put d v).tmps:=by
 cases d with
 |none=>rfl
 |some d=>
  have hd:D d=false:=by simpa using h
  show nV D (a.tmps.setIfInBounds d v)=(nV D a.tmps).setIfInBounds d v;unfold nV;apply Array.ext_getElem?;intro j;simp only[Array.getElem?_mapIdx,Array.getElem?_setIfInBounds,Array.size_mapIdx];by_cases e:d=j
  ·subst e;by_cases hl:d<a.tmps.size<;>simp[hl,hd]
  ·simp[e]
theorem Ja{D:Nat->Bool}{a:Act}{xs:Array Operand}(h:xs.all (BO D)=true):xs.map (xG D a).eval=xs.map a.eval:=by
 rw[Array.all_eq_true_iff_forall_mem]at h;exact Array.map_congr_left fun x hx=>kE (h x hx)
theorem U0{D:Nat->Bool}{a:Act}{xs:Array (Nat×Operand)}(h:(xs.all fun p=>BO D p.2)=true):(xs.map fun(i,x)=>(i,(xG D a).eval x))=xs.map fun(i,x)=>(i,a.eval x):=by
 rw[Array.all_eq_true_iff_forall_mem]at h;exact Array.map_congr_left fun⟨i,x⟩ hx=>by show(i,_)=(i,_);rw[kE (h (i,x) hx)]
theorem MF{D:Nat->Bool}{a:Act}{o:Oper}(h:opD D o=true):execOp (xG D a).eval o=execOp a.eval o:=by
 unfold opD at h;simp only[Bool.and_eq_true]at h;obtain⟨-,h⟩:=h;unfold execOp;cases hop:o.op<;>rw[hop]at h<;>dsimp only at h ⊢<;>first
  |rfl
  |(cases h;done)
  |(rw[kE h])
  |(rw[U0 h])
  |(simp only[Bool.and_eq_true]at h;rw[kE h.1,kE h.2])
  |(simp only[Bool.and_eq_true]at h;rw[kE h.1.1,kE h.1.2,kE h.2])
  |(simp only[Bool.and_eq_true]at h;rw[Ja h.1,Ja h.2])
  |skip
 rename_i c;unfold av4 at h;simp only[Bool.and_eq_true]at h;obtain⟨h1,h2⟩:=h;unfold Go.resolve;rw[Ja h1];cases hc:c.callee with
 |value f=>rw[hc]at h2;dsimp only at h2 ⊢;rw[kE h2]
 |builtin b=>rfl
 |invoke r n=>rw[hc]at h2;cases h2
theorem BN{D:Nat->Bool}{xs:Array Value}{ops:Array Oper}(h:∀o∈ops,opD D o=true):yielded ops (nV D xs)=yielded ops xs:=by
 funext j;unfold yielded;cases ho:ops[j]? with
 |none=>rfl
 |some o=>
  have hD:=h o (Array.mem_of_getElem? ho);unfold opD at hD;simp only[Bool.and_eq_true]at hD;cases hd:o.dst with
  |none=>simp[hd]
  |some d=>
   rw[hd]at hD;simp only[Option.bind_some,hd];rw[Jb D xs (by simpa using hD.1)]
theorem qF{D:Nat->Bool}{xs:Array Value}{fn:Func}(h:fn.results.all (resD D)=true):Go.results fn (nV D xs)=Go.results fn xs:=by
 unfold Go.results;rw[Array.mapM_eq_mapM_toList];rw[Array.mapM_eq_mapM_toList];congr 1;congr 1;rw[Array.all_eq_true_iff_forall_mem]at h;have:∀l:List ResultVar,(∀r∈l,resD D r=true)->(l.mapM fun
   |.tmp t=>(Pure.pure ((nV D xs).getD t undef):Sem Value)
   |.cell x t=>do Go.loadVar t (<-Go.asAddr ((nV D xs).getD x undef)))=(l.mapM fun
   |.tmp t=>(Pure.pure (xs.getD t undef):Sem Value)
   |.cell x t=>do Go.loadVar t (<-Go.asAddr (xs.getD x undef))):=by
  intro l
  induction l with
  |nil=>intro _;rfl
  |cons r l ih=>
   intro hl;simp only[List.mapM_cons];rw[ih fun r hr=>hl r (by simp[hr])];have hr:=hl r (by simp);cases r with
   |tmp t=>dsimp only;rw[EI D xs (by simpa [resD]using hr)]
   |cell t ty=>dsimp only;rw[EI D xs (by simpa [resD]using hr)]
 exact this _ fun r hr=>h r (by simpa using hr)
def qh(P:Program)(S:FuncId->Bool):Prop:=∀f,S f=true->∃fn c,P.funcs[f]?=some fn/\fn.body=some c/\(fn.name== "runtime.NumGoroutine")=false/\codeOk P S CY c=true
theorem qh.body{P:Program}{S:FuncId->Bool}(h:qh P S):JX P S:=fun f hf=>by
 obtain⟨fn,c,h1,h2,h3,_⟩:=h f hf;exact⟨fn,h1,by rw[h2];rfl,h3⟩
section
variable(P:Program)(S:FuncId->Bool)
inductive FR(ρ:Nat->Option Nat)(D:Nat->Bool)(Ks K:List Item):Frame->Frame->Prop
 |run {b b':Frame} {a a':Act} (X:List Item) (hfn:b'.fn=b.fn) (hk:b.kind=.normal) (hk':b'.kind=.normal) (hd:a.defers=[]) (hd':a'.defers=[]) (hX:X.all (AZ P S D)=true) (ht:AR (fun f=>S f=true) ρ (nV D a.tmps) (nV D a'.tmps)) (hR:∀fn,P.funcs[b.fn]?=some fn->fn.results.all (resD D)=true):
   FR ρ D Ks K (b.at a (X++Ks)) (b'.at a' (X++K))
 |ret {b b':Frame} {a a':Act} {todo todo':List Item} (hfn:b'.fn=b.fn) (hk:b.kind=.normal) (hk':b'.kind=.normal) (hd:a.defers=[]) (hd':a'.defers=[]) (ht:AR (fun f=>S f=true) ρ (nV D a.tmps) (nV D a'.tmps)) (hR:∀fn,P.funcs[b.fn]?=some fn->fn.results.all (resD D)=true):
   FR ρ D Ks K {b.at a todo with mode:=.returning} {b'.at a' todo' with mode:=.returning}
inductive KR(D:Nat->Bool)(Ks K:List Item):(Nat->Option Nat)->List Frame->List Frame->Prop
 |one {ρ:Nat->Option Nat} {f f':Frame} (h:FR P S ρ D Ks K f f'):KR D Ks K ρ [f] [f']
 |cons {ρ:Nat->Option Nat} {f f' c c':Frame} {r r':List Frame} (h:FR P S ρ CY [] [] f f') (hS:S f.fn=true)
   (hp:∀ρ' v v',Ext ρ ρ'->VR (fun f=>S f=true) ρ' v v'->KR D Ks K ρ' (c.finish v::r) (c'.finish v'::r')):KR D Ks K ρ (f::c::r) (f'::c'::r')
end
def bW:Item:=.code (.refuse "")
def aA:Frame:={fn:=0,tmps:=#[],todo:=[bW],defers:=[{target:=.nil,args:=#[]}],mode:=.run,kind:=.normal}
def am8(Ks K:List Item):Prop:=(Ks=[]/\K=[])\/Ks=[bW]
section
variable{P:Program}{S:FuncId->Bool}{ro:Nat->Md}{ρ:Nat->Option Nat}{D:Nat->Bool}{Ks K:List Item}
theorem AR.put{a a':Act}(h:AR (fun f=>S f=true) ρ a.tmps a'.tmps)(d:Option Tmp){v v':Value}(hv:VR (fun f=>S f=true) ρ v v'):AR (fun f=>S f=true) ρ (a.put d v).tmps (a'.put d v').tmps:=by
 cases d with
 |none=>exact h
 |some d=>exact h.set d hv
theorem put_defers(a:Act)(d:Option Tmp)(v:Value):(a.put d v).defers=a.defers:=by cases d<;>rfl
theorem evR{a a':Act}(h:AR (fun f=>S f=true) ρ a.tmps a'.tmps):EvR S ρ a.eval a'.eval:=fun x hx=>by
 cases x with
 |tmp t=>exact h.getD t
 |const v=>exact mO 8 v hx
 |global g=>cases hx
 |func f=>exact .func (S:=(fun f=>S f=true)) hx rfl rfl (by simp) (by simp)
theorem J8{a a':Act}(h:AR (fun f=>S f=true) ρ a.tmps a'.tmps)(ops:Array Oper):yielded ops a.tmps=yielded ops a'.tmps:=by
 funext j;unfold yielded;cases hd:(ops[j]?).bind (·.dst)with
 |none=>rfl
 |some d=>
  simp only[Option.bind_some];cases hv:a.tmps[d]? with
  |none=>rw[h.none hv]
  |some v=>
   obtain⟨v',hv',hr⟩:=h.get hv;rw[hv'];cases hr with
   |junk _ _ hb=>cases v'<;>first|rfl|exact absurd rfl (hb _)
   |_=>rfl
theorem Mv.sub{G:Nat}{S:FuncId->Prop}{s w s' w':World}{ρ':Nat->Option Nat}{es es':Array Event}(h:Mv G S ro ρ s w ρ' s' w' es)(k:∀e∈es',e∈es):Mv G S ro ρ s w ρ' s' w' es':=
 {h with evs:=fun e he=>h.evs e (k e he)}
def Bad(st:GStep)(cs:List Frame):Prop:=(∃o w es,st=.ended o w es)\/∃fr w es chain,st=.go (G fr cs) w es/\fr.mode=.panicking chain/\fr.defers=[]
variable(P) in
def Qw(g g1:Goroutine)(s s1:World)(es:Array Event):Prop:=s1.tape=s.tape/\∃c,s1.drawn=s.drawn+c/\
  ∀τ d,(∀j,j<c->τ (d+j)=s.tape (s.drawn+j))->stepG P true g (World.on s τ d)=.go g1 (World.on s1 τ (d+c)) es
variable(P S) in
def GoodS(ro:Nat->Md)(ρ:Nat->Option Nat)(D:Nat->Bool)(Ks K:List Item)(f:Frame)(base:List Frame)(f':Frame)(base':List Frame)(s w:World):Prop:=
 ∃(g:Frame) (b2:List Frame) (s1:World) (es1:Array Event),stepG P true (G f (base++[aA])) s=.go (G g (b2++[aA])) s1 es1/\Qw P (G f (base++[aA])) (G g (b2++[aA])) s s1 es1/\
  ∃(g':Frame) (b2':List Frame) (w1:World) (xu:Nat->Option Nat) (es:Array Event),(∀main tail,stepG P main (G f' (base'++tail)) w=.go (G g' (b2'++tail)) w1 es)/\KR P S D Ks K xu (g::b2) (g'::b2')/\Mv P.globals.size (fun f=>S f=true) ro ρ s w xu s1 w1 es
theorem yJ{id:Nat}(hK:Ks=[]\/Ks=[bW]):∀(X:List Item) {k':List Item},exitTo id (X++Ks)=some k'->∃Y,k'=Y++Ks/\(∀K,exitTo id (X++K)=some (Y++K))/\∀y∈Y,y∈X
 |[],k',h=>by
  rcases hK with rfl|rfl<;>simp[exitTo,bW]at h
 |x::X,k',h=>by
  cases x with
  |inBlock i=>
   simp only[List.cons_append,exitTo]at h;by_cases hi:(i==id)=true
   ·rw[if_pos hi]at h;cases h;exact⟨X,rfl,fun K=>by simp only[List.cons_append,exitTo];rw[if_pos hi],fun y hy=>by simp[hy]⟩
   ·rw[if_neg hi]at h;obtain⟨Y,h1,h2,h3⟩:=yJ hK X h;exact⟨Y,h1,fun K=>by simp only[List.cons_append,exitTo];rw[if_neg hi];exact h2 K,fun y hy=>by simp[h3 y hy]⟩
  |_=>
   simp only[List.cons_append,exitTo]at h;obtain⟨Y,h1,h2,h3⟩:=yJ hK X h;exact⟨Y,h1,fun K=>by simp only[List.cons_append,exitTo];exact h2 K,fun y hy=>by simp[h3 y hy]⟩
theorem lQ{main:Bool}{b:Frame}{a:Act}{w w':World}{cs:List Frame}{fn:Func}{todo:List Item}{c:Frame}{v:Value}(hn:b.kind=.normal)(hd:a.defers=[])(hf:P.funcs[b.fn]?=some fn)
  (hr:(results fn a.tmps).run P w=.ok v w'):
  stepG P main (G {b.at a todo with mode:=.returning} (c::cs)) w=.go (G (c.finish v) cs) w' (seen P b.fn ((results fn a.tmps).events P w #[])):=by
 simp[G,stepG,unwind,doReturn,Frame.at,hn,hd,hf,hr,GStep.after]
theorem IB{main:Bool}{b:Frame}{a:Act}{w w':World}{cs:List Frame}{fn:Func}{todo:List Item}{h:Halt}(hn:b.kind=.normal)(hd:a.defers=[])(hf:P.funcs[b.fn]?=some fn)
  (hr:(results fn a.tmps).run P w=.halt h w'):∃o es,stepG P main (G {b.at a todo with mode:=.returning} cs) w=.ended o w' es:=by
 cases h<;>simp[G,stepG,unwind,Frame.at,hn,hd,hf,hr,GStep.after]
theorem SR.results{a a':Act}(h:AR (fun f=>S f=true) ρ a.tmps a'.tmps)(fn:Func):SR P (fun f=>S f=true) ro ρ (Go.results fn a.tmps) (Go.results fn a'.tmps) fun ρ' v v'=>VR (fun f=>S f=true) ρ' v v':=by
 unfold Go.results;have key:∀(l:List ResultVar) (ρ:Nat->Option Nat),AR (fun f=>S f=true) ρ a.tmps a'.tmps->SR P (fun f=>S f=true) ro ρ (l.mapM fun
   |.tmp t=>(Pure.pure (a.tmps.getD t undef):Sem Value)
   |.cell x t=>do Go.loadVar t (<-Go.asAddr (a.tmps.getD x undef))) (l.mapM fun
   |.tmp t=>(Pure.pure (a'.tmps.getD t undef):Sem Value)
   |.cell x t=>do Go.loadVar t (<-Go.asAddr (a'.tmps.getD x undef))) fun ρ' x y=>AR (fun f=>S f=true) ρ' x.toArray y.toArray:=by
  intro l
  induction l with
  |nil=>intro ρ _;simp only[List.mapM_nil];exact SR.pure AR.empty
  |cons r l ih=>
   intro ρ h;simp only[List.mapM_cons];refine SR.bind (V:=fun ρ' x y=>VR (fun f=>S f=true) ρ' x y) ?_ fun dI x y he₁ hxy=>?_
   ·cases r with
    |tmp t=>exact SR.pure (h.getD t)
    |cell x t=>exact SR.bind (SR.asAddr (h.getD x)) fun _ _ _ _ hab=>SR.loadVar t hab
   ·refine SR.bind (ih dI (h.mono he₁)) fun fM xs ys he₂ hh=>?_
    refine SR.pure ?_;have:=(AR.one (hxy.mono he₂)).append hh
    simpa using this
 rw[Array.mapM_eq_mapM_toList];rw[Array.mapM_eq_mapM_toList];refine SR.bind (V:=fun ρ' x y=>AR (fun f=>S f=true) ρ' x y) ?_ fun dI x y he₁ hxy=>?_
 ·exact SR.bind (key _ ρ h) fun dI x y _ hh=>SR.pure hh
 ·refine SR.pure ?_;by_cases hs:x.size=1
  ·have hs':y.size=1:=by rw[<-hxy.size];exact hs
   rw[dif_pos hs,dif_pos hs'];exact hxy.at_ 0 _ _ (by simp[hs]) (by simp[hs'])
  ·have hs':¬y.size=1:=by rw[<-hxy.size];exact hs
   rw[dif_neg hs,dif_neg hs'];exact VR.tuple' hxy
theorem Ec(F:qh P S)(hKs:am8 Ks K){f f':Frame}{base base':List Frame}{s w:World}(h:KR P S D Ks K ρ (f::base) (f'::base'))(hr:HR P.globals.size (fun f=>S f=true) ro ρ s w)(ht:s.tape=w.tape)(hd:s.drawn=w.drawn)(hro:∀b,s.heap.size<=b->ro b=.all):
  GoodS P S ro ρ D Ks K f base f' base' s w\/(base=[]/\f.mode=.returning)\/Bad (stepG P true (G f (base++[aA])) s) (base++[aA]):=by
 have refl:=Mv.refl (ro:=ro) (S:=(fun f=>S f=true)) hr ht hd;have ctl:∀{g g':Frame},(∀s,stepG P true (G f (base++[aA])) s=.go (G g (base++[aA])) s #[])->(∀main tail,stepG P main (G f' (base'++tail)) w=.go (G g' (base'++tail)) w #[])->KR P S D Ks K ρ (g::base) (g'::base')->GoodS P S ro ρ D Ks K f base f' base' s w:=
  fun h1 h2 h3=>⟨_,base,s,#[],h1 s,⟨rfl,0,rfl,fun τ d _=>h1 _⟩,_,base',w,ρ,#[],h2,h3,refl⟩
 obtain⟨uf,fZ,tY,hf,Ns,reb⟩:∃uf fZ tY,FR P S ρ uf fZ tY f f'/\am8 fZ tY/\∀ρ' g g',Ext ρ ρ'->g.fn=f.fn->FR P S ρ' uf fZ tY g g'->KR P S D Ks K ρ' (g::base) (g'::base'):=by
  cases h with
  |one h=>exact⟨_,_,_,h,hKs,fun _ _ _ _ _ h=>.one h⟩
  |cons h hS hp=>exact⟨_,_,_,h,.inl ⟨rfl,rfl⟩,fun ρ' g g' e hfn h=>.cons h (by rw[hfn];exact hS) fun fM v v' e2 hv=>hp fM v v' (e.trans e2) hv⟩
 cases hf with
 | @ret b b' a a' todo todo' hfn hk hk' hda oC hta hR=>
  cases h with
  |one _=>exact .inr (.inl ⟨rfl,rfl⟩)
  |cons h hS hp=>
   rename_i c c' r r';obtain⟨fn,code,Di,-⟩:=F _ hS;have Di:P.funcs[b.fn]?=some fn:=Di;have hfn2:P.funcs[b'.fn]?=some fn:=by rw[hfn];exact Di
   have e1:=qF (xs:=a.tmps) (hR fn Di);have e2:=qF (xs:=a'.tmps) (hR fn Di);obtain⟨k1,k2,k3⟩:=SR.results (P:=P) (ro:=ro) (a:=xG uf a) (a':=xG uf a') hta fn s w hr ht hd hro;simp only[xG]at k1 k2 k3;rw[e1]at k1 k2 k3;rw[e2]at k1;cases hres:(Go.results fn a.tmps).run P s with
   |halt hh s1=>
    obtain⟨o,es,e⟩:=IB (main:=true) (todo:=todo) (cs:=c::(r++[aA])) hk hda Di hres;exact .inr (.inr (.inl ⟨_,_,_,e⟩))
   |ok v s1=>
    obtain⟨xu,v',w1,h1,h2,h3⟩:=k1 v s1 hres;obtain⟨l1,n,l2,l3⟩:=k3 v s1 hres;exact .inl ⟨c.finish v,r,s1,_,lQ hk hda Di hres,⟨l1,n,l2,fun τ d nO=>by have:=lQ (main:=true) (todo:=todo) (cs:=r++[aA]) (c:=c) hk hda Di (l3 τ d nO).1;rw[(l3 τ d nO).2]at this;exact this⟩,c'.finish v',r',w1,xu,_,fun main tail=>lQ hk' oC hfn2 h1,hp xu v v' h2.ext h3,h2.sub fun e he=>mem_seen he⟩
 | @run b b' a a' X hfn hk hk' hda oC hX hta hR=>
  have hke:b.kind≠ .early:=by rw[hk];simp
  have aJ3:b'.kind≠ .early:=by rw[hk'];simp
  have top:∀{ρ':Nat->Option Nat} {a2 a2':Act} (X2:List Item),Ext ρ ρ'->a2.defers=[]->a2'.defers=[]->X2.all (AZ P S uf)=true->AR (fun f=>S f=true) ρ' (nV uf a2.tmps) (nV uf a2'.tmps)->KR P S D Ks K ρ' (b.at a2 (X2++fZ)::base) (b'.at a2' (X2++tY)::base'):=
   fun X2 e d1 d2 hx hh=>reb _ _ _ e rfl (.run X2 hfn hk hk' d1 d2 hx hh hR)
  have ret:∀{todo todo':List Item},KR P S D Ks K ρ ({b.at a todo with mode:=.returning}::base) ({b'.at a' todo' with mode:=.returning}::base'):=
   reb _ _ _ (.refl _) rfl (.ret hfn hk hk' hda oC hta hR)
  have aK5:fZ=[]\/fZ=[bW]:=Ns.imp (·.1) id;cases X with
  |nil=>
   rcases Ns with⟨rfl,rfl⟩|rfl
   ·exact .inl (ctl (fun _=>stepG_end) (fun _ _=>stepG_end) ret)
   ·refine .inr (.inr (.inl ?_));exact⟨_,_,_,by simp[G,stepG,stepG.exec,Frame.at,bW];exact⟨rfl,rfl,rfl⟩⟩
  |cons x X=>
   simp only[List.all_cons,Bool.and_eq_true]at hX;obtain⟨hx,hX⟩:=hX;have pop:AR (fun f=>S f=true) ρ (xG uf a).tmps (xG uf a').tmps:=hta;cases x with
   |code c=>
    have one:∀{c1:Code},codeOk P S uf c1=true->(Item.code c1::X).all (AZ P S uf)=true:=fun h1=>by simp only[List.all_cons,Bool.and_eq_true];exact⟨h1,hX⟩
    cases c with
    |skip=>exact .inl (ctl (fun _=>stepG_skip) (fun _ _=>stepG_skip) (top X (.refl _) hda oC hX hta))
    |label l=>exact .inl (ctl (fun _=>stepG_label) (fun _ _=>stepG_label) (top X (.refl _) hda oC hX hta))
    |ret=>exact .inl (ctl (fun _=>stepG_ret') (fun _ _=>stepG_ret') ret)
    |seq c1 c2=>
     simp only[AZ,codeOk,Bool.and_eq_true]at hx;exact .inl (ctl (fun _=>stepG_seq) (fun _ _=>stepG_seq) (top (.code c1:: .code c2::X) (.refl _) hda oC (by simp only[List.all_cons,Bool.and_eq_true];exact⟨hx.1,hx.2,hX⟩) hta))
    |block id c1=>exact .inl (ctl (fun _=>stepG_block) (fun _ _=>stepG_block) (top (.code c1:: .inBlock id::X) (.refl _) hda oC (by simp only[List.all_cons,Bool.and_eq_true];exact⟨hx,rfl,hX⟩) hta))
    |loop c1=>exact .inl (ctl (fun _=>stepG_loop) (fun _ _=>stepG_loop) (top (.code c1:: .inLoop c1::X) (.refl _) hda oC (by simp only[List.all_cons,Bool.and_eq_true];exact⟨hx,hx,hX⟩) hta))
    |cond q c1 c2=>
     simp only[AZ,codeOk,Bool.and_eq_true]at hx;have hv:=evR pop q hx.1.1.1;rw[kE hx.1.1.2,kE hx.1.1.2]at hv;have dead:(∀t,a.eval q≠ .bool t)->Bad (stepG P true (G (b.at a (.code (.cond q c1 c2)::X++fZ)) (base++[aA])) s) (base++[aA]):=fun hn=>by
      refine .inl ?_;have he:(b.at a (.code (.cond q c1 c2)::(X++fZ))).eval q=a.eval q:=Frame.eval_at _ _ _ _;simp only[Frame.at]at he;cases hq:a.eval q<;>first
       |exact absurd hq (hn _)
       |(rw[hq]at he;exact⟨_,_,_,by simp[G,stepG,stepG.exec,Frame.at,he];exact⟨rfl,rfl,rfl⟩⟩)
     cases hq:a.eval q with
     |bool t=>
      rw[hq]at hv;have hq':a'.eval q=.bool t:=by
       generalize a'.eval q=z at hv;cases hv;rfl
      exact .inl (ctl (fun _=>stepG_cond hq) (fun _ _=>stepG_cond hq') (top (.code (if t then c1 else c2)::X) (.refl _) hda oC (by cases t<;>simp only[List.all_cons,Bool.and_eq_true]<;>first|exact⟨hx.1.2,hX⟩|exact⟨hx.2,hX⟩) hta))
     |_=>exact .inr (.inr (dead fun t e=>by rw[hq]at e;cases e))
    |exit id=>
     cases he:exitTo id (X++fZ)with
     |none=>
      refine .inr (.inr (.inl ?_));exact⟨_,_,_,by simp[G,stepG,stepG.exec,Frame.at,he];exact⟨rfl,rfl,rfl⟩⟩
     |some k'=>
      obtain⟨Y,rfl,h2,h3⟩:=yJ aK5 X he;refine .inl (ctl (fun _=>stepG_exit he) (fun _ _=>stepG_exit (h2 tY)) (top Y (.refl _) hda oC ?_ hta));rw[List.all_eq_true]at hX ⊢;exact fun y hy=>hX y (h3 y hy)
    |region id ops draw=>
     cases draw with
     |false=>exact .inl (ctl (fun _=>stepG_region) (fun _ _=>stepG_region) (top (.inRegion ops (List.range ops.size)::X) (.refl _) hda oC (by simp only[List.all_cons,Bool.and_eq_true];exact⟨hx,hX⟩) hta))
     |true=>
      have e:b'.fn=b.fn:=hfn;refine .inl ⟨_,base,_,_,stepG_region_draw,⟨rfl,1,rfl,fun τ d nO=>by
       have e:=nO 0 (by omega);simp only[Nat.add_zero]at e;refine(stepG_region_draw (P:=P) (main:=true) (b:=b) (a:=a) (k:=X++fZ) (cs:=base++[aA]) (w:=World.on s τ d) (id:=id) (ops:=ops)).trans ?_;show GStep.go (G (b.at a (.inRegion ops (Region.schedule _ ops (τ d (.order b.fn id)))::(X++fZ))) _) _ _=_;rw[e];rfl⟩,b'.at a' (.inRegion ops (Region.schedule (P.follows .mixedOrders) ops (s.tape s.drawn (.order b.fn id)))::(X++tY)),base',{w with drawn:=w.drawn+1},ρ,#[],fun main tail=>?_,top (.inRegion ops _::X) (.refl _) hda oC (by simp only[List.all_cons,Bool.and_eq_true];exact⟨hx,hX⟩) hta,?_⟩
      ·rw[ht,hd,<-e];exact stepG_region_draw
      ·exact⟨.refl _,⟨hr.inj,hr.row,hr.hole,hr.low,hr.gs,hr.gw⟩,ht,by simp[hd],rfl,rfl,rfl,Nat.le_refl _,fun _ _ _=>rfl,fun _ _ _ _ _ cs _ _ hc=>⟨cs,hc,rfl,fun _ _=>rfl⟩,fun _ _ h=>.inl h,by simp,Nat.le_refl _,rfl,rfl,fun a b=>⟨a,b⟩⟩
    |_=>cases hx
   |inBlock id=>exact .inl (ctl (fun _=>stepG_inBlock) (fun _ _=>stepG_inBlock) (top X (.refl _) hda oC hX hta))
   |inLoop c=>exact .inl (ctl (fun _=>stepG_inLoop) (fun _ _=>stepG_inLoop) (top (.code c:: .inLoop c::X) (.refl _) hda oC (by simp only[List.all_cons,Bool.and_eq_true];exact⟨hx,hx,hX⟩) hta))
   |inRegion ops l=>
    cases l with
    |nil=>exact .inl (ctl (fun _=>stepG_region_end) (fun _ _=>stepG_region_end) (top X (.refl _) hda oC hX hta))
    |cons i rest=>
     have hrest:(Item.inRegion ops rest::X).all (AZ P S uf)=true:=by simp only[List.all_cons,Bool.and_eq_true];exact⟨hx,hX⟩
     have hxD:∀o∈ops,UF P S o=true/\opD uf o=true:=fun o ho=>by
      have:(ops.all fun o=>UF P S o&&opD uf o)=true:=hx;rw[Array.all_eq_true_iff_forall_mem]at this
      simpa using this o ho
     have hy:yielded ops a.tmps=yielded ops a'.tmps:=by
      have:=J8 pop ops;simp only[xG]at this;rw[BN fun o ho=>(hxD o ho).2,BN fun o ho=>(hxD o ho).2]at this;exact this
     have put':∀{o:Oper} {ρ':Nat->Option Nat} {v v':Value},o∈ops->Ext ρ ρ'->VR (fun f=>S f=true) ρ' v v'->AR (fun f=>S f=true) ρ' (nV uf (a.put o.dst v).tmps) (nV uf (a'.put o.dst v').tmps):=by
      intro o ρ' v v' ho e hv;have hD:=(hxD o ho).2;unfold opD at hD;simp only[Bool.and_eq_true]at hD;rw[SC uf a o.dst _ hD.1,SC uf a' o.dst _ hD.1];exact AR.put (pop.mono e) o.dst hv
     cases ho:ops[i]? with
     |none=>
      have st:∀(b:Frame) (a:Act) (k:List Item) (main:Bool) (cs:List Frame) (w:World),stepG P main (G (b.at a (.inRegion ops (i::rest)::k)) cs) w=.go (G (b.at a (.inRegion ops rest::k)) cs) w #[]:=by
       intro b a k main cs w;simp[G,stepG,stepG.exec,Frame.at,ho,Frame.finish]
      exact .inl (ctl (fun _=>st ..) (fun _ _=>st ..) (top (.inRegion ops rest::X) (.refl _) hda oC hrest hta))
     |some o=>
      cases hw:Region.wanted o (yielded ops a.tmps)with
      |false=>
       have hw':Region.wanted o (yielded ops a'.tmps)=false:=by rw[<-hy];exact hw
       exact .inl (ctl (fun _=>stepG_unwanted ho hw) (fun _ _=>stepG_unwanted ho hw') (top (.inRegion ops rest::X) (.refl _) (by rw[put_defers];exact hda) (by rw[put_defers];exact oC) hrest (put' (Array.mem_of_getElem? ho) (.refl _) VR.undef)))
      |true=>
       have hw':Region.wanted o (yielded ops a'.tmps)=true:=by rw[<-hy];exact hw
       obtain⟨hok,hoD⟩:=hxD o (Array.mem_of_getElem? ho);obtain⟨k1,k2,k3⟩:=SR.exec (P:=P) (ro:=ro) F.body (evR pop) hok s w hr ht hd hro;rw[MF hoD]at k1 k2 k3;rw[MF hoD]at k1;cases hrun:(execOp a.eval o).run P s with
       |halt hh s1=>
        have tm:=k2 hh s1 hrun;refine .inr (.inr ?_);have e:=stepG_oper (P:=P) (main:=true) (b:=b) (rest:=rest) (k:=X++fZ) (cs:=base++[aA]) (w:=s) ho hw;have hk1:(b.kind==CallKind.early)=false:=by simpa using hke
        cases hh with
        |panic v=>
         refine .inr ⟨(b.at a (.inRegion ops (i::rest)::(X++fZ))).raise [{v,recovered:=false}],s1,listed P b.fn a o s,[{v,recovered:=false}],?_,rfl,?_⟩
         ·show stepG P true (G (b.at a (.inRegion ops (i::rest)::(X++fZ))) (base++[aA])) s=_;rw[e];simp[stepG.apply,hrun,G,Frame.at,hk1,GStep.after,listed]
         ·simp[Frame.raise,Frame.at,hda]
        |stuck m=>
         refine .inl ?_;show∃o w es,stepG P true (G (b.at a (.inRegion ops (i::rest)::(X++fZ))) (base++[aA])) s=_;rw[e];exact⟨_,_,_,by simp[stepG.apply,hrun,GStep.after];exact⟨rfl,rfl,rfl⟩⟩
        |unsupported u=>
         refine .inl ?_;show∃o w es,stepG P true (G (b.at a (.inRegion ops (i::rest)::(X++fZ))) (base++[aA])) s=_;rw[e];cases u<;>first
          |exact tm.elim
          |exact⟨_,_,_,by simp[stepG.apply,hrun,GStep.after];exact⟨rfl,rfl,rfl⟩⟩
        |_=>exact tm.elim
       |ok nx s1=>
        obtain⟨xu,nx',w1,h1,h2,h3⟩:=k1 nx s1 hrun;obtain⟨l1,n,l2,l3⟩:=k3 nx s1 hrun;have l4:∀τ d,(∀j,j<n->τ (d+j)=s.tape (s.drawn+j))->listed P b.fn a o (World.on s τ d)=listed P b.fn a o s:=fun τ d nO=>by unfold listed;rw[(l3 τ d nO).2]
        have h2':∀fn,Mv P.globals.size (fun f=>S f=true) ro ρ s w xu s1 w1 (listed P fn a' o w):=fun fn=>h2.sub fun e he=>mem_listed he
        rcases h3 with⟨v,v',rfl,rfl,hv⟩|⟨rfl,rfl⟩|⟨g,as,as',rfl,rfl,hg,has⟩
        ·exact .inl ⟨_,base,s1,_,stepG_value ho hw hke hrun,⟨l1,n,l2,fun τ d nO=>by rw[<-l4 τ d nO];exact stepG_value ho hw hke (l3 τ d nO).1⟩,_,base',w1,xu,_,fun main tail=>stepG_value ho hw' aJ3 h1,top (.inRegion ops rest::X) h2.ext (by rw[put_defers];exact hda) (by rw[put_defers];exact oC) hrest (put' (Array.mem_of_getElem? ho) h2.ext hv),h2' _⟩
        ·exact .inl ⟨_,base,s1,_,stepG_none ho hw hke hrun,⟨l1,n,l2,fun τ d nO=>by rw[<-l4 τ d nO];exact stepG_none ho hw hke (l3 τ d nO).1⟩,_,base',w1,xu,_,fun main tail=>stepG_none ho hw' aJ3 h1,top (.inRegion ops rest::X) h2.ext (by rw[put_defers];exact hda) (by rw[put_defers];exact oC) hrest (put' (Array.mem_of_getElem? ho) h2.ext VR.undef),h2' _⟩
        ·obtain⟨fn,code,hf1,hf2,hf3,hf4⟩:=F g hg;refine .inl ⟨Frame.enter P g as .normal,b.at a (.inRegion ops (i::rest)::(X++fZ))::base,s1,_,stepG_enter ho hw hke hrun,⟨l1,n,l2,fun τ d nO=>by rw[<-l4 τ d nO];exact stepG_enter ho hw hke (l3 τ d nO).1⟩,Frame.enter P g as' .normal,b'.at a' (.inRegion ops (i::rest)::(X++tY))::base',w1,xu,_,fun main tail=>stepG_enter ho hw' aJ3 h1,?_,h2' _⟩;rw[enter_at as hf1 hf2,enter_at as' hf1 hf2];refine .cons ?_ hg fun fM v v' e2 hv=>?_
         ·refine .run (b:=Go.Conc.base g) (b':=Go.Conc.base g) [.code code] rfl rfl rfl rfl rfl (by simp only[List.all_cons,Bool.and_eq_true];exact⟨hf4,rfl⟩) ?_ yg;show AR (fun f=>S f=true) xu (nV CY (as++Array.replicate (fn.ntmps-as.size) undef)) (nV CY (as'++Array.replicate (fn.ntmps-as'.size) undef));rw[vM,vM,<-has.size];exact has.append (AR.replicate _ VR.undef)
         ·have f1:(b.at a (.inRegion ops (i::rest)::(X++fZ))).finish v=b.at (a.put o.dst v) (.inRegion ops rest::(X++fZ)):=by rw[Frame.finish_at,ho];rfl
          have f2:(b'.at a' (.inRegion ops (i::rest)::(X++tY))).finish v'=b'.at (a'.put o.dst v') (.inRegion ops rest::(X++tY)):=by rw[Frame.finish_at,ho];rfl
          rw[f1,f2];exact top (.inRegion ops rest::X) (h2.ext.trans e2) (by rw[put_defers];exact hda) (by rw[put_defers];exact oC) hrest (put' (Array.mem_of_getElem? ho) (h2.ext.trans e2) hv)
   |_=>cases hx
end
end
section
open Go.Conc
section
variable(P:Program)(S:FuncId->Bool)(ro:Nat->Md)(Ds:Nat->Bool)(Ks K:List Item)(Stop:Frame->World->Prop)
def V6(f:Frame)(base:List Frame)(s:World):Prop:=∃ρ f' base' w,KR P S Ds Ks K ρ (f::base) (f'::base')/\HR P.globals.size (fun f=>S f=true) ro ρ s w/\∀b,s.heap.size<=b->ro b=.all
inductive Zt:Frame->List Frame->World->Prop
 |stop {f:Frame} {s:World} (h:Stop f s):Zt f [] s
 |step {f g:Frame} {base b2:List Frame} {s s1:World} {es:Array Event} (h:stepG P true (G f (base++[aA])) s=.go (G g (b2++[aA])) s1 es) (l:Qw P (G f (base++[aA])) (G g (b2++[aA])) s s1 es)
   (m:V6 P S ro Ds Ks K g b2 s1) (k:Zt g b2 s1):Zt f base s
inductive LT:Frame->List Frame->World->Prop
 |stop {f:Frame} {s:World} (τ:Tape) (d:Nat) (h:Stop f (World.on s τ d)):LT f [] s
 |step {f:Frame} {base:List Frame} {s:World} (nx:Tape->Nat->Frame×List Frame×World) (h:∀τ d,∃es,stepG P true (G f (base++[aA])) (World.on s τ d)=.go (G (nx τ d).1 ((nx τ d).2.1++[aA])) (nx τ d).2.2 es)
   (m:∀τ d,V6 P S ro Ds Ks K (nx τ d).1 (nx τ d).2.1 (nx τ d).2.2) (k:∀τ d,LT (nx τ d).1 (nx τ d).2.1 (nx τ d).2.2):LT f base s
end
section
variable{P:Program}{S:FuncId->Bool}{ro:Nat->Md}{Ds:Nat->Bool}{Ks K:List Item}{Stop:Frame->World->Prop}
theorem HR.on{G:Nat}{S:FuncId->Prop}{ρ:Nat->Option Nat}{s w:World}(h:HR G S ro ρ s w)(τ:Tape)(d:Nat)(Ih:Tape)(d':Nat):HR G S ro ρ (World.on s τ d) (World.on w Ih d'):=⟨h.inj,h.row,h.hole,h.low,h.gs,h.gw⟩
theorem KR.bare{ρ:Nat->Option Nat}{l l':List Frame}(h:KR P S Ds Ks K ρ l l'):∀f∈l,f.defers=[]:=by
 have one:∀{ρ:Nat->Option Nat} {Ds:Nat->Bool} {Ks K:List Item} {f f':Frame},FR P S ρ Ds Ks K f f'->f.defers=[]:=fun h=>by
  cases h with
  |run X a b c d e f g r=>exact d
  |ret a b c d e g r=>exact d
 induction h with
 |one h=>intro f hf;simp at hf;subst hf;exact one h
 | @cons ρ f f' c c' r r' h hS hp ih=>
  intro x hx;rcases List.mem_cons.1 hx with rfl|hx
  ·exact one h
  ·have:=ih ρ undef undef (.refl _) .undef;rcases List.mem_cons.1 hx with e|hx
   ·subst e;have:=this (x.finish undef) (List.mem_cons_self ..)
    revert this
    unfold Frame.finish;split<;>exact id
   ·exact this x (by simp[hx])
theorem Xe(c:Frame)(vs:List PanicEntry):(∃ch,(c.raise vs).mode=.panicking ch)/\(c.raise vs).defers=c.defers:=by
 unfold Frame.raise;split<;>exact⟨⟨_,rfl⟩,rfl⟩
theorem BK(Nr:∀f s,Stop f s->∀c,f.mode≠ .panicking c):∀(n:Nat) (base:List Frame) (f:Frame) (w:World) (chain:List PanicEntry),f.mode=.panicking chain->f.defers=[]->(∀x∈base,x.defers=[])->
  ∀fr' w',runN P n (lone f (base++[aA]) w)=.next (lone fr' [aA] w')->¬Stop fr' w'
 |0,base,f,w,chain,hm,hd,hb,fr',w',hr,hs=>by
  simp only[runN,Stepped.next.injEq]at hr;have:f=fr':=by
   have:=congrArg (fun m=>(m.gs[0]?).map (·.frame)) hr
   simpa [lone]using this
  exact Nr fr' w' hs chain (this ▸ hm)
 |n+1,base,f,w,chain,hm,hd,hb,fr',w',hr,hs=>by
  by_cases hc:f.catches P=true
  ·have:step P (lone f (base++[aA]) w)=.ended (.unsupported (.noEntry "a panic or Goexit out of a method that fmt calls behind a cut's door") (f.pos P)) w:=
    step_lone_ended (by simp[stepG,unwind,hm,hd,hc])
   simp only[runN,this]at hr;cases hr
  ·cases base with
   |nil=>
    have:step P (lone f [aA] w)=.next (lone (aA.raise chain) [] w):=step_lone_go (by simp[stepG,unwind,hm,hd,hc])
    simp only[List.nil_append,runN,this]at hr;cases n with
    |zero=>
     simp only[runN,Stepped.next.injEq]at hr;have:=congrArg (fun m=>(m.gs[0]?).map (·.callers)) hr;simp[lone]at this
    |succ n=>
     have:∃o w1,step P (lone (aA.raise chain) [] w)=.ended o w1:=⟨_,_,step_lone_ended (by simp[stepG,unwind,aA,Frame.raise,callDeferred];exact⟨rfl,rfl⟩)⟩;obtain⟨o,w1,this⟩:=this;simp only[runN,this]at hr;cases hr
   |cons c base=>
    have:step P (lone f (c::(base++[aA])) w)=.next (lone (c.raise chain) (base++[aA]) w):=step_lone_go (by simp[stepG,unwind,hm,hd,hc])
    simp only[List.cons_append,runN,this]at hr;obtain⟨⟨ch,h1⟩,h2⟩:=Xe c chain;exact BK Nr n base (c.raise chain) w ch h1 (h2.trans (hb c (by simp))) (fun x hx=>hb x (by simp[hx])) fr' w' hr hs
theorem yM{f:Frame}{w:World}(hm:f.mode=.returning)(hd:f.defers=[])(hk:f.kind=.normal):∀(n:Nat) (fr':Frame) (w':World),runN P (n+1) (lone f [aA] w)≠ .next (lone fr' [aA] w'):=by
 intro n fr' w' hr;have key:(∃o w1,step P (lone f [aA] w)=.ended o w1)\/∃w1,step P (lone f [aA] w)=.next (lone aA [] w1):=by
  cases hf:P.funcs[f.fn]? with
  |none=>exact .inr ⟨w,step_lone_go (by simp[stepG,unwind,hm,hd,hf,doReturn,hk,aA,bW,Frame.finish])⟩
  |some fn=>
   cases hres:(Go.results fn f.tmps).run P w with
   |ok v w1=>exact .inr ⟨w1,step_lone_go (by simp[stepG,unwind,hm,hd,hf,doReturn,hk,hres,aA,bW,Frame.finish,GStep.after])⟩
   |halt hh w1=>exact .inl (by
     cases hh<;>exact⟨_,_,step_lone_ended (by simp[stepG,unwind,hm,hd,hf,hres,GStep.after];exact⟨rfl,rfl⟩)⟩)
 rcases key with⟨o,w1,e⟩|⟨w1,e⟩
 ·simp only[runN,e]at hr;cases hr
 ·simp only[runN,e]at hr;cases n with
  |zero=>
   simp only[runN,Stepped.next.injEq]at hr;have:=congrArg (fun m=>(m.gs[0]?).map (·.callers)) hr;simp[lone]at this
  |succ n=>
   have:∃o w2,step P (lone aA [] w1)=.ended o w2:=⟨_,_,step_lone_ended (by simp[stepG,stepG.exec,aA,bW];exact⟨rfl,rfl⟩)⟩;obtain⟨o,w2,e2⟩:=this;simp only[runN,e2]at hr;cases hr
theorem V6.on{f:Frame}{base:List Frame}{s:World}(h:V6 P S ro Ds Ks K f base s)(τ:Tape)(d:Nat):V6 P S ro Ds Ks K f base (World.on s τ d):=by
 obtain⟨ρ,f',base',w,h1,h2,h3⟩:=h;exact⟨ρ,f',base',World.on w τ d,h1,h2.on τ d τ d,h3⟩
theorem Qw.at{g g1:Goroutine}{s s1:World}{es:Array Event}(h:Qw P g g1 s s1 es){τ:Tape}{d:Nat}(e:∃c,s1.drawn=s.drawn+c/\∀j,j<c->τ (d+j)=s.tape (s.drawn+j)):
  ∃c,s1.drawn=s.drawn+c/\s1.tape=s.tape/\stepG P true g (World.on s τ d)=.go g1 (World.on s1 τ (d+c)) es/\Qw P g g1 (World.on s τ d) (World.on s1 τ (d+c)) es:=by
 obtain⟨h1,c,h2,h3⟩:=h;obtain⟨c',e1,e2⟩:=e;obtain rfl:c'=c:=by omega
 exact⟨c',h2,h1,h3 τ d e2,rfl,c',rfl,fun Ih d' nO=>h3 Ih d' fun j hj=>(nO j hj).trans (e2 j hj)⟩
theorem sH(F:qh P S)(hKs:am8 Ks K)(Nr:∀f s,Stop f s->∀c,f.mode≠ .panicking c):∀(n:Nat) {f:Frame} {base:List Frame} {s:World},V6 P S ro Ds Ks K f base s->
  ∀fr' w',runN P n (lone f (base++[aA]) s)=.next (lone fr' [aA] w')->Stop fr' w'->Zt P S ro Ds Ks K Stop f base s
 |0,f,base,s,hs,fr',w',hr,h=>by
  simp only[runN,Stepped.next.injEq]at hr;have e1:f=fr':=by have:=congrArg (fun m=>(m.gs[0]?).map (·.frame)) hr;simpa [lone]using this
  have e2:base++[aA]=[aA]:=by have:=congrArg (fun m=>(m.gs[0]?).map (·.callers)) hr;simpa [lone]using this
  have e3:s=w':=congrArg (·.world) hr;have e4:base=[]:=by cases base with
   |nil=>rfl
   |cons a l=>have:=congrArg List.length e2;simp at this
  subst e1 e3 e4;exact .stop h
 |n+1,f,base,s,hs,fr',w',hr,h=>by
  obtain⟨ρ,f',base',w,h1,h2,h3⟩:=hs;have hr2:HR P.globals.size (fun f=>S f=true) ro ρ s (World.on w s.tape s.drawn):=h2.on s.tape s.drawn s.tape s.drawn;rcases Ec F hKs h1 hr2 rfl rfl h3 with⟨g,b2,s1,es1,e1,l1,g',b2',w1,xu,es,-,k1,m1⟩|⟨rfl,hm⟩|hb
  ·have e2:step P (lone f (base++[aA]) s)=.next (lone g (b2++[aA]) s1):=step_lone_go (by
    show(stepG P true (G f (base++[aA])) s).bare=_;rw[e1];rfl)
   simp only[runN,e2]at hr;have hs1:V6 P S ro Ds Ks K g b2 s1:=⟨xu,g',b2',w1,k1,m1.hr,fun b hb=>h3 b (Nat.le_trans m1.ssize hb)⟩;exact .step e1 l1 hs1 (sH F hKs Nr n hs1 fr' w' hr h)
  ·exfalso;have hd:=h1.bare f (by simp);have hk:f.kind=.normal:=by
    cases h1 with
    |one h=>cases h with
     |run X a b c d e' f g r=>exact b
     |ret a b c d e' g r=>exact b
   exact yM hm hd hk n fr' w' hr
  ·exfalso;rcases hb with⟨o,w1,es,e⟩|⟨fr,w1,es,ch,e,hm,hd⟩
   ·have e2:step P (lone f (base++[aA]) s)=.ended o w1:=step_lone_ended (by
     show(stepG P true (G f (base++[aA])) s).bare=_;rw[e];rfl)
    simp only[runN,e2]at hr;cases hr
   ·have e2:step P (lone f (base++[aA]) s)=.next (lone fr (base++[aA]) w1):=step_lone_go (by
     show(stepG P true (G f (base++[aA])) s).bare=_;rw[e];rfl)
    simp only[runN,e2]at hr;exact BK Nr n base fr w1 ch hm hd (fun x hx=>h1.bare x (by simp[hx])) fr' w' hr h
theorem Zt.shift(hinv:∀f s τ d,Stop f s->Stop f (World.on s τ d)){f:Frame}{base:List Frame}{s:World}(h:Zt P S ro Ds Ks K Stop f base s):∀τ d,(∀j,τ (d+j)=s.tape (s.drawn+j))->Zt P S ro Ds Ks K Stop f base (World.on s τ d):=by
 induction h with
 |stop h=>exact fun τ d _=>.stop (hinv _ _ _ _ h)
 |step h l m k ih=>
  intro τ d nO;obtain⟨-,c,hc,-⟩:=id l;obtain⟨c',e1,e0,e2,e3⟩:=l.at (τ:=τ) (d:=d) ⟨c,hc,fun j _=>nO j⟩;refine .step e2 e3 (m.on _ _) (ih τ (d+c') fun j=>?_);rw[e0,e1,show d+c'+j=d+(c'+j) by omega,nO,Nat.add_assoc]
theorem LT.Xu(hinv:∀f s τ d,Stop f s->Stop f (World.on s τ d)){f:Frame}{base:List Frame}{s:World}(Jh:V6 P S ro Ds Ks K f base s)(h:∀τ d,Zt P S ro Ds Ks K Stop f base (World.on s τ d)):LT P S ro Ds Ks K Stop f base s:=by
 classical
 apply Classical.byContradiction;intro hno
 let Nd:={x:Frame×List Frame×World//(∀τ d,Zt P S ro Ds Ks K Stop x.1 x.2.1 (World.on x.2.2 τ d))/\¬LT P S ro Ds Ks K Stop x.1 x.2.1 x.2.2}
 have next:∀x:Nd,∃(τ:Tape) (d:Nat) (y:Nd) (es:Array Event),stepG P true (G x.1.1 (x.1.2.1++[aA])) (World.on x.1.2.2 τ d)=.go (G y.1.1 (y.1.2.1++[aA])) y.1.2.2 es/\
   Qw P (G x.1.1 (x.1.2.1++[aA])) (G y.1.1 (y.1.2.1++[aA])) (World.on x.1.2.2 τ d) y.1.2.2 es:=by
  rintro ⟨⟨f,base,s⟩,hR,hL⟩;simp only at hR hL ⊢;have h1:∃τ d,∀g b2 s1 es,stepG P true (G f (base++[aA])) (World.on s τ d)=.go (G g (b2++[aA])) s1 es->V6 P S ro Ds Ks K g b2 s1->¬LT P S ro Ds Ks K Stop g b2 s1:=by
   apply Classical.byContradiction;intro hn;apply hL;have:∀τ d,∃q:Frame×List Frame×World,(∃es,stepG P true (G f (base++[aA])) (World.on s τ d)=.go (G q.1 (q.2.1++[aA])) q.2.2 es)/\V6 P S ro Ds Ks K q.1 q.2.1 q.2.2/\LT P S ro Ds Ks K Stop q.1 q.2.1 q.2.2:=by
    intro τ d;apply Classical.byContradiction;intro hq;exact hn ⟨τ,d,fun g b2 s1 es e hm hl=>hq ⟨(g,b2,s1),⟨es,e⟩,hm,hl⟩⟩
   exact .step (fun τ d=>(this τ d).choose) (fun τ d=>(this τ d).choose_spec.1) (fun τ d=>(this τ d).choose_spec.2.1) fun τ d=>(this τ d).choose_spec.2.2
  obtain⟨τ1,d1,hbad⟩:=h1;generalize hs0:World.on s τ1 d1=s0;have hr:=hR τ1 d1;rw[hs0]at hr hbad;cases hr with
  |stop hst=>exact absurd (LT.stop τ1 d1 (hs0 ▸ hst)) hL
  | @step _ g _ b2 _ s1 es e l m k=>
   refine⟨τ1,d1,⟨(g,b2,s1),?_,hbad g b2 s1 es e m⟩,es,by rw[hs0];exact e,by rw[hs0];exact l⟩;intro τ d;obtain⟨-,c,hc,-⟩:=id l;have hd0:s0.drawn=d1:=by rw[<-hs0];rfl
   have ht0:s0.tape=τ1:=by rw[<-hs0];rfl
   let Ih:Tape:=fun n q=>if n<c then τ1 (d1+n) q else τ (d+(n-c)) q
   have ag:∀j,j<c->Ih (0+j)=s0.tape (s0.drawn+j):=fun j hj=>by
    funext q;rw[hd0,ht0];show(if 0+j<c then τ1 (d1+(0+j)) q else _)=_;rw[if_pos (by omega),Nat.zero_add]
   obtain⟨c',e1,e0,e2,e3⟩:=l.at (τ:=Ih) (d:=0) ⟨c,hc,ag⟩;have hcc:c'=c:=by omega
   subst hcc;have hy:Zt P S ro Ds Ks K Stop g b2 (World.on s1 Ih (0+c')):=by
    have h2:=hR Ih 0;have es0:World.on s Ih 0=World.on s0 Ih 0:=by rw[<-hs0];rfl
    rw[es0]at h2;generalize hs2:World.on s0 Ih 0=s2 at h2 e2;cases h2 with
    |stop hst=>exact absurd (LT.stop Ih 0 (by rw[es0,hs2];exact hst)) hL
    | @step _ g' _ b2' _ s1' es' e' l' m' k'=>
     rw[e2]at e';simp only[GStep.go.injEq,G,Goroutine.mk.injEq,and_true]at e';obtain⟨⟨rfl,hb⟩,rfl,rfl⟩:=e';obtain rfl:=List.append_cancel_right hb;exact k'
   have:=hy.shift hinv τ d fun j=>by
    funext q;show τ (d+j) q=(if 0+c'+j<c' then τ1 (d1+(0+c'+j)) q else τ (d+(0+c'+j-c')) q);rw[if_neg (by omega)];congr 2;omega
   exact this
 let UH:Nd->Nd:=fun x=>(next x).choose_spec.choose_spec.choose
 let tp:Nd->Tape:=fun x=>(next x).choose
 let dd:Nd->Nat:=fun x=>(next x).choose_spec.choose
 have spec:∀x:Nd,∃(es:Array Event),stepG P true (G x.1.1 (x.1.2.1++[aA])) (World.on x.1.2.2 (tp x) (dd x))=.go (G (UH x).1.1 ((UH x).1.2.1++[aA])) (UH x).1.2.2 es/\
   Qw P (G x.1.1 (x.1.2.1++[aA])) (G (UH x).1.1 ((UH x).1.2.1++[aA])) (World.on x.1.2.2 (tp x) (dd x)) (UH x).1.2.2 es:=fun x=>(next x).choose_spec.choose_spec.choose_spec
 let x0:Nd:=⟨(f,base,s),h,hno⟩
 let sq:Nat->Nd:=fun k=>Nat.rec x0 (fun _ x=>UH x) k
 have IC:∀k,sq (k+1)=UH (sq k):=fun _=>rfl
 let cc:Nat->Nat:=fun k=>(UH (sq k)).1.2.2.drawn-dd (sq k)
 let D:Nat->Nat:=fun k=>Nat.rec 0 (fun k n=>n+cc k) k
 have JW:∀k,D (k+1)=D k+cc k:=fun _=>rfl
 have ZF:∀j k,j<=k->D j<=D k:=fun j k hjk=>by
  induction hjk with
  |refl=>exact Nat.le_refl _
  |step _ ih=>exact Nat.le_trans ih (by rw[JW];omega)
 let tau:Tape:=fun m q=>if hm:∃k,D k<=m/\m<D (k+1)then tp (sq hm.choose) (dd (sq hm.choose)+(m-D hm.choose)) q else 0
 have ay9:∀k j,j<cc k->tau (D k+j)=tp (sq k) (dd (sq k)+j):=by
  intro k j hj;funext q;have hm:∃k',D k'<=D k+j/\D k+j<D (k'+1):=⟨k,by omega,by rw[JW];omega⟩;have hk:hm.choose=k:=by
   obtain⟨h1,h2⟩:=hm.choose_spec;rcases Nat.lt_trichotomy hm.choose k with h3|h3|h3
   ·have:=ZF _ _ h3;rw[Nat.succ_eq_add_one]at this;omega
   ·exact h3
   ·have:=ZF _ _ h3;rw[Nat.succ_eq_add_one,JW]at this;omega
  show(if hm:∃k',D k'<=D k+j/\D k+j<D (k'+1)then tp (sq hm.choose) (dd (sq hm.choose)+(D k+j-D hm.choose)) q else 0)=_;rw[dif_pos hm,hk];congr 2;omega
 have never:∀{f:Frame} {base:List Frame} {s':World},Zt P S ro Ds Ks K Stop f base s'->∀k,f=(sq k).1.1->base=(sq k).1.2.1->s'=World.on (sq k).1.2.2 tau (D k)->False:=by
  intro f base s' hr
  induction hr with
  | @stop f s' hst=>
   intro k e1 e2 e3;have:=(sq k).2.2;rw[<-e1,<-e2]at this;exact this (.stop tau (D k) (e3 ▸ hst))
  | @step f g base b2 s' s1 es e l m kk ih=>
   intro k e1 e2 e3;obtain⟨es2,p1,p2⟩:=spec (sq k);obtain⟨-,c,hc,-⟩:=id p2;have hcc:cc k=c:=by
    show(UH (sq k)).1.2.2.drawn-dd (sq k)=c;rw[hc];show dd (sq k)+c-dd (sq k)=c;omega
   obtain⟨c',q1,q0,q2,q3⟩:=p2.at (τ:=tau) (d:=D k) ⟨c,hc,fun j hj=>ay9 k j (by omega)⟩;have hc':c'=c:=by omega
   subst hc';have e4:stepG P true (G f (base++[aA])) s'=.go (G (UH (sq k)).1.1 ((UH (sq k)).1.2.1++[aA])) (World.on (UH (sq k)).1.2.2 tau (D k+c')) es2:=by
    rw[e1,e2,e3];exact q2
   rw[e4]at e;simp only[GStep.go.injEq,G,Goroutine.mk.injEq,and_true]at e;obtain⟨⟨h1,h2⟩,h3,-⟩:=e;have h2:=List.append_cancel_right h2;exact ih (k+1) (by rw[IC];exact h1.symm) (by rw[IC];exact h2.symm) (by rw[IC,JW,hcc];exact h3.symm)
 exact never (h tau 0) 0 rfl rfl rfl
end
end
end Cc
end Go.Proofs.Ytpfpokjaeffbjab
