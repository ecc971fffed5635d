/- Part of the proof: Sa1, Sa2. -/
import Derived.Test.YtpfpokjaeffbjabBb20
import Derived.Conc.DeferLaws
set_option linter.unusedVariables false
set_option linter.unusedSimpArgs false
set_option maxRecDepth 100000
set_option maxHeartbeats 16000000
namespace Go.Proofs.Ytpfpokjaeffbjab
namespace Cc
open Go.Conc
section
structure Sg where
 ok:FuncId->Bool
 fs:FuncId->List Nat
 en:FuncId->Nat
 ext:FuncId->Bool
 Z8:FuncId
 Z7:FuncId
 pure:FuncId->Bool
 own:FuncId->List Nat
 xQ:FuncId->List Nat
 xR:FuncId->List Nat
 rowT:List TypeId
 np:FuncId->Nat
section
variable(s:Sg)(f:FuncId)
def Sg.clean(g:FuncId):Bool:=s.ok g&&(s.fs g).isEmpty&&s.en g==0
def Sg.grd:Bool:=s.pure f|| !(s.own f).isEmpty|| !(s.xQ f).isEmpty|| !(s.xR f).isEmpty
def Sg.Eu(g:FuncId):Bool:=(s.own g).isEmpty&&(s.xQ g).isEmpty&&(s.xR g).isEmpty
def Sg.cl(g:FuncId):Bool:=s.clean g&&(if s.grd f then s.pure g&&1<=s.np g else s.Eu g)
def Sg.op?(g:FuncId):Operand->Bool
 |.func k=>s.cl g k
 |.tmp t=>(s.fs f).contains t&&s.grd g==s.grd f
 |_=>false
def Sg.gop(o:Oper):Bool:=match o.op with
 |.pick .. |.load .. |.nilCheck _|.binOp .. |.unOp .. |.fieldAddr .. |.field .. |.indexAddr .. |.index .. |.extract .. |.move _|.assign _|.build .. |.alloc _|.box .. |.makeSlice .. |.buildSlice .. =>true
 |.store _ (.tmp t) _=>(s.own f).contains t
 |.call c=>match c.callee with
  |.builtin .len=>true
  |.builtin .copy=>match(c.args[0]?:Option Operand)with
   |some (.tmp t)=>(s.own f).contains t
   |_=>false
  |.value (.func g)=>s.pure g&& !s.ext g&&g != s.Z8&&g != s.Z7
  |.value (.tmp _)=>true
  |_=>false
 |_=>false
def Sg.qc(o:Oper):Bool:=match o.dst with
 |none=>true
 |some t=>
  (!(s.fs f).contains t||match o.op with
   |.move x|.assign x=>s.op? f f x
   |.makeFunc (.func g) _ _=>s.cl f g
   |.load _ (.tmp u)=>(s.xR f).contains u
   |_=>false)&&
  (!(s.own f).contains t||match o.op with
   |.alloc _|.box .. |.makeSlice .. =>true
   |.move (.tmp u)|.assign (.tmp u)=>(s.own f).contains u
   |_=>false)&&
  (!(s.xQ f).contains t||match o.op with
   |.buildSlice ty _ ps=>s.rowT.contains ty&&ps.all (fun p=>match p.2 with
    |.func g=>s.cl f g
    |_=>false)
   |_=>false)&&
  (!(s.xR f).contains t||match o.op with
   |.indexAddr _ (.tmp u) _=>(s.xQ f).contains u
   |_=>false)
def Sg.eff(o:Oper)(d:Nat):Option Nat:=
 if !s.qc f o||(s.grd f&& !s.gop f o)then none else
 match o.op with
 |.call c=>
  match c.callee with
  |.builtin b=>match b with
   |.append|.copy|.delete|.len=>some d
   |_=>none
  |.value (.func g)=>
   if g==s.Z8 then(if o.guard.isNone then some (d+1)else none)
   else if g==s.Z7 then(if o.guard.isNone&&0<d then some (d-1)else none)
   else if s.ext g then some d
   else if s.ok g&&(s.fs g).all (fun i=>(c.args[i]?).all (s.op? f g))&&s.en g<=d&&(s.en g==0||o.guard.isNone)&&(s.Eu g||c.args.size<=s.np g)then some (d-s.en g)
   else none
  |.value (.tmp t)=>if(s.fs f).contains t&&(!s.grd f||c.args.size<=1)then some d else none
  |_=>none
 |.defer c=>match c.callee with
  |.value (.func g)=>if s.clean g&&s.Eu g then some d else none
  |_=>none
 |.makeFunc (.func _) _ _=>some d
 |.move _|.assign _|.pick .. |.alloc _|.box .. |.build .. |.buildSlice .. |.load .. |.store .. |.nilCheck _|.binOp .. |.unOp .. |.convert .. |.makeMap .. |.makeSlice .. |.fieldAddr .. |.field .. |.indexAddr .. |.index .. |.lookup .. |.mapUpdate .. |.extract .. =>some d
 |_=>none
def Sg.Gi(ops:Array Oper):List Nat->Nat->Option Nat
 |[],d=>some d
 |i::r,d=>match ops[i]? with
  |none=>Sg.Gi ops r d
  |some o=>match s.eff f o d with
   |some d'=>Sg.Gi ops r d'
   |none=>none
def vN:Option (Option Nat)->Option (Option Nat)->Option (Option Nat)
 |some none,some y=>some y
 |some x,some none=>some x
 |some (some x),some (some y)=>if x==y then some (some x)else none
 |_,_=>none
def TP(st:Option (Option Nat))(e:Nat):Bool:=match st with
 |some none=>true
 |some (some d')=>d'==e
 |none=>false
def Sg.code:Code->Nat->Option (Option Nat)
 |.skip,d|.label _,d=>some (some d)
 |.ret,d=>if d==0 then some none else none
 |.exit _,d=>if d==s.en f then some none else none
 |.seq a b,d=>match Sg.code a d with
  |some (some d')=>Sg.code b d'
  |r=>r
 |.cond (.const (.bool t)) a b,d=>if t then Sg.code a d else Sg.code b d
 |.cond _ a b,d=>vN (Sg.code a d) (Sg.code b d)
 |.block _ a,d=>match Sg.code a d with
  |some none=>some (some (s.en f))
  |some (some d')=>if d'==s.en f then some (some (s.en f))else none
  |none=>none
 |.loop a,d=>if d==s.en f&&TP (Sg.code a (s.en f)) (s.en f)then some none else none
 |.region _ ops draw,d=>
  if draw then(if ops.all (fun o=>s.eff f o d==some d)then some (some d)else none)
  else(s.Gi f ops (List.range ops.size) d).map some
 |_,_=>none
def Sg.items:Option Nat->List Item->Option (Option Nat)
 |st,[]=>some st
 |none,.code _::k=>Sg.items none k
 |some d,.code c::k=>match s.code f c d with
  |some st=>Sg.items st k
  |none=>none
 |st,.inBlock _::k=>if st==none||st==some (s.en f)then Sg.items (some (s.en f)) k else none
 |st,.inLoop c::k=>if(st==none||st==some (s.en f))&&TP (s.code f c (s.en f)) (s.en f)then Sg.items none k else none
 |none,.inRegion _ _::k=>Sg.items none k
 |some d,.inRegion ops todo::k=>match s.Gi f ops todo d with
  |some d'=>Sg.items (some d') k
  |none=>none
 |_,_=>none
def Sg.fin:Option (Option Nat)->Bool
 |some none=>true
 |some (some d)=>d==0
 |none=>false
end
section
variable{s:Sg}{f:FuncId}
theorem Sg.zU:∀(X:List Item) (st:Option Nat),Sg.fin (s.items f st X)=true->Sg.fin (s.items f none X)=true
 |[],st,h=>rfl
 |x::X,none,h=>h
 |x::X,some d,h=>by
  cases x with
  |code c=>
   simp only[Sg.items]at h ⊢;split at h
   ·exact zU X _ h
   ·cases h
  |inBlock id=>
   simp only[Sg.items]at h ⊢;split at h
   ·simpa using h
   ·cases h
  |inLoop c=>
   simp only[Sg.items]at h ⊢;split at h
   ·rename_i hc;simp only[Bool.and_eq_true]at hc;rw[if_pos (by simp[hc.2])];exact h
   ·cases h
  |inRegion ops todo=>
   simp only[Sg.items]at h ⊢;split at h
   ·exact zU X _ h
   ·cases h
  |_=>simp[Sg.items,Sg.fin]at h
theorem Sg.ND{id:Nat}{Ks:List Item}(hK:Ks=[]\/Ks=[bW]):∀(X:List Item) (st:Option Nat),Sg.fin (s.items f st X)=true->∀{k'},exitTo id (X++Ks)=some k'->
  ∃Y,k'=Y++Ks/\(∀K,exitTo id (X++K)=some (Y++K))/\Sg.fin (s.items f (some (s.en f)) Y)=true
 |[],st,hf,k',h=>by rcases hK with rfl|rfl<;>simp[exitTo,bW]at h
 |x::X,st,hf,k',h=>by
  have skip:∀st',Sg.fin (s.items f st' X)=true->exitTo id (x::X++Ks)=exitTo id (X++Ks)->(∀K,exitTo id (x::X++K)=exitTo id (X++K))->∃Y,k'=Y++Ks/\(∀K,exitTo id (x::X++K)=some (Y++K))/\Sg.fin (s.items f (some (s.en f)) Y)=true:=fun st' h1 h2 h3=>by
   rw[h2]at h;obtain⟨Y,e1,e2,e3⟩:=ND hK X st' h1 h;exact⟨Y,e1,fun K=>by rw[h3];exact e2 K,e3⟩
  cases x with
  |inBlock i=>
   have hf2:Sg.fin (s.items f (some (s.en f)) X)=true:=by
    cases st<;>(simp only[Sg.items]at hf;split at hf)<;>first|exact hf|cases hf
   by_cases hi:(i==id)=true
   ·simp only[List.cons_append,exitTo]at h;rw[if_pos hi]at h;cases h;exact⟨X,rfl,fun K=>by simp only[List.cons_append,exitTo];rw[if_pos hi],hf2⟩
   ·exact skip _ hf2 (by simp only[List.cons_append,exitTo];rw[if_neg hi]) fun K=>by simp only[List.cons_append,exitTo];rw[if_neg hi]
  |code c=>
   cases st with
   |none=>exact skip none (by simpa only[Sg.items]using hf) (by simp only[List.cons_append,exitTo]) fun K=>by simp only[List.cons_append,exitTo]
   |some d=>
    simp only[Sg.items]at hf;split at hf
    ·exact skip _ hf (by simp only[List.cons_append,exitTo]) fun K=>by simp only[List.cons_append,exitTo]
    ·cases hf
  |inLoop c=>
   have hf2:Sg.fin (s.items f none X)=true:=by
    cases st<;>(simp only[Sg.items]at hf;split at hf)<;>first|exact hf|cases hf
   exact skip _ hf2 (by simp only[List.cons_append,exitTo]) fun K=>by simp only[List.cons_append,exitTo]
  |inRegion ops todo=>
   cases st with
   |none=>exact skip none (by simpa only[Sg.items]using hf) (by simp only[List.cons_append,exitTo]) fun K=>by simp only[List.cons_append,exitTo]
   |some d=>
    simp only[Sg.items]at hf;split at hf
    ·exact skip _ hf (by simp only[List.cons_append,exitTo]) fun K=>by simp only[List.cons_append,exitTo]
    ·cases hf
  |_=>cases st<;>simp[Sg.items,Sg.fin]at hf
theorem P5{x y:Option (Option Nat)}{f:FuncId}{X:List Item}(h:Sg.fin ((vN x y).bind fun st=>s.items f st X)=true):Sg.fin (x.bind fun st=>s.items f st X)=true:=by
 cases x with
 |none=>exact h
 |some x=>cases y with
  |none=>cases x<;>simp[vN,Sg.fin]at h
  |some y=>cases x with
   |none=>cases y with
    |none=>exact h
    |some y=>exact Sg.zU X _ h
   |some x=>cases y with
    |none=>exact h
    |some y=>
     by_cases e:(x==y)=true
     ·simpa [vN,e]using h
     ·simp[vN,e,Sg.fin]at h
theorem MR{x y:Option (Option Nat)}{f:FuncId}{X:List Item}(h:Sg.fin ((vN x y).bind fun st=>s.items f st X)=true):Sg.fin (y.bind fun st=>s.items f st X)=true:=by
 cases x with
 |none=>simp[vN,Sg.fin]at h
 |some x=>cases y with
  |none=>cases x<;>simp[vN,Sg.fin]at h
  |some y=>cases x with
   |none=>exact h
   |some x=>cases y with
    |none=>exact Sg.zU X _ h
    |some y=>
     by_cases e:(x==y)=true
     ·have e':x=y:=by simpa using e
      subst e'
      simpa [vN]using h
     ·simp[vN,e,Sg.fin]at h
theorem Sg.jF{X:List Item}{c:Code}{d:Nat}:s.items f (some d) (.code c::X)=(s.code f c d).bind fun st=>s.items f st X:=by
 simp only[Sg.items];cases s.code f c d<;>rfl
theorem Sg.Fg{ops:Array Oper}{d:Nat}(h:(ops.all fun o=>s.eff f o d==some d)=true):∀l:List Nat,s.Gi f ops l d=some d
 |[]=>rfl
 |i::l=>by
  unfold Sg.Gi;cases ho:ops[i]? with
  |none=>exact Fg h l
  |some o=>
   have h':=h;rw[Array.all_eq_true_iff_forall_mem]at h';have:s.eff f o d=some d:=by simpa using h' o (Array.mem_of_getElem? ho)
   simp only[this];exact Fg h l
end
end
section
section
variable(s:Sg)
def CV(f:FuncId)(v:Value):Prop:=∀fn x y,v=.func fn x y->∃g,fn=.func g/\s.cl f g=true/\(s.grd f=true->x=#[]/\y=#[])
def CD(d:Deferred):Prop:=∃g zZ9,d=dcall g zZ9/\s.clean g=true/\s.Eu g=true
structure xI(P:Program):Prop where
 body:∀g,s.ok g=true->∃fn c,P.funcs[g]?=some fn/\fn.body=some c/\(fn.name== "runtime.NumGoroutine")=false/\Sg.fin (s.items g (some (s.en g)) [.code c])=true/\∀t∈s.own g++(s.xQ g++s.xR g),s.np g<=t
 Z8:∀zZ9 d,Lv P (callFunc s.Z8 zZ9) d (d+1)/\∀w nx w',(callFunc s.Z8 zZ9).run P w=.ok nx w'->∃v,nx=.value v
 Z7:∀zZ9 d,Lv P (callFunc s.Z7 zZ9) d (d-1)/\∀w nx w',(callFunc s.Z7 zZ9).run P w=.ok nx w'->∃v,nx=.value v
 ext:∀g,s.ext g=true->∀zZ9 d,Lv P (callFunc g zZ9) d d/\∀w nx w',(callFunc g zZ9).run P w=.ok nx w'->∃v,nx=.value v
 early:P.follows .staticDataAhead=true/\∀g,P.stepOf g=none
 row:∀ty,s.rowT.contains ty=true->∀e,P.underlying ty=some (.slice e)->∀i z,P.info? e=some i->i.zero=some z->∀c∈z.cells,∀fn x y,c≠ .func fn x y
inductive Out(f:FuncId)(o:Oper)(d d1 d':Nat)(w w':World):Next->Prop
 |value (v:Value) (h:d1=d'):Out f o d d1 d' w w' (.value v)
 |skip (h:d1=d'):Out f o d d1 d' w w' .skip
 |defer (dd:Deferred) (h:d1=d') (hd:CD s dd) (hg:s.grd f=false):Out f o d d1 d' w w' (.defer dd)
 |enter (g:FuncId) (zZ9:Array Value) (hg:s.ok g=true) (h1:d1=d) (h2:d'+s.en g=d) (ha:∀t,(s.fs g).contains t=true->CV s g (zZ9.getD t undef)) (hp:s.grd f=true->s.pure g=true) (hz:∀t∈s.own g++(s.xQ g++s.xR g),zZ9.size<=t) (hw:w'=w):Out f o d d1 d' w w' (.enter g zZ9)
end
section
variable{s:Sg}{P:Program}{f g:FuncId}{o:Oper}{a:Act}{d d':Nat}
theorem CV.undef:CV s f undef:=fun fn x y h=>by cases h
theorem CV.func{x y:Array Value}(h:s.cl f g=true)(k:s.grd f=true->x=#[]/\y=#[]):CV s f (.func (.func g) x y):=fun fn x' y' e=>by cases e;exact⟨g,rfl,h,k⟩
theorem qH(h:s.clean g=true):s.ok g=true/\s.fs g=[]/\s.en g=0:=by
 simp only[Sg.clean,Bool.and_eq_true]at h;exact⟨h.1.1,by simpa using h.1.2,by simpa using h.2⟩
theorem zZ(h:s.cl f g=true):s.clean g=true/\(s.grd f=true->s.pure g=true/\1<=s.np g)/\(s.grd f=false->s.Eu g=true):=by
 simp only[Sg.cl,Bool.and_eq_true]at h;refine⟨h.1,fun e=>?_,fun e=>?_⟩
 ·have:=h.2;rw[if_pos e,Bool.and_eq_true,decide_eq_true_eq]at this;exact this
 ·have:=h.2;rw[if_neg (by rw[e];simp)]at this;exact this
theorem sO(h:s.Eu g=true):s.own g=[]/\s.xQ g=[]/\s.xR g=[]:=by
 simp only[Sg.Eu,Bool.and_eq_true,List.isEmpty_iff]at h;exact⟨h.1.1,h.1.2,h.2⟩
theorem Em(H:xI s P){g:FuncId}(h:s.ok g=true)(zZ9:Array Value)(w:World):(callFunc g zZ9).run P w=.ok (.enter g zZ9) w:=by
 obtain⟨fn,c,h1,h2,h3,-,-⟩:=H.body g h;have h3:¬fn.name= "runtime.NumGoroutine" :=by simpa using h3
 simp[callFunc,h1,h2,h3]
theorem SN(H:xI s P){g:FuncId}(h:s.ok g=true)(zZ9:Array Value)(d:Nat):Lv P (callFunc g zZ9) d d:=by
 obtain⟨fn,c,h1,h2,h3,-,-⟩:=H.body g h;have h3:¬fn.name= "runtime.NumGoroutine" :=by simpa using h3
 unfold callFunc;show Lv P (match P.funcs[g]? with
  |none=>_
  |some fn=>_) d d
 simp only[h1,h2];rw[if_neg (by simpa using h3)];exact(rfl:d=d)
theorem qo{x:Sem Value}{w:World}{nx:Next}{w':World}(h:((do pure (.value (<-x))):Sem Next).run P w=.ok nx w'):∃v,nx=.value v/\x.run P w=.ok v w':=by
 rw[Sem.run_bind]at h;cases hx:x.run P w with
 |halt e w1=>rw[hx]at h;cases h
 |ok v w1=>rw[hx]at h;simp at h;exact⟨v,h.1.symm,by rw[h.2]⟩
theorem Ed{x:Sem Unit}{w:World}{nx:Next}{w':World}(h:((do x;pure .skip):Sem Next).run P w=.ok nx w'):nx=.skip/\x.run P w=.ok () w':=by
 rw[Sem.run_bind]at h;cases hx:x.run P w with
 |halt e w1=>rw[hx]at h;cases h
 |ok v w1=>rw[hx]at h;simp at h;exact⟨h.1.symm,by rw[h.2]⟩
theorem Rh(hs:∀t,(s.fs f).contains t=true->CV s f (a.tmps.getD t undef)){x:Operand}(h:s.op? f g x=true):CV s g (a.eval x):=by
 cases x with
 |func k=>exact CV.func h fun _=>⟨rfl,rfl⟩
 |tmp t=>
  simp only[Sg.op?,Bool.and_eq_true,beq_iff_eq]at h;intro fn x y e;obtain⟨k,h1,h2,h3⟩:=hs t h.1 fn x y e;refine⟨k,h1,?_,fun e=>h3 (by rw[<-h.2];exact e)⟩;simp only[Sg.cl]at h2 ⊢;rw[h.2];exact h2
 |_=>cases h
theorem TG(H:xI s P){v:Value}(hv:CV s f v)(zZ9:Array Value)(hsz:s.grd f=true->zZ9.size<=1)(d:Nat):
  Lv P (do let d<-Deferred.ofValue v zZ9;invoke d.target d.args) d d/\∀w nx w',(do let d<-Deferred.ofValue v zZ9;invoke d.target d.args:Sem Next).run P w=.ok nx w'->w'=w/\∃g bs,nx=.enter g bs/\s.cl f g=true/\∀t∈s.own g++(s.xQ g++s.xR g),bs.size<=t:=by
 cases v with
 |func fn x y=>
  obtain⟨g,rfl,hg,hxy⟩:=hv _ _ _ rfl;have hok:=(qH (zZ hg).1).1;refine⟨?_,fun w nx w' h=>?_⟩
  ·show Lv P (callFunc g (x++zZ9++y)) d d;exact SN H hok _ d
  ·have h:(callFunc g (x++zZ9++y)).run P w=.ok nx w':=h;rw[Em H hok]at h;cases h;refine⟨rfl,g,_,rfl,hg,fun t ht=>?_⟩;by_cases e:s.grd f=true
   ·obtain⟨rfl,rfl⟩:=hxy e;obtain⟨-,-,-,-,-,-,hl⟩:=H.body g hok;have h1:=hl t ht;have h2:=((zZ hg).2.1 e).2;have h3:=hsz e;simp;omega
   ·obtain⟨n1,n2,n3⟩:=sO ((zZ hg).2.2 (by simpa using e));rw[n1,n2,n3]at ht;simp at ht
 |nilFunc=>exact⟨NM.lv (wr:=true) (x:=(runtimePanic .nilDeref:Sem Next)) Nm.out d,fun w nx w2 h=>by cases h⟩
 |_=>exact⟨trivial,fun w nx w' h=>by cases h⟩
theorem vY(he:s.eff f o d=some d'):s.qc f o=true/\(s.grd f=true->s.gop f o=true):=by
 unfold Sg.eff at he;split at he
 ·cases he
 ·rename_i h;simp only[Bool.or_eq_true,Bool.and_eq_true,not_or,not_and,Bool.not_eq_true']at h;refine⟨by simpa using h.1,fun e=>?_⟩;have:=h.2 e
  simpa using this
theorem I5{wr:Bool}{x:Operand}(hop:o.op=.nilCheck x):NM wr (execOp a.eval o)/\∀w nx w',(execOp a.eval o).run P w=.ok nx w'->∃v,nx=.value v:=by
 have e:execOp a.eval o=(match a.eval x with
  |.pointer none|.nilIface|.nilFunc=>runtimePanic .nilDeref
  |.func (.method name) first captured=>
   match(first[0]?:Option Value)with
   |some .nilIface=>runtimePanic .nilDeref
   |some (.iface t w)=>do
    if(<-nilAhead ((<-program).types.size+Made.depth) t w name) != some false then
     unsupported (.noEntry "op/nilCheck.the method's receiver behind this interface value is a nil pointer, or cannot be seen to be none, and the arguments act or may panic (ledger 612)")
    pure (.value (.func (.method name) first captured))
   |_=>pure (.value (.func (.method name) first captured))
  |x=>pure (.value x)):=by unfold execOp;rw[hop];rfl
 rw[e];refine⟨?_,fun w nx w' h=>?_⟩
 ·repeat' (first|exact Nm.out|(refine NM.bind ?_ fun _=>?_)|(refine NM.ite ?_ ?_)|split|(intro _)|dsimp only)
 ·generalize a.eval x=z at h;have hp:∀{w:World} {nx:Next} {w':World},(runtimePanic .nilDeref:Sem Next).run P w=.ok nx w'->False:=fun h=>by simp[runtimePanic,goPanic]at h
  split at h
  ·exact(hp h).elim
  ·exact(hp h).elim
  ·exact(hp h).elim
  ·split at h
   ·exact(hp h).elim
   ·rw[Sem.run_bind]at h;generalize(nilAhead _ _ _ _:Sem _)=na at h
    revert h
    simp only[Sem.run_bind];intro h;cases hn:(program:Sem Program).run P w with
    |halt e w1=>rw[hn]at h;cases h
    |ok p w1=>
     rw[hn]at h;simp at h;cases hq:(nilAhead (p.types.size+Made.depth) _ _ _).run P w1 with
     |halt e w2=>rw[hq]at h;cases h
     |ok r w2=>
      rw[hq]at h;simp at h;split at h<;>simp[unsupported]at h
      exact⟨_,h.1.symm⟩
   ·cases h;exact⟨_,rfl⟩
  ·cases h;exact⟨_,rfl⟩
theorem NJ(H:xI s P)(hs:∀t,(s.fs f).contains t=true->CV s f (a.tmps.getD t undef))(he:s.eff f o d=some d')(R:Nat):∃d1,Lv P (execOp a.eval o) (d+R) (d1+R)/\∀w nx w',(execOp a.eval o).run P w=.ok nx w'->Out s f o d d1 d' w w' nx:=by
 obtain⟨-,hgo⟩:=vY he;have val:∀{x:Sem Value},Nm true x->execOp a.eval o=(do pure (.value (<-x)))->d=d'->∃d1,Lv P (execOp a.eval o) (d+R) (d1+R)/\∀w nx w',(execOp a.eval o).run P w=.ok nx w'->Out s f o d d1 d' w w' nx:=fun{x} hx e hd=>by
  refine⟨d,?_,fun w nx w' h=>?_⟩
  ·rw[e];exact(NM.bind hx.out fun _=>Nm.out).lv (d+R)
  ·rw[e]at h;obtain⟨v,rfl,-⟩:=qo h;exact .value v hd
 have skp:∀{x:Sem Unit},Nm true x->execOp a.eval o=(do x;pure .skip)->d=d'->∃d1,Lv P (execOp a.eval o) (d+R) (d1+R)/\∀w nx w',(execOp a.eval o).run P w=.ok nx w'->Out s f o d d1 d' w w' nx:=fun{x} hx e hd=>by
  refine⟨d,?_,fun w nx w' h=>?_⟩
  ·rw[e];exact(NM.bind hx.out fun _=>Nm.out).lv (d+R)
  ·rw[e]at h;obtain⟨rfl,-⟩:=Ed h;exact .skip hd
 have now:∀{v:Value},execOp a.eval o=(Pure.pure (.value v):Sem Next)->d=d'->∃d1,Lv P (execOp a.eval o) (d+R) (d1+R)/\∀w nx w',(execOp a.eval o).run P w=.ok nx w'->Out s f o d d1 d' w w' nx:=fun{v} e hd=>by
  refine⟨d,by rw[e];exact(rfl:d+R=d+R),fun w nx w' h=>?_⟩;rw[e]at h;cases h;exact .value _ hd
 unfold Sg.eff at he;split at he
 ·cases he
 cases hop:o.op<;>rw[hop]at he<;>(try dsimp only at he)<;>try(cases he;done)
 case move x=>cases he;exact now (by unfold execOp;rw[hop]) rfl
 case assign x=>cases he;exact now (by unfold execOp;rw[hop]) rfl
 case makeFunc fn x y=>
  cases fn with
  |func g=>cases he;exact now (by unfold execOp;rw[hop];rfl) rfl
  |_=>cases he
 case defer c=>
  cases hc:c.callee with
  |value x=>
   rw[hc]at he;cases x with
   |func g=>
    dsimp only at he;split at he
    ·rename_i hx;cases he;have hg:s.grd f=false:=by
      by_cases e:s.grd f=true
      ·have:=hgo e;simp[Sg.gop,hop]at this
      ·simpa using e
     have e:execOp a.eval o=(Pure.pure (.defer {target:=.fn (.func g) #[],args:=#[]++c.args.map a.eval}):Sem Next):=by
      obtain⟨ce,zZ9,ats⟩:=c;subst hc;unfold execOp;rw[hop];rfl
     refine⟨d,by rw[e];exact(rfl:d+R=d+R),fun w nx w' h=>?_⟩;rw[e]at h;cases h;rw[Bool.and_eq_true]at hx;exact .defer _ rfl ⟨g,#[]++c.args.map a.eval,rfl,hx.1,hx.2⟩ hg
    ·cases he
   |_=>cases he
  |_=>rw[hc]at he;cases he
 case call c=>
  cases hc:c.callee with
  |invoke r n=>rw[hc]at he;cases he
  |builtin b=>
   rw[hc]at he;have e:execOp a.eval o=Go.builtin b c.argTypes o.type (c.args.map fun|.const _=>true|_=>false) (c.args.map a.eval):=by
    obtain⟨ce,zZ9,ats⟩:=c;subst hc;unfold execOp;rw[hop];rfl
   cases b<;>first
    |(cases he;done)
    |(cases he;exact val inferInstance (e.trans rfl) rfl)
  |value x=>
   rw[hc]at he;cases x with
   |func g=>
    have e:execOp a.eval o=callFunc g (c.args.map a.eval):=by
     obtain⟨ce,zZ9,ats⟩:=c;have hc:ce=.value (.func g):=hc;subst hc;exact execOp_call_func hop
    dsimp only at he;split at he
    ·rename_i hg;have hg:g=s.Z8:=by simpa using hg
     subst hg;split at he
     ·cases he;refine⟨d+1,by rw[e];exact(by have:=(H.Z8 (c.args.map a.eval) (d+R)).1;rwa [show d+R+1=d+1+R by omega]at this),fun w nx w' h=>?_⟩;rw[e]at h;obtain⟨v,rfl⟩:=(H.Z8 _ 0).2 _ _ _ h;exact .value v rfl
     ·cases he
    ·split at he
     ·rename_i hg;have hg:g=s.Z7:=by simpa using hg
      subst hg;split at he
      ·rename_i hpos;have hpos:0<d:=by simp only[Bool.and_eq_true,decide_eq_true_eq]at hpos;exact hpos.2
       cases he;refine⟨d-1,by rw[e];exact(by have:=(H.Z7 (c.args.map a.eval) (d+R)).1;rwa [show d+R-1=d-1+R by omega]at this),fun w nx w' h=>?_⟩;rw[e]at h;obtain⟨v,rfl⟩:=(H.Z7 _ 0).2 _ _ _ h;exact .value v rfl
      ·cases he
     ·split at he
      ·rename_i hx;cases he;refine⟨d,by rw[e];exact(H.ext g hx _ (d+R)).1,fun w nx w' h=>?_⟩;rw[e]at h;obtain⟨v,rfl⟩:=(H.ext g hx _ (d+R)).2 _ _ _ h;exact .value v rfl
      ·split at he
       ·rename_i hx;simp only[Bool.and_eq_true,decide_eq_true_eq]at hx;obtain⟨⟨⟨⟨h1,h2⟩,h3⟩,h4⟩,h5⟩:=hx;cases he;refine⟨d,by rw[e];exact SN H h1 _ (d+R),fun w nx w' h=>?_⟩;rw[e,Em H h1]at h;cases h;refine .enter g _ h1 rfl (by omega) (fun t ht=>?_) (fun eg=>?_) (fun t ht=>?_) rfl
        ·rw[List.all_eq_true]at h2;have h2:=h2 t (by simpa using ht);cases hx:c.args[t]? with
         |none=>
          have e2:(c.args.map a.eval).getD t undef=undef:=by simp[Array.getD_eq_getD_getElem?,hx]
          rw[e2];exact CV.undef
         |some x=>
          rw[hx]at h2;have e2:(c.args.map a.eval).getD t undef=a.eval x:=by simp[Array.getD_eq_getD_getElem?,hx]
          rw[e2];exact Rh hs (by simpa using h2)
        ·have:=hgo eg;simp only[Sg.gop,hop,hc,Bool.and_eq_true]at this;exact this.1.1.1
        ·simp only[Bool.or_eq_true,decide_eq_true_eq]at h5;rcases h5 with h5|h5
         ·obtain⟨n1,n2,n3⟩:=sO h5;rw[n1,n2,n3]at ht;simp at ht
         ·obtain⟨-,-,-,-,-,-,hl⟩:=H.body g h1;have:=hl t ht;simp;omega
       ·cases he
   |tmp t=>
    dsimp only at he;split at he
    ·rename_i ht;cases he;have e:execOp a.eval o=(do let d<-Deferred.ofValue (a.eval (.tmp t)) (c.args.map a.eval);invoke d.target d.args):=by
      obtain⟨ce,zZ9,ats⟩:=c;subst hc;unfold execOp;rw[hop];rfl
     rw[Bool.and_eq_true,Bool.or_eq_true,decide_eq_true_eq]at ht;obtain⟨ht,hsz⟩:=ht;obtain⟨k1,k2⟩:=TG H (hs t ht) (c.args.map a.eval) (fun e=>by
      rcases hsz with h|h;· rw[e]at h;cases h
      ·simpa using h) (d+R)
     refine⟨d,by rw[e];exact k1,fun w nx w' h=>?_⟩;rw[e]at h;obtain⟨hw,g,bs,rfl,hg,hbz⟩:=k2 _ _ _ h;obtain⟨c0,c4,-⟩:=zZ hg;obtain⟨c1,c2,c3⟩:=qH c0;exact .enter g bs c1 rfl (by rw[c3];rfl) (fun t ht=>by rw[c2]at ht;simp at ht) (fun e=>(c4 e).1) hbz hw
    ·cases he
   |_=>cases he
 case store t x y=>cases he;exact skp (x:=Instr.storeAt t (a.eval x) (a.eval y)) inferInstance (by unfold execOp;rw[hop]) rfl
 case mapUpdate t m k x=>cases he;exact skp (x:=Instr.mapUpdate t (a.eval m) (a.eval k) (a.eval x)) inferInstance (by unfold execOp;rw[hop]) rfl
 case nilCheck x=>
  cases he;obtain⟨k1,k2⟩:=I5 (P:=P) hop (a:=a) (wr:=true);exact⟨d,k1.lv (d+R),fun w nx w' h=>by obtain⟨v,rfl⟩:=k2 w nx w' h;exact .value v rfl⟩
 case pick c x y=>
  cases he;have e:execOp a.eval o=(do pure (.value (if<-asBool (a.eval c)then a.eval x else a.eval y))):=by unfold execOp;rw[hop]
  refine⟨d,by rw[e];exact(NM.bind (wr:=true) Nm.out fun _=>Nm.out).lv (d+R),fun w nx w' h=>?_⟩;rw[e,Sem.run_bind]at h;have:∃v,nx=.value v:=by
   cases hx:(asBool (a.eval c)).run P w with
   |halt e w1=>rw[hx]at h;cases h
   |ok v w1=>rw[hx]at h;simp at h;exact⟨_,h.1.symm⟩
  obtain⟨v,rfl⟩:=this;exact .value v rfl
 all_goals
  cases he
  first
   |exact val (x:=Instr.alloc _ true (.tuple #[])) inferInstance (by unfold execOp;rw[hop]) rfl
   |exact val (x:=Instr.box _ _) inferInstance (by unfold execOp;rw[hop]) rfl
   |exact val (x:=Instr.build _ _) inferInstance (by unfold execOp;rw[hop]) rfl
   |exact val (x:=Instr.buildSlice _ _ _) inferInstance (by unfold execOp;rw[hop]) rfl
   |exact val (x:=Instr.loadAt _ _) inferInstance (by unfold execOp;rw[hop]) rfl
   |exact val (x:=Op.unary _ _) inferInstance (by unfold execOp;rw[hop]) rfl
   |exact val (x:=Go.convert _ _ _) inferInstance (by unfold execOp;rw[hop]) rfl
   |exact val (x:=Instr.makeMap _ _) inferInstance (by unfold execOp;rw[hop]) rfl
   |exact val (x:=Instr.makeSlice _ _ _) inferInstance (by unfold execOp;rw[hop]) rfl
   |exact val (x:=Instr.fieldAt _ _ _) inferInstance (by unfold execOp;rw[hop]) rfl
   |exact val (x:=Instr.field _ _ _) inferInstance (by unfold execOp;rw[hop]) rfl
   |exact val (x:=Instr.indexAt _ _ _) inferInstance (by unfold execOp;rw[hop]) rfl
   |exact val (x:=Instr.index _ _ _) inferInstance (by unfold execOp;rw[hop]) rfl
   |exact val (x:=Instr.lookup _ _ _ _) inferInstance (by unfold execOp;rw[hop]) rfl
   |exact val (x:=Instr.extract _ _) inferInstance (by unfold execOp;rw[hop]) rfl
   |exact val (x:=(do eqGuard ..;Go.binOp _ _ _ _)) ⟨NM.bind Nm.out fun _=>Nm.out⟩ (by unfold execOp;rw[hop]) rfl
end
end
end Cc
end Go.Proofs.Ytpfpokjaeffbjab
