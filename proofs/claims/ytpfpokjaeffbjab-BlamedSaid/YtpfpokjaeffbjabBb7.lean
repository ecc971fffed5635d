/- Part of the proof: Onc5, Any, Mu3, Read, Lv, Wg. -/
import Derived.Test.YtpfpokjaeffbjabBb6
import Derived.Test.YtpfpokjaeffbjabBb5
import Derived.Conc.CompanyDraw
set_option linter.unusedVariables false
set_option linter.unusedSimpArgs false
set_option maxRecDepth 100000
set_option maxHeartbeats 16000000
namespace Go.Proofs.Ytpfpokjaeffbjab
namespace Cc
open Go.Conc Go.ConcN
open Go.ConcR (KK wgBlock WgAt stA smA rd wr mk DC0)
open Go.ConcM (OsLater)
section
variable{q:ig}{i:Nat}{s:aO}{x:Wk}
theorem kR.bv0{γ:aJ}{w:World}(h:kR q s γ w)(hD:γ.D=0){off:Nat}(o1:6<=off)(o2:off<16)(v:Int):kR q s γ (w.setCell ⟨s.Gb,off,none⟩ (.int .u64 v)):=by
 obtain⟨C,h1,h2,h3,h4,h5,h6,h7,h8,h9,h10⟩:=h;refine⟨_,EZ h1 off _,by simpa using h2,?_,?_,?_,?_,?_,?_,fun k k1 k2=>?_,fun e=>by omega⟩
 ·rw[Array.getElem?_setIfInBounds_ne (by omega)];exact h3
 ·rw[Array.getElem?_setIfInBounds_ne (by omega)];exact h4
 ·rw[Array.getElem?_setIfInBounds_ne (by omega)];exact h5
 ·rw[Array.getElem?_setIfInBounds_ne (by omega)];exact h6
 ·rw[Array.getElem?_setIfInBounds_ne (by omega)];exact h7
 ·rw[Array.getElem?_setIfInBounds_ne (by omega)];exact h8
 ·by_cases e:off=k
  ·subst e;rw[Array.getElem?_setIfInBounds_self_of_lt (by omega)];exact⟨_,rfl⟩
  ·rw[Array.getElem?_setIfInBounds_ne e];exact h9 k k1 k2
theorem Inv.share{st:St aJ}(h:Inv q st)(hA:At s i x st)(hx:x.wg=.work)(n1:x.mx=.own .work){off:Nat}(o1:6<=off)(o2:off<16)(v:Int)(fn:FuncId)(pos:String):
  Inv q ⟨st.w.setCell ⟨s.Gb,off,none⟩ (.int .u64 v),st.t++MemOp.ofEvents i fn pos #[⟨.cell ⟨s.Gb,off,none⟩,true,false⟩],st.γ⟩/\
  ∀j,j≠i->Rl j st ⟨st.w.setCell ⟨s.Gb,off,none⟩ (.int .u64 v),st.t++MemOp.ofEvents i fn pos #[⟨.cell ⟨s.Gb,off,none⟩,true,false⟩],st.γ⟩:=by
 obtain⟨c,p,t⟩:=h.aZ s hA.sc;have A:=h.base.tr.Ic;have hl:=c.SS;have one:=AO h hA n1;have own:(st.γ.wk i).mx=.own .work:=by rw[hA.me];exact n1
 have hD:st.γ.D=0:=c.work i own;have TB:=p.exS i own;have W:=aside_setCell st.w ⟨s.Gb,off,none⟩ (.int .u64 v);have xY:∀{e:Event},e∈(#[⟨.cell ⟨s.Gb,off,none⟩,true,false⟩]:Array Event)->∀{y:Touch},(MemAct.ofEvent e).touch?=some y->y=⟨ca s.Gb off,true,.plain⟩:=by
  intro e he y hy;simp at he;subst he;cases hy;rfl
 refine h.gen hA.sc hA.mem (γ':=st.γ) rfl rfl (fun _=>.rfl) (fun e he y hy=>?_) (fun e he a=>?_) (fun _ e he y hy=>by rw[xY he hy];simp) (fun T=>T) (fun j hj l=>⟨id,id⟩) h.base.pool W.size (fun b=>?_) (by rw[W.os];exact .refl _) W.output (fun _ _=>rfl) (fun _=>⟨rfl,rfl⟩) (fun e=>absurd e hA.ne) (fun _=>?_) ?_ p ?_ ⟨Nat.le_refl _,fun _=>⟨rfl,rfl,rfl,rfl⟩,id⟩ (fun _=>⟨Nat.le_refl _,fun _=>rfl⟩) (fun j hj e=>absurd e (one j hj _)) (.inl (Nat.le_refl _))
 ·rw[xY he hy];refine⟨.inr (.inl (TB off o1 o2)),fun b hb=>?_⟩;have hb:fE (ca s.Gb off)=some b:=hb;have:s.Gb=b:=by unfold ca fE at hb;simpa using hb
  rw[W.size];omega
 ·simp at he;subst he;simp
 ·by_cases e:b=s.Gb
  ·exact .inr (.inr (.inl e))
  ·exact .inl (W.block b e)
 ·refine⟨(cu fun e he=>?_).symm,by rw[hA.me,hx];simp⟩;simp at he;subst he;simp
 ·refine⟨c.n0,c.gb.bv0 hD o1 o2 v,c.qV.of_block (W.block _ c.ne.1.symm),?_,?_,c.ne,c.mu,c.D1,c.work,c.dn,c.syn,c.new,c.on,c.fin,c.all,c.uh⟩
  ·obtain⟨Z,z1,z2⟩:=c.zb;exact⟨Z,(W.block _ c.ne.2.1.symm).trans z1,z2⟩
  ·obtain⟨Z,z1,z2⟩:=c.rb;exact⟨Z,(W.block _ c.ne.2.2.1.symm).trans z1,z2⟩
 ·rw[wK];refine⟨fun _ hn=>absurd own (hn i),fun h1=>?_,fun j hj hj2 hw=>?_⟩
  ·have h1:st.γ.D=1:=h1;omega
  ·have hw:(st.γ.wk j).wg≠ .work:=hw;have hji:j≠i:=fun e=>hw (by rw[e,hA.me];exact hx)
   obtain⟨r,r1,r2⟩:=t.rel j hj hj2 hw;have other:∀k,st.t.size<=k->(st.t++#[({g:=i,fn,pos,act:=.ofEvent ⟨.cell ⟨s.Gb,off,none⟩,true,false⟩}:MemOp)]).g? k≠some j:=fun k hk hg=>by
    obtain⟨op,ho,hog⟩:=Option.map_eq_some_iff.1 hg;rcases getElem?_append_cases ho with⟨hlt2,_⟩|⟨_,hou⟩
    ·omega
    ·simp at hou;subst hou;exact hji hog.symm
   refine⟨r,r1.app fun k hk hg=>absurd hg (other k hk),fun k a hrk hg ha=>?_⟩;rcases Nat.lt_or_ge k st.t.size with hlt|hge
   ·exact r2 k a hrk (by simpa only[Trace.g?,getElem?_append_old hlt]using hg) (by rw[touchAt_old hlt]at ha;exact ha)
   ·exact absurd hg (other k hge)
variable{Ch:Nat->Goroutine->St aJ->Prop}
theorem mZ{st st':St aJ}(hsc:st'.γ.sc=st.γ.sc)(hmw:st'.γ.mw=st.γ.mw)(hgm:st'.γ.gm=st.γ.gm)(htok:st'.γ.tn+st'.γ.th=st.γ.tn+st.γ.th){i:Nat}(hwk:∀k,k≠i->st'.γ.wk k=st.γ.wk k):∀k,k≠i->Wt k st->Wt k st':=Wq hsc hmw hgm (Nat.le_of_eq htok) hwk
theorem TT.ba3{P:Program}(hP:q.P=P){g:Goroutine}{st:St aJ}(hA:At s i x st)(hx:x.wg=.work)(hdf:x.df=0)(n1:x.mx≠ .own .work)
  (h:∀ah,At s i x ah->Inv q ah->dX q s ah->∃g',stepG P (i==0) g ah.w=.go g' ah.w #[⟨.cell ⟨s.Gb,3,none⟩,false,true⟩]/\g'.status=.running/\
   (ah.γ.D=1->∀ay,At s i {x with syn:=true} ay->Inv q ay->ay.γ.D=1->TT (cfg q) i Ch g' ay)/\
   (ah.γ.D=0->x.mx≠ .own .chk->∀ay,At s i x ay->Inv q ay->TT (cfg q) i Ch g' ay)/\
   (ah.γ.D=0->x.mx=.own .chk->∀ay,At s i {x with mx:=.own .work} ay->Inv q ay->TT (cfg q) i Ch g' ay)):TT (cfg q) i Ch g st:=by
 subst hP;refine TT.act fun ah hr hi=>?_
 have au:=hA.rely (by rw[hx];simp) hr hi;have hC:=(hi.aZ s au.sc).c;obtain⟨g',h1,h2,h3,h4,h5⟩:=h ah au hi hC;refine⟨au.oh (by rw[hx];simp),g',ah.w,#[⟨.cell ⟨s.Gb,3,none⟩,false,true⟩],?_⟩;by_cases hD:ah.γ.D=1
 ·have k:=hi.ba4 au hx hdf hD n1 g.frame.fn g.frame.place;exact⟨{ah.γ with wk:=upd ah.γ.wk i {x with syn:=true},rd:=jr ah.γ.rd i s},h1,h2,rfl,k,.inr (mZ (by rfl) (by rfl) (by rfl) (by rfl) fun k hk=>by exact upd_ne _ _ hk),h3 hD _ (au.next hi rfl rfl rfl (dJ _ _ _) (fun _ h=>.inl h) fun _ _ _ _ _=>rfl) k.1 hD⟩
 have hD:ah.γ.D=0:=by have:=hC.D1;omega
 by_cases hm:x.mx=.own .chk
 ·have k:=hi.ba5 au hx hD hm g.frame.fn g.frame.place;exact⟨{ah.γ with wk:=upd ah.γ.wk i {x with mx:=.own .work},ex:=jr ah.γ.ex i s},h1,h2,rfl,k,.inr (mZ (by rfl) (by rfl) (by rfl) (by rfl) fun k hk=>by exact upd_ne _ _ hk),h5 hD hm _ (au.next hi rfl rfl rfl (dJ _ _ _) (fun _ h=>h) fun _ _ _ _ _=>rfl) k.1⟩
 ·obtain⟨k,_⟩:=hi.mu au hx (x':=x) rfl (es:=#[⟨.cell ⟨s.Gb,3,none⟩,false,true⟩]) (wz _ _) n1 n1 (fun e=>hC.dn i (by rw[au.me];exact e)) (jC.still hC au rfl) (hC.gb.stay rfl rfl) (aY.refl _) (.inr ⟨rfl,rfl,rfl,rfl,rfl⟩) (.inl (Nat.le_refl _)) (pW 3 (by omega)) g.frame.fn g.frame.place;exact⟨ah.γ.setMu i x ah.γ.L ah.γ.W ah.γ.S ah.γ.N ah.γ.tn ah.γ.th,h1,h2,rfl,k,.inr (mZ (by rfl) (by rfl) (by rfl) (by rfl) fun k hk=>by exact upd_ne _ _ hk),h4 hD hm _ (au.next hi rfl rfl rfl (dJ _ _ _) (fun _ h=>h) fun _ _ _ _ _=>rfl) k.1⟩
theorem TT.az1{P:Program}(hP:q.P=P){g:Goroutine}{st:St aJ}(hA:At s i x st)(hx:x.wg=.work)(hdf:x.df=0)(n1:x.mx=.own .work)(hv:∀id,1<=id->id<=s.nn->st.w.cell? ⟨s.Gb,6+id,none⟩=some (.int .u64 (s.vals id)))(hnn:s.nn<=9)
  (h:∀ah,At s i x ah->Inv q ah->dX q s ah->∃g',stepG P (i==0) g ah.w=.go g' (ah.w.setCell ⟨s.Gb,3,none⟩ (.int .u32 1)) #[⟨.cell ⟨s.Gb,3,none⟩,true,true⟩]/\g'.status=.running/\
   ∀ay,At s i {x with mx:=.own .dn,syn:=true} ay->Inv q ay->TT (cfg q) i Ch g' ay):TT (cfg q) i Ch g st:=by
 subst hP;refine TT.act fun ah hr hi=>?_
 have au:=hA.rely (by rw[hx];simp) hr hi;have hC:=(hi.aZ s au.sc).c;obtain⟨g',h1,h2,h3⟩:=h ah au hi hC;have hw:=hr.work hA.ne (by rw[hA.me,hx];simp) (by rw[hA.me,hx];simp) (by rw[hA.me];exact n1) s hA.sc;have k:=hi.store1 au hx hdf n1 (fun id i1 i2=>(hw (6+id) (by omega) (by omega)).trans (hv id i1 i2)) g.frame.fn g.frame.place;exact⟨au.oh (by rw[hx];simp),g',_,_,{ah.γ with wk:=upd ah.γ.wk i {x with mx:=.own .dn,syn:=true},D:=1,ex:=sV ah.γ.ex i s,rd:=jr ah.γ.rd i s},h1,h2,rfl,k,.inr (mZ (by rfl) (by rfl) (by rfl) (by rfl) fun k hk=>by exact upd_ne _ _ hk),h3 _ (au.next hi rfl rfl rfl (dJ _ _ _) (fun _ h=>.inl h) fun b a1 _ _ _=>(aside_setCell ah.w ⟨s.Gb,3,none⟩ (.int .u32 1)).block b a1) k.1⟩
theorem TT.share{P:Program}(hP:q.P=P){g:Goroutine}{st:St aJ}(hA:At s i x st)(hx:x.wg=.work)(n1:x.mx=.own .work){off:Nat}(o1:6<=off)(o2:off<16)(v:Int)
  (h:∀ah,Rl i st ah->At s i x ah->Inv q ah->dX q s ah->∃g',stepG P (i==0) g ah.w=.go g' (ah.w.setCell ⟨s.Gb,off,none⟩ (.int .u64 v)) #[⟨.cell ⟨s.Gb,off,none⟩,true,false⟩]/\g'.status=.running/\
   ∀ay,At s i x ay->Inv q ay->ay.w.cell? ⟨s.Gb,off,none⟩=some (.int .u64 v)->(∀o,6<=o->o<16->o≠off->ay.w.cell? ⟨s.Gb,o,none⟩=st.w.cell? ⟨s.Gb,o,none⟩)->ay.γ=ah.γ->(∀b,b≠s.Gb->ay.w.heap[b]?=ah.w.heap[b]?)->TT (cfg q) i Ch g' ay):TT (cfg q) i Ch g st:=by
 subst hP;refine TT.act fun ah hr hi=>?_
 have au:=hA.rely (by rw[hx];simp) hr hi;have hC:=(hi.aZ s au.sc).c;obtain⟨g',h1,h2,h3⟩:=h ah hr au hi hC;have hw:=hr.work hA.ne (by rw[hA.me,hx];simp) (by rw[hA.me,hx];simp) (by rw[hA.me];exact n1) s hA.sc;have k:=hi.share au hx n1 o1 o2 v g.frame.fn g.frame.place;refine⟨au.oh (by rw[hx];simp),g',_,_,ah.γ,h1,h2,rfl,k,.inr fun _ _ h=>h,h3 _ (au.next hi rfl rfl rfl au.me (fun _ h=>h) fun b a1 _ _ _=>(aside_setCell ah.w ⟨s.Gb,off,none⟩ (.int .u64 v)).block b a1) k.1 ?_ (fun o p1 p2 p3=>?_) rfl fun b hb=>(aside_setCell ah.w ⟨s.Gb,off,none⟩ (.int .u64 v)).block b hb⟩
 ·obtain⟨C,c1,c2,_⟩:=hC.gb;have:=EZ c1 off (.int .u64 v);show World.cell? (ah.w.setCell _ _) _=_;simp[World.cell?,this,c2,o2]
 ·refine(World.cell?_setCell_other _ ⟨s.Gb,off,none⟩ ⟨s.Gb,o,none⟩ _ (by simp;omega)).trans (hw o p1 p2)
end
end Cc
namespace Cc
open Go.Conc Go.ConcN
section
section
variable{Γ:Type}(C:VT Γ)(i:Nat)(Ch:Nat->Goroutine->St Γ->Prop)(b:Frame)(ops:Array Oper)(k:List Item)(cs:List Frame)(S:Array Bool->St Γ->Prop)
def Does(j:Nat)(o:Oper)(X:Sem Next)(v:Value):Prop:=
 ∀(l:Array Bool) (a:Act) (rest:List Nat) (st:St Γ),l.getD j true=false->S l st->execOp a.eval o=X->Region.wanted o (yielded ops a.tmps)=true->(∀st',S (l.setIfInBounds j true) st'->TT C i Ch (G (b.at (a.put o.dst v) (.inRegion ops rest::k)) cs) st')->TT C i Ch (G (b.at a (.inRegion ops (j::rest)::k)) cs) st
def V8(j:Nat)(K:Act->Prop)(a:Act):Prop:=
 match ops[j]? with
 |none=>False
 |some o=>if Region.wanted o (yielded ops a.tmps)then∃v,Does C i Ch b ops k cs S j o (execOp a.eval o) v/\K (a.put o.dst v)else K (a.put o.dst undef)
def JY(md:Region.Mode)(F:Array Bool->Act->Prop):Nat->Array Bool->Act->Prop
 |0,listed,a=>Region.ready md ops listed=[]/\F listed a
 |n+1,listed,a=>(Region.ready md ops listed=[]->F listed a)/\∀j∈Region.ready md ops listed,V8 C i Ch b ops k cs S j (JY md F n (listed.setIfInBounds j true)) a
end
section
variable{Γ:Type}{C:VT Γ}{i:Nat}{Ch:Nat->Goroutine->St Γ->Prop}{b:Frame}{ops:Array Oper}{k:List Item}{cs:List Frame}{S:Array Bool->St Γ->Prop}
theorem V8.mono{j:Nat}{K K':Act->Prop}{a:Act}(h:V8 C i Ch b ops k cs S j K a)(hk:∀a,K a->K' a):V8 C i Ch b ops k cs S j K' a:=by
 unfold V8 at*;split
 ·simp_all
 ·rename_i o ho;simp only[ho]at h;split
  ·rename_i hw;simp only[hw,if_true]at h;obtain⟨v,h1,h2⟩:=h;exact⟨v,h1,hk _ h2⟩
  ·rename_i hw;simp only[hw]at h;exact hk _ h
theorem FK{md:Region.Mode}{F:Array Bool->Act->Prop}(hF:∀l a st,F l a->S l st->TT C i Ch (G (b.at a (.inRegion ops []::k)) cs) st)
  (sk:∀(j:Nat) (l:Array Bool) (a:Act) (o:Oper) (rest:List Nat) (st:St Γ),ops[j]?=some o->l.getD j true=false->Region.wanted o (yielded ops a.tmps)=false->S l st->(∀st',S (l.setIfInBounds j true) st'->TT C i Ch (G (b.at (a.put o.dst undef) (.inRegion ops rest::k)) cs) st')->TT C i Ch (G (b.at a (.inRegion ops (j::rest)::k)) cs) st):
  ∀(n t:Nat) (listed:Array Bool) (a:Act) (st:St Γ),JY C i Ch b ops k cs S md F n listed a->S listed st->TT C i Ch (G (b.at a (.inRegion ops (Region.linearise.go md ops n t listed [])::k)) cs) st:=by
 intro n
 induction n with
 |zero=>intro t listed a st h hs;exact hF listed a st h.2 hs
 |succ n ih=>
  intro t listed a st h hs;obtain⟨h₀,h₁⟩:=h;simp only[Region.linearise.go];change TT C i Ch (G (b.at a (.inRegion ops (match(Region.ready md ops listed)[t%(Region.ready md ops listed).length]? with
   |some i=>Region.linearise.go md ops n (t/(Region.ready md ops listed).length) (listed.setIfInBounds i true) [i]
   |none=>[].reverse)::k)) cs) st
  cases hi:(Region.ready md ops listed)[t%(Region.ready md ops listed).length]? with
  |none=>
   have hnil:Region.ready md ops listed=[]:=by
    cases hr:Region.ready md ops listed with
    |nil=>rfl
    |cons x xs=>
     rw[hr]at hi;have hlt:t%(x::xs).length<(x::xs).length:=Nat.mod_lt _ (by simp);simp at hi;simp at hlt;omega
   exact hF listed a st (h₀ hnil) hs
  |some j=>
   simp only[];rw[linearise_go_acc,List.reverse_singleton,List.singleton_append];have hmj:=List.mem_of_getElem? hi;have hun:=(mem_ready.1 hmj).1;have h:=h₁ j hmj;unfold V8 at h;split at h
   ·exact h.elim
   ·rename_i o ho;split at h
    ·rename_i hw;obtain⟨v,h1,h2⟩:=h;exact h1 listed a _ st hun hs rfl hw fun st' hs'=>ih _ _ _ st' h2 hs'
    ·rename_i hw;exact sk j listed a o _ st ho hun (by simpa using hw) hs fun st' hs'=>ih _ _ _ st' h hs'
variable(C i Ch b ops k cs S) in
def kZ(j:Nat)(o:Oper)(v:Value)(a:Act):Prop:=
 (Region.wanted o (yielded ops a.tmps)=true/\Does C i Ch b ops k cs S j o (execOp a.eval o) v)\/(Region.wanted o (yielded ops a.tmps)=false/\v=undef)
theorem kZ.of_same{j:Nat}{o:Oper}{v:Value}{a a':Act}(hy:kZ C i Ch b ops k cs S j o v a)(he:execOp a'.eval o=execOp a.eval o)(hw:Region.wanted o (yielded ops a'.tmps)=Region.wanted o (yielded ops a.tmps)):kZ C i Ch b ops k cs S j o v a':=by
 unfold kZ at*;rw[he,hw];exact hy
theorem kZ.op{j:Nat}{o:Oper}{v:Value}{a:Act}(hj:ops[j]?=some o)(hy:kZ C i Ch b ops k cs S j o v a){K:Act->Prop}(h:K (a.put o.dst v)):V8 C i Ch b ops k cs S j K a:=by
 unfold V8;simp only[hj];rcases hy with⟨hw,hv⟩|⟨hw,rfl⟩
 ·simp only[hw,if_true];exact⟨v,hv,h⟩
 ·simp only[hw,Bool.false_eq_true,if_false];exact h
theorem VK{i' j:Nat}{oi oj:Oper}{v:Value}(hj:ops[j]?=some oj)(hap:oi.apart ops oj=true)(hsi:∀cs b,oi.op≠ .select cs b)(hsj:∀cs b,oj.op≠ .select cs b){K:Act->Prop}{a:Act}
  (hy:kZ C i Ch b ops k cs S i' oi v a)(h:V8 C i Ch b ops k cs S j K (a.put oi.dst v)):V8 C i Ch b ops k cs S j (fun a'=>kZ C i Ch b ops k cs S i' oi v a'/\K (a'.put oi.dst v)) a:=by
 obtain⟨h1,h2,h3⟩:=Oper.apart_spec hap;have keep:∀(a:Act),kZ C i Ch b ops k cs S i' oi v a->∀u,kZ C i Ch b ops k cs S i' oi v (a.put oj.dst u):=fun a hy u=>
  hy.of_same (execOp_put oi hsi a oj.dst u h3) (wanted_put oi a oj.dst u h3)
 unfold V8 at*;simp only[hj]at*;rw[wanted_put oj a oi.dst v h1,execOp_put oj hsj a oi.dst v h1]at h;split
 ·rename_i hw;simp only[hw,if_true]at h;obtain⟨u,h4,h5⟩:=h;exact⟨u,h4,keep a hy u,by rw[<-Act.put_comm a v u h2];exact h5⟩
 ·rename_i hw;simp only[hw]at h;exact⟨keep a hy _,by rw[<-Act.put_comm a v undef h2];exact h⟩
theorem Qs{md:Region.Mode}{F:Array Bool->Act->Prop}{i':Nat}{oi:Oper}{v:Value}(hi:ops[i']?=some oi)(hsel:∀(j:Nat) (o:Oper) cs b,ops[j]?=some o->o.op≠ .select cs b):
  ∀(n:Nat) (listed:Array Bool) (a:Act),
   (∀j oj,ops[j]?=some oj->j≠i'->listed.getD j true=false->(∀e∈oj.after,Region.binds md e=true->e.on≠i')->oi.apart ops oj=true)->
   i'∈Region.ready md ops listed->kZ C i Ch b ops k cs S i' oi v a->
   JY C i Ch b ops k cs S md F n (listed.setIfInBounds i' true) (a.put oi.dst v)->JY C i Ch b ops k cs S md F (n+1) listed a:=by
 intro n
 induction n with
 |zero=>
  intro listed a _ hr hy H;refine⟨fun h=>(by rw[h]at hr;cases hr),fun j hj=>?_⟩;by_cases hji:j=i'
  ·subst hji;exact hy.op hi H
  ·have:=ready_mono hj hji;rw[H.1]at this;cases this
 |succ n ih=>
  intro listed a hfree hr hy H;refine⟨fun h=>(by rw[h]at hr;cases hr),fun j hj=>?_⟩;by_cases hji:j=i'
  ·subst hji;exact hy.op hi H
  ·have h1:=H.2 j (ready_mono hj hji);obtain⟨hjun,oj,hoj,hall⟩:=mem_ready.1 hj;have hnot:∀e∈oj.after,Region.binds md e=true->e.on≠i':=fun e he hb heq=>by
    have h1:=hall e he hb;have h0:=(mem_ready.1 hr).1;rw[heq]at h1;rcases Nat.lt_or_ge i' listed.size with h'|h'
    ·simp[h']at h0 h1;rw[h0]at h1;cases h1
    ·simp[Array.getElem?_eq_none h']at h1
   have h2:=VK hoj (hfree j oj hoj hji hjun hnot) (fun cs b=>hsel i' oi cs b hi) (fun cs b=>hsel j oj cs b hoj) hy h1;have hfree':∀k ok,ops[k]?=some ok->k≠i'->(listed.setIfInBounds j true).getD k true=false->
     (∀e∈ok.after,Region.binds md e=true->e.on≠i')->oi.apart ops ok=true:=fun k ok hk hki hun hno=>by
    refine hfree k ok hk hki ?_ hno;by_cases hjk:j=k
    ·subst hjk;exact hjun
    ·rw[getD_set_ne true hjk]at hun;exact hun
   refine V8.mono h2 fun a' h3=>ih (listed.setIfInBounds j true) a' hfree' (ready_mono hr (Ne.symm hji)) h3.1 ?_
   rw[Array.setIfInBounds_comm _ _ hji];exact h3.2
theorem aN{md:Region.Mode}{F:Array Bool->Act->Prop}{i':Nat}{oi:Oper}{v:Value}{n:Nat}{listed:Array Bool}{a:Act}(hi:ops[i']?=some oi)(hs:Region.noSelect ops=true)(hf:Region.free md ops listed i'=true)(hr:(Region.ready md ops listed).contains i'=true)
  (hy:kZ C i Ch b ops k cs S i' oi v a)(h:JY C i Ch b ops k cs S md F n (listed.setIfInBounds i' true) (a.put oi.dst v)):JY C i Ch b ops k cs S md F (n+1) listed a:=
 Qs hi (Region.noSelect_spec hs) n listed a (Region.free_spec hi hf) (by simpa using hr) hy h
end
end
section
section
variable{q:ig}{i:Nat}{s:aO}{x:Wk}{Ch:Nat->Goroutine->St aJ->Prop}
theorem TT.ask{P:Program}(hP:q.P=P){g:Goroutine}{st:St aJ}(hA:At s i x st)(hx:x.wg=.work)
  (h:∀ah,At s i x ah->Inv q ah->∃g',stepG P (i==0) g ah.w=.go g' ah.w.asked #[]/\g'.status=.running/\
   ∀ay,At s i x ay->Inv q ay->(x.mx=.own .work->∀o,6<=o->o<16->ay.w.cell? ⟨s.Gb,o,none⟩=st.w.cell? ⟨s.Gb,o,none⟩)->TT (cfg q) i Ch g' ay):TT (cfg q) i Ch g st:=by
 subst hP;refine TT.act fun ah hr hi=>?_
 have au:=hA.rely (by rw[hx];simp) hr hi;obtain⟨g',h1,h2,h3⟩:=h ah au hi;have hold:ah.γ.old<=i:=by unfold aJ.old;rw[au.sc];exact au.lo
 have k:=hi.own au.lt (.inr hold) (fun _=>by rw[au.me];exact hx) (fn:=g.frame.fn) (pos:=g.frame.place) (es:=#[]) (w':=ah.w.asked) (Nat.le_refl _) (by simp) (by simp) (by simp) (.refl _) rfl (fun b _=>.inl rfl) (by simp);refine⟨au.oh (by rw[hx];simp),g',_,_,_,h1,h2,?_,k,.inr fun _ _ h=>h,h3 _ (au.next hi rfl rfl rfl au.me (fun _ h=>h) fun _ _ _ _ _=>rfl) k.1 fun hm o o1 o2=>?_⟩
 ·rfl
 ·exact hr.work hA.ne (by rw[hA.me,hx];simp) (by rw[hA.me,hx];simp) (by rw[hA.me];exact hm) s hA.sc o o1 o2
variable{b:Frame}{ops:Array Oper}{k:List Item}{cs:List Frame}{S:Array Bool->St aJ->Prop}
theorem Does.quiet{P:Program}(hP:q.P=P){j:Nat}{o:Oper}{X:Sem Next}{v:Value}(ho:ops[j]?=some o)(hk:b.kind≠ .early)(hS:∀l st,l.getD j true=false->S l st->(∃x:Wk,(x.wg≠ .lv/\x.wg≠ .gone/\x.wg≠ .idle)/\At s i x st)/\∀ah,Rl i st ah->Inv q ah->S (l.setIfInBounds j true) ah)
  (hrun:∀w,X.run P w=.ok (.value v) w)(hev:∀(a:Act) (w:World),execOp a.eval o=X->listed P b.fn a o w=#[]):Does (cfg q) i Ch b ops k cs S j o X v:=by
 subst hP;intro l a rest st hl hs he hw hn;obtain⟨⟨x,hx,hA⟩,hS'⟩:=hS l st hl hs;refine TT.step fun ah hr hi=>⟨fun hl=>absurd hl ((hA.rely hx hr hi).oh ⟨hx.1,hx.2.1⟩),?_⟩
 have hstep:stepG (cfg q).P (i==0) (G (b.at a (.inRegion ops (j::rest)::k)) cs) ah.w=.go (G (b.at (a.put o.dst v) (.inRegion ops rest::k)) cs) ah.w #[]:=by
  have:=stepG_value (P:=q.P) (main:=i==0) (cs:=cs) (k:=k) (rest:=rest) (w:=ah.w) ho hw hk (by rw[he];exact hrun ah.w);rw[hev a ah.w he]at this;exact this
 unfold iI;rw[hstep];have e:(⟨ah.w,ah.t++MemOp.ofEvents i (G (b.at a (.inRegion ops (j::rest)::k)) cs).frame.fn (G (b.at a (.inRegion ops (j::rest)::k)) cs).frame.place #[],ah.γ⟩:St aJ)=ah:=by rw[ofEvents_none,Array.append_empty]
 refine .inr ⟨ah.γ,by rw[e];exact hi,by rw[e],fun j hj=>by rw[e];exact Rl.refl j ah,.inr fun k _ hw=>by rw[e];exact hw,?_⟩;rw[e];exact .inl ⟨rfl,hn ah (hS' ah hr hi)⟩
theorem Does.enter{P:Program}(hP:q.P=P){j:Nat}{o:Oper}{X:Sem Next}{v:Value}{f:FuncId}{args:Array Value}(ho:ops[j]?=some o)(hk:b.kind≠ .early)(hS:∀l st,S l st->(∃x:Wk,(x.wg≠ .lv/\x.wg≠ .gone/\x.wg≠ .idle)/\At s i x st)/\∀ah,Rl i st ah->Inv q ah->S l ah)
  (hrun:∀w,X.run P w=.ok (.enter f args) w)(hev:∀(a:Act) (w:World),execOp a.eval o=X->listed P b.fn a o w=#[])
  (hT:∀(l:Array Bool) (a:Act) (rest:List Nat) (st:St aJ),l.getD j true=false->S l st->(∀st',S (l.setIfInBounds j true) st'->TT (cfg q) i Ch (G (b.at (a.put o.dst v) (.inRegion ops rest::k)) cs) st')->TT (cfg q) i Ch (G (Frame.enter P f args .normal) (b.at a (.inRegion ops (j::rest)::k)::cs)) st):Does (cfg q) i Ch b ops k cs S j o X v:=by
 subst hP;intro l a rest st hl hs he hw hn;obtain⟨⟨x,hx,hA⟩,hS'⟩:=hS l st hs;refine TT.step fun ah hr hi=>⟨fun hl=>absurd hl ((hA.rely hx hr hi).oh ⟨hx.1,hx.2.1⟩),?_⟩
 have hstep:stepG (cfg q).P (i==0) (G (b.at a (.inRegion ops (j::rest)::k)) cs) ah.w=.go (G (Frame.enter q.P f args .normal) (b.at a (.inRegion ops (j::rest)::k)::cs)) ah.w #[]:=by
  have:=stepG_enter (P:=q.P) (main:=i==0) (cs:=cs) (k:=k) (rest:=rest) (w:=ah.w) ho hw hk (by rw[he];exact hrun ah.w);rw[hev a ah.w he]at this;exact this
 unfold iI;rw[hstep];have e:(⟨ah.w,ah.t++MemOp.ofEvents i (G (b.at a (.inRegion ops (j::rest)::k)) cs).frame.fn (G (b.at a (.inRegion ops (j::rest)::k)) cs).frame.place #[],ah.γ⟩:St aJ)=ah:=by rw[ofEvents_none,Array.append_empty]
 refine .inr ⟨ah.γ,by rw[e];exact hi,by rw[e],fun j hj=>by rw[e];exact Rl.refl j ah,.inr fun k _ hw=>by rw[e];exact hw,?_⟩;rw[e];exact .inl ⟨rfl,hT l a rest ah hl (hS' ah hr hi) hn⟩
theorem Does.call{P:Program}(hP:q.P=P){j:Nat}{o:Oper}{a₀:Act}{v:Value}{f:FuncId}{fn:Func}{c:Code}{as:Array Operand}{ats:Array TypeId}{args:Array Value}(ho:ops[j]?=some o)(hk:b.kind≠ .early)(hop:o.op=.call {callee:=.value (.func f),args:=as,argTypes:=ats})
  (hf:P.funcs[f]?=some fn)(hname:(fn.name== "runtime.NumGoroutine")=false)(hb:fn.body=some c)(hargs:as.map a₀.eval=args)(hS:∀l st,S l st->(∃x:Wk,(x.wg≠ .lv/\x.wg≠ .gone/\x.wg≠ .idle)/\At s i x st)/\∀ah,Rl i st ah->Inv q ah->S l ah)
  (hT:∀(l:Array Bool) (a:Act) (rest:List Nat) (st:St aJ),l.getD j true=false->S l st->(∀st',S (l.setIfInBounds j true) st'->TT (cfg q) i Ch (G (b.at (a.put o.dst v) (.inRegion ops rest::k)) cs) st')->TT (cfg q) i Ch (G (Frame.enter P f args .normal) (b.at a (.inRegion ops (j::rest)::k)::cs)) st):Does (cfg q) i Ch b ops k cs S j o (execOp a₀.eval o) v:=by
 have hb':fn.body.isNone=false:=by rw[hb];rfl
 subst hargs;refine Does.enter hP ho hk hS (fun w=>run_call_body hop hf hname hb') (fun a w _=>?_) hT;unfold listed;rw[events_call_body hop hf hname hb'];exact seen_none P _
end
end
section
open Go.ConcR (KK wgBlock WgAt stA smA rd wr mk DC0)
open Go.ConcM (OsLater)
theorem cell_of{w w':World}{b off:Nat}(h:w'.heap[b]?=w.heap[b]?):w'.cell? ⟨b,off,none⟩=w.cell? ⟨b,off,none⟩:=by simp[World.cell?,h]
def Reads(i:Nat)(γ:aJ)(es:Array Event):Prop:=∀e∈es,∃b off,e=⟨.cell ⟨b,off,none⟩,false,false⟩/\γ.rd i (ca b off)
section
variable{q:ig}{i:Nat}{s:aO}{x:Wk}
theorem Rl.still(i:Nat)(st:St aJ)(t:Trace):Rl i st ⟨st.w,t,st.γ⟩:=
 ⟨Nat.le_refl _,fun _ _ h=>h,fun _ _ h=>h,fun _ _ _=>rfl,fun _=>rfl,fun _=>⟨rfl,rfl,rfl,fun _=>.rfl⟩,fun _=>rfl,fun _ _ _ _ _=>⟨Nat.le_refl _,fun _=>⟨rfl,rfl,rfl,rfl⟩,fun h=>h⟩,fun _ _ _=>⟨Nat.le_refl _,fun _=>rfl⟩,fun _ _ _ _ _ _ _ _ _=>rfl,fun _ _=>rfl,fun _ _ _=>Nat.le_refl _,Nat.le_refl _⟩
theorem Inv.read{st:St aJ}(h:Inv q st)(hA:At s i x st)(hx:x.wg=.work){es:Array Event}(hR:Reads i st.γ es)(fn:FuncId)(pos:String):
  Inv q ⟨st.w,st.t++MemOp.ofEvents i fn pos es,st.γ⟩/\∀j,j≠i->Rl j st ⟨st.w,st.t++MemOp.ofEvents i fn pos es,st.γ⟩:=by
 obtain⟨c,p,t⟩:=h.aZ s hA.sc;have A:=h.base.tr.Ic;have hl:=c.SS;have xY:∀{e:Event},e∈es->∀{y:Touch},(MemAct.ofEvent e).touch?=some y->∃b off,y=⟨ca b off,false,.plain⟩/\st.γ.rd i (ca b off):=by
  intro e he y hy;obtain⟨b,off,rfl,hr⟩:=hR e he;cases hy;exact⟨b,off,rfl,hr⟩
 have hops:∀op∈MemOp.ofEvents i fn pos es,op.g=i:=fun op ho=>by obtain⟨e,_,rfl⟩:=dZ ho;rfl
 refine h.gen hA.sc hA.mem (γ':=st.γ) rfl rfl (fun _=>.rfl) (fun e he y hy=>?_) (fun e he a=>?_) (fun _ e he y hy=>by obtain⟨b,off,rfl,_⟩:=xY he hy;simp) (fun T=>T) (fun j hj l=>⟨id,id⟩) h.base.pool rfl (fun b=>.inl rfl) (.refl _) rfl (fun _ _=>rfl) (fun _=>⟨rfl,rfl⟩) (fun e=>absurd e hA.ne) (fun _=>?_) ?_ p ?_ ⟨Nat.le_refl _,fun _=>⟨rfl,rfl,rfl,rfl⟩,id⟩ (fun _=>⟨Nat.le_refl _,fun _=>rfl⟩) (fun j hj e=>⟨rfl,fun _ _ _=>rfl⟩) (.inl (Nat.le_refl _))
 ·obtain⟨b,off,rfl,hr⟩:=xY he hy;exact⟨.inr (.inr (.inl ⟨hr,rfl⟩)),fun b' hb'=>A.zf _ _ hr _ hb'⟩
 ·obtain⟨b,off,rfl,hr⟩:=hR e he;simp
 ·refine⟨(cu fun e he=>?_).symm,by rw[hA.me,hx];simp⟩;obtain⟨b,off,rfl,hr⟩:=hR e he;simp
 ·exact⟨c.n0,c.gb,c.qV,c.zb,c.rb,c.ne,c.mu,c.D1,c.work,c.dn,c.syn,c.new,c.on,c.fin,c.all,c.uh⟩
 ·refine⟨fun h0 hn g hg off o1 o2=>?_,fun h1=>?_,fun j hj hj2 hw=>?_⟩
  ·refine(t.sh0 h0 hn g hg off o1 o2).app fun op hop b hb e=>?_
   obtain⟨e',he,rfl⟩:=dZ hop;obtain⟨b',off',rfl,hr⟩:=xY he hb;have e:ca b' off'=ca s.Gb off:=e;rw[e]at hr;exact absurd hr ((p.noS hn i off o1 o2).2.2 h0)
  ·obtain⟨r,r1,r2,r3⟩:=t.sh1 h1;have hp:=lt_of_act? r1.1;refine⟨r,r1.app fun op hop sync e=>?_,(heard_old hp).2 r2,fun off o1 o2 k a ha e hw=>?_⟩
   ·obtain⟨e',he,rfl⟩:=dZ hop;obtain⟨b',off',rfl,hr⟩:=hR e' he;cases e
   ·rcases eu ha with⟨hlt,ha'⟩|⟨_,op,hop,hx,hxa⟩
    ·exact(r3 off o1 o2 k a ha' e hw).app _
    ·obtain⟨e',he,rfl⟩:=dZ hop;obtain⟨b',off',rfl,hr⟩:=xY he hxa;cases hw
  ·have hw:(st.γ.wk j).wg≠ .work:=hw;have hji:j≠i:=fun e=>hw (by rw[e,hA.me];exact hx)
   obtain⟨r,r1,r2⟩:=t.rel j hj hj2 hw;have other:∀k,st.t.size<=k->(st.t++MemOp.ofEvents i fn pos es).g? k≠some j:=fun k hk hg=>by
    obtain⟨op,ho,hog⟩:=Option.map_eq_some_iff.1 hg;rcases getElem?_append_cases ho with⟨hlt2,_⟩|⟨_,hou⟩
    ·omega
    ·exact hji (hog.symm.trans (hops op hou))
   refine⟨r,r1.app fun k hk hg=>absurd hg (other k hk),fun k a hrk hg ha=>?_⟩;rcases Nat.lt_or_ge k st.t.size with hlt|hge
   ·exact r2 k a hrk (by simpa only[Trace.g?,getElem?_append_old hlt]using hg) (by rw[touchAt_old hlt]at ha;exact ha)
   ·exact absurd hg (other k hge)
variable{Ch:Nat->Goroutine->St aJ->Prop}
theorem TT.read{P:Program}(hP:q.P=P){g:Goroutine}{st:St aJ}(hA:At s i x st)(hx:x.wg=.work)
  (h:∀ah,Rl i st ah->Inv q ah->At s i x ah->∃g' es,stepG P (i==0) g ah.w=.go g' ah.w es/\g'.status=.running/\Reads i ah.γ es/\
   ∀ay,Rl i st ay->Inv q ay->At s i x ay->TT (cfg q) i Ch g' ay):TT (cfg q) i Ch g st:=by
 subst hP;refine TT.act fun ah hr hi=>?_
 have au:=hA.rely (by rw[hx];simp) hr hi;obtain⟨g',es,h1,h2,h3,h4⟩:=h ah hr hi au;have k:=hi.read au hx h3 g.frame.fn g.frame.place;exact⟨au.oh (by rw[hx];simp),g',_,_,ah.γ,h1,h2,rfl,k,.inr fun _ _ h=>h,h4 _ (hr.trans (Rl.still i ah _)) k.1 (au.next hi rfl rfl rfl au.me (fun _ h=>h) fun _ _ _ _ _=>rfl)⟩
variable{b:Frame}{ops:Array Oper}{k:List Item}{cs:List Frame}{S:Array Bool->St aJ->Prop}
theorem Does.reads{P:Program}(hP:q.P=P){j:Nat}{o:Oper}{X:Sem Next}{v:Value}(ho:ops[j]?=some o)(hk:b.kind≠ .early)
  (hS:∀l st,l.getD j true=false->S l st->(∃x:Wk,x.wg=.work/\At s i x st)/\∀ah,Rl i st ah->Inv q ah->S (l.setIfInBounds j true) ah/\X.run P ah.w=.ok (.value v) ah.w/\∀(a:Act),execOp a.eval o=X->Reads i ah.γ (listed P b.fn a o ah.w)):Does (cfg q) i Ch b ops k cs S j o X v:=by
 intro l a rest st hl hs he hw hn;obtain⟨⟨x,hx,hA⟩,hS'⟩:=hS l st hl hs;refine TT.read hP hA hx fun ah hr hi au=>⟨_,_,stepG_value ho hw hk (by rw[he];exact(hS' ah hr hi).2.1),rfl,(hS' ah hr hi).2.2 a he,fun ay hr₂ hi₂ aC=>hn ay (hS' ay hr₂ hi₂).1⟩
end
end
section
open Go.ConcR (KK wgBlock WgAt stA smA rd wr mk DC0)
open Go.ConcM (OsLater)
theorem EH{e:Event}(h:e.mute=true):(MemAct.ofEvent e).touch?=none/\∀a,e.loc≠ .mark (.release a):=by
 obtain⟨l,w,s⟩:=e;cases l with
 |mark m=>cases m<;>first|(cases h;done)|exact⟨rfl,by simp⟩
 |_=>cases h
theorem XQ{i:Nat}{fn:FuncId}{pos:String}{es:Array Event}(h:∀e∈es,Event.mute e=true):∀op∈MemOp.ofEvents i fn pos es,op.g=i/\op.act.touch?=none/\∀a,op.act≠ .mark (.release a):=by
 intro op ho;obtain⟨e,he,rfl⟩:=dZ ho;obtain⟨h1,h2⟩:=EH (h e he);exact⟨rfl,h1,fun a hm=>h2 a ((ou e _).1 hm)⟩
theorem Ea{f g:Nat->Nat}(h:∀k,f k<=g k):∀l:List Nat,(l.map f).sum<=(l.map g).sum
 |[]=>Nat.le_refl _
 |k::l=>by simp only[List.map_cons,List.sum_cons];have:=h k;have:=Ea h l;omega
theorem kD{t u:Trace}(hu:∀op∈u,op.act.touch?=none){k:Nat}(hk:t.size<=k):¬(t++u).counts k/\touchAt (t++u) k=none:=by
 have key:∀y,touchAt (t++u) k=some y->False:=by
  intro y hy;rcases eu hy with⟨hlt,_⟩|⟨_,op,hop,_,hx⟩
  ·omega
  ·rw[hu op hop]at hx;cases hx
 refine⟨fun⟨y,hy,_⟩=>key y ?_,?_⟩
 ·unfold touchAt;exact hy
 ·cases h:touchAt (t++u) k with
  |none=>rfl
  |some y=>exact(key y h).elim
section
variable{q:ig}{i:Nat}
theorem Inv.leave{st:St aJ}(h:Inv q st)(hi:i≠0)(hlt:i<st.γ.num)(hlv:(st.γ.wk i).wg=.lv){es:Array Event}(hm:∀e∈es,Event.mute e=true){w':WG}(hw:w'=.lv\/(w'=.gone/\deafBehind (st.γ.wk i).df es=0))(fn:FuncId)(pos:String):
  Inv q ⟨st.w,st.t++MemOp.ofEvents i fn pos es,{st.γ with wk:=upd st.γ.wk i {st.γ.wk i with df:=deafBehind (st.γ.wk i).df es,wg:=w'}}⟩/\
  ∀j,j≠i->Rl j st ⟨st.w,st.t++MemOp.ofEvents i fn pos es,{st.γ with wk:=upd st.γ.wk i {st.γ.wk i with df:=deafBehind (st.γ.wk i).df es,wg:=w'}}⟩:=by
 have A:=h.base.tr.Ic;have hops:=XQ (i:=i) (fn:=fn) (pos:=pos) hm;generalize hu:MemOp.ofEvents i fn pos es=u at hops ⊢;have hg:∀op∈u,op.g=i:=fun op ho=>(hops op ho).1
 have ht:∀op∈u,op.act.touch?=none:=fun op ho=>(hops op ho).2.1
 have at_:∀j,upd st.γ.wk i {st.γ.wk i with df:=deafBehind (st.γ.wk i).df es,wg:=w'} j=if j=i then{st.γ.wk i with df:=deafBehind (st.γ.wk i).df es,wg:=w'}else st.γ.wk j:=fun j=>rfl
 have hmx:∀j,(upd st.γ.wk i {st.γ.wk i with df:=deafBehind (st.γ.wk i).df es,wg:=w'} j).mx=(st.γ.wk j).mx:=fun j=>by
  rw[at_];split
  ·rename_i e;subst e;rfl
  ·rfl
 have hzw:∀j,(upd st.γ.wk i {st.γ.wk i with df:=deafBehind (st.γ.wk i).df es,wg:=w'} j).zw=(st.γ.wk j).zw:=fun j=>by
  rw[at_];split
  ·rename_i e;subst e;rfl
  ·rfl
 have hrw:∀j,(upd st.γ.wk i {st.γ.wk i with df:=deafBehind (st.γ.wk i).df es,wg:=w'} j).rw=(st.γ.wk j).rw:=fun j=>by
  rw[at_];split
  ·rename_i e;subst e;rfl
  ·rfl
 have pJ:∀j,(upd st.γ.wk i {st.γ.wk i with df:=deafBehind (st.γ.wk i).df es,wg:=w'} j).syn=(st.γ.wk j).syn:=fun j=>by
  rw[at_];split
  ·rename_i e;subst e;rfl
  ·rfl
 have hwi:(upd st.γ.wk i {st.γ.wk i with df:=deafBehind (st.γ.wk i).df es,wg:=w'} i).wg=w':=by rw[at_,if_pos rfl]
 have hwn:∀j,j≠i->upd st.γ.wk i {st.γ.wk i with df:=deafBehind (st.γ.wk i).df es,wg:=w'} j=st.γ.wk j:=fun j hj=>by rw[at_,if_neg hj]
 have w1:w'≠ .work/\w'≠ .idle/\w'.cd=false/\(w'== .d2)=false/\(w'== .d3)=false/\(w'== .d4)=false/\w'.cr<=1:=by
  rcases hw with e|⟨e,_⟩<;>subst e<;>decide
 have hcnt:∀(p:WG->Bool) (s:aO),p .lv=false->p w'=false->dF p {st.γ with wk:=upd st.γ.wk i {st.γ.wk i with df:=deafBehind (st.γ.wk i).df es,wg:=w'}} s=dF p st.γ s:=fun p s h1 h2=>by
  unfold dF;refine congrArg (fun f=>List.countP f _) (funext fun k=>?_);show p (upd st.γ.wk i _ (s.n0+k)).wg=p (st.γ.wk (s.n0+k)).wg;by_cases e:s.n0+k=i
  ·rw[e,hwi,hlv,h1,h2]
  ·rw[hwn _ e]
 have hmm:({st.γ with wk:=upd st.γ.wk i {st.γ.wk i with df:=deafBehind (st.γ.wk i).df es,wg:=w'}}:aJ).mm=st.γ.mm:=funext fun j=>hmx j
 have htr:Ie (st.t++u) st.γ.num st.w.heap.size st.γ.ex st.γ.rd st.γ.sh:=by
  refine(h.base.tr.step (Nat.le_refl _) hlt hg (fun op ho x hx=>?_) (fun op ho x hx=>?_) (fun op ho=>(hops op ho).2.2)).sub A (fun g l hl=>.inl hl) (fun g l hl=>.inl hl) fun g l hl=>.inl hl
  ·rw[ht op ho]at hx;cases hx
  ·rw[ht op ho]at hx;cases hx
 have P8:∀s,st.γ.sc=some s->qL {st.γ with wk:=upd st.γ.wk i {st.γ.wk i with df:=deafBehind (st.γ.wk i).df es,wg:=w'}} s<=qL st.γ s:=fun s _=>by
  unfold qL;refine Ea (fun k=>?_) _;show(upd st.γ.wk i _ (s.n0+k)).wg.cr<=(st.γ.wk (s.n0+k)).wg.cr;by_cases e:s.n0+k=i
  ·rw[e,hwi,hlv];exact w1.2.2.2.2.2.2
  ·rw[hwn _ e];exact Nat.le_refl _
 refine⟨⟨⟨h.base.pos,htr,h.base.Nu,?_,fun j hj hj2=>?_,fun j hj=>?_,h.base.os,h.base.out,fun j hj hj2=>?_,h.base.dead,fun k a ha hme=>?_,fun k g hk hne hlt2 hc=>?_,h.base.pool,fun j hj=>?_,fun j hj=>?_,fun k a ha hk=>?_,h.base.dsc⟩,h.solo,fun s hs=>?_⟩,fun j hj=>?_⟩
 ·show Deaf (st.t++u) 0=st.γ.dm;rw[Deaf_other st.t hi _ hg,h.base.dfm]
 ·show Deaf (st.t++u) j=(upd st.γ.wk i _ j).df;have hj2:j<st.γ.num:=hj2;by_cases e:j=i
  ·subst e;rw[at_,if_pos rfl,<-hu,Deaf_own,h.base.TL j hj hj2]
  ·rw[hwn j e,Deaf_other st.t (Ne.symm e) _ hg,h.base.TL j hj hj2]
 ·have hj:(upd st.γ.wk i {st.γ.wk i with df:=deafBehind (st.γ.wk i).df es,wg:=w'} j).wg=.gone:=hj;show j≠0/\j<st.γ.num/\(upd st.γ.wk i _ j).df=0;by_cases e:j=i
  ·subst e;rw[hwi]at hj;refine⟨hi,hlt,?_⟩;rw[at_,if_pos rfl];rcases hw with e|⟨_,e⟩
   ·rw[e]at hj;cases hj
   ·exact e
  ·rw[hwn j e]at hj ⊢;exact h.base.gone j hj
 ·show(upd st.γ.wk i {st.γ.wk i with df:=deafBehind (st.γ.wk i).df es,wg:=w'} j).wg=.lv\/(upd st.γ.wk i {st.γ.wk i with df:=deafBehind (st.γ.wk i).df es,wg:=w'} j).wg=.gone;by_cases e:j=i
  ·subst e;rw[hwi];exact hw.imp id (·.1)
  ·rw[hwn j e];exact h.base.old j hj hj2
 ·show(∃b,fE a.loc=some b/\st.γ.dead b)\/Knows (st.t++u) 0 k\/∃g,(st.t++u).g? k=some g/\st.γ.old<=g;rcases eu ha with⟨hlt2,ha'⟩|⟨_,op,hop,_,hxa⟩
  ·rcases h.base.know k a ha' hme with h1|h1|⟨g,h1,h2⟩
   ·exact .inl h1
   ·exact .inr (.inl (h1.app _))
   ·exact .inr (.inr ⟨g,by simp only[Trace.g?,getElem?_append_old hlt2]at h1 ⊢;exact h1,h2⟩)
  ·rw[ht op hop]at hxa;cases hxa
 ·have hc:(st.t++u).counts k:=hc;rcases Nat.lt_or_ge k st.t.size with hk2|hk2
  ·have hk':st.t.g? k=some g:=by simpa only[Trace.g?,getElem?_append_old hk2]using hk
   obtain⟨j,h1,h2⟩:=h.base.ho k g hk' hne hlt2 (by rw[counts_old hk2]at hc;exact hc);have hj:j<st.t.size:=by
    unfold Trace.g? at h1;obtain⟨op,ho,_⟩:=Option.map_eq_some_iff.1 h1;exact lt_size_of_getElem? ho
   exact⟨j,by simp only[Trace.g?,getElem?_append_old hj]at h1 ⊢;exact h1,hb_app _ h2⟩
  ·exact absurd hc (kD ht hk2).1
 ·show(upd st.γ.wk i _ j).mx=.fresh\/_=_;rw[hmx];exact h.base.Xr j hj
 ·have hj:st.γ.num<=j:=hj;exact(hwn j (by omega)).trans (h.base.nw j hj)
 ·show(st.t++u).g? k=some 0;rcases eu ha with⟨hlt2,ha'⟩|⟨_,op,hop,_,hxa⟩
  ·have:=h.base.said k a ha' hk;simp only[Trace.g?,getElem?_append_old hlt2]at this ⊢;exact this
  ·rw[ht op hop]at hxa;cases hxa
 ·have hs:st.γ.sc=some s:=hs;obtain⟨c,p,t⟩:=h.aZ s hs;refine⟨?_,?_,?_⟩
  ·exact{
    n0:=c.n0
    gb:=c.gb
    qV:=c.qV
    zb:=by
     obtain⟨Z,z1,z2,z3,z4⟩:=c.zb;exact⟨Z,z1,z2,z3,fun k k1 k2=>z4 k k1 ((hzw _).symm.trans k2)⟩
    rb:=by
     obtain⟨Z,z1,z2,z3,z4⟩:=c.rb;exact⟨Z,z1,z2,z3,fun k k1 k2=>z4 k k1 ((hrw _).symm.trans k2)⟩
    ne:=c.ne
    mu:=by have:=c.mu;rw[<-hmm]at this;exact this
    D1:=c.D1
    work:=fun j hj=>c.work j ((hmx j).symm.trans hj)
    dn:=fun j hj=>c.dn j ((hmx j).symm.trans hj)
    syn:=fun j h0 hj=>c.syn j h0 ((pJ j).symm.trans hj)
    new:=fun j hj=>by
     have hne:j≠i:=by have hj:st.γ.num<=j:=hj;omega
     show upd st.γ.wk i _ j=_;rw[hwn j hne];exact c.new j hj
    on:=fun j h1 h2=>by
     show(upd st.γ.wk i _ j).wg≠_;by_cases e:j=i
     ·rw[e,hwi];exact w1.2.1
     ·rw[hwn j e];exact c.on j h1 h2
    fin:=fun j h1 h2 h3=>by
     have h2:(upd st.γ.wk i {st.γ.wk i with df:=deafBehind (st.γ.wk i).df es,wg:=w'} j).wg≠ .idle:=h2;have h3:(upd st.γ.wk i {st.γ.wk i with df:=deafBehind (st.γ.wk i).df es,wg:=w'} j).wg≠ .work:=h3;have:=c.fin j h1 (by
      by_cases e:j=i
      ·rw[e,hlv];simp
      ·rw[hwn j e]at h2;exact h2) (by
      by_cases e:j=i
      ·rw[e,hlv];simp
      ·rw[hwn j e]at h3;exact h3)
     exact⟨(hzw j).trans this.1,(hrw j).trans this.2.1,by have:=this.2.2;rw[<-hmx j]at this;exact this⟩
    all:=c.all
    uh:=by
     have w:=c.uh;rw[<-hcnt WG.cd s rfl w1.2.2.1,<-hcnt (·== .d2) s rfl w1.2.2.2.1,<-hcnt (·== .d3) s rfl w1.2.2.2.2.1,<-hcnt (·== .d4) s rfl w1.2.2.2.2.2.1]at w;exact w}
  ·refine⟨p.spec,fun k k1 k2 k3=>p.J3 k k1 k2 ?_,p.Qj,p.OE,p.OC,fun j hj=>p.exS j ((hmx j).symm.trans hj),fun j h0 hj=>p.Xc j h0 ((pJ j).symm.trans hj),fun hn=>p.noS fun j hj=>hn j ((hmx j).trans hj)⟩;have k3:(upd st.γ.wk i {st.γ.wk i with df:=deafBehind (st.γ.wk i).df es,wg:=w'} (s.n0+k)).wg=.work:=k3;by_cases e:s.n0+k=i
   ·rw[e,hwi]at k3;exact absurd k3 w1.1
   ·rw[hwn _ e]at k3;exact k3
  ·refine t.app hg rfl rfl (fun hn j hj=>hn j ((hmx j).trans hj)) (fun j _ _ hw=>?_) (fun op ho y hy=>?_) fun _ _ k hk _=>?_
   ·have hw:(upd st.γ.wk i {st.γ.wk i with df:=deafBehind (st.γ.wk i).df es,wg:=w'} j).wg≠ .work:=hw;by_cases e:j=i
    ·rw[e,hlv];simp
    ·rw[hwn j e]at hw;exact hw
   ·rw[ht op ho]at hy;cases hy
   ·obtain⟨a,b⟩:=kD (t:=st.t) ht hk;exact⟨a,fun y hy=>by rw[b]at hy;cases hy⟩
 ·refine Rl.other hj (size:=0) A (Nat.le_refl _) (fun l hl=>hl) (fun l hl=>hl) (fun b=>.inl rfl) (fun k hk=>hwn k hk) (fun _=>⟨rfl,rfl,rfl,fun _=>.rfl⟩) rfl (fun s hs=>?_) (fun s hs _=>⟨P8 s hs,fun _=>rfl⟩) (fun hw=>⟨rfl,fun s hs off o1 o2=>rfl⟩) (fun _ _ _=>Nat.le_refl _) (Nat.le_refl _);unfold phi;have e:=hmm;refine⟨?_,fun _=>⟨rfl,rfl,rfl,rfl⟩,id⟩;show VU (aJ.mm {st.γ with wk:=upd st.γ.wk i {st.γ.wk i with df:=deafBehind (st.γ.wk i).df es,wg:=w'}}) s.n0 s.n (st.γ.tn+st.γ.th)<=_;rw[e];exact Nat.le_refl _
variable{Ch:Nat->Goroutine->St aJ->Prop}
theorem TT.quits{P:Program}(hP:q.P=P):∀(n:Nat) (g:Goroutine) (st:St aJ),i≠0->i<st.γ.num->(st.γ.wk i).wg=.lv->g.status=.running->QuitsD P n (st.γ.wk i).df g->TT (cfg q) i Ch g st:=by
 subst hP;intro n
 induction n with
 |zero=>intro g st _ _ _ hs hq;rw[hq.1]at hs;cases hs
 |succ n ih=>
  intro g st hi hlt hlv hs hq;refine TT.step fun ah hr hI=>?_
  have hr:Rl i st ah:=hr;have hI:Inv q ah:=hI;have hme:=hr.me hi;have Ji:i<ah.γ.num:=Nat.lt_of_lt_of_le hlt hr.num;have hd:Deaf ah.t i=(st.γ.wk i).df:=by rw[hI.base.TL i (by omega) Ji,hme]
  refine⟨fun _=>⟨n+1,by rw[hd];exact hq⟩,?_⟩;rcases hq with⟨h1,_⟩|⟨_,g',es,hm,hst,hq⟩
  ·rw[h1]at hs;cases hs
  have h0:(i==0)=false:=by simp[hi]
  have hstep:stepG (cfg q).P (i==0) g ah.w=.go g' ah.w es:=by rw[h0];exact hst ah.w
  unfold iI;rw[hstep];rcases hq.status with hs'|hs'
  ·obtain⟨a,b⟩:=hI.leave hi Ji (by rw[hme];exact hlv) hm (w':=.lv) (.inl rfl) g.frame.fn g.frame.place;refine .inr ⟨{ah.γ with wk:=upd ah.γ.wk i {ah.γ.wk i with df:=deafBehind (ah.γ.wk i).df es,wg:=.lv}},a,rfl,b,.inr fun k hk hw=>?_,.inl ⟨hs',?_⟩⟩
   ·exact mZ (st:=ah) (by rfl) (by rfl) (by rfl) (by rfl) (fun k hk=>by exact upd_ne _ _ hk) k hk hw
   ·refine ih g' _ hi Ji (congrArg Wk.wg (dJ _ _ _)) hs' ?_;show QuitsD q.P n (upd ah.γ.wk i {ah.γ.wk i with df:=deafBehind (ah.γ.wk i).df es,wg:=.lv} i).df g';rw[dJ,hme];exact hq
  ·have hd0:deafBehind (st.γ.wk i).df es=0:=by
    cases n with
    |zero=>exact hq.2
    |succ n=>
     rcases hq with⟨_,h⟩|⟨h,_⟩
     ·exact h
     ·rw[hs']at h;cases h
   obtain⟨a,b⟩:=hI.leave hi Ji (by rw[hme];exact hlv) hm (w':=.gone) (.inr ⟨rfl,by rw[hme];exact hd0⟩) g.frame.fn g.frame.place;refine .inr ⟨{ah.γ with wk:=upd ah.γ.wk i {ah.γ.wk i with df:=deafBehind (ah.γ.wk i).df es,wg:=.gone}},a,rfl,b,.inr fun k hk hw=>?_,.inr ⟨hs',hi,hi,congrArg Wk.wg (dJ _ _ _)⟩⟩;exact mZ (st:=ah) (by rfl) (by rfl) (by rfl) (by rfl) (fun k hk=>by exact upd_ne _ _ hk) k hk hw
end
end
section
open Go.ConcR (KK wgBlock WgAt stA smA rd wr mk DC0)
open Go.ConcM (OsLater)
theorem YU{t:Trace}{i:Nat}{fn:FuncId}{pos:String}{es:Array Event}{k:Nat}(hk:k<=es.size):(t++MemOp.ofEvents i fn pos es).deaf i (t.size+k)=deafBehind (Deaf t i) (es.extract 0 k):=by
 have e:es=es.extract 0 k++es.extract k es.size:=by
  rw[Array.extract_append_extract,Nat.max_eq_right hk];simp
 have e2:t++MemOp.ofEvents i fn pos es=(t++MemOp.ofEvents i fn pos (es.extract 0 k))++MemOp.ofEvents i fn pos (es.extract k es.size):=by
  rw[Array.append_assoc];congr 1;rw[ofEvents_eq,ofEvents_eq,ofEvents_eq,<-Array.map_append,<-e]
 have hs:(t++MemOp.ofEvents i fn pos (es.extract 0 k)).size=t.size+k:=by
  rw[ofEvents_eq,Array.size_append,Array.size_map,Array.size_extract];omega
 rw[e2,deaf_old (by rw[hs];exact Nat.le_refl _),<-hs];exact Deaf_own t i fn pos _
def Zl(s:aO)(d:Nat)(es:Array Event):Prop:=∀(k:Nat) (e:Event),es[k]?=some e->e.mute=true\/((∃off y,e=⟨ca s.Wg off,y,true⟩/\off<2)/\0<deafBehind d (es.extract 0 k))
theorem Oc{p:WG->Bool}{γ γ':aJ}{s:aO}{i:Nat}(hi:s.n0<=i)(hi2:i<s.n0+s.n)(hw:∀j,j≠i->(γ'.wk j).wg=(γ.wk j).wg):dF p γ' s+(if p (γ.wk i).wg=true then 1 else 0)=dF p γ s+if p (γ'.wk i).wg=true then 1 else 0:=by
 unfold dF;have key:∀(l:List Nat),l.Nodup->(∀k∈l,True)->(l.countP fun k=>p (γ'.wk (s.n0+k)).wg)+(if(i-s.n0)∈l then(if p (γ.wk i).wg=true then 1 else 0)else 0)=(l.countP fun k=>p (γ.wk (s.n0+k)).wg)+if(i-s.n0)∈l then(if p (γ'.wk i).wg=true then 1 else 0)else 0:=by
  intro l hl _
  induction l with
  |nil=>simp
  |cons k l ih=>
   rw[List.nodup_cons]at hl;have:=ih hl.2 (fun _ _=>trivial);rw[List.countP_cons,List.countP_cons];by_cases e:k=i-s.n0
   ·subst e;have hni:¬(i-s.n0)∈l:=hl.1;have hei:s.n0+(i-s.n0)=i:=by omega
    simp only[hni,if_false,List.mem_cons,true_or,if_true,hei]at this ⊢;omega
   ·have hne:s.n0+k≠i:=by omega
    have hmem:(i-s.n0)∈k::l↔(i-s.n0)∈l:=by simp[Ne.symm e]
    simp only[hmem,hw _ hne];omega
 have h:=key (List.range s.n) List.nodup_range (fun _ _=>trivial);have hm:(i-s.n0)∈List.range s.n:=List.mem_range.2 (by omega);simp only[hm,if_true]at h;exact h
theorem Q9{γ γ':aJ}{s:aO}{i:Nat}(hi:s.n0<=i)(hi2:i<s.n0+s.n)(hw:∀j,j≠i->(γ'.wk j).wg=(γ.wk j).wg):qL γ' s+(γ.wk i).wg.cr=qL γ s+(γ'.wk i).wg.cr:=by
 unfold qL;have key:∀(l:List Nat),l.Nodup->(l.map fun k=>(γ'.wk (s.n0+k)).wg.cr).sum+(if(i-s.n0)∈l then(γ.wk i).wg.cr else 0)=(l.map fun k=>(γ.wk (s.n0+k)).wg.cr).sum+if(i-s.n0)∈l then(γ'.wk i).wg.cr else 0:=by
  intro l hl
  induction l with
  |nil=>simp
  |cons k l ih=>
   rw[List.nodup_cons]at hl;have:=ih hl.2;simp only[List.map_cons,List.sum_cons];by_cases e:k=i-s.n0
   ·subst e;have hni:¬(i-s.n0)∈l:=hl.1;have hei:s.n0+(i-s.n0)=i:=by omega
    simp only[hni,if_false,List.mem_cons,true_or,if_true,hei]at this ⊢;omega
   ·have hne:s.n0+k≠i:=by omega
    have hmem:(i-s.n0)∈k::l↔(i-s.n0)∈l:=by simp[Ne.symm e]
    simp only[hmem,hw _ hne];omega
 have h:=key (List.range s.n) List.nodup_range;have hm:(i-s.n0)∈List.range s.n:=List.mem_range.2 (by omega);simp only[hm,if_true]at h;exact h
section
variable{q:ig}{i:Nat}{s:aO}{x:Wk}
theorem dX.Uh{st:St aJ}(c:dX q s st)(hA:At s i x st){w₁:WG}{fA:Nat}{gs₁ dV:Nat}{w':World}{t:Trace}(n1:w₁≠ .work)(n2:w₁≠ .idle)(hb:∀b,b≠s.Wg->w'.heap[b]?=st.w.heap[b]?)(hW:WgAt q.tW s.Wg w' gs₁ dV)
  (hfin:x.zw=true/\x.rw=true/\(x.mx=.fresh\/x.mx=.out))
  (hL:yO st.γ.mw (dF WG.cd {st.γ with wk:=upd st.γ.wk i {x with wg:=w₁,df:=fA},gs:=gs₁,gm:=dV} s) (dF (·== .d2) {st.γ with wk:=upd st.γ.wk i {x with wg:=w₁,df:=fA},gs:=gs₁,gm:=dV} s) (dF (·== .d3) {st.γ with wk:=upd st.γ.wk i {x with wg:=w₁,df:=fA},gs:=gs₁,gm:=dV} s) (dF (·== .d4) {st.γ with wk:=upd st.γ.wk i {x with wg:=w₁,df:=fA},gs:=gs₁,gm:=dV} s) gs₁ dV):
  dX q s ⟨w',t,{st.γ with wk:=upd st.γ.wk i {x with wg:=w₁,df:=fA},gs:=gs₁,gm:=dV}⟩:=by
 have at_:∀j,upd st.γ.wk i {x with wg:=w₁,df:=fA} j=if j=i then{x with wg:=w₁,df:=fA}else st.γ.wk j:=fun j=>rfl
 have hmx:∀j,(upd st.γ.wk i {x with wg:=w₁,df:=fA} j).mx=(st.γ.wk j).mx:=fun j=>by
  rw[at_];split
  ·rename_i e;subst e;rw[hA.me]
  ·rfl
 have hzw:∀j,(upd st.γ.wk i {x with wg:=w₁,df:=fA} j).zw=(st.γ.wk j).zw:=fun j=>by
  rw[at_];split
  ·rename_i e;subst e;rw[hA.me]
  ·rfl
 have hrw:∀j,(upd st.γ.wk i {x with wg:=w₁,df:=fA} j).rw=(st.γ.wk j).rw:=fun j=>by
  rw[at_];split
  ·rename_i e;subst e;rw[hA.me]
  ·rfl
 have pJ:∀j,(upd st.γ.wk i {x with wg:=w₁,df:=fA} j).syn=(st.γ.wk j).syn:=fun j=>by
  rw[at_];split
  ·rename_i e;subst e;rw[hA.me]
  ·rfl
 have hwn:∀j,j≠i->upd st.γ.wk i {x with wg:=w₁,df:=fA} j=st.γ.wk j:=fun j hj=>by rw[at_,if_neg hj]
 have hwi:upd st.γ.wk i {x with wg:=w₁,df:=fA} i={x with wg:=w₁,df:=fA}:=by rw[at_,if_pos rfl]
 have hmm:({st.γ with wk:=upd st.γ.wk i {x with wg:=w₁,df:=fA},gs:=gs₁,gm:=dV}:aJ).mm=st.γ.mm:=funext fun j=>hmx j
 exact{
  n0:=c.n0
  gb:=c.gb.of (hb _ c.ne.1) rfl ⟨rfl,rfl,rfl,rfl⟩ rfl
  qV:=hW
  zb:=by
   obtain⟨Z,z1,z2,z3,z4⟩:=c.zb;exact⟨Z,(hb _ c.ne.2.2.2.1.symm).trans z1,z2,z3,fun k k1 k2=>z4 k k1 ((hzw _).symm.trans k2)⟩
  rb:=by
   obtain⟨Z,z1,z2,z3,z4⟩:=c.rb;exact⟨Z,(hb _ c.ne.2.2.2.2.1.symm).trans z1,z2,z3,fun k k1 k2=>z4 k k1 ((hrw _).symm.trans k2)⟩
  ne:=c.ne
  mu:=by have:=c.mu;rw[<-hmm]at this;exact this
  D1:=c.D1
  work:=fun j hj=>c.work j ((hmx j).symm.trans hj)
  dn:=fun j hj=>c.dn j ((hmx j).symm.trans hj)
  syn:=fun j h0 hj=>c.syn j h0 ((pJ j).symm.trans hj)
  new:=fun j hj=>by
   have hne:j≠i:=by have:=hA.lt;have hj:st.γ.num<=j:=hj;omega
   show upd st.γ.wk i _ j=_;rw[hwn j hne];exact c.new j hj
  on:=fun j h1 h2=>by
   show(upd st.γ.wk i _ j).wg≠_;by_cases e:j=i
   ·rw[e,hwi];exact n2
   ·rw[hwn j e];exact c.on j h1 h2
  fin:=fun j h1 h2 h3=>by
   have h2:(upd st.γ.wk i {x with wg:=w₁,df:=fA} j).wg≠ .idle:=h2;have h3:(upd st.γ.wk i {x with wg:=w₁,df:=fA} j).wg≠ .work:=h3;show(upd st.γ.wk i {x with wg:=w₁,df:=fA} j).zw=true/\(upd st.γ.wk i {x with wg:=w₁,df:=fA} j).rw=true/\((upd st.γ.wk i {x with wg:=w₁,df:=fA} j).mx=.fresh\/(upd st.γ.wk i {x with wg:=w₁,df:=fA} j).mx=.out);by_cases e:j=i
   ·rw[e,hwi];exact hfin
   ·rw[hwn j e]at h2 h3 ⊢;exact c.fin j h1 h2 h3
  all:=c.all
  uh:=hL}
theorem tX.Uh{st:St aJ}(p:tX s st.γ)(hA:At s i x st){w₁:WG}{fA:Nat}{gs₁ dV:Nat}(n1:w₁≠ .work):tX s {st.γ with wk:=upd st.γ.wk i {x with wg:=w₁,df:=fA},gs:=gs₁,gm:=dV}:=by
 have at_:∀j,upd st.γ.wk i {x with wg:=w₁,df:=fA} j=if j=i then{x with wg:=w₁,df:=fA}else st.γ.wk j:=fun j=>rfl
 have hmx:∀j,(upd st.γ.wk i {x with wg:=w₁,df:=fA} j).mx=(st.γ.wk j).mx:=fun j=>by
  rw[at_];split
  ·rename_i e;subst e;rw[hA.me]
  ·rfl
 have pJ:∀j,(upd st.γ.wk i {x with wg:=w₁,df:=fA} j).syn=(st.γ.wk j).syn:=fun j=>by
  rw[at_];split
  ·rename_i e;subst e;rw[hA.me]
  ·rfl
 refine⟨p.spec,fun k k1 k2 k3=>p.J3 k k1 k2 ?_,p.Qj,p.OE,p.OC,fun j hj=>p.exS j ((hmx j).symm.trans hj),fun j h0 hj=>p.Xc j h0 ((pJ j).symm.trans hj),fun hn=>p.noS fun j hj=>hn j ((hmx j).trans hj)⟩;have k3:(upd st.γ.wk i {x with wg:=w₁,df:=fA} (s.n0+k)).wg=.work:=k3;rw[at_]at k3;split at k3
 ·exact absurd k3 n1
 ·exact k3
theorem Inv.Uh{st:St aJ}(h:Inv q st)(hA:At s i x st)(hx:x.wg≠ .work){w₁:WG}{gs₁ dV:Nat}{es:Array Event}{w':World}(n1:w₁≠ .work)(n2:w₁≠ .idle)(n3:w₁≠ .gone)(hx1:x.wg≠ .idle)
  (hev:Zl s x.df es)(hsz:w'.heap.size=st.w.heap.size)(hb:∀b,b≠s.Wg->w'.heap[b]?=st.w.heap[b]?)(hos:OsLater st.w.os w'.os)(hout:w'.output=st.w.output)(hW:WgAt q.tW s.Wg w' gs₁ dV)
  (hcr:w₁.cr<x.wg.cr){fA:Nat}(hdf:fA=deafBehind x.df es)
  (hL:yO st.γ.mw (dF WG.cd {st.γ with wk:=upd st.γ.wk i {x with wg:=w₁,df:=fA},gs:=gs₁,gm:=dV} s) (dF (·== .d2) {st.γ with wk:=upd st.γ.wk i {x with wg:=w₁,df:=fA},gs:=gs₁,gm:=dV} s) (dF (·== .d3) {st.γ with wk:=upd st.γ.wk i {x with wg:=w₁,df:=fA},gs:=gs₁,gm:=dV} s) (dF (·== .d4) {st.γ with wk:=upd st.γ.wk i {x with wg:=w₁,df:=fA},gs:=gs₁,gm:=dV} s) gs₁ dV)(fn:FuncId)(pos:String):
  Inv q ⟨w',st.t++MemOp.ofEvents i fn pos es,{st.γ with wk:=upd st.γ.wk i {x with wg:=w₁,df:=fA},gs:=gs₁,gm:=dV}⟩/\∀j,j≠i->Rl j st ⟨w',st.t++MemOp.ofEvents i fn pos es,{st.γ with wk:=upd st.γ.wk i {x with wg:=w₁,df:=fA},gs:=gs₁,gm:=dV}⟩:=by
 subst hdf;have X:=h.aZ s hA.sc;have c:=X.c;have hi2:=hA.hi h;have hfin:=c.fin i hA.lo (by rw[hA.me];exact hx1) (by rw[hA.me];exact hx);rw[hA.me]at hfin;have hmx:∀j,(upd st.γ.wk i {x with wg:=w₁,df:=deafBehind x.df es} j).mx=(st.γ.wk j).mx:=fun j=>by
  unfold upd;split
  ·rename_i e;subst e;rw[hA.me]
  ·rfl
 have hwn:∀j,j≠i->upd st.γ.wk i {x with wg:=w₁,df:=deafBehind x.df es} j=st.γ.wk j:=fun j hj=>upd_ne _ _ hj
 have hwi:upd st.γ.wk i {x with wg:=w₁,df:=deafBehind x.df es} i={x with wg:=w₁,df:=deafBehind x.df es}:=dJ _ _ _;have hmm:({st.γ with wk:=upd st.γ.wk i {x with wg:=w₁,df:=deafBehind x.df es},gs:=gs₁,gm:=dV}:aJ).mm=st.γ.mm:=funext fun j=>hmx j
 have hps:=Q9 (γ:=st.γ) (γ':={st.γ with wk:=upd st.γ.wk i {x with wg:=w₁,df:=deafBehind x.df es},gs:=gs₁,gm:=dV}) hA.lo hi2 (fun j hj=>congrArg Wk.wg (hwn j hj));have e1:(({st.γ with wk:=upd st.γ.wk i {x with wg:=w₁,df:=deafBehind x.df es},gs:=gs₁,gm:=dV}:aJ).wk i).wg=w₁:=congrArg Wk.wg hwi;rw[e1,hA.me]at hps;have hp:VU (aJ.mm {st.γ with wk:=upd st.γ.wk i {x with wg:=w₁,df:=deafBehind x.df es},gs:=gs₁,gm:=dV}) s.n0 s.n (st.γ.tn+st.γ.th)=phi st.γ s:=by rw[hmm];rfl
 have hdeaf:Deaf st.t i=x.df:=by rw[h.base.TL i (by have:=hA.ne;omega) hA.lt,hA.me]
 refine h.act hA.sc hA.mem (γ':={st.γ with wk:=upd st.γ.wk i {x with wg:=w₁,df:=deafBehind x.df es},gs:=gs₁,gm:=dV}) ⟨rfl,rfl,rfl,rfl,rfl,rfl⟩ (fun e he=>?_) (fun e he=>?_) hsz (fun b _ hb'=>hb b hb') (fun off _ _=>cell_of (hb _ c.ne.1)) hos hout hwn (fun _=>⟨rfl,rfl⟩) (fun e=>absurd e hA.ne) (fun _=>?_) ?_ (X.p.Uh hA n1) rfl (fun hn j hj=>hn j ((hmx j).trans hj)) (fun _ _=>by rw[hA.me];exact hx) (fun _ _ k hk hg=>?_) ?_ (fun _=>⟨by omega,fun e=>by omega⟩) (.inl (Nat.le_refl _))
 ·obtain⟨k,hk⟩:=Array.mem_iff_getElem?.1 he;rcases hev k e hk with hm|⟨⟨off,y,rfl,ho⟩,_⟩
  ·obtain⟨l,w,sy⟩:=e;cases l with
   |mark m=>cases m<;>first|(cases hm;done)|exact .inr (.inl ⟨_,rfl,by simp,by simp,by simp⟩)
   |_=>cases hm
  ·exact .inl ⟨_,_,_,rfl,.inr ⟨rfl,ho⟩⟩
 ·obtain⟨k,hk⟩:=Array.mem_iff_getElem?.1 he;rcases hev k e hk with hm|⟨⟨off,y,rfl,ho⟩,_⟩
  ·intro e';subst e';cases hm
  ·intro e';have:s.Wg=s.Gb:=by unfold ca at e';simp at e';exact e'.1.1
   exact c.ne.1 this.symm
 ·exact⟨(congrArg Wk.df hwi).trans (by rw[hA.me]),fun e=>n3 (e1.symm.trans e)⟩
 ·exact c.Uh hA n1 n2 hb hW hfin hL
 ·have xY:∀y,touchAt (st.t++MemOp.ofEvents i fn pos es) k=some y->y.kind=.atomic/\(∃off,y.loc=ca s.Wg off)/\(st.t++MemOp.ofEvents i fn pos es).deaf i k≠0:=by
   intro y hy;obtain⟨op,ho,hop⟩:=touch_of hy;rcases getElem?_append_cases ho with⟨hlt,_⟩|⟨hge,hou⟩
   ·omega
   ·have hk':(MemOp.ofEvents i fn pos es)[k-st.t.size]?=some op:=by
     rw[Array.getElem?_append_right hk]at ho;exact ho
    rw[ofEvents_eq,Array.getElem?_map]at hk';obtain⟨e,he,rfl⟩:=Option.map_eq_some_iff.1 hk';rcases hev _ e he with hm|⟨⟨off,z,rfl,ho'⟩,hd⟩
    ·rw[(EH hm).1]at hop;cases hop
    ·cases hop;refine⟨rfl,⟨off,rfl⟩,?_⟩;have hlt:=(Array.getElem?_eq_some_iff.1 he).1;have:=YU (t:=st.t) (i:=i) (fn:=fn) (pos:=pos) (es:=es) (k:=k-st.t.size) (Nat.le_of_lt hlt);rw[show st.t.size+(k-st.t.size)=k by omega,hdeaf]at this;omega
  refine⟨fun⟨y,hy,hm,hc⟩=>?_,fun y hy=>?_⟩
  ·have hy':touchAt (st.t++MemOp.ofEvents i fn pos es) k=some y:=hy;obtain⟨a,_,b⟩:=xY y hy';rcases hc with hc|hc
   ·exact hc a
   ·obtain⟨g,hg',hd'⟩:=hc;rw[hg]at hg';cases hg';exact b hd'
  ·obtain⟨_,⟨off,ho⟩,_⟩:=xY y hy;rw[ho];rfl
 ·exact⟨by show VU _ _ _ _<=_;rw[hp];exact Nat.le_refl _,fun _=>⟨rfl,rfl,rfl,rfl⟩⟩
theorem Ui{d:Nat}{es:Array Event}(h:∀e∈es,Event.mute e=true):Zl s d es:=fun k e hk=>.inl (h e (Array.mem_of_getElem? hk))
theorem rY{d:Nat}{es:Array Event}(hd:0<d)(h:∀e∈es,∃off y,e=⟨ca s.Wg off,y,true⟩/\off<2):Zl s d es:=fun k e hk=>by
 refine .inr ⟨h e (Array.mem_of_getElem? hk),?_⟩;rw[cu]
 ·exact hd
 ·intro e' he';obtain⟨off,y,rfl,_⟩:=h e' (by
   obtain⟨j,hj⟩:=Array.mem_iff_getElem?.1 he';rw[Array.getElem?_extract]at hj;split at hj
   ·exact Array.mem_of_getElem? hj
   ·cases hj)
  exact⟨by unfold ca;simp,by unfold ca;simp⟩
theorem Wx{d:Nat}:Zl s d (semEvents (smA s.Wg)):=fun k e hk=>by
 unfold semEvents at hk ⊢
 match k,hk with
 |0,hk=>simp at hk;subst hk;exact .inl rfl
 |1,hk=>
  simp at hk;subst hk;exact .inr ⟨⟨1,false,rfl,by omega⟩,by simp[deafBehind]⟩
 |2,hk=>
  simp at hk;subst hk;exact .inr ⟨⟨1,true,rfl,by omega⟩,by simp[deafBehind]⟩
 |3,hk=>simp at hk;subst hk;exact .inl rfl
 |k+4,hk=>simp at hk
end
end
end Cc
end Go.Proofs.Ytpfpokjaeffbjab
