/- Part of the proof: SignerCommit, SignPlain, SignerSign, Lagrange. -/
import Derived.Test.YtpfpokjaeffbjabBb24
import Derived.Test.YtpfpokjaeffbjabBb12
import Derived.Test.YtpfpokjaeffbjabBb11
import Derived.Test.YtpfpokjaeffbjabBb10
set_option linter.unusedVariables false
set_option linter.unusedSimpArgs false
set_option maxRecDepth 100000
set_option maxHeartbeats 16000000
namespace Go.Proofs.Ytpfpokjaeffbjab
namespace uz
open Go.RowKit Go.MuLone Go.Conc.Locks Pl ny oI ni qj Mem JO JI oG Ud Gn Chk Lck
theorem KF{w w':World}{a:Loc}{s:St}{pl:List (Int×Int)}(h:qU w a s)(hg:w.grownBy w' (some a.M))(hM:MapAt w' a.M s.id pl):qU w' a {s with pl:=pl}:=by
 obtain⟨n1,n2,n3,n4,n5⟩:=h.leave.apart;have hlt:∀k∈a.foot,k<w.heap.size:=fun k hk=>h.leave.lt k hk |> fun h=>by simpa using h
 have hb:∀k,k<w.heap.size->k≠a.M->w'.heap[k]?=w.heap[k]?:=fun k hk hne=>hg.block k hk (by simp;exact hne)
 refine⟨h.sg.grown hg (by simp;exact n3),h.grp.grown hg (by simp;exact n4),rE h.own (hb _ (hlt _ (by simp[Loc.foot])) n5),hM⟩
def ZG(w:World)(a:Loc)(s:St)(d e:Int)(B:Nat)(wx:World):Prop:=
 qU wx a s/\bZ wx w.heap.size 37 #[.int .i64 0,.int .u64 0,.int .u64 0]/\bZ wx B 37 #[.int .i64 s.id,.int .u64 (pw 4 d.toNat 2147483579),.int .u64 (pw 4 e.toNat 2147483579)]/\Only a.foot w wx
theorem Jv(w:World)(a:Loc)(s:St)(d e:Int)(h:jq w a s)(hok:Ok s)(hd:0<=d/\d<18446744073709551616)(he:0<=e/\e<18446744073709551616):
  Calls Try.prog 13 #[.pointer (some ⟨a.S,0,none⟩),.int .u64 d,.int .u64 e] w fun x w'=>x=.returned (.tuple #[pz (YX s d e),.int .i64 (Bj s d e)])/\jq w' a (Oa s d e)/\Only a.foot w w':=by
 have hbox:=aK w (.cells #[.int .i64 0,.int .u64 0,.int .u64 0] 37);have hA:jq (w.alloc (.cells #[.int .i64 0,.int .u64 0,.int .u64 0] 37)) a s:=h.keep fun k hk=>hbox.block k (h.lt k hk)
 have hR0:bZ (w.alloc (.cells #[.int .i64 0,.int .u64 0,.int .u64 0] 37)) w.heap.size 37 #[.int .i64 0,.int .u64 0,.int .u64 0]:=bZ.new _ _ _;have hRf:w.heap.size∉a.foot:=fun hk=>by have:=h.lt _ hk;omega
 have hRs:a.S≠w.heap.size:=fun e=>hRf (e ▸ nM a)
 have h0:(w.alloc (.cells #[.int .i64 0,.int .u64 0,.int .u64 0] 37)).cell? ⟨a.S,0,none⟩=some (.int .i32 0):=hA.sg.cell 0;have hz:=hA.sg.frozen 0;have hI:=hA.enter;have hR1:=hR0.far (p:=⟨a.S,0,none⟩) (Ne.symm hRs) (.int .i32 1);have hlk:=lock_free muLib ⟨a.S,0,none⟩ _ h0 hz;have hO1:=((Only.refl a.foot w).alloc (.cells #[.int .i64 0,.int .u64 0,.int .u64 0] 37)).gK (nM a) 0 (.int .i32 1);have HLK:=Lib.hid hlk;have HI:=Lib.hid hI;have HR1:=Lib.hid hR1;have Zw:=Lib.hid hO1;have HRF:=Lib.hid hRf;have VP:=Lib.hid hok;have Vb:=hok.id9;have hinj:∀q∈s.pl,∀q'∈s.pl,iw s.id q=iw s.id q'->q=q':=fun q h1 q' h2 h3=>Fz (hok.sc q h1) (hok.sc q' h2) h3
 have bH1:=Lib.hid hinj;obtain⟨hd0,hd1⟩:=hd;obtain⟨he0,he1⟩:=he;have bZ0:w.heap.size<((w.alloc (.cells #[.int .i64 0,.int .u64 0,.int .u64 0] 37)).setCell ⟨a.S,0,none⟩ (.int .i32 1)).heap.size:=by simp
 obtain⟨c0,c2,c3,c4,c5⟩:=hI.cells;clear h hok hbox hA hR0 hRf h0 hz hI hR1 hlk hO1 hinj c0 c2 c4
 go_enter_defers Try.func13,Try.ntmps13
 go_wp2_with (go_at_call 28;refine HLK.out.mono ?_;rintro e w' ⟨rfl,rfl⟩)
 obtain⟨b1,e1⟩:∃b,decide (d<1073741789)=b:=⟨_,rfl⟩;obtain⟨b2,e2⟩:∃b,decide (e<1073741789)=b:=⟨_,rfl⟩;have E1:=Lib.hid e1;have E2:=Lib.hid e2;clear e1 e2 HLK;generalize(w.alloc (.cells #[.int .i64 0,.int .u64 0,.int .u64 0] 37)).setCell ⟨a.S,0,none⟩ (.int .i32 1)=W1 at*;refine(xB b1 d _ E1.out).mono ?_;rintro x w' ⟨rfl,rfl⟩
 go_wp2_with fail
 refine(xB b2 e _ E2.out).mono ?_;rintro x w' ⟨rfl,rfl⟩;have hB5:W1.heap.size∉a.foot:=fun hk=>by
  have h1:∀k∈a.foot,k<W1.heap.size:=fun k hk=>HI.out.leave.lt k hk |> fun h=>by simpa using h
  exact Nat.lt_irrefl _ (h1 _ hk)
 go_upto_region 5 with fail
 go_cut [12]from 32 to 40 (fun p wx=>p=.pointer (some ⟨W1.heap.size,0,none⟩)/\ZG w a s d e W1.heap.size wx/\W1.heap.size<wx.heap.size)
 case first=>
  go_region_held3 (fun w'=>w'.cell? ⟨a.S,3,none⟩=some (.int .i64 s.id)) (go_keep)
   (first|(go_at_call 31;refine(Ib _ _ (by first|exact hd0|exact he0) (by first|exact hd1|exact he1)).mono ?_;rintro x w' ⟨rfl,rfl⟩))
  all_goals
   have aJ9:Below W1.heap.size W1 (W1.alloc (.cells #[.int .i64 s.id,.int .u64 (pw 4 d.toNat 2147483579),.int .u64 (pw 4 e.toNat 2147483579)] 37)).drew:=(aK _ _).drew
   go_wp2_with fail
   go_meet
   exact⟨rfl,⟨HI.out.later aJ9,HR1.out.below aJ9 HR1.out.lt,bZ.new _ _ _,Zw.out.then_ aJ9⟩,by simp⟩
 case rest=>
  obtain⟨rfl,⟨hI5,hR5,hC5,hO5⟩,hsz5⟩:=hcut
  rename World=>W5
  obtain⟨q,bh,hlook,hbh,-⟩:=MK (M:=a.M) Vb bH1.out (wU Vb (d,e));have hM5:=hI5.map;have aJ2:(Instr.lookup 73 (.map (some a.M)) (.agg #[.int .i64 s.id,.int .u64 (pw 4 d.toNat 2147483579),.int .u64 (pw 4 e.toNat 2147483579)]) true).run Try.prog W5.drew=.ok (.tuple #[.agg #[.int .u64 q.1,.int .u64 q.2],.bool bh]) W5.drew:=hlook W5.drew hM5;have hlk2:(Instr.lookup 73 (.map (some a.M)) (.agg #[.int .i64 s.id,.int .u64 (pw 4 d.toNat 2147483579),.int .u64 (pw 4 e.toNat 2147483579)]) true).run Try.prog (W5.alloc (.cells #[.int .u64 0,.int .u64 0] 88)).drew=.ok (.tuple #[.agg #[.int .u64 q.1,.int .u64 q.2],.bool bh]) (W5.alloc (.cells #[.int .u64 0,.int .u64 0] 88)).drew:=
   hlook _ (hM5.of_block (heap_alloc_old W5 _ hM5.lt))
  have hS5:=hI5.sg.lt;have hpb:∀o:Array Value,Below W5.heap.size W5 (W5.alloc (.cells o 88)).drew:=fun o=>(aK _ _).drew
  have HPB:=Lib.hid hpb;obtain⟨f0,f2,f3,f4,f5⟩:=hI5.cells;have g0:W5.cell? ⟨W1.heap.size,0,none⟩=some (.int .i64 s.id):=hC5.cell 0;have g1:W5.cell? ⟨W1.heap.size,1,none⟩=some (.int .u64 (pw 4 d.toNat 2147483579)):=hC5.cell 1;have g2:W5.cell? ⟨W1.heap.size,2,none⟩=some (.int .u64 (pw 4 e.toNat 2147483579)):=hC5.cell 2;have HI5:=Lib.hid hI5;have HR5:=Lib.hid hR5;have HC5:=Lib.hid hC5;have HO5:=Lib.hid hO5;have HBH:=Lib.hid hbh;clear hI5 hR5 hC5 hO5 hbh hlook c3 c5 HI HR1 Zw f0 f2 f4 hpb hM5
  go_upto_region 6 with fail
  go_cut [13,14]from 41 to 49 (fun pp p wx=>p=.bool bh/\ZG w a s d e W1.heap.size wx)
  case first=>
   go_region
   all_goals
    go_wp2_with fail
    go_meet
    exact⟨rfl,HI5.out.later (HPB.out _),HR5.out.below (HPB.out _) HR5.out.lt,HC5.out.below (HPB.out _) HC5.out.lt,HO5.out.then_ (HPB.out _)⟩
  case rest=>
   obtain⟨rfl,hI6,hR6,hC6,hO6⟩:=hcut;clear aJ2 hlk2 hS5 f3 f5 g0 g1 g2 HI5 HR5 HC5 HO5 HPB
   rename World=>W6
   have r0:W6.cell? ⟨w.heap.size,0,none⟩=some (.int .i64 0):=hR6.cell 0;have r1:W6.cell? ⟨w.heap.size,1,none⟩=some (.int .u64 0):=hR6.cell 1;have r2:W6.cell? ⟨w.heap.size,2,none⟩=some (.int .u64 0):=hR6.cell 2;have z0:=hR6.frozen 0;have z1:=hR6.frozen 1;have z2:=hR6.frozen 2;have HI6:=Lib.hid hI6;have HR6:=Lib.hid hR6;have HC6:=Lib.hid hC6;have HO6:=Lib.hid hO6;have hq0:=hO6.size;clear hI6 hR6 hC6 hO6;cases b1
   case false=>
    have hE:=Lib.hid (DK (s:=s) (d:=d) (e:=e) (.inr (.inr (.inl (by have:=E1.out;rw[decide_eq_false_iff_not]at this;omega)))))
    go_wp2_with fail
    have hIe:=mJ HI6.out HRF.out (.int .i64 0) (.int .u64 0) (.int .u64 0);have hRe:=Qo HR6.out (.int .i64 0) (.int .u64 0) (.int .u64 0);have Vf:=((HO6.out.qN (Nat.le_refl w.heap.size) 0 (.int .i64 0)).qN (Nat.le_refl w.heap.size) 1 (.int .u64 0)).qN (Nat.le_refl w.heap.size) 2 (.int .u64 0);generalize(((W6.setCell ⟨w.heap.size,0,none⟩ (.int .i64 0)).setCell ⟨w.heap.size,1,none⟩ (.int .u64 0)).setCell ⟨w.heap.size,2,none⟩ (.int .u64 0))=W7 at*;have hRl:=hRe.far (p:=⟨a.S,0,none⟩) (Ne.symm hRs) (.int .i32 0);have x0:(W7.setCell ⟨a.S,0,none⟩ (.int .i32 0)).cell? ⟨w.heap.size,0,none⟩=some (.int .i64 0):=hRl.cell 0;have x1:(W7.setCell ⟨a.S,0,none⟩ (.int .i32 0)).cell? ⟨w.heap.size,1,none⟩=some (.int .u64 0):=hRl.cell 1;have x2:(W7.setCell ⟨a.S,0,none⟩ (.int .i32 0)).cell? ⟨w.heap.size,2,none⟩=some (.int .u64 0):=hRl.cell 2;refine leaves_cons (f:=29) (args:=#[.pointer (some ⟨a.S,0,none⟩)]) (by simp) (by simp[go_sem]) ?_;refine(unlock_deferred muLib ⟨a.S,0,none⟩ .returning _ hIe.cells.1 (hIe.sg.frozen 0)).mono ?_;rintro x u' w'' ⟨rfl,rfl,rfl⟩;refine⟨.tuple #[.agg #[.int .i64 0,.int .u64 0,.int .u64 0],.int .i64 2],by simp[results,Try.results13,go_sem,x0,x1,x2],?_⟩;have hcb:=wW (s:=s) (d:=d) (e:=e) (by rw[hE.out];omega);exact⟨by rw[hcb.2,hE.out];rfl,by rw[hcb.1];exact hIe.leave,Vf.gK (nM a) 0 _⟩
   cases b2
   case false=>
    have hE:=Lib.hid (DK (s:=s) (d:=d) (e:=e) (.inr (.inr (.inr (by have:=E2.out;rw[decide_eq_false_iff_not]at this;omega)))))
    go_wp2_with fail
    have hIe:=mJ HI6.out HRF.out (.int .i64 0) (.int .u64 0) (.int .u64 0);have hRe:=Qo HR6.out (.int .i64 0) (.int .u64 0) (.int .u64 0);have Vf:=((HO6.out.qN (Nat.le_refl w.heap.size) 0 (.int .i64 0)).qN (Nat.le_refl w.heap.size) 1 (.int .u64 0)).qN (Nat.le_refl w.heap.size) 2 (.int .u64 0);generalize(((W6.setCell ⟨w.heap.size,0,none⟩ (.int .i64 0)).setCell ⟨w.heap.size,1,none⟩ (.int .u64 0)).setCell ⟨w.heap.size,2,none⟩ (.int .u64 0))=W7 at*;have hRl:=hRe.far (p:=⟨a.S,0,none⟩) (Ne.symm hRs) (.int .i32 0);have x0:(W7.setCell ⟨a.S,0,none⟩ (.int .i32 0)).cell? ⟨w.heap.size,0,none⟩=some (.int .i64 0):=hRl.cell 0;have x1:(W7.setCell ⟨a.S,0,none⟩ (.int .i32 0)).cell? ⟨w.heap.size,1,none⟩=some (.int .u64 0):=hRl.cell 1;have x2:(W7.setCell ⟨a.S,0,none⟩ (.int .i32 0)).cell? ⟨w.heap.size,2,none⟩=some (.int .u64 0):=hRl.cell 2;refine leaves_cons (f:=29) (args:=#[.pointer (some ⟨a.S,0,none⟩)]) (by simp) (by simp[go_sem]) ?_;refine(unlock_deferred muLib ⟨a.S,0,none⟩ .returning _ hIe.cells.1 (hIe.sg.frozen 0)).mono ?_;rintro x u' w'' ⟨rfl,rfl,rfl⟩;refine⟨.tuple #[.agg #[.int .i64 0,.int .u64 0,.int .u64 0],.int .i64 2],by simp[results,Try.results13,go_sem,x0,x1,x2],?_⟩;have hcb:=wW (s:=s) (d:=d) (e:=e) (by rw[hE.out];omega);exact⟨by rw[hcb.2,hE.out];rfl,by rw[hcb.1];exact hIe.leave,Vf.gK (nM a) 0 _⟩
   have hdq:=E1.out;have heq:=E2.out;rw[decide_eq_true_iff]at hdq heq;by_cases hdz:d=0
   case pos=>
    have hE:=Lib.hid (DK (s:=s) (d:=d) (e:=e) (.inl hdz));have t1:(d==0)=true:=by rw[beq_iff_eq];exact hdz
    clear hdz hdq heq
    go_wp2_with fail
    have hIe:=mJ HI6.out HRF.out (.int .i64 0) (.int .u64 0) (.int .u64 0);have hRe:=Qo HR6.out (.int .i64 0) (.int .u64 0) (.int .u64 0);have Vf:=((HO6.out.qN (Nat.le_refl w.heap.size) 0 (.int .i64 0)).qN (Nat.le_refl w.heap.size) 1 (.int .u64 0)).qN (Nat.le_refl w.heap.size) 2 (.int .u64 0);generalize(((W6.setCell ⟨w.heap.size,0,none⟩ (.int .i64 0)).setCell ⟨w.heap.size,1,none⟩ (.int .u64 0)).setCell ⟨w.heap.size,2,none⟩ (.int .u64 0))=W7 at*;have hRl:=hRe.far (p:=⟨a.S,0,none⟩) (Ne.symm hRs) (.int .i32 0);have x0:(W7.setCell ⟨a.S,0,none⟩ (.int .i32 0)).cell? ⟨w.heap.size,0,none⟩=some (.int .i64 0):=hRl.cell 0;have x1:(W7.setCell ⟨a.S,0,none⟩ (.int .i32 0)).cell? ⟨w.heap.size,1,none⟩=some (.int .u64 0):=hRl.cell 1;have x2:(W7.setCell ⟨a.S,0,none⟩ (.int .i32 0)).cell? ⟨w.heap.size,2,none⟩=some (.int .u64 0):=hRl.cell 2;refine leaves_cons (f:=29) (args:=#[.pointer (some ⟨a.S,0,none⟩)]) (by simp) (by simp[go_sem]) ?_;refine(unlock_deferred muLib ⟨a.S,0,none⟩ .returning _ hIe.cells.1 (hIe.sg.frozen 0)).mono ?_;rintro x u' w'' ⟨rfl,rfl,rfl⟩;refine⟨.tuple #[.agg #[.int .i64 0,.int .u64 0,.int .u64 0],.int .i64 2],by simp[results,Try.results13,go_sem,x0,x1,x2],?_⟩;have hcb:=wW (s:=s) (d:=d) (e:=e) (by rw[hE.out];omega);exact⟨by rw[hcb.2,hE.out];rfl,by rw[hcb.1];exact hIe.leave,Vf.gK (nM a) 0 _⟩
   have t1:(d==0)=false:=by rw[beq_eq_false_iff_ne];exact hdz
   by_cases hez:e=0
   case pos=>
    have hE:=Lib.hid (DK (s:=s) (d:=d) (e:=e) (.inr (.inl hez)));have t2:(e==0)=true:=by rw[beq_iff_eq];exact hez
    clear hdz hez hdq heq
    go_wp2_with fail
    have hIe:=mJ HI6.out HRF.out (.int .i64 0) (.int .u64 0) (.int .u64 0);have hRe:=Qo HR6.out (.int .i64 0) (.int .u64 0) (.int .u64 0);have Vf:=((HO6.out.qN (Nat.le_refl w.heap.size) 0 (.int .i64 0)).qN (Nat.le_refl w.heap.size) 1 (.int .u64 0)).qN (Nat.le_refl w.heap.size) 2 (.int .u64 0);generalize(((W6.setCell ⟨w.heap.size,0,none⟩ (.int .i64 0)).setCell ⟨w.heap.size,1,none⟩ (.int .u64 0)).setCell ⟨w.heap.size,2,none⟩ (.int .u64 0))=W7 at*;have hRl:=hRe.far (p:=⟨a.S,0,none⟩) (Ne.symm hRs) (.int .i32 0);have x0:(W7.setCell ⟨a.S,0,none⟩ (.int .i32 0)).cell? ⟨w.heap.size,0,none⟩=some (.int .i64 0):=hRl.cell 0;have x1:(W7.setCell ⟨a.S,0,none⟩ (.int .i32 0)).cell? ⟨w.heap.size,1,none⟩=some (.int .u64 0):=hRl.cell 1;have x2:(W7.setCell ⟨a.S,0,none⟩ (.int .i32 0)).cell? ⟨w.heap.size,2,none⟩=some (.int .u64 0):=hRl.cell 2;refine leaves_cons (f:=29) (args:=#[.pointer (some ⟨a.S,0,none⟩)]) (by simp) (by simp[go_sem]) ?_;refine(unlock_deferred muLib ⟨a.S,0,none⟩ .returning _ hIe.cells.1 (hIe.sg.frozen 0)).mono ?_;rintro x u' w'' ⟨rfl,rfl,rfl⟩;refine⟨.tuple #[.agg #[.int .i64 0,.int .u64 0,.int .u64 0],.int .i64 2],by simp[results,Try.results13,go_sem,x0,x1,x2],?_⟩;have hcb:=wW (s:=s) (d:=d) (e:=e) (by rw[hE.out];omega);exact⟨by rw[hcb.2,hE.out];rfl,by rw[hcb.1];exact hIe.leave,Vf.gK (nM a) 0 _⟩
   have t2:(e==0)=false:=by rw[beq_eq_false_iff_ne];exact hez
   have hgood:=Lib.hid (show¬(d=0\/e=0\/1073741789<=d\/1073741789<=e) by omega);have hmem:bh=true↔(d,e)∈s.pl:=by
    rw[HBH.out];refine⟨fun⟨q',h1,h2⟩=>?_,fun h=>⟨_,h,rfl⟩⟩;have e3:=Fz (VP.out.sc q' h1) (q':=(d,e)) ⟨⟨by show 0<d;omega,hdq⟩,by show 0<e;omega,heq⟩ h2;rw[<-e3];exact h1
   have bo1:=Lib.hid hmem;clear hdz hez hdq heq hmem;cases bh
   case true=>
    have hE:=Lib.hid (YW (s:=s) hgood.out (bo1.out.1 rfl))
    go_wp2_with fail
    have hIe:=mJ HI6.out HRF.out (.int .i64 0) (.int .u64 0) (.int .u64 0);have hRe:=Qo HR6.out (.int .i64 0) (.int .u64 0) (.int .u64 0);have Vf:=((HO6.out.qN (Nat.le_refl w.heap.size) 0 (.int .i64 0)).qN (Nat.le_refl w.heap.size) 1 (.int .u64 0)).qN (Nat.le_refl w.heap.size) 2 (.int .u64 0);generalize(((W6.setCell ⟨w.heap.size,0,none⟩ (.int .i64 0)).setCell ⟨w.heap.size,1,none⟩ (.int .u64 0)).setCell ⟨w.heap.size,2,none⟩ (.int .u64 0))=W7 at*;have hRl:=hRe.far (p:=⟨a.S,0,none⟩) (Ne.symm hRs) (.int .i32 0);have x0:(W7.setCell ⟨a.S,0,none⟩ (.int .i32 0)).cell? ⟨w.heap.size,0,none⟩=some (.int .i64 0):=hRl.cell 0;have x1:(W7.setCell ⟨a.S,0,none⟩ (.int .i32 0)).cell? ⟨w.heap.size,1,none⟩=some (.int .u64 0):=hRl.cell 1;have x2:(W7.setCell ⟨a.S,0,none⟩ (.int .i32 0)).cell? ⟨w.heap.size,2,none⟩=some (.int .u64 0):=hRl.cell 2;refine leaves_cons (f:=29) (args:=#[.pointer (some ⟨a.S,0,none⟩)]) (by simp) (by simp[go_sem]) ?_;refine(unlock_deferred muLib ⟨a.S,0,none⟩ .returning _ hIe.cells.1 (hIe.sg.frozen 0)).mono ?_;rintro x u' w'' ⟨rfl,rfl,rfl⟩;refine⟨.tuple #[.agg #[.int .i64 0,.int .u64 0,.int .u64 0],.int .i64 15],by simp[results,Try.results13,go_sem,x0,x1,x2],?_⟩;have hcb:=wW (s:=s) (d:=d) (e:=e) (by rw[hE.out];omega);exact⟨by rw[hcb.2,hE.out];rfl,by rw[hcb.1];exact hIe.leave,Vf.gK (nM a) 0 _⟩
   have hnm:=Lib.hid (show(d,e)∉s.pl from fun h=>by have:=bo1.out.2 h;cases this);have hln:=QX HI6.out.map 3;have m5:=HI6.out.cells.2.2.2.2;by_cases hfull:s.pl.length=6
   case pos=>
    have hE:=Lib.hid (Vu (s:=s) hgood.out hnm.out hfull);have t3:((s.pl.length:Int)==6)=true:=by rw[beq_iff_eq];omega
    clear hfull
    go_wp2_with fail
    have hIe:=mJ HI6.out HRF.out (.int .i64 0) (.int .u64 0) (.int .u64 0);have hRe:=Qo HR6.out (.int .i64 0) (.int .u64 0) (.int .u64 0);have Vf:=((HO6.out.qN (Nat.le_refl w.heap.size) 0 (.int .i64 0)).qN (Nat.le_refl w.heap.size) 1 (.int .u64 0)).qN (Nat.le_refl w.heap.size) 2 (.int .u64 0);generalize(((W6.setCell ⟨w.heap.size,0,none⟩ (.int .i64 0)).setCell ⟨w.heap.size,1,none⟩ (.int .u64 0)).setCell ⟨w.heap.size,2,none⟩ (.int .u64 0))=W7 at*;have hRl:=hRe.far (p:=⟨a.S,0,none⟩) (Ne.symm hRs) (.int .i32 0);have x0:(W7.setCell ⟨a.S,0,none⟩ (.int .i32 0)).cell? ⟨w.heap.size,0,none⟩=some (.int .i64 0):=hRl.cell 0;have x1:(W7.setCell ⟨a.S,0,none⟩ (.int .i32 0)).cell? ⟨w.heap.size,1,none⟩=some (.int .u64 0):=hRl.cell 1;have x2:(W7.setCell ⟨a.S,0,none⟩ (.int .i32 0)).cell? ⟨w.heap.size,2,none⟩=some (.int .u64 0):=hRl.cell 2;refine leaves_cons (f:=29) (args:=#[.pointer (some ⟨a.S,0,none⟩)]) (by simp) (by simp[go_sem]) ?_;refine(unlock_deferred muLib ⟨a.S,0,none⟩ .returning _ hIe.cells.1 (hIe.sg.frozen 0)).mono ?_;rintro x u' w'' ⟨rfl,rfl,rfl⟩;refine⟨.tuple #[.agg #[.int .i64 0,.int .u64 0,.int .u64 0],.int .i64 9],by simp[results,Try.results13,go_sem,x0,x1,x2],?_⟩;have hcb:=wW (s:=s) (d:=d) (e:=e) (by rw[hE.out];omega);exact⟨by rw[hcb.2,hE.out];rfl,by rw[hcb.1];exact hIe.leave,Vf.gK (nM a) 0 _⟩
   have hE:=Lib.hid (TM (s:=s) hgood.out hnm.out hfull);have t3:((s.pl.length:Int)==6)=false:=by rw[beq_eq_false_iff_ne];omega
   clear hfull;have g0:W6.cell? ⟨W1.heap.size,0,none⟩=some (.int .i64 s.id):=HC6.out.cell 0;have g1:W6.cell? ⟨W1.heap.size,1,none⟩=some (.int .u64 (pw 4 d.toNat 2147483579)):=HC6.out.cell 1;have g2:W6.cell? ⟨W1.heap.size,2,none⟩=some (.int .u64 (pw 4 e.toNat 2147483579)):=HC6.out.cell 2;obtain⟨W8,hst,hM8,Ti⟩:=F8 (w:=W6.drew) (M:=a.M) (pl:=s.pl) (show MapAt W6.drew a.M s.id s.pl from HI6.out.map) Vb (d,e) (fun q' h1 h2=>by have:=HBH.out.2 ⟨q',h1,h2⟩;cases this);have hst':(Instr.mapUpdate 73 (.map (some a.M)) (.agg #[.int .i64 s.id,.int .u64 (pw 4 d.toNat 2147483579),.int .u64 (pw 4 e.toNat 2147483579)]) (.agg #[.int .u64 d,.int .u64 e])).run Try.prog W6.drew=.ok () W8:=hst;have hRM:w.heap.size≠a.M:=fun e=>HRF.out (e ▸ Ov a)
   have hCM:W1.heap.size≠a.M:=fun e=>hB5 (e ▸ Ov a)
   have hI8:=KF (show qU W6.drew a s from HI6.out.later (Below.refl _ _).drew) Ti hM8;have hR8:=(show bZ W6.drew _ _ _ from HR6.out).grown Ti (by simp;exact hRM);have hC8:=(show bZ W6.drew _ _ _ from HC6.out).grown Ti (by simp;exact hCM);have hO8:=(HO6.out.drew).grown (Ov a) Ti;have q0:W8.cell? ⟨W1.heap.size,0,none⟩=some (.int .i64 s.id):=hC8.cell 0;have q1:W8.cell? ⟨W1.heap.size,1,none⟩=some (.int .u64 (pw 4 d.toNat 2147483579)):=hC8.cell 1;have q2:W8.cell? ⟨W1.heap.size,2,none⟩=some (.int .u64 (pw 4 e.toNat 2147483579)):=hC8.cell 2;have s0:W8.cell? ⟨w.heap.size,0,none⟩=some (.int .i64 0):=hR8.cell 0;have s1:W8.cell? ⟨w.heap.size,1,none⟩=some (.int .u64 0):=hR8.cell 1;have s2:W8.cell? ⟨w.heap.size,2,none⟩=some (.int .u64 0):=hR8.cell 2;have y0:=hR8.frozen 0;have y1:=hR8.frozen 1;have y2:=hR8.frozen 2;have HI8:=Lib.hid hI8;have HR8:=Lib.hid hR8;have HO8:=Lib.hid hO8;clear hst hI8 hR8 hC8 hO8 Ti hM8 hRM hCM
   go_wp2_with fail
   go_region
   all_goals
    go_wp2_with fail
    have hIe:=mJ HI8.out HRF.out (.int .i64 s.id) (.int .u64 (pw 4 d.toNat 2147483579)) (.int .u64 (pw 4 e.toNat 2147483579));have hRe:=Qo HR8.out (.int .i64 s.id) (.int .u64 (pw 4 d.toNat 2147483579)) (.int .u64 (pw 4 e.toNat 2147483579));have Vf:=((HO8.out.qN (Nat.le_refl w.heap.size) 0 (.int .i64 s.id)).qN (Nat.le_refl w.heap.size) 1 (.int .u64 (pw 4 d.toNat 2147483579))).qN (Nat.le_refl w.heap.size) 2 (.int .u64 (pw 4 e.toNat 2147483579));generalize(((W8.setCell ⟨w.heap.size,0,none⟩ (.int .i64 s.id)).setCell ⟨w.heap.size,1,none⟩ (.int .u64 (pw 4 d.toNat 2147483579))).setCell ⟨w.heap.size,2,none⟩ (.int .u64 (pw 4 e.toNat 2147483579)))=W7 at*;have hRl:=hRe.far (p:=⟨a.S,0,none⟩) (Ne.symm hRs) (.int .i32 0);have x0:(W7.setCell ⟨a.S,0,none⟩ (.int .i32 0)).cell? ⟨w.heap.size,0,none⟩=some (.int .i64 s.id):=hRl.cell 0;have x1:(W7.setCell ⟨a.S,0,none⟩ (.int .i32 0)).cell? ⟨w.heap.size,1,none⟩=some (.int .u64 (pw 4 d.toNat 2147483579)):=hRl.cell 1;have x2:(W7.setCell ⟨a.S,0,none⟩ (.int .i32 0)).cell? ⟨w.heap.size,2,none⟩=some (.int .u64 (pw 4 e.toNat 2147483579)):=hRl.cell 2;refine leaves_cons (f:=29) (args:=#[.pointer (some ⟨a.S,0,none⟩)]) (by simp) (by simp[go_sem]) ?_;refine(unlock_deferred muLib ⟨a.S,0,none⟩ .returning _ hIe.cells.1 (hIe.sg.frozen 0)).mono ?_;rintro x u' w'' ⟨rfl,rfl,rfl⟩;refine⟨.tuple #[.agg #[.int .i64 s.id,.int .u64 (pw 4 d.toNat 2147483579),.int .u64 (pw 4 e.toNat 2147483579)],.int .i64 0],by simp[results,Try.results13,go_sem,x0,x1,x2],?_⟩;have hcg:=N9 (s:=s) (d:=d) (e:=e) hE.out;exact⟨by rw[hcg.2,hE.out];rfl,by rw[hcg.1];exact hIe.leave,Vf.gK (nM a) 0 _⟩
end uz
namespace JI
open Go.RowKit Pl ny oI ni Mem JO Odr oG
theorem Tq{n:Int}{l:List Cm}(h:ni.Good n l){j:Nat}(hj:j<l.length):∀i,i<j->(l.getD i .zero).id<(l.getD j .zero).id:=by
 induction j with
 |zero=>intro i hi;omega
 |succ j ih=>
  intro i hi;have h1:=(h (j+1) hj).2.1 (by omega);simp only[Nat.add_sub_cancel]at h1;rcases Nat.lt_or_ge i j with h2|h2
  ·have:=ih (by omega) i h2;omega
  ·obtain rfl:i=j:=by omega
   exact h1
theorem YA{n:Int}{l:List Cm}(h:ni.Good n l){i j:Nat}(hi:i<l.length)(hj:j<l.length)(he:(l.getD i .zero).id=(l.getD j .zero).id):i=j:=by
 rcases Nat.lt_trichotomy i j with hlt|heq|hgt
 ·have:=Tq h hj i hlt;omega
 ·exact heq
 ·have:=Tq h hi j hgt;omega
def lW(id:Int)(l:List Cm):Nat->Int
 |0=> -1
 |k+1=>if(l.getD k .zero).id=id then(k:Int)else lW id l k
theorem GV{id:Int}{l:List Cm}{k:Nat}(h:(l.getD k .zero).id=id):lW id l (k+1)=k:=by rw[lW,if_pos h]
theorem MG{id:Int}{l:List Cm}{k:Nat}(h:¬(l.getD k .zero).id=id):lW id l (k+1)=lW id l k:=by rw[lW,if_neg h]
theorem yA(id:Int)(l:List Cm)(k:Nat):(lW id l k= -1/\∀i,i<k->(l.getD i .zero).id≠id)\/∃m:Nat,m<k/\lW id l k=m/\(l.getD m .zero).id=id:=by
 induction k with
 |zero=>exact .inl ⟨rfl,fun i hi=>by omega⟩
 |succ k ih=>
  by_cases h:(l.getD k .zero).id=id
  ·exact .inr ⟨k,by omega,GV h,h⟩
  ·rw[MG h];rcases ih with⟨h1,h2⟩|⟨m,h1,h2,h3⟩
   ·refine .inl ⟨h1,fun i hi=>?_⟩;rcases Nat.lt_or_ge i k with h3|h3
    ·exact h2 i h3
    ·obtain rfl:i=k:=by omega
     exact h
   ·exact .inr ⟨m,by omega,h2,h3⟩
theorem wM{n:Int}{l:List Cm}(hg:ni.Good n l){id:Int}{k:Nat}(hk:k<l.length)(h:(l.getD k .zero).id=id):lW id l l.length=k:=by
 rcases yA id l l.length with⟨_,h2⟩|⟨m,h1,h2,h3⟩
 ·exact absurd h (h2 k hk)
 ·rw[h2,YA hg h1 hk (h3.trans h.symm)]
def Az(s:St)(msg:ByteArray)(l:List Cm)(k:Nat)(q:Int×Int):Int:=
 Ef q.1 q.2 (lH l (s.cs.getD 0 0) msg k) (fF (gV l l.length) k) s.share (jB (dM l (s.cs.getD 0 0) msg) (s.cs.getD 0 0) msg)
inductive ng(s:St)(msg:ByteArray)(l:List Cm):Int->Int->St->Prop
 |pk (h:um s.t s.n l≠0):ng s msg l 0 (um s.t s.n l) s
 |mine (h:um s.t s.n l=0) (hn:∀k q,k<l.length->q∈s.pl->iw s.id q≠l.getD k .zero):ng s msg l 0 10 s
 |zero (k j:Nat) (q:Int×Int) (h:um s.t s.n l=0) (hk:k<l.length) (hj:s.pl[j]?=some q) (hq:iw s.id q=l.getD k .zero) (ha:dM l (s.cs.getD 0 0) msg=1):ng s msg l 0 11 s
 |good (k j:Nat) (q:Int×Int) (h:um s.t s.n l=0) (hk:k<l.length) (hj:s.pl[j]?=some q) (hq:iw s.id q=l.getD k .zero) (ha:dM l (s.cs.getD 0 0) msg≠1):
   ng s msg l (Az s msg l k q) 0 {s with pl:=s.pl.eraseIdx j}
theorem Ee(s:St)(msg:ByteArray)(l:List Cm):∃v e s',ng s msg l v e s':=by
 by_cases h:um s.t s.n l=0
 ·by_cases hn:∀k q,k<l.length->q∈s.pl->iw s.id q≠l.getD k .zero
  ·exact⟨_,_,_,.mine h hn⟩
  ·simp only[Classical.not_forall]at hn;obtain⟨k,q,hk,hq,hc⟩:=hn;simp only[ne_eq,Classical.not_not]at hc;obtain⟨j,hj⟩:=List.mem_iff_getElem?.1 hq;by_cases ha:dM l (s.cs.getD 0 0) msg=1
   ·exact⟨_,_,_,.zero k j q h hk hj hc ha⟩
   ·exact⟨_,_,_,.good k j q h hk hj hc ha⟩
 ·exact⟨_,_,_,.pk h⟩
theorem aA5{s s':St}{msg:ByteArray}{l:List Cm}{v e:Int}(hr:ng s msg l v e s')(h:um s.t s.n l≠0):v=0/\e=um s.t s.n l/\s'=s:=by
 cases hr with
 |pk h=>exact⟨rfl,rfl,rfl⟩
 |mine h'=>exact absurd h' h
 |zero _ _ _ h'=>exact absurd h' h
 |good _ _ _ h'=>exact absurd h' h
theorem Y0{id:Int}{q:Int×Int}{c:Cm}(h:iw id q=c):c.id=id:=by rw[<-h];rfl
theorem Xa{s s':St}{msg:ByteArray}{l:List Cm}{v e:Int}(hr:ng s msg l v e s')(h:um s.t s.n l=0)(hm:lW s.id l l.length<0):v=0/\e=10/\s'=s:=by
 have hno:∀k q,k<l.length->iw s.id q=l.getD k .zero->False:=fun k q hk hq=>by
  have:=wM (tq h) hk (Y0 hq);omega
 cases hr with
 |pk h'=>exact absurd h h'
 |mine h'=>exact⟨rfl,rfl,rfl⟩
 |zero k j q h' hk hj hq=>exact absurd hq (hno k q hk)
 |good k j q h' hk hj hq=>exact absurd hq (hno k q hk)
theorem KU{s s':St}{msg:ByteArray}{l:List Cm}{v e:Int}(hr:ng s msg l v e s')(h:um s.t s.n l=0){m:Nat}(hm:lW s.id l l.length=m)(hn:¬∃q∈s.pl,iw s.id q=l.getD m .zero):v=0/\e=10/\s'=s:=by
 have hno:∀k j q,k<l.length->s.pl[j]?=some q->iw s.id q=l.getD k .zero->False:=fun k j q hk hj hq=>by
  have h1:=wM (tq h) hk (Y0 hq);have h2:k=m:=by omega
  subst h2;exact hn ⟨q,List.mem_of_getElem? hj,hq⟩
 cases hr with
 |pk h'=>exact absurd h h'
 |mine h'=>exact⟨rfl,rfl,rfl⟩
 |zero k j q h' hk hj hq=>exact absurd hq (hno k j q hk hj)
 |good k j q h' hk hj hq=>exact absurd hq (hno k j q hk hj)
theorem Q5{s s':St}{msg:ByteArray}{l:List Cm}{v e:Int}(hr:ng s msg l v e s')(hok:Ok s)(h:um s.t s.n l=0){m:Nat}(hm:lW s.id l l.length=m){q:Int×Int}(hq:q∈s.pl)(hqm:iw s.id q=l.getD m .zero):
  ∃j,s.pl[j]?=some q/\((dM l (s.cs.getD 0 0) msg=1/\v=0/\e=11/\s'=s)\/(dM l (s.cs.getD 0 0) msg≠1/\v=Az s msg l m q/\e=0/\s'={s with pl:=s.pl.eraseIdx j})):=by
 have hin:∀k j q',k<l.length->s.pl[j]?=some q'->iw s.id q'=l.getD k .zero->k=m/\q'=q:=fun k j q' hk hj hq'=>by
  have h1:=wM (tq h) hk (Y0 hq');have h2:k=m:=by omega
  subst h2;exact⟨rfl,Fz (hok.sc q' (List.mem_of_getElem? hj)) (hok.sc q hq) (hq'.trans hqm.symm)⟩
 cases hr with
 |pk h'=>exact absurd h h'
 |mine h' hn=>
  rcases yA s.id l l.length with⟨h1,_⟩|⟨m',h1,h2,h3⟩
  ·omega
  ·have:m'=m:=by omega
   subst this;exact absurd hqm (hn m' q h1 hq)
 |zero k j q' h' hk hj hq' ha=>
  obtain⟨rfl,rfl⟩:=hin k j q' hk hj hq';exact⟨j,hj,.inl ⟨ha,rfl,rfl,rfl⟩⟩
 |good k j q' h' hk hj hq' ha=>
  obtain⟨rfl,rfl⟩:=hin k j q' hk hj hq';exact⟨j,hj,.inr ⟨ha,rfl,rfl,rfl⟩⟩
end JI
namespace uz
open Go.RowKit Go.MuLone Go.Conc.Locks Pl ny oI ni qj Mem JO JI oG Ud Gn Chk Lck Dl
section
variable{w:World}{p g:Nat}{vc lv:Value}{t n:Int}{cs:List Int}{l:List Cm}{msg:ByteArray}{base:Nat}
theorem atX(h:Pk w p g vc lv t n cs l msg base){k:Nat}(hk:k<l.length):
  Calls Try.prog 34 #[.pointer (some ⟨p,0,none⟩),.int .i64 k] w fun e w'=>e=.returned (.agg #[.int .i64 (l.getD k .zero).id,.int .u64 (l.getD k .zero).d,.int .u64 (l.getD k .zero).e])/\w'=w.alloc (.cells #[.int .i64 (l.getD k .zero).id,.int .u64 (l.getD k .zero).d,.int .u64 (l.getD k .zero).e] 37):=by
 obtain⟨p0,p1,p2⟩:=h.cells;obtain⟨A,c,rfl⟩:=h.iJ.shape;obtain⟨b,off,rfl,hb,hc⟩:=h.iJ.at_ (by omega);obtain⟨x0,x1,x2⟩:=hc k hk;have hp:=h.pk.lt;clear h hc;generalize(l.getD k .zero).id=X at*;generalize(l.getD k .zero).d=D at*;generalize(l.getD k .zero).e=E at*;have k1:(0:Int)<=(k:Int):=by omega
 have k2:(k:Int)<(l.length:Int):=by omega
 go_enter Try.func34,Try.ntmps34
 go_wp2_with fail
 refine bodyPost_ret (v:=.agg #[.int .i64 X,.int .u64 D,.int .u64 E]) (by simp[results,Try.results34,go_sem]) rfl ?_;exact⟨rfl,rfl⟩
theorem Pk.aL2{w':World}{M:Nat}{es:Array MapEntry}{cl:Nat}(h:Pk w p g vc lv t n cs l msg base)(hM:w.heap[M]?=some (.map es cl))(hg:w.grownBy w' (some M)):Pk w' p g vc lv t n cs l msg base:=by
 have hno:∀b i,b=M->w.cell? ⟨b,i,none⟩=none:=fun b i e=>by subst e;simp[World.cell?,hM]
 have hmv:∀b,b<w.heap.size->b≠M->w'.heap[b]?=w.heap[b]?:=fun b hb hne=>hg.block b hb (fun e=>hne (by injection e))
 have hcell:∀b i u,b<w.heap.size->w.cell? ⟨b,i,none⟩=some u->w'.cell? ⟨b,i,none⟩=some u:=fun b i u hb h=>by
  have hne:b≠M:=fun e=>by rw[hno b i e]at h;cases h
  exact(World.cell?_of_block (hmv b hb hne)).trans h
 have hbk:∀{g T C},bZ w g T C->g≠M:=fun{g T C} hb e=>by
  subst e;unfold bZ at hb;rw[hM]at hb;cases hb
 refine⟨(hmv p h.pk.lt (hbk h.pk)).trans h.pk,?_,?_,?_⟩
 ·obtain⟨h1,A,c,rfl,hc,h2⟩:=h.iJ;refine⟨h1,A,c,rfl,hc,fun hp=>?_⟩;obtain⟨b,off,rfl,hb,h3⟩:=h2 hp;exact⟨b,off,rfl,Nat.lt_of_lt_of_le hb hg.size,fun j u hj=>hcell b _ u hb (h3 j u hj)⟩
 ·exact h.grp.grown hg (fun e=>hbk h.grp.choose_spec.1 (by injection e))
 ·refine⟨h.own.1,?_⟩;rcases h.own.2 with h2|⟨g',cap,cur,rfl,hb,hh,r⟩
  ·exact .inl h2
  ·exact .inr ⟨g',cap,cur,rfl,hb,(hmv g' (Array.getElem?_eq_some_iff.1 hh).1 (hbk (T:=85) (C:=cur) hh)).trans hh,r⟩
end
def xq(X:List Nat)(w:World)(lv:Value)(l:List Cm):Prop:=∀w',Only X w w'->oK w' w'.heap.size lv l
def qR(w:World)(a:Loc)(s:St)(l:List Cm)(msg:ByteArray)(p:Nat)(lv:Value)(wx:World):Prop:=
 qU wx a s/\Pk wx p a.g (.slice (some ⟨a.gc,0,none⟩) s.cs.length a.cap) lv s.t s.n s.cs l msg a.base/\Only a.foot w wx
theorem qR.later{w:World}{a:Loc}{s:St}{l:List Cm}{msg:ByteArray}{p:Nat}{lv:Value}{wx wy:World}(h:qR w a s l msg p lv wx)(hb:Below wx.heap.size wx wy):qR w a s l msg p lv wy:=
 ⟨h.1.later hb,h.2.1.later hb,h.2.2.then_ hb⟩
theorem aA3(x d e:Int)(w:World):(Instr.field 37 (.agg #[.int .i64 x,.int .u64 d,.int .u64 e]) 0).run Try.prog w=.ok (.int .i64 x) w:=by kernel_rfl
theorem ao1(w:World)(a:Loc)(s:St)(msg:ByteArray)(l:List Cm)(lv:Value)(h:jq w a s)(hok:Ok s)(hC:xq a.foot w lv l)(hl:l.length<=65536)
  (hb:∀i,i<l.length->0<=(l.getD i .zero).d/\0<=(l.getD i .zero).e)(hms:msg.size<=1000000)(v e:Int)(s':St)(hr:ng s msg l v e s'):
  Calls Try.prog 14 #[.pointer (some ⟨a.S,0,none⟩),.string msg,lv] w fun x w'=>x=.returned (.tuple #[.int .u64 v,.int .i64 e])/\jq w' a s'/\Only a.foot w w':=by
 have h0:w.cell? ⟨a.S,0,none⟩=some (.int .i32 0):=h.sg.cell 0;have hz:=h.sg.frozen 0;have hI:=h.enter;have hlk:=lock_free muLib ⟨a.S,0,none⟩ w h0 hz;have hO1:=(Only.refl a.foot w).gK (nM a) 0 (.int .i32 1);have hC1:=hC _ hO1;obtain⟨A,c,rfl⟩:=hC1.shape;have HLK:=Lib.hid hlk;have HI:=Lib.hid hI;have Zw:=Lib.hid hO1;have VP:=Lib.hid hok;have HR:=Lib.hid hr;have hpk:=Lib.hid (aB5 (msg:=msg) hI.grp hI.own hC1 hl hb);obtain⟨c0,c2,c3,c4,c5⟩:=hI.cells;clear h hok h0 hz hI hlk hO1 hC1 hr hC hb c0 c3 c4 c5
 go_enter_defers Try.func14,Try.ntmps14
 go_wp2_with (go_at_call 28;refine HLK.out.mono ?_;rintro e w' ⟨rfl,rfl⟩)
 clear HLK;generalize w.setCell ⟨a.S,0,none⟩ (.int .i32 1)=W1 at*;refine hpk.out.mono ?_;rintro x W2 ⟨hb2,⟨hne,rfl⟩|⟨h0,p,lv',rfl,hP⟩⟩
 ·obtain⟨rfl,rfl,rfl⟩:=aA5 HR.out hne;have t1:(um s'.t s'.n l != 0)=true:=by rw[bne_iff_ne];exact hne
  have hI2:=HI.out.later hb2;have HO2:=Lib.hid (Zw.out.then_ hb2);have HI2:=Lib.hid hI2;obtain⟨c0,-⟩:=hI2.cells;have hz1:=hI2.sg.frozen 0;obtain⟨y,hy⟩:∃y,um s'.t s'.n l=y:=⟨_,rfl⟩;have HY:=Lib.hid hy;rw[hy]at t1 ⊢;clear hb2 hI2 hne HI Zw hpk hy HR
  go_wp2_with fail
  refine leaves_cons (f:=29) (args:=#[.pointer (some ⟨a.S,0,none⟩)]) (by simp) (by simp[go_sem]) ?_;refine(unlock_deferred muLib ⟨a.S,0,none⟩ .returning _ c0 hz1).mono ?_;rintro x u' w'' ⟨rfl,rfl,rfl⟩;refine⟨.tuple #[.int .u64 0,.int .i64 y],by simp[results,Try.results14,go_sem],?_⟩;exact⟨by rw[HY.out],HI2.out.leave,HO2.out.gK (nM a) 0 _⟩
 have H0:=Lib.hid h0;have hM2:=Lib.hid (show qR w a s l msg p lv' W2 from⟨HI.out.later hb2,hP,Zw.out.then_ hb2⟩);have hll:=(zk h0).2.1;have h9:=VP.out.spec.2.2.1;have hlen:=ba7 hP;clear hb2 HI Zw hpk hP h0 c2
 go_wp2_with fail
 refine hlen.mono ?_;rintro x w' ⟨rfl,rfl⟩;clear hlen
 go_wp2_with fail
 go_loopw [10,39] (fun m i wr=>∃k:Nat,k<=l.length/\i=.int .i64 k/\m=.int .i64 (lW s.id l k)/\qR w a s l msg p lv' wr) (fun _ i _=>l.length-(intOf i).toNat)
 case atStart=>exact⟨0,by omega,rfl,rfl,hM2.out⟩
 case round=>
  obtain⟨k,hk,rfl,rfl,hmid⟩:=hrel;have yQ:=Lib.hid hmid;clear hmid hM2;by_cases hlt:k<l.length
  ·have hat:=Lib.hid (fun wy hb=>atX (yQ.out.later (wy:=wy) hb).2.1 hlt);have hyes:=Lib.hid (GV (id:=s.id) (l:=l) (k:=k));have hno:=Lib.hid (MG (id:=s.id) (l:=l) (k:=k));obtain⟨c0,c2,c3,c4,c5⟩:=yQ.out.1.cells;generalize(l.getD k .zero).id=X at*;generalize(l.getD k .zero).d=D at*;generalize(l.getD k .zero).e=E at*
   go_upto_region 10 with fail
   have hfd:=aA3;by_cases hX:X=s.id
   ·have t1:(X==s.id)=true:=by rw[beq_iff_eq];exact hX
    go_region_held3 (fun w'=>w'.cell? ⟨a.S,3,none⟩=some (.int .i64 s.id)) (go_keep)
     (first|(go_at_call 34;refine(hat.out _ (Below.refl _ _).drew).mono ?_;rintro e w' ⟨rfl,rfl⟩))
    all_goals
     go_wp2_with fail
     exact⟨⟨k+1,by omega,by go_num,by rw[hyes.out hX],yQ.out.later (aK wr _).drew⟩,by simp[intOf];omega⟩
   ·have t1:(X==s.id)=false:=by rw[beq_eq_false_iff_ne];exact hX
    go_region_held3 (fun w'=>w'.cell? ⟨a.S,3,none⟩=some (.int .i64 s.id)) (go_keep)
     (first|(go_at_call 34;refine(hat.out _ (Below.refl _ _).drew).mono ?_;rintro e w' ⟨rfl,rfl⟩))
    all_goals
     go_wp2_with fail
     exact⟨⟨k+1,by omega,by go_num,by rw[hno.out hX],yQ.out.later (aK wr _).drew⟩,by simp[intOf];omega⟩
  ·obtain rfl:k=l.length:=by omega
   clear hlt;by_cases hneg:lW s.id l l.length<0
   case pos=>
    obtain⟨rfl,rfl,rfl⟩:=Xa HR.out H0.out hneg;have t1:decide (lW s'.id l l.length<0)=true:=decide_eq_true hneg;obtain⟨c0,-⟩:=yQ.out.1.cells;have hz1:=yQ.out.1.sg.frozen 0;generalize lW s'.id l l.length=m at*;clear hneg HR
    go_wp2_with fail
    refine leaves_cons (f:=29) (args:=#[.pointer (some ⟨a.S,0,none⟩)]) (by simp) (by simp[go_sem]) ?_;refine(unlock_deferred muLib ⟨a.S,0,none⟩ .returning _ c0 hz1).mono ?_;rintro x u' w'' ⟨rfl,rfl,rfl⟩;refine⟨.tuple #[.int .u64 0,.int .i64 10],by simp[results,Try.results14,go_sem],?_⟩;exact⟨rfl,yQ.out.1.leave,yQ.out.2.2.gK (nM a) 0 _⟩
   case neg=>
    obtain⟨m,hml,hmm,hmi⟩:∃m:Nat,m<l.length/\lW s.id l l.length=m/\(l.getD m .zero).id=s.id:=by
     rcases yA s.id l l.length with⟨h1,_⟩|h1
     ·omega
     ·exact h1
    have hgd:=tq H0.out;have HMM:=Lib.hid hmm;have HGD:=Lib.hid hgd;rw[hmm];have Vb:=VP.out.id9;have hinj:∀q∈s.pl,∀q'∈s.pl,iw s.id q=iw s.id q'->q=q':=fun q h1 q' h2 h3=>Fz (VP.out.sc q h1) (VP.out.sc q' h2) h3
    have hft:Fits (l.getD m .zero):=by
     obtain⟨⟨h1,h2⟩,-,⟨h3,h4⟩,h5,h6⟩:=hgd m hml;exact⟨⟨by omega,by omega⟩,⟨by omega,by omega⟩,by omega,by omega⟩
    obtain⟨q,bh,hlook,hbh,hbq⟩:=MK (M:=a.M) Vb hinj hft;have HBH:=Lib.hid hbh;have HBQ:=Lib.hid hbq;have hat:=fun wy hb=>atX (yQ.out.later (wy:=wy) hb).2.1 hml
    have hkv:pz (l.getD m .zero)=.agg #[.int .i64 (l.getD m .zero).id,.int .u64 (l.getD m .zero).d,.int .u64 (l.getD m .zero).e]:=rfl;rw[hkv]at hlook;have HI:=yQ.out.1;have Z4:=HI.map;obtain⟨c0,c2,c3,c4,c5⟩:=HI.cells;have hSz:=HI.sg.lt;have HAT:=Lib.hid hat;rw[hmi]at hlook HAT;clear hmi hat;obtain⟨X,hX⟩:∃X,s.id=X:=⟨_,rfl⟩;rw[hX]at hlook HAT Z4;obtain⟨D,hD⟩:∃D,(l.getD m .zero).d=D:=⟨_,rfl⟩;obtain⟨E,hE⟩:∃E,(l.getD m .zero).e=E:=⟨_,rfl⟩;rw[hD,hE]at hlook HAT;have HX:=Lib.hid hX;have HD:=Lib.hid hD;have HE:=Lib.hid hE;clear hX hD hE hkv;have aJ2:(Instr.lookup 73 (.map (some a.M)) (.agg #[.int .i64 X,.int .u64 D,.int .u64 E]) true).run Try.prog (wr.alloc (.cells #[.int .i64 X,.int .u64 D,.int .u64 E] 37)).drew=.ok (.tuple #[.agg #[.int .u64 q.1,.int .u64 q.2],.bool bh]) (wr.alloc (.cells #[.int .i64 X,.int .u64 D,.int .u64 E] 37)).drew:=
     hlook _ (Z4.of_block (heap_alloc_old wr _ Z4.lt))
    have hlk2:(Instr.lookup 73 (.map (some a.M)) (.agg #[.int .i64 X,.int .u64 D,.int .u64 E]) true).run Try.prog ((wr.alloc (.cells #[.int .i64 X,.int .u64 D,.int .u64 E] 37)).alloc (.cells #[.int .u64 0,.int .u64 0] 88)).drew=.ok (.tuple #[.agg #[.int .u64 q.1,.int .u64 q.2],.bool bh]) ((wr.alloc (.cells #[.int .i64 X,.int .u64 D,.int .u64 E] 37)).alloc (.cells #[.int .u64 0,.int .u64 0] 88)).drew:=
     hlook _ (Z4.of_block ((heap_alloc_old (wr.alloc _) _ (by have:=Z4.lt;simp;omega)).trans (heap_alloc_old wr _ Z4.lt)))
    have bA0:(Instr.lookup 73 (.map (some a.M)) (.agg #[.int .i64 X,.int .u64 D,.int .u64 E]) true).run Try.prog ((wr.alloc (.cells #[.int .u64 0,.int .u64 0] 88)).alloc (.cells #[.int .i64 X,.int .u64 D,.int .u64 E] 37)).drew=.ok (.tuple #[.agg #[.int .u64 q.1,.int .u64 q.2],.bool bh]) ((wr.alloc (.cells #[.int .u64 0,.int .u64 0] 88)).alloc (.cells #[.int .i64 X,.int .u64 D,.int .u64 E] 37)).drew:=
     hlook _ (Z4.of_block ((heap_alloc_old (wr.alloc _) _ (by have:=Z4.lt;simp;omega)).trans (heap_alloc_old wr _ Z4.lt)))
    have t1:decide ((m:Int)<0)=false:=decide_eq_false (by omega);have hfA:wr.heap.size∉a.foot/\wr.heap.size+1∉a.foot:=⟨fun hk=>by have:=yQ.out.1.leave.lt _ hk;simp at this,fun hk=>by have:=yQ.out.1.leave.lt _ hk;simp at this;omega⟩;have hbA:∀x y:Obj,Below wr.heap.size wr ((wr.alloc x).alloc y).drew:=fun x y=>((aK wr x).alloc (by simp) y).drew
    have hkA:bZ ((wr.alloc (.cells #[.int .i64 X,.int .u64 D,.int .u64 E] 37)).alloc (.cells #[.int .u64 q.1,.int .u64 q.2] 88)).drew (wr.heap.size+1) 88 #[.int .u64 q.1,.int .u64 q.2]:=jc _ _ (by simp);have hkB:bZ ((wr.alloc (.cells #[.int .u64 q.1,.int .u64 q.2] 88)).alloc (.cells #[.int .i64 X,.int .u64 D,.int .u64 E] 37)).drew wr.heap.size 88 #[.int .u64 q.1,.int .u64 q.2]:=(jc (w:=wr) 88 _ rfl).below ((aK _ _).drew) (by simp);have HFA:=Lib.hid hfA;have HBA:=Lib.hid hbA;have HKA:=Lib.hid hkA;have HKB:=Lib.hid hkB;clear hfA hbA hkA hkB;clear hlook hbh hbq HI Z4 hft hinj hmm hgd c0 c2 c3 c4 hneg
    go_upto_region 15 with fail
    go_cut [12,13]from 55 to 66 (fun pp b wx=>∃PB,PB∉a.foot/\pp=.pointer (some ⟨PB,0,none⟩)/\b=.bool bh/\bZ wx PB 88 #[.int .u64 q.1,.int .u64 q.2]/\qR w a s l msg p lv' wx)
    case first=>
     go_region_held3 (fun w'=>w'.cell? ⟨a.S,5,none⟩=some (.map (some a.M))) (go_keep)
      (first|(go_at_call 34;refine(HAT.out _ (by first|exact(Below.refl _ _).drew|exact(aK _ _).drew)).mono ?_;rintro e w' ⟨rfl,rfl⟩))
     all_goals
      go_wp2_with fail
      go_meet
      first
       |exact⟨_,HFA.out.2,rfl,rfl,HKA.out,yQ.out.later (HBA.out _ _)⟩
       |exact⟨_,HFA.out.1,rfl,rfl,HKB.out,yQ.out.later (HBA.out _ _)⟩
    case rest=>
     obtain⟨PB,hPB,rfl,rfl,hblk,hmid⟩:=hcut
     rename World=>W6
     have CS:=Lib.hid hmid;have VQ:=Lib.hid hblk;have HPB:=Lib.hid hPB;clear aJ2 hlk2 bA0 HFA HBA HKA HKB yQ HAT c5 hmid hblk hPB hSz HX HD HE;cases bh
     case false=>
      obtain⟨rfl,rfl,rfl⟩:=KU HR.out H0.out HMM.out (fun⟨q',h1,h2⟩=>by have:=HBH.out.2 ⟨q',h1,h2⟩;cases this);obtain⟨c0,-⟩:=CS.out.1.cells;have hz1:=CS.out.1.sg.frozen 0;clear HR
      go_wp2_with fail
      refine leaves_cons (f:=29) (args:=#[.pointer (some ⟨a.S,0,none⟩)]) (by simp) (by simp[go_sem]) ?_;refine(unlock_deferred muLib ⟨a.S,0,none⟩ .returning _ c0 hz1).mono ?_;rintro x u' w'' ⟨rfl,rfl,rfl⟩;refine⟨.tuple #[.int .u64 0,.int .i64 10],by simp[results,Try.results14,go_sem],?_⟩;exact⟨rfl,CS.out.1.leave,CS.out.2.2.gK (nM a) 0 _⟩
     case true=>
      obtain⟨hq1,hq2⟩:=HBQ.out rfl;obtain⟨j,hj,bb6⟩:=Q5 HR.out VP.out H0.out HMM.out hq1 hq2;have hsp:=VP.out.spec;obtain⟨hcl,hc0⟩:=VP.out.key;have Dh:l.length<=9:=by omega
      have hall:=Lib.hid (fun r x=>bm1 CS.out.2.1 HGD.out hsp.2.2.1 Dh hcl ⟨by omega,by omega⟩ hms r x);have HJ:=Lib.hid hj;have HQ1:=Lib.hid hq1;have HQ2:=Lib.hid hq2;have HCL:=Lib.hid hcl;have HC0:=Lib.hid hc0;have h9':=Lib.hid hsp.2.2.1;clear hq1 hq2 hj hsp hcl hc0 HBQ HBH HR;rcases bb6 with⟨ha,rfl,rfl,rfl⟩|⟨ha,hv,rfl,rfl⟩
      ·have hall':=Lib.hid (hall.out 0 11 (.inl ⟨ha,rfl,rfl⟩));clear ha hall
       go_wp2_with fail
       refine hall'.out.mono ?_;rintro x W7 ⟨rfl,hb7⟩;have wI:=Lib.hid (CS.out.later hb7);obtain⟨c0,-⟩:=wI.out.1.cells;have hz1:=wI.out.1.sg.frozen 0;clear hb7 hall'
       go_wp2_with fail
       refine leaves_cons (f:=29) (args:=#[.pointer (some ⟨a.S,0,none⟩)]) (by simp) (by simp[go_sem]) ?_;refine(unlock_deferred muLib ⟨a.S,0,none⟩ .returning _ c0 hz1).mono ?_;rintro x u' w'' ⟨rfl,rfl,rfl⟩;refine⟨.tuple #[.int .u64 0,.int .i64 11],by simp[results,Try.results14,go_sem],?_⟩;exact⟨rfl,wI.out.1.leave,wI.out.2.2.gK (nM a) 0 _⟩
      ·have hall':=Lib.hid (hall.out _ 0 (.inr ⟨ha,rfl,rfl⟩));have HV:=Lib.hid hv;clear ha hall hv;have hrb:0<=dM l (s.cs.getD 0 0) msg/\dM l (s.cs.getD 0 0) msg<2147483579:=by rw[DU];exact TU _ _ _ _
       obtain⟨R,hR⟩:∃R,dM l (s.cs.getD 0 0) msg=R:=⟨_,rfl⟩;rw[hR]at hall' hrb;have HRR:=Lib.hid hR;clear hR
       go_wp2_with fail
       refine hall'.out.mono ?_;rintro x W7 ⟨rfl,hb7⟩;have wI:=Lib.hid (CS.out.later hb7);have Zz:=Lib.hid (VQ.out.below hb7 VQ.out.lt);clear hb7 hall' CS VQ;have hat:=Lib.hid (fun wy hb=>atX (wI.out.later (wy:=wy) hb).2.1 hml);obtain⟨c0,c2,c3,c4,c5⟩:=wI.out.1.cells;have hM7:=wI.out.1.map;have hSz:=wI.out.1.sg.lt;have ai2:Below W7.heap.size W7 (W7.alloc (.cells #[.int .i64 (l.getD m .zero).id,.int .u64 (l.getD m .zero).d,.int .u64 (l.getD m .zero).e] 37)).drew:=(aK W7 _).drew;obtain⟨W8,hst,hM8,Ti⟩:=O8 (hM7.of_block (ai2.block _ hM7.lt)) Vb HJ.out (fun i q' h1 h2=>VP.out.aP0 HJ.out i q' h1 h2) 0;have Nj:=wI.out.later ai2;obtain⟨es8,cl8,be1,-⟩:=Nj.1.map;have bg8:=Pk.aL2 Nj.2.1 be1 Ti;have hI8:=KF Nj.1 Ti hM8;have hO8:=Nj.2.2.grown (Ov a) Ti;have hB8:=(Zz.out.below ai2 Zz.out.lt).grown Ti (by simp;exact fun e=>HPB.out (e ▸ Ov a));have HM8:=Lib.hid (show qR w a {s with pl:=s.pl.eraseIdx j} l msg p lv' W8 from⟨hI8,bg8,hO8⟩);have HB8:=Lib.hid hB8;have x5:=hI8.cells.2.2.2.2;rw[HQ2.out]at hst;have hst':(Builtin.delete_ #[73,37] 0 #[.map (some a.M),.agg #[.int .i64 (l.getD m .zero).id,.int .u64 (l.getD m .zero).d,.int .u64 (l.getD m .zero).e]]).run Try.prog (W7.alloc (.cells #[.int .i64 (l.getD m .zero).id,.int .u64 (l.getD m .zero).d,.int .u64 (l.getD m .zero).e] 37)).drew=.ok (.tuple #[]) W8:=hst;clear hst hM8 Ti Nj be1 bg8 hI8 hO8 hB8 ai2 hM7 c0 c2 c3 c4;generalize(l.getD m .zero).id=X at*;generalize(l.getD m .zero).d=D at*;generalize(l.getD m .zero).e=E at*
       go_upto_region 21 with fail
       go_cut [14]from 76 to 83 (fun r wx=>r=.int .u64 R/\bZ wx PB 88 #[.int .u64 q.1,.int .u64 q.2]/\qR w a {s with pl:=s.pl.eraseIdx j} l msg p lv' wx)
       case first=>
        go_region_held3 (fun w'=>w'.cell? ⟨a.S,5,none⟩=some (.map (some a.M))) (first|go_keep|exact x5)
         (first|(go_at_call 34;refine(hat.out _ (Below.refl _ _).drew).mono ?_;rintro e w' ⟨rfl,rfl⟩))
        all_goals
         go_wp2_with fail
         go_meet
         exact⟨rfl,HB8.out,HM8.out⟩
       case rest=>
        obtain⟨rfl,hB9,hM9⟩:=hcut
        rename World=>W9
        have HM9:=Lib.hid hM9;have HB9:=Lib.hid hB9;clear c5 x5 hst' hSz HM8 HB8 wI Zz hat hB9 hM9;have bc9:∀q∈s.pl,_:=VP.out.sc;obtain⟨⟨qd0,qd1⟩,qe0,qe1⟩:=bc9 q HQ1.out;have b0:W9.cell? ⟨PB,0,none⟩=some (.int .u64 q.1):=HB9.out.cell 0;have b1:W9.cell? ⟨PB,1,none⟩=some (.int .u64 q.2):=HB9.out.cell 1;have aK3:=HB9.out.lt;have aK4:=HM9.out.later (Below.refl _ _).drew;have hbi:=Lib.hid (av6 aK4.2.1 HGD.out h9'.out Dh HCL.out ⟨by have:=HC0.out;show 0<=s.cs.getD 0 0;omega,by have:=HC0.out;show s.cs.getD 0 0<_;omega⟩ hms hml);have bo2:=Lib.hid aK4;clear aK4 bc9;have hbv:Hid (Az s msg l m q=mM (mM q.1 (smul q.2 (lH l (s.cs.getD 0 0) msg m))) (smul (smul (fF (gV l l.length) m) s.share) (jB R (s.cs.getD 0 0) msg))):=by
         show Az s msg l m q=_;rw[<-HRR.out];rfl
        generalize lH l (s.cs.getD 0 0) msg m=Bd at*
        go_upto_region 22 with fail
        go_cut [14,15]from 83 to 92 (fun r z wx=>r=.int .u64 R/\z=.int .u64 (mM q.1 (smul q.2 Bd))/\qR w a {s with pl:=s.pl.eraseIdx j} l msg p lv' wx)
        case first=>
         go_region_held3 (fun w'=>w'.cell? ⟨PB,0,none⟩=some (.int .u64 q.1)/\w'.cell? ⟨PB,1,none⟩=some (.int .u64 q.2))
          (first|go_keep|(exact⟨(hb1.cell (p:=⟨PB,0,none⟩) aK3).trans b0,(hb1.cell (p:=⟨PB,1,none⟩) aK3).trans b1⟩))
          (first|(go_at_call 38;refine hbi.out.mono ?_;rintro e W10 ⟨rfl,hb1⟩)|(go_at_call 37;refine(nT _ _ _).mono ?_;rintro e w' ⟨rfl,rfl⟩)|(go_at_call 36;refine(QL _ _ _).mono ?_;rintro e w' ⟨rfl,rfl⟩))
         all_goals
          go_wp2_with fail
          go_meet
          exact⟨rfl,rfl,bo2.out.later hb1⟩
        case rest=>
         obtain⟨rfl,rfl,bh3⟩:=hcut
         rename World=>W10
         have Zx:=Lib.hid bh3;clear b0 b1 aK3 hbi bo2 HB9 HM9 bh3;obtain⟨c0,c2,c3,c4,c5⟩:=Zx.out.1.cells;clear c0 c3 c5;have hkey:=Lib.hid (aH4 Zx.out.2.1.grp Zx.out.2.1.own HCL.out);obtain⟨K,hK⟩:∃K,s.cs.getD 0 0=K:=⟨_,rfl⟩;have HK:=Lib.hid hK;have hKb:0<=K/\K<18446744073709551616:=by have h1:=HC0.out;rw[hK]at h1;omega
         have Tf:Calls Try.prog 40 #[.pointer (some ⟨a.g,0,none⟩)] W10 fun e w'=>e=.returned (.int .u64 K)/\W10=w':=by rw[<-hK];exact hkey.out
         have hch:=Lib.hid (yK R K msg W10 hms ⟨by omega,by omega⟩ hKb);rw[hK]at hbv;have HBV:=Lib.hid hbv.out;have ax0:=Lib.hid Tf;clear hK hbv hKb hkey Tf hrb
         go_upto_region 24 with(first|(go_at_call 40;refine ax0.out.mono ?_;rintro e w' ⟨rfl,rfl⟩)|(go_at_call 39;refine hch.out.mono ?_;rintro e W11 ⟨rfl,Jj⟩))
         have Yq:=Zx.out.later Jj;have bG8:=Lib.hid Yq;have x4:=Yq.1.cells.2.2.2.1;have Yp:=Yq.later (Below.refl _ _).drew;have as5:=Yq.1.sg.lt;have hwt:=Lib.hid (Px Yp.2.1 Dh hml);have aw9:=Lib.hid Yp;clear Yq Yp hch ax0 c2 Jj Zx;generalize fF (gV l l.length) m=L at*;generalize jB R K msg=C at*
         go_cut [6,7]from 100 to 111 (fun z e wx=>z=.int .u64 (mM (mM q.1 (smul q.2 Bd)) (smul (smul L s.share) C))/\e=.int .i64 0/\qR w a {s with pl:=s.pl.eraseIdx j} l msg p lv' wx)
         case first=>
          go_region_held3 (fun w'=>w'.cell? ⟨a.S,4,none⟩=some (.int .u64 s.share))
           (first|go_keep|(exact(hb1.cell (p:=⟨a.S,4,none⟩) as5).trans x4))
           (first|(go_at_call 41;refine hwt.out.mono ?_;rintro e W12 ⟨rfl,hb1⟩)|(go_at_call 37;refine(nT _ _ _).mono ?_;rintro e w' ⟨rfl,rfl⟩)|(go_at_call 36;refine(QL _ _ _).mono ?_;rintro e w' ⟨rfl,rfl⟩))
          all_goals
           go_wp2_with fail
           go_meet
           exact⟨rfl,rfl,aw9.out.later hb1⟩
         case rest=>
          obtain⟨rfl,rfl,ai5⟩:=hcut
          rename World=>W12
          have bo3:=Lib.hid ai5;obtain⟨c0,-⟩:=ai5.1.cells;have hz1:=ai5.1.sg.frozen 0;clear ai5 bG8 aw9 hwt x4 as5
          go_wp2_with fail
          refine leaves_cons (f:=29) (args:=#[.pointer (some ⟨a.S,0,none⟩)]) (by simp) (by simp[go_sem]) ?_;refine(unlock_deferred muLib ⟨a.S,0,none⟩ .returning _ c0 hz1).mono ?_;rintro x u' w'' ⟨rfl,rfl,rfl⟩;refine⟨.tuple #[.int .u64 (mM (mM q.1 (smul q.2 Bd)) (smul (smul L s.share) C)),.int .i64 0],by simp[results,Try.results14,go_sem],?_⟩;exact⟨by rw[HV.out,HBV.out],bo3.out.1.leave,bo3.out.2.2.gK (nM a) 0 _⟩
end uz
namespace Qy
open Pl ny Odr Cpl
def bb4:Nat->Nat
 |1=>1
 |2=>536870895
 |3=>357913930
 |4=>805306342
 |5=>214748358
 |6=>178956965
 |7=>920350105
 |8=>402653171
 |_=>0
def ag9(y x:Nat):Nat:=if x<y then bb4 (y-x)else 1073741789-bb4 (x-y)
def Pn:List Bool:=[true,true,false,true,true,false,true,true,true,true,true,true,true,true,true,true,true,true,true,true,true,true,true,true,true,true,true,true,true,true]
def ER(x:Nat):Nat->Bool
 |0=>true
 |y+1=>ER x y&&(y+1==x||decide (fq ((((y+1:Nat):Int)+1073741789-(x:Int))%1073741789) 1073741789 Pn=(ag9 (y+1) x:Nat)))
def Je:Nat->Bool
 |0=>true
 |x+1=>Je x&&ER (x+1) 9
theorem ag8:Je 9=true:=by kernel_rfl
theorem MV{n x:Nat}(h:Je n=true)(h1:1<=x)(h2:x<=n):ER x 9=true:=by
 induction n with
 |zero=>omega
 |succ n ih=>
  rw[Je,Bool.and_eq_true]at h;by_cases e:x=n+1
  ·rw[e];exact h.2
  ·exact ih h.1 (by omega)
theorem MS{n x y:Nat}(h:ER x n=true)(h1:1<=y)(h2:y<=n)(hne:y≠x):fq (((y:Int)+1073741789-(x:Int))%1073741789) 1073741789 Pn=(ag9 y x:Nat):=by
 induction n with
 |zero=>omega
 |succ n ih=>
  rw[ER,Bool.and_eq_true,Bool.or_eq_true,decide_eq_true_iff,beq_iff_eq]at h;by_cases e:y=n+1
  ·subst e;exact h.2.resolve_left hne
  ·exact ih h.1 (by omega)
theorem ay3:val Pn=OG:=by decide
theorem aB1{x y:Nat}(hx:1<=x/\x<=9)(hy:1<=y/\y<=9)(hne:y≠x):pw (((y:Int)+1073741789-(x:Int))%1073741789) OG 1073741789=(ag9 y x:Nat):=by
 rw[<-ay3,<-au6 _ (by omega)];exact MS (MV ag8 hx.1 hx.2) hy.1 hy.2 hne
def QH(x acc y:Nat):Nat:=if Nat.beq y x then acc else acc*y%1073741789*ag9 y x%1073741789
def wT(xs:List Nat)(x:Nat):Nat:=xs.foldl (QH x) 1
def Iy:List Nat->Nat
 |[]=>0
 |v::l=>v+Iy l
def next:List Nat->List Nat->List Nat
 |x::xs,v::vs=>v*x%1073741789::next xs vs
 |_,_=>[]
def af0(xs:List Nat):Nat->List Nat->Bool
 |0,_=>true
 |f+1,vs=>Nat.beq (Iy vs%1073741789) 0&&af0 xs f (next xs vs)
def chk(xs:List Nat):Bool:=match xs with
 |[]=>true
 |_::r=>Nat.beq (Iy (xs.map (wT xs))%1073741789) 1&&af0 xs r.length (next xs (xs.map (wT xs)))
def wG:Nat->List Nat->Bool
 |0,acc=>chk acc
 |n+1,acc=>wG n acc&&wG n ((n+1)::acc)
theorem al6:wG 9 []=true:=by kernel_rfl
def sel(c:Nat->Bool):Nat->List Nat
 |0=>[]
 |n+1=>if c n then sel c n++[n+1]else sel c n
theorem Oj(c:Nat->Bool)(n:Nat):∀acc,wG n acc=true->chk (sel c n++acc)=true:=by
 induction n with
 |zero=>intro acc h;exact h
 |succ n ih=>
  intro acc h;rw[wG,Bool.and_eq_true]at h;rw[sel];split
  ·rw[List.append_assoc];exact ih _ h.2
  ·exact ih _ h.1
theorem VG{n m:Nat}(h:n<=m):∀acc,wG m acc=true->wG n acc=true:=by
 induction m with
 |zero=>
  obtain rfl:n=0:=by omega
  exact fun _ h=>h
 |succ m ih=>
  intro acc ha;by_cases e:n=m+1
  ·rw[e];exact ha
  ·rw[wG,Bool.and_eq_true]at ha;exact ih (by omega) acc ha.1
theorem ab6(c:Nat->Bool){n:Nat}(h:n<=9):chk (sel c n)=true:=by
 have:=Oj c n [] (VG h [] al6)
 rwa [List.append_nil]at this
theorem Dq(c:Nat->Bool)(n:Nat):∀x∈sel c n,1<=x/\x<=n:=by
 induction n with
 |zero=>intro x hx;cases hx
 |succ n ih=>
  intro x hx;rw[sel]at hx;split at hx
  ·rcases List.mem_append.1 hx with h|h
   ·have:=ih x h;omega
   ·have:=List.mem_singleton.1 h;omega
  ·have:=ih x hx;omega
theorem KI(c:Nat->Bool)(n:Nat):(sel c n).Pairwise (·<·):=by
 induction n with
 |zero=>exact .nil
 |succ n ih=>
  rw[sel];split
  ·refine List.pairwise_append.2 ⟨ih,List.pairwise_singleton _ _,fun a ha b hb=>?_⟩;have:=Dq c n a ha;have:=List.mem_singleton.1 hb;omega
  ·exact ih
def tot(F:Nat->Int):Nat->Int
 |0=>0
 |n+1=>tot F n+F n
theorem Gt{F G:Nat->Int}{n:Nat}(h:∀k,k<n->F k%1073741789=G k%1073741789):tot F n%1073741789=tot G n%1073741789:=by
 induction n with
 |zero=>rfl
 |succ n ih=>rw[tot,tot,Int.add_emod,ih (fun k hk=>h k (by omega)),h n (by omega),<-Int.add_emod]
theorem aa7(F G:Nat->Int)(n:Nat):tot (fun k=>F k+G k) n=tot F n+tot G n:=by
 induction n with
 |zero=>rfl
 |succ n ih=>rw[tot,ih,tot,tot];omega
theorem aa6(a:Int)(F:Nat->Int)(n:Nat):tot (fun k=>a*F k) n=a*tot F n:=by
 induction n with
 |zero=>rw[tot,tot,Int.mul_zero]
 |succ n ih=>rw[tot,ih,tot,Int.mul_add]
theorem WH(n:Nat):tot (fun _=>0) n=0:=by
 induction n with
 |zero=>rfl
 |succ n ih=>rw[tot,ih];rfl
theorem WI(F:Nat->Int)(n:Nat):tot F (n+1)=F 0+tot (fun k=>F (k+1)) n:=by
 induction n with
 |zero=>simp[tot]
 |succ n ih=>rw[tot,ih,tot];omega
theorem WJ(l:List Nat):∀F:Nat->Int,(∀k,k<l.length->((l.getD k 0:Nat):Int)%1073741789=F k%1073741789)->((Iy l:Nat):Int)%1073741789=tot F l.length%1073741789:=by
 induction l with
 |nil=>intro F _;rfl
 |cons v l ih=>
  intro F h;rw[List.length_cons,WI,Iy,Int.natCast_add,Int.add_emod,Int.add_emod (F 0)];have h0:=h 0 (by simp);have h1:=ih (fun k=>F (k+1)) (fun k hk=>by have:=h (k+1) (by simpa using hk);simpa using this);rw[h1];have h0':(v:Int)%1073741789=F 0%1073741789:=by simpa using h0
  rw[h0']
theorem BM:∀xs vs:List Nat,xs.length=vs.length->(next xs vs).length=xs.length
 |[],[],_=>rfl
 |x::xs,v::vs,h=>by
  show(next xs vs).length+1=_;rw[BM xs vs (by simpa using h)];rfl
theorem Rt:∀(xs vs:List Nat) (k:Nat),xs.length=vs.length->k<xs.length->(next xs vs).getD k 0=vs.getD k 0*xs.getD k 0%1073741789
 |[],[],k,_,hk=>absurd hk (by simp)
 |x::xs,v::vs,0,_,_=>rfl
 |x::xs,v::vs,k+1,h,hk=>by
  show(next xs vs).getD k 0=_;rw[Rt xs vs k (by simpa using h) (by simpa using hk)];rfl
def nx(xs ws:List Nat):Nat->List Nat
 |0=>ws
 |m+1=>next xs (nx xs ws m)
theorem Ri(xs ws:List Nat)(m:Nat):nx xs (next xs ws) m=nx xs ws (m+1):=by
 induction m with
 |zero=>rfl
 |succ m ih=>rw[nx,ih];rfl
theorem AP{xs ws:List Nat}(h:xs.length=ws.length)(m:Nat):(nx xs ws m).length=xs.length:=by
 induction m with
 |zero=>exact h.symm
 |succ m ih=>rw[nx,BM _ _ ih.symm]
theorem U1(xs:List Nat)(f:Nat):∀vs,af0 xs f vs=true->∀m,m<f->Iy (nx xs vs m)%1073741789=0:=by
 induction f with
 |zero=>intro vs _ m hm;omega
 |succ f ih=>
  intro vs h m hm;rw[af0,Bool.and_eq_true]at h;cases m with
  |zero=>exact Nat.eq_of_beq_eq_true h.1
  |succ m=>
   rw[<-Ri];exact ih _ h.2 m (by omega)
theorem Y1{xs:List Nat}(h:chk xs=true)(m:Nat)(hm:m<xs.length):Iy (nx xs (xs.map (wT xs)) m)%1073741789=if m=0 then 1 else 0:=by
 cases xs with
 |nil=>simp at hm
 |cons x r=>
  unfold chk at h;rw[Bool.and_eq_true]at h;cases m with
  |zero=>rw[if_pos rfl];exact Nat.eq_of_beq_eq_true h.1
  |succ m=>
   rw[if_neg (by omega),<-Ri];exact U1 _ _ _ h.2 m (by simpa using hm)
theorem aZ4{xs ws:List Nat}(h:xs.length=ws.length)(m k:Nat)(hk:k<xs.length):(((nx xs ws m).getD k 0:Nat):Int)%1073741789=((xs.getD k 0:Nat):Int)^m*((ws.getD k 0:Nat):Int)%1073741789:=by
 induction m with
 |zero=>rw[Int.pow_zero,Int.one_mul];rfl
 |succ m ih=>
  have e:((((nx xs ws m).getD k 0*xs.getD k 0%1073741789:Nat)):Int)=(((nx xs ws m).getD k 0:Nat):Int)*((xs.getD k 0:Nat):Int)%1073741789:=by
   rw[Int.natCast_emod,Int.natCast_mul];rfl
  rw[nx,Rt _ _ _ (AP h m).symm hk,e,Int.emod_emod_of_dvd _ (Int.dvd_refl _),<-fO,ih,fO,Int.pow_succ];congr 1;rw[Int.mul_right_comm]
def ints(xs:List Nat):List Int:=xs.map Int.ofNat
theorem qG(xs:List Nat):(ints xs).length=xs.length:=by simp[ints]
theorem ints_at(xs:List Nat)(k:Nat):(ints xs).getD k 0=((xs.getD k 0:Nat):Int):=by
 unfold ints;rw[List.getD_eq_getElem?_getD,List.getD_eq_getElem?_getD,List.getElem?_map];cases xs[k]?<;>rfl
theorem getD_mem{xs:List Nat}{k:Nat}(h:k<xs.length):xs.getD k 0∈xs:=by
 rw[List.getD_eq_getElem?_getD,List.getElem?_eq_getElem h];exact List.getElem_mem h
theorem QZ{xs:List Nat}(h:xs.Pairwise (·<·)){i j:Nat}(hij:i<j)(hj:j<xs.length):xs.getD i 0<xs.getD j 0:=by
 rw[List.getD_eq_getElem?_getD,List.getD_eq_getElem?_getD,List.getElem?_eq_getElem hj,List.getElem?_eq_getElem (by omega)];exact List.pairwise_iff_getElem.1 h i j (by omega) hj hij
theorem ac0{xs:List Nat}(h:xs.Pairwise (·<·)){i j:Nat}(hi:i<xs.length)(hj:j<xs.length)(hne:i≠j):xs.getD i 0≠xs.getD j 0:=by
 rcases Nat.lt_or_ge i j with hlt|hge
 ·exact Nat.ne_of_lt (QZ h hlt hj)
 ·exact(Nat.ne_of_lt (QZ h (by omega) hi)).symm
theorem Wp{xs:List Nat}(hr:xs.Pairwise (·<·))(hb:∀x∈xs,1<=x/\x<=9){k:Nat}(hk:k<xs.length)(j:Nat)(hj:j<=xs.length):
  Ws (ints xs) k j=(((xs.take j).foldl (QH (xs.getD k 0)) 1:Nat):Int):=by
 induction j with
 |zero=>rfl
 |succ j ih=>
  have hlt:j<xs.length:=by omega
  have e:xs.take (j+1)=xs.take j++[xs.getD j 0]:=by
   rw[List.take_succ_eq_append_getElem hlt,List.getD_eq_getElem?_getD,List.getElem?_eq_getElem hlt];rfl
  rw[e,List.foldl_append,List.foldl_cons,List.foldl_nil];have ih:=ih (by omega);by_cases hjk:j=k
  ·subst hjk;rw[Ko,ih,QH,if_pos (Nat.beq_refl _)]
  ·have hne:=ac0 hr hlt hk hjk;rw[J9 _ hjk,ih,ints_at,ints_at,aB1 (hb _ (getD_mem hk)) (hb _ (getD_mem hlt)) hne,QH,if_neg (fun h=>hne (Nat.eq_of_beq_eq_true h))];simp only[Int.natCast_emod,Int.natCast_mul];rfl
theorem Ip{xs:List Nat}(hr:xs.Pairwise (·<·))(hb:∀x∈xs,1<=x/\x<=9){k:Nat}(hk:k<xs.length):weight (ints xs) k=((wT xs (xs.getD k 0):Nat):Int):=by
 unfold weight wT;rw[Wp hr hb hk _ (by rw[qG];omega),qG,List.take_length]
theorem moment{c:Nat->Bool}{n:Nat}(hn:n<=9)(m:Nat)(hm:m<(sel c n).length):
  tot (fun k=>(ints (sel c n)).getD k 0^m*weight (ints (sel c n)) k) (sel c n).length%1073741789=if m=0 then 1 else 0:=by
 have hr:=KI c n;have hb:∀x∈sel c n,1<=x/\x<=9:=fun x hx=>by have:=Dq c n x hx;omega
 have hc:=ab6 c hn;generalize sel c n=xs at*;have hl:xs.length=(xs.map (wT xs)).length:=by simp
 have h1:=Y1 hc m hm;have h2:=WJ (nx xs (xs.map (wT xs)) m) (fun k=>(ints xs).getD k 0^m*weight (ints xs) k) (fun k hk=>by
  rw[AP hl]at hk;rw[aZ4 hl m k hk,ints_at,Ip hr hb hk];congr 3;rw[List.getD_eq_getElem?_getD,List.getElem?_map,List.getD_eq_getElem?_getD,List.getElem?_eq_getElem hk];rfl)
 rw[AP hl]at h2;rw[<-h2];have h3:((Iy (nx xs (xs.map (wT xs)) m):Nat):Int)%1073741789=((Iy (nx xs (xs.map (wT xs)) m)%1073741789:Nat):Int):=by rw[Int.natCast_emod];rfl
 rw[h3,h1];split<;>rfl
theorem KQ(ids shares:List Int)(n:Nat):ab8 ids shares n=tot (fun k=>shares.getD k 0*weight ids k) n%1073741789:=by
 induction n with
 |zero=>rfl
 |succ n ih=>rw[ab8,ih,tot,Int.add_emod,Int.emod_emod_of_dvd _ (Int.dvd_refl _),<-Int.add_emod]
theorem Xi{c:Nat->Bool}{n:Nat}(hn:n<=9)(coeffs:List Int)(j:Nat)(hj:j<=(sel c n).length):
  tot (fun k=>xC coeffs ((ints (sel c n)).getD k 0) j*weight (ints (sel c n)) k) (sel c n).length%1073741789=(if j=0 then 0 else coeffs.getD 0 0)%1073741789:=by
 induction j with
 |zero=>
  have e:(fun k=>xC coeffs ((ints (sel c n)).getD k 0) 0*weight (ints (sel c n)) k)=fun _=>0:=by
   funext k;rw[xC,Int.zero_mul]
  rw[e,WH,if_pos rfl]
 |succ j ih=>
  have hm:=moment (c:=c) hn j (by omega);have e:(fun k=>xC coeffs ((ints (sel c n)).getD k 0) (j+1)*weight (ints (sel c n)) k)=
    fun k=>xC coeffs ((ints (sel c n)).getD k 0) j*weight (ints (sel c n)) k+coeffs.getD j 0*((ints (sel c n)).getD k 0^j*weight (ints (sel c n)) k):=by
   funext k;rw[xC,Int.add_mul,Int.mul_assoc]
  rw[e,aa7,aa6,Int.add_emod,ih (by omega),<-pY,hm,if_neg (show¬j+1=0 by omega)];by_cases h0:j=0
  ·subst h0;rw[if_pos rfl,if_pos rfl,Int.mul_one,Int.zero_emod,Int.zero_add,Int.emod_emod_of_dvd _ (Int.dvd_refl _)]
  ·rw[if_neg h0,if_neg h0,Int.mul_zero,Int.zero_emod,Int.add_zero,Int.emod_emod_of_dvd _ (Int.dvd_refl _)]
theorem Uy{c:Nat->Bool}{n:Nat}(hn:n<=9)(coeffs shares:List Int)(h0:0<coeffs.length)(ht:coeffs.length<=(sel c n).length)(hc:∀i,i<coeffs.length->0<=coeffs.getD i 0/\coeffs.getD i 0<1073741789)
  (hs:∀k,k<(sel c n).length->shares.getD k 0=poly coeffs ((ints (sel c n)).getD k 0)):ab8 (ints (sel c n)) shares (sel c n).length=coeffs.getD 0 0:=by
 have hp:=Xi (c:=c) hn coeffs coeffs.length ht;have hb:∀k,k<(sel c n).length->1<=(ints (sel c n)).getD k 0/\(ints (sel c n)).getD k 0<=9:=fun k hk=>by
  rw[ints_at];have:=Dq c n _ (getD_mem hk);omega
 rw[KQ,Gt (G:=fun k=>xC coeffs ((ints (sel c n)).getD k 0) coeffs.length*weight (ints (sel c n)) k) (fun k hk=>by
  have:=hb k hk;rw[hs k hk,La coeffs _ (by omega) (by omega) hc,WW,fO]),hp,if_neg (by omega)]
 have:=hc 0 h0;exact Int.emod_eq_of_lt this.1 this.2
end Qy
end Go.Proofs.Ytpfpokjaeffbjab
