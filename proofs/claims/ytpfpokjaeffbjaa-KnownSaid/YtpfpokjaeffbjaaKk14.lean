/- Part of the proof: SignerCommit, SignerSign, Lagrange, KeptPlain, KeptLib, KnSgA, KnSgB, KnSgC, KnSgD, KnSgE, KnSgG, KnSgR, KnLr, SaX, SaK, KnAe. -/
import Derived.Test.YtpfpokjaeffbjaaKk0
import Derived.Test.YtpfpokjaeffbjaaKk13
import Derived.Test.YtpfpokjaeffbjaaKk6
import Derived.Test.YtpfpokjaeffbjaaKk12
import Derived.Test.YtpfpokjaeffbjaaKk5
import Derived.Deep.AppendLies
import Derived.Test.YtpfpokjaeffbjaaKk1
import Derived.Test.YtpfpokjaeffbjaaKk9
import Derived.Deep.RegionHeld3
import Derived.Test.YtpfpokjaeffbjaaKk11
import Derived.Laws.Externs
import Derived.Test.YtpfpokjaeffbjaaProg
import Derived.RowKit
import Derived.Test.YtpfpokjaeffbjaaKk10
set_option linter.unusedVariables false
set_option linter.unusedSimpArgs false
set_option maxRecDepth 100000
set_option maxHeartbeats 16000000
open Go.Proofs.Try renaming prog→dS
open Nat renaming le_refl→aH,lt_of_lt_of_le→bT,zero_add→cZ,le_trans→aY
open List renaming getElem?_eq_getElem→aN,mem_of_getElem?→b7
open Option renaming getD_some→aJ
open Go.Region renaming wanted→bg
open Pure renaming pure→aX
namespace Go.Proofs.Ytpfpokjaeffbjaa
open Go renaming World→ae,Value→af,Goroutine→ah,Frame→ai,TypeId→aj,FuncId→ak,Program→au,undef→av,execOp→ax
open Go.Lib renaming hid→ay
namespace r7
open Go.RowKit Go.MuLone Go.Conc.Locks Pl mJ nG mI uU Mem Ey DI ng RB Lc Chk Lck
theorem Im{w w':ae}{a:Loc}{s:St}{pl:List (Int×Int)}(h:l6 w a s)(hg:w.grownBy w' (some a.M))(hM:lD w' a.M s.id pl):l6 w' a {s with pl:=pl}:=by
 obtain⟨n1,n2,n3,n4,n5⟩:=h.leave.apart;have hlt:∀k∈a.foot,k<w.heap.size:=fun k hk=>h.leave.lt k hk |> fun h=>by simpa using h
 have hb:∀k,k<w.heap.size->k≠a.M->w'.heap[k]?=w.heap[k]?:=fun k hk hne=>hg.block k hk (by simp<;>exact hne);refine⟨h.sg.grown hg (by simp<;>exact n3),h.kP.grown hg (by simp<;>exact n4),qU h.own (hb _ (hlt _ (by simp[Loc.foot])) n5),hM⟩
def VO(w:ae)(a:Loc)(s:St)(d e:Int)(B:Nat)(wx:ae):Prop:=
 l6 wx a s/\ft wx w.heap.size 52 #[.int .i64 0,.int .u64 0,.int .u64 0]/\ft wx B 52 #[.int .i64 s.id,.int .u64 (pw 4 d.toNat 2147483579),.int .u64 (pw 4 e.toNat 2147483579)]/\Only a.foot w wx
theorem mH(w:ae)(a:Loc)(s:St)(d e:Int)(h:iH w a s)(hok:Ok s)(hd:0<=d/\d<18446744073709551616)(he:0<=e/\e<18446744073709551616):
  Calls dS 52 #[.pointer (some ⟨a.S,0,none⟩),.int .u64 d,.int .u64 e] w fun x w'=>x=.returned (.tuple #[nB (Ku s d e),.int .i64 (rV s d e)])/\iH w' a (yq s d e)/\Only a.foot w w':=by
 have JU:=eB w (.cells #[.int .i64 0,.int .u64 0,.int .u64 0] 52);have hA:iH (w.alloc (.cells #[.int .i64 0,.int .u64 0,.int .u64 0] 52)) a s:=h.keep fun k hk=>JU.block k (h.lt k hk);have hR0:ft (w.alloc (.cells #[.int .i64 0,.int .u64 0,.int .u64 0] 52)) w.heap.size 52 #[.int .i64 0,.int .u64 0,.int .u64 0]:=ft.new _ _ _;have hRf:w.heap.size∉a.foot:=fun hk=>by have:=h.lt _ hk;omega
 have Uw:a.S≠w.heap.size:=fun e=>hRf (e ▸ m6 a);have h0:(w.alloc (.cells #[.int .i64 0,.int .u64 0,.int .u64 0] 52)).cell? ⟨a.S,0,none⟩=some (.int .i32 0):=hA.sg.cell 0;have hz:=hA.sg.frozen 0;have hI:=hA.enter;have hR1:=hR0.far (p:=⟨a.S,0,none⟩) (Ne.symm Uw) (.int .i32 1);have hlk:=lock_free mb ⟨a.S,0,none⟩ _ h0 hz;have Ym:=((Only.refl a.foot w).alloc (.cells #[.int .i64 0,.int .u64 0,.int .u64 0] 52)).iM (m6 a) 0 (.int .i32 1);have HLK:=ay hlk;have HI:=ay hI;have HR1:=ay hR1;have Ry:=ay Ym;have HRF:=ay hRf;have HL:=ay hok;have QK:=hok.id9;have hinj:∀q∈s.pl,∀q'∈s.pl,jr s.id q=jr s.id q'->q=q':=fun q h1 q' h2 h3=>Di (hok.sc q h1) (hok.sc q' h2) h3;have bF0:=ay hinj;obtain⟨hd0,hd1⟩:=hd;obtain⟨Un,he1⟩:=he;have ca9:w.heap.size<((w.alloc (.cells #[.int .i64 0,.int .u64 0,.int .u64 0] 52)).setCell ⟨a.S,0,none⟩ (.int .i32 1)).heap.size:=by simp
 obtain⟨c0,c2,c3,c4,c5⟩:=hI.cells;clear h hok JU hA hR0 hRf h0 hz hI hR1 hlk Ym hinj c0 c2 c4;go_enter_defers Try.func52,Try.ntmps52
 go_wp2_with (go_at_call 82;refine HLK.out.mono ?_;rintro e w' ⟨rfl,rfl⟩)
 obtain⟨b1,e1⟩:∃b,decide (d<1073741789)=b:=⟨_,rfl⟩;obtain⟨b2,e2⟩:∃b,decide (e<1073741789)=b:=⟨_,rfl⟩;have E1:=ay e1;have E2:=ay e2;clear e1 e2 HLK;generalize(w.alloc (.cells #[.int .i64 0,.int .u64 0,.int .u64 0] 52)).setCell ⟨a.S,0,none⟩ (.int .i32 1)=W1 at*;refine(vM b1 d _ E1.out).mono ?_;rintro x w' ⟨rfl,rfl⟩;go_wp2_with fail
 refine(vM b2 e _ E2.out).mono ?_;rintro x w' ⟨rfl,rfl⟩;have hB5:W1.heap.size∉a.foot:=fun hk=>by
  have h1:∀k∈a.foot,k<W1.heap.size:=fun k hk=>HI.out.leave.lt k hk |> fun h=>by simpa using h
  exact Nat.lt_irrefl _ (h1 _ hk)
 go_upto_region 5 with fail
 go_cut [12]from 32 to 40 (fun p wx=>p=.pointer (some ⟨W1.heap.size,0,none⟩)/\VO w a s d e W1.heap.size wx/\W1.heap.size<wx.heap.size)
 case first=>
  go_region_held3 (fun w'=>w'.cell? ⟨a.S,3,none⟩=some (.int .i64 s.id)) (go_keep)
   (first|(go_at_call 42;refine(FC _ _ (by first|exact hd0|exact Un) (by first|exact hd1|exact he1)).mono ?_;rintro x w' ⟨rfl,rfl⟩))
  all_goals
   have ax8:Below W1.heap.size W1 (W1.alloc (.cells #[.int .i64 s.id,.int .u64 (pw 4 d.toNat 2147483579),.int .u64 (pw 4 e.toNat 2147483579)] 52)).drew:=(eB _ _).drew;go_wp2_with fail
   go_meet
   exact⟨rfl,⟨HI.out.later ax8,HR1.out.below ax8 HR1.out.lt,ft.new _ _ _,Ry.out.EB ax8⟩,by simp⟩
 case rest=>
  obtain⟨rfl,⟨hI5,hR5,hC5,hO5⟩,av8⟩:=hcut;rename ae=>W5
  obtain⟨q,bh,tB,hbh,-⟩:=Jt (M:=a.M) QK bF0.out (vE QK (d,e));have hM5:=hI5.map;have aw9:(Instr.lookup 157 (.map (some a.M)) (.agg #[.int .i64 s.id,.int .u64 (pw 4 d.toNat 2147483579),.int .u64 (pw 4 e.toNat 2147483579)]) true).run dS W5.drew=.ok (.tuple #[.agg #[.int .u64 q.1,.int .u64 q.2],.bool bh]) W5.drew:=tB W5.drew hM5;have hlk2:(Instr.lookup 157 (.map (some a.M)) (.agg #[.int .i64 s.id,.int .u64 (pw 4 d.toNat 2147483579),.int .u64 (pw 4 e.toNat 2147483579)]) true).run dS (W5.alloc (.cells #[.int .u64 0,.int .u64 0] 161)).drew=.ok (.tuple #[.agg #[.int .u64 q.1,.int .u64 q.2],.bool bh]) (W5.alloc (.cells #[.int .u64 0,.int .u64 0] 161)).drew:=
   tB _ (hM5.of_block (heap_alloc_old W5 _ hM5.lt))
  have hS5:=hI5.sg.lt;have hpb:∀o:Array af,Below W5.heap.size W5 (W5.alloc (.cells o 161)).drew:=fun o=>(eB _ _).drew;have HPB:=ay hpb;obtain⟨f0,f2,f3,f4,f5⟩:=hI5.cells;have g0:W5.cell? ⟨W1.heap.size,0,none⟩=some (.int .i64 s.id):=hC5.cell 0;have g1:W5.cell? ⟨W1.heap.size,1,none⟩=some (.int .u64 (pw 4 d.toNat 2147483579)):=hC5.cell 1;have g2:W5.cell? ⟨W1.heap.size,2,none⟩=some (.int .u64 (pw 4 e.toNat 2147483579)):=hC5.cell 2;have HI5:=ay hI5;have HR5:=ay hR5;have HC5:=ay hC5;have HO5:=ay hO5;have HBH:=ay hbh;clear hI5 hR5 hC5 hO5 hbh tB c3 c5 HI HR1 Ry f0 f2 f4 hpb hM5;go_upto_region 6 with fail
  go_cut [13,14]from 41 to 49 (fun pp p wx=>p=.bool bh/\VO w a s d e W1.heap.size wx)
  case first=>
   go_region
   all_goals
    go_wp2_with fail
    go_meet
    exact⟨rfl,HI5.out.later (HPB.out _),HR5.out.below (HPB.out _) HR5.out.lt,HC5.out.below (HPB.out _) HC5.out.lt,HO5.out.EB (HPB.out _)⟩
  case rest=>
   obtain⟨rfl,hI6,hR6,hC6,hO6⟩:=hcut;clear aw9 hlk2 hS5 f3 f5 g0 g1 g2 HI5 HR5 HC5 HO5 HPB;rename ae=>W6
   have r0:W6.cell? ⟨w.heap.size,0,none⟩=some (.int .i64 0):=hR6.cell 0;have r1:W6.cell? ⟨w.heap.size,1,none⟩=some (.int .u64 0):=hR6.cell 1;have r2:W6.cell? ⟨w.heap.size,2,none⟩=some (.int .u64 0):=hR6.cell 2;have z0:=hR6.frozen 0;have z1:=hR6.frozen 1;have z2:=hR6.frozen 2;have Wl:=ay hI6;have HR6:=ay hR6;have HC6:=ay hC6;have HO6:=ay hO6;have hq0:=hO6.size;clear hI6 hR6 hC6 hO6;cases b1;case false=>
    have hE:=ay (yr (s:=s) (d:=d) (e:=e) (.inr (.inr (.inl (by have:=E1.out;rw[decide_eq_false_iff_not]at this;omega)))));go_wp2_with fail
    have zh:=mr Wl.out HRF.out (.int .i64 0) (.int .u64 0) (.int .u64 0);have hRe:=MS HR6.out (.int .i64 0) (.int .u64 0) (.int .u64 0);have QQ:=((HO6.out.pK (aH w.heap.size) 0 (.int .i64 0)).pK (aH w.heap.size) 1 (.int .u64 0)).pK (aH w.heap.size) 2 (.int .u64 0);generalize(((W6.setCell ⟨w.heap.size,0,none⟩ (.int .i64 0)).setCell ⟨w.heap.size,1,none⟩ (.int .u64 0)).setCell ⟨w.heap.size,2,none⟩ (.int .u64 0))=W7 at*;have yj:=hRe.far (p:=⟨a.S,0,none⟩) (Ne.symm Uw) (.int .i32 0);have x0:(W7.setCell ⟨a.S,0,none⟩ (.int .i32 0)).cell? ⟨w.heap.size,0,none⟩=some (.int .i64 0):=yj.cell 0;have x1:(W7.setCell ⟨a.S,0,none⟩ (.int .i32 0)).cell? ⟨w.heap.size,1,none⟩=some (.int .u64 0):=yj.cell 1;have x2:(W7.setCell ⟨a.S,0,none⟩ (.int .i32 0)).cell? ⟨w.heap.size,2,none⟩=some (.int .u64 0):=yj.cell 2;refine leaves_cons (f:=83) (args:=#[.pointer (some ⟨a.S,0,none⟩)]) (by simp) (by simp[go_sem]) ?_;refine(unlock_deferred mb ⟨a.S,0,none⟩ .returning _ zh.cells.1 (zh.sg.frozen 0)).mono ?_;rintro x u' w'' ⟨rfl,rfl,rfl⟩;refine⟨.tuple #[.agg #[.int .i64 0,.int .u64 0,.int .u64 0],.int .i64 2],by simp[results,Try.results52,go_sem,x0,x1,x2],?_⟩;have hcb:=pC (s:=s) (d:=d) (e:=e) (by rw[hE.out];omega);exact⟨by rw[hcb.2,hE.out];rfl,by rw[hcb.1];exact zh.leave,QQ.iM (m6 a) 0 _⟩
   cases b2;case false=>
    have hE:=ay (yr (s:=s) (d:=d) (e:=e) (.inr (.inr (.inr (by have:=E2.out;rw[decide_eq_false_iff_not]at this;omega)))));go_wp2_with fail
    have zh:=mr Wl.out HRF.out (.int .i64 0) (.int .u64 0) (.int .u64 0);have hRe:=MS HR6.out (.int .i64 0) (.int .u64 0) (.int .u64 0);have QQ:=((HO6.out.pK (aH w.heap.size) 0 (.int .i64 0)).pK (aH w.heap.size) 1 (.int .u64 0)).pK (aH w.heap.size) 2 (.int .u64 0);generalize(((W6.setCell ⟨w.heap.size,0,none⟩ (.int .i64 0)).setCell ⟨w.heap.size,1,none⟩ (.int .u64 0)).setCell ⟨w.heap.size,2,none⟩ (.int .u64 0))=W7 at*;have yj:=hRe.far (p:=⟨a.S,0,none⟩) (Ne.symm Uw) (.int .i32 0);have x0:(W7.setCell ⟨a.S,0,none⟩ (.int .i32 0)).cell? ⟨w.heap.size,0,none⟩=some (.int .i64 0):=yj.cell 0;have x1:(W7.setCell ⟨a.S,0,none⟩ (.int .i32 0)).cell? ⟨w.heap.size,1,none⟩=some (.int .u64 0):=yj.cell 1;have x2:(W7.setCell ⟨a.S,0,none⟩ (.int .i32 0)).cell? ⟨w.heap.size,2,none⟩=some (.int .u64 0):=yj.cell 2;refine leaves_cons (f:=83) (args:=#[.pointer (some ⟨a.S,0,none⟩)]) (by simp) (by simp[go_sem]) ?_;refine(unlock_deferred mb ⟨a.S,0,none⟩ .returning _ zh.cells.1 (zh.sg.frozen 0)).mono ?_;rintro x u' w'' ⟨rfl,rfl,rfl⟩;refine⟨.tuple #[.agg #[.int .i64 0,.int .u64 0,.int .u64 0],.int .i64 2],by simp[results,Try.results52,go_sem,x0,x1,x2],?_⟩;have hcb:=pC (s:=s) (d:=d) (e:=e) (by rw[hE.out];omega);exact⟨by rw[hcb.2,hE.out];rfl,by rw[hcb.1];exact zh.leave,QQ.iM (m6 a) 0 _⟩
   have hdq:=E1.out;have heq:=E2.out;rw[decide_eq_true_iff]at hdq heq;by_cases hdz:d=0;case pos=>
    have hE:=ay (yr (s:=s) (d:=d) (e:=e) (.inl hdz));have t1:(d==0)=true:=by rw[beq_iff_eq];exact hdz
    clear hdz hdq heq;go_wp2_with fail
    have zh:=mr Wl.out HRF.out (.int .i64 0) (.int .u64 0) (.int .u64 0);have hRe:=MS HR6.out (.int .i64 0) (.int .u64 0) (.int .u64 0);have QQ:=((HO6.out.pK (aH w.heap.size) 0 (.int .i64 0)).pK (aH w.heap.size) 1 (.int .u64 0)).pK (aH w.heap.size) 2 (.int .u64 0);generalize(((W6.setCell ⟨w.heap.size,0,none⟩ (.int .i64 0)).setCell ⟨w.heap.size,1,none⟩ (.int .u64 0)).setCell ⟨w.heap.size,2,none⟩ (.int .u64 0))=W7 at*;have yj:=hRe.far (p:=⟨a.S,0,none⟩) (Ne.symm Uw) (.int .i32 0);have x0:(W7.setCell ⟨a.S,0,none⟩ (.int .i32 0)).cell? ⟨w.heap.size,0,none⟩=some (.int .i64 0):=yj.cell 0;have x1:(W7.setCell ⟨a.S,0,none⟩ (.int .i32 0)).cell? ⟨w.heap.size,1,none⟩=some (.int .u64 0):=yj.cell 1;have x2:(W7.setCell ⟨a.S,0,none⟩ (.int .i32 0)).cell? ⟨w.heap.size,2,none⟩=some (.int .u64 0):=yj.cell 2;refine leaves_cons (f:=83) (args:=#[.pointer (some ⟨a.S,0,none⟩)]) (by simp) (by simp[go_sem]) ?_;refine(unlock_deferred mb ⟨a.S,0,none⟩ .returning _ zh.cells.1 (zh.sg.frozen 0)).mono ?_;rintro x u' w'' ⟨rfl,rfl,rfl⟩;refine⟨.tuple #[.agg #[.int .i64 0,.int .u64 0,.int .u64 0],.int .i64 2],by simp[results,Try.results52,go_sem,x0,x1,x2],?_⟩;have hcb:=pC (s:=s) (d:=d) (e:=e) (by rw[hE.out];omega);exact⟨by rw[hcb.2,hE.out];rfl,by rw[hcb.1];exact zh.leave,QQ.iM (m6 a) 0 _⟩
   have t1:(d==0)=false:=by rw[beq_eq_false_iff_ne];exact hdz
   by_cases hez:e=0;case pos=>
    have hE:=ay (yr (s:=s) (d:=d) (e:=e) (.inr (.inl hez)));have t2:(e==0)=true:=by rw[beq_iff_eq];exact hez
    clear hdz hez hdq heq;go_wp2_with fail
    have zh:=mr Wl.out HRF.out (.int .i64 0) (.int .u64 0) (.int .u64 0);have hRe:=MS HR6.out (.int .i64 0) (.int .u64 0) (.int .u64 0);have QQ:=((HO6.out.pK (aH w.heap.size) 0 (.int .i64 0)).pK (aH w.heap.size) 1 (.int .u64 0)).pK (aH w.heap.size) 2 (.int .u64 0);generalize(((W6.setCell ⟨w.heap.size,0,none⟩ (.int .i64 0)).setCell ⟨w.heap.size,1,none⟩ (.int .u64 0)).setCell ⟨w.heap.size,2,none⟩ (.int .u64 0))=W7 at*;have yj:=hRe.far (p:=⟨a.S,0,none⟩) (Ne.symm Uw) (.int .i32 0);have x0:(W7.setCell ⟨a.S,0,none⟩ (.int .i32 0)).cell? ⟨w.heap.size,0,none⟩=some (.int .i64 0):=yj.cell 0;have x1:(W7.setCell ⟨a.S,0,none⟩ (.int .i32 0)).cell? ⟨w.heap.size,1,none⟩=some (.int .u64 0):=yj.cell 1;have x2:(W7.setCell ⟨a.S,0,none⟩ (.int .i32 0)).cell? ⟨w.heap.size,2,none⟩=some (.int .u64 0):=yj.cell 2;refine leaves_cons (f:=83) (args:=#[.pointer (some ⟨a.S,0,none⟩)]) (by simp) (by simp[go_sem]) ?_;refine(unlock_deferred mb ⟨a.S,0,none⟩ .returning _ zh.cells.1 (zh.sg.frozen 0)).mono ?_;rintro x u' w'' ⟨rfl,rfl,rfl⟩;refine⟨.tuple #[.agg #[.int .i64 0,.int .u64 0,.int .u64 0],.int .i64 2],by simp[results,Try.results52,go_sem,x0,x1,x2],?_⟩;have hcb:=pC (s:=s) (d:=d) (e:=e) (by rw[hE.out];omega);exact⟨by rw[hcb.2,hE.out];rfl,by rw[hcb.1];exact zh.leave,QQ.iM (m6 a) 0 _⟩
   have t2:(e==0)=false:=by rw[beq_eq_false_iff_ne];exact hez
   have tC:=ay (show¬(d=0\/e=0\/1073741789<=d\/1073741789<=e) by omega);have hmem:bh=true↔(d,e)∈s.pl:=by
    rw[HBH.out];refine⟨fun⟨q',h1,h2⟩=>?_,fun h=>⟨_,h,rfl⟩⟩;have e3:=Di (HL.out.sc q' h1) (q':=(d,e)) ⟨⟨by show 0<d;omega,hdq⟩,by show 0<e;omega,heq⟩ h2;rw[<-e3];exact h1
   have bd3:=ay hmem;clear hdz hez hdq heq hmem;cases bh;case true=>
    have hE:=ay (Vb (s:=s) tC.out (bd3.out.1 rfl));go_wp2_with fail
    have zh:=mr Wl.out HRF.out (.int .i64 0) (.int .u64 0) (.int .u64 0);have hRe:=MS HR6.out (.int .i64 0) (.int .u64 0) (.int .u64 0);have QQ:=((HO6.out.pK (aH w.heap.size) 0 (.int .i64 0)).pK (aH w.heap.size) 1 (.int .u64 0)).pK (aH w.heap.size) 2 (.int .u64 0);generalize(((W6.setCell ⟨w.heap.size,0,none⟩ (.int .i64 0)).setCell ⟨w.heap.size,1,none⟩ (.int .u64 0)).setCell ⟨w.heap.size,2,none⟩ (.int .u64 0))=W7 at*;have yj:=hRe.far (p:=⟨a.S,0,none⟩) (Ne.symm Uw) (.int .i32 0);have x0:(W7.setCell ⟨a.S,0,none⟩ (.int .i32 0)).cell? ⟨w.heap.size,0,none⟩=some (.int .i64 0):=yj.cell 0;have x1:(W7.setCell ⟨a.S,0,none⟩ (.int .i32 0)).cell? ⟨w.heap.size,1,none⟩=some (.int .u64 0):=yj.cell 1;have x2:(W7.setCell ⟨a.S,0,none⟩ (.int .i32 0)).cell? ⟨w.heap.size,2,none⟩=some (.int .u64 0):=yj.cell 2;refine leaves_cons (f:=83) (args:=#[.pointer (some ⟨a.S,0,none⟩)]) (by simp) (by simp[go_sem]) ?_;refine(unlock_deferred mb ⟨a.S,0,none⟩ .returning _ zh.cells.1 (zh.sg.frozen 0)).mono ?_;rintro x u' w'' ⟨rfl,rfl,rfl⟩;refine⟨.tuple #[.agg #[.int .i64 0,.int .u64 0,.int .u64 0],.int .i64 15],by simp[results,Try.results52,go_sem,x0,x1,x2],?_⟩;have hcb:=pC (s:=s) (d:=d) (e:=e) (by rw[hE.out];omega);exact⟨by rw[hcb.2,hE.out];rfl,by rw[hcb.1];exact zh.leave,QQ.iM (m6 a) 0 _⟩
   have hnm:=ay (show(d,e)∉s.pl from fun h=>by have:=bd3.out.2 h;cases this);have hln:=Ny Wl.out.map 3;have m5:=Wl.out.cells.2.2.2.2;by_cases hfull:s.pl.length=6;case pos=>
    have hE:=ay (Q9 (s:=s) tC.out hnm.out hfull);have t3:((s.pl.length:Int)==6)=true:=by rw[beq_iff_eq];omega
    clear hfull;go_wp2_with fail
    have zh:=mr Wl.out HRF.out (.int .i64 0) (.int .u64 0) (.int .u64 0);have hRe:=MS HR6.out (.int .i64 0) (.int .u64 0) (.int .u64 0);have QQ:=((HO6.out.pK (aH w.heap.size) 0 (.int .i64 0)).pK (aH w.heap.size) 1 (.int .u64 0)).pK (aH w.heap.size) 2 (.int .u64 0);generalize(((W6.setCell ⟨w.heap.size,0,none⟩ (.int .i64 0)).setCell ⟨w.heap.size,1,none⟩ (.int .u64 0)).setCell ⟨w.heap.size,2,none⟩ (.int .u64 0))=W7 at*;have yj:=hRe.far (p:=⟨a.S,0,none⟩) (Ne.symm Uw) (.int .i32 0);have x0:(W7.setCell ⟨a.S,0,none⟩ (.int .i32 0)).cell? ⟨w.heap.size,0,none⟩=some (.int .i64 0):=yj.cell 0;have x1:(W7.setCell ⟨a.S,0,none⟩ (.int .i32 0)).cell? ⟨w.heap.size,1,none⟩=some (.int .u64 0):=yj.cell 1;have x2:(W7.setCell ⟨a.S,0,none⟩ (.int .i32 0)).cell? ⟨w.heap.size,2,none⟩=some (.int .u64 0):=yj.cell 2;refine leaves_cons (f:=83) (args:=#[.pointer (some ⟨a.S,0,none⟩)]) (by simp) (by simp[go_sem]) ?_;refine(unlock_deferred mb ⟨a.S,0,none⟩ .returning _ zh.cells.1 (zh.sg.frozen 0)).mono ?_;rintro x u' w'' ⟨rfl,rfl,rfl⟩;refine⟨.tuple #[.agg #[.int .i64 0,.int .u64 0,.int .u64 0],.int .i64 9],by simp[results,Try.results52,go_sem,x0,x1,x2],?_⟩;have hcb:=pC (s:=s) (d:=d) (e:=e) (by rw[hE.out];omega);exact⟨by rw[hcb.2,hE.out];rfl,by rw[hcb.1];exact zh.leave,QQ.iM (m6 a) 0 _⟩
   have hE:=ay (YM (s:=s) tC.out hnm.out hfull);have t3:((s.pl.length:Int)==6)=false:=by rw[beq_eq_false_iff_ne];omega
   clear hfull;have g0:W6.cell? ⟨W1.heap.size,0,none⟩=some (.int .i64 s.id):=HC6.out.cell 0;have g1:W6.cell? ⟨W1.heap.size,1,none⟩=some (.int .u64 (pw 4 d.toNat 2147483579)):=HC6.out.cell 1;have g2:W6.cell? ⟨W1.heap.size,2,none⟩=some (.int .u64 (pw 4 e.toNat 2147483579)):=HC6.out.cell 2;obtain⟨W8,hst,hM8,OY⟩:=DR (w:=W6.drew) (M:=a.M) (pl:=s.pl) (show lD W6.drew a.M s.id s.pl from Wl.out.map) QK (d,e) (fun q' h1 h2=>by have:=HBH.out.2 ⟨q',h1,h2⟩;cases this);have aV1:(Instr.mapUpdate 157 (.map (some a.M)) (.agg #[.int .i64 s.id,.int .u64 (pw 4 d.toNat 2147483579),.int .u64 (pw 4 e.toNat 2147483579)]) (.agg #[.int .u64 d,.int .u64 e])).run dS W6.drew=.ok () W8:=hst;have hRM:w.heap.size≠a.M:=fun e=>HRF.out (e ▸ KP a);have hCM:W1.heap.size≠a.M:=fun e=>hB5 (e ▸ KP a);have hI8:=Im (show l6 W6.drew a s from Wl.out.later bre.drew) OY hM8;have hR8:=(show ft W6.drew _ _ _ from HR6.out).grown OY (by simp<;>exact hRM);have hC8:=(show ft W6.drew _ _ _ from HC6.out).grown OY (by simp<;>exact hCM);have hO8:=(HO6.out.drew).grown (KP a) OY;have q0:W8.cell? ⟨W1.heap.size,0,none⟩=some (.int .i64 s.id):=hC8.cell 0;have q1:W8.cell? ⟨W1.heap.size,1,none⟩=some (.int .u64 (pw 4 d.toNat 2147483579)):=hC8.cell 1;have q2:W8.cell? ⟨W1.heap.size,2,none⟩=some (.int .u64 (pw 4 e.toNat 2147483579)):=hC8.cell 2;have s0:W8.cell? ⟨w.heap.size,0,none⟩=some (.int .i64 0):=hR8.cell 0;have s1:W8.cell? ⟨w.heap.size,1,none⟩=some (.int .u64 0):=hR8.cell 1;have s2:W8.cell? ⟨w.heap.size,2,none⟩=some (.int .u64 0):=hR8.cell 2;have y0:=hR8.frozen 0;have y1:=hR8.frozen 1;have y2:=hR8.frozen 2;have HI8:=ay hI8;have HR8:=ay hR8;have HO8:=ay hO8;clear hst hI8 hR8 hC8 hO8 OY hM8 hRM hCM;go_wp2_with fail
   go_region
   all_goals
    go_wp2_with fail
    have zh:=mr HI8.out HRF.out (.int .i64 s.id) (.int .u64 (pw 4 d.toNat 2147483579)) (.int .u64 (pw 4 e.toNat 2147483579));have hRe:=MS HR8.out (.int .i64 s.id) (.int .u64 (pw 4 d.toNat 2147483579)) (.int .u64 (pw 4 e.toNat 2147483579));have QQ:=((HO8.out.pK (aH w.heap.size) 0 (.int .i64 s.id)).pK (aH w.heap.size) 1 (.int .u64 (pw 4 d.toNat 2147483579))).pK (aH w.heap.size) 2 (.int .u64 (pw 4 e.toNat 2147483579));generalize(((W8.setCell ⟨w.heap.size,0,none⟩ (.int .i64 s.id)).setCell ⟨w.heap.size,1,none⟩ (.int .u64 (pw 4 d.toNat 2147483579))).setCell ⟨w.heap.size,2,none⟩ (.int .u64 (pw 4 e.toNat 2147483579)))=W7 at*;have yj:=hRe.far (p:=⟨a.S,0,none⟩) (Ne.symm Uw) (.int .i32 0);have x0:(W7.setCell ⟨a.S,0,none⟩ (.int .i32 0)).cell? ⟨w.heap.size,0,none⟩=some (.int .i64 s.id):=yj.cell 0;have x1:(W7.setCell ⟨a.S,0,none⟩ (.int .i32 0)).cell? ⟨w.heap.size,1,none⟩=some (.int .u64 (pw 4 d.toNat 2147483579)):=yj.cell 1;have x2:(W7.setCell ⟨a.S,0,none⟩ (.int .i32 0)).cell? ⟨w.heap.size,2,none⟩=some (.int .u64 (pw 4 e.toNat 2147483579)):=yj.cell 2;refine leaves_cons (f:=83) (args:=#[.pointer (some ⟨a.S,0,none⟩)]) (by simp) (by simp[go_sem]) ?_;refine(unlock_deferred mb ⟨a.S,0,none⟩ .returning _ zh.cells.1 (zh.sg.frozen 0)).mono ?_;rintro x u' w'' ⟨rfl,rfl,rfl⟩;refine⟨.tuple #[.agg #[.int .i64 s.id,.int .u64 (pw 4 d.toNat 2147483579),.int .u64 (pw 4 e.toNat 2147483579)],.int .i64 0],by simp[results,Try.results52,go_sem,x0,x1,x2],?_⟩;have hcg:=Kt (s:=s) (d:=d) (e:=e) hE.out;exact⟨by rw[hcg.2,hE.out];rfl,by rw[hcg.1];exact zh.leave,QQ.iM (m6 a) 0 _⟩
end r7
namespace r7
open Go.RowKit Go.MuLone Go.Conc.Locks Pl mJ nG mI uU Mem Ey DI ng RB Lc Chk Lck Ew
section
variable{w:ae}{p g:Nat}{vc lv:af}{t n:Int}{cs:List Int}{l:List Cm}{msg:ByteArray}{base:Nat}
theorem atX(h:Pk w p g vc lv t n cs l msg base){k:Nat}(hk:k<l.length):
  Calls dS 67 #[.pointer (some ⟨p,0,none⟩),.int .i64 k] w fun e w'=>e=.returned (.agg #[.int .i64 (l.getD k .zero).id,.int .u64 (l.getD k .zero).d,.int .u64 (l.getD k .zero).e])/\w'=w.alloc (.cells #[.int .i64 (l.getD k .zero).id,.int .u64 (l.getD k .zero).d,.int .u64 (l.getD k .zero).e] 52):=by
 obtain⟨p0,p1,p2⟩:=h.cells;obtain⟨A,c,rfl⟩:=h.iJ.shape;obtain⟨b,off,rfl,hb,hc⟩:=h.iJ.at_ (by omega);obtain⟨x0,x1,x2⟩:=hc k hk;have hp:=h.pk.lt;clear h hc;generalize(l.getD k .zero).id=X at*;generalize(l.getD k .zero).d=D at*;generalize(l.getD k .zero).e=E at*;have k1:(0:Int)<=(k:Int):=by omega
 have k2:(k:Int)<(l.length:Int):=by omega
 go_enter Try.func67,Try.ntmps67
 go_wp2_with fail
 refine bodyPost_ret (v:=.agg #[.int .i64 X,.int .u64 D,.int .u64 E]) (by simp[results,Try.results67,go_sem]) rfl ?_;exact⟨rfl,rfl⟩
theorem Pk.az2{w':ae}{M:Nat}{es:Array MapEntry}{cl:Nat}(h:Pk w p g vc lv t n cs l msg base)(hM:w.heap[M]?=some (.map es cl))(hg:w.grownBy w' (some M)):Pk w' p g vc lv t n cs l msg base:=by
 have hno:∀b i,b=M->w.cell? ⟨b,i,none⟩=none:=fun b i e=>by subst e;simp[World.cell?,hM]
 have hmv:∀b,b<w.heap.size->b≠M->w'.heap[b]?=w.heap[b]?:=fun b hb hne=>hg.block b hb (fun e=>hne (by injection e));have hcell:∀b i u,b<w.heap.size->w.cell? ⟨b,i,none⟩=some u->w'.cell? ⟨b,i,none⟩=some u:=fun b i u hb h=>by
  have hne:b≠M:=fun e=>by rw[hno b i e]at h;cases h
  exact(World.cell?_of_block (hmv b hb hne)).trans h
 have hbk:∀{g T C},ft w g T C->g≠M:=fun{g T C} hb e=>by
  subst e;unfold ft at hb;rw[hM]at hb;cases hb
 refine⟨(hmv p h.pk.lt (hbk h.pk)).trans h.pk,?_,?_,?_⟩
 ·obtain⟨h1,A,c,rfl,hc,h2⟩:=h.iJ;refine⟨h1,A,c,rfl,hc,fun hp=>?_⟩;obtain⟨b,off,rfl,hb,h3⟩:=h2 hp;exact⟨b,off,rfl,bT hb hg.size,fun j u hj=>hcell b _ u hb (h3 j u hj)⟩
 ·exact h.kP.grown hg (fun e=>hbk h.kP.choose_spec.1 (by injection e))
 ·refine⟨h.own.1,?_⟩;rcases h.own.2 with h2|⟨g',cap,cur,rfl,hb,hh,r⟩
  ·exact .inl h2
  ·exact .inr ⟨g',cap,cur,rfl,hb,(hmv g' (Array.getElem?_eq_some_iff.1 hh).1 (hbk (T:=79) (C:=cur) hh)).trans hh,r⟩
end
def lZ(X:List Nat)(w:ae)(lv:af)(l:List Cm):Prop:=∀w',Only X w w'->lI w' w'.heap.size lv l
def qK(w:ae)(a:Loc)(s:St)(l:List Cm)(msg:ByteArray)(p:Nat)(lv:af)(wx:ae):Prop:=
 l6 wx a s/\Pk wx p a.g (.slice (some ⟨a.gc,0,none⟩) s.cs.length a.cap) lv s.t s.n s.cs l msg a.base/\Only a.foot w wx
theorem qK.later{w:ae}{a:Loc}{s:St}{l:List Cm}{msg:ByteArray}{p:Nat}{lv:af}{wx wy:ae}(h:qK w a s l msg p lv wx)(hb:Below wx.heap.size wx wy):qK w a s l msg p lv wy:=
 ⟨h.1.later hb,h.2.1.later hb,h.2.2.EB hb⟩
theorem ak1(x d e:Int)(w:ae):(Instr.field 52 (.agg #[.int .i64 x,.int .u64 d,.int .u64 e]) 0).run dS w=.ok (.int .i64 x) w:=kr
theorem vU(w:ae)(a:Loc)(s:St)(msg:ByteArray)(l:List Cm)(lv:af)(h:iH w a s)(hok:Ok s)(hC:lZ a.foot w lv l)(hl:l.length<=65536)
  (hb:∀i,i<l.length->0<=(l.getD i .zero).d/\0<=(l.getD i .zero).e)(CM:msg.size<=1000000)(v e:Int)(s':St)(hr:kV s msg l v e s'):
  Calls dS 54 #[.pointer (some ⟨a.S,0,none⟩),.string msg,lv] w fun x w'=>x=.returned (.tuple #[.int .u64 v,.int .i64 e])/\iH w' a s'/\Only a.foot w w':=by
 have h0:w.cell? ⟨a.S,0,none⟩=some (.int .i32 0):=h.sg.cell 0;have hz:=h.sg.frozen 0;have hI:=h.enter;have hlk:=lock_free mb ⟨a.S,0,none⟩ w h0 hz;have Ym:=(Only.refl a.foot w).iM (m6 a) 0 (.int .i32 1);have hC1:=hC _ Ym;obtain⟨A,c,rfl⟩:=hC1.shape;have HLK:=ay hlk;have HI:=ay hI;have Ry:=ay Ym;have HL:=ay hok;have HR:=ay hr;have hpk:=ay (al3 (msg:=msg) hI.kP hI.own hC1 hl hb);obtain⟨c0,c2,c3,c4,c5⟩:=hI.cells;clear h hok h0 hz hI hlk Ym hC1 hr hC hb c0 c3 c4 c5;go_enter_defers Try.func54,Try.ntmps54
 go_wp2_with (go_at_call 82;refine HLK.out.mono ?_;rintro e w' ⟨rfl,rfl⟩)
 clear HLK;generalize w.setCell ⟨a.S,0,none⟩ (.int .i32 1)=W1 at*;refine hpk.out.mono ?_;rintro x W2 ⟨hb2,⟨hne,rfl⟩|⟨h0,p,ZY,rfl,hP⟩⟩
 ·obtain⟨rfl,rfl,rfl⟩:=ak5 HR.out hne;have t1:(rD s'.t s'.n l != 0)=true:=by rw[bne_iff_ne];exact hne
  have hI2:=HI.out.later hb2;have HO2:=ay (Ry.out.EB hb2);have HI2:=ay hI2;obtain⟨c0,-⟩:=hI2.cells;have hz1:=hI2.sg.frozen 0;obtain⟨y,hy⟩:∃y,rD s'.t s'.n l=y:=⟨_,rfl⟩;have HY:=ay hy;rw[hy]at t1 ⊢;clear hb2 hI2 hne HI Ry hpk hy HR;go_wp2_with fail
  refine leaves_cons (f:=83) (args:=#[.pointer (some ⟨a.S,0,none⟩)]) (by simp) (by simp[go_sem]) ?_;refine(unlock_deferred mb ⟨a.S,0,none⟩ .returning _ c0 hz1).mono ?_;rintro x u' w'' ⟨rfl,rfl,rfl⟩;refine⟨.tuple #[.int .u64 0,.int .i64 y],by simp[results,Try.results54,go_sem],?_⟩;exact⟨by rw[HY.out],HI2.out.leave,HO2.out.iM (m6 a) 0 _⟩
 have H0:=ay h0;have hM2:=ay (show qK w a s l msg p ZY W2 from⟨HI.out.later hb2,hP,Ry.out.EB hb2⟩);have hll:=(xJ h0).2.1;have h9:=HL.out.spec.2.2.1;have hlen:=aS9 hP;clear hb2 HI Ry hpk hP h0 c2;go_wp2_with fail
 refine hlen.mono ?_;rintro x w' ⟨rfl,rfl⟩;clear hlen;go_wp2_with fail
 go_loopw [10,39] (fun m i wr=>∃k:Nat,k<=l.length/\i=.int .i64 k/\m=.int .i64 (mQ s.id l k)/\qK w a s l msg p ZY wr) (fun _ i _=>l.length-(intOf i).toNat)
 case atStart=>exact⟨0,by omega,rfl,rfl,hM2.out⟩
 case round=>
  obtain⟨k,hk,rfl,rfl,hmid⟩:=hrel;have xn:=ay hmid;clear hmid hM2;by_cases hlt:k<l.length
  ·have hat:=ay (fun wy hb=>atX (xn.out.later (wy:=wy) hb).2.1 hlt);have JG:=ay (EY (id:=s.id) (l:=l) (k:=k));have hno:=ay (Jp (id:=s.id) (l:=l) (k:=k));obtain⟨c0,c2,c3,c4,c5⟩:=xn.out.1.cells;generalize(l.getD k .zero).id=X at*;generalize(l.getD k .zero).d=D at*;generalize(l.getD k .zero).e=E at*;go_upto_region 10 with fail
   have hfd:=ak1;by_cases hX:X=s.id
   ·have t1:(X==s.id)=true:=by rw[beq_iff_eq];exact hX
    go_region_held3 (fun w'=>w'.cell? ⟨a.S,3,none⟩=some (.int .i64 s.id)) (go_keep)
     (first|(go_at_call 67;refine(hat.out _ bre.drew).mono ?_;rintro e w' ⟨rfl,rfl⟩))
    all_goals
     go_wp2_with fail
     exact⟨⟨k+1,by omega,by go_num,by rw[JG.out hX],xn.out.later (eB wr _).drew⟩,by simp[intOf]<;>omega⟩
   ·have t1:(X==s.id)=false:=by rw[beq_eq_false_iff_ne];exact hX
    go_region_held3 (fun w'=>w'.cell? ⟨a.S,3,none⟩=some (.int .i64 s.id)) (go_keep)
     (first|(go_at_call 67;refine(hat.out _ bre.drew).mono ?_;rintro e w' ⟨rfl,rfl⟩))
    all_goals
     go_wp2_with fail
     exact⟨⟨k+1,by omega,by go_num,by rw[hno.out hX],xn.out.later (eB wr _).drew⟩,by simp[intOf]<;>omega⟩
  ·obtain rfl:k=l.length:=by omega
   clear hlt;by_cases hneg:mQ s.id l l.length<0;case pos=>
    obtain⟨rfl,rfl,rfl⟩:=SG HR.out H0.out hneg;have t1:decide (mQ s'.id l l.length<0)=true:=decide_eq_true hneg;obtain⟨c0,-⟩:=xn.out.1.cells;have hz1:=xn.out.1.sg.frozen 0;generalize mQ s'.id l l.length=m at*;clear hneg HR;go_wp2_with fail
    refine leaves_cons (f:=83) (args:=#[.pointer (some ⟨a.S,0,none⟩)]) (by simp) (by simp[go_sem]) ?_;refine(unlock_deferred mb ⟨a.S,0,none⟩ .returning _ c0 hz1).mono ?_;rintro x u' w'' ⟨rfl,rfl,rfl⟩;refine⟨.tuple #[.int .u64 0,.int .i64 10],by simp[results,Try.results54,go_sem],?_⟩;exact⟨rfl,xn.out.1.leave,xn.out.2.2.iM (m6 a) 0 _⟩
   case neg=>
    obtain⟨m,hml,hmm,hmi⟩:∃m:Nat,m<l.length/\mQ s.id l l.length=m/\(l.getD m .zero).id=s.id:=by
     rcases wH s.id l l.length with⟨h1,_⟩|h1
     ·omega
     ·exact h1
    have hgd:=vB H0.out;have HMM:=ay hmm;have HGD:=ay hgd;rw[hmm];have QK:=HL.out.id9;have hinj:∀q∈s.pl,∀q'∈s.pl,jr s.id q=jr s.id q'->q=q':=fun q h1 q' h2 h3=>Di (HL.out.sc q h1) (HL.out.sc q' h2) h3;have hft:Fits (l.getD m .zero):=by
     obtain⟨⟨h1,h2⟩,-,⟨h3,h4⟩,h5,h6⟩:=hgd m hml;exact⟨⟨by omega,by omega⟩,⟨by omega,by omega⟩,by omega,by omega⟩
    obtain⟨q,bh,tB,hbh,hbq⟩:=Jt (M:=a.M) QK hinj hft;have HBH:=ay hbh;have HBQ:=ay hbq;have hat:=fun wy hb=>atX (xn.out.later (wy:=wy) hb).2.1 hml;have hkv:nB (l.getD m .zero)=.agg #[.int .i64 (l.getD m .zero).id,.int .u64 (l.getD m .zero).d,.int .u64 (l.getD m .zero).e]:=rfl;rw[hkv]at tB;have HI:=xn.out.1;have Wc:=HI.map;obtain⟨c0,c2,c3,c4,c5⟩:=HI.cells;have hSz:=HI.sg.lt;have KS:=ay hat;rw[hmi]at tB KS;clear hmi hat;obtain⟨X,hX⟩:∃X,s.id=X:=⟨_,rfl⟩;rw[hX]at tB KS Wc;obtain⟨D,hD⟩:∃D,(l.getD m .zero).d=D:=⟨_,rfl⟩;obtain⟨E,hE⟩:∃E,(l.getD m .zero).e=E:=⟨_,rfl⟩;rw[hD,hE]at tB KS;have HX:=ay hX;have HD:=ay hD;have HE:=ay hE;clear hX hD hE hkv;have aw9:(Instr.lookup 157 (.map (some a.M)) (.agg #[.int .i64 X,.int .u64 D,.int .u64 E]) true).run dS (wr.alloc (.cells #[.int .i64 X,.int .u64 D,.int .u64 E] 52)).drew=.ok (.tuple #[.agg #[.int .u64 q.1,.int .u64 q.2],.bool bh]) (wr.alloc (.cells #[.int .i64 X,.int .u64 D,.int .u64 E] 52)).drew:=
     tB _ (Wc.of_block (heap_alloc_old wr _ Wc.lt))
    have hlk2:(Instr.lookup 157 (.map (some a.M)) (.agg #[.int .i64 X,.int .u64 D,.int .u64 E]) true).run dS ((wr.alloc (.cells #[.int .i64 X,.int .u64 D,.int .u64 E] 52)).alloc (.cells #[.int .u64 0,.int .u64 0] 161)).drew=.ok (.tuple #[.agg #[.int .u64 q.1,.int .u64 q.2],.bool bh]) ((wr.alloc (.cells #[.int .i64 X,.int .u64 D,.int .u64 E] 52)).alloc (.cells #[.int .u64 0,.int .u64 0] 161)).drew:=
     tB _ (Wc.of_block ((heap_alloc_old (wr.alloc _) _ (by have:=Wc.lt;simp<;>omega)).trans (heap_alloc_old wr _ Wc.lt)))
    have bt9:(Instr.lookup 157 (.map (some a.M)) (.agg #[.int .i64 X,.int .u64 D,.int .u64 E]) true).run dS ((wr.alloc (.cells #[.int .u64 0,.int .u64 0] 161)).alloc (.cells #[.int .i64 X,.int .u64 D,.int .u64 E] 52)).drew=.ok (.tuple #[.agg #[.int .u64 q.1,.int .u64 q.2],.bool bh]) ((wr.alloc (.cells #[.int .u64 0,.int .u64 0] 161)).alloc (.cells #[.int .i64 X,.int .u64 D,.int .u64 E] 52)).drew:=
     tB _ (Wc.of_block ((heap_alloc_old (wr.alloc _) _ (by have:=Wc.lt;simp<;>omega)).trans (heap_alloc_old wr _ Wc.lt)))
    have t1:decide ((m:Int)<0)=false:=decide_eq_false (by omega);have hfA:wr.heap.size∉a.foot/\wr.heap.size+1∉a.foot:=⟨fun hk=>by have:=xn.out.1.leave.lt _ hk;simp at this,fun hk=>by have:=xn.out.1.leave.lt _ hk;simp at this<;>omega⟩;have hbA:∀x y:Obj,Below wr.heap.size wr ((wr.alloc x).alloc y).drew:=fun x y=>((eB wr x).alloc (by simp) y).drew;have hkA:ft ((wr.alloc (.cells #[.int .i64 X,.int .u64 D,.int .u64 E] 52)).alloc (.cells #[.int .u64 q.1,.int .u64 q.2] 161)).drew (wr.heap.size+1) 161 #[.int .u64 q.1,.int .u64 q.2]:=jG _ _ (by simp);have hkB:ft ((wr.alloc (.cells #[.int .u64 q.1,.int .u64 q.2] 161)).alloc (.cells #[.int .i64 X,.int .u64 D,.int .u64 E] 52)).drew wr.heap.size 161 #[.int .u64 q.1,.int .u64 q.2]:=(jG (w:=wr) 161 _ rfl).below ((eB _ _).drew) (by simp);have HFA:=ay hfA;have HBA:=ay hbA;have HKA:=ay hkA;have HKB:=ay hkB;clear hfA hbA hkA hkB;clear tB hbh hbq HI Wc hft hinj hmm hgd c0 c2 c3 c4 hneg;go_upto_region 15 with fail
    go_cut [12,13]from 55 to 66 (fun pp b wx=>∃PB,PB∉a.foot/\pp=.pointer (some ⟨PB,0,none⟩)/\b=.bool bh/\ft wx PB 161 #[.int .u64 q.1,.int .u64 q.2]/\qK w a s l msg p ZY wx)
    case first=>
     go_region_held3 (fun w'=>w'.cell? ⟨a.S,5,none⟩=some (.map (some a.M))) (go_keep)
      (first|(go_at_call 67;refine(KS.out _ (by first|exact bre.drew|exact(eB _ _).drew)).mono ?_;rintro e w' ⟨rfl,rfl⟩))
     all_goals
      go_wp2_with fail
      go_meet
      first
       |exact⟨_,HFA.out.2,rfl,rfl,HKA.out,xn.out.later (HBA.out _ _)⟩
       |exact⟨_,HFA.out.1,rfl,rfl,HKB.out,xn.out.later (HBA.out _ _)⟩
    case rest=>
     obtain⟨PB,hPB,rfl,rfl,hblk,hmid⟩:=hcut;rename ae=>W6
     have zZ:=ay hmid;have Rz:=ay hblk;have HPB:=ay hPB;clear aw9 hlk2 bt9 HFA HBA HKA HKB xn KS c5 hmid hblk hPB hSz HX HD HE;cases bh;case false=>
      obtain⟨rfl,rfl,rfl⟩:=SJ HR.out H0.out HMM.out (fun⟨q',h1,h2⟩=>by have:=HBH.out.2 ⟨q',h1,h2⟩;cases this);obtain⟨c0,-⟩:=zZ.out.1.cells;have hz1:=zZ.out.1.sg.frozen 0;clear HR;go_wp2_with fail
      refine leaves_cons (f:=83) (args:=#[.pointer (some ⟨a.S,0,none⟩)]) (by simp) (by simp[go_sem]) ?_;refine(unlock_deferred mb ⟨a.S,0,none⟩ .returning _ c0 hz1).mono ?_;rintro x u' w'' ⟨rfl,rfl,rfl⟩;refine⟨.tuple #[.int .u64 0,.int .i64 10],by simp[results,Try.results54,go_sem],?_⟩;exact⟨rfl,zZ.out.1.leave,zZ.out.2.2.iM (m6 a) 0 _⟩
     case true=>
      obtain⟨hq1,hq2⟩:=HBQ.out rfl;obtain⟨j,hj,aU5⟩:=WM HR.out HL.out H0.out HMM.out hq1 hq2;have hsp:=HL.out.spec;obtain⟨hcl,hc0⟩:=HL.out.key;have Ad:l.length<=9:=by omega
      have hall:=ay (fun r x=>a97 zZ.out.2.1 HGD.out hsp.2.2.1 Ad hcl ⟨by omega,by omega⟩ CM r x);have HJ:=ay hj;have HQ1:=ay hq1;have HQ2:=ay hq2;have HCL:=ay hcl;have HC0:=ay hc0;have h9':=ay hsp.2.2.1;clear hq1 hq2 hj hsp hcl hc0 HBQ HBH HR;rcases aU5 with⟨ha,rfl,rfl,rfl⟩|⟨ha,hv,rfl,rfl⟩
      ·have Fg:=ay (hall.out 0 11 (.inl ⟨ha,rfl,rfl⟩));clear ha hall;go_wp2_with fail
       refine Fg.out.mono ?_;rintro x W7 ⟨rfl,Mt⟩;have uT:=ay (zZ.out.later Mt);obtain⟨c0,-⟩:=uT.out.1.cells;have hz1:=uT.out.1.sg.frozen 0;clear Mt Fg;go_wp2_with fail
       refine leaves_cons (f:=83) (args:=#[.pointer (some ⟨a.S,0,none⟩)]) (by simp) (by simp[go_sem]) ?_;refine(unlock_deferred mb ⟨a.S,0,none⟩ .returning _ c0 hz1).mono ?_;rintro x u' w'' ⟨rfl,rfl,rfl⟩;refine⟨.tuple #[.int .u64 0,.int .i64 11],by simp[results,Try.results54,go_sem],?_⟩;exact⟨rfl,uT.out.1.leave,uT.out.2.2.iM (m6 a) 0 _⟩
      ·have Fg:=ay (hall.out _ 0 (.inr ⟨ha,rfl,rfl⟩));have HV:=ay hv;clear ha hall hv;have hrb:0<=iT l (s.cs.getD 0 0) msg/\iT l (s.cs.getD 0 0) msg<2147483579:=by rw[Ha];exact Px _ _ _ _
       obtain⟨R,hR⟩:∃R,iT l (s.cs.getD 0 0) msg=R:=⟨_,rfl⟩;rw[hR]at Fg hrb;have HRR:=ay hR;clear hR;go_wp2_with fail
       refine Fg.out.mono ?_;rintro x W7 ⟨rfl,Mt⟩;have uT:=ay (zZ.out.later Mt);have VI:=ay (Rz.out.below Mt Rz.out.lt);clear Mt Fg zZ Rz;have hat:=ay (fun wy hb=>atX (uT.out.later (wy:=wy) hb).2.1 hml);obtain⟨c0,c2,c3,c4,c5⟩:=uT.out.1.cells;have hM7:=uT.out.1.map;have hSz:=uT.out.1.sg.lt;have Yj:Below W7.heap.size W7 (W7.alloc (.cells #[.int .i64 (l.getD m .zero).id,.int .u64 (l.getD m .zero).d,.int .u64 (l.getD m .zero).e] 52)).drew:=(eB W7 _).drew;obtain⟨W8,hst,hM8,OY⟩:=LC (hM7.of_block (Yj.block _ hM7.lt)) QK HJ.out (fun i q' h1 h2=>HL.out.aC7 HJ.out i q' h1 h2) 0;have JM:=uT.out.later Yj;obtain⟨es8,cl8,aX0,-⟩:=JM.1.map;have a08:=Pk.az2 JM.2.1 aX0 OY;have hI8:=Im JM.1 OY hM8;have hO8:=JM.2.2.grown (KP a) OY;have hB8:=(VI.out.below Yj VI.out.lt).grown OY (by simp<;>exact fun e=>HPB.out (e ▸ KP a));have HM8:=ay (show qK w a {s with pl:=s.pl.eraseIdx j} l msg p ZY W8 from⟨hI8,a08,hO8⟩);have HB8:=ay hB8;have x5:=hI8.cells.2.2.2.2;rw[HQ2.out]at hst;have aV1:(Builtin.delete_ #[157,52] 0 #[.map (some a.M),.agg #[.int .i64 (l.getD m .zero).id,.int .u64 (l.getD m .zero).d,.int .u64 (l.getD m .zero).e]]).run dS (W7.alloc (.cells #[.int .i64 (l.getD m .zero).id,.int .u64 (l.getD m .zero).d,.int .u64 (l.getD m .zero).e] 52)).drew=.ok (.tuple #[]) W8:=hst;clear hst hM8 OY JM aX0 a08 hI8 hO8 hB8 Yj hM7 c0 c2 c3 c4;generalize(l.getD m .zero).id=X at*;generalize(l.getD m .zero).d=D at*;generalize(l.getD m .zero).e=E at*;go_upto_region 21 with fail
       go_cut [14]from 76 to 83 (fun r wx=>r=.int .u64 R/\ft wx PB 161 #[.int .u64 q.1,.int .u64 q.2]/\qK w a {s with pl:=s.pl.eraseIdx j} l msg p ZY wx)
       case first=>
        go_region_held3 (fun w'=>w'.cell? ⟨a.S,5,none⟩=some (.map (some a.M))) (first|go_keep|exact x5)
         (first|(go_at_call 67;refine(hat.out _ bre.drew).mono ?_;rintro e w' ⟨rfl,rfl⟩))
        all_goals
         go_wp2_with fail
         go_meet
         exact⟨rfl,HB8.out,HM8.out⟩
       case rest=>
        obtain⟨rfl,hB9,hM9⟩:=hcut;rename ae=>W9
        have HM9:=ay hM9;have HB9:=ay hB9;clear c5 x5 aV1 hSz HM8 HB8 uT VI hat hB9 hM9;have aV0:∀q∈s.pl,_:=HL.out.sc;obtain⟨⟨qd0,qd1⟩,qe0,qe1⟩:=aV0 q HQ1.out;have b0:W9.cell? ⟨PB,0,none⟩=some (.int .u64 q.1):=HB9.out.cell 0;have b1:W9.cell? ⟨PB,1,none⟩=some (.int .u64 q.2):=HB9.out.cell 1;have ay3:=HB9.out.lt;have ay4:=HM9.out.later bre.drew;have hbi:=ay (ae4 ay4.2.1 HGD.out h9'.out Ad HCL.out ⟨by have:=HC0.out;show 0<=s.cs.getD 0 0;omega,by have:=HC0.out;show s.cs.getD 0 0<_;omega⟩ CM hml);have bd4:=ay ay4;clear ay4 aV0;have hbv:Hid (tM s msg l m q=kW (kW q.1 (smul q.2 (mh l (s.cs.getD 0 0) msg m))) (smul (smul (iz (kM l l.length) m) s.share) (l5 R (s.cs.getD 0 0) msg))):=by
         show tM s msg l m q=_;rw[<-HRR.out];rfl
        generalize mh l (s.cs.getD 0 0) msg m=Bd at*;go_upto_region 22 with fail
        go_cut [14,15]from 83 to 92 (fun r z wx=>r=.int .u64 R/\z=.int .u64 (kW q.1 (smul q.2 Bd))/\qK w a {s with pl:=s.pl.eraseIdx j} l msg p ZY wx)
        case first=>
         go_region_held3 (fun w'=>w'.cell? ⟨PB,0,none⟩=some (.int .u64 q.1)/\w'.cell? ⟨PB,1,none⟩=some (.int .u64 q.2))
          (first|go_keep|(exact⟨(hb1.cell (p:=⟨PB,0,none⟩) ay3).trans b0,(hb1.cell (p:=⟨PB,1,none⟩) ay3).trans b1⟩))
          (first|(go_at_call 84;refine hbi.out.mono ?_;rintro e W10 ⟨rfl,hb1⟩)|(go_at_call 69;refine(lM _ _ _).mono ?_;rintro e w' ⟨rfl,rfl⟩)|(go_at_call 73;refine(Nr _ _ _).mono ?_;rintro e w' ⟨rfl,rfl⟩))
         all_goals
          go_wp2_with fail
          go_meet
          exact⟨rfl,rfl,bd4.out.later hb1⟩
        case rest=>
         obtain⟨rfl,rfl,a13⟩:=hcut;rename ae=>W10
         have VH:=ay a13;clear b0 b1 ay3 hbi bd4 HB9 HM9 a13;obtain⟨c0,c2,c3,c4,c5⟩:=VH.out.1.cells;clear c0 c3 c5;have hkey:=ay (au7 VH.out.2.1.kP VH.out.2.1.own HCL.out);obtain⟨K,hK⟩:∃K,s.cs.getD 0 0=K:=⟨_,rfl⟩;have HK:=ay hK;have hKb:0<=K/\K<18446744073709551616:=by have h1:=HC0.out;rw[hK]at h1;omega
         have OV:Calls dS 60 #[.pointer (some ⟨a.g,0,none⟩)] W10 fun e w'=>e=.returned (.int .u64 K)/\W10=w':=by rw[<-hK];exact hkey.out
         have hch:=ay (wW R K msg W10 CM ⟨by omega,by omega⟩ hKb);rw[hK]at hbv;have HBV:=ay hbv.out;have af6:=ay OV;clear hK hbv hKb hkey OV hrb;go_upto_region 24 with(first|(go_at_call 60;refine af6.out.mono ?_;rintro e w' ⟨rfl,rfl⟩)|(go_at_call 59;refine hch.out.mono ?_;rintro e W11 ⟨rfl,zg⟩))
         have Uy:=VH.out.later zg;have bE8:=ay Uy;have x4:=Uy.1.cells.2.2.2.1;have Ux:=Uy.later bre.drew;have ab7:=Uy.1.sg.lt;have hwt:=ay (LP Ux.2.1 Ad hml);have af5:=ay Ux;clear Uy Ux hch af6 c2 zg VH;generalize iz (kM l l.length) m=L at*;generalize l5 R K msg=C at*;go_cut [6,7]from 100 to 111 (fun z e wx=>z=.int .u64 (kW (kW q.1 (smul q.2 Bd)) (smul (smul L s.share) C))/\e=.int .i64 0/\qK w a {s with pl:=s.pl.eraseIdx j} l msg p ZY wx)
         case first=>
          go_region_held3 (fun w'=>w'.cell? ⟨a.S,4,none⟩=some (.int .u64 s.share))
           (first|go_keep|(exact(hb1.cell (p:=⟨a.S,4,none⟩) ab7).trans x4))
           (first|(go_at_call 70;refine hwt.out.mono ?_;rintro e W12 ⟨rfl,hb1⟩)|(go_at_call 69;refine(lM _ _ _).mono ?_;rintro e w' ⟨rfl,rfl⟩)|(go_at_call 73;refine(Nr _ _ _).mono ?_;rintro e w' ⟨rfl,rfl⟩))
          all_goals
           go_wp2_with fail
           go_meet
           exact⟨rfl,rfl,af5.out.later hb1⟩
         case rest=>
          obtain⟨rfl,rfl,Yn⟩:=hcut;rename ae=>W12
          have bd6:=ay Yn;obtain⟨c0,-⟩:=Yn.1.cells;have hz1:=Yn.1.sg.frozen 0;clear Yn bE8 af5 hwt x4 ab7;go_wp2_with fail
          refine leaves_cons (f:=83) (args:=#[.pointer (some ⟨a.S,0,none⟩)]) (by simp) (by simp[go_sem]) ?_;refine(unlock_deferred mb ⟨a.S,0,none⟩ .returning _ c0 hz1).mono ?_;rintro x u' w'' ⟨rfl,rfl,rfl⟩;refine⟨.tuple #[.int .u64 (kW (kW q.1 (smul q.2 Bd)) (smul (smul L s.share) C)),.int .i64 0],by simp[results,Try.results54,go_sem],?_⟩;exact⟨by rw[HV.out,HBV.out],bd6.out.1.leave,bd6.out.2.2.iM (m6 a) 0 _⟩
end r7
namespace Lag
open Pl mJ Odr
def aU0:Nat->Nat
 |1=>1
 |2=>536870895
 |3=>357913930
 |4=>805306342
 |5=>214748358
 |6=>178956965
 |7=>920350105
 |8=>402653171
 |_=>0
def br3(y x:Nat):Nat:=if x<y then aU0 (y-x)else 1073741789-aU0 (x-y)
def aM2(x acc y:Nat):Nat:=if Nat.beq y x then acc else acc*y%1073741789*br3 y x%1073741789
def wT(xs:List Nat)(x:Nat):Nat:=xs.foldl (aM2 x) 1
def ai6:List Nat->Nat
 |[]=>0
 |v::l=>v+ai6 l
def next:List Nat->List Nat->List Nat
 |x::xs,v::vs=>v*x%1073741789::next xs vs
 |_,_=>[]
def aS1(xs:List Nat):Nat->List Nat->Bool
 |0,_=>true
 |f+1,vs=>Nat.beq (ai6 vs%1073741789) 0&&aS1 xs f (next xs vs)
def Ah(xs:List Nat):Bool:=match xs with
 |[]=>true
 |_::r=>Nat.beq (ai6 (xs.map (wT xs))%1073741789) 1&&aS1 xs r.length (next xs (xs.map (wT xs)))
def nx(xs ws:List Nat):Nat->List Nat
 |0=>ws
 |m+1=>next xs (nx xs ws m)
end Lag
namespace La
open Go.RowKit Pl mJ nG mI Mem Ey Odr ng DI
def Kp(j:Nat)(pl:List (Int×Int)):Prop:=∀q∈pl,∃x:Nat,1<=x/\x<j/\q=((x:Int),(x:Int)+1)
section
variable{s s':St}{j:Nat}{msg:ByteArray}{v e:Int}
end
end La
namespace La
open Go.RowKit Pl mJ nG mI Mem Ey DI ng RB
open r7 (Only iH l6 lZ)
section
variable{P:au}{w:ae}
end
theorem pA{X:List Nat}{w:ae}{g:Nat}{T:aj}{C:Array af}{l:List Cm}(h:ft w g T C)(hC:C.toList=eX l)(hg:g∉X):lZ X w (.slice (some ⟨g,0,none⟩) l.length l.length) l:=fun w' ho=>by
 have hb:=ho.blk h hg;refine⟨gg l,_,_,rfl,aH _,fun _=>⟨g,0,rfl,hb.lt,fun j u hu=>?_⟩⟩;rw[cZ,hb.cell,<-Array.getElem?_toList,hC];exact hu
theorem MU{X:List Nat}{B:Nat}{w w':ae}(ho:Only X w w')(hX:∀k∈X,B<=k)(hB:B<=w.heap.size):Below B w w':=
 ⟨ho.os,ho.tape,ho.output,ho.size,fun k hk=>ho.block k (by omega) (fun hk'=>by have:=hX k hk';omega)⟩
theorem iH.only{w w':ae}{a:r7.Loc}{s:St}{X:List Nat}(h:iH w a s)(ho:Only X w w')(hX:∀k∈a.foot,k∉X):iH w' a s:=
 h.keep fun k hk=>ho.block k (h.lt k hk) (hX k hk)
section
variable{w wr w':ae}{a:r7.Loc}{OB base n:Nat}{v:af}{l:List Cm}
theorem BP{s:St}(h:iH wr a s)(hb:Below wr.heap.size wr w'):iH w' a s:=h.keep fun k hk=>hb.block k (h.lt k hk)
end
end La
namespace Kn
open Go.RowKit Pl Mem Cc mJ nG mI DI Ey ng La
open r7 (Only iH l6 lZ jM pF mH yc vU)
section
open Hr (gH)
noncomputable def fV:Code:=Try.f33.body.getD .skip
def fy(y:Nat->af):Array af:=#[y 0,y 1,y 2,y 3,y 4,y 5,y 6,y 7,y 8,y 9,y 10,y 11,y 12,y 13,y 14,y 15,y 16,y 17,y 18,y 19,y 20,y 21,y 22,y 23,y 24,y 25,y 26,y 27,y 28,y 29,y 30,y 31,y 32,y 33,y 34,y 35,y 36,y 37,y 38,y 39,y 40,y 41,y 42,y 43,y 44,y 45,y 46,y 47,y 48,y 49,y 50,y 51,y 52,y 53,y 54,y 55,y 56,y 57,y 58,y 59,y 60,y 61,y 62,y 63,y 64,y 65,y 66,y 67,y 68,y 69,y 70,y 71,y 72,y 73,y 74,y 75,y 76,y 77,y 78,y 79,y 80,y 81,y 82,y 83,y 84,y 85,y 86,y 87,y 88,y 89,y 90,y 91,y 92,y 93,y 94,y 95,y 96,y 97,y 98,y 99,y 100,y 101,y 102,y 103,y 104,y 105,y 106,y 107,y 108,y 109,y 110,y 111,y 112,y 113,y 114,y 115,y 116,y 117,y 118,y 119,y 120,y 121,y 122,y 123,y 124,y 125,y 126,y 127,y 128,y 129,y 130,y 131,y 132,y 133,y 134,y 135,y 136,y 137,y 138,y 139,y 140,y 141,y 142,y 143,y 144,y 145,y 146,y 147,y 148,y 149,y 150,y 151,y 152,y 153,y 154,y 155,y 156,y 157,y 158,y 159,y 160,y 161,y 162,y 163,y 164,y 165,y 166,y 167,y 168,y 169,y 170,y 171,y 172,y 173,y 174,y 175,y 176,y 177,y 178,y 179,y 180,y 181,y 182,y 183,y 184,y 185,y 186,y 187,y 188,y 189,y 190,y 191,y 192,y 193,y 194,y 195,y 196,y 197,y 198,y 199,y 200,y 201,y 202,y 203,y 204,y 205,y 206,y 207,y 208,y 209,y 210,y 211,y 212,y 213,y 214,y 215,y 216,y 217,y 218,y 219,y 220,y 221,y 222,y 223,y 224,y 225,y 226,y 227,y 228,y 229,y 230,y 231,y 232,y 233,y 234,y 235,y 236,y 237,y 238,y 239,y 240,y 241,y 242,y 243,y 244,y 245,y 246,y 247,y 248,y 249,y 250,y 251,y 252,y 253,y 254,y 255,y 256,y 257,y 258,y 259,y 260,y 261,y 262,y 263,y 264,y 265,y 266,y 267,y 268,y 269,y 270,y 271,y 272,y 273,y 274,y 275,y 276,y 277,y 278,y 279,y 280,y 281,y 282,y 283,y 284,y 285,y 286,y 287,y 288,y 289,y 290,y 291,y 292,y 293,y 294,y 295,y 296,y 297,y 298,y 299,y 300,y 301,y 302,y 303,y 304,y 305,y 306,y 307,y 308,y 309,y 310,y 311,y 312,y 313,y 314,y 315,y 316,y 317,y 318,y 319,y 320,y 321,y 322,y 323,y 324,y 325,y 326,y 327,y 328,y 329,y 330,y 331,y 332,y 333,y 334,y 335,y 336,y 337,y 338,y 339,y 340]
theorem jP(T:Array af)(h:T.size=341):∃y:Nat->af,T=fy y/\∀i v,T[i]?=some v->y i=v:=by
 refine⟨fun i=>T.getD i av,?_,fun i v hv=>?_⟩
 ·have e:T=((List.range 341).map fun i=>T.getD i av).toArray:=by
   refine Array.ext (by simp[h]) fun i h1 h2=>?_;simp[Array.getD,h1]
  exact e.trans rfl
 ·simp only[Array.getD];split
  ·rename_i hlt;rw[Array.getElem?_eq_getElem hlt]at hv;exact Option.some.inj hv
  ·rename_i hlt;rw[Array.getElem?_eq_none (by omega)]at hv;cases hv
def kG:List Int:=[1024,16384]
structure KG(W:ae)(GB:Nat)(A1:Option Addr)(k1:Nat)(w:ae):Prop where
 bel:gH W.heap.size W w
 gb1:W.heap.size<=GB
 kP:ft w GB 31 #[.int .i64 2,.int .i64 3,.slice A1 2 k1]
 cs:fW .u64 w W.heap.size (.slice A1 2 k1) kG
theorem KG.later{W w w':ae}{GB:Nat}{A1:Option Addr}{k1:Nat}(h:KG W GB A1 k1 w)(hb:Below w.heap.size w w'):KG W GB A1 k1 w':=
 ⟨h.bel.below hb h.bel.1,h.gb1,h.kP.below hb h.kP.lt,h.cs.below (hb.mono h.bel.1)⟩
theorem KG.nums{W w:ae}{GB:Nat}{A1:Option Addr}{k1:Nat}(h:KG W GB A1 k1 w):fW .u64 w w.heap.size (.slice A1 2 k1) kG:=h.cs.more h.bel.1
theorem JD:∀i,i<kG.length->0<=kG.getD i 0:=by decide
abbrev bb4:=Int×Int×Int
def Qu:List bb4:=[(1,13,8),(4,1,5),(2,1073741789,2)]
def yT:Array af:=#[.int .i64 1,.int .u64 13,.int .i64 8,.int .i64 4,.int .u64 1,.int .i64 5,.int .i64 2,.int .u64 1073741789,.int .i64 2]
theorem Xy:∀r∈Qu,newE 2 3 kG r.1 r.2.1=r.2.2/\r.2.2≠0/\0<=r.2.1/\r.2.1<18446744073709551616:=by
 have h:∀r∈Qu,IY 2 3 kG r.1 r.2.1=r.2.2/\r.2.2≠0/\0<=r.2.1/\r.2.1<18446744073709551616:=by decide+kernel
 intro r hr;rw[yR];exact h r hr
theorem Qv:∀(j:Nat) (r:bb4),Qu[j]?=some r->yT[j*3]?=some (.int .i64 r.1)/\yT[j*3+1]?=some (.int .u64 r.2.1)/\yT[j*3+2]?=some (.int .i64 r.2.2):=by
 intro j r h;have hlt:=(List.getElem?_eq_some_iff.1 h).1;have:j=0\/j=1\/j=2:=by
  have:Qu.length=3:=rfl
  omega
 rcases this with rfl|rfl|rfl<;>(cases h;exact⟨rfl,rfl,rfl⟩)
noncomputable def QG:Code:=match(eK 1 fV).2 with|.seq a _=>a|_=>.skip
noncomputable def as2:Code:=match QG with|.seq a _=>a|_=>.skip
noncomputable def at2:Code:=match QG with|.seq _ a=>a|_=>.skip
structure aD8(w:ae)(tb:Nat)(w':ae):Prop where
 bel:Below w.heap.size w w'
 blk:ft w' tb 141 yT
theorem bq1(w:ae):aD8 w w.heap.size (w.alloc (.cells yT 141)):=⟨bre.alloc nle _,ft.new w 141 yT⟩
theorem at0{w:ae}{y:Nat->af}:as2.wp dS (fun e a w'=>e=.normal/\a.defers=[]/\a.tmps.size=341/\a.tmps[1]?=some (y 1)/\a.tmps[2]?=some (y 2)/\a.tmps[41]?=some (.slice (some ⟨w.heap.size,0,none⟩) 3 3)/\a.tmps[42]?=some (.int .i64 3)/\a.tmps[43]?=some (.int .i64 0)/\aD8 w w.heap.size w') ⟨fy y,[]⟩ w:=by
 have HD:=ay (bq1 w);simp only[as2,QG,fV,eK,Try.f33,aJ,fy];go_wp2_with fail
 repeat' (first|exact HD.out|exact rfl|refine And.intro ?_ ?_)
theorem XR{W w w0:ae}{y:Nat->af}{tb GB k1:Nat}{A1:Option Addr}(y2:y 2=.pointer (some ⟨GB,0,none⟩))(y41:y 41=.slice (some ⟨tb,0,none⟩) 3 3)(y42:y 42=.int .i64 3)(y43:y 43=.int .i64 0)(hD:aD8 w0 tb w)(hG:KG W GB A1 k1 w):at2.wp dS (fun e a w'=>e=.normal/\a.defers=[]/\a.tmps.size=341/\a.tmps[1]?=some (y 1)/\a.tmps[2]?=some (y 2)/\Below w.heap.size w w') ⟨fy y,[]⟩ w:=by
 have HD:=ay hD;have HG:=ay hG;clear hD hG;simp only[at2,QG,fV,eK,Try.f33,aJ,fy,y2,y41,y42,y43];obtain⟨W1,rfl⟩:∃W1:ae,W1=w:=⟨_,rfl⟩;go_wp2_with fail
 go_loopw [43] (fun i wr=>∃j:Nat,j<=3/\i=.int .i64 j/\Below W1.heap.size W1 wr) (fun i _=>3-(intOf i).toNat)
 case atStart=>exact⟨0,by omega,rfl,Below.refl _ _⟩
 case round=>
  obtain⟨j,hj,rfl,fM⟩:=hrel;by_cases hlt:j<3
  ·obtain⟨r,hr⟩:∃r,Qu[j]?=some r:=⟨Qu[j],aN hlt⟩;obtain⟨c0,c1,c2⟩:=Qv j r hr;have hm:=Xy r (b7 hr);have hblk:=HD.out.blk.below fM HD.out.blk.lt;have hg:=HG.out.later fM;rw[<-hblk.cell]at c0 c1 c2;obtain⟨ID,SH,E⟩:=r;simp only at c0 c1 c2 hm;have g0:=hg.kP.cell 0;have g1:=hg.kP.cell 1;have g2:=hg.kP.cell 2;have gl:=hg.kP.lt;simp only[List.getElem?_toArray,List.getElem?_cons_zero,List.getElem?_cons_succ]at g0 g1 g2;have HM:=ay hm;have zz:=ay fM;have HGW:=ay hg;have q1:(j:Int)<3:=by omega
   have q2:(0:Int)<=(j:Int)/\(j:Int)<3:=by omega
   have zL:Below wr.heap.size wr (wr.alloc (.cells #[.int .i64 ID,.int .u64 SH,.int .i64 E] 141)):=bre.alloc nle _;have rC:=ay zL;have tH:=ay (ft.new wr 141 #[.int .i64 ID,.int .u64 SH,.int .i64 E]);clear hm fM hblk hr hg zL;go_wp2_with fail
   refine(jM 2 3 kG _ ID SH _ ((HGW.out.later rC.out).nums) (by decide) JD HM.out.2.2).mono ?_;rintro e w2 ⟨kg,hres⟩;obtain rfl:e=.returned (.tuple #[.pointer none,.int .i64 (newE 2 3 kG ID SH)]):=by
    rcases hres with⟨_,h⟩|⟨h1,-⟩
    ·exact h
    ·exact absurd (HM.out.1.symm.trans h1) HM.out.2.1
   rw[HM.out.1];have lU:wr.heap.size<(wr.alloc (.cells #[.int .i64 ID,.int .u64 SH,.int .i64 E] 141)).heap.size:=by simp
   have b2:w2.cell? ⟨wr.heap.size,2,none⟩=some (.int .i64 E):=(kg.cell (p:=⟨wr.heap.size,2,none⟩) lU).trans (tH.out.cell 2);have vJ:=ay (zz.out.trans ((rC.out.trans (kg.mono rC.out.size)).mono zz.out.size));have tEE:(E != E)=false:=by rw[bne_eq_false_iff_eq]
   have n1:wr.heap.size<w2.heap.size:=by have:=kg.size;omega
   generalize wr.heap.size=bx at*;clear kg tH rC zz HM hres;go_wp2_with fail
   exact⟨⟨j+1,by omega,by go_num,vJ.out⟩,by simp[intOf]<;>omega⟩
  ·obtain rfl:j=3:=by omega
   go_wp2_with fail
   repeat' (first|exact fM|exact rfl|refine And.intro ?_ ?_)
end
section
theorem vD{w:ae}{a:r7.Loc}{s:St}(h:iH w a s){g:Nat}{t:aj}{cs:Array af}(hg:ft w g t cs)(h1:t≠159)(h2:t≠137)(h3:t≠79):g∉a.foot:=by
 intro hx;simp[r7.Loc.foot]at hx;rcases hx with rfl|rfl|rfl|rfl
 ·exact ft.ne_ hg h.sg h1 rfl
 ·obtain⟨C,hC,-⟩:=h.kP;exact ft.ne_ hg hC h2 rfl
 ·exact kX h.own hg h3.symm rfl
 ·obtain⟨es,cl,hM,-⟩:=h.map;unfold ft at hg;rw[hM]at hg;cases hg
theorem KG.only{W w w':ae}{GB:Nat}{A1:Option Addr}{k1:Nat}(h:KG W GB A1 k1 w){a:r7.Loc}{s:St}(hs:iH w a s)(hf:∀x∈a.foot,W.heap.size<=x)(ho:Only a.foot w w'):KG W GB A1 k1 w':=
 have hb:=MU ho hf h.bel.1
 ⟨h.bel.below hb nle,h.gb1,ho.blk h.kP (vD hs h.kP (by decide) (by decide) (by decide)),h.cs.below hb⟩
structure Tw(W:ae)(GB:Nat)(A1:Option Addr)(k1:Nat)(a b:r7.Loc)(sa sb:St)(w:ae):Prop where
 g:KG W GB A1 k1 w
 sA:iH w a sa
 sB:iH w b sb
 fA:∀x∈a.foot,W.heap.size<=x
 fB:∀x∈b.foot,W.heap.size<=x
 ap:∀x∈a.foot,x∉b.foot
section
variable{W w w':ae}{GB k1:Nat}{A1:Option Addr}{a b:r7.Loc}{sa sb s':St}
theorem Tw.later(h:Tw W GB A1 k1 a b sa sb w)(hb:Below w.heap.size w w'):Tw W GB A1 k1 a b sa sb w':=⟨h.g.later hb,BP h.sA hb,BP h.sB hb,h.fA,h.fB,h.ap⟩
theorem Tw.IP(h:Tw W GB A1 k1 a b sa sb w)(ho:Only a.foot w w')(hs:iH w' a s'):Tw W GB A1 k1 a b s' sb w':=⟨h.g.only h.sA h.fA ho,hs,iH.only h.sB ho (fun k hk hk'=>h.ap k hk' hk),h.fA,h.fB,h.ap⟩
theorem Tw.S8(h:Tw W GB A1 k1 a b sa sb w)(ho:Only b.foot w w')(hs:iH w' b s'):Tw W GB A1 k1 a b sa s' w':=⟨h.g.only h.sB h.fB ho,iH.only h.sA ho h.ap,hs,h.fA,h.fB,h.ap⟩
end
def DF:St:=⟨2,3,kG,1,12,[]⟩
def KV:St:=⟨2,3,kG,3,26,[]⟩
theorem LZ:newE 2 3 kG 1 12=0/\newE 2 3 kG 3 26=0:=by
 have h:IY 2 3 kG 1 12=0/\IY 2 3 kG 3 26=0:=by decide+kernel
 rw[yR,yR];exact h
theorem ZQ{W w:ae}{GB k1:Nat}{A1:Option Addr}(hG:KG W GB A1 k1 w){id share:Int}(hs:0<=share/\share<18446744073709551616)(h0:newE 2 3 kG id share=0):
  Calls dS 51 #[.agg #[.int .i64 2,.int .i64 3,.slice A1 2 k1],.int .i64 id,.int .u64 share] w fun e w'=>∃a:r7.Loc,e=.returned (.tuple #[.pointer (some ⟨a.S,0,none⟩),.int .i64 0])/\iH w' a ⟨2,3,kG,id,share,[]⟩/\(∀k∈a.foot,w.heap.size<=k)/\Below w.heap.size w w':=
 (jM 2 3 kG _ id share w hG.nums (by decide) JD hs).mono fun e w' ⟨hb,h⟩=>by
  rcases h with⟨h1,-⟩|⟨-,a,h1,h2,h3⟩
  ·exact absurd h0 h1
  ·exact⟨a,h1,h2,h3,hb⟩
noncomputable def as0:Code:=(eK 2 fV).2
theorem aT3{W w:ae}{y:Nat->af}{GB k1 k2:Nat}{A1 A2:Option Addr}(y1:y 1=.slice A2 3 k2)(y2:y 2=.pointer (some ⟨GB,0,none⟩))(hG:KG W GB A1 k1 w)(hS:fW .u64 w W.heap.size (.slice A2 3 k2) [12,19,26]):
  Hs dS (fun a w'=>a.tmps.size=341/\a.tmps[2]?=some (y 2)/\∃sa sb:r7.Loc,a.tmps[9]?=some (.pointer (some ⟨sa.S,0,none⟩))/\a.tmps[11]?=some (.pointer (some ⟨sb.S,0,none⟩))/\Tw W GB A1 k1 sa sb DF KV w') (fun _ _=>False) (eK 3 as0).1 ⟨fy y,[]⟩ w:=by
 obtain⟨bs,os,rfl,hbs,hcs⟩:=(show∃b off,A2=some ⟨b,off,none⟩/\b<W.heap.size/\∀i,i<3->w.cell? ⟨b,off+i,none⟩=some (.int .u64 (([12,19,26]:List Int).getD i 0))from by
  obtain⟨A',c',hv,_,h⟩:=hS;cases hv;exact h (by decide))
 have v0:=hcs 0 (by decide);have v2:=hcs 2 (by decide);have g0:=hG.kP.cell 0;have g1:=hG.kP.cell 1;have g2:=hG.kP.cell 2;have gl:=hG.kP.lt;simp only[List.getElem?_toArray,List.getElem?_cons_zero,List.getElem?_cons_succ]at g0 g1 g2;simp only[List.getD_cons_zero,List.getD_cons_succ,Nat.add_zero]at v0 v2;have hbl:bs<w.heap.size:=bT hbs hG.bel.1;have rC:=ay (ZQ (hG.later bre.drew) (id:=1) (share:=12) (by omega) LZ.1);have HG:=ay hG;clear hG hS hcs;simp only[as0,fV,eK,Try.f33,aJ,fy,y1,y2];refine gA ?_;go_region_held3 (fun w'=>(w'.cell? ⟨GB,0,none⟩=some (.int .i64 2)/\w'.cell? ⟨GB,1,none⟩=some (.int .i64 3)/\w'.cell? ⟨GB,2,none⟩=some (.slice A1 2 k1))/\w'.cell? ⟨bs,os,none⟩=some (.int .u64 12))
  (first|go_keep|(exact⟨⟨(hbk.cell (p:=⟨GB,0,none⟩) gl).trans g0,(hbk.cell (p:=⟨GB,1,none⟩) gl).trans g1,(hbk.cell (p:=⟨GB,2,none⟩) gl).trans g2⟩,(hbk.cell (p:=⟨bs,os,none⟩) hbl).trans v0⟩))
  (first|(go_at_call 51;refine rC.out.mono ?_;rintro e w1 ⟨sa,rfl,hsa,hfa,hbk⟩))
 all_goals
  have hb1:Below w.heap.size w w1:=(bre.drew).trans hbk;have Wd:=HG.out.later hb1;have e0:=Wd.kP.cell 0;have e1:=Wd.kP.cell 1;have e2:=Wd.kP.cell 2;have el:=Wd.kP.lt;simp only[List.getElem?_toArray,List.getElem?_cons_zero,List.getElem?_cons_succ]at e0 e1 e2;have v2':=(hb1.cell (p:=⟨bs,os+2,none⟩) hbl).trans v2;have a00:bs<w1.heap.size:=bT hbl hb1.size;have bc7:=ay (ZQ (Wd.later bre.drew) (id:=3) (share:=26) (by omega) LZ.2);have HSA:=ay hsa;have HFA:=ay (show∀k∈sa.foot,W.heap.size<=k/\k<w1.heap.size from fun k hk=>⟨aY HG.out.bel.1 (hfa k hk),hsa.lt k hk⟩);have HG1:=ay Wd;clear hbk hsa hfa Wd hb1 g0 g1 g2 gl v0 v2 hbl rC HG;go_wp2_with fail
  refine gA ?_;go_region_held3 (fun w'=>(w'.cell? ⟨GB,0,none⟩=some (.int .i64 2)/\w'.cell? ⟨GB,1,none⟩=some (.int .i64 3)/\w'.cell? ⟨GB,2,none⟩=some (.slice A1 2 k1))/\w'.cell? ⟨bs,os+2,none⟩=some (.int .u64 26))
   (first|go_keep|(exact⟨⟨(hbk.cell (p:=⟨GB,0,none⟩) el).trans e0,(hbk.cell (p:=⟨GB,1,none⟩) el).trans e1,(hbk.cell (p:=⟨GB,2,none⟩) el).trans e2⟩,(hbk.cell (p:=⟨bs,os+2,none⟩) a00).trans v2'⟩))
   (first|(go_at_call 51;refine bc7.out.mono ?_;rintro e w2 ⟨sb,rfl,hsb,hfb,hbk⟩))
  all_goals
   have hb2:Below w1.heap.size w1 w2:=(bre.drew).trans hbk;have HTW:=ay (show Tw W GB A1 k1 sa sb DF KV w2 from⟨HG1.out.later hb2,BP HSA.out hb2,hsb,fun x hx=>(HFA.out x hx).1,fun x hx=>aY HG1.out.bel.1 (hfb x hx),fun x hx hx2=>by have:=(HFA.out x hx).2;have:=hfb x hx2;simp at this<;>omega⟩);clear hbk hsb hfb hb2 e0 e1 e2 el v2' a00 bc7 HG1 HSA HFA;go_wp2_with fail
   refine gA ?_;go_wp2_with fail
   exact⟨rfl,rfl,sa,rfl,sb,rfl,HTW.out⟩
end
section
theorem Sv:Ok DF/\Ok KV:=by
 obtain⟨h1,h2⟩:=LZ;have g1:=uQ (EX h1).1;have g2:=uQ (EX h2).1;exact⟨⟨g1.1,g1.2.1,g1.2.2.1,by decide,g1.2.2.2,by decide,(fun q hq=>by cases hq),.nil⟩,⟨g2.1,g2.2.1,g2.2.2.1,by decide,g2.2.2.2,by decide,(fun q hq=>by cases hq),.nil⟩⟩
abbrev bf2:=Int×Int
def Rh:List bf2:=[(0,1),(1,0),(1073741789,1),(1,1073741789)]
def xa:Array af:=#[.int .u64 0,.int .u64 1,.int .u64 1,.int .u64 0,.int .u64 1073741789,.int .u64 1,.int .u64 1,.int .u64 1073741789]
theorem YR:∀r∈Rh,(rV DF r.1 r.2=2/\yq DF r.1 r.2=DF/\Ku DF r.1 r.2=.zero)/\(0<=r.1/\r.1<18446744073709551616)/\0<=r.2/\r.2<18446744073709551616:=by
 intro r hr;have h:∀r∈Rh,(r.1=0\/r.2=0\/1073741789<=r.1\/1073741789<=r.2)/\(0<=r.1/\r.1<18446744073709551616)/\0<=r.2/\r.2<18446744073709551616:=by decide
 obtain⟨h1,h2⟩:=h r hr;have h3:=yr (s:=DF) h1;exact⟨⟨h3,pC (by rw[h3];decide)⟩,h2⟩
theorem Ri:∀(j:Nat) (r:bf2),Rh[j]?=some r->xa[j*2]?=some (.int .u64 r.1)/\xa[j*2+1]?=some (.int .u64 r.2):=by
 intro j r h;have hlt:=(List.getElem?_eq_some_iff.1 h).1;have:j=0\/j=1\/j=2\/j=3:=by
  have:Rh.length=4:=rfl
  omega
 rcases this with rfl|rfl|rfl|rfl<;>(cases h;exact⟨rfl,rfl⟩)
noncomputable def QF:Code:=match(eK 5 fV).2 with|.seq a _=>a|_=>.skip
noncomputable def as1:Code:=match QF with|.seq a _=>a|_=>.skip
noncomputable def at1:Code:=match QF with|.seq _ a=>a|_=>.skip
structure aF9(w:ae)(tb:Nat)(w':ae):Prop where
 bel:Below w.heap.size w w'
 blk:ft w' tb 73 xa
theorem bA5(w:ae):aF9 w w.heap.size (w.alloc (.cells xa 73)):=⟨bre.alloc nle _,ft.new w 73 xa⟩
theorem as9{w:ae}{y:Nat->af}:as1.wp dS (fun e a w'=>e=.normal/\a.defers=[]/\a.tmps.size=341/\a.tmps[2]?=some (y 2)/\a.tmps[9]?=some (y 9)/\a.tmps[11]?=some (y 11)/\a.tmps[99]?=some (.slice (some ⟨w.heap.size,0,none⟩) 4 4)/\a.tmps[100]?=some (.int .i64 4)/\a.tmps[101]?=some (.int .i64 0)/\aF9 w w.heap.size w') ⟨fy y,[]⟩ w:=by
 have HD:=ay (bA5 w);simp only[as1,QF,fV,eK,Try.f33,aJ,fy];go_wp2_with fail
 repeat' (first|exact HD.out|exact rfl|refine And.intro ?_ ?_)
section
variable{W w w' w0:ae}{GB k1:Nat}{A1:Option Addr}{a b:r7.Loc}{sa sb:St}
theorem aO7{tb:Nat}{t:aj}{cs:Array af}(hs:iH w0 a sa)(hb:ft w tb t cs)(hn:w0.heap.size<=tb)(ho:Only a.foot w w'):ft w' tb t cs:=ho.blk hb fun hx=>by have:=hs.lt _ hx;omega
end
theorem XQ{W w w0:ae}{y:Nat->af}{tb GB k1:Nat}{A1:Option Addr}{a b:r7.Loc}(y9:y 9=.pointer (some ⟨a.S,0,none⟩))(y99:y 99=.slice (some ⟨tb,0,none⟩) 4 4)(bm7:y 100=.int .i64 4)(bm6:y 101=.int .i64 0)(hD:aF9 w0 tb w)(h0:w0.heap.size<=tb)(hT0:Tw W GB A1 k1 a b DF KV w0)(hT:Tw W GB A1 k1 a b DF KV w):at1.wp dS (fun e x w'=>e=.normal/\x.defers=[]/\x.tmps.size=341/\x.tmps[2]?=some (y 2)/\x.tmps[9]?=some (y 9)/\x.tmps[11]?=some (y 11)/\Tw W GB A1 k1 a b DF KV w') ⟨fy y,[]⟩ w:=by
 have HBL:=ay (show ft w tb 73 xa from hD.blk);have HTB:=ay (show tb∉a.foot from fun hx=>by have:=hT0.sA.lt _ hx;omega);have HT:=ay hT;have HL:=ay Sv.1;clear hD hT h0 hT0;simp only[at1,QF,fV,eK,Try.f33,aJ,fy,y9,y99,bm7,bm6];go_wp2_with fail
 go_loopw [101] (fun i wr=>∃j:Nat,j<=4/\i=.int .i64 j/\Tw W GB A1 k1 a b DF KV wr/\ft wr tb 73 xa) (fun i _=>4-(intOf i).toNat)
 case atStart=>exact⟨0,by omega,rfl,HT.out,HBL.out⟩
 case round=>
  obtain⟨j,hj,rfl,htw,hblk⟩:=hrel;by_cases hlt:j<4
  ·obtain⟨r,hr⟩:∃r,Rh[j]?=some r:=⟨Rh[j],aN hlt⟩;obtain⟨c0,c1⟩:=Ri j r hr;have hm:=YR r (b7 hr);rw[<-hblk.cell]at c0 c1;obtain⟨D,E⟩:=r;simp only at c0 c1 hm;have HM:=ay hm;have HTW:=ay htw;have HBK:=ay hblk;have q1:(j:Int)<4:=by omega
   have q2:(0:Int)<=(j:Int)/\(j:Int)<4:=by omega
   have zL:Below wr.heap.size wr (wr.alloc (.cells #[.int .u64 D,.int .u64 E] 73)):=bre.alloc nle _;have rC:=ay zL;clear hm htw hblk hr zL HBL HT;go_wp2_with fail
   have hcm:=mH _ a DF D E (HTW.out.later rC.out).sA HL.out HM.out.2.1 HM.out.2.2;rw[HM.out.1.1,HM.out.1.2.1,HM.out.1.2.2,show nB .zero=.agg #[.int .i64 0,.int .u64 0,.int .u64 0]from rfl]at hcm;refine hcm.mono ?_;rintro e w2 ⟨rfl,hs2,QJ⟩;have HT2:=ay ((HTW.out.later rC.out).IP QJ hs2);have vJ:=ay (QJ.blk (HBK.out.below rC.out HBK.out.lt) HTB.out);have n1:wr.heap.size<w2.heap.size:=by
    have:=QJ.size
    have lU:wr.heap.size<(wr.alloc (.cells #[.int .u64 D,.int .u64 E] 73)).heap.size:=by simp
    omega
   generalize wr.heap.size=bx at*;clear hcm hs2 QJ rC HTW HBK HM;go_wp2_with fail
   have hbz:=eB w2 (.cells #[.int .i64 0,.int .u64 0,.int .u64 0] 52);exact⟨⟨j+1,by omega,by go_num,HT2.out.later hbz,vJ.out.below hbz vJ.out.lt⟩,by simp[intOf]<;>omega⟩
  ·obtain rfl:j=4:=by omega
   go_wp2_with fail
   repeat' (first|exact htw|exact rfl|refine And.intro ?_ ?_)
def Iq:St:=⟨2,3,kG,1,12,[(1,2)]⟩
def WI:St:=⟨2,3,kG,3,26,[(3,4)]⟩
def c1:Cm:=⟨1,4,16⟩
def c2:Cm:=⟨3,64,256⟩
def c3:Cm:=⟨2,4,4⟩
theorem YO:Ku DF 1 2=c1/\rV DF 1 2=0/\yq DF 1 2=Iq:=⟨rfl,rfl,rfl⟩
theorem YN:Ku KV 3 4=c2/\rV KV 3 4=0/\yq KV 3 4=WI:=⟨rfl,rfl,rfl⟩
def GY(c:Cm):Array af:=#[.int .i64 c.id,.int .u64 c.d,.int .u64 c.e]
theorem kR{w:ae}{a:r7.Loc}{s:St}(h:iH w a s){g:Nat}{cs:Array af}(hg:ft w g 52 cs):g∉a.foot:=vD h hg (by decide) (by decide) (by decide)
structure C3(b1 b2 b3:Nat)(w:ae):Prop where
 c1:ft w b1 52 (GY c1)
 c2:ft w b2 52 (GY c2)
 c3:ft w b3 52 (GY c3)
noncomputable def XO:Code:=(eK 6 fV).2
theorem at3{W w:ae}{y:Nat->af}{GB k1:Nat}{A1:Option Addr}{a b:r7.Loc}(y9:y 9=.pointer (some ⟨a.S,0,none⟩))(y11:y 11=.pointer (some ⟨b.S,0,none⟩))(hT:Tw W GB A1 k1 a b DF KV w):
  Hs dS (fun x w'=>x.tmps.size=341/\x.tmps[2]?=some (y 2)/\x.tmps[9]?=some (y 9)/\x.tmps[11]?=some (y 11)/\∃b1 b2 b3:Nat,x.tmps[17]?=some (.pointer (some ⟨b1,0,none⟩))/\x.tmps[18]?=some (.pointer (some ⟨b2,0,none⟩))/\x.tmps[19]?=some (.pointer (some ⟨b3,0,none⟩))/\Tw W GB A1 k1 a b Iq WI w'/\C3 b1 b2 b3 w') (fun _ _=>False) (eK 4 XO).1 ⟨fy y,[]⟩ w:=by
 have hcm:=mH w a DF 1 2 hT.sA Sv.1 (by omega) (by omega);rw[YO.1,YO.2.1,YO.2.2,show nB c1=.agg #[.int .i64 1,.int .u64 4,.int .u64 16]from rfl]at hcm;have HCM:=ay hcm;have HT:=ay hT;clear hcm hT;simp only[XO,fV,eK,Try.f33,aJ,fy,y9,y11];refine gA ?_;go_wp2_with fail
 refine HCM.out.mono ?_;rintro e w1 ⟨rfl,hs1,ho1⟩;have hT1:=HT.out.IP ho1 hs1;have Mr:=eB w1 (.cells #[.int .i64 1,.int .u64 4,.int .u64 16] 52);have HT1:=ay (hT1.later Mr);have HB1:=ay (ft.new w1 52 #[.int .i64 1,.int .u64 4,.int .u64 16]);clear hs1 ho1 hT1 Mr HCM HT;go_wp2_with fail
 generalize w1.alloc (.cells #[.int .i64 1,.int .u64 4,.int .u64 16] 52)=w2 at*;generalize w1.heap.size=b1 at*;have hcm:=mH w2 b KV 3 4 HT1.out.sB Sv.2 (by omega) (by omega);rw[YN.1,YN.2.1,YN.2.2,show nB c2=.agg #[.int .i64 3,.int .u64 64,.int .u64 256]from rfl]at hcm;have HCM:=ay hcm;clear hcm;refine gA ?_;go_wp2_with fail
 refine HCM.out.mono ?_;rintro e w3 ⟨rfl,hs3,V8⟩;have hT3:=HT1.out.S8 V8 hs3;have Wf:=V8.blk HB1.out (kR HT1.out.sB HB1.out);have ax9:=eB w3 (.cells #[.int .i64 3,.int .u64 64,.int .u64 256] 52);have HT3:=ay (hT3.later ax9);have Y9:=ay (Wf.below ax9 Wf.lt);have HC3:=ay (ft.new w3 52 #[.int .i64 3,.int .u64 64,.int .u64 256]);clear hs3 V8 hT3 Wf ax9 HCM HT1 HB1;go_wp2_with fail
 generalize w3.alloc (.cells #[.int .i64 3,.int .u64 64,.int .u64 256] 52)=w4 at*;generalize w3.heap.size=b2 at*;refine gA ?_;have e1:=Y9.out.cell 0;have e2:=Y9.out.cell 1;have e3:=Y9.out.cell 2;have d1:=HC3.out.cell 0;have d2:=HC3.out.cell 1;have d3:=HC3.out.cell 2;simp only[List.getElem?_toArray,List.getElem?_cons_zero,List.getElem?_cons_succ]at e1 e2 e3 d1 d2 d3;go_wp2_with fail
 refine gA ?_;go_wp2_with fail
 have Hv:=eB w4 (.cells #[.int .i64 2,.int .u64 4,.int .u64 4] 52);exact⟨rfl,rfl,rfl,rfl,b1,rfl,b2,rfl,w4.heap.size,rfl,HT3.out.later Hv,Y9.out.below Hv Y9.out.lt,HC3.out.below Hv HC3.out.lt,ft.new _ _ _⟩
end
def F6:List (List Cm×Int):=[([],7),([c1],7),([c1,c3,c2,c2],7),([⟨0,4,4⟩,c2],5),([c1,⟨4,4,4⟩],5),([c2,c1],6),([c1,c1],6),([c2,⟨1,1,4⟩],6),([⟨1,1,4⟩,⟨4,4,4⟩],5),([c1,⟨3,1,4⟩],3),([c1,⟨3,4,2⟩],3),([c3,c2],10),([⟨1,16,4⟩,c2],10)]
def BQ(n:Nat):Array af:=#[.slice none 0 0,.int .i64 7,.slice (some ⟨n,0,none⟩) 1 1,.int .i64 7,.slice (some ⟨n+1,0,none⟩) 4 4,.int .i64 7,.slice (some ⟨n+2,0,none⟩) 2 2,.int .i64 5,.slice (some ⟨n+3,0,none⟩) 2 2,.int .i64 5,.slice (some ⟨n+4,0,none⟩) 2 2,.int .i64 6,.slice (some ⟨n+5,0,none⟩) 2 2,.int .i64 6,.slice (some ⟨n+6,0,none⟩) 2 2,.int .i64 6,.slice (some ⟨n+7,0,none⟩) 2 2,.int .i64 5,.slice (some ⟨n+8,0,none⟩) 2 2,.int .i64 3,.slice (some ⟨n+9,0,none⟩) 2 2,.int .i64 3,.slice (some ⟨n+10,0,none⟩) 2 2,.int .i64 10,.slice (some ⟨n+11,0,none⟩) 2 2,.int .i64 10]
def xf(w:ae):List Obj->ae
 |[]=>w
 |o::os=>xf (w.alloc o) os
theorem KB:∀(os:List Obj) (w:ae),(xf w os).heap.size=w.heap.size+os.length
 |[],_=>rfl
 |o::os,w=>by
  show(xf (w.alloc o) os).heap.size=_;rw[KB os];simp<;>omega
theorem rY:∀(os:List Obj) (w:ae),Below w.heap.size w (xf w os)
 |[],w=>Below.refl _ _
 |o::os,w=>(eB w o).trans ((rY os (w.alloc o)).mono (eB w o).size)
theorem FE:∀(os:List Obj) (w:ae) (k:Nat) (o:Obj),os[k]?=some o->(xf w os).heap[w.heap.size+k]?=some o
 |[],_,_,_,h=>by cases h
 |o::os,w,0,o',h=>by
  cases h;have hb:=rY os (w.alloc o);have hl:w.heap.size<(w.alloc o).heap.size:=by simp
  exact(hb.block w.heap.size hl).trans (heap_alloc_new w _)
 |o::os,w,k+1,o',h=>by
  have e:w.heap.size+(k+1)=(w.alloc o).heap.size+k:=by simp<;>omega
  rw[e];exact FE os (w.alloc o) k o' h
def Nw:List Obj:=[.cells #[.int .i64 1,.int .u64 4,.int .u64 16] 52,.cells #[.int .i64 1,.int .u64 4,.int .u64 16,.int .i64 2,.int .u64 4,.int .u64 4,.int .i64 3,.int .u64 64,.int .u64 256,.int .i64 3,.int .u64 64,.int .u64 256] 52,.cells #[.int .i64 0,.int .u64 4,.int .u64 4,.int .i64 3,.int .u64 64,.int .u64 256] 52,.cells #[.int .i64 1,.int .u64 4,.int .u64 16,.int .i64 4,.int .u64 4,.int .u64 4] 52,.cells #[.int .i64 3,.int .u64 64,.int .u64 256,.int .i64 1,.int .u64 4,.int .u64 16] 52,.cells #[.int .i64 1,.int .u64 4,.int .u64 16,.int .i64 1,.int .u64 4,.int .u64 16] 52,.cells #[.int .i64 3,.int .u64 64,.int .u64 256,.int .i64 1,.int .u64 1,.int .u64 4] 52,.cells #[.int .i64 1,.int .u64 1,.int .u64 4,.int .i64 4,.int .u64 4,.int .u64 4] 52,.cells #[.int .i64 1,.int .u64 4,.int .u64 16,.int .i64 3,.int .u64 1,.int .u64 4] 52,.cells #[.int .i64 1,.int .u64 4,.int .u64 16,.int .i64 3,.int .u64 4,.int .u64 2] 52,.cells #[.int .i64 2,.int .u64 4,.int .u64 4,.int .i64 3,.int .u64 64,.int .u64 256] 52,.cells #[.int .i64 1,.int .u64 16,.int .u64 4,.int .i64 3,.int .u64 64,.int .u64 256] 52]
def pE(w:ae)(lv:af)(l:List Cm):Prop:=(l=[]/\lv=.slice none 0 0)\/∃g:Nat,lv=.slice (some ⟨g,0,none⟩) l.length l.length/\ft w g 52 (eX l).toArray
theorem pE.below{w w':ae}{lv:af}{l:List Cm}(h:pE w lv l)(hb:Below w.heap.size w w'):pE w' lv l:=by
 rcases h with h|⟨g,h1,h2⟩
 ·exact .inl h
 ·exact .inr ⟨g,h1,h2.below hb h2.lt⟩
theorem pE.only{w w':ae}{lv:af}{l:List Cm}{a:r7.Loc}{s:St}(h:pE w lv l)(hs:iH w a s)(ho:Only a.foot w w'):pE w' lv l:=by
 rcases h with h|⟨g,h1,h2⟩
 ·exact .inl h
 ·exact .inr ⟨g,h1,ho.blk h2 (kR hs h2)⟩
theorem pE.but{w:ae}{lv:af}{l:List Cm}{a:r7.Loc}{s:St}(h:pE w lv l)(hs:iH w a s):lZ a.foot w lv l:=by
 rcases h with⟨rfl,rfl⟩|⟨g,rfl,h2⟩
 ·exact fun w' _=>⟨rfl,none,0,rfl,aH _,fun h=>absurd h (by simp)⟩
 ·exact pA h2 (by simp) (kR hs h2)
theorem pE.iJ{w:ae}{lv:af}{l:List Cm}{a:r7.Loc}{s:St}(h:pE w lv l)(hs:iH w a s):lI w w.heap.size lv l:=h.but hs w (Only.refl _ _)
structure xj(tb:Nat)(w:ae):Prop where
 cell:∀(j:Nat) (r:List Cm×Int),F6[j]?=some r->∃lv,w.cell? ⟨tb,j*2,none⟩=some lv/\w.cell? ⟨tb,j*2+1,none⟩=some (.int .i64 r.2)/\pE w lv r.1
 blk:∃cs,ft w tb 144 cs
theorem xj.keep{tb:Nat}{w w':ae}(h:xj tb w)(hk:∀g t cs,ft w g t cs->t=144\/t=52->ft w' g t cs):xj tb w':=by
 obtain⟨cs,hb⟩:=h.blk;have hb':=hk _ _ _ hb (.inl rfl);refine⟨fun j r hr=>?_,cs,hb'⟩;obtain⟨lv,h1,h2,h3⟩:=h.cell j r hr;refine⟨lv,?_,?_,?_⟩
 ·rw[hb'.cell,<-hb.cell];exact h1
 ·rw[hb'.cell,<-hb.cell];exact h2
 ·rcases h3 with h3|⟨g,e1,e2⟩
  ·exact .inl h3
  ·exact .inr ⟨g,e1,hk _ _ _ e2 (.inr rfl)⟩
theorem xj.later{tb:Nat}{w w':ae}(h:xj tb w)(hb:Below w.heap.size w w'):xj tb w':=h.keep fun _ _ _ x _=>x.below hb x.lt
theorem xj.only{tb:Nat}{w w':ae}{a:r7.Loc}{s:St}(h:xj tb w)(hs:iH w a s)(ho:Only a.foot w w'):xj tb w':=h.keep fun g t cs x ht=>ho.blk x (by rcases ht with rfl|rfl<;>exact vD hs x (by decide) (by decide) (by decide))
theorem bn4(w:ae):xj (w.heap.size+12) (xf w (Nw++[.cells (BQ w.heap.size) 144])):=by
 have hA:=FE (Nw++[.cells (BQ w.heap.size) 144]) w;have hT:ft (xf w (Nw++[.cells (BQ w.heap.size) 144])) (w.heap.size+12) 144 (BQ w.heap.size):=hA 12 _ rfl;refine⟨fun j r hr=>?_,_,hT⟩;have hlt:=(List.getElem?_eq_some_iff.1 hr).1;rw[hT.cell,hT.cell];have:j=0\/j=1\/j=2\/j=3\/j=4\/j=5\/j=6\/j=7\/j=8\/j=9\/j=10\/j=11\/j=12:=by
  have:F6.length=13:=rfl
  omega
 rcases this with rfl|rfl|rfl|rfl|rfl|rfl|rfl|rfl|rfl|rfl|rfl|rfl|rfl
 ·cases hr;exact⟨_,rfl,rfl,.inl ⟨rfl,rfl⟩⟩
 ·cases hr;exact⟨_,rfl,rfl,.inr ⟨_,rfl,hA 0 _ rfl⟩⟩
 ·cases hr;exact⟨_,rfl,rfl,.inr ⟨_,rfl,hA 1 _ rfl⟩⟩
 ·cases hr;exact⟨_,rfl,rfl,.inr ⟨_,rfl,hA 2 _ rfl⟩⟩
 ·cases hr;exact⟨_,rfl,rfl,.inr ⟨_,rfl,hA 3 _ rfl⟩⟩
 ·cases hr;exact⟨_,rfl,rfl,.inr ⟨_,rfl,hA 4 _ rfl⟩⟩
 ·cases hr;exact⟨_,rfl,rfl,.inr ⟨_,rfl,hA 5 _ rfl⟩⟩
 ·cases hr;exact⟨_,rfl,rfl,.inr ⟨_,rfl,hA 6 _ rfl⟩⟩
 ·cases hr;exact⟨_,rfl,rfl,.inr ⟨_,rfl,hA 7 _ rfl⟩⟩
 ·cases hr;exact⟨_,rfl,rfl,.inr ⟨_,rfl,hA 8 _ rfl⟩⟩
 ·cases hr;exact⟨_,rfl,rfl,.inr ⟨_,rfl,hA 9 _ rfl⟩⟩
 ·cases hr;exact⟨_,rfl,rfl,.inr ⟨_,rfl,hA 10 _ rfl⟩⟩
 ·cases hr;exact⟨_,rfl,rfl,.inr ⟨_,rfl,hA 11 _ rfl⟩⟩
noncomputable def Gx:Code:=match(eK 10 fV).2 with|.seq a _=>a|_=>.skip
noncomputable def XP:Code:=match Gx with|.seq a _=>a|_=>.skip
noncomputable def JB:Code:=match Gx with|.seq _ a=>a|_=>.skip
theorem as8{w:ae}{y:Nat->af}{b1 b2 b3:Nat}(Zi:y 17=.pointer (some ⟨b1,0,none⟩))(Zh:y 18=.pointer (some ⟨b2,0,none⟩))(y19:y 19=.pointer (some ⟨b3,0,none⟩))(h:C3 b1 b2 b3 w):XP.wp dS (fun e a w'=>e=.normal/\a.defers=[]/\a.tmps.size=341/\a.tmps[2]?=some (y 2)/\a.tmps[9]?=some (y 9)/\a.tmps[11]?=some (y 11)/\a.tmps[17]?=some (y 17)/\a.tmps[18]?=some (y 18)/\a.tmps[199]?=some (.slice (some ⟨w.heap.size+12,0,none⟩) 13 13)/\a.tmps[200]?=some (.int .i64 13)/\a.tmps[201]?=some (.int .i64 0)/\Below w.heap.size w w'/\xj (w.heap.size+12) w') ⟨fy y,[]⟩ w:=by
 have HD:=ay (bn4 w);have HB:=ay (rY (Nw++[.cells (BQ w.heap.size) 144]) w);have e0:w.cell? ⟨b1,0,none⟩=some (.int .i64 1):=h.c1.cell 0;have e1:w.cell? ⟨b1,1,none⟩=some (.int .u64 4):=h.c1.cell 1;have e2:w.cell? ⟨b1,2,none⟩=some (.int .u64 16):=h.c1.cell 2;have f0:w.cell? ⟨b2,0,none⟩=some (.int .i64 3):=h.c2.cell 0;have f1:w.cell? ⟨b2,1,none⟩=some (.int .u64 64):=h.c2.cell 1;have f2:w.cell? ⟨b2,2,none⟩=some (.int .u64 256):=h.c2.cell 2;have g0:w.cell? ⟨b3,0,none⟩=some (.int .i64 2):=h.c3.cell 0;have g1:w.cell? ⟨b3,1,none⟩=some (.int .u64 4):=h.c3.cell 1;have g2:w.cell? ⟨b3,2,none⟩=some (.int .u64 4):=h.c3.cell 2;have l1:=h.c1.lt;have l2:=h.c2.lt;have l3:=h.c3.lt;clear h;have ca0:b1<w.heap.size+1:=by omega
 have b99:b1<w.heap.size+1+1:=by omega
 have b98:b1<w.heap.size+1+1+1:=by omega
 have b97:b1<w.heap.size+1+1+1+1:=by omega
 have b96:b1<w.heap.size+1+1+1+1+1:=by omega
 have b95:b1<w.heap.size+1+1+1+1+1+1:=by omega
 have b94:b1<w.heap.size+1+1+1+1+1+1+1:=by omega
 have b93:b1<w.heap.size+1+1+1+1+1+1+1+1:=by omega
 have b92:b1<w.heap.size+1+1+1+1+1+1+1+1+1:=by omega
 have bK9:b1<w.heap.size+1+1+1+1+1+1+1+1+1+1:=by omega
 have bK8:b1<w.heap.size+1+1+1+1+1+1+1+1+1+1+1:=by omega
 have bK7:b1<w.heap.size+1+1+1+1+1+1+1+1+1+1+1+1:=by omega
 have b91:b2<w.heap.size+1:=by omega
 have b90:b2<w.heap.size+1+1:=by omega
 have b89:b2<w.heap.size+1+1+1:=by omega
 have b88:b2<w.heap.size+1+1+1+1:=by omega
 have b87:b2<w.heap.size+1+1+1+1+1:=by omega
 have b86:b2<w.heap.size+1+1+1+1+1+1:=by omega
 have b85:b2<w.heap.size+1+1+1+1+1+1+1:=by omega
 have b84:b2<w.heap.size+1+1+1+1+1+1+1+1:=by omega
 have b83:b2<w.heap.size+1+1+1+1+1+1+1+1+1:=by omega
 have bK6:b2<w.heap.size+1+1+1+1+1+1+1+1+1+1:=by omega
 have bK5:b2<w.heap.size+1+1+1+1+1+1+1+1+1+1+1:=by omega
 have bK4:b2<w.heap.size+1+1+1+1+1+1+1+1+1+1+1+1:=by omega
 have b82:b3<w.heap.size+1:=by omega
 have b81:b3<w.heap.size+1+1:=by omega
 have b80:b3<w.heap.size+1+1+1:=by omega
 have b79:b3<w.heap.size+1+1+1+1:=by omega
 have b78:b3<w.heap.size+1+1+1+1+1:=by omega
 have b77:b3<w.heap.size+1+1+1+1+1+1:=by omega
 have b76:b3<w.heap.size+1+1+1+1+1+1+1:=by omega
 have b75:b3<w.heap.size+1+1+1+1+1+1+1+1:=by omega
 have b74:b3<w.heap.size+1+1+1+1+1+1+1+1+1:=by omega
 have bK3:b3<w.heap.size+1+1+1+1+1+1+1+1+1+1:=by omega
 have bK2:b3<w.heap.size+1+1+1+1+1+1+1+1+1+1+1:=by omega
 have bK1:b3<w.heap.size+1+1+1+1+1+1+1+1+1+1+1+1:=by omega
 simp only[XP,Gx,fV,eK,Try.f33,aJ,fy,Zi,Zh,y19];go_wp2_with fail
 repeat' (first|exact HD.out|exact HB.out|exact rfl|refine And.intro ?_ ?_)
section
open Hr (gH ja ru Qb M9 Rt)
def mK:ByteArray:={data:=#[109]}
theorem Am:∀r∈F6,(r.2≠10->rD 2 3 r.1=r.2/\r.2≠0)/\(r.2=10->rD 2 3 r.1=0/\∀c∈r.1,(c.id,c.d,c.e)≠(1,4,16))/\r.1.length<=4/\∀c∈r.1,0<=c.d/\0<=c.e:=by
 have h:∀r∈F6,(r.2≠10->pkF 2 3 r.1=r.2/\r.2≠0)/\(r.2=10->pkF 2 3 r.1=0/\∀c∈r.1,(c.id,c.d,c.e)≠(1,4,16))/\r.1.length<=4/\∀c∈r.1,0<=c.d/\0<=c.e:=by decide+kernel
 intro r hr;rw[NH];exact h r hr
theorem T4:gD 2 3 kG=true:=by
 have h:GK 2 3 kG=true:=by decide+kernel
 rw[C7];exact h
theorem af0:Ok Iq/\Ok WI:=by
 have h1:=Va (d:=1) (e:=2) Sv.1 (by decide) (by decide);have h2:=Va (d:=3) (e:=4) Sv.2 (by decide) (by decide);rw[YO.2.2]at h1;rw[YN.2.2]at h2;exact⟨h1,h2⟩
theorem Fj{l:List Cm}{k:Nat}(hk:k<l.length):l.getD k .zero∈l:=by
 rw[List.getD_eq_getElem?_getD,aN hk];exact List.getElem_mem hk
theorem vC{l:List Cm}(h:∀c∈l,0<=c.d/\0<=c.e):∀i,i<l.length->0<=(l.getD i .zero).d/\0<=(l.getD i .zero).e:=fun i hi=>h _ (Fj hi)
theorem Sw{r:List Cm×Int}(hr:r∈F6):kV Iq mK r.1 0 r.2 Iq:=by
 obtain⟨h1,h2,-⟩:=Am r hr;by_cases h:r.2=10
 ·rw[h];refine .mine (h2 h).1 fun k q hk hq=>?_;obtain rfl:q=(1,2):=by simpa [Iq]using hq
  intro he;refine(h2 h).2 _ (Fj hk) ?_;rw[<-he];rfl
 ·rw[<-(h1 h).1];exact .pk (by rw[show Iq.t=2 from rfl,show Iq.n=3 from rfl,(h1 h).1];exact(h1 h).2)
theorem Sy{r:List Cm×Int}(hr:r∈F6)(h:r.2≠10):ja 2 3 kG r.1 mK 0=r.2:=by
 obtain⟨h1,h2⟩:=(Am r hr).1 h;unfold ja;rw[if_neg (by rw[T4];simp),if_pos (by rw[h1];exact h2),h1]
section
variable{W w w':ae}{GB k1:Nat}{A1:Option Addr}{a b:r7.Loc}{sa sb:St}
theorem nV(hs:gH w.heap.size w w'){g:Nat}{t:aj}{cs:Array af}(h:ft w g t cs):ft w' g t cs:=(hs.2.1 g h.lt).trans h
theorem Ik{s:St}(hs:gH w.heap.size w w')(h:iH w a s):iH w' a s:=h.keep fun k hk=>hs.2.1 k (h.lt k hk)
theorem KG.stand(h:KG W GB A1 k1 w)(hs:gH w.heap.size w w'):KG W GB A1 k1 w':=by
 refine⟨⟨aY h.bel.1 hs.1,fun b hb=>(hs.2.1 b (bT hb h.bel.1)).trans (h.bel.2.1 b hb),hs.2.2.1.trans h.bel.2.2.1,hs.2.2.2.trans h.bel.2.2.2⟩,h.gb1,nV hs h.kP,?_⟩;obtain⟨A,c,e,hc,hx⟩:=h.cs;refine⟨A,c,e,hc,fun hl=>?_⟩;obtain⟨b,off,e,hB,h4⟩:=hx hl;exact⟨b,off,e,hB,fun i hi=>(World.cell?_of_block (a:=⟨b,off+i,none⟩) (hs.2.1 b (bT hB h.bel.1))).trans (h4 i hi)⟩
theorem Tw.stand(h:Tw W GB A1 k1 a b sa sb w)(hs:gH w.heap.size w w'):Tw W GB A1 k1 a b sa sb w':=⟨h.g.stand hs,Ik hs h.sA,Ik hs h.sB,h.fA,h.fB,h.ap⟩
theorem xj.stand{tb:Nat}(h:xj tb w)(hs:gH w.heap.size w w'):xj tb w':=h.keep fun _ _ _ x _=>nV hs x
theorem C3.keep{b1 b2 b3:Nat}(h:C3 b1 b2 b3 w)(hk:∀g t cs,ft w g t cs->t=52->ft w' g t cs):C3 b1 b2 b3 w':=⟨hk _ _ _ h.c1 rfl,hk _ _ _ h.c2 rfl,hk _ _ _ h.c3 rfl⟩
theorem C3.stand{b1 b2 b3:Nat}(h:C3 b1 b2 b3 w)(hs:gH w.heap.size w w'):C3 b1 b2 b3 w':=h.keep fun _ _ _ x _=>nV hs x
theorem C3.only{b1 b2 b3:Nat}(h:C3 b1 b2 b3 w)(hs:iH w a sa)(ho:Only a.foot w w'):C3 b1 b2 b3 w':=h.keep fun g t cs x e=>by subst e;exact ho.blk x (kR hs x)
theorem C3.later{b1 b2 b3:Nat}(h:C3 b1 b2 b3 w)(hb:Below w.heap.size w w'):C3 b1 b2 b3 w':=h.keep fun _ _ _ x _=>x.below hb x.lt
theorem pE.shape{lv:af}{l:List Cm}(h:pE w lv l):∃A,lv=.slice A l.length l.length:=by
 rcases h with⟨rfl,rfl⟩|⟨g,rfl,-⟩
 ·exact⟨none,rfl⟩
 ·exact⟨_,rfl⟩
structure L4(W:ae)(GB:Nat)(A1:Option Addr)(k1:Nat)(a b:r7.Loc)(b1 b2 b3 tb:Nat)(w:ae):Prop where
 tw:Tw W GB A1 k1 a b Iq WI w
 st:xj tb w
 c3:C3 b1 b2 b3 w
theorem L4.later{b1 b2 b3 tb:Nat}(h:L4 W GB A1 k1 a b b1 b2 b3 tb w)(hb:Below w.heap.size w w'):L4 W GB A1 k1 a b b1 b2 b3 tb w':=⟨h.tw.later hb,h.st.later hb,h.c3.later hb⟩
theorem L4.stand{b1 b2 b3 tb:Nat}(h:L4 W GB A1 k1 a b b1 b2 b3 tb w)(hs:gH w.heap.size w w'):L4 W GB A1 k1 a b b1 b2 b3 tb w':=⟨h.tw.stand hs,h.st.stand hs,h.c3.stand hs⟩
theorem L4.only{b1 b2 b3 tb:Nat}(h:L4 W GB A1 k1 a b b1 b2 b3 tb w)(ho:Only a.foot w w')(hs:iH w' a Iq):L4 W GB A1 k1 a b b1 b2 b3 tb w':=⟨h.tw.IP ho hs,h.st.only h.tw.sA ho,h.c3.only h.tw.sA ho⟩
end
end
section
open Hr (gH ja ru Qb M9 Rt)
def lK:List Cm:=[c1,c2]
def yX:Array af:=#[.int .i64 1,.int .u64 4,.int .u64 16,.int .i64 3,.int .u64 64,.int .u64 256]
def xK:Int:=tM Iq mK lK 0 (1,2)
def yK:Int:=tM WI mK lK 1 (3,4)
theorem Ct:rD 2 3 lK=0/\iT lK 1024 mK≠1:=by
 have h:pkF 2 3 lK=0/\KC lK 1024 mK lK.length≠1:=by decide+kernel
 rw[NH,yx];exact h
theorem bo1:kV Iq mK lK xK 0 DF:=.good 0 0 (1,2) Ct.1 (by decide) rfl rfl Ct.2
theorem bo0:kV WI mK lK yK 0 KV:=.good 1 0 (3,4) Ct.1 (by decide) rfl rfl Ct.2
theorem OG:∀c∈lK,0<=c.d/\0<=c.e:=by
 intro c hc;simp only[lK,List.mem_cons,List.not_mem_nil,or_false]at hc;rcases hc with rfl|rfl<;>decide
theorem ba0:ja 2 3 kG lK mK 1=12:=by
 unfold ja;rw[if_neg (by rw[T4];simp),if_neg (by rw[Ct.1];simp),if_pos (by decide)]
theorem bC1:ja 2 3 [1,4] [] mK 0=4:=by
 unfold ja;rw[if_pos (zR (by decide))]
theorem Tb{k:IntKind}{w:ae}{g:Nat}{t:aj}{cs:Array af}{l:List Int}{n:Nat}(h:ft w g t cs)(hn:l.length=n)(hc:∀i,i<l.length->cs[i]?=some (.int k (l.getD i 0))):fW k w w.heap.size (.slice (some ⟨g,0,none⟩) n n) l:=by
 subst hn;exact⟨_,_,rfl,aH _,fun _=>⟨g,0,rfl,h.lt,fun i hi=>by rw[cZ,h.cell];exact hc i hi⟩⟩
structure P5(W:ae)(GB:Nat)(A1:Option Addr)(k1 lb:Nat)(w:ae):Prop where
 g:KG W GB A1 k1 w
 l:ft w lb 52 yX
section
variable{W w w':ae}{GB k1 lb:Nat}{A1:Option Addr}
theorem P5.later(h:P5 W GB A1 k1 lb w)(hb:Below w.heap.size w w'):P5 W GB A1 k1 lb w':=⟨h.g.later hb,h.l.below hb h.l.lt⟩
theorem P5.stand(h:P5 W GB A1 k1 lb w)(hs:gH w.heap.size w w'):P5 W GB A1 k1 lb w':=⟨h.g.stand hs,nV hs h.l⟩
theorem P5.iJ(h:P5 W GB A1 k1 lb w):lI w w.heap.size (.slice (some ⟨lb,0,none⟩) 2 2) lK:=by
 have hx:=pA (X:=[]) (l:=lK) h.l rfl (by simp);exact hx w (Only.refl _ _)
end
noncomputable def Cx:Code:=(eK 11 fV).2
theorem as4{W w:ae}{y:Nat->af}{tb GB k1 b1 b2 b3:Nat}{A1:Option Addr}{a b:r7.Loc}(y2:y 2=.pointer (some ⟨GB,0,none⟩))(y9:y 9=.pointer (some ⟨a.S,0,none⟩))(y11:y 11=.pointer (some ⟨b.S,0,none⟩))(Zi:y 17=.pointer (some ⟨b1,0,none⟩))(Zh:y 18=.pointer (some ⟨b2,0,none⟩))(hL:L4 W GB A1 k1 a b b1 b2 b3 tb w):
  Hs dS (fun x w'=>x.tmps.size=341/\x.tmps[2]?=some (y 2)/\x.tmps[28]?=some (.int .u64 xK)/\x.tmps[29]?=some (.int .u64 yK)/\∃lb:Nat,x.tmps[27]?=some (.slice (some ⟨lb,0,none⟩) 2 2)/\P5 W GB A1 k1 lb w') (fun _ _=>False) (eK 4 Cx).1 ⟨fy y,[]⟩ w:=by
 have e0:w.cell? ⟨b1,0,none⟩=some (.int .i64 1):=hL.c3.c1.cell 0;have e1:w.cell? ⟨b1,1,none⟩=some (.int .u64 4):=hL.c3.c1.cell 1;have e2:w.cell? ⟨b1,2,none⟩=some (.int .u64 16):=hL.c3.c1.cell 2;have f0:w.cell? ⟨b2,0,none⟩=some (.int .i64 3):=hL.c3.c2.cell 0;have f1:w.cell? ⟨b2,1,none⟩=some (.int .u64 64):=hL.c3.c2.cell 1;have f2:w.cell? ⟨b2,2,none⟩=some (.int .u64 256):=hL.c3.c2.cell 2;have HT:=ay (hL.tw.later (eB w (.cells yX 52)));have HB:=ay (ft.new w 52 yX);have HW:Hid (w.alloc (.cells yX 52)=w.alloc (.cells #[.int .i64 1,.int .u64 4,.int .u64 16,.int .i64 3,.int .u64 64,.int .u64 256] 52)):=ay rfl;have HL:=ay af0;have HRX:=ay bo1;have HRY:=ay bo0;clear hL;generalize xK=x at*;generalize yK=z at*;simp only[Cx,fV,eK,Try.f33,aJ,fy,y2,y9,y11,Zi,Zh];refine gA ?_;go_wp2_with fail
 rw[<-HW.out];generalize w.alloc (.cells yX 52)=w1 at*;generalize w.heap.size=lb at*;clear e0 e1 e2 f0 f1 f2 HW;refine gA ?_;go_wp2_with fail
 refine(vU w1 a Iq mK lK _ HT.out.sA HL.out.1 (pA (l:=lK) HB.out rfl (kR HT.out.sA HB.out)) (by decide) (vC OG) (by decide) x 0 DF HRX.out).mono ?_;rintro e w2 ⟨rfl,hs2,QJ⟩;have HT2:=ay (HT.out.IP QJ hs2);have vJ:=ay (QJ.blk HB.out (kR HT.out.sA HB.out));clear hs2 QJ HT HB;go_wp2_with fail
 refine gA ?_;go_wp2_with fail
 refine(vU w2 b WI mK lK _ HT2.out.sB HL.out.2 (pA (l:=lK) vJ.out rfl (kR HT2.out.sB vJ.out)) (by decide) (vC OG) (by decide) z 0 KV HRY.out).mono ?_;rintro e w3 ⟨rfl,hs3,V8⟩;have HT3:=ay (HT2.out.S8 V8 hs3);have Y9:=ay (V8.blk vJ.out (kR HT2.out.sB vJ.out));clear hs3 V8 HT2 vJ;go_wp2_with fail
 refine gA ?_;go_wp2_with fail
 refine(yc w3 a DF HT3.out.sA).mono ?_;rintro e w4 ⟨rfl,hs4,ho4⟩;have HT4:=ay (HT3.out.IP ho4 hs4);have HB4:=ay (ho4.blk Y9.out (kR HT3.out.sA Y9.out));clear hs4 ho4 HT3 Y9;rw[show((DF.pl.length:Nat):Int)=0 from rfl];go_wp2_with fail
 refine(yc w4 b KV HT4.out.sB).mono ?_;rintro e w5 ⟨rfl,hs5,ho5⟩;have HT5:=ay (HT4.out.S8 ho5 hs5);have HB5:=ay (ho5.blk HB4.out (kR HT4.out.sB HB4.out));clear hs5 ho5 HT4 HB4;rw[show((KV.pl.length:Nat):Int)=0 from rfl];go_wp2_with fail
 exact⟨rfl,rfl,rfl,rfl,lb,rfl,HT5.out.g,HB5.out⟩
end
section
open Hr (gH ja ru Qb M9 Rt)
theorem xx{P:au}{N N1 R:Act->ae->Prop}{RR:List Code}(k:∀a w,a.defers=[]->N1 a w->Hs P N R RR a w):∀(cs:List Code) (a:Act) (w:ae),a.defers=[]->Hs P N1 (fun _ _=>False) cs a w->Hs P N R (cs++RR) a w
 |[],a,w,hd,h=>k a w hd h
 |c::cs,a,w,hd,h=>Code.wp_mono (fun e a w hq=>by
   cases e with
   |normal=>exact⟨hq.1,xx k cs a w hq.1 hq.2⟩
   |ret=>exact hq.2.elim
   |_=>exact hq.elim) h
theorem bq9{w:ae}{y:Nat->af}{k1:Nat}{A1:Option Addr}(y0:y 0=.agg #[.int .i64 2,.int .i64 3,.slice A1 2 k1])(hc:fW .u64 w w.heap.size (.slice A1 2 k1) kG):
  Hs dS (fun x w'=>x.tmps.size=341/\x.tmps[1]?=some (y 1)/\x.tmps[2]?=some (.pointer (some ⟨w.heap.size,0,none⟩))/\KG w w.heap.size A1 k1 w') (fun _ _=>False) (eK 1 fV).1 ⟨fy y,[]⟩ w:=by
 have hb:=eB w (.cells #[.int .i64 2,.int .i64 3,.slice A1 2 k1] 31);have HG:=ay (show KG w w.heap.size A1 k1 (w.alloc (.cells #[.int .i64 2,.int .i64 3,.slice A1 2 k1] 31))from⟨⟨hb.size,fun b h=>hb.block b h,hb.os,hb.output⟩,aH _,ft.new _ _ _,hc.below hb⟩);clear hc hb;simp only[fV,eK,Try.f33,aJ,fy,y0];refine gA ?_;go_wp2_with fail
 exact⟨rfl,rfl,rfl,HG.out⟩
theorem QD:(eK 10 fV).1=(eK 1 fV).1++(QG::((eK 3 as0).1++(QF::(eK 4 XO).1))):=rfl
theorem LU{k:IntKind}{w w':ae}{B:Nat}{v:af}{l:List Int}(h:fW k w B v l)(hs:gH B w w'):fW k w' B v l:=by
 obtain⟨A,c,e,hc,hx⟩:=h;refine⟨A,c,e,hc,fun hl=>?_⟩;obtain⟨b,off,e,hB,h4⟩:=hx hl;exact⟨b,off,e,hB,fun i hi=>(World.cell?_of_block (a:=⟨b,off+i,none⟩) (hs.2.1 b hB)).trans (h4 i hi)⟩
theorem as3{w:ae}{y:Nat->af}{k1 k2:Nat}{A1 A2:Option Addr}(y0:y 0=.agg #[.int .i64 2,.int .i64 3,.slice A1 2 k1])(y1:y 1=.slice A2 3 k2)(hc:fW .u64 w w.heap.size (.slice A1 2 k1) kG)(hsh:fW .u64 w w.heap.size (.slice A2 3 k2) [12,19,26]):
  Hs dS (fun x w'=>x.tmps.size=341/\∃(a b:r7.Loc) (b1 b2 b3:Nat),x.tmps[2]?=some (.pointer (some ⟨w.heap.size,0,none⟩))/\x.tmps[9]?=some (.pointer (some ⟨a.S,0,none⟩))/\x.tmps[11]?=some (.pointer (some ⟨b.S,0,none⟩))/\x.tmps[17]?=some (.pointer (some ⟨b1,0,none⟩))/\x.tmps[18]?=some (.pointer (some ⟨b2,0,none⟩))/\x.tmps[19]?=some (.pointer (some ⟨b3,0,none⟩))/\Tw w w.heap.size A1 k1 a b Iq WI w'/\C3 b1 b2 b3 w') (fun _ _=>False) (eK 10 fV).1 ⟨fy y,[]⟩ w:=by
 rw[QD];refine xx ?_ _ _ _ rfl (bq9 y0 hc);rintro ⟨T,df⟩ w1 hd ⟨hs,t1,t2,hG⟩;obtain rfl:df=[]:=hd;obtain⟨z1,rfl,hz⟩:=jP T hs;have a1:=(hz _ _ t1).trans y1;have a2:=hz _ _ t2;refine gA ?_;rw[show QG=.seq as2 at2 from rfl];refine wp_seq (Code.wp_mono ?_ (at0 (y:=z1)));rintro e ⟨T,df⟩ w2 ⟨rfl,hd,hs,t1,t2,t41,t42,t43,hD⟩;obtain rfl:df=[]:=hd;obtain⟨z2,rfl,hz⟩:=jP T hs;have b1:=(hz _ _ t1).trans a1;have b2:=(hz _ _ t2).trans a2;refine Code.wp_mono ?_ (XR (W:=w) b2 (hz _ _ t41) (hz _ _ t42) (hz _ _ t43) hD (hG.later hD.bel));rintro e ⟨T,df⟩ w3 ⟨rfl,hd,hs3,t1,t2,hb3⟩;refine⟨hd,?_⟩;obtain rfl:df=[]:=hd;have hG3:=(hG.later hD.bel).later hb3;obtain⟨z3,rfl,hz⟩:=jP T hs3;have c1':=(hz _ _ t1).trans b1;have c2':=(hz _ _ t2).trans b2;refine xx ?_ _ _ _ rfl (aT3 (W:=w) c1' c2' hG3 (LU hsh hG3.bel));rintro ⟨T,df⟩ w4 hd ⟨hs,t2,sa,sb,t9,t11,hT⟩;obtain rfl:df=[]:=hd;obtain⟨z4,rfl,hz⟩:=jP T hs;have d2:=(hz _ _ t2).trans c2';have d9:=hz _ _ t9;have d11:=hz _ _ t11;refine gA ?_;rw[show QF=.seq as1 at1 from rfl];refine wp_seq (Code.wp_mono ?_ (as9 (y:=z4)));rintro e ⟨T,df⟩ w5 ⟨rfl,hd,hs,t2,t9,t11,t99,t100,t101,hD⟩;obtain rfl:df=[]:=hd;obtain⟨z5,rfl,hz⟩:=jP T hs;have e2:=(hz _ _ t2).trans d2;have e9:=(hz _ _ t9).trans d9;have e11:=(hz _ _ t11).trans d11;refine Code.wp_mono ?_ (XQ (W:=w) e9 (hz _ _ t99) (hz _ _ t100) (hz _ _ t101) hD nle hT (hT.later hD.bel));rintro e ⟨T,df⟩ w6 ⟨rfl,hd,hs6,t2,t9,t11,hT6⟩;refine⟨hd,?_⟩;obtain rfl:df=[]:=hd;obtain⟨z6,rfl,hz⟩:=jP T hs6;have f2:=(hz _ _ t2).trans e2;have f9:=(hz _ _ t9).trans e9;have f11:=(hz _ _ t11).trans e11;rw[<-List.append_nil (eK 4 XO).1];refine xx ?_ _ _ _ rfl (at3 (W:=w) f9 f11 hT6);rintro x w7 hd ⟨hs,t2,t9,t11,b1,b2,b3,t17,t18,t19,hT7,hC7⟩;exact⟨hs,sa,sb,b1,b2,b3,t2.trans (by rw[f2]),t9.trans (by rw[f9]),t11.trans (by rw[f11]),t17,t18,t19,hT7,hC7⟩
noncomputable def uz:Code:=match JB with|.block _ (.loop c)=>c|_=>.skip
noncomputable def Aa:Code:=match uz with|.seq _ (.seq _ (.seq (.block _ c) _))=>c|_=>.skip
noncomputable def E7:Code:=(eK 2 Aa).2
noncomputable def Cv:Code:=match E7 with|.seq _ c=>c|_=>.skip
noncomputable def Jz:Code:=match Cv with|.seq _ c=>c|_=>.skip
theorem aT2{W w:ae}{y:Nat->af}{tb GB k1 b1 b2 b3 j:Nat}{A1:Option Addr}{a b:r7.Loc}{l:List Cm}{E:Int}(y9:y 9=.pointer (some ⟨a.S,0,none⟩))(bm1:y 199=.slice (some ⟨tb,0,none⟩) 13 13)(bm0:y 201=.int .i64 j)(hr:F6[j]?=some (l,E))(hL:L4 W GB A1 k1 a b b1 b2 b3 tb w):Hs dS (fun x w'=>x.tmps.size=341/\x.tmps[2]?=some (y 2)/\x.tmps[9]?=some (y 9)/\x.tmps[11]?=some (y 11)/\x.tmps[17]?=some (y 17)/\x.tmps[18]?=some (y 18)/\x.tmps[199]?=some (y 199)/\x.tmps[200]?=some (y 200)/\x.tmps[201]?=some (y 201)/\L4 W GB A1 k1 a b b1 b2 b3 tb w'/\∃(bx:Nat) (A:Option Addr),x.tmps[21]?=some (.pointer (some ⟨bx,0,none⟩))/\ft w' bx 144 #[.slice A l.length l.length,.int .i64 E]/\pE w' (.slice A l.length l.length) l) (fun _ _=>False) (eK 2 Aa).1 ⟨fy y,[]⟩ w:=by
 have hlt:j<13:=(List.getElem?_eq_some_iff.1 hr).1;have HL:=ay af0.1;have hmem:=b7 hr;obtain⟨lv,c0,c1,hrow⟩:=hL.st.cell j _ hr;obtain⟨A,rfl⟩:=hrow.shape;have hok:=Am _ hmem;have hrel:=Sw hmem;simp only at c0 c1 hrow hok hrel;have Rx:=ay hrow;have HLN:=ay hok.2.2;have bc4:=ay hrel;have Lb:=ay hL;have q1:(j:Int)<13:=by omega
 have q2:(0:Int)<=(j:Int)/\(j:Int)<13:=by omega
 have zL:Below w.heap.size w (w.alloc (.cells #[.slice A l.length l.length,.int .i64 E] 144)):=bre.alloc nle _;have rC:=ay zL;have tH:=ay (ft.new w 144 #[.slice A l.length l.length,.int .i64 E]);clear hmem hrow hok hrel hL hr zL;simp only[Aa,uz,JB,Gx,fV,eK,Try.f33,aJ,fy,y9,bm1,bm0];refine gA ?_;go_wp2_with fail
 refine gA ?_;go_wp2_with fail
 have hS:=vU _ a Iq mK l _ (Lb.out.later rC.out).tw.sA HL.out ((Rx.out.below rC.out).but (Lb.out.later rC.out).tw.sA) (by have:=HLN.out.1;omega) (vC HLN.out.2) (by decide) 0 E Iq bc4.out;refine hS.mono ?_;rintro e w2 ⟨rfl,hs2,QJ⟩;have HL2:=ay ((Lb.out.later rC.out).only QJ hs2);have vJ:=ay (QJ.blk tH.out (vD (Lb.out.later rC.out).tw.sA tH.out (by decide) (by decide) (by decide)));have HR2:=ay ((Rx.out.below rC.out).only (Lb.out.later rC.out).tw.sA QJ);generalize w.heap.size=bx at*;clear hS hs2 QJ rC tH Rx Lb bc4 c0 c1;have d0:=vJ.out.cell 0;have d1:=vJ.out.cell 1;have dl:=vJ.out.lt;have tEE:(E != E)=false:=by rw[bne_eq_false_iff_eq]
 simp only[List.getElem?_toArray,List.getElem?_cons_zero,List.getElem?_cons_succ]at d0 d1;go_wp2_with fail
 exact⟨rfl,rfl,rfl,rfl,rfl,rfl,rfl,rfl,rfl,HL2.out,bx,rfl,A,vJ.out,HR2.out⟩
theorem aT6{w:ae}{y:Nat->af}{bx b24:Nat}{V:af}{E:Int}(y21:y 21=.pointer (some ⟨bx,0,none⟩))(y24:y 24=.pointer (some ⟨b24,0,none⟩))(y25:y 25=.slice none 0 0)(y26:y 26=.int .i64 E)(h1:ft w bx 144 #[V,.int .i64 E])(h2:ft w b24 47 #[.int .u64 0,.int .u64 0]):
  Jz.wp dS (fun e x w'=>e=.normal/\x.defers=[]/\x.tmps.size=341/\x.tmps[2]?=some (y 2)/\x.tmps[9]?=some (y 9)/\x.tmps[11]?=some (y 11)/\x.tmps[17]?=some (y 17)/\x.tmps[18]?=some (y 18)/\x.tmps[199]?=some (y 199)/\x.tmps[200]?=some (y 200)/\x.tmps[201]?=some (y 201)/\w'=w) ⟨fy y,[]⟩ w:=by
 have d1:=h1.cell 1;have dl:=h1.lt;have e0:=h2.cell 0;have e1:=h2.cell 1;have el:=h2.lt;have tEE:(E != E)=false:=by rw[bne_eq_false_iff_eq]
 simp only[List.getElem?_toArray,List.getElem?_cons_zero,List.getElem?_cons_succ]at d1 e0 e1;clear h1 h2;simp only[Jz,Cv,E7,Aa,uz,JB,Gx,fV,eK,Try.f33,aJ,fy,y21,y24,y25,y26];go_wp2_with fail
end
end Kn
namespace Cc
open Go.Conc Go.ConcN
section
variable{P:au}{g₀:ah}{w₀:ae}
theorem LR.Sl{g g':ah}{w w':ae}{es:Array Event}(h:LR P g₀ w₀ g w)(hs:stepG P true g w=.go g' w' es)(hr:g'.status=.running)(hE:∀L,deafBehind L es=L):LR P g₀ w₀ g' w':=by
 obtain⟨n,t,h1,h2,h3,h4⟩:=h;have st:stepT P (solo g w)=(.next (solo g' w'),MemOp.ofEvents 0 g.frame.fn g.frame.place es):=by
  rw[stepT_solo h2];exact runT_solo_go hs
 refine⟨n+1,t++MemOp.ofEvents 0 g.frame.fn g.frame.place es,?_,hr,fun op hop=>?_,?_⟩
 ·rw[runNT_add,h1];simp only[runNT,st]
 ·rcases Array.mem_append.1 hop with hop|hop
  ·exact h3 op hop
  ·rw[ofEvents_eq]at hop;obtain⟨x,_,rfl⟩:=Array.mem_map.1 hop;rfl
 ·rw[Deaf_own,h4,hE]
section
variable{b:ai}{a:Act}{kk:List Item}{cs:List ai}{w w':ae}{ops:Array Oper}{i:Nat}{rest:List Nat}{o:Oper}{v:af}
theorem LR.val{wr:Bool}(h:LR P g₀ w₀ (G (b.at a (.inRegion ops (i::rest)::kk)) cs) w)(ho:ops[i]?=some o)(hw:bg o (yielded ops a.tmps)=true)(hk:b.kind≠ .early)(hn:NM wr (ax a.eval o))(hr:(ax a.eval o).run P w=.ok (.value v) w'):LR P g₀ w₀ (G (b.at (a.put o.dst v) (.inRegion ops rest::kk)) cs) w':=
 h.Sl (stepG_value ho hw hk hr) rfl fun L=>qV hn hr _ L
theorem LR.load{t:aj}{x:Operand}(h:LR P g₀ w₀ (G (b.at a (.inRegion ops (i::rest)::kk)) cs) w)(ho:ops[i]?=some o)(hw:bg o (yielded ops a.tmps)=true)(hk:b.kind≠ .early)(hop:o.op=.load t x)(hr:(Instr.loadAt t (a.eval x)).run P w=.ok v w):LR P g₀ w₀ (G (b.at (a.put o.dst v) (.inRegion ops rest::kk)) cs) w:=by
 have e:ax a.eval o=(do pure (.value (<-Instr.loadAt t (a.eval x)))):=by unfold ax;rw[hop]
 refine h.val (wr:=false) ho hw hk (by rw[e];exact NM.bind (Qo false t _).out fun _=>trivial) ?_;rw[e];simp[hr]
theorem LR.alloc{t:aj}{ad:af}(h:LR P g₀ w₀ (G (b.at a (.inRegion ops (i::rest)::kk)) cs) w)(ho:ops[i]?=some o)(hw:bg o (yielded ops a.tmps)=true)(hk:b.kind≠ .early)(hop:o.op=.alloc t)(hr:(Instr.alloc t true (.tuple #[])).run P w=.ok ad w'):LR P g₀ w₀ (G (b.at (a.put o.dst ad) (.inRegion ops rest::kk)) cs) w':=by
 have e:ax a.eval o=(do pure (.value (<-Instr.alloc t true (.tuple #[])))):=by unfold ax;rw[hop]
 refine h.val (wr:=false) ho hw hk (by rw[e];exact NM.bind (Tn false t _).out fun _=>trivial) ?_;rw[e];simp[hr]
theorem LR.store{t:aj}{x y:Operand}(h:LR P g₀ w₀ (G (b.at a (.inRegion ops (i::rest)::kk)) cs) w)(ho:ops[i]?=some o)(hw:bg o (yielded ops a.tmps)=true)(hk:b.kind≠ .early)(hop:o.op=.store t x y)(hr:(Instr.storeAt t (a.eval x) (a.eval y)).run P w=.ok () w'):LR P g₀ w₀ (G (b.at (a.put o.dst av) (.inRegion ops rest::kk)) cs) w':=by
 have e:ax a.eval o=(do Instr.storeAt t (a.eval x) (a.eval y);pure .skip):=by unfold ax;rw[hop]
 have hr2:(ax a.eval o).run P w=.ok .skip w':=by rw[e];simp[hr]
 exact h.Sl (stepG_none ho hw hk hr2) rfl fun L=>qV (wr:=true) (by rw[e];exact NM.bind (LX t _ _).out fun _=>trivial) hr2 _ L
theorem LR.Vj{t:aj}{n:Nat}{ps:Array (Nat×Operand)}(h:LR P g₀ w₀ (G (b.at a (.inRegion ops (i::rest)::kk)) cs) w)(ho:ops[i]?=some o)(hw:bg o (yielded ops a.tmps)=true)(hk:b.kind≠ .early)(hop:o.op=.buildSlice t n ps)(hr:(Instr.buildSlice t n (ps.map fun p=>(p.1,a.eval p.2))).run P w=.ok v w'):LR P g₀ w₀ (G (b.at (a.put o.dst v) (.inRegion ops rest::kk)) cs) w':=by
 have e:ax a.eval o=(do pure (.value (<-Instr.buildSlice t n (ps.map fun p=>(p.1,a.eval p.2))))):=by unfold ax;rw[hop]
 refine h.val (wr:=false) ho hw hk (by rw[e];exact NM.bind (DY false t n _).out fun _=>trivial) ?_;rw[e];simp[hr]
end
theorem LR.back{b c:ai}{a:Act}{todo:List Item}{bs:List ai}{w w':ae}{v:af}{fn:Func}(h:LR P g₀ w₀ (G {b.at a todo with mode:=.returning} (c::bs)) w)(hk:b.kind=.normal)(hd:a.defers=[])(hf:P.funcs[b.fn]?=some fn)(hr:(results fn a.tmps).run P w=.ok v w'):LR P g₀ w₀ (G (c.finish v) bs) w':=by
 have h1:=mq (P:=P) (main:=true) (todo:=todo) (cs:=bs) (c:=c) (.inl hk) hd hf hr;rw[if_pos hk]at h1;exact h.Sl h1 rfl fun L=>qV (Nm.out:NM false (results fn a.tmps)) hr _ L
end
end Cc
namespace Cc
open Go.Conc
instance ao5(wr:Bool)(a:Addr):Nm wr (mark (.acquire a)):=⟨⟨by simp,by simp⟩,trivial⟩
instance ZH(wr:Bool)(a:Addr):Nm wr (mark (.releaseMerge a)):=⟨⟨by simp,by simp⟩,trivial⟩
instance bJ3(wr:Bool)(ik:Array af):Nm wr (Extern.Race.at_ ik):=⟨by
 unfold Extern.Race.at_;split<;>exact Nm.out⟩
theorem EU(ik:Array af):NM true (Extern.Race.marked .acquire ik)/\NM true (Extern.Race.marked .releaseMerge ik):=
 ⟨NM.bind Nm.out fun _=>NM.bind Nm.out fun _=>Nm.out,NM.bind Nm.out fun _=>NM.bind Nm.out fun _=>Nm.out⟩
instance bf7(wr:Bool)(t:Extern.Atomic.T)(a:Addr):Nm wr (Extern.Atomic.read t a):=⟨by
 unfold Extern.Atomic.read;repeat' (first|exact Nm.out|(refine NM.bind ?_ fun _=>?_)|(refine NM.ite ?_ ?_)|split)⟩
theorem NU{α:Type}{wr:Bool}{p:α->Sem Bool}(h:∀a,NM wr (p a)):∀l:List α,NM wr (l.anyM p)
 |[]=>by simp only[List.anyM];exact Nm.out
 |a::l=>by
  simp only[List.anyM];refine NM.bind (h a) fun b=>?_;cases b with
  |true=>exact Nm.out
  |false=>exact NU h l
instance am1(wr:Bool)(a:Addr):Nm wr (Extern.Atomic.touchesFrozen a):=⟨by
 unfold Extern.Atomic.touchesFrozen;repeat' (first|exact Nm.out|exact NU (fun _=>Nm.out) _|(refine NM.bind ?_ fun _=>?_)|(refine NM.ite ?_ ?_)|split|dsimp only)⟩
theorem nY(ik:Array af):ik=#[]\/(∃x,ik=#[x])\/(∃x y,ik=#[x,y])\/(∃x y z,ik=#[x,y,z])\/∃x y z u l,ik=⟨x::y::z::u::l⟩:=by
 obtain⟨l⟩:=ik;match l with
 |[]=>exact .inl rfl
 |[x]=>exact .inr (.inl ⟨x,rfl⟩)
 |[x,y]=>exact .inr (.inr (.inl ⟨x,y,rfl⟩))
 |[x,y,z]=>exact .inr (.inr (.inr (.inl ⟨x,y,z,rfl⟩)))
 |x::y::z::u::l=>exact .inr (.inr (.inr (.inr ⟨x,y,z,u,l,rfl⟩)))
theorem LY(ik:Array af):NM true (Extern.Sync.canSpin ik):=by
 rcases nY ik with rfl|⟨x,rfl⟩|⟨x,y,rfl⟩|⟨x,y,z,rfl⟩|⟨x,y,z,u,l,rfl⟩<;>(try exact trivial)
 cases x<;>first
  |exact trivial
  |(show NM true (if _ then _ else _)
    refine NM.ite Nm.out (NM.bind Nm.out fun _=>Nm.out))
theorem Qp(ik:Array af):NM true (Extern.Sync.nothing ik):=trivial
theorem Tm(h:String->Halt)(hh:∀m,Y4 (h m))(ik:Array af):NM true (Extern.Sync.die h ik):=by
 rcases nY ik with rfl|⟨x,rfl⟩|⟨x,y,rfl⟩|⟨x,y,z,rfl⟩|⟨x,y,z,u,l,rfl⟩<;>(try exact trivial)
 cases x<;>first
  |exact trivial
  |(show NM true (match String.fromUTF8? _ with|some m=>_|none=>_)
    split
    ·exact hh _
    ·exact trivial)
theorem an8(t:Extern.Atomic.T)(ik:Array af):NM true (Extern.Atomic.casT t ik):=by
 rcases nY ik with rfl|⟨x,rfl⟩|⟨x,y,rfl⟩|⟨x,y,z,rfl⟩|⟨x,y,z,u,l,rfl⟩<;>(try exact trivial)
 unfold Extern.Atomic.casT;refine NM.bind (x:=asAddr x) Nm.out fun a=>?_;repeat' (first|exact Nm.out|(refine NM.bind ?_ fun _=>?_)|(refine NM.ite ?_ ?_)|split|dsimp only)
theorem Qi(k:IntKind)(b:Bool)(ik:Array af):NM true (Extern.Atomic.update (Op.intArith .add) k b ik):=by
 rcases nY ik with rfl|⟨x,rfl⟩|⟨x,y,rfl⟩|⟨x,y,z,rfl⟩|⟨x,y,z,u,l,rfl⟩<;>(try exact trivial)
 unfold Extern.Atomic.update;refine NM.bind (x:=asAddr x) Nm.out fun a=>?_;repeat' (first|exact Nm.out|(refine NM.bind ?_ fun _=>?_)|(refine NM.ite ?_ ?_)|split|dsimp only)
theorem Tj(t:Extern.Atomic.T)(ik:Array af):NM true (Extern.Atomic.loadT t ik):=by
 rcases nY ik with rfl|⟨x,rfl⟩|⟨x,y,rfl⟩|⟨x,y,z,rfl⟩|⟨x,y,z,u,l,rfl⟩<;>(try exact trivial)
 unfold Extern.Atomic.loadT;exact NM.bind (x:=asAddr x) Nm.out fun a=>Nm.out
theorem Qm(ik:Array af):NM true (Extern.Atomic.storeT ik):=by
 rcases nY ik with rfl|⟨x,rfl⟩|⟨x,y,rfl⟩|⟨x,y,z,rfl⟩|⟨x,y,z,u,l,rfl⟩<;>(try exact trivial)
 unfold Extern.Atomic.storeT;exact NM.bind (x:=asAddr x) Nm.out fun a=>NM.bind Nm.out fun _=>Nm.out
theorem IW(ik:Array af):NM true (Extern.Sync.count ik):=by
 unfold Extern.Sync.count;repeat' (first|exact Nm.out|(refine NM.bind ?_ fun _=>?_)|split)
section
variable{P:au}
theorem Oz(ik:Array af)(d:Nat):Lv P (Extern.Sync.semacquire ik) d d/\Lv P (Extern.Sync.semrelease ik) d d:=by
 have en:Lv P (do mark .enable;aX Extern.Sync.none_:Sem af) (d+1) d:=(rfl:d+1-1=d);refine⟨?_,?_⟩
 ·show Lv P (Extern.Sync.count ik>>=fun p=>_) (d+1) d;refine Lv.bind ((IW ik).lv (d+1)) fun p=>?_;obtain⟨a,n⟩:=p;dsimp only;split
  ·exact trivial
  ·exact Lv.bind ((Nm.out:NM true (store a (.int .u32 (n-1)) .atomic)).lv _) fun _=>en
 ·show Lv P (Extern.Sync.count ik>>=fun p=>_) (d+1) d;refine Lv.bind ((IW ik).lv (d+1)) fun p=>?_;obtain⟨a,n⟩:=p;exact Lv.bind ((Nm.out:NM true (Op.intArith .add .u32 n 1)).lv _) fun v=>Lv.bind ((Nm.out:NM true (store a v .atomic)).lv _) fun _=>en
theorem Cj(ik:Array af)(d:Nat):Lv P ((fun _=>do mark .disable;aX Extern.Race.none_:Array af->Sem af) ik) d (d+1)/\Lv P ((fun _=>do mark .enable;aX Extern.Race.none_:Array af->Sem af) ik) d (d-1):=⟨rfl,rfl⟩
theorem iB{f:ak}{fn:Func}{e:Array af->Sem af}(hf:P.funcs[f]?=some fn)(hname:(fn.name== "runtime.NumGoroutine")=false)(hb:fn.body.isNone=true)(hn:Extern.findNext fn=none)(he:Extern.find fn=some e)(ik:Array af){d d':Nat}(h:Lv P (e ik) d d'):
  Lv P (callFunc f ik) d d'/\∀w nx w',(callFunc f ik).run P w=.ok nx w'->∃v,nx=.value v:=by
 refine⟨?_,fun w nx w' h=>?_⟩
 ·have h1:¬fn.name= "runtime.NumGoroutine" :=by simpa using hname
  unfold callFunc;show Lv P (match P.funcs[f]? with
   |none=>_
   |some fn=>_) d d'
  simp only[hf];rw[if_neg (by simpa using h1),if_pos hb];simp only[hn,he];show Lv P (do let v<-e ik;aX (Next.value v)) d d';exact Lv.bind h fun _=>rfl
 ·rw[run_callFunc_extern hf hname hb hn he]at h;cases hx:(e ik).run P w with
  |halt hh w1=>rw[hx]at h;cases h
  |ok v w1=>rw[hx]at h;simp at h<;>exact⟨v,h.1.symm⟩
end
end Cc
namespace Cc
open Go.Conc Go.RowKit
def Zw:List ak:=[51,52,54,53,18,30,55,82,83,41,42,56,57,67,58,73,69,84,59,60,70,64,65,66,68,47,43,44,119,120,85,86,87,88,89,77,103,104,133,135,121,111,112,126,127,137,147,16,21,28,31,32,72]
def LB:List ak:=[105,90,132,134,139,140,141,142,143,144,145,136,146]
def vV:Sg where
 ok:=Zw.contains
 fs:=fun f=>if f==89 then [8,12,13,24,37]else if f==88 then [1,15]else if f==72 then [1,15]else if f==56 then [11,29,30]else if f==66 then [9]else if f==103 then [1,10]else if f==127 then [1,19]else []
 en:=fun f=>if f==133 then 1 else 0
 ext:=LB.contains
 Wj:=91
 Wi:=92
 pure:=[85,86,87,47,68,65].contains
 own:=fun f=>if f==56 then [15,8,16]else if f==86 then [4]else if f==87 then [4]else []
 wN:=fun f=>if f==56 then [24]else []
 wO:=fun f=>if f==56 then [28]else []
 WK:=[167]
 np:=fun f=>if f==56 then 3 else 1
instance bf9(xs:Array af):Nm true (Extern.OsHooks.nano xs):=⟨by
 unfold Extern.OsHooks.nano Extern.OsHooks.clock;repeat' (first|exact Nm.out|(refine NM.bind ?_ fun _=>?_)|split)⟩
theorem Sq(g:ak)(hg:vV.ok g=true):∃fn c,Try.prog.funcs[g]?=some fn/\fn.body=some c/\(fn.name== "runtime.NumGoroutine")=false/\Sg.fin (vV.items g (some (vV.en g)) [.code c])=true/\∀t∈vV.own g++(vV.wN g++vV.wO g),vV.np g<=t:=by
 obtain⟨fn,c,h1,h2,h3,h4⟩:=Ap (t:=fun g c=>Sg.fin (vV.items g (some (vV.en g)) [.code c])&&(vV.own g++(vV.wN g++vV.wO g)).all fun t=>decide (vV.np g<=t)) (L:=Zw) kr g hg;rw[Bool.and_eq_true,List.all_eq_true]at h4;exact⟨fn,c,h1,h2,h3,h4.1,by simpa using h4.2⟩
theorem WC(g:ak)(hg:vV.ext g=true)(xs:Array af)(d:Nat):Lv dS (callFunc g xs) d d/\∀w nx w2,(callFunc g xs).run dS w=.ok nx w2->∃v,nx=.value v:=by
 have hg:LB.contains g=true:=hg;unfold LB at hg;simp only[List.contains_cons,List.contains_nil,Bool.or_false,Bool.or_eq_true,beq_iff_eq]at hg;rcases hg with rfl|rfl|rfl|rfl|rfl|rfl|rfl|rfl|rfl|rfl|rfl|rfl|rfl
 ·exact iB (e:=Extern.Race.marked .acquire) Try.func105 kr kr kr kr xs ((EU _).1.lv _)
 ·exact iB (e:=Extern.Race.marked .releaseMerge) Try.func90 kr kr kr kr xs ((EU _).2.lv _)
 ·exact iB (e:=Extern.Atomic.casT (.int .i32)) Try.func132 kr kr kr kr xs ((an8 _ _).lv _)
 ·exact iB (e:=Extern.Atomic.update (Op.intArith .add) .i32 true) Try.func134 kr kr kr kr xs ((Qi _ _ _).lv _)
 ·exact iB (e:=Extern.Sync.canSpin) Try.func139 kr kr kr kr xs ((LY _).lv _)
 ·exact iB (e:=Extern.Sync.nothing) Try.func140 kr kr kr kr xs ((Qp _).lv _)
 ·exact iB (e:=Extern.Sync.die .throw) Try.func141 kr kr kr kr xs ((Tm Halt.throw (fun _=>trivial) _).lv _)
 ·exact iB (e:=Extern.OsHooks.nano) Try.func142 kr kr kr kr xs ((Nm.out:NM true (Extern.OsHooks.nano _)).lv _)
 ·exact iB (e:=Extern.Sync.semacquire) Try.func143 kr kr kr kr xs ((Oz _ _).1)
 ·exact iB (e:=Extern.Sync.die .fatal) Try.func144 kr kr kr kr xs ((Tm Halt.fatal (fun _=>trivial) _).lv _)
 ·exact iB (e:=Extern.Sync.semrelease) Try.func145 kr kr kr kr xs ((Oz _ _).2)
 ·exact iB (e:=Extern.Atomic.loadT (.int .u32)) Try.func136 kr kr kr kr xs ((Tj _ _).lv _)
 ·exact iB (e:=Extern.Atomic.storeT) Try.func146 kr kr kr kr xs ((Qm _).lv _)
theorem tO:vR vV dS where
 body:=Sq
 Wj xs d:=iB (e:=fun _=>do mark .disable;aX Extern.Race.none_) Try.func91 kr kr kr kr xs (Cj xs d).1
 Wi xs d:=iB (e:=fun _=>do mark .enable;aX Extern.Race.none_) Try.func92 kr kr kr kr xs (Cj xs d).2
 ext:=WC
 early:=⟨kr,fun g=>by
  have h:(Try.prog.funcs.all fun f=>(f.body.map readies).all (·.isEmpty))=true:=kr
  unfold Program.stepOf;rw[Array.findIdx?_eq_none_iff];intro f hf;rw[Array.all_eq_true_iff_forall_mem]at h;have:=h f hf
  cases hb:f.body with
  |none=>rfl
  |some c=>
   rw[hb]at this;have:readies c=[]:=by simpa using this
   simp[this]⟩
 row ty hty e he i z hi hz:=by
  have hty:ty=167:=by simpa [vV]using hty
  subst hty;have h1:(match Try.prog.underlying 167 with|some (.slice e)=>(Try.prog.info? e).bind (·.zero)|_=>none)=some .nilFunc:=kr
  rw[he]at h1;dsimp only at h1;rw[hi]at h1;have h2:i.zero=some .nilFunc:=h1;rw[hz]at h2;cases h2;intro c hc fn x y e;have:c=.nilFunc:=by simpa [Value.cells]using hc
  rw[this]at e;cases e
end Cc
namespace Kn
open Go.RowKit Go.Conc Go.ConcN Pl Mem Cc mJ nG mI ng
open Hr (gH ja ru Qb M9 Rt)
theorem Ib{P:au}{N R:Act->ae->Prop}:∀(cs:List Code) (a:Act) (w:ae),wpT P N R cs a w->Hs P N R cs a w
 |[],a,w,h=>h
 |c::cs,a,w,h=>Code.wp_mono (fun e a w hq=>by
   rcases hq with⟨rfl,hd,h⟩|⟨rfl,hd,h⟩
   ·exact⟨hd,Ib cs a w h⟩
   ·exact⟨hd,h⟩) (h w.tape w.drawn)
theorem Vu:(eK 12 iY).1.all (fun c=>Sg.fin (vV.items 27 (some 0) [.code c]))=true:=kr
theorem aD2:vV.uI 27=false:=kr
theorem ba2:vV.fs 27=[]:=kr
theorem LR.M5{g₀:ah}{w₀ w:ae}{X:Prop}{t n:Int}{vg Aq:af}{sA:Option Addr}{ns cap:Nat}{cs:List Int}{l:List Cm}{msg:ByteArray}{c:ai}{bs:List ai}
  (hL:LR dS g₀ w₀ (G (Frame.enter dS 27 #[.agg #[.int .i64 t,.int .i64 n,vg],.string msg,Aq,.slice sA ns cap] .normal) (c::bs)) w)
  (hv:fW .u64 w w.heap.size vg cs)(hcb:∀i,i<cs.length->0<=cs.getD i 0)(hcl:cs.length<=65536)(hC:lI w w.heap.size Aq l)(hll:l.length<=65536)(hb:∀i,i<l.length->0<=(l.getD i .zero).d/\0<=(l.getD i .zero).e)(hns:ns<=65536)(CM:msg.size<=1000000){E:Int}(hE:ja t n cs l msg ns=E)(h0:E≠0)
  (fin:∀w',gH w.heap.size w w'->LR dS g₀ w₀ (G (c.finish (ru E)) bs) w'->X):X:=by
 subst hE;have e0:Frame.enter dS 27 #[.agg #[.int .i64 t,.int .i64 n,vg],.string msg,Aq,.slice sA ns cap] .normal=(base 27).at ⟨#[.agg #[.int .i64 t,.int .i64 n,vg],.string msg,Aq,.slice sA ns cap]++Array.replicate (107-4) av,[]⟩ [.code (xH (eK 12 iY).1 (eK 12 iY).2)]:=by
  rw[kj,enter_at (P:=dS) (c:=iY) _ Try.func27 rfl];rfl
 rw[e0,Vt]at hL;refine LR.pieces tO rfl aD2 ba2 (fun a2 w2 hd hN _=>absurd hN.1 h0) (fun a2 w2 todo hd hR hL=>?_) (eK 12 iY).1 (fun c hc=>List.all_eq_true.1 Vu c hc) _ _ rfl hL (Ib _ _ _ (Qb hv hcb hcl hC hll hb hns CM (sA:=sA) (cap:=cap)));exact fin w2 hR.2.2 (LR.back hL rfl hd Try.func27 hR.2.1)
end Kn
end Go.Proofs.Ytpfpokjaeffbjaa
