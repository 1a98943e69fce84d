/- Texts that other texts of this claim lean on, one behind the other. -/
import Derived.Deep.RegionLaw
import Derived.Deep.RegionWith
import Derived.Laws.CopyOwn
import Derived.Outline
import Derived.Laws.BitsAllLaws
import Derived.Deep.DeepCutAuto
import Derived.Deep.RegionHeld3
import Derived.Deep.QuietTactic
import Derived.BigQuiet
import Derived.Defers
import Derived.Recover
import Derived.RegionTactic
import Derived.IntWalk
import Derived.Laws.EntriesVeiled
import Derived.Laws.StructEq
import Derived.Deep.CutBlock
import Derived.Test.YtpghlmcoajaiiaaGreatDoorM1
set_option maxHeartbeats 20000000
set_option maxRecDepth 100000
namespace Go.Proofs.YtpghlmcoajaiiaaGreatDoor
open Go.RowKit
section
variable {p:Prop}
theorem qfd5a90 (h:p:=by
 clear zm;have n2:=hx2.cell 1 2 rfl rfl;have v3:=(hb2.cell (p:=⟨b,off+k*4+3,none⟩) hbb).trans c3;have k0:W2.cell? ⟨bk,ok,none⟩=some (.int .i64 kp):=(hb2.cell (p:=⟨bk,ok,none⟩) hbk).trans (by simpa using hck 0 _ rfl);have k1:W2.cell? ⟨bk,ok+1,none⟩=some (.bool kl):=(hb2.cell (p:=⟨bk,ok+1,none⟩) hbk).trans (by simpa using hck 1 _ rfl);have k2:W2.cell? ⟨bk,ok+2,none⟩=some (.slice ak km ck):=(hb2.cell (p:=⟨bk,ok+2,none⟩) hbk).trans (by simpa using hck 2 _ rfl);obtain⟨W3,hW3⟩:∃x,W2.alloc (.cells #[.int .i64 kp,.bool kl,.slice ak km ck] 27)=x:=⟨_,rfl⟩
 have hb23:Below W2.heap.size W2 W3:=by rw[←hW3];exact Below.al (Below.refl _ _)
 have hb3:Below w.heap.size w W3:=below_via hb2 hb23;have hx3:Boxes W3 [(w.heap.size+2,[.int .i64 kp,.bool kl,.slice ak km ck]),(w.heap.size+1,[.int .i64 0,.bool false,.slice none 0 0]),(w.heap.size,[.int .i64 p,.bool false,.slice (some ⟨b,off,none⟩) m c])]:=by
  rw[←hW3];exact hx2.alloc #[.int .i64 kp,.bool kl,.slice ak km ck] 27 (b:=w.heap.size+2) (by omega)
 have g0:=hx3.cell 0 0 rfl rfl;have g1:=hx3.cell 0 1 rfl rfl;have g2:=hx3.cell 0 2 rfl rfl;have CS:=rsizes_any (hon.below hb3) hkb;have HX3:=Hd hx3;have HB3:=Hd hb3;have HKR:=Hd hkr;have HSM:=Hd hsm;have HKEY:=Hd hkey;have HKD:=Hd hkd;have HKM:=Hd hkm;have HKL:=Hd hkl;have HX1:=Hd hx1;have HLM:=Hd hlm;have HC0:=Hd c0;clear hx2 hx3 hb2 hb3 hb23 c0 c1 c2 c3 hck hon hkr hsm hkey hkd hkm hkl hkp hx1 hlm h h1 hkid hy hbd hml e1 s1 hl9;go_enter Tryz.func165,Tryz.ntmps165;go_wp2_with fail;refine CS.mono ?_;rintro e w4 ⟨v4,rfl,ho4,hb4⟩;obtain⟨a4,c4,rfl,hrow⟩:=Row.of_own ho4;go_wp2_with fail;refine(refAt_any _ _ _ _ _ hrow HSM.out).mono ?_;rintro e w5 ⟨rfl,rfl⟩;obtain⟨z,hz⟩:∃z,atF (sizesT kid)=z:=⟨_,rfl⟩
 rw[hz];have hx4:=HX3.out.step hb4;have hbw4:=below_via HB3.out hb4
 by_cases hz0:z=0
 ·subst hz0
  have hsp:splitT l k=none:=by unfold splitT;rw[HKD.out,hz];rfl
  have r0:=hx4.cell 2 0 rfl rfl;have r1:=hx4.cell 2 1 rfl rfl;have r2:=hx4.cell 2 2 rfl rfl;have q0:=hx4.cell 1 0 rfl rfl;have q1:=hx4.cell 1 1 rfl rfl;have q2:=hx4.cell 1 2 rfl rfl;have u0:=hx4.frozen 1 0 rfl;have u1:=hx4.frozen 1 1 rfl;have u2:=hx4.frozen 1 2 rfl;clear ho4 hrow CS g0 g1 g2 n2 v3 k0 k1 k2;go_wp2_with fail;have hbe:=((hbw4.setCell (p:=⟨w.heap.size+1,0,none⟩) (by simp) (.int .i64 p)).setCell (p:=⟨w.heap.size+1,1,none⟩) (by simp) (.bool false)).setCell (p:=⟨w.heap.size+1,2,none⟩) (by simp) (.slice (some ⟨b,off,none⟩) m c);have hxw:=(((hx4.sub (m:=[(w.heap.size+1,[.int .i64 0,.bool false,.slice none 0 0])]) (by simp)).put 0 (.int .i64 p) (by simp)).put 1 (.bool false) (by simp)).put 2 (.slice (some ⟨b,off,none⟩) m c) (by simp);have t0:=hxw.cell 0 0 rfl rfl;have t1:=hxw.cell 0 1 rfl rfl;have t2:=hxw.cell 0 2 rfl rfl;have hend:=H.out.below hbe;rw[show cntT (.node p l)=m from HLM.out] at hend;refine bodyPost_ret (v:=.tuple #[.agg #[.int .i64 p,.bool false,.slice (some ⟨b,off,none⟩) m c],.bool false]) (by simp only[results,Tryz.results165];simp[go_sem,t0,t1,t2]) rfl ?_;refine⟨[.int .i64 p,.bool false,.slice (some ⟨b,off,none⟩) m c],by rw[hsp];rfl,?_,hbe⟩;rw[hsp];exact hend.mono (fun b h=>.inl h)
 have hsl:(sizesT kid).length=km:=by rw[←HKM.out];cases kid<;>simp[sizesT,cntT]
 have hA:∃A:Nat,z=(A:Int)∧0<A∧A<km:=by
  rcases atF_cases HSM.out with⟨h1,_⟩|⟨_,A,h1,h2,h3,_⟩
  ·rw[hz] at h1;exact absurd h1 hz0
  ·exact⟨A,by rw[←hz,h3],h1,by omega⟩
 obtain⟨A,rfl,hA0,hAk⟩:=hA;have HZ:=Hd hz;have hz1:((A:Int) == 0)=false:=by simp;omega
 have m1:=hx4.cell 0 1 rfl rfl;have m1':(w4.alloc (.cells #[.int .i64 0,.bool kl,.slice none 0 0] 27)).cell? ⟨w.heap.size+2,1,none⟩=some (.bool kl):=(hx4.step (Below.al (Below.refl _ _))).cell 0 1 rfl rfl;clear hrow ho4 CS g0 g1 g2 n2 v3 k0 k1 k2 hz0 hW2 hW3 hsz2;go_upto_region 7 with(fail)
 obtain⟨W6,hW6⟩:∃x,x=((w4.alloc (.cells #[.int .i64 0,.bool kl,.slice none 0 0] 27)).alloc (.cells #[.int .i64 0,.bool kl,.slice none 0 0] 27)):=⟨_,rfl⟩
 rw[←hW6];have hx6:Boxes W6 [(w4.heap.size+1,[.int .i64 0,.bool kl,.slice none 0 0]),(w4.heap.size,[.int .i64 0,.bool kl,.slice none 0 0]),(w.heap.size+2,[.int .i64 kp,.bool kl,.slice ak km ck]),(w.heap.size+1,[.int .i64 0,.bool false,.slice none 0 0]),(w.heap.size,[.int .i64 p,.bool false,.slice (some ⟨b,off,none⟩) m c])]:=by
  rw[hW6];exact(hx4.alloc #[.int .i64 0,.bool kl,.slice none 0 0] 27 (b:=w4.heap.size) rfl).alloc #[.int .i64 0,.bool kl,.slice none 0 0] 27 (b:=w4.heap.size+1) (by simp)
 have hb46:Below w4.heap.size w4 W6:=by rw[hW6];exact Below.al (Below.al (Below.refl _ _))
 have hsz6:W6.heap.size=w4.heap.size+2:=by rw[hW6];simp
 have hbw6:=below_via hbw4 hb46;have hw34:w.heap.size+2<w4.heap.size:=hx4.lt 0 rfl;have hx6d:=hx6.drew;have hbw6d:Below w.heap.size w W6.drew:=hbw6.drew;have hFB:∀b,F b→b<W6.heap.size:=fun b hb=>by have:=hF b hb;omega
 have c0:CellsF 145 F n W6.heap.size W6.drew (.slice none 0 0) []:=CellsF.nil _ _ _ _ _;have hk6:=TabR.below (Nat.le_refl _) hbw6d HKR.out;have r7:TabR 4 (RcOn F n W6.drew) W6.drew ak A ck ((cellsR kid).take A):=TabR.mono (TabR.tk hk6 (show A≤km by omega)) (fun cs y hy=>RcOn.below hy hbw6d);obtain⟨v7,w7,hr7,c7,hg7⟩:=c0.row Tryz.underlying25 info_Cw (Nat.le_refl _) hFB (by simp) r7 (by omega);rw[List.nil_append] at c7;obtain⟨a7,d7,ev7,hd7,hd7m,_,_⟩:=(c7.own hFB).sl;rw[List.length_take,cellsR_len,HKM.out,Nat.min_eq_left (by omega)] at ev7 hd7;subst ev7;have hx7:=hx6d.grown hg7 (by intro q hq e;cases e);have hb67:Below W6.heap.size W6.drew w7:=(Below.refl _ _).grown hg7 (Nat.le_refl _) (fun g hg=>by cases hg);obtain⟨hkck,_⟩:=(show km≤ck∧ck≤9223372036854775807 from HKR.out.lens.2)
 have hAck:A≤ck:=by omega
 have hS6:W6.drew.cell? ⟨w.heap.size+2,2,none⟩=some (.slice ak km ck):=hx6d.cell 2 2 rfl rfl;have hS7:w7.cell? ⟨w.heap.size+2,2,none⟩=some (.slice ak km ck):=hx7.cell 2 2 rfl rfl;have hx7s:=(hx7.sub (m:=[(w4.heap.size,[.int .i64 0,.bool kl,.slice none 0 0]),(w4.heap.size+1,[.int .i64 0,.bool kl,.slice none 0 0]),(w.heap.size+2,[.int .i64 kp,.bool kl,.slice ak km ck]),(w.heap.size+1,[.int .i64 0,.bool false,.slice none 0 0]),(w.heap.size,[.int .i64 p,.bool false,.slice (some ⟨b,off,none⟩) m c])]) (by simp)).put 2 (.slice a7 A d7) (by simp;omega);have hS8:(w7.setCell ⟨w4.heap.size,2,none⟩ (.slice a7 A d7)).cell? ⟨w.heap.size+2,2,none⟩=some (.slice ak km ck):=hx7s.cell 2 2 rfl rfl;have za6:=hx6d.cell 1 2 rfl rfl;have za7:=hx7.cell 1 2 rfl rfl;have u7:=hx7.frozen 1 2 rfl;have C7:=Hd c7;have HX7:=Hd hx7s;have HB67:=Hd hb67;have HBW6:=Hd hbw6d;have HSZ6:=Hd hsz6;clear hx4 hx6 hx6d hx7 hx7s c0 c7 r7 hk6 hg7 hbw4 hbw6 hbw6d hb46 hb67 hz hsl hW6 m1 m1';refine wp_region_noPanic ?_;refine wp_region_held_drew (S:=(fun W=>W.cell? ⟨w.heap.size+2,2,none⟩=some (.slice ak km ck))) (by kernel_rfl) (by assumption) (fun hHeld=>?_);refine tks [0,2] ?_;refine tks [3,4,5] ?_;refine rdy 1 (fun K hK=>?_)
 (rw[if_pos (by rfl)];go_wp2_with (fail))
 refine bkw hK (by assumption) (fun hHeld=>?_);clear hK K;refine rdy 6 (fun K hK=>?_)
 (refine step_append_run rfl _ _ _ _ rfl rfl rfl hr7 ?_)
 refine bkw hK (by assumption) (fun hHeld=>?_);clear hK K;refine tks [7] ?_;refine rdy 8 (fun K hK=>?_)
 (rw[if_pos (by rfl)];go_wp2_with (fail))
 refine bkw hK (by assumption) (fun hHeld=>?_);clear hK K;refine wpAnyH_done (by kernel_rfl) ?_ _;refine NoPanic.normal ?_;go_upto_region 8 with(fail)
 obtain⟨W7,hW7⟩:∃x,x=w7.setCell ⟨w4.heap.size,2,none⟩ (.slice a7 A d7):=⟨_,rfl⟩
 rw[←hW7] at HX7 hS8 ⊢;have hx7:Boxes W7 [(w4.heap.size,[.int .i64 0,.bool kl,.slice a7 A d7]),(w4.heap.size+1,[.int .i64 0,.bool kl,.slice none 0 0]),(w.heap.size+2,[.int .i64 kp,.bool kl,.slice ak km ck]),(w.heap.size+1,[.int .i64 0,.bool false,.slice none 0 0]),(w.heap.size,[.int .i64 p,.bool false,.slice (some ⟨b,off,none⟩) m c])]:=HX7.out;have hs6:=HSZ6.out;have hs67:=HB67.out.size;have hs67:W6.heap.size≤w7.heap.size:=hs67;have hsW7:W7.heap.size=w7.heap.size:=by rw[hW7];simp
 have hb7:Below w.heap.size w W7:=by rw[hW7];exact(HBW6.out.trans (HB67.out.mono HBW6.out.size)).setCell (by simp;omega) _
 have c7:CellsF 145 F n W6.heap.size W7 (.slice a7 A d7) ((cellsR kid).take A):=by
  rw[hW7];exact C7.out.set _ (fun e=>by have:W6.heap.size≤w4.heap.size:=(C7.out.ge e).1;omega) (fun hf=>by have:w4.heap.size<w.heap.size:=hF _ hf;omega)
 have hx7d:=hx7.drew;have hb7d:Below w.heap.size w W7.drew:=hb7.drew;have hFB7:∀b,F b→b<W7.heap.size:=fun b hb=>by have:=hF b hb;omega
 obtain⟨a2,ha2,hsl2⟩:=slice_from elem_Cw size_Cw ak km ck A (by omega);obtain⟨M,hM⟩:∃M,km-A=M:=⟨_,rfl⟩
 have c0:CellsF 145 F n W7.heap.size W7.drew (.slice none 0 0) []:=CellsF.nil _ _ _ _ _;have r8:TabR 4 (RcOn F n W7.drew) W7.drew a2 M (ck-A) ((cellsR kid).drop A):=by
  rw[ha2,←hM];exact TabR.mono (TabR.dp (TabR.below (Nat.le_refl _) hb7d HKR.out) (show A≤km by omega)) (fun cs y hy=>RcOn.below hy hb7d)
 rw[hM] at hsl2;obtain⟨v8,w8,hr8,c8,hg8⟩:=c0.row Tryz.underlying25 info_Cw (Nat.le_refl _) hFB7 (by simp) r8 (by omega);rw[List.nil_append] at c8;obtain⟨a8,d8,ev8,hd8,hd8m,_,_⟩:=(c8.own hFB7).sl;rw[List.length_drop,cellsR_len,HKM.out,hM] at ev8 hd8;subst ev8;have hx8:=hx7d.grown hg8 (by intro q hq e;cases e);have hb78:Below W7.heap.size W7.drew w8:=(Below.refl _ _).grown hg8 (Nat.le_refl _) (fun g hg=>by cases hg);have hT6:W7.drew.cell? ⟨w.heap.size+2,2,none⟩=some (.slice ak km ck):=hx7d.cell 2 2 rfl rfl;have hT7:w8.cell? ⟨w.heap.size+2,2,none⟩=some (.slice ak km ck):=hx8.cell 2 2 rfl rfl;have hx8s:=(hx8.swap).put 2 (.slice a8 M d8) (by simp;omega);have hT8:(w8.setCell ⟨w4.heap.size+1,2,none⟩ (.slice a8 M d8)).cell? ⟨w.heap.size+2,2,none⟩=some (.slice ak km ck):=hx8s.cell 2 2 rfl rfl;have zb6:=hx7d.cell 1 2 rfl rfl;have zb7:=hx8.cell 1 2 rfl rfl;have ub7:=hx8.frozen 1 2 rfl;have C8:=Hd c8;have C7:=Hd c7;have HX8:=Hd hx8s;have HB78:=Hd hb78;have HB7:=Hd hb7d;have HSW:=Hd hsW7;clear hx7 hx7d hx8 hx8s c0 c7 c8 r8 hg8 hb7 hb7d hb78 hS6 hS7 hS8 za6 za7 u7 hr7 hW7 ha2;refine wp_region_noPanic ?_;refine wp_region_held_drew (S:=(fun W=>W.cell? ⟨w.heap.size+2,2,none⟩=some (.slice ak km ck))) (by kernel_rfl) (by assumption) (fun hHeld=>?_);refine tks [0,2] ?_;refine tks [3,4,5] ?_;refine rdy 1 (fun K hK=>?_)
 (rw[if_pos (by rfl)];go_wp2_with (fail))
 refine bkw hK (by assumption) (fun hHeld=>?_);clear hK K;refine rdy 6 (fun K hK=>?_)
 (refine step_append_run rfl _ _ _ _ rfl rfl rfl hr8 ?_)
 refine bkw hK (by assumption) (fun hHeld=>?_);clear hK K;refine tks [7] ?_;refine rdy 8 (fun K hK=>?_)
 (rw[if_pos (by rfl)];go_wp2_with (fail))
 refine bkw hK (by assumption) (fun hHeld=>?_);clear hK K;refine wpAnyH_done (by kernel_rfl) ?_ _;refine NoPanic.normal ?_;go_upto_region 9 with(fail)
 obtain⟨W8,hW8⟩:∃x,x=w8.setCell ⟨w4.heap.size+1,2,none⟩ (.slice a8 M d8):=⟨_,rfl⟩
 rw[←hW8] at HX8 ⊢;have hx8:Boxes W8 [(w4.heap.size+1,[.int .i64 0,.bool kl,.slice a8 M d8]),(w4.heap.size,[.int .i64 0,.bool kl,.slice a7 A d7]),(w.heap.size+2,[.int .i64 kp,.bool kl,.slice ak km ck]),(w.heap.size+1,[.int .i64 0,.bool false,.slice none 0 0]),(w.heap.size,[.int .i64 p,.bool false,.slice (some ⟨b,off,none⟩) m c])]:=HX8.out;have hsw:=HSW.out;have hb78:Below W7.heap.size W7 w8:=((Below.refl _ _).drew).trans HB78.out;have hb8:Below w.heap.size w W8:=by rw[hW8];exact(HB7.out.trans (HB78.out.mono HB7.out.size)).setCell (by simp;omega) _
 have c8:CellsF 145 F n W7.heap.size W8 (.slice a8 M d8) ((cellsR kid).drop A):=by
  rw[hW8];exact C8.out.set _ (fun e=>by have:W7.heap.size≤w4.heap.size+1:=(C8.out.ge e).1;omega) (fun hf=>by have:w4.heap.size+1<w.heap.size:=hF _ hf;omega)
 have c7:CellsF 145 F n W6.heap.size W8 (.slice a7 A d7) ((cellsR kid).take A):=by
  rw[hW8];exact(C7.out.below hb78).set _ (fun e=>by have:W6.heap.size≤w4.heap.size+1:=(C7.out.ge e).1;omega) (fun hf=>by have:w4.heap.size+1<w.heap.size:=hF _ hf;omega)
 have hM0:0<M:=by omega
 obtain⟨y,r,hyr⟩:∃y r,(cellsR kid).drop A=y::r:=by
  cases hd:(cellsR kid).drop A with
  | nil=>
   have:=congrArg List.length hd;rw[List.length_drop,cellsR_len,HKM.out] at this;simp at this;omega
  | cons y r=>exact⟨y,r,rfl⟩
 have hpk:=part_key A kid hyr;rw[hyr] at c8;obtain⟨g,rfl,hg7,hgf⟩:∃g,a8=some ⟨g,0,none⟩∧W7.heap.size≤g∧W8.frozen? ⟨g,0,none⟩=false:=by
  obtain⟨L8,o8,_⟩:=c8
  rcases o8.2 with⟨e,_⟩|⟨g,cap,cur,e,hg,hh,_⟩
  ·cases e;omega
  ·cases e;exact⟨g,rfl,hg,by simp[World.frozen?,hh]⟩
 obtain⟨_,_,e8,_,_,t8,_⟩:=(c8.own (fun b hb=>by have:=hF b hb;omega)).sl;have hl8:(y::r).length=M:=by cases e8;rfl
 rw[hl8] at e8 t8;cases e8;obtain⟨_,_,y',_,_,_,_,_,_,eg,_,hy',_,_,_,_,_,d0,_⟩:=RNodeOn.cell t8 hM0;cases eg;cases hy';have d0:W8.cell? ⟨g,0,none⟩=some (.string (strOf y.key)):=by simpa using d0
 have p2:=hx8.cell 0 2 rfl rfl;have p1:=hx8.cell 2 1 rfl rfl;have D8:=Hd c8;have D7:=Hd c7;have HLT7:Hid (∀q,(Value.slice a7 A d7).ownBlock=some q→q<W7.heap.size):=Hd (fun q hq=>(C7.out.ge hq).2);have HX8:=Hd hx8;have HB8:=Hd hb8;have HYR:=Hd hyr;have HPK:=Hd hpk;clear hx8 hb8 c7 c8 hyr hpk t8 hb78 hW8 hT6 hT7 hT8 zb6 zb7 ub7 hr8 hl8
 go_upto_if 54 with(fail)
 go_cut [] (fun wq=>Boxes wq [(w4.heap.size+1,[.int .i64 0,.bool kl,.slice (some ⟨g,0,none⟩) M d8]),(w4.heap.size,[.int .i64 0,.bool kl,.slice a7 A d7]),(w.heap.size+2,[.int .i64 kp,.bool kl,.slice ak km ck]),(w.heap.size+1,[.int .i64 0,.bool false,.slice none 0 0]),(w.heap.size,[.int .i64 p,.bool false,.slice (some ⟨b,off,none⟩) m c])]∧CellsF 145 F n W7.heap.size wq (.slice (some ⟨g,0,none⟩) M d8) (cellsR (partT A kid).2.1)∧CellsF 145 F n W6.heap.size wq (.slice a7 A d7) ((cellsR kid).take A)∧Below w.heap.size w wq)
 case first=>
  cases kid with
  | leaf kq kr=>
   obtain rfl:kl=true:=HKL.out.symm;go_wp2_with fail;go_meet;exact⟨HX8.out,by rw[cells_part_leaf,HYR.out];exact D8.out,D7.out,HB8.out⟩
  | node kq kr=>
   obtain rfl:kl=false:=HKL.out.symm;have hw8:=HX8.out.lt 0 rfl;have hx9:=HX8.out.set ⟨g,0,none⟩ (.string (strOf [])) (by intro q hq;simp at hq;rcases hq with rfl|rfl|rfl|rfl|rfl<;>simp<;>omega);have c9:=D8.out.key0 (fun hf=>by have:g<w.heap.size:=hF _ hf;omega) [];have c7:=D7.out.set (p:=⟨g,0,none⟩) (.string (strOf [])) (fun e=>by have:g<W7.heap.size:=HLT7.out g e;omega) (fun hf=>by have:g<w.heap.size:=hF _ hf;omega);have hb9:=HB8.out.setCell (p:=⟨g,0,none⟩) (show w.heap.size≤g by omega) (.string (strOf []));have HX9:=Hd hx9;have HC9:=Hd c9;have HC7:=Hd c7;have HB9:=Hd hb9;clear hx9 c9 c7 hb9;go_wp2_with fail;go_meet;exact⟨HX9.out,by rw[cells_part_node A kq kr HYR.out];exact HC9.out,HC7.out,HB9.out⟩
 case rest=>
 obtain⟨hx,c8,c7,hbw⟩:=hcut;have hs6:=HSZ6.out;have hs7:w.heap.size≤W7.heap.size:=by have:=HB7.out.size;exact this
 have hxl:=hx.lt 0 rfl;obtain⟨q1,q2,q3,q4,q5⟩:=cells_part A kid;have nA:RNodeOn (Fr F w4) (n+1) wc [.int .i64 0,.bool kl,.slice a7 A d7] (partT A kid).1:=by
  have:=(c7.own (fun b hb=>by have:=hF b hb;omega))
  rw[←q1] at this;have:=this.node (w:=w4) (by omega);rw[q2,q3,HKL.out] at this;exact this
 have nB:RNodeOn (Fr F w4) (n+1) wc [.int .i64 0,.bool kl,.slice (some ⟨g,0,none⟩) M d8] (partT A kid).2.1:=by
  have:=(c8.own (fun b hb=>by have:=hF b hb;omega)).node (w:=w4) (by omega);rw[q4,q5,HKL.out] at this;exact this
 obtain⟨mm,hsp,hcm⟩:=split_cells HX1.out HZ.out hA0 p;have hkey:(partT A kid).2.2=y.key:=HPK.out;rw[hkey] at hcm;have hml:cntT (.node 0 mm)=m+1:=by
  have:=congrArg List.length hcm;rw[cellsR_len] at this;simp only[List.length_append,List.length_take,List.length_drop,List.length_cons,List.length_nil,cellsR_len] at this;have h2:cntT (.node p l)=m:=HLM.out;rw[h2] at this;omega
 have CW:∀(W:World) (ra rb z:Nat),Below wc.heap.size wc W→wc.heap.size≤ra→wc.heap.size≤rb→BoxAt W ra #[.int .i64 0,.bool kl,.slice a7 A d7]→BoxAt W rb #[.int .i64 0,.bool kl,.slice (some ⟨g,0,none⟩) M d8] →
  BoxAt W z #[.string (strOf xk),.string ⟨#[]⟩,.slice none 0 0,.slice (some ⟨ra,0,none⟩) 1 1,.string (strOf y.key),.string ⟨#[]⟩,.slice none 0 0,.slice (some ⟨rb,0,none⟩) 1 1] →
  Calls Tryz.prog 129 #[.slice (some ⟨b,off,none⟩) m c,.int .i64 (k:Int),.slice (some ⟨z,0,none⟩) 2 2] W (RowTo (Fr F w4) (n+1) wc (.node 0 mm) (m+1)):=fun W ra rb z hb r1 r2 hA hB hz=>
  with_two rfl hml hb (fun b hb=>.inr (by omega)) (TabR.mono (TabR.below (Nat.le_refl _) hbw HFR.out) (fun _ _ hy=>RcOn.mono (fun b hf=>Fr.old b hf) (RcOn.below hy hbw))) hk (by omega) hcm rfl nA nB r1 r2 hA hB hz
 have hG:∀j bb x W,bb≠w.heap.size+1→bb<wc.heap.size→wc.cell? ⟨bb,j,none⟩=some x→AgreeF (fun x=>x≠w.heap.size+1) wc W→W.cell? ⟨bb,j,none⟩=some x:=fun j bb x W h1 h2 h3 hW=>(hW.cell h1 h2).trans h3
 have hbl8:=hx.lt 0 rfl;have hbl7:=hx.lt 1 rfl;have hbl0:=hx.lt 4 rfl;have hbbw:b<wc.heap.size:=Nat.lt_of_lt_of_le hbb hbw.size;have n2:∀W,AgreeF (fun x=>x≠w.heap.size+1) wc W→W.cell? ⟨w.heap.size,2,none⟩=some (.slice (some ⟨b,off,none⟩) m c):=fun W hW=>hG _ _ _ W (by omega) hbl0 (hx.cell 4 2 rfl rfl) hW
 have nk:∀W,AgreeF (fun x=>x≠w.heap.size+1) wc W→W.cell? ⟨b,off+k*4,none⟩=some (.string (strOf xk)):=fun W hW=>hG _ _ _ W (by omega) hbbw ((hbw.cell (p:=⟨b,off+k*4,none⟩) hbb).trans HC0.out) hW
 have t0:∀W,AgreeF (fun x=>x≠w.heap.size+1) wc W→W.cell? ⟨w4.heap.size,0,none⟩=some (.int .i64 0):=fun W hW=>hG _ _ _ W (by omega) hbl7 (hx.cell 1 0 rfl rfl) hW
 have t1:∀W,AgreeF (fun x=>x≠w.heap.size+1) wc W→W.cell? ⟨w4.heap.size,1,none⟩=some (.bool kl):=fun W hW=>hG _ _ _ W (by omega) hbl7 (hx.cell 1 1 rfl rfl) hW
 have t2:∀W,AgreeF (fun x=>x≠w.heap.size+1) wc W→W.cell? ⟨w4.heap.size,2,none⟩=some (.slice a7 A d7):=fun W hW=>hG _ _ _ W (by omega) hbl7 (hx.cell 1 2 rfl rfl) hW
 have u0:∀W,AgreeF (fun x=>x≠w.heap.size+1) wc W→W.cell? ⟨w4.heap.size+1,0,none⟩=some (.int .i64 0):=fun W hW=>hG _ _ _ W (by omega) hbl8 (hx.cell 0 0 rfl rfl) hW
 have u1:∀W,AgreeF (fun x=>x≠w.heap.size+1) wc W→W.cell? ⟨w4.heap.size+1,1,none⟩=some (.bool kl):=fun W hW=>hG _ _ _ W (by omega) hbl8 (hx.cell 0 1 rfl rfl) hW
 have u2:∀W,AgreeF (fun x=>x≠w.heap.size+1) wc W→W.cell? ⟨w4.heap.size+1,2,none⟩=some (.slice (some ⟨g,0,none⟩) M d8):=fun W hW=>hG _ _ _ W (by omega) hbl8 (hx.cell 0 2 rfl rfl) hW
 have HX:=Hd (hx.sub (m:=[(w.heap.size+1,[.int .i64 0,.bool false,.slice none 0 0])]) (by simp));have HBW:=Hd hbw;have HSP:=Hd hsp;have hwz:=hbw.size;have hA00:AgreeF (fun x=>x≠w.heap.size+1) wc wc.drew:=agr _;clear hx c8 c7 hbw q1 q2 q3 q4 q5 nA nB hsp hcm hkey hG d0 p1 p2 hml;go_upto_region 12 with(fail)
 refine wp_region_noPanic ?_;refine wp_region_held_drew (S:=(fun W=>AgreeF (fun x=>x≠w.heap.size+1) wc W)) (by kernel_rfl) (by(repeat (with_reducible first|assumption|exact agr _|apply agal|apply agdr|apply agst))) (fun hHeld=>?_);refine tks [0,1] ?_;refine tks [2,3] ?_;refine tks [4,5] ?_;refine tks [6,7] ?_;refine tks [8,9] ?_;refine tks [12,13] ?_;refine rdy2 10 14 (fun K hK=>?_) (fun K hK=>?_)
 ·(rw[if_pos (by rfl)];go_wp2_with (fail))
  refine bkR hK (fun hHeld=>?_);clear hK K;refine tks [11] ?_;refine rdy 14 (fun K hK=>?_)
  (rw[if_pos (by rfl)];go_wp2_with (fail))
  refine bkR hK (fun hHeld=>?_);clear hK K;refine tks [15] ?_;refine rdy 16 (fun K hK=>?_)
  (rw[if_pos (by rfl)];go_wp2_with (fail))
  refine bkR hK (fun hHeld=>?_);clear hK K;refine rdy 17 (fun K hK=>?_)
  (rw[if_pos (by rfl)];go_simp;(with_reducible refine(CW _ ?ra1 ?rb1 _ ?hb1 ?r11 ?r21 ?hA1 ?hB1 ?hz1).mono ?fin1);(case hz1=>((repeat (with_reducible first|assumption|exact BoxAt.here3|exact BoxAt.here2|exact BoxAt.here|apply BoxAt.dr|apply BoxAt.al));done));(case hA1=>((repeat (with_reducible first|assumption|exact BoxAt.here3|exact BoxAt.here2|exact BoxAt.here|apply BoxAt.dr|apply BoxAt.al));done));(case hB1=>((repeat (with_reducible first|assumption|exact BoxAt.here3|exact BoxAt.here2|exact BoxAt.here|apply BoxAt.dr|apply BoxAt.al));done));(case hb1=>(repeat (with_reducible first|assumption|exact Below.refl _ _|apply Below.al|apply Below.dr)));(case r11=>(with_reducible first|exact Nat.le_refl _|(simp only[World.heap_alloc_size,World.heap_drew];omega)|omega));(case r21=>(with_reducible first|exact Nat.le_refl _|(simp only[World.heap_alloc_size,World.heap_drew];omega)|omega));rintro e w13 ⟨a13,d13,rfl,n13,hb13⟩;have hA13:AgreeF (fun x=>x≠w.heap.size+1) wc w13:=AgreeF.of_below hb13;have hx13:=HX.out.step hb13;have z0:=hx13.cell 0 0 rfl rfl;have z1:=hx13.cell 0 1 rfl rfl;have z2:=hx13.cell 0 2 rfl rfl;have y0:=hx13.frozen 0 0 rfl;have y1:=hx13.frozen 0 1 rfl;have y2:=hx13.frozen 0 2 rfl;go_wp2_with (fail))
  exact q7e447e
 ·(rw[if_pos (by rfl)];go_wp2_with (fail))
  refine bkR hK (fun hHeld=>?_);clear hK K;refine tks [15] ?_;refine rdy 10 (fun K hK=>?_)
  (rw[if_pos (by rfl)];go_wp2_with (fail))
  refine bkR hK (fun hHeld=>?_);clear hK K;refine tks [11] ?_;refine rdy 16 (fun K hK=>?_)
  (rw[if_pos (by rfl)];go_wp2_with (fail))
  refine bkR hK (fun hHeld=>?_);clear hK K;refine rdy 17 (fun K hK=>?_)
  (rw[if_pos (by rfl)];go_simp;(with_reducible refine(CW _ ?ra2 ?rb2 _ ?hb2 ?r12 ?r22 ?hA2 ?hB2 ?hz2).mono ?fin2);(case hz2=>((repeat (with_reducible first|assumption|exact BoxAt.here3|exact BoxAt.here2|exact BoxAt.here|apply BoxAt.dr|apply BoxAt.al));done));(case hA2=>((repeat (with_reducible first|assumption|exact BoxAt.here3|exact BoxAt.here2|exact BoxAt.here|apply BoxAt.dr|apply BoxAt.al));done));(case hB2=>((repeat (with_reducible first|assumption|exact BoxAt.here3|exact BoxAt.here2|exact BoxAt.here|apply BoxAt.dr|apply BoxAt.al));done));(case hb2=>(repeat (with_reducible first|assumption|exact Below.refl _ _|apply Below.al|apply Below.dr)));(case r12=>(with_reducible first|exact Nat.le_refl _|(simp only[World.heap_alloc_size,World.heap_drew];omega)|omega));(case r22=>(with_reducible first|exact Nat.le_refl _|(simp only[World.heap_alloc_size,World.heap_drew];omega)|omega));rintro e w13 ⟨a13,d13,rfl,n13,hb13⟩;have hA13:AgreeF (fun x=>x≠w.heap.size+1) wc w13:=AgreeF.of_below hb13;have hx13:=HX.out.step hb13;have z0:=hx13.cell 0 0 rfl rfl;have z1:=hx13.cell 0 1 rfl rfl;have z2:=hx13.cell 0 2 rfl rfl;have y0:=hx13.frozen 0 0 rfl;have y1:=hx13.frozen 0 1 rfl;have y2:=hx13.frozen 0 2 rfl;go_wp2_with (fail))
  exact q7e447e):p:=h
theorem q873d2b (h:p:=by
 obtain⟨W2,hW2⟩:∃x,(w.alloc (.cells #[.int .i64 p,.bool false,.slice (some ⟨b,off,none⟩) m c] 27)).alloc (.cells #[.int .i64 0,.bool false,.slice none 0 0] 27)=x:=⟨_,rfl⟩
 have hb2:Below w.heap.size w W2:=by rw[←hW2];exact Below.al (Below.al (Below.refl _ _))
 have hx2:Boxes W2 [(w.heap.size+1,[.int .i64 0,.bool false,.slice none 0 0]),(w.heap.size,[.int .i64 p,.bool false,.slice (some ⟨b,off,none⟩) m c])]:=by
  rw[←hW2];exact((Boxes.nil w).alloc #[.int .i64 p,.bool false,.slice (some ⟨b,off,none⟩) m c] 27 (b:=w.heap.size) rfl).alloc #[.int .i64 0,.bool false,.slice none 0 0] 27 (b:=w.heap.size+1) (by simp)
 have hsz2:W2.heap.size=w.heap.size+2:=by rw[←hW2];simp
 first|exact Mk.go 890736 zm q6924f0|exact Mk.go 755974 zm q489206|exact Mk.go 603792 zm qfd5a90):p:=h
theorem qb55cb3 (h:p:=by
 clear zm;have hxr:Boxes w3 [(w.heap.size+1,[.string ⟨#[]⟩,.string ⟨#[]⟩,.bool false,.int .i64 0,.int .i64 0])]:=hx4.sub (by intro q hq;simp at hq ⊢;subst hq;exact .inr (.inl rfl));obtain⟨we,hwe⟩:∃x,x=set5 w3 (w.heap.size+1) (.string (strOf key)) (.string (strOf d)) (.bool false) (.int .i64 0) (.int .i64 0):=⟨_,rfl⟩
 have hxe:=set5_box (l:=[]) hxr (by intro q hq;simp at hq) (.string (strOf key)) (.string (strOf d)) (.bool false) (.int .i64 0) (.int .i64 0);rw[←hwe] at hxe;have z0:=hxe.cell 0 0 rfl rfl;have z1:=hxe.cell 0 1 rfl rfl;have z2:=hxe.cell 0 2 rfl rfl;have z3:=hxe.cell 0 3 rfl rfl;have z4:=hxe.cell 0 4 rfl rfl;have hbe:Below w.heap.size w we:=by
  rw[hwe];exact set5_below (hb4) (Nat.le_succ _) _ _ _ _ _
 have HBE:=Hd hbe;have HW3:=Hd hw3;have HW4:=Hd hw4;clear hbe hxe hxr hx4 hx3 hx2 hb2 hb23 hb3 hb4 hw3 hw4;go_enter Tryz.func133,Tryz.ntmps133;go_upto_region 2 with(fail)
 rw[←HW3.out];go_wp2_with fail;change bodyPost Tryz.prog _ _ _ _ (set5 w3 (w.heap.size+1) (.string (strOf key)) (.string (strOf d)) (.bool false) (.int .i64 0) (.int .i64 0));rw[←hwe];refine bodyPost_ret (v:=.agg #[.string (strOf key),.string (strOf d),.bool false,.int .i64 0,.int .i64 0]) (by simp[results,Tryz.results133,go_sem,z0,z1,z2,z3,z4]) rfl ?_;exact⟨rfl,HBE.out⟩):p:=h
theorem qd8846e (h:p:=by
 clear zm;have hxr:Boxes w4 [(w.heap.size+1,[.string ⟨#[]⟩,.string ⟨#[]⟩,.bool false,.int .i64 0,.int .i64 0])]:=hx4.sub (by intro q hq;simp at hq ⊢;subst hq;exact .inr (.inl rfl));obtain⟨we,hwe⟩:∃x,x=set5 w4.drew (w.heap.size+1) (.string (strOf key)) (.string (strOf [])) (.bool true) (.int .i64 (d.length:Int)) (.int .i64 ph):=⟨_,rfl⟩
 have hxe:=set5_box (l:=[]) (show Boxes w4.drew _ from hxr) (by intro q hq;simp at hq) (.string (strOf key)) (.string (strOf [])) (.bool true) (.int .i64 (d.length:Int)) (.int .i64 ph);rw[←hwe] at hxe;have z0:=hxe.cell 0 0 rfl rfl;have z1:=hxe.cell 0 1 rfl rfl;have z2:=hxe.cell 0 2 rfl rfl;have z3:=hxe.cell 0 3 rfl rfl;have z4:=hxe.cell 0 4 rfl rfl;have hbe:Below w.heap.size w we:=by
  rw[hwe];exact set5_below (Below.dr hb4) (Nat.le_succ _) _ _ _ _ _
 have HBE:=Hd hbe;have HW3:=Hd hw3;have HW4:=Hd hw4;clear hbe hxe hxr hx4 hx3 hx2 hb2 hb23 hb3 hb4 hw3 hw4 hp hc;go_enter Tryz.func133,Tryz.ntmps133;go_upto_region 2 with(fail)
 rw[←HW3.out];go_wp2_with fail
 go_region
 all_goals (
  rw[←HW4.out];go_wp2_with fail;change bodyPost Tryz.prog _ _ _ _ (set5 w4.drew (w.heap.size+1) (.string (strOf key)) (.string (strOf [])) (.bool true) (.int .i64 (d.length:Int)) (.int .i64 ph));rw[←hwe];refine bodyPost_ret (v:=.agg #[.string (strOf key),.string (strOf []),.bool true,.int .i64 (d.length:Int),.int .i64 ph]) (by simp[results,Tryz.results133,go_sem,z0,z1,z2,z3,z4]) rfl ?_;exact⟨rfl,HBE.out⟩)):p:=h
theorem q914b55 (h:p:=by
 clear zm;have hxr:Boxes w4 [(w.heap.size+1,[.string ⟨#[]⟩,.string ⟨#[]⟩,.bool false,.int .i64 0,.int .i64 0])]:=hx4.sub (by intro q hq;simp at hq ⊢;subst hq;exact .inr (.inl rfl));obtain⟨we,hwe⟩:∃x,x=set5 w4 (w.heap.size+1) (.string (strOf key)) (.string (strOf [])) (.bool false) (.int .i64 0) (.int .i64 page):=⟨_,rfl⟩
 have hxe:=set5_box (l:=[]) hxr (by intro q hq;simp at hq) (.string (strOf key)) (.string (strOf [])) (.bool false) (.int .i64 0) (.int .i64 page);rw[←hwe] at hxe;have z0:=hxe.cell 0 0 rfl rfl;have z1:=hxe.cell 0 1 rfl rfl;have z2:=hxe.cell 0 2 rfl rfl;have z3:=hxe.cell 0 3 rfl rfl;have z4:=hxe.cell 0 4 rfl rfl;have hbe:Below w.heap.size w we:=by
  rw[hwe];exact set5_below (hb4) (Nat.le_succ _) _ _ _ _ _
 have HBE:=Hd hbe;have HW3:=Hd hw3;have HW4:=Hd hw4;clear hbe hxe hxr hx4 hx3 hx2 hb2 hb23 hb3 hb4 hw3 hw4 hk;go_enter Tryz.func133,Tryz.ntmps133;go_upto_region 2 with(fail)
 rw[←HW3.out];go_upto_region 6 with(fail)
 rw[←HW4.out];go_wp2_with fail;change bodyPost Tryz.prog _ _ _ _ (set5 w4 (w.heap.size+1) (.string (strOf key)) (.string (strOf [])) (.bool false) (.int .i64 0) (.int .i64 page));rw[←hwe];refine bodyPost_ret (v:=.agg #[.string (strOf key),.string (strOf []),.bool false,.int .i64 0,.int .i64 page]) (by simp[results,Tryz.results133,go_sem,z0,z1,z2,z3,z4]) rfl ?_;exact⟨rfl,HBE.out⟩):p:=h
theorem q2af6ff (h:p:=by
 have n0:=hx4.cell 0 0 rfl rfl;have n1:=hx4.cell 0 1 rfl rfl;have n2:=hx4.cell 0 2 rfl rfl;have n3:=hx4.cell 0 3 rfl rfl;have n4:=hx4.cell 0 4 rfl rfl;have m0:=hx4.cell 1 0 rfl rfl;have m1:=hx4.cell 1 1 rfl rfl;have m2:=hx4.cell 1 2 rfl rfl;have m3:=hx4.cell 1 3 rfl rfl;have m4:=hx4.cell 1 4 rfl rfl;have u0:=hx4.frozen 1 0 rfl;have u1:=hx4.frozen 1 1 rfl;have u2:=hx4.frozen 1 2 rfl;have u3:=hx4.frozen 1 3 rfl;have u4:=hx4.frozen 1 4 rfl;have e0:=hx3.cell 0 1 rfl rfl;have e1:=hx3.cell 0 2 rfl rfl;have e2:=hx3.cell 0 3 rfl rfl;have e3:=hx3.cell 0 4 rfl rfl;have t0:=hx3.frozen 0 1 rfl;have t1:=hx3.frozen 0 2 rfl;have t2:=hx3.frozen 0 3 rfl;have t3:=hx3.frozen 0 4 rfl
 first|exact Mk.go 885747 zm qb55cb3|exact Mk.go 189678 zm qd8846e|exact Mk.go 522005 zm q914b55):p:=h
theorem qc7d50c (h:p:=by
 clear zm;have hde:decE false c=if tDone (tNum (tText ⟨c,0⟩).2 2).2=0 then some ⟨(tText ⟨c,0⟩).1,[],false,0,((tNum (tText ⟨c,0⟩).2 2).1:Int)⟩ else none:=by
  rw[decE,decV,if_neg (by decide)];split<;>rfl
 have hl1:(tText ⟨c,0⟩).2.l.length≤1000000:=Nat.le_trans (tText_len ⟨c,0⟩) hl;have TT:=fun t W (h:Rt W t ⟨c,0⟩)=>rText_any t ⟨c,0⟩ W h (Nat.le_trans hl (by decide))
 generalize (tText ⟨c,0⟩).1=key at *;generalize (tText ⟨c,0⟩).2=s1 at *;have TN:=fun t W (h:Rt W t s1)=>rNum_any t s1 2 W h (Nat.le_trans hl1 (by decide))
 have hn2:(tNum s1 2).1<65536:=tNum_lt s1 2;generalize (tNum s1 2).1=n at *;generalize (tNum s1 2).2=s2 at *;have TD:=fun t W (h:Rt W t s2)=>rDone_any t s2 W h
 generalize tDone s2=d at *;have hn3:((n:Nat):Int)<65536:=by omega
 have HDE:=Hd hde;clear hde hl1 hn2;generalize decE false c=o at *;go_enter Tryz.func147,Tryz.ntmps147;go_wp2_with fail;refine(TT _ _ HR).mono ?_;rintro e w3 ⟨rfl,hg3,hr3⟩;have hb3:=below_take hB (by omega) hg3;have BX:=BX.grown hg3 (fun p hp=>by simp at hp;subst hp;simp);go_wp2_with fail;have BX:=BX.alloc #[.string (strOf key),.string ⟨#[]⟩,.bool false,.int .i64 0,.int .i64 0] 226 rfl;have hb3':=below_one w3 (.cells #[.string (strOf key),.string ⟨#[]⟩,.bool false,.int .i64 0,.int .i64 0] 226);have hr3:=hr3.below (Nat.le_refl _) hb3';have hlt3:=hr3.lt;have hz3:=hb3.size;have hlt1:w.heap.size+1<w3.heap.size:=by have:=hg3.size;simp at this;omega
 refine(TN _ _ hr3).mono ?_;rintro e w4 ⟨rfl,hg4,hr4⟩;have hb4:=below_take (below_then hb3 hb3') (by omega) hg4;have BX:=BX.grown hg4 (fun p hp=>by simp at hp;rcases hp with rfl|rfl<;>simp<;>omega);have g4:=BX.cell 0 4 rfl rfl;have f4:=BX.frozen 0 4 rfl;go_wp2_with fail;have BY:=BX.put 4 (.int .i64 (n:Int)) (fun p hp=>by simp at hp;subst hp;simp;omega);have hr5:=hr4.boxed (grown_setCell w4 ⟨w3.heap.size,4,none⟩ (.int .i64 (n:Int))) (show w.heap.size+1≠w3.heap.size by omega);have hb5:=hb4.setCell (p:=⟨w3.heap.size,4,none⟩) (by simp;omega) (.int .i64 (n:Int));generalize w4.setCell ⟨w3.heap.size,4,none⟩ (.int .i64 (n:Int))=w5 at *;clear g4 f4 BX hr4 hb4 hg4 hr3 hb3' hg3 hB HR;simp only[List.set_cons_succ,List.set_cons_zero] at BY;have e0:=BY.cell 0 0 rfl rfl;have e1:=BY.cell 0 1 rfl rfl;have e2:=BY.cell 0 2 rfl rfl;have e3:=BY.cell 0 3 rfl rfl;have e4:=BY.cell 0 4 rfl rfl;have r0:=BY.cell 1 0 rfl rfl;have r1:=BY.cell 1 1 rfl rfl;have r2:=BY.cell 1 2 rfl rfl;have r3:=BY.cell 1 3 rfl rfl;have r4:=BY.cell 1 4 rfl rfl;have q0:=BY.frozen 1 0 rfl;have q1:=BY.frozen 1 1 rfl;have q2:=BY.frozen 1 2 rfl;have q3:=BY.frozen 1 3 rfl;have q4:=BY.frozen 1 4 rfl;have hr6:Rt w5.drew (w.heap.size+1) s2:=hr5;have TD6:=TD _ _ hr6
 go_region_with (go_at_call 62;(with_reducible refine TD6.mono ?_);rintro e w6 ⟨rfl,rfl⟩)
 all_goals
  go_wp2_with fail;obtain⟨w9,hw9,BZ,hb9⟩:=box_five (w:=w5) (b:=w.heap.size) (BY.sub (m:=[(w.heap.size,[.string ⟨#[]⟩,.string ⟨#[]⟩,.bool false,.int .i64 0,.int .i64 0])]) (by simp)) hb5 (Nat.le_refl _) (.string (strOf key)) (.string ⟨#[]⟩) (.bool false) (.int .i64 0) (.int .i64 (n:Int));rw[←hw9];clear hw9;have z0:=BZ.cell 0 0 rfl rfl;have z1:=BZ.cell 0 1 rfl rfl;have z2:=BZ.cell 0 2 rfl rfl;have z3:=BZ.cell 0 3 rfl rfl;have z4:=BZ.cell 0 4 rfl rfl;refine bodyPost_ret (v:=.tuple #[ev ⟨key,[],false,0,(n:Int)⟩,.bool (d == 0)]) (by simp[results,Tryz.results147,go_sem,ev,strOf,z0,z1,z2,z3,z4]) rfl ⟨_,_,rfl,?_,?_⟩
  ·rw[HDE.out];by_cases hd:d=0
   ·rw[if_pos hd];exact⟨by simpa using hd,rfl⟩
   ·rw[if_neg hd];show(d == 0)=false;simpa using hd
  ·exact hb9.drew):p:=h
theorem qe8622b (h:p:=by
 clear zm;have hde:decE true c=if tDone (tNum (tNum (tNum (tText ⟨c,0⟩).2 1).2 2).2 2).2=0 then some ⟨(tText ⟨c,0⟩).1,[],true,((tNum (tNum (tText ⟨c,0⟩).2 1).2 2).1:Int),((tNum (tNum (tNum (tText ⟨c,0⟩).2 1).2 2).2 2).1:Int)⟩ else none:=by
  rw[decE,decV_leaf,if_neg (by rw[h1];decide),if_pos h1];split<;>rfl
 have hl1:(tText ⟨c,0⟩).2.l.length≤1000000:=Nat.le_trans (tText_len ⟨c,0⟩) hl;have TT:=fun t W (h:Rt W t ⟨c,0⟩)=>rText_any t ⟨c,0⟩ W h (Nat.le_trans hl (by decide))
 generalize (tText ⟨c,0⟩).1=key at *;generalize (tText ⟨c,0⟩).2=s1 at *;have TN:=fun t W (h:Rt W t s1)=>rNum_any t s1 1 W h (Nat.le_trans hl1 (by decide))
 have hl2:=Nat.le_trans (tNum_len s1 1) hl1;rw[h1] at TN;generalize (tNum s1 1).2=s2 at *;have TN2:=fun t W (h:Rt W t s2)=>rNum_any t s2 2 W h (Nat.le_trans hl2 (by decide))
 have hl3:=Nat.le_trans (tNum_len s2 2) hl2;have hn2:(tNum s2 2).1<65536:=tNum_lt s2 2;generalize (tNum s2 2).1=n2 at *;generalize (tNum s2 2).2=s3 at *;have TN3:=fun t W (h:Rt W t s3)=>rNum_any t s3 2 W h (Nat.le_trans hl3 (by decide))
 have hn3:(tNum s3 2).1<65536:=tNum_lt s3 2;generalize (tNum s3 2).1=n3 at *;generalize (tNum s3 2).2=s4 at *;have TD:=fun t W (h:Rt W t s4)=>rDone_any t s4 W h
 generalize tDone s4=d at *;have hc2:((n2:Nat):Int)<65536:=by omega
 have hc3:((n3:Nat):Int)<65536:=by omega
 have HDE:=Hd hde;clear hde hl1 hl2 hl3 hn2 hn3 h1;generalize decE true c=o at *;go_enter Tryz.func147,Tryz.ntmps147;go_wp2_with fail;refine(TT _ _ HR).mono ?_;rintro e w3 ⟨rfl,hg3,hr3⟩;have hb3:=below_take hB (by omega) hg3;have BX:=BX.grown hg3 (fun p hp=>by simp at hp;subst hp;simp);have BX:=BX.alloc #[.string (strOf key),.string ⟨#[]⟩,.bool false,.int .i64 0,.int .i64 0] 226 rfl;have hb3':=below_one w3 (.cells #[.string (strOf key),.string ⟨#[]⟩,.bool false,.int .i64 0,.int .i64 0] 226);go_wp2_with fail;have hr3:=hr3.below (Nat.le_refl _) hb3';have hlt3:=hr3.lt;have hz3:=hb3.size;have hlt1:w.heap.size+1<w3.heap.size:=by have:=hg3.size;simp at this;omega
 have hne:∀(vs us:List Value),∀p∈[(w3.heap.size,vs),(w.heap.size,us)],(some (w.heap.size+1):Option Nat)≠some p.1:=by intro vs us p hp;simp at hp;rcases hp with rfl|rfl<;>simp<;>omega
 have HNE:=Hd hne;clear hne;have hb3:=below_then hb3 hb3';refine(TN _ _ hr3).mono ?_;rintro e w4 ⟨rfl,hg4,hr4⟩;have hb4:=below_take hb3 (by omega) hg4;have BX:=BX.grown hg4 (HNE.out _ _);have g2:=BX.cell 0 2 rfl rfl;have f2:=BX.frozen 0 2 rfl;have BX:=BX.put 2 (.bool true) (fun p hp=>by simp at hp;subst hp;simp;omega);have hr4:=hr4.boxed (grown_setCell w4 ⟨w3.heap.size,2,none⟩ (.bool true)) (show w.heap.size+1≠w3.heap.size by omega);have hb4:=hb4.setCell (p:=⟨w3.heap.size,2,none⟩) (by simp;omega) (.bool true);go_wp2_with fail;generalize w4.setCell ⟨w3.heap.size,2,none⟩ (.bool true)=w5 at *;clear g2 f2;refine(TN2 _ _ hr4).mono ?_;rintro e w6 ⟨rfl,hg6,hr6⟩;have hb6:=below_take hb4 (by omega) hg6;have BX:=BX.grown hg6 (HNE.out _ _);have g2:=BX.cell 0 3 rfl rfl;have f2:=BX.frozen 0 3 rfl;have BX:=BX.put 3 (.int .i64 (n2:Int)) (fun p hp=>by simp at hp;subst hp;simp;omega);have hr6:=hr6.boxed (grown_setCell w6 ⟨w3.heap.size,3,none⟩ (.int .i64 (n2:Int))) (show w.heap.size+1≠w3.heap.size by omega);have hb6:=hb6.setCell (p:=⟨w3.heap.size,3,none⟩) (by simp;omega) (.int .i64 (n2:Int));go_wp2_with fail;generalize w6.setCell ⟨w3.heap.size,3,none⟩ (.int .i64 (n2:Int))=w7 at *;clear g2 f2;refine(TN3 _ _ hr6).mono ?_;rintro e w8 ⟨rfl,hg8,hr8⟩;have hb8:=below_take hb6 (by omega) hg8;have BX:=BX.grown hg8 (HNE.out _ _);have g2:=BX.cell 0 4 rfl rfl;have f2:=BX.frozen 0 4 rfl;have BY:=BX.put 4 (.int .i64 (n3:Int)) (fun p hp=>by simp at hp;subst hp;simp;omega);have hr5:=hr8.boxed (grown_setCell w8 ⟨w3.heap.size,4,none⟩ (.int .i64 (n3:Int))) (show w.heap.size+1≠w3.heap.size by omega);have hb5:=hb8.setCell (p:=⟨w3.heap.size,4,none⟩) (by simp;omega) (.int .i64 (n3:Int));go_wp2_with fail;clear BX hr8 hb8 hg8 g2 f2 hr6 hb6 hg6 hr4 hb4 hg4 hr3 hb3 hb3' hg3 hB HR;generalize w8.setCell ⟨w3.heap.size,4,none⟩ (.int .i64 (n3:Int))=w5 at *;simp only[List.set_cons_succ,List.set_cons_zero] at BY;have e0:=BY.cell 0 0 rfl rfl;have e1:=BY.cell 0 1 rfl rfl;have e2:=BY.cell 0 2 rfl rfl;have e3:=BY.cell 0 3 rfl rfl;have e4:=BY.cell 0 4 rfl rfl;have r0:=BY.cell 1 0 rfl rfl;have r1:=BY.cell 1 1 rfl rfl;have r2:=BY.cell 1 2 rfl rfl;have r3:=BY.cell 1 3 rfl rfl;have r4:=BY.cell 1 4 rfl rfl;have q0:=BY.frozen 1 0 rfl;have q1:=BY.frozen 1 1 rfl;have q2:=BY.frozen 1 2 rfl;have q3:=BY.frozen 1 3 rfl;have q4:=BY.frozen 1 4 rfl;have hr6:Rt w5.drew (w.heap.size+1) s4:=hr5;have TD6:=TD _ _ hr6
 go_region_with (go_at_call 62;(with_reducible refine TD6.mono ?_);rintro e w6 ⟨rfl,rfl⟩)
 all_goals
  go_wp2_with fail;obtain⟨w9,hw9,BZ,hb9⟩:=box_five (w:=w5) (b:=w.heap.size) (BY.sub (m:=[(w.heap.size,[.string ⟨#[]⟩,.string ⟨#[]⟩,.bool false,.int .i64 0,.int .i64 0])]) (by simp)) hb5 (Nat.le_refl _) (.string (strOf key)) (.string ⟨#[]⟩) (.bool true) (.int .i64 (n2:Int)) (.int .i64 (n3:Int));rw[←hw9];clear hw9;have z0:=BZ.cell 0 0 rfl rfl;have z1:=BZ.cell 0 1 rfl rfl;have z2:=BZ.cell 0 2 rfl rfl;have z3:=BZ.cell 0 3 rfl rfl;have z4:=BZ.cell 0 4 rfl rfl;refine bodyPost_ret (v:=.tuple #[ev ⟨key,[],true,(n2:Int),(n3:Int)⟩,.bool (d == 0)]) (by simp[results,Tryz.results147,go_sem,ev,strOf,z0,z1,z2,z3,z4]) rfl ⟨_,_,rfl,?_,hb9.drew⟩;rw[HDE.out];by_cases hd:d=0
  ·rw[if_pos hd];exact⟨by simpa using hd,rfl⟩
  ·rw[if_neg hd];show(d == 0)=false;simpa using hd):p:=h
theorem qced687 (h:p:=by
 clear zm;have hde:decE true c=if (tNum (tText ⟨c,0⟩).2 1).1=0∧(tRest (tNum (tText ⟨c,0⟩).2 1).2).2.e=0 then some ⟨(tText ⟨c,0⟩).1,(tRest (tNum (tText ⟨c,0⟩).2 1).2).1,false,0,0⟩ else none:=by
  rw[decE,decV_leaf]
  by_cases h0:(tNum (tText ⟨c,0⟩).2 1).1=0
  ·rw[if_pos h0,tDone_rest];simp only[h0,true_and];split<;>rfl
  ·rw[if_neg h0,if_neg h1,if_neg (fun h=>h0 h.1)];rfl
 have hl1:(tText ⟨c,0⟩).2.l.length≤1000000:=Nat.le_trans (tText_len ⟨c,0⟩) hl;have TT:=fun t W (h:Rt W t ⟨c,0⟩)=>rText_any t ⟨c,0⟩ W h (Nat.le_trans hl (by decide))
 generalize (tText ⟨c,0⟩).1=key at *;generalize (tText ⟨c,0⟩).2=s1 at *;have TN:=fun t W (h:Rt W t s1)=>rNum_any t s1 1 W h (Nat.le_trans hl1 (by decide))
 have hl2:=Nat.le_trans (tNum_len s1 1) hl1;have hk:(tNum s1 1).1<256:=tNum_lt s1 1;generalize (tNum s1 1).1=k1 at *;generalize (tNum s1 1).2=s2 at *;have TR:=fun t W (h:Rt W t s2)=>rRest_any t s2 W h (Nat.le_trans hl2 (by decide))
 generalize (tRest s2).1=r at *;generalize (tRest s2).2=s3 at *;have hk1:((k1:Nat):Int)<256:=by omega
 have q1:((k1:Int) == 1)=false:=by simp;omega
 have HDE:=Hd hde;clear hde hl1 hl2 h1 hk;generalize decE true c=o at *;go_enter Tryz.func147,Tryz.ntmps147;go_wp2_with fail;refine(TT _ _ HR).mono ?_;rintro e w3 ⟨rfl,hg3,hr3⟩;have hb3:=below_take hB (by omega) hg3;have BX:=BX.grown hg3 (fun p hp=>by simp at hp;subst hp;simp);have BX:=BX.alloc #[.string (strOf key),.string ⟨#[]⟩,.bool false,.int .i64 0,.int .i64 0] 226 rfl;have hb3':=below_one w3 (.cells #[.string (strOf key),.string ⟨#[]⟩,.bool false,.int .i64 0,.int .i64 0] 226);go_wp2_with fail;have hr3:=hr3.below (Nat.le_refl _) hb3';have hlt3:=hr3.lt;have hz3:=hb3.size;have hlt1:w.heap.size+1<w3.heap.size:=by have:=hg3.size;simp at this;omega
 have hne:∀(vs us:List Value),∀p∈[(w3.heap.size,vs),(w.heap.size,us)],(some (w.heap.size+1):Option Nat)≠some p.1:=by intro vs us p hp;simp at hp;rcases hp with rfl|rfl<;>simp<;>omega
 have HNE:=Hd hne;clear hne;have hb3:=below_then hb3 hb3';refine(TN _ _ hr3).mono ?_;rintro e w4 ⟨rfl,hg4,hr4⟩;have hb4:=below_take hb3 (by omega) hg4;have BX:=BX.grown hg4 (HNE.out _ _);go_wp2_with fail;refine(TR _ _ hr4).mono ?_;rintro e w6 ⟨rfl,hg6,hr6⟩;have hb6:=below_take hb4 (by omega) hg6;have BX:=BX.grown hg6 (HNE.out _ _);have g2:=BX.cell 0 1 rfl rfl;have f2:=BX.frozen 0 1 rfl;have BY:=BX.put 1 (.string (strOf r)) (fun p hp=>by simp at hp;subst hp;simp;omega);have hr5:=hr6.boxed (grown_setCell w6 ⟨w3.heap.size,1,none⟩ (.string (strOf r))) (show w.heap.size+1≠w3.heap.size by omega);have hb5:=hb6.setCell (p:=⟨w3.heap.size,1,none⟩) (by simp;omega) (.string (strOf r));go_wp2_with fail;clear BX g2 f2 hr6 hb6 hg6 hr4 hb4 hg4 hr3 hb3 hb3' hg3 hB HR;generalize w6.setCell ⟨w3.heap.size,1,none⟩ (.string (strOf r))=w5 at *;simp only[List.set_cons_succ,List.set_cons_zero] at BY;have e0:=BY.cell 0 0 rfl rfl;have e1:=BY.cell 0 1 rfl rfl;have e2:=BY.cell 0 2 rfl rfl;have e3:=BY.cell 0 3 rfl rfl;have e4:=BY.cell 0 4 rfl rfl;have r0:=BY.cell 1 0 rfl rfl;have r1:=BY.cell 1 1 rfl rfl;have r2:=BY.cell 1 2 rfl rfl;have r3:=BY.cell 1 3 rfl rfl;have r4:=BY.cell 1 4 rfl rfl;have q0:=BY.frozen 1 0 rfl;have q1:=BY.frozen 1 1 rfl;have q2:=BY.frozen 1 2 rfl;have q3:=BY.frozen 1 3 rfl;have q4:=BY.frozen 1 4 rfl;have t1:=hr5.err;generalize s3.e=er at *
 by_cases he:er=0
 ·subst he
  by_cases hk0:k1=0
  ·subst hk0
   go_region_with (fail)
   all_goals
    go_wp2_with fail;obtain⟨w9,hw9,BZ,hb9⟩:=box_five (w:=w5) (b:=w.heap.size) (BY.sub (m:=[(w.heap.size,[.string ⟨#[]⟩,.string ⟨#[]⟩,.bool false,.int .i64 0,.int .i64 0])]) (by simp)) hb5 (Nat.le_refl _) (.string (strOf key)) (.string (strOf r)) (.bool false) (.int .i64 0) (.int .i64 0);rw[←hw9];clear hw9;have z0:=BZ.cell 0 0 rfl rfl;have z1:=BZ.cell 0 1 rfl rfl;have z2:=BZ.cell 0 2 rfl rfl;have z3:=BZ.cell 0 3 rfl rfl;have z4:=BZ.cell 0 4 rfl rfl;refine bodyPost_ret (v:=.tuple #[ev ⟨key,r,false,0,0⟩,.bool true]) (by simp[results,Tryz.results147,go_sem,ev,strOf,z0,z1,z2,z3,z4]) rfl ⟨_,_,rfl,?_,hb9.drew⟩;rw[HDE.out,if_pos (by simp)];exact⟨rfl,rfl⟩
  ·have q0:((k1:Int) == 0)=false:=by simp;omega
   go_region_with (fail)
   all_goals
    go_wp2_with fail;obtain⟨w9,hw9,BZ,hb9⟩:=box_five (w:=w5) (b:=w.heap.size) (BY.sub (m:=[(w.heap.size,[.string ⟨#[]⟩,.string ⟨#[]⟩,.bool false,.int .i64 0,.int .i64 0])]) (by simp)) hb5 (Nat.le_refl _) (.string (strOf key)) (.string (strOf r)) (.bool false) (.int .i64 0) (.int .i64 0);rw[←hw9];clear hw9;have z0:=BZ.cell 0 0 rfl rfl;have z1:=BZ.cell 0 1 rfl rfl;have z2:=BZ.cell 0 2 rfl rfl;have z3:=BZ.cell 0 3 rfl rfl;have z4:=BZ.cell 0 4 rfl rfl;refine bodyPost_ret (v:=.tuple #[ev ⟨key,r,false,0,0⟩,.bool false]) (by simp[results,Tryz.results147,go_sem,ev,strOf,z0,z1,z2,z3,z4]) rfl ⟨_,_,rfl,?_,hb9.drew⟩;rw[HDE.out,if_neg (fun h=>hk0 h.1)];rfl
 ·have qe:(er == 0)=false:=by simpa using he
  have qr:∀W,(binOp .eql 32 (.int .i64 er) (.int .i64 0)).run Tryz.prog W=.ok (.bool false) W:=fun W=>by simp[go_sem,he]
  go_region
  all_goals
   go_wp2_with fail;obtain⟨w9,hw9,BZ,hb9⟩:=box_five (w:=w5) (b:=w.heap.size) (BY.sub (m:=[(w.heap.size,[.string ⟨#[]⟩,.string ⟨#[]⟩,.bool false,.int .i64 0,.int .i64 0])]) (by simp)) hb5 (Nat.le_refl _) (.string (strOf key)) (.string (strOf r)) (.bool false) (.int .i64 0) (.int .i64 0);rw[←hw9];clear hw9;have z0:=BZ.cell 0 0 rfl rfl;have z1:=BZ.cell 0 1 rfl rfl;have z2:=BZ.cell 0 2 rfl rfl;have z3:=BZ.cell 0 3 rfl rfl;have z4:=BZ.cell 0 4 rfl rfl;refine bodyPost_ret (v:=.tuple #[ev ⟨key,r,false,0,0⟩,.bool false]) (by simp[results,Tryz.results147,go_sem,ev,strOf,z0,z1,z2,z3,z4]) rfl ⟨_,_,rfl,?_,hb9.drew⟩;rw[HDE.out,if_neg (fun h=>he h.2)];rfl):p:=h
theorem q38a107 (h:p:=by
 have hB:=below_two' w (.cells #[.string ⟨#[]⟩,.string ⟨#[]⟩,.bool false,.int .i64 0,.int .i64 0] 226) (.cells #[.string (strOf c),.int .i64 0] 157);have BX:=(Boxes.nil w).alloc #[.string ⟨#[]⟩,.string ⟨#[]⟩,.bool false,.int .i64 0,.int .i64 0] 226 rfl;have HR:=Rt.new (w:=w.alloc (.cells #[.string ⟨#[]⟩,.string ⟨#[]⟩,.bool false,.int .i64 0,.int .i64 0] 226)) c;rw[show(w.alloc (.cells #[.string ⟨#[]⟩,.string ⟨#[]⟩,.bool false,.int .i64 0,.int .i64 0] 226)).heap.size=w.heap.size+1 from by simp] at HR;have BX:=BX.step (below_one _ (.cells #[.string (strOf c),.int .i64 0] 157))
 first|exact Mk.go 96204 zm qc7d50c|exact Mk.go 229483 zm qe8622b|exact Mk.go 555335 zm qced687):p:=h
theorem qeefabc (h:p:=by
 have f1:=BW.frozen 0 1 rfl;have e2:=BW.cell 0 1 rfl rfl;have hbw9:Below w3.heap.size w3 w9:=(below_then hbw7 hb8).grown hg9 (by simp;omega) (fun k e=>by have:=own_ge hown7 _ e;omega);have HB9:=Hd hbw9;have HO9:=Hd ho9;have HR9:=hr9;rw[show(w7.alloc (.cells #[.string (strOf x.data),.bool x.far,.int .i64 x.size,.int .i64 x.page] 209)).heap.size=w7.heap.size+1 from by simp] at HR9;clear hr9 hbw9 ho9 hk91 hk92 hk93
 go_wp2_with (at_builtin;refine wpList_append_run rfl _ _ _ _ rfl rfl rfl HR9 ?_)
 go_roundw
 case rel=>
  have hne9:Value.ownBlock (.slice a9 (es.length+1) k9)≠some w3.heap.size:=fun e=>by have:=own_ge HO9.out _ e;omega
  exact⟨k+1,_,_,by omega,by go_num,HDT2.out,BW.put 1 _ (fun p hp=>by simp at hp;subst hp;simp;omega),own_set HO9.out ⟨w3.heap.size,1,none⟩ (.slice a9 (es.length+1) k9) hne9,HB9.out.setCell (Nat.le_refl _) _⟩
 case measure=>simp[intOf];omega):p:=h
theorem q927b3c (h:p:=by
 clear zm;obtain⟨ad,had,hsl⟩:=slice_from elem_Cw size_Cw (some ⟨b,off,none⟩) m c i hi9;exact q8adeb7):p:=h
theorem qa25a98 (h:p:=by
 clear zm;obtain⟨ad,had,hsl⟩:=slice_from elem_Cw size_Cw a m c i hi9;exact q8adeb7):p:=h
theorem q358edb (h:p:=by
 have hi9:i≤m:=by omega
 have hcr:=HC.out;rw[if_neg (by simp),Nat.add_zero] at hcr;have hs3:=HS3.out;have hcl:=HCL.out;have hb3:=HB3.out;have TR:TabR 4 (RcOn F n W3) W3 _ m c (cellsR (.leaf p l)):=TabR.mono (TabR.below (Nat.le_refl _) hb3 HR.out) (fun _ _ hy=>RcOn.below hy hb3);have c0:CellsF 145 F n W3.heap.size W3 (.slice none 0 0) []:=CellsF.nil _ _ _ _ _;obtain⟨v1,w1,hr1,c1',hg1⟩:=c0.row Tryz.underlying25 info_Cw (Nat.le_refl _) HF3.out (by simp) (TabR.tk TR hi9) (by omega);rw[List.nil_append] at c1';have hb1:Below W3.heap.size W3 w1:=(Below.refl _ _).grown hg1 (Nat.le_refl _) (fun g hg=>by cases hg);have hx1:=HX3.out.step hb1;have hl1:((cellsR (.leaf p l)).take i).length=i:=by rw[List.length_take,hcl,Nat.min_eq_left hi9]
 obtain⟨v2,w2,hr2,c2',hg2⟩:=c1'.append Tryz.underlying25 info_Cw hb1.size HF3.out (by rw[hl1];omega) (RcOn.fresh F n w1 key d);have hb2:Below W3.heap.size W3 w2:=hb1.grown hg2 hb1.size (fun g hg=>(c1'.ge hg).1);have hl2:((cellsR (.leaf p l)).take i++[(⟨key,⟨d,[]⟩,none⟩:Rc)]).length=i+1:=by rw[List.length_append,hl1];rfl
 first|exact Mk.go 599804 zm q927b3c|exact Mk.go 640024 zm qa25a98):p:=h
theorem qf71784 (h:p:=by
 clear zm;obtain⟨NF,hNF⟩:∃z:Bool,(!F)=z:=⟨_,rfl⟩
 have HNF:=Hd hNF;obtain⟨X4,hX4⟩:∃z:Bool,(decide (k<lo))=z:=⟨_,rfl⟩
 have HX4:Hid ((X4=true∧Op.bytesLess (strOf k).toList (strOf lo).toList=true)∨(X4=false∧Op.bytesLess (strOf k).toList (strOf lo).toList=false)):=Hd (by
  exact q6568ee)
 obtain⟨Y4,hY4⟩:∃z:Bool,((NF && X4))=z:=⟨_,rfl⟩
 have HY4:=Hd hY4;obtain⟨A37,hA37⟩:∃z:Bool,((A27 || Y4))=z:=⟨_,rfl⟩
 have zm:=Mk.i 717795;exact qc3eb6e):p:=h
theorem q0b1f7f (h:p:=by
 clear zm;obtain⟨X4,hX4⟩:∃z:Bool,(decide (k<lo))=z:=⟨_,rfl⟩
 have HX4:Hid ((X4=true∧Op.bytesLess (strOf k).toList (strOf lo).toList=true)∨(X4=false∧Op.bytesLess (strOf k).toList (strOf lo).toList=false)):=Hd (by
  exact q6568ee)
 obtain⟨A37,hA37⟩:∃z:Bool,((A27 || X4))=z:=⟨_,rfl⟩
 have zm:=Mk.i 489666;exact qc3eb6e):p:=h
theorem q75019f (h:p:=by
 obtain⟨X3,hX3⟩:∃z:Bool,(!decide (kp<k))=z:=⟨_,rfl⟩
 have HX3:Hid ((X3=true∧k=kp∧Op.bytesLess (strOf k).toList (strOf k).toList=false∧((strOf k).toList == (strOf k).toList)=true)∨(X3=true∧Op.bytesLess (strOf k).toList (strOf kp).toList=true∧((strOf k).toList == (strOf kp).toList)=false∧Op.bytesLess (strOf kp).toList (strOf k).toList=false∧((strOf kp).toList == (strOf k).toList)=false)∨(X3=false∧Op.bytesLess (strOf k).toList (strOf kp).toList=false∧((strOf k).toList == (strOf kp).toList)=false∧¬(strOf k).toList=(strOf kp).toList∧¬(strOf kp).toList=(strOf k).toList)):=Hd (by
  rw[←hX3]
  rcases ktri kp k with h|h|h
  ·exact .inr (.inr ⟨by simp[h],(cmp_lt h).2.2.1,(cmp_lt h).2.2.2,(cmp_lt2 h).2,(cmp_lt2 h).1⟩)
  ·exact .inl ⟨by simp[h,klt_irrefl],h.symm,cmp_eq k⟩
  ·exact .inr (.inl ⟨by simp[klt_asymm h],cmp_lt h⟩))
 obtain⟨Y3,hY3⟩:∃z:Bool,((P && X3))=z:=⟨_,rfl⟩
 have HY3:=Hd hY3;obtain⟨A27,hA27⟩:∃z:Bool,((A11 || Y3))=z:=⟨_,rfl⟩
 have HA27:=Hd hA27
 first|exact Mk.go 193412 zm qf71784|exact Mk.go 728959 zm q0b1f7f):p:=h
theorem q4fa6d4 (h:p:=by
 clear zm;go_enter Tryz.func105,Tryz.ntmps105;go_wp2_with fail;refine(num1_any _ _ _ _ _ q1' h8).mono ?_;rintro e w2 ⟨rfl,rfl⟩;exact q11f35a):p:=h
theorem q71c559 (h:p:=by
 clear zm;go_enter Tryz.func107,Tryz.ntmps107;go_wp2_with fail;refine(text1_any _ _ _ _ _ q1' ).mono ?_;rintro e w2 ⟨rfl,rfl⟩;exact q11f35a):p:=h
theorem qb5bf01 (h:p:=by
 clear zm;go_enter Tryz.func208,Tryz.ntmps208;go_wp2_with fail;refine(clone_any _ _ _ _ _ q1' (by omega)).mono ?_;rintro e w2 ⟨v,rfl,hown,hb⟩;have hsz:(w.setCell ⟨t,0,none⟩ (.slice a2 (sl.length-n) (cap-n))).heap.size=w.heap.size:=by simp[World.setCell]
 rw[hsz] at hown;have hnew':=hnew.below (Nat.le_refl _) hb;have hgr':=grown_trans hgr (grown_below hb (some t));clear hb hnew hgr hsz
 go_wp2
 go_ret;exact⟨_,rfl,hown,hgr',hnew'⟩):p:=h
theorem q5e5f83 (h:p:=by
 rw[hts];clear hts;obtain⟨a2,ha2,hsl⟩:=slice_from elem_bytes size_bytes a sl.length cap n (by omega);have q1:=hbs.take n (by omega);have q2:=hbs.drop n (by omega);rw[←ha2] at q2;clear ha2;have hgr:=grown_setCell w ⟨t,0,none⟩ (.slice a2 (sl.length-n) (cap-n));have hnew:Tk (w.setCell ⟨t,0,none⟩ (.slice a2 (sl.length-n) (cap-n))) t ⟨sl.drop n,0⟩:=
  ⟨a2,cap-n,by rw[List.length_drop];exact heap_setCell_at 0 (.slice a2 (sl.length-n) (cap-n)) hblk,by rw[List.length_drop];exact q2.grown hgr (bs_ne hblk q2)⟩
 have q1':=q1.grown hgr (bs_ne hblk q1);clear hblk hbs hT q1 q2
 first|exact Mk.go 220052 zm q4fa6d4|exact Mk.go 456089 zm q71c559|exact Mk.go 910913 zm qb5bf01):p:=h
theorem qdf05d4 (h:p:=by
 refine bkw hK (by with_reducible assumption) (fun hHeld=>?_);clear hK K;refine tks [5,6,7] ?_;refine rdy 8 (fun K hK=>?_);rw[if_pos (by rfl)]
 go_wp2_with (first|(go_at_call 176;(with_reducible refine(CE _ hC7).mono ?_);rintro e1 w9 ⟨v9,rfl,ho9,hb9⟩;have hC9:=hC7.trans (hb9.mono hC7.size);obtain⟨a9,c9,rfl,hs9⟩:=ho9.bss))
 refine bkw hK (by with_reducible assumption) (fun hHeld=>?_);clear hK K;refine rdy 9 (fun K hK=>?_);rw[if_pos (by rfl)]
 go_wp2_with (first|(go_at_call 175;(with_reducible refine(CS _ _ _ _ rfl hs9).mono ?_);rintro e1 w10 ⟨rfl,rfl⟩))
 refine bkw hK (by with_reducible assumption) (fun hHeld=>?_);clear hK K;refine tks [10,11,12] ?_;refine wpAnyH_done (by kernel_rfl) ?_ _;refine NoPanic.normal ?_;have hb8:=below_then hbw hC9;go_wp2_with fail;go_ret;exact⟨ret_bool (by rw[HN.out,hg2,Bool.true_and];exact decide_eq_decide.2 (by omega)),hb8⟩):p:=h
theorem qd46cee (h:p:=by
 clear zm;have h1:=h1.below (Nat.le_refl _) hC4;clear c0 c1 hC hC4;have d1:=BX.cell 0 1 rfl rfl;go_wp2_with fail;clear d1;have hll:=Hd h1.len;have HI:=Hd hd;clear hd;have HB:=Hd hb;have BX3:=BX;clear BX hb
 go_loopw [4,15] (fun o i wr=>∃(k:Nat) (v:Value),k≤len∧i=.int .i64 k∧v=o∧OwnBss wr w.heap.size v (cellsN false (l.take k))∧Below w.heap.size w wr) (fun _ i _=>len-(intOf i).toNat)
 case atStart=>exact⟨0,_,Nat.zero_le _,rfl,rfl,OwnBss.nil _ _,HB.out⟩
 case round=>
  obtain⟨k,v,hk,rfl,rfl,hown,hbw⟩:=hrel
  by_cases hlt:k<len
  ·obtain⟨b,off,e,rfl,hbb,hy,e0,e1,e2,e3,e4⟩:=(h.below (Nat.le_refl _) hbw).at hlt
   have B6:=(Boxes.nil wr).alloc #[.string (strOf e.key),.string (strOf e.v.data),.bool e.v.far,.int .i64 e.v.size,.int .i64 e.v.page] 211 rfl;have hb6:=below_one wr (.cells #[.string (strOf e.key),.string (strOf e.v.data),.bool e.v.far,.int .i64 e.v.size,.int .i64 e.v.page] 211);have hown6:=hown.below (Nat.le_refl _) hb6;have hbw6:=below_then hbw hb6;obtain⟨hl1,hl2⟩:=HI.out e (List.mem_of_getElem? hy);have T1:=fun W=>text_any e.key W (by omega)
   have PU:∀W,Calls Tryz.prog 238 #[.agg #[],.agg #[.string (strOf e.v.data),.bool e.v.far,.int .i64 e.v.size,.int .i64 e.v.page]] W (OwnBytes 5 W (encV false e.v)):=fun W=>put_any false e.v W hl2
   have hmp:=m_putB;have zm:=Mk.i 539807;exact q4d3b76
  ·obtain rfl:k=len:=by omega
   go_wp2_with fail;go_ret;rw[List.take_of_length_le (by rw[hll.out];exact Nat.le_refl _)] at hown;exact⟨v,rfl,hown,hbw⟩):p:=h
theorem q6b1c96 (h:p:=by
 clear zm;have hll:=Hd h1.len;clear c0 c1 hC hC4 h1 hB SH KI;have d1:=BX.cell 0 1 rfl rfl;go_wp2_with fail;clear d1;have HI:=Hd hd;clear hd;have HB:=Hd hb;clear hb;have HX:=Hd BX;clear BX
 go_loopw [14] (fun i wr=>∃(k:Nat),k≤len∧i=.int .i64 k∧upN false l k=true∧Boxes wr [(w.heap.size,[.bool false,.slice a len cap])]∧Below w.heap.size w wr) (fun i _=>len-(intOf i).toNat)
 case atStart=>exact⟨0,Nat.zero_le _,rfl,rfl,HX.out,HB.out⟩
 case round=>
  obtain⟨k,hk,rfl,hup,BX,hbw⟩:=hrel;have hkl:k<9223372036854775807:=by omega
  by_cases hlt:k<len
  ·obtain⟨b,off,e,rfl,hbb,hy,e0,e1,e2,e3,e4⟩:=(h.below (Nat.le_refl _) hbw).at hlt
   have B6:=BX.alloc #[.string (strOf e.key),.string (strOf e.v.data),.bool e.v.far,.int .i64 e.v.size,.int .i64 e.v.page] 211 rfl;have hb6:=below_one wr (.cells #[.string (strOf e.key),.string (strOf e.v.data),.bool e.v.far,.int .i64 e.v.size,.int .i64 e.v.page] 211);have hbw6:=below_then hbw hb6;have hr6:=(h.below (Nat.le_refl _) hbw6)
   obtain⟨hl1,hl2⟩:=HI.out e (List.mem_of_getElem? hy);have M1:∀W,Calls Tryz.prog 237 #[.agg #[],.int .i64 (k:Int),.agg #[.string (strOf e.key),.string (strOf e.v.data),.bool e.v.far,.int .i64 e.v.size,.int .i64 e.v.page]] W fun en w'=>en=.returned (.bool (mayN false k e))∧Below W.heap.size W w':=fun W=>mayB_any e k W (by omega)
   have hmp:=m_mayB;have hgd:l[k]?.getD ⟨[],Vv.zero⟩=e:=by rw[hy];rfl
   have hst:stepN false l k=(mayN false k e && !(decide (0<k) && kle e.key (l[k-1]?.getD ⟨[],Vv.zero⟩).key)):=by rw[stepN,hgd]
   have hus:upN false l (k+1)=stepN false l k:=by rw[upN_succ,hup,Bool.true_and]
   have HST:=Hd hst;have HUS:=Hd hus;have HGD:=Hd hgd;have hsize:b<wr.heap.size:=hbb;clear hb6 hst hus hup hgd BX hbb;cases hm:mayN false k e with
   | false=>
    rw[hm] at M1;have HF:Hid (nodeB false l=false):=Hd (nodeB_step (by rw[hll.out];exact hlt) (by rw[HST.out,hm];rfl));clear hm;have zm:=Mk.i 675112;exact qffd49c
   | true=>
    rw[hm] at M1
    by_cases hk0:k=0
    ·subst hk0
     have HU:Hid (upN false l (0+1)=true):=Hd (by rw[HUS.out,HST.out,hm];rfl);clear hm HGD;simp only[Nat.zero_mul,Nat.add_zero] at e0 e1 e2 e3 e4;have M1:∀W,Calls Tryz.prog 237 #[.agg #[],.int .i64 0,.agg #[.string (strOf e.key),.string (strOf e.v.data),.bool e.v.far,.int .i64 e.v.size,.int .i64 e.v.page]] W fun en w'=>en=.returned (.bool true)∧Below W.heap.size W w':=M1
     have zm:=Mk.i 744901;exact qffd49c
    ·obtain⟨p,hp1,hp2⟩:∃p,p+1=k∧p<len:=⟨k-1,by omega,by omega⟩
     obtain⟨b2,off2,e',hq,hb2l,hy2,hc',_⟩:=(h.below (Nat.le_refl _) hbw).at hp2;cases hq;have hg2:l[k-1]?.getD ⟨[],Vv.zero⟩=e':=by rw[show k-1=p by omega,hy2];rfl
     have hst2:stepN false l k = !kle e.key e'.key:=by rw[HST.out,hm,hg2,show decide (0<k)=true by simp;omega];simp
     have hsub:IntKind.i64.wrap ((k:Int)-1)=(p:Int):=by
      have:=IntWalk.i64_in ((k:Int)-1) (by omega);omega
     have hk1:decide ((0:Int)<(k:Int))=true:=by simp;omega
     have hk1n:decide (0<k)=true:=by simp;omega
     have hk1p:0<k:=by omega
     have hpp:(0:Int)≤(p:Int)∧(p:Int)<(len:Int):=by omega
     have HPC:=Hd hc';have HSB:=Hd hsub;have hp6:(wr.alloc (.cells #[.string (strOf e.key),.string (strOf e.v.data),.bool e.v.far,.int .i64 e.v.size,.int .i64 e.v.page] 211)).cell? ⟨b,off+p*5,none⟩=some (.string (strOf e'.key)):=((below_one wr _).cell (p:=⟨b,off+p*5,none⟩) hb2l).trans hc';have hbl6:b<(wr.alloc (.cells #[.string (strOf e.key),.string (strOf e.v.data),.bool e.v.far,.int .i64 e.v.size,.int .i64 e.v.page] 211)).heap.size:=by simp;omega
     clear hg2 hm hy2 hc' hb2l;have hkp:k=p+1:=hp1.symm;cases hke:kle e.key e'.key with
     | true=>
      have HF:Hid (nodeB false l=false):=Hd (nodeB_step (k:=k) (by rw[hll.out];omega) (by rw[hst2,hke];rfl));have hlq:(Op.bytesLess (strOf e.key).toList (strOf e'.key).toList || (strOf e.key).toList == (strOf e'.key).toList)=true:=by rw[strOf_toList,strOf_toList,bytes_less];exact hke
      clear hst2 hke HST HGD HUS HPC HSB hkp hp1 hp2 hsize;have zm:=Mk.i 922444;exact qffd49c
     | false=>
      have HU:Hid (upN false l (k+1)=true):=Hd (by rw[HUS.out,hst2,hke];rfl);have hlq:(Op.bytesLess (strOf e.key).toList (strOf e'.key).toList || (strOf e.key).toList == (strOf e'.key).toList)=false:=by rw[strOf_toList,strOf_toList,bytes_less];exact hke
      have hlq1:=(Bool.or_eq_false_iff.1 hlq).1;have hlq2:=(Bool.or_eq_false_iff.1 hlq).2;clear hst2 hke HST HGD HUS HPC HSB hkp hp1 hp2 hsize;have zm:=Mk.i 810299;exact qffd49c
  ·obtain rfl:k=len:=by omega
   have hup2:upN false l l.length=true:=by rw[hll.out];exact hup
   have hsm:=HI.out;have hr:=h.below (Nat.le_refl _) hbw;have hlens:=cellsN_lens false 1000000 l (fun e he=>(hsm e he).2);rw[hll.out] at hlens;have hlb:lens (cellsN false l)≤65553104896:=by omega
   have LE:=fun W=>leastB_any W
   have CE:∀W,Below wr.heap.size wr W→Calls Tryz.prog 176 #[.agg #[.bool false,.slice a k cap]] W (BssPost W (cellsN false l)):=fun W hW=>cells_any false a k cap l W (hr.below (Nat.le_refl _) hW) hlen (fun e he=>by have:=hsm e he;omega)
   have CS:∀W a2 n2 c2,n2=(cellsN false l).length→Bss W a2 n2 c2 (cellsN false l)→Calls Tryz.prog 175 #[.slice a2 n2 c2] W fun e w'=>e=.returned (.int .i64 ((k+lens (cellsN false l):Nat):Int))∧W=w':=fun W a2 n2 c2 h1 h2=>by
    have hk2:n2=k:=by rw[h1,cellsN_length,hll.out]
    subst hk2;exact csize_any a2 n2 c2 (cellsN false l) W h2 (by omega)
   have d0:∀W,Below wr.heap.size wr W→W.cell? ⟨w.heap.size,0,none⟩=some (.bool false):=fun W hW=>(BX.step hW).cell 0 0 rfl rfl
   have d1:∀W,Below wr.heap.size wr W→W.cell? ⟨w.heap.size,1,none⟩=some (.slice a k cap):=fun W hW=>(BX.step hW).cell 0 1 rfl rfl
   have hC:Below wr.heap.size wr wr.drew:=(Below.refl _ _).drew;have hN:nodeB false l=(decide (2≤k) && decide (k+lens (cellsN false l)≤122)):=by rw[nodeB,hup2,hll.out];rfl
   have HN:=Hd hN;have hml:=m_leastB;clear hN hup hup2 hsm hlens hlb BX hr
   by_cases hge:2≤k
   ·have hg1:decide ((2:Int)≤(k:Int))=true:=by simp;omega
    have hg2:decide (2≤k)=true:=by simp;omega
    have hg3:(2:Int)≤(k:Int):=by omega
    go_wp2_with fail;refine wp_region_noPanic ?_;refine wp_region_held_drew (S:=fun W=>Below wr.heap.size wr W) (by kernel_rfl) (by with_reducible assumption) (fun hHeld=>?_);refine tks [0,1] ?_;refine tks [2,3] ?_;refine rdy 4 (fun K hK=>?_);rw[if_pos (by rfl)]
    go_wp2_with (first|(go_at_call 236;(with_reducible refine(LE _).mono ?_);rintro e1 w7 ⟨rfl,hb7⟩;have hC7:=hC.trans (hb7.mono hC.size)))
    exact qdf05d4
   ·have hg1:decide ((2:Int)≤(k:Int))=false:=by simp;omega
    have hg2:decide (2≤k)=false:=by simp;omega
    go_wp2_with fail;refine wp_region_noPanic ?_;refine wp_region_held_drew (S:=fun W=>Below wr.heap.size wr W) (by kernel_rfl) (by with_reducible assumption) (fun hHeld=>?_);refine tks [0,1] ?_;refine tks [2,3] ?_;refine rdy 4 (fun K hK=>?_);rw[if_pos (by rfl)]
    go_wp2_with (first|(go_at_call 236;(with_reducible refine(LE _).mono ?_);rintro e1 w7 ⟨rfl,hb7⟩;have hC7:=hC.trans (hb7.mono hC.size)))
    exact qe9cca3):p:=h
theorem q1739d2 (h:p:=by
 go_wp2_with fail;have h1:=h.below (Nat.le_refl _) hB;generalize w.alloc _=W1 at *;have c0:∀W,Below W1.heap.size W1 W→W.cell? ⟨w.heap.size,0,none⟩=some (.bool false):=fun W hW=>(BX.step hW).cell 0 0 rfl rfl
 have c1:∀W,Below W1.heap.size W1 W→W.cell? ⟨w.heap.size,1,none⟩=some (.slice a len cap):=fun W hW=>(BX.step hW).cell 0 1 rfl rfl
 have hC:Below W1.heap.size W1 W1.drew:=(Below.refl _ _).drew;go_upto_region 1 with(fail)
 go_cut [3] (fun s wx=>s=.iface 315 (.agg #[])∧Below W1.heap.size W1 wx)
 case first=>
  go_region_with (first|(go_at_call 139;(with_reducible refine(SH _).mono ?_);rintro e w2 ⟨bs,rfl,hs2,hb2⟩;have hC2:=hC.trans (hb2.mono hC.size);have e0:=c0 _ hC2;have e1:=c1 _ hC2)|(go_at_call 174;(with_reducible refine(KI _).mono ?_);rintro e w3 ⟨rfl,hb3⟩;have hC3:=hC2.trans (hb3.mono hC2.size);have q3:=(hs2.step hb3).cell 0 2 rfl rfl))
  all_goals
   go_wp2_with fail;go_meet;exact⟨rfl,hC3⟩
 case rest=>
 obtain⟨rfl,hC4⟩:=hcut;have hb:=below_then hB hC4;have BX:=BX.step hC4
 first|exact Mk.go 921518 zm qd46cee|exact Mk.go 19670 zm q6b1c96):p:=h
theorem q6b5544 (h:p:=by
 clear zm;have h1:=h1.below (Nat.le_refl _) hC4;clear c0 c1 hC hC4;have d1:=BX.cell 0 1 rfl rfl;go_wp2_with fail;clear d1;have hll:=Hd h1.len;have HI:=Hd hd;clear hd;have HB:=Hd hb;have BX3:=BX;clear BX hb
 go_loopw [4,15] (fun o i wr=>∃(k:Nat) (v:Value),k≤len∧i=.int .i64 k∧v=o∧OwnBss wr w.heap.size v (cellsN true (l.take k))∧Below w.heap.size w wr) (fun _ i _=>len-(intOf i).toNat)
 case atStart=>exact⟨0,_,Nat.zero_le _,rfl,rfl,OwnBss.nil _ _,HB.out⟩
 case round=>
  obtain⟨k,v,hk,rfl,rfl,hown,hbw⟩:=hrel
  by_cases hlt:k<len
  ·obtain⟨b,off,e,rfl,hbb,hy,e0,e1,e2,e3,e4⟩:=(h.below (Nat.le_refl _) hbw).at hlt
   have B6:=(Boxes.nil wr).alloc #[.string (strOf e.key),.string (strOf e.v.data),.bool e.v.far,.int .i64 e.v.size,.int .i64 e.v.page] 211 rfl;have hb6:=below_one wr (.cells #[.string (strOf e.key),.string (strOf e.v.data),.bool e.v.far,.int .i64 e.v.size,.int .i64 e.v.page] 211);have hown6:=hown.below (Nat.le_refl _) hb6;have hbw6:=below_then hbw hb6;obtain⟨hl1,hl2⟩:=HI.out e (List.mem_of_getElem? hy);have T1:=fun W=>text_any e.key W (by omega)
   have PU:∀W,Calls Tryz.prog 231 #[.agg #[],.agg #[.string (strOf e.v.data),.bool e.v.far,.int .i64 e.v.size,.int .i64 e.v.page]] W (OwnBytes 5 W (encV true e.v)):=fun W=>put_any true e.v W hl2
   have hmp:=m_putL;have zm:=Mk.i 560349;exact q4d3b76
  ·obtain rfl:k=len:=by omega
   go_wp2_with fail;go_ret;rw[List.take_of_length_le (by rw[hll.out];exact Nat.le_refl _)] at hown;exact⟨v,rfl,hown,hbw⟩):p:=h
theorem q8822d2 (h:p:=by
 clear zm;have hll:=Hd h1.len;clear c0 c1 hC hC4 h1 hB SH KI;have d1:=BX.cell 0 1 rfl rfl;go_wp2_with fail;clear d1;have HI:=Hd hd;clear hd;have HB:=Hd hb;clear hb;have HX:=Hd BX;clear BX
 go_loopw [14] (fun i wr=>∃(k:Nat),k≤len∧i=.int .i64 k∧upN true l k=true∧Boxes wr [(w.heap.size,[.bool true,.slice a len cap])]∧Below w.heap.size w wr) (fun i _=>len-(intOf i).toNat)
 case atStart=>exact⟨0,Nat.zero_le _,rfl,rfl,HX.out,HB.out⟩
 case round=>
  obtain⟨k,hk,rfl,hup,BX,hbw⟩:=hrel;have hkl:k<9223372036854775807:=by omega
  by_cases hlt:k<len
  ·obtain⟨b,off,e,rfl,hbb,hy,e0,e1,e2,e3,e4⟩:=(h.below (Nat.le_refl _) hbw).at hlt
   have B6:=BX.alloc #[.string (strOf e.key),.string (strOf e.v.data),.bool e.v.far,.int .i64 e.v.size,.int .i64 e.v.page] 211 rfl;have hb6:=below_one wr (.cells #[.string (strOf e.key),.string (strOf e.v.data),.bool e.v.far,.int .i64 e.v.size,.int .i64 e.v.page] 211);have hbw6:=below_then hbw hb6;have hr6:=(h.below (Nat.le_refl _) hbw6)
   obtain⟨hl1,hl2⟩:=HI.out e (List.mem_of_getElem? hy);have M1:∀W,Calls Tryz.prog 230 #[.agg #[],.int .i64 (k:Int),.agg #[.string (strOf e.key),.string (strOf e.v.data),.bool e.v.far,.int .i64 e.v.size,.int .i64 e.v.page]] W fun en w'=>en=.returned (.bool (mayN true k e))∧Below W.heap.size W w':=fun W=>mayL_any e k W (by omega)
   have hmp:=m_mayL;have hgd:l[k]?.getD ⟨[],Vv.zero⟩=e:=by rw[hy];rfl
   have hst:stepN true l k=(mayN true k e && !(decide (0<k) && kle e.key (l[k-1]?.getD ⟨[],Vv.zero⟩).key)):=by rw[stepN,hgd]
   have hus:upN true l (k+1)=stepN true l k:=by rw[upN_succ,hup,Bool.true_and]
   have HST:=Hd hst;have HUS:=Hd hus;have HGD:=Hd hgd;have hsize:b<wr.heap.size:=hbb;clear hb6 hst hus hup hgd BX hbb;cases hm:mayN true k e with
   | false=>
    rw[hm] at M1;have HF:Hid (nodeB true l=false):=Hd (nodeB_step (by rw[hll.out];exact hlt) (by rw[HST.out,hm];rfl));clear hm;have zm:=Mk.i 173007;exact qffd49c
   | true=>
    rw[hm] at M1
    by_cases hk0:k=0
    ·subst hk0
     have HU:Hid (upN true l (0+1)=true):=Hd (by rw[HUS.out,HST.out,hm];rfl);clear hm HGD;simp only[Nat.zero_mul,Nat.add_zero] at e0 e1 e2 e3 e4;have M1:∀W,Calls Tryz.prog 230 #[.agg #[],.int .i64 0,.agg #[.string (strOf e.key),.string (strOf e.v.data),.bool e.v.far,.int .i64 e.v.size,.int .i64 e.v.page]] W fun en w'=>en=.returned (.bool true)∧Below W.heap.size W w':=M1
     have zm:=Mk.i 94993;exact qffd49c
    ·obtain⟨p,hp1,hp2⟩:∃p,p+1=k∧p<len:=⟨k-1,by omega,by omega⟩
     obtain⟨b2,off2,e',hq,hb2l,hy2,hc',_⟩:=(h.below (Nat.le_refl _) hbw).at hp2;cases hq;have hg2:l[k-1]?.getD ⟨[],Vv.zero⟩=e':=by rw[show k-1=p by omega,hy2];rfl
     have hst2:stepN true l k = !kle e.key e'.key:=by rw[HST.out,hm,hg2,show decide (0<k)=true by simp;omega];simp
     have hsub:IntKind.i64.wrap ((k:Int)-1)=(p:Int):=by
      have:=IntWalk.i64_in ((k:Int)-1) (by omega);omega
     have hk1:decide ((0:Int)<(k:Int))=true:=by simp;omega
     have hk1n:decide (0<k)=true:=by simp;omega
     have hk1p:0<k:=by omega
     have hpp:(0:Int)≤(p:Int)∧(p:Int)<(len:Int):=by omega
     have HPC:=Hd hc';have HSB:=Hd hsub;have hp6:(wr.alloc (.cells #[.string (strOf e.key),.string (strOf e.v.data),.bool e.v.far,.int .i64 e.v.size,.int .i64 e.v.page] 211)).cell? ⟨b,off+p*5,none⟩=some (.string (strOf e'.key)):=((below_one wr _).cell (p:=⟨b,off+p*5,none⟩) hb2l).trans hc';have hbl6:b<(wr.alloc (.cells #[.string (strOf e.key),.string (strOf e.v.data),.bool e.v.far,.int .i64 e.v.size,.int .i64 e.v.page] 211)).heap.size:=by simp;omega
     clear hg2 hm hy2 hc' hb2l;have hkp:k=p+1:=hp1.symm;cases hke:kle e.key e'.key with
     | true=>
      have HF:Hid (nodeB true l=false):=Hd (nodeB_step (k:=k) (by rw[hll.out];omega) (by rw[hst2,hke];rfl));have hlq:(Op.bytesLess (strOf e.key).toList (strOf e'.key).toList || (strOf e.key).toList == (strOf e'.key).toList)=true:=by rw[strOf_toList,strOf_toList,bytes_less];exact hke
      clear hst2 hke HST HGD HUS HPC HSB hkp hp1 hp2 hsize;have zm:=Mk.i 340823;exact qffd49c
     | false=>
      have HU:Hid (upN true l (k+1)=true):=Hd (by rw[HUS.out,hst2,hke];rfl);have hlq:(Op.bytesLess (strOf e.key).toList (strOf e'.key).toList || (strOf e.key).toList == (strOf e'.key).toList)=false:=by rw[strOf_toList,strOf_toList,bytes_less];exact hke
      have hlq1:=(Bool.or_eq_false_iff.1 hlq).1;have hlq2:=(Bool.or_eq_false_iff.1 hlq).2;clear hst2 hke HST HGD HUS HPC HSB hkp hp1 hp2 hsize;have zm:=Mk.i 165779;exact qffd49c
  ·obtain rfl:k=len:=by omega
   have hup2:upN true l l.length=true:=by rw[hll.out];exact hup
   have hsm:=HI.out;have hr:=h.below (Nat.le_refl _) hbw;have hlens:=cellsN_lens true 1000000 l (fun e he=>(hsm e he).2);rw[hll.out] at hlens;have hlb:lens (cellsN true l)≤65553104896:=by omega
   have LE:=fun W=>leastL_any W
   have CE:∀W,Below wr.heap.size wr W→Calls Tryz.prog 176 #[.agg #[.bool true,.slice a k cap]] W (BssPost W (cellsN true l)):=fun W hW=>cells_any true a k cap l W (hr.below (Nat.le_refl _) hW) hlen (fun e he=>by have:=hsm e he;omega)
   have CS:∀W a2 n2 c2,n2=(cellsN true l).length→Bss W a2 n2 c2 (cellsN true l)→Calls Tryz.prog 175 #[.slice a2 n2 c2] W fun e w'=>e=.returned (.int .i64 ((k+lens (cellsN true l):Nat):Int))∧W=w':=fun W a2 n2 c2 h1 h2=>by
    have hk2:n2=k:=by rw[h1,cellsN_length,hll.out]
    subst hk2;exact csize_any a2 n2 c2 (cellsN true l) W h2 (by omega)
   have d0:∀W,Below wr.heap.size wr W→W.cell? ⟨w.heap.size,0,none⟩=some (.bool true):=fun W hW=>(BX.step hW).cell 0 0 rfl rfl
   have d1:∀W,Below wr.heap.size wr W→W.cell? ⟨w.heap.size,1,none⟩=some (.slice a k cap):=fun W hW=>(BX.step hW).cell 0 1 rfl rfl
   have hC:Below wr.heap.size wr wr.drew:=(Below.refl _ _).drew;have hN:nodeB true l=(decide (1≤k) && decide (k+lens (cellsN true l)≤122)):=by rw[nodeB,hup2,hll.out];rfl
   have HN:=Hd hN;have hml:=m_leastL;clear hN hup hup2 hsm hlens hlb BX hr
   by_cases hge:1≤k
   ·have hg1:decide ((1:Int)≤(k:Int))=true:=by simp;omega
    have hg2:decide (1≤k)=true:=by simp;omega
    have hg3:(1:Int)≤(k:Int):=by omega
    go_wp2_with fail;refine wp_region_noPanic ?_;refine wp_region_held_drew (S:=fun W=>Below wr.heap.size wr W) (by kernel_rfl) (by with_reducible assumption) (fun hHeld=>?_);refine tks [0,1] ?_;refine tks [2,3] ?_;refine rdy 4 (fun K hK=>?_);rw[if_pos (by rfl)]
    go_wp2_with (first|(go_at_call 229;(with_reducible refine(LE _).mono ?_);rintro e1 w7 ⟨rfl,hb7⟩;have hC7:=hC.trans (hb7.mono hC.size)))
    exact qdf05d4
   ·have hg1:decide ((1:Int)≤(k:Int))=false:=by simp;omega
    have hg2:decide (1≤k)=false:=by simp;omega
    go_wp2_with fail;refine wp_region_noPanic ?_;refine wp_region_held_drew (S:=fun W=>Below wr.heap.size wr W) (by kernel_rfl) (by with_reducible assumption) (fun hHeld=>?_);refine tks [0,1] ?_;refine tks [2,3] ?_;refine rdy 4 (fun K hK=>?_);rw[if_pos (by rfl)]
    go_wp2_with (first|(go_at_call 229;(with_reducible refine(LE _).mono ?_);rintro e1 w7 ⟨rfl,hb7⟩;have hC7:=hC.trans (hb7.mono hC.size)))
    exact qe9cca3):p:=h
theorem q13df47 (h:p:=by
 go_wp2_with fail;have h1:=h.below (Nat.le_refl _) hB;generalize w.alloc _=W1 at *;have c0:∀W,Below W1.heap.size W1 W→W.cell? ⟨w.heap.size,0,none⟩=some (.bool true):=fun W hW=>(BX.step hW).cell 0 0 rfl rfl
 have c1:∀W,Below W1.heap.size W1 W→W.cell? ⟨w.heap.size,1,none⟩=some (.slice a len cap):=fun W hW=>(BX.step hW).cell 0 1 rfl rfl
 have hC:Below W1.heap.size W1 W1.drew:=(Below.refl _ _).drew;go_upto_region 1 with(fail)
 go_cut [3] (fun s wx=>s=.iface 273 (.agg #[])∧Below W1.heap.size W1 wx)
 case first=>
  go_region_with (first|(go_at_call 139;(with_reducible refine(SH _).mono ?_);rintro e w2 ⟨bs,rfl,hs2,hb2⟩;have hC2:=hC.trans (hb2.mono hC.size);have e0:=c0 _ hC2;have e1:=c1 _ hC2)|(go_at_call 174;(with_reducible refine(KI _).mono ?_);rintro e w3 ⟨rfl,hb3⟩;have hC3:=hC2.trans (hb3.mono hC2.size);have q3:=(hs2.step hb3).cell 0 1 rfl rfl))
  all_goals
   go_wp2_with fail;go_meet;exact⟨rfl,hC3⟩
 case rest=>
 obtain⟨rfl,hC4⟩:=hcut;have hb:=below_then hB hC4;have BX:=BX.step hC4
 first|exact Mk.go 34180 zm q6b5544|exact Mk.go 921810 zm q8822d2):p:=h
theorem qe53638 (h:p:=by
 have dd:(decide ((0:Int)<(needC (dl:Int):Int))=true∧decide (0<needC (dl:Int))=true)∨(decide ((0:Int)<(needC (dl:Int):Int))=false∧decide (0<needC (dl:Int))=false∧decide ((400:Int)<dl)=true∧decide (400<dl)=true):=by
  by_cases h4:400<dl
  ·right
   have:needC (dl:Int)=0:=by unfold needC;rw[if_pos (.inr (by omega))]
   rw[this];exact⟨by simp,by simp,by simp;omega,by simp;omega⟩
  ·left
   have:0<needC (dl:Int):=by unfold needC;rw[if_neg (by omega)];omega
   exact⟨by simp;omega,by simp;omega⟩
 generalize needC (dl:Int)=nq at *;clear hvs
 rcases dd with⟨d4,d4'⟩|⟨d4,d4',d5,d5'⟩
 ·go_wp2_with fail
  refine(N _).mono ?_;rintro e w2 ⟨rfl,rfl⟩;exact qc8f5eb
 ·go_wp2_with fail
  refine(N _).mono ?_;rintro e w2 ⟨rfl,rfl⟩;exact qc8f5eb):p:=h
theorem q719dda (h:p:=by
 clear zm;have hx4:=hx3;obtain⟨w4,hw4⟩:∃x,x=w3:=⟨_,rfl⟩
 have hb4:=hb3;have zm:=Mk.i 885747;exact q2af6ff):p:=h
theorem q82a202 (h:p:=by
 clear zm;obtain⟨b,off,rfl,hbl,hc⟩:=hp.2.2.2.2.resolve_left (by omega);have p0:w.cell? ⟨b,off,none⟩=some (.int .i64 ph):=by
  have:=hc 0 h0;rw[←hph];rw[List.headD_eq_head?_getD,List.head?_eq_getElem?];simpa using this
 have p1:=(hb3.cell (p:=⟨b,off,none⟩) hbl).trans p0;clear hph;have q1:decide ((0:Int)<(pn:Int))=true:=decide_eq_true (by omega);have q2:decide (0<pn)=true:=decide_eq_true h0;have hx4:=(((hx3.put 1 (.string ⟨#[]⟩) (by intro q hq;simp at hq;rcases hq with rfl|rfl<;>simp<;>have:=HS2.out<;>omega)).put 2 (.bool true) (by intro q hq;simp at hq;rcases hq with rfl|rfl<;>simp<;>have:=HS2.out<;>omega)).put 3 (.int .i64 (d.length:Int)) (by intro q hq;simp at hq;rcases hq with rfl|rfl<;>simp<;>have:=HS2.out<;>omega)).put 4 (.int .i64 ph) (by intro q hq;simp at hq;rcases hq with rfl|rfl<;>simp<;>have:=HS2.out<;>omega);obtain⟨w4,hw4⟩:∃x,x=((((w3.setCell ⟨w2.heap.size,1,none⟩ (.string ⟨#[]⟩)).setCell ⟨w2.heap.size,2,none⟩ (.bool true)).setCell ⟨w2.heap.size,3,none⟩ (.int .i64 (d.length:Int))).setCell ⟨w2.heap.size,4,none⟩ (.int .i64 ph)):=⟨_,rfl⟩
 rw[←hw4] at hx4;have hb4:Below w.heap.size w w4:=by
  have hk9:w.heap.size≤w2.heap.size:=hb2.size;rw[hw4];exact(((hb3.setCell hk9 _).setCell hk9 _).setCell hk9 _).setCell hk9 _
 have zm:=Mk.i 189678;exact q2af6ff):p:=h
theorem q233e08 (h:p:=by
 clear zm;have p0:=(hb3.cell (p:=⟨kb,ko,none⟩) hk.1).trans hk.2;have q1:decide ((0:Int)<(kn:Int))=true:=decide_eq_true (by omega);have q2:decide (0<kn)=true:=decide_eq_true h0;have hx4:=(((hx3.put 1 (.string ⟨#[]⟩) (by intro q hq;simp at hq;rcases hq with rfl|rfl<;>simp<;>have:=HS2.out<;>omega)).put 2 (.bool false) (by intro q hq;simp at hq;rcases hq with rfl|rfl<;>simp<;>have:=HS2.out<;>omega)).put 3 (.int .i64 0) (by intro q hq;simp at hq;rcases hq with rfl|rfl<;>simp<;>have:=HS2.out<;>omega)).put 4 (.int .i64 page) (by intro q hq;simp at hq;rcases hq with rfl|rfl<;>simp<;>have:=HS2.out<;>omega);obtain⟨w4,hw4⟩:∃x,x=((((w3.setCell ⟨w2.heap.size,1,none⟩ (.string ⟨#[]⟩)).setCell ⟨w2.heap.size,2,none⟩ (.bool false)).setCell ⟨w2.heap.size,3,none⟩ (.int .i64 0)).setCell ⟨w2.heap.size,4,none⟩ (.int .i64 page)):=⟨_,rfl⟩
 rw[←hw4] at hx4;have hb4:Below w.heap.size w w4:=by
  have hk9:w.heap.size≤w2.heap.size:=hb2.size;rw[hw4];exact(((hb3.setCell hk9 _).setCell hk9 _).setCell hk9 _).setCell hk9 _
 have zm:=Mk.i 522005;exact q2af6ff):p:=h
theorem qc687a8 (h:p:=by
 have hb3:Below w.heap.size w w3:=hb2.trans (hb23.mono hb2.size);have c0:=hx2.cell 1 0 rfl rfl;have c1:=hx2.cell 1 1 rfl rfl;have c2:=hx3.cell 2 2 rfl rfl;have c3:=hx3.cell 2 3 rfl rfl;have cd:=hx3.cell 2 1 rfl rfl;have hz:∀W:World,(zeroValue 226).run Tryz.prog W=.ok (.agg #[.string ⟨#[]⟩,.string ⟨#[]⟩,.bool false,.int .i64 0,.int .i64 0]) W:=fun W=>by kernel_rfl
 have hz2:∀W:World,(zeroValue 224).run Tryz.prog W=.ok (.agg #[.string ⟨#[]⟩,.bool false,.int .i64 0,.int .i64 0]) W:=fun W=>by kernel_rfl
 have hsz:=strOf_size d
 first|exact Mk.go 445978 zm q719dda|exact Mk.go 561154 zm q82a202|exact Mk.go 309640 zm q233e08):p:=h
theorem q8bd736 (h:p:=by
 clear zm;generalize crcOf (l.drop 4)=s at *;generalize beVal (l.take 4)=x at *;have hne:((x:Int) != (s:Int))=true:=by simp;omega
 have hw64:(s:Int) % 18446744073709551616=(s:Int):=by omega
 have hw64':IntKind.u64.wrap (s:Int)=(s:Int):=by simp[IntKind.wrap,IntKind.signed,IntKind.bits];omega
 have hB0:Below w.heap.size w w.drew:=(Below.refl _ _).drew;clear ha2 hsl hs hh;go_enter Tryz.func138,Tryz.ntmps138;go_wp2_with fail
 go_region_with (first|(go_at_call 56;refine hT.mono ?_;rintro e w1 ⟨rfl,htk,hlt,hb1⟩;have hB1:=below_then hB0 hb1)|(go_at_call 57;refine(hN _ _ htk).mono ?_;rintro e w2 ⟨_,rfl,rfl,hg2,htk2⟩;have hB2:=below_take hB1 hlt hg2)|(go_at_call 69;refine(hO _ (by assumption)).mono ?_;rintro e wx ⟨rfl,rfl⟩))
 all_goals
  go_wp2
  go_ret3
  exact⟨_,rfl,OwnBss.nil _ _,hB2⟩):p:=h
theorem qdd070a (h:p:=by
 clear zm;rw[hs] at hN;generalize crcOf (l.drop 4)=s at *;have hw64:(s:Int) % 18446744073709551616=(s:Int):=by omega
 have hw64':IntKind.u64.wrap (s:Int)=(s:Int):=by simp[IntKind.wrap,IntKind.signed,IntKind.bits];omega
 have hB0:Below w.heap.size w w.drew:=(Below.refl _ _).drew;obtain⟨b,off,rfl,hbb,hcell⟩:=h.cell (k:=0) (by omega);have H:=Hd h;have HH:=Hd hh;clear ha2 hsl hs hh hd h;go_enter Tryz.func138,Tryz.ntmps138;go_wp2_with fail
 go_region_with (first|(go_at_call 56;refine hT.mono ?_;rintro e w1 ⟨rfl,htk,hlt,hb1⟩;have hB1:=below_then hB0 hb1)|(go_at_call 57;refine(hN _ _ htk).mono ?_;rintro e w2 ⟨_,rfl,rfl,hg2,htk2⟩;have hB2:=below_take hB1 hlt hg2)|(go_at_call 69;refine(hO _ (by assumption)).mono ?_;rintro e wx ⟨rfl,rfl⟩))
 all_goals
  clear hT hO hN hsl4 htk htk2 hg2 hb1 hB1;have hc4:w2.cell? ⟨b,off+4,none⟩=some (.int .u8 ((kindS l).toNat:Int)):=(hB2.cell (p:=⟨b,off+4,none⟩) hbb).trans (hcell 4 (by omega));have hc5:w2.cell? ⟨b,off+5,none⟩=some (.int .u8 ((numS l:Nat):Int)):=(hB2.cell (p:=⟨b,off+5,none⟩) hbb).trans (hcell 5 (by omega));have hn256:numS l<256:=(l[5]?.getD 0).toNat_lt;obtain⟨i0,hi,hz0,hz1,hz2⟩:=info_parts info_bytes;have hn0:IntKind.i64.wrap ((numS l:Nat):Int)=((numS l:Nat):Int):=IntWalk.i64_in _ (by omega);go_wp2_with fail
  go_quiet (fail)
  clear hc4 hc5 hn0;have hB2:=below_drewN hB2 nq;generalize w2.drewN nq=w3 at *
  rcases hm with⟨hm1,hm2⟩|⟨hm1,hm2⟩
  all_goals
   have HM:=Hd hm2;clear hm2
   try (have hs6:∀W,(Instr.slice 42 (.slice (some ⟨b,off,none⟩) 128 cap) (some (.int .i64 6)) (some (.int .i64 (6+((numS l:Nat):Int)))) (some (.int .i64 128))).run Tryz.prog W=.ok (.slice (some ⟨b,off+6,none⟩) (numS l) 122) W:=sub_run6 b off cap (numS l) hm1 hc.1)
   go_wp2_with fail
   try clear hs6
   go_loopw [8,9,42] (fun v e i wr=>∃k:Nat,k≤m∧i=.int .i64 k∧e=.int .i64 ((endS l k:Nat):Int)∧okSC l k=true∧OwnBss wr w.heap.size v (cutS l k)∧Below w.heap.size w wr) (fun _ _ i _=>m-(intOf i).toNat)
   case atStart=>exact⟨0,Nat.zero_le _,rfl,rfl,rfl,OwnBss.nil _ _,hB2⟩
   case round=>
    obtain⟨k,hk,rfl,rfl,hok,hown,hb⟩:=hrel
    by_cases hlt:k<m
    ·have hck:wr.cell? ⟨b,off+6+k,none⟩=some (.int .u8 ((slotS l k:Nat):Int)):=by
      have hmm:=HM.out;rw[hb.cell (p:=⟨b,off+6+k,none⟩) hbb,Nat.add_assoc,hcell (6+k) (by omega)];rfl
     have hklt:k<122∧k<numS l:=by have:=HM.out;omega
     have hend:=okS_end l k hok;have hsl:=slotS_lt l k;have hes:endS l (k+1)=slotS l k:=rfl;have hok1:=okS_succ l k;rw[hok,Bool.true_and] at hok1
     by_cases hle:slotS l k≤endS l k
     ·obtain⟨sa,hsa,hsr⟩:=sub_run elem_bytes size_bytes (some ⟨b,off,none⟩) 128 cap (slotS l k) (endS l k) (endS l k) hle (Nat.le_refl _) (by omega)
      have hrow:=(H.out.below (Nat.le_refl _) hb).sub (slotS l k) (endS l k) (endS l k) hle (by omega) (Nat.le_refl _) (by omega);rw[←hsa] at hrow;have hrow:Bs wr sa (endS l k-slotS l k) (endS l k-slotS l k) (cellS l k):=hrow;have hcut:=Hd (cutS_succ l k);have HES:=Hd hes;have HOK:Hid (okSC l (k+1)=true):=Hd (by rw[hok1];simpa using hle);clear hsa hes hok1 hok;generalize slotS l k=q at *;generalize endS l k=e at *;generalize cellS l k=c at *;have hle2:¬(e:Int)<(q:Int):=by omega
      go_wp2_with fail;refine(bclone_any sa (e-q) (e-q) c wr hrow (by omega)).mono ?_;rintro e1 w4 ⟨u,rfl,hu,hb4⟩;obtain⟨a9,c9,rfl,_⟩:=own_slice hu;obtain⟨vs,ho1,ho2,ho3⟩:=(hown.below (Nat.le_refl _) hb4).below (Nat.le_refl _) ((Below.refl _ _).alloc (Nat.le_refl _) (.cells #[.slice a9 c.length c9] 42));rw[cutS_length] at ho1;have hcl:(w4.alloc (.cells #[.slice a9 c.length c9] 42)).cell? ⟨w4.heap.size,0,none⟩=some (.slice a9 c.length c9):=by
       simp only[World.cell?,World.alloc_heap_new];rfl
      have HU:=Hd ((own_baseC hu hb.size).alloc (.cells #[.slice a9 c.length c9] 42));have HB4:=Hd ((below_then hb hb4).alloc (below_then hb hb4).size (.cells #[.slice a9 c.length c9] 42));have HSZ:=Hd (show w.heap.size≤w4.heap.size from Nat.le_trans hb.size hb4.size);have HL:=Hd (cutS_length l k);have HO2:=Hd ho2;have HO3:=Hd ho3;clear ho2 ho3 hu hown hb4 hrow
      go_wp2_with (at_builtin;refine wpList_append_one rfl _ _ 265 rfl w.heap.size 42 i0 _ 24 Tryz.underlying265 hi hz0 hz1 hz2 rfl _ k vs rfl ho1 w4.heap.size rfl (.slice a9 c.length c9) hcl rfl (by unfold maxLen;omega) (by omega) (by have:=HSZ.out;simp;omega) ?_)
      intro v2 w5 hown2 hg;have HSN:=Hd (OwnBss.snoc ho1 HL.out.symm HO2.out HO3.out HU.out hg hown2);have HB:=Hd (HB4.out.grown hg (by have:=HSZ.out;simp;omega) (own_ge ho1));clear hg hown2 ho1
      go_wp2
      go_roundw
      case rel=>exact⟨k+1,by omega,by go_num,by rw[HES.out],HOK.out,by rw[hcut.out];exact HSN.out,HB.out⟩
      case measure=>simp[intOf];omega
     ·have hres:(okSC l m && (fits (kindS l) (cutS l m) && pageOf (kindS l) (cutS l m) == l))=false:=by
       rw[okS_mono l (m:=k+1) (by rw[hok1];simpa using hle) hlt,Bool.false_and]
      have HR:=Hd hres;clear hres hok1 hes hok hown hend;generalize slotS l k=q at *;generalize endS l k=e at *;have hle2:(e:Int)<(q:Int):=by omega
      go_wp2_with fail
      go_ret3
      rw[UnpOk,HR.out];exact⟨_,rfl,OwnBss.nil _ _,hb⟩
    ·obtain rfl:k=m:=by omega
     obtain⟨ao,co,rfl,hbss⟩:=hown.bss;have hcl:=cutS_lens l k hll.out hok;have hcn:=cutS_length l k;rw[hcn] at hbss;have hpk:=pack_any (kindS l) ao k co (cutS l k) wr hbss (HH.out.below (Nat.le_refl _) hb) (by have:=HM.out;omega);rw[hcn] at hown;have hout:=Hd hown;rw[hcn];have hbase:=hb.size;have hrow:=H.out.below (Nat.le_refl _) hb;have HOKK:=Hd hok
     try (have hge:numS l≤k:=by have:=HM.out;omega)
     try (have hge2:122≤k:=by have:=HM.out;omega)
     clear hcl hcn hok hown hbss
     by_cases hf:fits (kindS l) (cutS l k)=true
     ·have hpv:packV (kindS l) (cutS l k)=pageOf (kindS l) (cutS l k):=by rw[packV,if_pos hf]
      have hpe:packE (kindS l) (cutS l k)=0:=by rw[packE,if_pos hf]
      rw[hpv,hpe] at hpk;have HF:=Hd hf;clear hpv hpe hf;go_wp2_with fail;refine hpk.mono ?_;rintro e w5 ⟨v5,rfl,hown5,hb5⟩;obtain⟨a5,c5,rfl,hbs5⟩:=Bs.of_own hown5;have hB5:=below_then hb hb5;have HOUT5:=Hd (hout.out.below (Nat.le_refl _) hb5);go_wp2_with fail;refine(equal_any a5 _ c5 (pageOf (kindS l) (cutS l k)) (some ⟨b,off,none⟩) 128 cap l w5 hbs5 (hrow.below (Nat.le_refl _) hb5)).mono ?_;rintro e w6 ⟨rfl,rfl⟩;have HR:=Hd (show(okSC l k && (fits (kindS l) (cutS l k) && pageOf (kindS l) (cutS l k) == l))=(pageOf (kindS l) (cutS l k) == l) by rw[HOKK.out,HF.out,Bool.true_and,Bool.true_and]);cases hq:(pageOf (kindS l) (cutS l k) == l)
      ·have HQ:=Hd hq
       clear hq hpk hrow hb hown5 hbs5 hb5;go_wp2_with fail
       go_ret3
       rw[UnpOk,HR.out,HQ.out];exact⟨_,rfl,OwnBss.nil _ _,hB5⟩
      ·have HQ:=Hd hq
       clear hq hpk hrow hb hown5 hbs5 hb5;go_wp2_with fail
       go_ret3
       rw[UnpOk,HR.out,HQ.out];exact⟨_,rfl,HOUT5.out,hB5⟩
     ·have hpe:packE (kindS l) (cutS l k)=1:=by rw[packE,if_neg hf]
      have hpv:packV (kindS l) (cutS l k)=[]:=by rw[packV,if_neg hf]
      have HR:=Hd (show(okSC l k && (fits (kindS l) (cutS l k) && pageOf (kindS l) (cutS l k) == l))=false by rw[Bool.eq_false_iff.2 hf,Bool.false_and,Bool.and_false]);rw[hpv,hpe] at hpk;clear hpv hpe hf;go_wp2_with fail;refine hpk.mono ?_;rintro e w5 ⟨v5,rfl,hown5,hb5⟩;have hB5:=below_then hb hb5;clear hpk hrow hb hown5 hb5;go_wp2_with fail
      go_ret3
      rw[UnpOk,HR.out];exact⟨_,rfl,OwnBss.nil _ _,hB5⟩):p:=h
theorem qf197a8 (h:p:=by
 have hll:=Hd h.len;have hc:=h.cap;unfold maxLen at hc;obtain⟨a2,ha2,hsl⟩:=slice_from elem_bytes size_bytes a 128 cap 4 (by omega);have hsl4:∀w,(Instr.slice 42 (.slice a 128 cap) (some (.int .i64 4)) none none).run Tryz.prog w=.ok (.slice a2 124 (cap-4)) w:=hsl .i64;have hd:=h.drop 4 (by omega);rw[←ha2] at hd;have hT:=take_any a 128 cap l w.drew h (by omega);have hO:∀W,Below w.heap.size w W→Calls Tryz.prog 69 #[.slice a2 124 (cap-4)] W fun e w'=>e=.returned (.int .u32 (crcOf (l.drop 4)))∧W=w':=fun W hW=>crcOf_any _ _ _ _ W (hd.below (Nat.le_refl _) hW) (hh.below (Nat.le_refl _) hW)
 have hN:∀t W,Tk W t ⟨l,0⟩→Calls Tryz.prog 57 #[.pointer (some ⟨t,0,none⟩),.int .i64 4] W (TkPost W t (fun _ v=>v=.int .u64 (beVal (l.take 4):Int)) ⟨l.drop 4,0⟩):=fun t W hW=>by
  have:=tNum_any t ⟨l,0⟩ 4 W hW (by rw[hll.out];omega);rw[tNum_four l (by rw[hll.out];omega)] at this;exact this
 have hx:=crcOn_lt 0 (l.drop 4);change crcOf _<_ at hx
 first|exact Mk.go 164598 zm q8bd736|exact Mk.go 485258 zm qdd070a):p:=h
theorem qe4faf6 (h:p:=by
 clear zm;have hgt:(2:Int)<(kd:Int):=by omega
 go_wp2_with fail;exact q341848):p:=h
theorem q18d69e (h:p:=by
 clear zm;go_wp2_with fail
 all_goals
  exact q341848):p:=h
theorem q5421d9 (h:p:=by
 clear zm;go_wp2_with fail;refine bodyPost_ret (v:=.tuple #[.agg #[.bool false,.slice none 0 0],.int .i64 11]) (by simp[results,Tryz.results96,go_sem,g2,g3]) rfl (getpost_none rfl ?_);exact((hbb5.setCell (Nat.le_refl _) _).setCell (Nat.le_refl _) _)):p:=h
theorem qec5b5c (h:p:=by
 have hL:gL=[]:=by rw[HL.out,if_neg (by rw[hE0];decide)]
 have hF:gF=false:=by rw[HF.out,if_neg (by rw[hE0];decide)]
 clear hn hE hdl HE HL HF;subst hE0 hL hF;go_wp2_with fail;refine CK.mono ?_;rintro e w5 ⟨rfl,hb5⟩;have BY5:=BY.step hb5;have hbb5:=below_then hbb hb5;have g2:=BY5.cell 1 0 rfl rfl;have g3:=BY5.cell 1 1 rfl rfl;have f2:=BY5.frozen 1 0 rfl;have f3:=BY5.frozen 1 1 rfl
 first|exact Mk.go 6454 zm qe4faf6|exact Mk.go 627806 zm q18d69e|exact Mk.go 513689 zm q5421d9):p:=h
theorem q7e447e (h:p:=by
 refine bkR hK (fun hHeld=>?_);clear hK K;refine tks [18] ?_;refine rdy 19 (fun K hK=>?_)
 (rw[if_pos (by rfl)];go_wp2_with (fail))
 refine bkR hK (fun hHeld=>?_);clear hK K;refine tks [20] ?_;refine wpAnyH_done (by kernel_rfl) ?_ _;refine NoPanic.normal ?_;go_wp2_with fail;have hbe:Below w.heap.size w w13:=below_via HBW.out hb13;have hxe:=((hx13.put 0 (.int .i64 0) (by simp)).put 1 (.bool false) (by simp)).put 2 (.slice a13 (m+1) d13) (by simp);have t0:=hxe.cell 0 0 rfl rfl;have t1:=hxe.cell 0 1 rfl rfl;have t2:=hxe.cell 0 2 rfl rfl;refine bodyPost_ret (v:=.tuple #[.agg #[.int .i64 0,.bool false,.slice a13 (m+1) d13],.bool true]) (by simp only[results,Tryz.results165];simp[go_sem,t0,t1,t2]) rfl ?_;exact parted_end HSP.out (by omega) hF (by omega) n13 hbe):p:=h
theorem qd7c4fc (h:p:=by
 clear zm
 go_cut [46] (fun s wq=>s=.bool (!SZ)∧w2=wq)
 case first=>
  by_cases h0:m=0
  ·have c0:((m:Int) == 0)=true:=by simp;omega
   have H0:=Hd h0;clear h0;have HE:Hid (SZ=false):=Hd (by rw[HSZ.out];simp[H0.out]);exact qb7fab6
  have c0:((m:Int) == 0)=false:=beq_eq_false_iff_ne.2 (by omega);have H0:=Hd h0;clear h0
  by_cases h1:m=1
  ·have c1:((m:Int) == 1)=true:=by simp;omega
   have H1:=Hd h1;clear h1;have HE:Hid (SZ=false):=Hd (by rw[HSZ.out];simp[H1.out]);exact qb7fab6
  have c1:((m:Int) == 1)=false:=beq_eq_false_iff_ne.2 (by omega);have H1:=Hd h1;clear h1
  by_cases h2:122<sm
  ·have c2:decide ((122:Int)<sm)=true:=by simp;omega
   have H2:=Hd h2;clear h2;have HE:Hid (SZ=false):=Hd (by rw[HSZ.out];have:=H2.out;simp;intros;omega);exact qb7fab6
  have c2:decide ((122:Int)<sm)=false:=by simp;omega
  have H2:=Hd h2;clear h2;cases root with
  | true=>
   have HE:Hid (SZ=true):=Hd (by rw[HSZ.out];have:=H0.out;have:=H1.out;have:=H2.out;simp;omega);exact qb7fab6
  | false=>
   by_cases h3:sm<30
   ·simp only[h3,decide_true] at CLow
    have H3:=Hd h3;clear h3;have HE:Hid (SZ=false):=Hd (by rw[HSZ.out];have:=H3.out;simp;intros;omega);exact qb7fab6
   simp only[h3,decide_false] at CLow;have H3:=Hd h3;clear h3;have HE:Hid (SZ=true):=Hd (by rw[HSZ.out];have:=H0.out;have:=H1.out;have:=H2.out;have:=H3.out;simp;omega);exact qb7fab6
 case rest=>
 obtain⟨rfl,rfl⟩:=hcut;cases SZ with
 | false=>
  have HR:Hid (R=none):=Hd (by rw[HD.out,Bool.and_false];rfl);exact qd1db3c
 | true=>
 simp only[Bool.not_true];go_wp2_with fail
 go_loopw [10,11] (fun s10 s11 wr=>∃i far:Nat,i≤m∧s11=.int .i64 i∧s10=.int .i64 far∧far≤1000∧fitTo lo hi false (keysOf l) i=true∧depK (fun t lo hi=>depthT n t lo hi false) lo hi i far (l.drop i)=R2∧Below w.heap.size w wr∧Boxes wr [(w.heap.size,[.int .i64 p,.bool false,.slice a m c])]) (fun _ s _=>m-(intOf s).toNat)
 case atStart=>exact⟨0,0,Nat.zero_le _,rfl,rfl,Nat.zero_le _,rfl,HR2.out,HB2.out,HX2.out⟩
 case round=>
  clear n0 n1 n2 CSum CLow HX2 HB2 HX0 HB0;obtain⟨i,far,hi',rfl,rfl,hfar,hfit,hrest,hb,hx⟩:=hrel
  by_cases hlt:i<m
  rotate_left
  ·obtain rfl:i=m:=by omega
   have HR:Hid (R=some far):=Hd (by
    rw[HD.out,HFT.out,hfit,if_pos (by rfl),←hrest,List.drop_of_length_le (by rw[HL.out];exact Nat.le_refl _)];rfl)
   exact qf09442
  obtain⟨b,off,y,pa,pn,pc,ka,kn,kc,rfl,hbb,hy,_,hpg,_,hkt,_,c0,c1,c2,c3⟩:=RNodeOn.cell HV.out hlt;rw[cellsR_node] at hy;obtain⟨x,hx1,hx2⟩:=Option.map_eq_some_iff.1 hy;subst hx2;clear hy;obtain⟨k,kid⟩:=x;have hg:=HG.out _ (List.mem_of_getElem? hx1);have hKK:(keysOf l)[i]?.getD []=k:=by simp[keysOf,hx1]
  have hbb9:=Nat.lt_of_lt_of_le hbb hb.size;dsimp only at hg c0 c1 c2 c3 hpg hkt;obtain⟨q1,q2,q3⟩:=hkt.lens;have hkn:kn=1:=by rw[←q1];rfl
  subst hkn;have hpn:pn=0:=hpg.1.symm;subst hpn;have HVN:Hid (valB ⟨[],[]⟩=true):=Hd (by decide);have hsd:=strOf_size ([]:List UInt8);have hpc:pc≤maxLen:=hpg.2.2.1;unfold maxLen at hpc;obtain⟨bk,okk,kid2,kcs,eka,hbk,hy2,_,hkid,hkc⟩:=TabR.at hkt (k:=0) (by omega);subst eka;obtain rfl:kid=kid2:=by simpa using hy2
  cases n with
  | zero=>exact hkid.elim
  | succ n=>
  obtain⟨ak,ck,rfl,_,_⟩:=hkid.at;obtain⟨km,hkm⟩:∃z,cntT kid=z:=⟨_,rfl⟩
  obtain⟨kp9,hkp9⟩:∃z,kid.page=z:=⟨_,rfl⟩
  obtain⟨kf,hkf⟩:∃z,kid.isLeaf=z:=⟨_,rfl⟩
  rw[hkm,hkp9,hkf] at hkid hkc;have e0:=(hb.cell (p:=⟨bk,okk,none⟩) hbk).trans (by simpa using hkc 0 _ rfl);have e1:=(hb.cell (p:=⟨bk,okk+1,none⟩) hbk).trans (by simpa using hkc 1 _ rfl);have e2:=(hb.cell (p:=⟨bk,okk+2,none⟩) hbk).trans (by simpa using hkc 2 _ rfl);have hbk9:=Nat.lt_of_lt_of_le hbk hb.size;have HKID:=Hd hkid;have HC1:=Hd hx1;have HDK:=Hd hrest;have HKB:=Hd hg.2;have hkk:k.length≤1000:=by have:=hg.1;omega
  clear hkid hkc hkm hkp9 hkf hy2 hkt hpg;have hkl:=hg.1;have hsz:=strOf_size k;have HKK:=Hd hKK;have HA:=Hd hfit;obtain⟨BAD,hbad⟩:∃z,(!(fitAt lo hi false (keysOf l) i && valB ⟨[],[]⟩))=z:=⟨_,rfl⟩
  have HBAD:=Hd hbad.symm;clear hbad hKK hfit hrest hx1;have v0:=(hb.cell (p:=⟨b,off+i*4,none⟩) hbb).trans c0;have v1:=(hb.cell (p:=⟨b,off+i*4+1,none⟩) hbb).trans c1;have v2:=(hb.cell (p:=⟨b,off+i*4+2,none⟩) hbb).trans c2;have v3:=(hb.cell (p:=⟨b,off+i*4+3,none⟩) hbb).trans c3;have f1:=hx.cell 0 1 rfl rfl;have f2:=hx.cell 0 2 rfl rfl;have hxc:=hx.alloc #[.string (strOf k),.string (strOf []),.slice pa 0 pc,.slice (some ⟨bk,okk,none⟩) 1 kc] 145 (b:=wr.heap.size) rfl;have hbc:Below wr.heap.size wr (wr.alloc (.cells #[.string (strOf k),.string (strOf []),.slice pa 0 pc,.slice (some ⟨bk,okk,none⟩) 1 kc] 145)):=Below.al (Below.refl _ _);obtain⟨wc,hwc⟩:∃x,wr.alloc (.cells #[.string (strOf k),.string (strOf []),.slice pa 0 pc,.slice (some ⟨bk,okk,none⟩) 1 kc] 145)=x:=⟨_,rfl⟩
  rw[hwc] at hxc hbc;have HB:=Hd (below_via hb hbc);have HX:=Hd (hxc);have hwx:=hx.lt 0 rfl;have u1:=hxc.cell 1 1 rfl rfl;have u2:=hxc.cell 1 2 rfl rfl;have m0:=hxc.cell 0 0 rfl rfl;have m1:=hxc.cell 0 1 rfl rfl;have m2:=hxc.cell 0 2 rfl rfl;have m3:=hxc.cell 0 3 rfl rfl;replace e0:=(hbc.cell (p:=⟨bk,okk,none⟩) hbk9).trans e0;replace e1:=(hbc.cell (p:=⟨bk,okk+1,none⟩) hbk9).trans e1;replace e2:=(hbc.cell (p:=⟨bk,okk+2,none⟩) hbk9).trans e2;have d0:decide ((i:Int)<(m:Int))=true:=by simp;omega
  have d0':decide (i<m)=true:=by simp;omega
  clear hxc c0 c1 c2 c3 hg q1;obtain⟨F,hF⟩:∃z:Bool,(i == 0)=z:=⟨_,rfl⟩
  have HF:=Hd hF;go_upto_region 9 with(fail)
  go_cut [13] (fun s wq=>s=.bool F∧wc=wq)
  case first=>
   by_cases h0:i=0
   ·obtain rfl:true=F:=by rw[←hF,h0];rfl
    have d5:((i:Int) == 0)=true:=by rw[h0];rfl
    clear h0 hF;exact qb98405
   ·obtain rfl:false=F:=by rw[←hF];exact(beq_eq_false_iff_ne.2 h0).symm
    have d5:((i:Int) == 0)=false:=beq_eq_false_iff_ne.2 (by omega);clear h0 hF;exact qb98405
  case rest=>
  obtain⟨rfl,rfl⟩:=hcut;clear hF;go_upto_region 10 with(fail)
  go_cut [143] (fun s wq=>s=.bool BAD∧Below wc.heap.size wc wq)
  case first=>
   clear hwc v0 v1 v2 v3;obtain⟨E,hE⟩:∃z:Bool,(decide (k=[]))=z:=⟨_,rfl⟩
   have HE3:Hid ((E=true∧(strOf k).toList=[]∧(strOf k).toList.isEmpty=true)∨(E=false∧¬(strOf k).toList=[]∧(strOf k).toList.isEmpty=false)):=Hd (by
    rw[←hE]
    by_cases h:k=[]
    ·exact .inl ⟨decide_eq_true h,str_empty h⟩
    ·exact .inr ⟨decide_eq_false h,str_some h⟩)
   obtain⟨X1,hX1⟩:∃z:Bool,(F != E)=z:=⟨_,rfl⟩
   have HX1b:=Hd hX1;obtain⟨kl,hkl0⟩:∃x,k.length=x:=⟨_,rfl⟩
   rw[hkl0] at hsz hkl;obtain⟨X2,hX2⟩:∃z:Bool,(decide ((16:Int)<(kl:Int)))=z:=⟨_,rfl⟩
   have HX2:=Hd hX2;obtain⟨A11,hA11⟩:∃z:Bool,((X1 || X2))=z:=⟨_,rfl⟩
   have HA11:=Hd hA11;obtain⟨P,hP⟩:∃z:Bool,(decide ((0:Int)<(i:Int)))=z:=⟨_,rfl⟩
   have HPP:Hid ((P=true∧decide ((0:Int)<(i:Int))=true∧decide (0<i)=true)∨(P=false∧decide ((0:Int)<(i:Int))=false∧decide (0<i)=false)):=Hd (by
    exact qda1aad)
   obtain⟨kp,hkp⟩:∃z,(keysOf l)[i-1]?.getD []=z:=⟨_,rfl⟩
   obtain⟨ip,hip⟩:∃z,i-1=z:=⟨_,rfl⟩
   have HPT:Hid (P=true→IntKind.i64.wrap ((i:Int)-1)=(ip:Int)∧(0:Int)≤(ip:Int)∧(ip:Int)<(m:Int)∧∀W,Below wc.heap.size wc W→W.cell? ⟨b,off+ip*4,none⟩=some (.string (strOf kp))):=Hd (fun h=>by
    have h0:0<i:=by
     rw[←hP] at h;have:=of_decide_eq_true h;omega
    have e9:(i:Int)-1=(ip:Int):=by omega
    refine⟨by rw[e9];exact IntWalk.i64_in _ (by omega),by omega,by omega,fun W hW=>?_⟩;obtain⟨b7,off7,y7,_,_,_,_,_,_,e7,hbb7,hy7,_,_,_,_,_,c07,_,_,_⟩:=RNodeOn.cell HV.out (show ip<m by omega);cases e7;rw[cellsR_node] at hy7;exact q564ce6)
   have zm:=Mk.i 193412;exact q75019f
  case rest=>
  rename_i wd;obtain⟨rfl,hbd⟩:=hcut;replace HB:=Hd (below_via HB.out hbd);replace HX:=Hd (HX.out.step hbd);clear u1 u2 m0 m1 m2 m3 hwc v0 v1 v2 v3;have u1:=HX.out.cell 1 1 rfl rfl;have u2:=HX.out.cell 1 2 rfl rfl;have m0:=HX.out.cell 0 0 rfl rfl;have m3:=HX.out.cell 0 3 rfl rfl;have hbk8:=Nat.lt_of_lt_of_le hbk9 hbc.size;replace e0:=(hbd.cell (p:=⟨bk,okk,none⟩) hbk8).trans e0;replace e1:=(hbd.cell (p:=⟨bk,okk+1,none⟩) hbk8).trans e1;replace e2:=(hbd.cell (p:=⟨bk,okk+2,none⟩) hbk8).trans e2;clear hbk8 hbk9 hbk;clear hbc hbd;cases BAD with
  | true=>
   have HR:Hid (R=none):=Hd (by
    have h9:=HBAD.out;rw[HD.out,HFT.out];cases hfa:fitAt lo hi false (keysOf l) i with
    | false=>rw[fitTo_bad (i:=i) (by omega) hfa];rfl
    | true=>
     rw[hfa] at h9;rw[HVN.out] at h9;cases h9)
   go_wp2_with fail;go_ret;exact⟨by rw[HR.out];rfl,HB.out⟩
  | false=>
  have HT2:Hid (fitTo lo hi false (keysOf l) (i+1)=true):=Hd (by
   have h9:=HBAD.out;rw[fitTo_succ,HA.out,Bool.true_and];simp at h9;exact h9.1)
  obtain⟨KL,hKL⟩:∃z,(if i=0 then lo else k)=z:=⟨_,rfl⟩
  obtain⟨HI,hHI⟩:∃z,nextH hi (l.drop (i+1))=z:=⟨_,rfl⟩
  have hKL9:KL.length≤1000:=by rw[←hKL];split<;>assumption
  have HKL9:=Hd hKL;have HHI9:=Hd hHI;clear hKL hHI hb hx
  go_upto_if 148 with(fail)
  go_cut [14] (fun s wq=>s=.string (strOf KL)∧wc=wq)
  case first=>
   by_cases h0:i=0
   ·obtain rfl:true=F:=by rw[←HF.out,h0];rfl
    obtain rfl:lo=KL:=by rw[←HKL9.out,if_pos h0]
    clear h0;exact qb98405
   ·obtain rfl:false=F:=by rw[←HF.out];exact(beq_eq_false_iff_ne.2 h0).symm
    obtain rfl:k=KL:=by rw[←HKL9.out,if_neg h0]
    clear h0;exact qb98405
  case rest=>
  obtain⟨rfl,rfl⟩:=hcut
  go_upto_if 156 with(fail)
  go_cut [15] (fun s wq=>s=.string (strOf HI)∧wc=wq∧HI.length≤1000)
  case first=>
   by_cases hla:m≤i+1
   ·have d3:decide ((i:Int)+1<(m:Int))=false:=by simp;omega
    have d3':decide (i+1<m)=false:=by simp;omega
    obtain rfl:hi=HI:=by rw[←HHI9.out];exact(nextH_last (by have:=HL.out;omega)).symm
    have HHI:=Hd hhi;clear hla;simp only[d3];go_wp2_with fail;go_meet;exact⟨rfl,rfl,HHI.out⟩
   ·have d3:decide ((i:Int)+1<(m:Int))=true:=by simp;omega
    have d3':decide (i+1<m)=true:=by simp;omega
    obtain⟨b8,off8,y8,_,_,_,_,_,_,e8,hbb8,hy8,_,_,_,_,_,c08,_,_,_⟩:=RNodeOn.cell HV.out (show i+1<m by omega);cases e8;rw[cellsR_node] at hy8;obtain⟨x8,hx81,hx82⟩:=Option.map_eq_some_iff.1 hy8;subst hx82;obtain⟨k2,y82⟩:=x8;dsimp only at c08;have hk2:=(HG.out _ (List.mem_of_getElem? hx81)).1;dsimp only at hk2;have g8:=(HB.out.cell (p:=⟨b,off+(i+1)*4,none⟩) hbb8).trans c08;obtain rfl:k2=HI:=by rw[←HHI9.out];exact(nextH_mid (by simp[keysOf,hx81]) (by have:=HL.out;omega)).symm
    have HHI:Hid (k2.length≤1000):=Hd (by omega);have hla2:i+1<m:=by omega
    have hla3:(i:Int)+1<(m:Int):=by omega
    have hla4:(0:Int)≤(i:Int)+1:=by omega
    clear hla c08 hx81 hy8 hbb8;simp only[d3];go_wp2_with fail;go_meet;exact⟨rfl,rfl,HHI.out⟩
  case rest=>
  obtain⟨rfl,rfl,hHI9⟩:=hcut;obtain⟨D,hD⟩:∃D,depthT (n+1) kid KL HI false=D:=⟨_,rfl⟩
  have CD:=IH (HKID.out.below HB.out) HKB.out KL HI hKL9 hHI9;rw[hD] at CD;have HDD:Hid (depthT (n+1) kid (if i=0 then lo else k) (nextH hi (l.drop (i+1))) false=D):=Hd (by rw[HKL9.out,HHI9.out];exact hD);clear hD;go_wp2_with fail;refine CD.mono ?_;rintro e w9 ⟨rfl,hb9⟩;have HBQ:=Hd (below_via HB.out hb9);have HXQ:=Hd (HX.out.step hb9);clear hb9 u1 u2 m0 m3 e0 e1 e2 CD;cases D with
  | none=>
   have HR:Hid (R=none):=Hd (by rw[HD.out,show R2=none by rw[←HDK.out];exact depK_none HC1.out (by exact HDD.out)];simp);have hdi:depI none = -1:=rfl;rw[hdi];clear hdi;exact q42d8b3
  | some d=>
   have hdi:depI (some d)=(d:Int):=rfl;rw[hdi];clear hdi;have hd9:d+1≤1000:=Nat.le_trans (depthT_lt HDD.out) hn;have dz:decide ((d:Int)<0)=false:=decide_eq_false (by omega)
   by_cases hbf:i≠0∧d+1≠far
   ·have d5:decide ((0:Int)<(i:Int))=true:=by simp;omega
    have d5':decide (0<i)=true:=by simp;omega
    have dy:((d:Int)+1 != (far:Int))=true:=by have:=hbf.2;simp;omega
    have HR:Hid (R=none):=Hd (by rw[HD.out,show R2=none by rw[←HDK.out];exact depK_far HC1.out (by exact HDD.out) hbf];simp);clear hbf;exact q42d8b3
   ·have HR:Hid (depK (fun t lo hi=>depthT (n+1) t lo hi false) lo hi (i+1) (d+1) (l.drop (i+1))=R2):=Hd (by rw[←HDK.out];exact(depK_go HC1.out (by exact HDD.out) hbf).symm)
    by_cases h0:i=0
    ·have d5:decide ((0:Int)<(i:Int))=false:=by simp;omega
     have d5':decide (0<i)=false:=by simp;omega
     exact qe2b1f7
    ·have d5:decide ((0:Int)<(i:Int))=true:=by simp;omega
     have d5':decide (0<i)=true:=by simp;omega
     have dy:((d:Int)+1 != (far:Int))=false:=by simp;omega
     exact qe2b1f7):p:=h
theorem qee570b (h:p:=by
 clear zm
 go_cut [46] (fun s wq=>s=.bool (!SZ)∧w2=wq)
 case first=>
  by_cases h0:m=0
  ·have c0:((m:Int) == 0)=true:=by simp;omega
   have H0:=Hd h0;clear h0;have HE:Hid (SZ=false):=Hd (by rw[HSZ.out];simp[H0.out]);exact qb7fab6
  have c0:((m:Int) == 0)=false:=beq_eq_false_iff_ne.2 (by omega);have H0:=Hd h0;clear h0
  by_cases h2:122<sm
  ·have c2:decide ((122:Int)<sm)=true:=by simp;omega
   have H2:=Hd h2;clear h2;have HE:Hid (SZ=false):=Hd (by rw[HSZ.out];have:=H2.out;simp;intros;omega);exact qb7fab6
  have c2:decide ((122:Int)<sm)=false:=by simp;omega
  have H2:=Hd h2;clear h2;cases root with
  | true=>
   have HE:Hid (SZ=true):=Hd (by rw[HSZ.out];have:=H0.out;have:=H2.out;simp;omega);exact qb7fab6
  | false=>
   by_cases h3:sm<30
   ·simp only[h3,decide_true] at CLow
    have H3:=Hd h3;clear h3;have HE:Hid (SZ=false):=Hd (by rw[HSZ.out];have:=H3.out;simp;intros;omega);exact qb7fab6
   simp only[h3,decide_false] at CLow;have H3:=Hd h3;clear h3;have HE:Hid (SZ=true):=Hd (by rw[HSZ.out];have:=H0.out;have:=H2.out;have:=H3.out;simp;omega);exact qb7fab6
 case rest=>
 obtain⟨rfl,rfl⟩:=hcut;cases SZ with
 | false=>
  have HR:Hid (R=none):=Hd (by rw[HD.out,Bool.and_false];rfl);exact qd1db3c
 | true=>
 go_wp2_with fail
 go_loopw [10,11] (fun s10 s11 wr=>∃i far:Nat,i≤m∧s11=.int .i64 i∧s10=.int .i64 far∧far=0∧fitTo lo hi true (keysOf l) i=true∧(∀j c,j<i→l[j]? = some c→valB c.2=true)∧Below w.heap.size w wr∧Boxes wr [(w.heap.size,[.int .i64 p,.bool true,.slice a m c])]) (fun _ s _=>m-(intOf s).toNat)
 case atStart=>exact⟨0,0,Nat.zero_le _,rfl,rfl,rfl,rfl,(fun j c h=>by omega),HB2.out,HX2.out⟩
 case round=>
  clear n0 n1 n2 CSum CLow HX2 HB2 HX0 HB0;obtain⟨i,far,hi',rfl,rfl,hfar,hfit,hrest,hb,hx⟩:=hrel;subst hfar
  by_cases hlt:i<m
  rotate_left
  ·obtain rfl:i=m:=by omega
   have HR:Hid (R=some 0):=Hd (by
    rw[HD.out,HFT.out,hfit,if_pos];simp only[Bool.true_and,Bool.and_true,List.all_eq_true];intro c hc;obtain⟨j,hj,rfl⟩:=List.getElem_of_mem hc;exact hrest j _ (by rw[←HL.out];exact hj) (List.getElem?_eq_getElem hj))
   exact qf09442
  obtain⟨b,off,y,pa,pn,pc,ka,kn,kc,rfl,hbb,hy,_,hpg,_,hkt,_,c0,c1,c2,c3⟩:=RNodeOn.cell HV.out hlt;rw[cellsR_leaf] at hy;obtain⟨x,hx1,hx2⟩:=Option.map_eq_some_iff.1 hy;subst hx2;clear hy;obtain⟨k,yv⟩:=x;have hg:=HG.out _ (List.mem_of_getElem? hx1);have hKK:(keysOf l)[i]?.getD []=k:=by simp[keysOf,hx1]
  have hbb9:=Nat.lt_of_lt_of_le hbb hb.size;dsimp only at hg c0 c1 c2 c3 hpg hkt;obtain⟨q1,q2,q3⟩:=hkt.lens;have hkn:kn=0:=by rw[←q1];rfl
  subst hkn;have HPN:=Hd (hpg.1);obtain⟨dl,hdl⟩:∃z,yv.data.length=z:=⟨_,rfl⟩
  have HDL:=Hd hdl;have hsd:=strOf_size yv.data;rw[hdl] at hg hsd;have hpc:pn≤pc∧pc≤maxLen:=⟨hpg.2.1,hpg.2.2.1⟩
  unfold maxLen at hpc;have CN:=fun W=>crneed_any (dl:Int) W
  clear hdl hpg;have hkl:=hg.1;have hsz:=strOf_size k;have HKK:=Hd hKK;have HA:=Hd hfit;have HRS:=Hd hrest;have HX1:=Hd hx1;obtain⟨BAD,hbad⟩:∃z,(!(fitAt lo hi true (keysOf l) i && valB yv))=z:=⟨_,rfl⟩
  have HBAD:=Hd hbad.symm;clear hbad hKK hfit hrest hx1;have v0:=(hb.cell (p:=⟨b,off+i*4,none⟩) hbb).trans c0;have v1:=(hb.cell (p:=⟨b,off+i*4+1,none⟩) hbb).trans c1;have v2:=(hb.cell (p:=⟨b,off+i*4+2,none⟩) hbb).trans c2;have v3:=(hb.cell (p:=⟨b,off+i*4+3,none⟩) hbb).trans c3;have f1:=hx.cell 0 1 rfl rfl;have f2:=hx.cell 0 2 rfl rfl;have hxc:=hx.alloc #[.string (strOf k),.string (strOf yv.data),.slice pa pn pc,.slice ka 0 kc] 145 (b:=wr.heap.size) rfl;have hbc:Below wr.heap.size wr (wr.alloc (.cells #[.string (strOf k),.string (strOf yv.data),.slice pa pn pc,.slice ka 0 kc] 145)):=Below.al (Below.refl _ _);obtain⟨wc,hwc⟩:∃x,wr.alloc (.cells #[.string (strOf k),.string (strOf yv.data),.slice pa pn pc,.slice ka 0 kc] 145)=x:=⟨_,rfl⟩
  rw[hwc] at hxc hbc;have HB:=Hd (below_via hb hbc);have HX:=Hd (hxc);have hwx:=hx.lt 0 rfl;have u1:=hxc.cell 1 1 rfl rfl;have u2:=hxc.cell 1 2 rfl rfl;have m0:=hxc.cell 0 0 rfl rfl;have m1:=hxc.cell 0 1 rfl rfl;have m2:=hxc.cell 0 2 rfl rfl;have m3:=hxc.cell 0 3 rfl rfl;have d0:decide ((i:Int)<(m:Int))=true:=by simp;omega
  have d0':decide (i<m)=true:=by simp;omega
  clear hxc c0 c1 c2 c3 hg q1;go_upto_region 9 with(fail)
  go_cut [13] (fun s wq=>s=.bool false∧wc=wq)
  case first=>
   by_cases h0:i=0
   ·have d5:((i:Int) == 0)=true:=by rw[h0];rfl
    clear h0;exact qb98405
   ·have d5:((i:Int) == 0)=false:=beq_eq_false_iff_ne.2 (by omega)
    clear h0;exact qb98405
  case rest=>
  obtain⟨rfl,rfl⟩:=hcut;go_upto_region 10 with(fail)
  go_cut [143] (fun s wq=>s=.bool BAD∧Below wc.heap.size wc wq)
  case first=>
   clear hwc v0 v1 v2 v3;obtain⟨E,hE⟩:∃z:Bool,(decide (k=[]))=z:=⟨_,rfl⟩
   have HE3:Hid ((E=true∧(strOf k).toList=[]∧(strOf k).toList.isEmpty=true)∨(E=false∧¬(strOf k).toList=[]∧(strOf k).toList.isEmpty=false)):=Hd (by
    rw[←hE]
    by_cases h:k=[]
    ·exact .inl ⟨decide_eq_true h,str_empty h⟩
    ·exact .inr ⟨decide_eq_false h,str_some h⟩)
   obtain⟨X1,hX1⟩:∃z:Bool,(false != E)=z:=⟨_,rfl⟩
   have HX1b:=Hd hX1;obtain⟨kl,hkl0⟩:∃x,k.length=x:=⟨_,rfl⟩
   rw[hkl0] at hsz hkl;obtain⟨X2,hX2⟩:∃z:Bool,(decide ((16:Int)<(kl:Int)))=z:=⟨_,rfl⟩
   have HX2:=Hd hX2;obtain⟨A11,hA11⟩:∃z:Bool,((X1 || X2))=z:=⟨_,rfl⟩
   have HA11:=Hd hA11;obtain⟨P,hP⟩:∃z:Bool,(decide ((0:Int)<(i:Int)))=z:=⟨_,rfl⟩
   have HPP:Hid ((P=true∧decide ((0:Int)<(i:Int))=true∧decide (0<i)=true)∨(P=false∧decide ((0:Int)<(i:Int))=false∧decide (0<i)=false)):=Hd (by
    exact qda1aad)
   obtain⟨kp,hkp⟩:∃z,(keysOf l)[i-1]?.getD []=z:=⟨_,rfl⟩
   obtain⟨ip,hip⟩:∃z,i-1=z:=⟨_,rfl⟩
   have HPT:Hid (P=true→IntKind.i64.wrap ((i:Int)-1)=(ip:Int)∧(0:Int)≤(ip:Int)∧(ip:Int)<(m:Int)∧∀W,Below wc.heap.size wc W→W.cell? ⟨b,off+ip*4,none⟩=some (.string (strOf kp))):=Hd (fun h=>by
    have h0:0<i:=by
     rw[←hP] at h;have:=of_decide_eq_true h;omega
    have e9:(i:Int)-1=(ip:Int):=by omega
    refine⟨by rw[e9];exact IntWalk.i64_in _ (by omega),by omega,by omega,fun W hW=>?_⟩;obtain⟨b7,off7,y7,_,_,_,_,_,_,e7,hbb7,hy7,_,_,_,_,_,c07,_,_,_⟩:=RNodeOn.cell HV.out (show ip<m by omega);cases e7;rw[cellsR_leaf] at hy7;exact q564ce6)
   have zm:=Mk.i 728959;exact q75019f
  case rest=>
  rename_i wd;obtain⟨rfl,hbd⟩:=hcut;replace HB:=Hd (below_via HB.out hbd);replace HX:=Hd (HX.out.step hbd);clear u1 u2 m0 m1 m2 m3 hwc v0 v1 v2 v3;have u1:=HX.out.cell 1 1 rfl rfl;have u2:=HX.out.cell 1 2 rfl rfl;have m0:=HX.out.cell 0 0 rfl rfl;have m3:=HX.out.cell 0 3 rfl rfl;clear hbc hbd;cases BAD with
  | true=>
   have HR:Hid (R=none):=Hd (by
    have h9:=HBAD.out;rw[HD.out,HFT.out];cases hfa:fitAt lo hi true (keysOf l) i with
    | false=>rw[fitTo_bad (i:=i) (by omega) hfa];rfl
    | true=>
     rw[hfa] at h9;have hv:valB yv=false:=by simpa using h9.symm
     have h8:(l.all fun c=>valB c.2)=false:=by
      rw[List.all_eq_false];exact⟨_,List.mem_of_getElem? HX1.out,by simp[hv]⟩
     rw[h8,Bool.and_false];rfl)
   go_wp2_with fail;go_ret;exact⟨by rw[HR.out];rfl,HB.out⟩
  | false=>
  have HT2:Hid (fitTo lo hi true (keysOf l) (i+1)=true):=Hd (by
   have h9:=HBAD.out;rw[fitTo_succ,HA.out,Bool.true_and];simp at h9;exact h9.1)
  have HRS2:Hid (∀j c,j<i+1→l[j]? = some c→valB c.2=true):=Hd (fun j c hj hc=>by
   by_cases hj9:j<i
   ·exact HRS.out j c hj9 hc
   ·obtain rfl:j=i:=by omega
    have h9:=HBAD.out;rw[HX1.out] at hc;cases hc;simp at h9;exact h9.2)
  go_wp2_with fail;go_roundw
  case rel=>exact⟨i+1,0,by omega,by go_num,rfl,rfl,HT2.out,HRS2.out,HB.out,HX.out.sub (fun p hp=>List.mem_cons_of_mem _ hp)⟩
  case measure=>simp[intOf];omega):p:=h
theorem q44d6a3 (h:p:=by
 go_enter Tryz.func103,Tryz.ntmps103;go_wp2_with fail
 try rw[hW1]
 clear hW1;refine CS1.mono ?_;rintro e w2 ⟨v2,rfl,ho2,hb2⟩;obtain⟨sa,sc,rfl,hrow⟩:=Row.of_own ho2;have HB2:=Hd (below_via HB0.out hb2);have HX2:=Hd (HX0.out.step hb2);have CSum:∀W,Below w2.heap.size w2 W→Calls Tryz.prog 150 #[.slice sa S.length sc] W (fun e w'=>e=.returned (.int .i64 sm)∧W=w'):=fun W hW=>by
  have:=refSum_any _ _ _ _ W (Row.below (Nat.le_refl _) hW hrow) HSm.out
  rwa [HSM.out] at this
 have CLow:∀W,Below w2.heap.size w2 W→Calls Tryz.prog 151 #[.slice sa S.length sc] W (fun e w'=>e=.returned (.bool (decide (sm<30)))∧W=w'):=fun W hW=>by
  have:=refLow_any _ _ _ _ W (Row.below (Nat.le_refl _) hW hrow) HSm.out
  rwa [HSM.out] at this
 clear n0 n1 n2 ho2 hrow CS1 CS2;have n0:=HX2.out.cell 0 0 rfl rfl;have n1:=HX2.out.cell 0 1 rfl rfl;have n2:=HX2.out.cell 0 2 rfl rfl;clear hb2;go_upto_region 2 with(fail)
 first|exact Mk.go 140668 zm qd7c4fc|exact Mk.go 619851 zm qee570b):p:=h
theorem qe37dd5 (h:p:=by
 have hE:gE=11:=by rw[HE.out,hN];rfl
 have hL:gL=[]:=by rw[HL.out,if_neg (by rw[hE];decide)]
 have hF:gF=false:=by rw[HF.out,if_neg (by rw[hE];decide)]
 subst hE hL hF;have BZ:=BY7.step (hb8 (.cells #[.string ⟨#[]⟩,.bool false,.int .i64 0,.int .i64 0] 209));have f0:=BZ.frozen 1 0 rfl;have f1:=BZ.frozen 1 1 rfl;have g0:=BZ.cell 1 0 rfl rfl;have g1:=BZ.cell 1 1 rfl rfl;have hta:=ta_none x w7;go_wp2_with fail;refine bodyPost_ret (v:=.tuple #[.agg #[.bool false,.slice none 0 0],.int .i64 11]) (by simp[results,Tryz.results96,go_sem,g0,g1]) rfl (getpost_none rfl ?_);have hz7:=hb7.size;exact((((below_then HB.out (below_then hbw7 (hb8 _))).setCell (Nat.le_refl _) _).setCell (Nat.le_refl _) _))):p:=h
theorem q14c47d (h:p:=by
 have o2:=hm6.box.cell 0 2 rfl rfl;have y0:=hx6.cell 0 0 rfl rfl;have y1:=hx6.cell 0 1 rfl rfl;have y2:=hx6.cell 0 2 rfl rfl;have y3:=hx6.cell 0 3 rfl rfl;obtain⟨wz,hwz⟩:∃x,w7.setCell ⟨w.heap.size+1,2,none⟩ (.slice aN (LL.length+1) cN)=x:=⟨_,rfl⟩
 rw[hwz] at hmP;have HMP:=Hd hmP;have HY1:=Hd hy1;have HY2:=Hd hy2;have HL':=Hd hl';clear hm6 ht6 ho6 hd6 hx6 hxcb ho' hd' ht' hres hy hy1 hy2 hmP ho56 hk6 hll hl' hbs
 go_wp2_with (at_builtin;refine wpList_append_run rfl _ _ _ _ rfl rfl rfl hrun ?_)
 go_roundw
 case rel=>exact⟨i+1,v',seen',E',_,LL',ys++[y],hlt,by go_num,by have:=HL'.out;have:=HLL.out;omega,HMP.out,HY1.out,HY2.out⟩
 case measure=>simp[intOf];omega):p:=h
theorem q8f9fd8 (h:p:=by
 go_wp2_with (at_builtin;refine wpList_append_row rfl _ _ 42 rfl w.heap.size 5 i0 _ 1 Tryz.underlying42 hi hz0 hz1 hz2 rfl _ 0 [] rfl (own_made .u8 w 5 [] rfl (Nat.le_refl _) (by unfold maxLen;simp)) .u8 (some x) len cap (toI l) rfl (h.below (Nat.le_refl _) ((Below.refl _ _).alloc (Nat.le_refl _) _)) (by unfold maxLen;omega) (by omega) (by simp) ?_)
 intro v2 w2 hown hg;have hB:=((Below.refl w.heap.size w).alloc (Nat.le_refl _) (.cells #[] 5)).grown hg (by simp) (fun k e=>by cases e;exact Nat.le_refl _);clear hg;have hown':w2.ownsRow w.heap.size 5 1 v2 l.length ((toI l).map (Value.int .u8)):=by
  rw[hll.out];simpa using hown
 clear hown
 go_wp2
 go_ret;exact⟨_,rfl,hown',hB⟩):p:=h
theorem q7316b0 (h:p:=by
 clear zm
 by_cases hlt:sl.length<n
 ·have hts:takeF ⟨sl,0⟩ n=([],⟨sl,10⟩):=by simp[takeF,hlt]
  rw[hts];clear hts;have hnew:Tk (w.setCell ⟨t,1,none⟩ (.int .i64 10)) t ⟨sl,10⟩:=
   ⟨a,cap,heap_setCell_at 1 (.int .i64 10) hblk,hbs.grown (grown_setCell _ _ _) (bs_ne hblk hbs)⟩
  have hgr:=grown_setCell w ⟨t,1,none⟩ (.int .i64 10);clear hblk hbs hT;go_enter Tryz.func105,Tryz.ntmps105;exact q11f35a
 ·have hts:takeF ⟨sl,0⟩ n=(sl.take n,⟨sl.drop n,0⟩):=by simp[takeF,hlt]
  have zm:=Mk.i 220052;exact q5e5f83):p:=h
theorem q909dbe (h:p:=by
 clear zm
 by_cases hlt:sl.length<n
 ·have hts:takeF ⟨sl,0⟩ n=([],⟨sl,10⟩):=by simp[takeF,hlt]
  rw[hts];clear hts;have hnew:Tk (w.setCell ⟨t,1,none⟩ (.int .i64 10)) t ⟨sl,10⟩:=
   ⟨a,cap,heap_setCell_at 1 (.int .i64 10) hblk,hbs.grown (grown_setCell _ _ _) (bs_ne hblk hbs)⟩
  have hgr:=grown_setCell w ⟨t,1,none⟩ (.int .i64 10);clear hblk hbs hT;go_enter Tryz.func107,Tryz.ntmps107;exact q11f35a
 ·have hts:takeF ⟨sl,0⟩ n=(sl.take n,⟨sl.drop n,0⟩):=by simp[takeF,hlt]
  have zm:=Mk.i 456089;exact q5e5f83):p:=h
theorem qcfe387 (h:p:=by
 clear zm
 by_cases hlt:sl.length<n
 ·have hts:takeF ⟨sl,0⟩ n=([],⟨sl,10⟩):=by simp[takeF,hlt]
  rw[hts];clear hts;have hnew:Tk (w.setCell ⟨t,1,none⟩ (.int .i64 10)) t ⟨sl,10⟩:=
   ⟨a,cap,heap_setCell_at 1 (.int .i64 10) hblk,hbs.grown (grown_setCell _ _ _) (bs_ne hblk hbs)⟩
  have hgr:=grown_setCell w ⟨t,1,none⟩ (.int .i64 10);clear hblk hbs hT;go_enter Tryz.func208,Tryz.ntmps208
  go_wp2
  go_ret;exact⟨_,rfl,⟨rfl,.inl ⟨rfl,rfl⟩⟩,hgr,hnew⟩
 ·have hts:takeF ⟨sl,0⟩ n=(sl.take n,⟨sl.drop n,0⟩):=by simp[takeF,hlt]
  have zm:=Mk.i 910913;exact q5e5f83):p:=h
theorem q0fdeb7 (h:p:=by
 obtain rfl:se=0:=by simpa using he
 clear he;have hT:=h;obtain⟨a,cap,hblk,hbs⟩:=h;dsimp only at hbs hblk hreach;have hc0:w.cell? ⟨t,0,none⟩=some (.slice a sl.length cap):=by simp[World.cell?,hblk]
 have hc1:w.cell? ⟨t,1,none⟩=some (.int .i64 0):=by simp[World.cell?,hblk]
 have hf0:w.frozen? ⟨t,0,none⟩=false:=by simp[World.frozen?,hblk]
 have hf1:w.frozen? ⟨t,1,none⟩=false:=by simp[World.frozen?,hblk]
 have hm:=hbs.cap;unfold maxLen at hm
 first|exact Mk.go 542448 zm q7316b0|exact Mk.go 477566 zm q909dbe|exact Mk.go 624199 zm qcfe387):p:=h
theorem qe30b5b (h:p:=by
 have BX:=HBX.out;have hbw:=hbl.out;have hx:=append_strs (own_below hown (Nat.le_refl _) hE) (cellN true e) (by omega) (Nat.le_trans hwl hE.size);obtain⟨v9,wz,hr9,ho9,hg9⟩:=hx;have hbe:=below_then hbw hE;have hz9:=hbe.grown hg9 hbe.size hov;have B9:=(BX.step hE).grown hg9 (fun p hp=>by simp at hp;subst hp;exact hnb);rw[←cellsN_snoc1 true l k e hy] at ho9;exact q426cc0):p:=h
theorem q075758 (h:p:=by
 have HE:Hid (SizesPost w S (.returned u3) wr):=Hd ⟨_,rfl,by rw[HSL.out];rw[List.take_of_length_le (by rw[HSL.out];exact Nat.le_refl _)] at hown;exact hown,hb⟩;clear hown hb hbx hnb;go_wp2_with fail;go_ret;exact HE.out):p:=h
theorem qcafdac (h:p:=by
 clear zm;have nbz:wz.cell? ⟨w.heap.size,1,none⟩=some (.bool true):=(hmP.ag.cell (b:=w.heap.size) (o:=1) ⟨by omega,by omega,by omega,fun e=>by have:=(HVG.out _ e).2;omega⟩ (by omega)).trans HNB1.out;have xn:∀W,AgreeF (fun x=>(Value.slice aE es.length cE).ownBlock≠some x∧x≠w.heap.size+1+1+1) wz W→W.cell? ⟨w.heap.size,1,none⟩=some (.bool true):=fun W hW=>(hW.cell (b:=w.heap.size) (o:=1) ⟨hge3,by show w.heap.size≠_;omega⟩ (by omega)).trans nbz
 have o4:=hmP.box.cell 1 1 rfl rfl;have hA00:AgreeF (fun x=>(Value.slice aE es.length cE).ownBlock≠some x∧x≠w.heap.size+1+1+1) wz wz.drew:=AgreeF.refl _;have hb0:Below wz.heap.size wz wz.drew:=below_drewN (Below.refl _ _) 1;have CW:=rcell_val wz.drew key d pa2 pn2 pc2 (pvL d left2) (hrowz.below (Nat.le_refl _) hb0) ka 0 kc;obtain⟨ee,hee⟩:∃x,entV (key,⟨d,pvL d left2⟩)=x:=⟨_,rfl⟩
 rw[hee] at CW;obtain⟨ek,evd,evf,evs,evp⟩:=ee;have CW:Calls Tryz.prog 133 #[.bool true,.agg #[.string (strOf key),.string (strOf d),.slice pa2 pn2 pc2,.slice ka 0 kc]] wz.drew fun e w'=>e=.returned (.agg #[.string (strOf ek),.string (strOf evd),.bool evf,.int .i64 evs,.int .i64 evp])∧Below wz.drew.heap.size wz.drew w':=CW
 have PC:∀w2,Below wz.drew.heap.size wz.drew w2→∃a9 c9 w9,(Builtin.append_ #[219,219] 219 #[.slice aE es.length cE,.slice (some ⟨w2.heap.size,0,none⟩) 1 1]).run Tryz.prog (w2.alloc (.cells #[.string (strOf ek),.string (strOf evd),.bool evf,.int .i64 evs,.int .i64 evp] 226))=.ok (.slice a9 (es.length+1) c9) w9∧w9.cell? ⟨w.heap.size+1+1+1,1,none⟩=some (.slice aE es.length cE)∧w9.frozen? ⟨w.heap.size+1+1+1,1,none⟩=false∧w2.cell? ⟨w.heap.size+1+1+1,1,none⟩=some (.slice aE es.length cE)∧w.heap.size+1+1+1<w2.heap.size ∧
  AgreeF (fun x=>(Value.slice aE es.length cE).ownBlock≠some x∧x≠w.heap.size+1+1+1) wz w2∧AgreeF (fun x=>(Value.slice aE es.length cE).ownBlock≠some x∧x≠w.heap.size+1+1+1) wz w9∧AgreeF (fun x=>(Value.slice aE es.length cE).ownBlock≠some x∧x≠w.heap.size+1+1+1) wz (w9.setCell ⟨w.heap.size+1+1+1,1,none⟩ (.slice a9 (es.length+1) c9))∧Hid (LM F w wB sb vL vL (w.heap.size+1+1) (w.heap.size+1+1+1) (w.heap.size+1) n true v5 (ws2++wvL d left2) la5 lc5 (left2.drop (needC d.length)) (.slice aN (LL.length+1) cN) LL' (ys++[⟨key,⟨d,pvL d left2⟩,none⟩]) (.slice a9 (es.length+1) c9) (es++[entV (key,⟨d,pvL d left2⟩)]) (w9.setCell ⟨w.heap.size+1+1+1,1,none⟩ (.slice a9 (es.length+1) c9))):=fun w2 hb2=>by
  have hm2:=(hmP.below hb0).below hb2;obtain⟨a9,c9,w9,hr2,g8,g9,gA,gB,hmQ⟩:=hm2.pushE (by omega) (entV (key,⟨d,pvL d left2⟩));rw[hee] at hr2;exact qb5d386
 have HL':=Hd hl';have hnx:(ys++[⟨key,⟨d,pvL d left2⟩,none⟩]=((dn++[(key,(⟨d,pvL d left2⟩:Tv))]).map fun c=>(⟨c.1,c.2,none⟩:Rc))∧es++[entV (key,⟨d,pvL d left2⟩)]=(dn++[(key,(⟨d,pvL d left2⟩:Tv))]).map entV∧(layVs l left).1=(dn++[(key,(⟨d,pvL d left2⟩:Tv))])++(layVs (l.drop (i+1)) (left2.drop (needC d.length))).1∧ws++(layVs l left).2.1=(ws2++wvL d left2)++(layVs (l.drop (i+1)) (left2.drop (needC d.length))).2.1∧((l.drop (i+1)).map fun c=>needC c.2.data.length).sum+1≤(left2.drop (needC d.length)).length∧(layVs l left).2.2=(layVs (l.drop (i+1)) (left2.drop (needC d.length))).2.2∧(ws2++wvL d left2).length+((l.drop (i+1)).map fun c=>needC c.2.data.length).sum+1≤40000):=by
  obtain⟨e1,e2,e3,e4,e5,e6,e7⟩:=HE.out;rw[HDR.out,layVs_step rfl] at e3 e4 e6;rw[HDR.out] at e5 e7;simp only[List.map_cons,List.sum_cons] at e5 e7;have hwl:(wvL d left2).length≤needC d.length:=by
   unfold wvL
   split
   ·simp
   ·simp only[List.length_zip,List.length_take];omega
  refine⟨by rw[e1,List.map_append];rfl,by rw[e2,List.map_append];rfl,by rw[e3];simp,by rw[e4];simp,by rw[List.length_drop];omega,e6,by rw[List.length_append];omega⟩
 have HNX:=Hd hnx;clear hnx;clear hm6 hyC ho6 hy6 hx6 hxc5 ho5 hy5 ht5 hv5 hv5c hrow5 hrow6 hfa5 hFc ho56 hoC hxz hrowz hmP hoP hl' hXA hee hsc hll hes hcbn nbz;go_upto_region 13 with(at_builtin;refine wpList_append_run rfl _ _ _ _ rfl rfl rfl hrun ?_)
 clear hrun f8 f9 hw6 hwz k1 k2 t1 t2 yc0 yc1 yc2 yc3 o2;refine wp_region_noPanic ?_;refine wp_region_held_drew (S:=(fun W=>AgreeF (fun x=>(Value.slice aE es.length cE).ownBlock≠some x∧x≠w.heap.size+1+1+1) wz W)) (by kernel_rfl) (by(repeat (with_reducible first|assumption|exact AgreeF.refl _|apply AgreeF.al|apply AgreeF.dr))) (fun hHeld=>?_);refine tks [0,2] ?_;refine tks [3,4] ?_;refine rdy2 1 5 (fun K hK=>?_) (fun K hK=>?_)
 ·(rw[if_pos (by rfl)];go_wp2_with (fail))
  refine bkA hK (fun hHeld=>?_);clear hK K;refine rdy 5 (fun K hK=>?_)
  (rw[if_pos (by rfl)];go_simp;(with_reducible refine CW.mono ?_);rintro e w2 ⟨rfl,hb2⟩;obtain⟨a9,c9,w9,hrun2,f8,f9,f7,hlt9,hA1,hA3,hA4,HQ⟩:=PC _ hb2;clear CW PC hb2;dsimp only)
  refine bkA hK (fun hHeld=>?_);clear hK K;refine rdy 6 (fun K hK=>?_)
  (rw[if_pos (by rfl)];go_wp2_with (fail))
  have zm:=Mk.i 252189;exact q099904
 ·(rw[if_pos (by rfl)];go_simp;(with_reducible refine CW.mono ?_);rintro e w2 ⟨rfl,hb2⟩;obtain⟨a9,c9,w9,hrun2,f8,f9,f7,hlt9,hA1,hA3,hA4,HQ⟩:=PC _ hb2;clear CW PC hb2;dsimp only)
  refine bkA hK (fun hHeld=>?_);clear hK K;refine rdy2 1 6 (fun K hK=>?_) (fun K hK=>?_)
  ·(rw[if_pos (by rfl)];go_wp2_with (fail))
   refine bkA hK (fun hHeld=>?_);clear hK K;refine rdy 6 (fun K hK=>?_)
   (rw[if_pos (by rfl)];go_wp2_with (fail))
   have zm:=Mk.i 252189;exact q099904
  ·(rw[if_pos (by rfl)];go_wp2_with (fail))
   refine bkA hK (fun hHeld=>?_);clear hK K;refine rdy 1 (fun K hK=>?_)
   (rw[if_pos (by rfl)];go_wp2_with (fail))
   have zm:=Mk.i 252189;exact q099904):p:=h
theorem qef6666 (h:p:=by
 clear zm;have nbz:wz.cell? ⟨w.heap.size,1,none⟩=some (.bool false):=(hmP.ag.cell (b:=w.heap.size) (o:=1) ⟨by omega,by omega,by omega,fun e=>by have:=(HVG.out _ e).2;omega⟩ (by omega)).trans HNB1.out;have xn:∀W,AgreeF (fun x=>(Value.slice aE es.length cE).ownBlock≠some x∧x≠w.heap.size+1+1+1) wz W→W.cell? ⟨w.heap.size,1,none⟩=some (.bool false):=fun W hW=>(hW.cell (b:=w.heap.size) (o:=1) ⟨hge3,by show w.heap.size≠_;omega⟩ (by omega)).trans nbz
 have o4:=hmP.box.cell 1 1 rfl rfl;have hA00:AgreeF (fun x=>(Value.slice aE es.length cE).ownBlock≠some x∧x≠w.heap.size+1+1+1) wz wz.drew:=AgreeF.refl _;have hb0:Below wz.heap.size wz wz.drew:=below_drewN (Below.refl _ _) 1;have CW:=rcell_kid wz.drew key [] pa 0 pc w5.heap.size 0 kp ⟨hkzl,hkz⟩ 1 1 (by omega);have PC:∀w2,Below wz.drew.heap.size wz.drew w2→∃a9 c9 w9,(Builtin.append_ #[219,219] 219 #[.slice aE es.length cE,.slice (some ⟨w2.heap.size,0,none⟩) 1 1]).run Tryz.prog (w2.alloc (.cells #[.string (strOf key),.string (strOf []),.bool false,.int .i64 0,.int .i64 kp] 226))=.ok (.slice a9 (es.length+1) c9) w9∧w9.cell? ⟨w.heap.size+1+1+1,1,none⟩=some (.slice aE es.length cE)∧w9.frozen? ⟨w.heap.size+1+1+1,1,none⟩=false∧w2.cell? ⟨w.heap.size+1+1+1,1,none⟩=some (.slice aE es.length cE)∧w.heap.size+1+1+1<w2.heap.size ∧
  AgreeF (fun x=>(Value.slice aE es.length cE).ownBlock≠some x∧x≠w.heap.size+1+1+1) wz w2∧AgreeF (fun x=>(Value.slice aE es.length cE).ownBlock≠some x∧x≠w.heap.size+1+1+1) wz w9∧AgreeF (fun x=>(Value.slice aE es.length cE).ownBlock≠some x∧x≠w.heap.size+1+1+1) wz (w9.setCell ⟨w.heap.size+1+1+1,1,none⟩ (.slice a9 (es.length+1) c9))∧Hid (LM F w wB sb vL vL (w.heap.size+1+1) (w.heap.size+1+1+1) (w.heap.size+1) n false v5 (ws2++RR.2.1) la5 lc5 RR.2.2 (.slice aN (LL.length+1) cN) LL' (ys++[⟨key,⟨[],[]⟩,some RR.1⟩]) (.slice a9 (es.length+1) c9) (es++[entK (key,RR.1)]) (w9.setCell ⟨w.heap.size+1+1+1,1,none⟩ (.slice a9 (es.length+1) c9))):=fun w2 hb2=>by
  have hm2:=(hmP.below hb0).below hb2;obtain⟨a9,c9,w9,hr2,g8,g9,gA,gB,hmQ⟩:=hm2.pushE (by omega) (entK (key,RR.1));have hr2:=hr2;rw[show(ecells (entK (key,RR.1))).toArray = #[.string (strOf key),.string (strOf []),.bool false,.int .i64 0,.int .i64 kp] by rw[hkp];rfl] at hr2;exact qb5d386
 have HL':=Hd hl';have hnx:(ys++[⟨key,⟨[],[]⟩,some RR.1⟩]=((dn++[(key,RR.1)]).map fun c=>(⟨c.1,⟨[],[]⟩,some c.2⟩:Rc))∧es++[entK (key,RR.1)]=(dn++[(key,RR.1)]).map entK∧(layKs (layT n) l left).1=(dn++[(key,RR.1)])++(layKs (layT n) (l.drop (i+1)) RR.2.2).1∧ws++(layKs (layT n) l left).2.1=(ws2++RR.2.1)++(layKs (layT n) (l.drop (i+1)) RR.2.2).2.1∧((l.drop (i+1)).map fun c=>freshN n c.2).sum+1≤RR.2.2.length∧(layKs (layT n) l left).2.2=(layKs (layT n) (l.drop (i+1)) RR.2.2).2.2∧(ws2++RR.2.1).length+((l.drop (i+1)).map fun c=>freshN n c.2).sum+1≤40000):=by
  obtain⟨e1,e2,e3,e4,e5,e6,e7⟩:=HE.out;rw[HDR.out] at e3 e4 e5 e6 e7;rw[layKs_step] at e3 e4 e6;dsimp only at e3 e4 e6;rw[HRR.out] at e3 e4 e6;simp only[List.map_cons,List.sum_cons] at e5 e7;have hwl:=layT_many n y2 left2;have hlf:=layT_left n y2 left2;rw[HRR.out] at hwl hlf;exact⟨by rw[e1,List.map_append];rfl,by rw[e2,List.map_append];rfl,by rw[e3];simp,by rw[e4];simp,by rw[hlf,List.length_drop];omega,e6,by rw[List.length_append];omega⟩
 have HNX:=Hd hnx;clear hnx;clear hm6 hyC ho6 hy6 hx6 hxc5 ho5 hy5 ht5 hv5 hv5c hkid5 hkid6 ho56 hob6 hoC hxz hxk hxk6 hxkz hxc5b hbk5 hsk5 hkz hkzl hv5lt hkp hmP hoP hl' hXA hsc hll hes hcbn nbz;go_upto_region 13 with(at_builtin;refine wpList_append_run rfl _ _ _ _ rfl rfl rfl hrun ?_)
 clear hrun f8 f9 hw6 hw5b hwz k3 t3 yc0 yc1 yc2 yc3 o2;refine wp_region_noPanic ?_;refine wp_region_held_drew (S:=(fun W=>AgreeF (fun x=>(Value.slice aE es.length cE).ownBlock≠some x∧x≠w.heap.size+1+1+1) wz W)) (by kernel_rfl) (by(repeat (with_reducible first|assumption|exact AgreeF.refl _|apply AgreeF.al|apply AgreeF.dr))) (fun hHeld=>?_);refine tks [0,2] ?_;refine tks [3,4] ?_;refine rdy2 1 5 (fun K hK=>?_) (fun K hK=>?_)
 ·(rw[if_pos (by rfl)];go_wp2_with (fail))
  refine bkA hK (fun hHeld=>?_);clear hK K;refine rdy 5 (fun K hK=>?_)
  (rw[if_pos (by rfl)];go_simp;(with_reducible refine CW.mono ?_);rintro e w2 ⟨rfl,hb2⟩;obtain⟨a9,c9,w9,hrun2,f8,f9,f7,hlt9,hA1,hA3,hA4,HQ⟩:=PC _ hb2;clear CW PC hb2;dsimp only)
  refine bkA hK (fun hHeld=>?_);clear hK K;refine rdy 6 (fun K hK=>?_)
  (rw[if_pos (by rfl)];go_wp2_with (fail))
  have zm:=Mk.i 278690;exact q099904
 ·(rw[if_pos (by rfl)];go_simp;(with_reducible refine CW.mono ?_);rintro e w2 ⟨rfl,hb2⟩;obtain⟨a9,c9,w9,hrun2,f8,f9,f7,hlt9,hA1,hA3,hA4,HQ⟩:=PC _ hb2;clear CW PC hb2;dsimp only)
  refine bkA hK (fun hHeld=>?_);clear hK K;refine rdy2 1 6 (fun K hK=>?_) (fun K hK=>?_)
  ·(rw[if_pos (by rfl)];go_wp2_with (fail))
   refine bkA hK (fun hHeld=>?_);clear hK K;refine rdy 6 (fun K hK=>?_)
   (rw[if_pos (by rfl)];go_wp2_with (fail))
   have zm:=Mk.i 278690;exact q099904
  ·(rw[if_pos (by rfl)];go_wp2_with (fail))
   refine bkA hK (fun hHeld=>?_);clear hK K;refine rdy 1 (fun K hK=>?_)
   (rw[if_pos (by rfl)];go_wp2_with (fail))
   have zm:=Mk.i 278690;exact q099904):p:=h
theorem q7b3416 (h:p:=by
 have hzl:=hmP.lt;have hbz:wr.heap.size<wz.heap.size:=by have:=hxz.lt 0 rfl;exact this
 have hge2:(Value.slice aE es.length cE).ownBlock≠some wr.heap.size:=fun e=>by have:=(HM.out.lge e).2;omega
 have hge3:(Value.slice aE es.length cE).ownBlock≠some w.heap.size:=fun e=>by have:=(HM.out.lge e).1;omega
 have hXA:∀(k:Nat) (u:Value),wz.cell? ⟨wr.heap.size,k,none⟩=some u→∀W,AgreeF (fun x=>(Value.slice aE es.length cE).ownBlock≠some x∧x≠w.heap.size+1+1+1) wz W→W.cell? ⟨wr.heap.size,k,none⟩=some u:=fun k u h W hW=>(hW.cell (b:=wr.heap.size) (o:=k) ⟨hge2,by show wr.heap.size≠_;omega⟩ hbz).trans h
 have x0:=hXA 0 _ (hxz.cell 0 0 rfl rfl);have x1:=hXA 1 _ (hxz.cell 0 1 rfl rfl);have x2:=hXA 2 _ (hxz.cell 0 2 rfl rfl);have x3:=hXA 3 _ (hxz.cell 0 3 rfl rfl)
 first|exact Mk.go 303212 zm qcafdac|exact Mk.go 689318 zm qef6666):p:=h
theorem q993faf (h:p:=by
 go_wp2_with fail;go_ret;exact⟨by rw[HE.out];rfl,HB.out⟩):p:=h
theorem qe6df50 (h:p:=by
 clear zm;clear n0 n1 o0 o1;go_wp2_with fail
 go_region
 exact qa326a8):p:=h
theorem qbffc7b (h:p:=by
 clear zm;exact qa326a8):p:=h
theorem qfbe583 (h:p:=by
 have hsl8:=hc8.sl;rw[hlen] at hsl8;obtain⟨va8,vc8,rfl,hvc8,hvm8,_,_⟩:=hsl8;have hge:∀b,(Value.slice va0 i vc0).ownBlock=some b→w.heap.size+3≤b:=fun b hb=>(HC.out.block hb).1
 have hx8:=(HX.out.step hwb).grown hg8 (by intro p hp e;simp at hp;have:=hge _ e;rcases hp with rfl|rfl|rfl<;>simp at this<;>omega);have hb8:=(hb.trans (hwb.mono hb.size)).grown hg8 (Nat.le_trans hb.size hwb.size) (fun k hk=>by have:=hge k hk;omega);have HX8:=Hd hx8;have HB8:=Hd hb8;have HC8:=Hd hc8;have r2:=hx8.cell 0 2 rfl rfl;have ru:=hx8.frozen 0 2 rfl;have z0:=hxq.cell 0 0 rfl rfl;have z1:=hxq.cell 0 1 rfl rfl;have z2:=hxq.cell 0 2 rfl rfl;have z3:=hxq.cell 0 3 rfl rfl;have y2:=(HX.out.step hwb).cell 0 2 rfl rfl;have y4:=(HX.out.step hwb).cell 2 4 rfl rfl;clear hx8 hb8 hc8 hg8 hxq hy hyi hge hlen
 first|exact Mk.go 130448 zm qe6df50|exact Mk.go 582011 zm qbffc7b):p:=h
theorem qe02527 (h:p:=by
 go_upto_region 17 with(fail)
 go_upto_region 19 with(fail)
 go_wp2_with (at_builtin;refine wpList_append_run rfl _ _ _ _ rfl rfl rfl hr19 ?_)
 go_roundw
 case rel=>exact⟨i+1,a19,d19,hlt,by go_num,HX20.out,by rw[HS.out,←List.append_assoc];exact HC20.out,HB20.out⟩
 case measure=>simp[intOf];omega):p:=h
theorem q2f0efd (h:p:=by
 clear zm;rw[hlf,hm,hpg];have CF:=fits_any (hh.below hB0) hb lo hi hlo hhi;have CS:=fun W (hW:Below w.heap.size w W)=>tsizes_any (hh.below hW) hb
 have hSm:=hb.small;have hsum:(decide (sumT t≤122)=decide (sumI (sizesT t)≤122))∧(lowT t=decide (sumI (sizesT t)<30)):=⟨rfl,rfl⟩
 obtain⟨R,hR⟩:∃R,depthT (n+1) t lo hi root=R:=⟨_,rfl⟩
 have hfail:(fitT lo hi t && sizeB root t)=false→R=none:=fun h=>by
  rw[←hR];cases t<;>(unfold depthT;rw[h];rfl)
 have hsz:sizeB root t=(decide ((if lf then 1 else 2)≤m) && (decide (sumI (sizesT t)≤122) && (root || !decide (sumI (sizesT t)<30)))):=by
  unfold sizeB;rw[hlf,hm];rfl
 have H1:=Hd h1;have HFAIL:=Hd hfail;have HSZ:=Hd hsz;have HB:=Hd hB0;have HX:=Hd hX0;have hkids:∃l:List (List UInt8×Tr),(lf=false→((fitT lo hi t && sizeB root t)=true→R=depK (fun t lo hi=>depthT n t lo hi false) lo hi 0 0 l)∧l.length=m∧keysOf l=t.keys∧(∀c∈l,c.1.length≤200∧Bnd n c.2)∧TabR 5 (NodeIn n w) w ca cn cc (l.map (·.2)))∧(lf=true→(fitT lo hi t && sizeB root t)=true→R=some 0):=by
  cases t with
  | leaf p l0=>exact⟨[],(fun h=>by rw[←hlf] at h;cases h),(fun _ h=>by rw[←hR,depthT_leaf,if_pos h])⟩
  | node p l0=>exact⟨l0,(fun _=>⟨(fun h=>by rw[←hR,depthT_node,if_pos h]),hm,rfl,hb.2,Raw.tab h3 h4.2.2⟩),(fun h=>by rw[←hlf] at h;cases h)⟩
 obtain⟨l,hl1,hl2⟩:=hkids;have HL1:=Hd hl1;have HL2:=Hd hl2;have HSm:=Hd hSm;clear h h1 h2 h3 h4 hB0 hX0 hlf hm hpg r2 hb hfail hsz hl1 hl2 hsum hSm hh;generalize t.keys=K at *;generalize fitT lo hi t=FT at *;generalize sizeB root t=SZ at *;obtain⟨S,hS⟩:∃S,sizesT t=S:=⟨_,rfl⟩
 rw[hS] at CS HSZ HSm;rw[hR];clear hS hR;have n0:=HX.out.cell 1 0 rfl rfl;have n1:=HX.out.cell 1 1 rfl rfl;have n2:=HX.out.cell 1 2 rfl rfl;have n3:=HX.out.cell 1 3 rfl rfl;have n4:=HX.out.cell 1 4 rfl rfl;have s0:=HX.out.cell 0 0 rfl rfl;have s1:=HX.out.cell 0 1 rfl rfl;cases lf with
 | true=>
  simp only[if_true] at hcn;replace hcn:=hcn.symm;subst hcn;replace HSZ:Hid (SZ=(decide (1≤m) && (decide (sumI S≤122) && (root || !decide (sumI S<30))))):=Hd HSZ.out;go_enter Tryz.func98,Tryz.ntmps98;go_wp2_with fail
  try rw[hwA]
  clear hwA;cases FT with
  | false=>
   have zm:=Mk.i 905981;exact q0fde97
  | true=>
   by_cases hle:m<1
   ·have d1:decide ((m:Int)<1)=true:=by simp;omega
    have d1':decide (m<1)=true:=by simp;omega
    have HLE:=Hd hle;clear hle;have zm:=Mk.i 875366;exact q0fde97
   have d1:decide ((m:Int)<1)=false:=by simp;omega
   have d1':decide (m<1)=false:=by simp;omega
   have HLE:Hid (1≤m):=Hd (by omega);clear hle;have zm:=Mk.i 776934;exact q0fde97
 | false=>
  simp only[Bool.false_eq_true,if_false] at hcn;replace hcn:=hcn.symm;subst hcn;replace HSZ:Hid (SZ=(decide (2≤m) && (decide (sumI S≤122) && (root || !decide (sumI S<30))))):=Hd HSZ.out;go_enter Tryz.func98,Tryz.ntmps98;go_wp2_with fail
  try rw[hwA]
  clear hwA;cases FT with
  | false=>
   have zm:=Mk.i 905981;exact q0fde97
  | true=>
   by_cases hle:m<2
   ·have d1:decide ((m:Int)<2)=true:=by simp;omega
    have d1':decide (m<2)=true:=by simp;omega
    have HLE:=Hd hle;clear hle;have zm:=Mk.i 875366;exact q0fde97
   have d1:decide ((m:Int)<2)=false:=by simp;omega
   have d1':decide (m<2)=false:=by simp;omega
   have HLE:Hid (2≤m):=Hd (by omega);clear hle;have zm:=Mk.i 125821;exact q0fde97):p:=h
theorem q72cf62 (h:p:=by
 clear zm;rw[hm] at h1;rw[hlf,hm,hpg];have CC:=fitsc_any (TabR.move hv1 hB0 (fun _ _ _ h=>h.below hB0)) hv2;have hK:∀i,i<m→(t.keys[i]?.getD []).length≤200:=fun i hi=>by
  cases t with
  | leaf p l=>
   have hm:l.length=m:=hm;have:=(hb.2 l[i] (List.getElem_mem (by omega))).1;simpa[Tr.keys,keysOf,show i<l.length by omega] using this
  | node p l=>
   have hm:l.length=m:=hm;have:=(hb.2 l[i] (List.getElem_mem (by omega))).1;simpa[Tr.keys,keysOf,show i<l.length by omega] using this
 have H1:=Hd h1;have HB:=Hd hB0;have HFIT:=Hd hfit;have HK:=Hd hK;have n0:=hX0.cell 1 0 rfl rfl;have n1:=hX0.cell 1 1 rfl rfl;have n2:=hX0.cell 1 2 rfl rfl;have n3:=hX0.cell 1 3 rfl rfl;have n4:=hX0.cell 1 4 rfl rfl;have s0:=hX0.cell 0 0 rfl rfl;have s1:=hX0.cell 0 1 rfl rfl;clear h h1 h2 h3 h4 hB0 hX0 hlf hm hpg r1 r2 hb hv1 hv2 hfit hK;generalize t.keys=K at *;obtain⟨FT,hFT⟩:∃x,fitT lo hi t=x:=⟨_,rfl⟩
 rw[hFT] at HFIT ⊢;clear hFT;obtain⟨VA,hVA⟩:∃x,vl.all valB=x:=⟨_,rfl⟩
 rw[hVA] at HFIT CC;clear hVA;cases lf with
 | true=>
  simp only[if_true] at hvn hcn;subst hvn hcn;go_enter Tryz.func142,Tryz.ntmps142;go_wp2_with fail
  try rw[hwA]
  clear hwA
  go_loop [5,6,7,48] (fun _ _ _ s=>∃i:Nat,i≤vn∧s=.int .i64 i∧fitTo lo hi true K i=true) (fun _ _ _ s=>vn-(intOf s).toNat)
  case atStart=>exact⟨0,Nat.zero_le _,rfl,rfl⟩
  case round=>
   obtain⟨i,hi',rfl,hall⟩:=hrel
   by_cases hlt:i<vn
   ·obtain⟨b,off,rfl,hbb,hcell⟩:=H1.out.key_at hlt
    have k0:=(HB.out.cell (p:=⟨b,off+i,none⟩) hbb).trans hcell;have hkl:=HK.out i hlt;obtain⟨k,hk⟩:∃k,K[i]?.getD []=k:=⟨_,rfl⟩
    rw[hk] at hkl k0;have hsz:=strOf_size k;have HKK:=Hd hk;have HA:=Hd hall;clear hk hcell hall;cases i with
    | zero=>
     rw[Nat.add_zero] at k0;have d0:decide ((0:Int)<(vn:Int))=true:=by simp;omega
     have d0':decide (0<vn)=true:=by simp;omega
     by_cases hk0:k=[]
     ·obtain⟨e1,e2⟩:=str_empty hk0
      exact q74289f
     obtain⟨e1,e2⟩:=str_some hk0;have HK0:=Hd hk0;clear hk0;obtain⟨kl,hkl0⟩:∃x,k.length=x:=⟨_,rfl⟩
     rw[hkl0] at hsz hkl;have HKL:=Hd hkl0;clear hkl0
     by_cases hl:16<kl
     ·have q1:decide ((16:Int)<kl)=true:=by simp;omega
      have q1':decide (16<kl)=true:=by simp;omega
      have HE:Hid (FT=false):=Hd (by rw[HFIT.out,fitTo_bad (i:=0) (by omega) (by have h9:=HKL.out;unfold fitAt;rw[HKK.out];simp;omega)];rfl);exact q993faf
     have q1:decide ((16:Int)<kl)=false:=by simp;omega
     have q1':decide (16<kl)=false:=by simp;omega
     have HL16:Hid (k.length≤16):=Hd (by have:=HKL.out;omega)
     by_cases hlo2:k<lo
     ·obtain⟨l1,l2,_,_⟩:=cmp_lt hlo2
      have HLO:=Hd hlo2;clear hlo2 l2;have HE:Hid (FT=false):=Hd (by rw[HFIT.out,fitTo_bad (i:=0) (by omega) (by unfold fitAt;rw[HKK.out];simp[HLO.out])];rfl);exact q993faf
     have l1:Op.bytesLess (strOf k).toList (strOf lo).toList=false:=by rw[strOf_toList,strOf_toList,bytes_lessT];simpa using hlo2
     have HLO:=Hd hlo2;clear hlo2
     by_cases hh:hi=[]
     ·obtain⟨e3,e4⟩:=str_empty hh
      have HH:=Hd hh;clear hh;have HT2:Hid (fitTo lo hi true K (0+1)=true):=Hd (by rw[fitTo_succ,HA.out,Bool.true_and];unfold fitAt;rw[HKK.out];simp[HK0.out,HL16.out,HLO.out,HH.out]);exact q317315
     obtain⟨e3,e4⟩:=str_some hh;have HH:=Hd hh;clear hh
     by_cases hh2:k<hi
     ·have g1:Op.bytesLess (strOf k).toList (strOf hi).toList=true:=by rw[strOf_toList,strOf_toList,bytes_lessT];simpa using hh2
      have HH2:=Hd hh2;clear hh2;have HT2:Hid (fitTo lo hi true K (0+1)=true):=Hd (by rw[fitTo_succ,HA.out,Bool.true_and];unfold fitAt;rw[HKK.out];simp[HK0.out,HL16.out,HLO.out,HH2.out]);exact q317315
     ·have g1:Op.bytesLess (strOf k).toList (strOf hi).toList=false:=by rw[strOf_toList,strOf_toList,bytes_lessT];simpa using hh2
      have HH2:=Hd hh2;clear hh2;have HE:Hid (FT=false):=Hd (by rw[HFIT.out,fitTo_bad (i:=0) (by omega) (by unfold fitAt;rw[HKK.out];simp[HH.out,HH2.out])];rfl);exact q993faf
    | succ i=>
     obtain⟨b2,off2,e2,hb2,hc2⟩:=H1.out.key_at (show i<vn by omega);cases e2;have k1:=(HB.out.cell (p:=⟨b,off+i,none⟩) hbb).trans hc2;have hkl2:=HK.out i (by omega);obtain⟨kp,hkp⟩:∃k,K[i]?.getD []=k:=⟨_,rfl⟩
     rw[hkp] at hkl2 k1;have d0:decide (((i+1:Nat):Int)<(vn:Int))=true:=by simp;omega
     have d0':decide (i+1<vn)=true:=by simp;omega
     have zm:=Mk.i 899411;exact qd0c851
   ·obtain rfl:i=vn:=by omega
    exact q7a1f1a
 | false=>
  simp only[Bool.false_eq_true,if_false] at hvn hcn;subst hvn hcn;go_enter Tryz.func142,Tryz.ntmps142;go_wp2_with fail
  try rw[hwA]
  clear hwA
  go_loop [5,6,7,48] (fun _ _ _ s=>∃i:Nat,i≤cn∧s=.int .i64 i∧fitTo lo hi false K i=true) (fun _ _ _ s=>cn-(intOf s).toNat)
  case atStart=>exact⟨0,Nat.zero_le _,rfl,rfl⟩
  case round=>
   obtain⟨i,hi',rfl,hall⟩:=hrel
   by_cases hlt:i<cn
   ·obtain⟨b,off,rfl,hbb,hcell⟩:=H1.out.key_at hlt
    have k0:=(HB.out.cell (p:=⟨b,off+i,none⟩) hbb).trans hcell;have hkl:=HK.out i hlt;obtain⟨k,hk⟩:∃k,K[i]?.getD []=k:=⟨_,rfl⟩
    rw[hk] at hkl k0;have hsz:=strOf_size k;have HKK:=Hd hk;have HA:=Hd hall;clear hk hcell hall;cases i with
    | zero=>
     rw[Nat.add_zero] at k0;have d0:decide ((0:Int)<(cn:Int))=true:=by simp;omega
     have d0':decide (0<cn)=true:=by simp;omega
     by_cases hk0:k=[]
     ·obtain⟨e1,e2⟩:=str_empty hk0
      have hl0:k.length=0:=by rw[hk0];rfl
      have HK0:=Hd hk0;rw[hl0] at hsz;clear hk0 hl0 hkl
      by_cases hh:hi=[]
      ·obtain⟨e3,e4⟩:=str_empty hh
       have HH:=Hd hh;clear hh;have HT2:Hid (fitTo lo hi false K (0+1)=true):=Hd (by rw[fitTo_succ,HA.out,Bool.true_and];unfold fitAt;rw[HKK.out];simp[HK0.out,HH.out]);exact q317315
      ·obtain⟨e3,e4⟩:=str_some hh
       have hlt2:k<hi:=by rw[HK0.out];exact knil_lt hh
       have g1:Op.bytesLess [] (strOf hi).toList=true:=by rw[strOf_toList,bytes_lessT];simpa using knil_lt hh
       have HH:=Hd hlt2;clear hh hlt2;have HT2:Hid (fitTo lo hi false K (0+1)=true):=Hd (by rw[fitTo_succ,HA.out,Bool.true_and];have h9:=HH.out;rw[HK0.out] at h9;unfold fitAt;rw[HKK.out,HK0.out];simp[h9]);exact q317315
     ·obtain⟨e1,e2⟩:=str_some hk0
      exact q74289f
    | succ i=>
     obtain⟨b2,off2,e2,hb2,hc2⟩:=H1.out.key_at (show i<cn by omega);cases e2;have k1:=(HB.out.cell (p:=⟨b,off+i,none⟩) hbb).trans hc2;have hkl2:=HK.out i (by omega);obtain⟨kp,hkp⟩:∃k,K[i]?.getD []=k:=⟨_,rfl⟩
     rw[hkp] at hkl2 k1;have d0:decide (((i+1:Nat):Int)<(cn:Int))=true:=by simp;omega
     have d0':decide (i+1<cn)=true:=by simp;omega
     have zm:=Mk.i 793022;exact qd0c851
   ·obtain rfl:i=cn:=by omega
    exact q7a1f1a):p:=h
theorem q798742 (h:p:=by
 have hB0:Below w.heap.size w ((w.alloc (.cells #[.int .i64 pg,.bool lf,.slice ka m kc,.slice va vn vc,.slice ca cn cc] 50)).alloc (.cells #[.string (strOf lo),.string (strOf hi)] 215)):=Below.al (Below.al (Below.refl _ _));have hX0:Boxes _ [(w.heap.size+1,[.string (strOf lo),.string (strOf hi)]),(w.heap.size,[.int .i64 pg,.bool lf,.slice ka m kc,.slice va vn vc,.slice ca cn cc])]:=((Boxes.nil w).alloc #[.int .i64 pg,.bool lf,.slice ka m kc,.slice va vn vc,.slice ca cn cc] 50 rfl).alloc #[.string (strOf lo),.string (strOf hi)] 215 (b:=w.heap.size+1) (by simp);obtain⟨wA,hwA⟩:∃wA,(w.alloc (.cells #[.int .i64 pg,.bool lf,.slice ka m kc,.slice va vn vc,.slice ca cn cc] 50)).alloc (.cells #[.string (strOf lo),.string (strOf hi)] 215)=wA:=⟨_,rfl⟩
 rw[hwA] at hB0 hX0
 first|exact Mk.go 84029 zm q2f0efd|exact Mk.go 524194 zm q72cf62):p:=h
theorem qb88622 (h:p:=by
 clear zm;clear ho8 hg8 hv8;clear hown hb hbx hnb q1 hst;exact qc8f5eb):p:=h
theorem qcb51fa (h:p:=by
 clear zm;clear hown hb hbx hnb ho8 hg8 hv8 q1 hst;exact qc8f5eb):p:=h
theorem qa6514e (h:p:=by
 clear zm;clear hown hb hbx hnb ho8 hg8 hv8 q1 hst;clear hvs;go_wp2_with fail;refine(N _).mono ?_;rintro e w2 ⟨rfl,rfl⟩;exact qc8f5eb):p:=h
theorem q37f2f9 (h:p:=by
 have HB8:=Hd (hb.grown hg8 hb.size (own_ge hown));have HX8:=Hd (hbx.grown hg8 (by intro p hp;simp at hp;subst hp;exact hnb));have HN8:Hid (v8.ownBlock≠some w.heap.size):=Hd (by
  rcases hv8 with h|h
  ·rw[h];exact hnb
  ·rw[h];intro e;have:=hb.size;have:=Option.some.inj e;omega)
 have HO8:Hid (w8.ownsRow w.heap.size 3 1 v8 (i+1) ((S.take (i+1)).map (Value.int .i64))):=Hd (by
  rw[hst.out,q1,List.map_append];exact ho8)
 first|exact Mk.go 92962 zm qb88622|exact Mk.go 324794 zm qcb51fa|exact Mk.go 899790 zm qa6514e):p:=h
theorem qd21dd5 (h:p:=by
 go_wp2_with fail
 try rw[hwA]
 refine CF.mono ?_;rintro e w2 ⟨rfl,hb2⟩;have HB2:=Hd (HB.out.trans (hb2.mono HB.out.size));clear CF hb2;go_wp2_with fail;go_ret;exact⟨by rw[HE.out];rfl,HB2.out⟩):p:=h
theorem qeaa10d (h:p:=by
 clear zm
 by_cases hlt:i<l.length
 ·have H1L:TabR 4 (RcOn G n w) w a l.length c (cellsR (.leaf 0 l)):=H1.out
  obtain⟨b,off,y,pa,pn,pc,ka,kn,kc,rfl,hbb,hyc,_,hrow,_,htk,hfk,k0,k1,k2,k3⟩:=RNodeOn.cell H1L hlt;have hGb:G b:=(HFA.out.resolve_left (by omega)) b off rfl;have hgb:=HG.out b hGb;have hkeep:∀(b' o:Nat),G b'→wr.cell? ⟨b',o,none⟩=w.cell? ⟨b',o,none⟩:=fun b' o hg=>World.cell?_of_block (hm.ol.block (k:=b') (HG.out b' hg).1 (fun hmm=>by
   rcases RS.mem.1 hmm with e|e
   ·exact(HG.out b' hg).2.1 e
   ·exact(HG.out b' hg).2.2 e))
  rw[cellsR_leaf] at hyc;obtain⟨x,hx1,hx2⟩:=Option.map_eq_some_iff.1 hyc;subst hx2;obtain⟨key,tv⟩:=x;dsimp only at *;have hxm:(key,tv)∈l:=List.mem_of_getElem? hx1;have g0:=(hkeep b (off+i*4) hGb).trans k0;have g1:=(hkeep b (off+i*4+1) hGb).trans k1;have g2:=(hkeep b (off+i*4+2) hGb).trans k2;have g3:=(hkeep b (off+i*4+3) hGb).trans k3;have hdr:l.drop i=(key,tv)::l.drop (i+1):=by
   have:=List.getElem?_eq_some_iff.1 hx1;rw[←this.2,List.drop_eq_getElem_cons]
  have q1:decide ((i:Int)<(l.length:Int))=true:=decide_eq_true (by omega);have q2:decide (i<l.length)=true:=decide_eq_true hlt;have hbig:=HBK.out _ hxm;have hpg:tv.pages=[]:=HV.out _ hxm;obtain⟨d,pg⟩:=tv;dsimp only at *;subst hpg;have hpn:pn=0:=hrow.1.symm;subst hpn;have hkn:kn=0:=htk.1.symm;subst hkn;obtain⟨wc,hwc⟩:∃x,x=wr.alloc (.cells #[.string (strOf key),.string (strOf d),.slice pa 0 pc,.slice ka 0 kc] 145):=⟨_,rfl⟩
  have hbc:Below wr.heap.size wr wc:=by rw[hwc];exact Below.al (Below.refl _ _)
  have hsc:wc.heap.size=wr.heap.size+1:=by rw[hwc];simp
  have hxc:Boxes wc [(wr.heap.size,[.string (strOf key),.string (strOf d),.slice pa 0 pc,.slice ka 0 kc])]:=by rw[hwc];exact(Boxes.nil wr).alloc #[.string (strOf key),.string (strOf d),.slice pa 0 pc,.slice ka 0 kc] 145 rfl
  have c1:=hxc.cell 0 1 rfl rfl;have c2:=hxc.cell 0 2 rfl rfl;have nc1:=(hbc.cell (p:=⟨w.heap.size,1,none⟩) (show w.heap.size<wr.heap.size by omega)).trans nb1;have hpa:Row .i64 wc pa 0 pc []:=⟨rfl,hrow.2.1,hrow.2.2.1,hrow.2.2.2.1,.inl rfl⟩
  obtain⟨e1,e2,e3,e4,e5,e6,e7⟩:=hinv;have CV:=lvalue_any (hm.ly.below hbc) (by omega) d (by omega) pa pc hpa (by rw[hdr] at e5;simp only[List.map_cons,List.sum_cons] at e5;omega);have HM:=Hd hm;have HLL:=Hd hLL;have HES:=Hd hes;have HBC:=Hd hbc;have HSC:=Hd hsc;have HXC:=Hd hxc;have HDR:=Hd hdr;have HXM:=Hd hxm;have HWC:=Hd hwc;have HDN:=Hd hdn;have HKC:=Hd htk;have HE:=Hd (And.intro e1 (And.intro e2 (And.intro e3 (And.intro e4 (And.intro e5 (And.intro e6 e7))))));clear hm hLL hes hbc hsc hxc hdr hxm hwc hdn hrow htk hfk hyc hx1 hkeep nbr hpa e1 e2 e3 e4 e5 e6 e7 k0 k1 k2 k3;go_upto_region 9 with(fail)
  rw[←HWC.out];go_wp2_with fail;refine CV.mono ?_;rintro e w5 ⟨pa2,pn2,pc2,v5,la5,lc5,rfl,hy5,ho5,ht5,hrow5,hfa5⟩;have hsc:=HSC.out;have hcbn:wr.heap.size∉RS sb vi:=fun hmm=>by
   rcases RS.mem.1 hmm with e|e
   ·omega
   ·have:=(HM.out.vne e).2.2.2;omega
  have hxc5:=HXC.out.only ho5 (by intro q hq;simp at hq;subst hq;exact hcbn);have hs5:=ho5.size;have hv5:∀k,v5.ownBlock=some k→vi.ownBlock=some k∨wc.heap.size≤k:=fun k hk=>by
   rcases ht5 with t|t
   ·exact .inl (t ▸ hk)
   ·exact .inr (t k hk)
  have hv5c:v5.ownBlock≠some wr.heap.size:=fun e=>by
   rcases hv5 _ e with e|e
   ·exact hcbn (RS.mem.2 (.inr e))
   ·omega
  obtain⟨w6,hw6⟩:∃x,(w5.setCell ⟨wr.heap.size,1,none⟩ (.string (strOf d))).setCell ⟨wr.heap.size,2,none⟩ (.slice pa2 pn2 pc2)=x:=⟨_,rfl⟩
  have k1:=hxc5.cell 0 1 rfl rfl;have k2:=hxc5.cell 0 2 rfl rfl;have t1:=hxc5.frozen 0 1 rfl;have t2:=hxc5.frozen 0 2 rfl;have hx6:Boxes w6 [(wr.heap.size,[.string (strOf key),.string (strOf d),.slice pa2 pn2 pc2,.slice ka 0 kc])]:=by rw[←hw6];exact(hxc5.put 1 (.string (strOf d)) (by intro q hq;simp at hq)).put 2 (.slice pa2 pn2 pc2) (by intro q hq;simp at hq)
  have ho56:Only [wr.heap.size] w5 w6:=by rw[←hw6];exact((Only.refl _ _).set _ _ (by simp)).set _ _ (by simp)
  have hFc:∀b,F b→b∉[wr.heap.size]:=fun b hb hm=>by have:=HFB.out b hb;simp at hm;omega
  have hrow6:=row_fa hrow5 hfa5 ho56 hFc;have hy6:=hy5.only ho56 (fun k hk=>by simp at hk;subst hk;exact⟨by omega,hv5c⟩);have ho6:Only (RS sb vi) wr w6:=((Only.of_below HBC.out).trans ho5).then ho56 (fun k hk=>by simp at hk;subst hk;exact .inr (Nat.le_refl _));have hm6:=HM.out.turn hy6 ho6 (ht5.from (by omega));have hll:=HLL.out;have hes:=HES.out;have hyC:RcOn (LG F wB.heap.size v5 (.slice aC LL.length cC) (.slice aE es.length cE)) n w6 [.string (strOf key),.string (strOf d),.slice pa2 pn2 pc2,.slice ka 0 kc] ⟨key,⟨d,pvL d left2⟩,none⟩:=
   ⟨pa2,pn2,pc2,ka,0,kc,rfl,hrow6,hfa5.mono (fun b hb=>.inl hb),⟨rfl,HKC.out.2.1,HKC.out.2.2.1,HKC.out.2.2.2.1,.inl rfl⟩,.inl rfl⟩
  obtain⟨aN,cN,w7,LL',hrun,f8,f9,hl',hmP,hoP⟩:=hm6.pushC (by omega) (x0:=.string (strOf key)) (x1:=.string (strOf d)) (x2:=.slice pa2 pn2 pc2) (x3:=.slice ka 0 kc) (by intro u hu;simp at hu;rcases hu with rfl|rfl|rfl|rfl<;>rfl) hyC;have o2:=hm6.box.cell 0 2 rfl rfl;have yc0:=hx6.cell 0 0 rfl rfl;have yc1:=hx6.cell 0 1 rfl rfl;have yc2:=hx6.cell 0 2 rfl rfl;have yc3:=hx6.cell 0 3 rfl rfl;obtain⟨wz,hwz⟩:∃x,w7.setCell ⟨w.heap.size+1+1,2,none⟩ (.slice aN (LL.length+1) cN)=x:=⟨_,rfl⟩
  rw[hwz] at hmP hoP;have hoC:∀k,(k=wr.heap.size∨F k)→k∉(w.heap.size+1+1)::(Value.slice aC LL.length cC).ownBlock.toList:=fun k hk hm=>by
   have h9:k=w.heap.size+1+1∨(Value.slice aC LL.length cC).ownBlock=some k:=by
    exact q2b53f5
   rcases hk with rfl|hk
   ·rcases h9 with e|e
    ·omega
    ·have:=(HM.out.lgc e).2;omega
   ·have:=HFB.out k hk
    rcases h9 with e|e
    ·omega
    ·have:=(HM.out.lgc e).1;omega
  have hxz:=hx6.only hoP (by intro q hq;simp at hq;subst hq;exact hoC _ (.inl rfl));have hrowz:=row_fa hrow6 hfa5 hoP (fun b hb=>hoC b (.inr hb));have zm:=Mk.i 303212;exact q7b3416
 ·have hin:i=l.length:=by omega
  have q1:decide ((i:Int)<(l.length:Int))=false:=decide_eq_false (by omega);have q2:decide (i<l.length)=false:=decide_eq_false hlt;have hdr:l.drop i=[]:=List.drop_of_length_le (by omega);rw[hdr] at hinv;obtain⟨e1,e2,e3,e4,e5,e6,e7⟩:=hinv;have hlen1:1≤left2.length:=by simp at e5;omega
  have hdn2:(layVs l left).1=dn:=by rw[e3];simp[layVs]
  have hsmE:SmE es:=fun e he=>by
   rw[e2] at he;obtain⟨c9,hc9,rfl⟩:=List.mem_map.1 he;rw[←hdn2] at hc9;obtain⟨c8,h8,h9,h10⟩:=layVs_mem c9 hc9;have:=HBK.out c8 h8;have:=entV_small (c:=c9) (by rw[h9];exact this.1) (by rw[h10];exact this.2);omega
  have zm:=Mk.i 146046;exact qf7335c):p:=h
theorem qb95536 (h:p:=by
 clear zm
 by_cases hlt:i<l.length
 ·have H1L:TabR 4 (RcOn G n w) w a l.length c (cellsR (.node 0 l)):=H1.out
  obtain⟨b,off,y,pa,pn,pc,ka,kn,kc,rfl,hbb,hyc,_,hrow,_,htk,hfk,k0,k1,k2,k3⟩:=RNodeOn.cell H1L hlt;have hGb:G b:=(HFA.out.resolve_left (by omega)) b off rfl;have hgb:=HG.out b hGb;have hkeep:∀(b' o:Nat),G b'→wr.cell? ⟨b',o,none⟩=w.cell? ⟨b',o,none⟩:=fun b' o hg=>World.cell?_of_block (hm.ol.block (k:=b') (HG.out b' hg).1 (fun hmm=>by
   rcases RS.mem.1 hmm with e|e
   ·exact(HG.out b' hg).2.1 e
   ·exact(HG.out b' hg).2.2 e))
  rw[cellsR_node] at hyc;obtain⟨x,hx1,hx2⟩:=Option.map_eq_some_iff.1 hyc;subst hx2;obtain⟨key,tv⟩:=x;dsimp only at *;have hxm:(key,tv)∈l:=List.mem_of_getElem? hx1;have g0:=(hkeep b (off+i*4) hGb).trans k0;have g1:=(hkeep b (off+i*4+1) hGb).trans k1;have g2:=(hkeep b (off+i*4+2) hGb).trans k2;have g3:=(hkeep b (off+i*4+3) hGb).trans k3;have hdr:l.drop i=(key,tv)::l.drop (i+1):=by
   have:=List.getElem?_eq_some_iff.1 hx1;rw[←this.2,List.drop_eq_getElem_cons]
  have q1:decide ((i:Int)<(l.length:Int))=true:=decide_eq_true (by omega);have q2:decide (i<l.length)=true:=decide_eq_true hlt;have hbig:=HBK.out _ hxm;have hpn:pn=0:=hrow.1.symm;subst hpn;have hkb:Bare tv:=HV.out _ hxm;obtain⟨b2,off2,y2,cs2,rfl,hb2,hy2,hl2,hon2,hcs2⟩:=TabR.at htk (k:=0) (by have h9:([tv]:List Tr).length=kn:=htk.1;simp at h9;omega);have hy3:y2=tv:=by simpa using hy2.symm
  subst hy3;obtain⟨ka',kn',kc',e9⟩:=RNodeOn.open_pos hon2;subst e9;have hkn:0<kn:=by have h9:([y2]:List Tr).length=kn:=htk.1;simp at h9;omega
  have hGk:G b2:=(hfk.resolve_left (by omega)) b2 off2 rfl;have r0:=(hkeep b2 (off2+0*3+0) hGk).trans (hcs2 0 _ rfl);have r1:=(hkeep b2 (off2+0*3+1) hGk).trans (hcs2 1 _ rfl);have r2:=(hkeep b2 (off2+0*3+2) hGk).trans (hcs2 2 _ rfl);simp only[Nat.zero_mul,Nat.add_zero] at r0 r1 r2;have hb2r:b2<wr.heap.size:=Nat.lt_of_lt_of_le (HG.out b2 hGk).1 hm.ol.size;have hkon:RNodeOn G n wr [.int .i64 y2.page,.bool y2.isLeaf,.slice ka' kn' kc'] y2:=hon2.agree ⟨hm.ol.size,fun b' hb' hlt9=>hm.ol.block hlt9 (fun hmm=>by
   rcases RS.mem.1 hmm with e|e
   ·exact(HG.out b' hb').2.1 e
   ·exact(HG.out b' hb').2.2 e)⟩
  have q5:decide ((0:Int)<(kn:Int))=true:=decide_eq_true (by omega);have q6:decide (0<kn)=true:=decide_eq_true hkn;obtain⟨wc,hwc⟩:∃x,x=wr.alloc (.cells #[.string (strOf key),.string (strOf []),.slice pa 0 pc,.slice (some ⟨b2,off2,none⟩) kn kc] 145):=⟨_,rfl⟩
  have hbc:Below wr.heap.size wr wc:=by rw[hwc];exact Below.al (Below.refl _ _)
  have hsc:wc.heap.size=wr.heap.size+1:=by rw[hwc];simp
  have hxc:Boxes wc [(wr.heap.size,[.string (strOf key),.string (strOf []),.slice pa 0 pc,.slice (some ⟨b2,off2,none⟩) kn kc])]:=by rw[hwc];exact(Boxes.nil wr).alloc #[.string (strOf key),.string (strOf []),.slice pa 0 pc,.slice (some ⟨b2,off2,none⟩) kn kc] 145 rfl
  have c3:=hxc.cell 0 3 rfl rfl;have nc1:=(hbc.cell (p:=⟨w.heap.size,1,none⟩) (show w.heap.size<wr.heap.size by omega)).trans nb1;obtain⟨e1,e2,e3,e4,e5,e6,e7⟩:=hinv;have hGw:∀b,G b→b<wc.heap.size∧b≠sb∧vi.ownBlock≠some b:=fun b hb=>by
   have h9:=HG.out b hb;have h8:=hm.ol.size;refine⟨by omega,h9.2.1,fun e=>?_⟩
   rcases hm.tu with t|t
   ·exact h9.2.2 (t ▸ e)
   ·have:=t b e;omega
  have CV:=IH (hm.ly.below hbc) (hkon.agree (AgreeF.of_below hbc)) hGw hkb hbig.2 (by rw[hdr] at e5;simp only[List.map_cons,List.sum_cons] at e5;omega) (by rw[hdr] at e7;simp only[List.map_cons,List.sum_cons] at e7;omega);have s0:=(hbc.cell (p:=⟨b2,off2,none⟩) hb2r).trans r0;have s1:=(hbc.cell (p:=⟨b2,off2+1,none⟩) hb2r).trans r1;have s2:=(hbc.cell (p:=⟨b2,off2+2,none⟩) hb2r).trans r2;obtain⟨yp,hyp⟩:∃x,y2.page=x:=⟨_,rfl⟩
  obtain⟨yl,hyl⟩:∃x,y2.isLeaf=x:=⟨_,rfl⟩
  rw[hyp] at s0 CV;rw[hyl] at s1 CV;obtain⟨RR,hRR⟩:∃x,layT n y2 left2=x:=⟨_,rfl⟩
  rw[hRR] at CV;have HRR:=Hd hRR;clear hGw hkon hyp hyl hRR r0 r1 r2;have HM:=Hd hm;have HLL:=Hd hLL;have HES:=Hd hes;have HBC:=Hd hbc;have HSC:=Hd hsc;have HXC:=Hd hxc;have HDR:=Hd hdr;have HXM:=Hd hxm;have HWC:=Hd hwc;have HDN:=Hd hdn;have HRW:=Hd hrow;have HE:=Hd (And.intro e1 (And.intro e2 (And.intro e3 (And.intro e4 (And.intro e5 (And.intro e6 e7))))));clear hm hLL hes hbc hsc hxc hdr hxm hwc hdn hrow htk hfk hyc hx1 hkeep nbr hkb hon2 hcs2 hy2 e1 e2 e3 e4 e5 e6 e7 k0 k1 k2 k3;go_upto_region 9 with(fail)
  rw[←HWC.out];go_wp2_with fail;refine CV.mono ?_;rintro e w5 ⟨kp,klf,xa,xn,xc,v5,la5,lc5,rfl,hy5,ho5,ht5,hkid5⟩;have hsc:=HSC.out;have hcbn:wr.heap.size∉RS sb vi:=fun hmm=>by
   rcases RS.mem.1 hmm with e|e
   ·omega
   ·have:=(HM.out.vne e).2.2.2;omega
  have hxc5:=HXC.out.only ho5 (by intro q hq;simp at hq;subst hq;exact hcbn);have hs5:=ho5.size;have hv5:∀k,v5.ownBlock=some k→vi.ownBlock=some k∨wc.heap.size≤k:=fun k hk=>by
   rcases ht5 with t|t
   ·exact .inl (t ▸ hk)
   ·exact .inr (t k hk)
  have hv5c:v5.ownBlock≠some wr.heap.size:=fun e=>by
   rcases hv5 _ e with e|e
   ·exact hcbn (RS.mem.2 (.inr e))
   ·omega
  obtain⟨w5b,hw5b⟩:∃x,w5.alloc (.cells #[.int .i64 kp,.bool klf,.slice xa xn xc] 27)=x:=⟨_,rfl⟩
  have hbk5:Below w5.heap.size w5 w5b:=by rw[←hw5b];exact Below.al (Below.refl _ _)
  have hsk5:w5b.heap.size=w5.heap.size+1:=by rw[←hw5b];simp
  have hxk:Boxes w5b [(w5.heap.size,[.int .i64 kp,.bool klf,.slice xa xn xc])]:=by rw[←hw5b];exact(Boxes.nil w5).alloc #[.int .i64 kp,.bool klf,.slice xa xn xc] 27 rfl
  have hxc5b:=hxc5.step hbk5;obtain⟨w6,hw6⟩:∃x,w5b.setCell ⟨wr.heap.size,3,none⟩ (.slice (some ⟨w5.heap.size,0,none⟩) 1 1)=x:=⟨_,rfl⟩
  have k3:=hxc5b.cell 0 3 rfl rfl;have t3:=hxc5b.frozen 0 3 rfl;have hx6:Boxes w6 [(wr.heap.size,[.string (strOf key),.string (strOf []),.slice pa 0 pc,.slice (some ⟨w5.heap.size,0,none⟩) 1 1])]:=by rw[←hw6];exact hxc5b.put 3 _ (by intro q hq;simp at hq)
  have hob6:Only [wr.heap.size] w5b w6:=by rw[←hw6];exact(Only.refl _ _).set _ _ (by simp)
  have ho56:Only [wr.heap.size] w5 w6:=(Only.of_below hbk5).trans hob6;have hxk6:=hxk.only hob6 (by intro q hq;simp at hq;subst hq;simp;omega);have hl6:=ho56.size;have hy6:=hy5.only ho56 (fun k hk=>by simp at hk;subst hk;exact⟨by omega,hv5c⟩);have ho6:Only (RS sb vi) wr w6:=((Only.of_below HBC.out).trans ho5).then ho56 (fun k hk=>by simp at hk;subst hk;exact .inr (Nat.le_refl _));have hm6:=HM.out.turn hy6 ho6 (ht5.from (by omega));have hll:=HLL.out;have hes:=HES.out;have hv5lt:∀k,v5.ownBlock=some k→k<w5.heap.size:=fun k hk=>(hy5.ge hk).2
  have hkid6:RNodeOn (LG F wB.heap.size v5 (.slice aC LL.length cC) (.slice aE es.length cE)) n w6 [.int .i64 kp,.bool klf,.slice xa xn xc] RR.1:=RNodeOn.mono (fun b hb=>hb.imp id fun hb=>⟨by omega,hb.2,fun e=>by have:=(HM.out.lgc e).2;omega,fun e=>by have:=(HM.out.lge e).2;omega⟩) (hkid5.agree ⟨hl6,fun b hb hlt9=>ho56.block hlt9 (by
   have h9:b≠wr.heap.size:=by
    rcases hb with hb|hb
    ·have:=HFB.out b hb;omega
    ·omega
   simpa using h9)⟩)
  have hyC:RcOn (LG F wB.heap.size v5 (.slice aC LL.length cC) (.slice aE es.length cE)) n w6 [.string (strOf key),.string (strOf []),.slice pa 0 pc,.slice (some ⟨w5.heap.size,0,none⟩) 1 1] ⟨key,⟨[],[]⟩,some RR.1⟩:=by
   refine⟨pa,0,pc,some ⟨w5.heap.size,0,none⟩,1,1,rfl,⟨rfl,HRW.out.2.1,HRW.out.2.2.1,HRW.out.2.2.2.1,.inl rfl⟩,.inl rfl,⟨rfl,Nat.le_refl _,by unfold maxLen;omega,fun h=>(by cases h),.inr ⟨w5.heap.size,0,rfl,hxk6.lt 0 rfl,fun j y hj=>?_⟩⟩,.inr fun b off e=>?_⟩
   ·cases j with
    | succ j=>simp at hj
    | zero=>
     simp at hj;subst hj;refine⟨[.int .i64 kp,.bool klf,.slice xa xn xc],rfl,hkid6,fun m u hu=>?_⟩;exact qc9233d
   ·cases e
    exact .inr ⟨by omega,fun e=>by have:=hv5lt _ e;omega,fun e=>by have:=(HM.out.lgc e).2;omega,fun e=>by have:=(HM.out.lge e).2;omega⟩
  have hkp:kp=RR.1.page:=by
   obtain⟨z1,z2,z3,z4⟩:=RNodeOn.open_pos hkid5;simp at z4;exact z4.1
  obtain⟨aN,cN,w7,LL',hrun,f8,f9,hl',hmP,hoP⟩:=hm6.pushC (by omega) (x0:=.string (strOf key)) (x1:=.string (strOf [])) (x2:=.slice pa 0 pc) (x3:=.slice (some ⟨w5.heap.size,0,none⟩) 1 1) (by intro u hu;simp at hu;rcases hu with rfl|rfl|rfl|rfl<;>rfl) hyC;have o2:=hm6.box.cell 0 2 rfl rfl;have yc0:=hx6.cell 0 0 rfl rfl;have yc1:=hx6.cell 0 1 rfl rfl;have yc2:=hx6.cell 0 2 rfl rfl;have yc3:=hx6.cell 0 3 rfl rfl;obtain⟨wz,hwz⟩:∃x,w7.setCell ⟨w.heap.size+1+1,2,none⟩ (.slice aN (LL.length+1) cN)=x:=⟨_,rfl⟩
  rw[hwz] at hmP hoP;have hoC:∀k,(k=wr.heap.size∨k=w5.heap.size)→k∉(w.heap.size+1+1)::(Value.slice aC LL.length cC).ownBlock.toList:=fun k hk hm=>by
   have h9:k=w.heap.size+1+1∨(Value.slice aC LL.length cC).ownBlock=some k:=by
    exact q2b53f5
   rcases hk with rfl|rfl<;>(rcases h9 with e|e;omega;have:=(HM.out.lgc e).2;omega)
  have hxz:=hx6.only hoP (by intro q hq;simp at hq;subst hq;exact hoC _ (.inl rfl));have hxkz:=hxk6.only hoP (by intro q hq;simp at hq;subst hq;exact hoC _ (.inr rfl));have hkz:=hxkz.cell 0 0 rfl rfl;have hkzl:=hxkz.lt 0 rfl;have zm:=Mk.i 689318;exact q7b3416
 ·have hin:i=l.length:=by omega
  have q1:decide ((i:Int)<(l.length:Int))=false:=decide_eq_false (by omega);have q2:decide (i<l.length)=false:=decide_eq_false hlt;have hdr:l.drop i=[]:=List.drop_of_length_le (by omega);rw[hdr] at hinv;obtain⟨e1,e2,e3,e4,e5,e6,e7⟩:=hinv;have hlen1:1≤left2.length:=by simp at e5;omega
  have hdn2:(layKs (layT n) l left).1=dn:=by rw[e3];simp[layKs]
  have hsmE:SmE es:=fun e he=>by
   rw[e2] at he;obtain⟨c9,hc9,rfl⟩:=List.mem_map.1 he;rw[←hdn2] at hc9;obtain⟨c8,h8,h9⟩:=layKs_mem c9 hc9;have h7:=HBK.out c8 h8;refine⟨?_,by simp[entK]⟩;show c9.1.length≤1000000;rw[h9];omega
  have zm:=Mk.i 329049;exact qf7335c):p:=h
theorem q8c70ab (h:p:=by
 clear HLM HI0;obtain⟨i,vi,ws2,la2,lc2,left2,vC,LL,ys,vE,es,dn,hi,rfl,hLL,hes,hm,hdn,hinv⟩:=hrel;obtain⟨aC,cC,rfl,hcC,hcCm,_⟩:=own_slice hm.rc;obtain⟨aE,cE,rfl,hcE,hcEm,_⟩:=own_slice hm.re;unfold maxLen at hcCm hcEm;have hlt2:=hm.lt;have hsB:=HSB.out;have nbr:∀(o:Nat) (u:Value),wB.cell? ⟨w.heap.size,o,none⟩=some u→wr.cell? ⟨w.heap.size,o,none⟩=some u:=fun o u hu=>(hm.ag.cell (b:=w.heap.size) (o:=o) ⟨by omega,by omega,by omega,fun e=>by have:=(HVG.out _ e).2;omega⟩ (by omega)).trans hu
 have nb1:=nbr 1 _ HNB1.out;have nb2:=nbr 2 _ HNB2.out;have iw2:IntKind.i64.wrap ((i:Int)+1)=(i:Int)+1:=by simp[IntKind.wrap,IntKind.signed,IntKind.bits];omega
 first|exact Mk.go 376653 zm qeaa10d|exact Mk.go 145974 zm qb95536):p:=h
theorem q3e4dd9 (h:p:=by
 obtain⟨k,hk,rfl,rfl⟩:=hrel
 by_cases hlt:k<l.length
 ·rcases h4 with h4|⟨b,off,rfl,hb,hc⟩
  ·omega
  have hck:=hc k hlt;have hsn:=sumI_take_succ l k hlt;have hb1:=(hs.take k).bd;have hb2:=hs.get k;generalize l[k]?.getD 0=x at *;have H:=Hd hsn;clear hsn hc hs
  go_wp2
  go_round
  case rel=>exact⟨k+1,by omega,by go_num,by rw[H.out]⟩
  case measure=>simp[intOf];omega
 ·obtain rfl:k=l.length:=by omega
  simp only[List.take_length];exact q72c811):p:=h
theorem q930f70 (h:p:=by
 clear zm;have B8:=B7.sub (m:=[(w.heap.size,[.bool true,.slice (some ⟨b,off,none⟩) len cap])]) (by intro p hp;simp at hp;subst hp;simp);clear f0 f1 f2 f3 f4;go_roundw
 case rel=>exact⟨0+1,by omega,by go_num,HU.out,B8,hC7⟩
 case measure=>simp[intOf];omega):p:=h
theorem q66e4cf (h:p:=by
 clear zm;have B8:=B7.sub (m:=[(w.heap.size,[.bool true,.slice (some ⟨b,off,none⟩) len cap])]) (by intro p hp;simp at hp;subst hp;simp);clear f0 f1 f2 f3 f4;go_roundw
 case rel=>exact⟨k+1,by omega,by go_num,HU.out,B8,hC7⟩
 case measure=>simp[intOf];omega):p:=h
theorem qecec5f (h:p:=by
 clear zm;have B8:=B7.sub (m:=[(w.heap.size,[.bool false,.slice (some ⟨b,off,none⟩) len cap])]) (by intro p hp;simp at hp;subst hp;simp);clear f0 f1 f2 f3 f4;go_roundw
 case rel=>exact⟨0+1,by omega,by go_num,HU.out,B8,hC7⟩
 case measure=>simp[intOf];omega):p:=h
theorem qd1ddd3 (h:p:=by
 clear zm;have B8:=B7.sub (m:=[(w.heap.size,[.bool false,.slice (some ⟨b,off,none⟩) len cap])]) (by intro p hp;simp at hp;subst hp;simp);clear f0 f1 f2 f3 f4;go_roundw
 case rel=>exact⟨k+1,by omega,by go_num,HU.out,B8,hC7⟩
 case measure=>simp[intOf];omega):p:=h
theorem q37c2ba (h:p:=by
 go_wp2_with (first|(go_at_call 183;(with_reducible refine(F _).mono ?_);rintro en w7 ⟨rfl,hb7⟩;have hC7:=below_then hbw6 hb7;have B7:=B6.step hb7;have f0:=B7.cell 0 0 rfl rfl;have f1:=B7.cell 0 1 rfl rfl;have f2:=B7.cell 0 2 rfl rfl;have f3:=B7.cell 0 3 rfl rfl;have f4:=B7.cell 1 0 rfl rfl))
 first|exact Mk.go 637744 zm q930f70|exact Mk.go 743247 zm q66e4cf|exact Mk.go 527007 zm qecec5f|exact Mk.go 753811 zm qd1ddd3):p:=h
theorem qbdb9a1 (h:p:=by
 clear zm;go_wp2_with fail;refine bodyPost_ret (v:=.tuple #[.agg #[.bool true,.slice av gL.length kv],.int .i64 0]) (by simp[results,Tryz.results96,go_sem,g2,g3]) rfl ⟨_,rfl,?_,?_⟩
 ·have hrb:∀i u W,OwnEn W (w3.heap.size+1) (.slice av gL.length kv) gL→OwnEn (W.setCell ⟨w.heap.size,i,none⟩ u) (w3.heap.size+1) (.slice av gL.length kv) gL:=fun i u W hW=>own_set hW _ _ (fun e=>by have h2:=own_ge hW _ e;have h3:w3.heap.size+1≤w.heap.size:=h2;omega)
  exact own_baseC (hrb _ _ _ (hrb _ _ _ HO5)) (by omega)
 ·exact((hbb5.setCell (Nat.le_refl _) _).setCell (Nat.le_refl _) _)):p:=h
theorem qd6dac8 (h:p:=by
 clear zm;go_wp2_with fail;refine bodyPost_ret (v:=.tuple #[.agg #[.bool false,.slice av gL.length kv],.int .i64 0]) (by simp[results,Tryz.results96,go_sem,g2,g3]) rfl ⟨_,rfl,?_,?_⟩
 ·have hrb:∀i u W,OwnEn W (w3.heap.size+1) (.slice av gL.length kv) gL→OwnEn (W.setCell ⟨w.heap.size,i,none⟩ u) (w3.heap.size+1) (.slice av gL.length kv) gL:=fun i u W hW=>own_set hW _ _ (fun e=>by have h2:=own_ge hW _ e;have h3:w3.heap.size+1≤w.heap.size:=h2;omega)
  exact own_baseC (hrb _ _ _ (hrb _ _ _ HO5)) (by omega)
 ·exact((hbb5.setCell (Nat.le_refl _) _).setCell (Nat.le_refl _) _)):p:=h
theorem qc2430f (h:p:=by
 clear zm;have hgt:¬(2:Int)<(kd:Int):=by omega
 go_wp2_with fail;refine bodyPost_ret (v:=.tuple #[.agg #[.bool gF,.slice av gL.length kv],.int .i64 0]) (by simp[results,Tryz.results101,go_sem,g0,g1,g2,g3]) rfl ⟨_,rfl,?_,?_⟩
 ·have hrb:∀i u W,OwnRe W (w1.heap.size+1) (.slice av gL.length kv) gL→OwnRe (W.setCell ⟨w.heap.size,i,none⟩ u) (w1.heap.size+1) (.slice av gL.length kv) gL:=fun i u W hW=>own_set hW _ _ (fun e=>by have h2:=own_ge hW _ e;have h3:w1.heap.size+1≤w.heap.size:=h2;omega)
  exact own_baseC (hrb _ _ _ (hrb _ _ _ HO5)) (by omega)
 ·exact((hbb5.setCell (Nat.le_refl _) _).setCell (Nat.le_refl _) _)):p:=h
theorem qc8892e (h:p:=by
 clear hn hE hdl HE HL HF;subst hE0 hL hF;go_wp2_with fail;refine CK.mono ?_;rintro e w5 ⟨rfl,hb5⟩;have BY5:=BY.step hb5;have HO5:=HO.out.below (Nat.le_refl _) hb5;have hbb5:=below_then hbb hb5;have hbw5:=below_then hbw hb5;have g0:=BY5.cell 0 0 rfl rfl;have g1:=BY5.cell 0 1 rfl rfl;have g2:=BY5.cell 1 0 rfl rfl;have g3:=BY5.cell 1 1 rfl rfl;have f2:=BY5.frozen 1 0 rfl;have f3:=BY5.frozen 1 1 rfl
 first|exact Mk.go 433825 zm qbdb9a1|exact Mk.go 80712 zm qd6dac8|exact Mk.go 731151 zm qc2430f):p:=h
theorem q6907ba (h:p:=by
 obtain⟨L,h1,h2⟩:=h;have hlen:L.length=l.length:=h2.1
 rcases h1.2 with⟨rfl,h0⟩|⟨g,cap,cur,rfl,hg,hh,hn,hm,hr⟩
 ·have:l=[]:=List.eq_nil_of_length_eq_zero h0
  subst this;exact⟨none,0,rfl,by simp,by omega,⟨rfl,by simp,by unfold maxLen;omega,fun _=>rfl,.inl rfl⟩,.inl rfl⟩
 ·refine⟨_,cap,rfl,hn,by unfold maxLen at hm;omega,?_,Fa.of_own h1 (fun b hb=>hb)⟩
  obtain⟨a',c',e,hr'⟩:=Raw.of_own h1 hlen;cases e;exact hr'.tab h2):p:=h
theorem q5d96fc (h:p:=by
 clear zm;have BW:=(BV.sub (m:=[(w3.heap.size,[.bool true,v]),(w.heap.size,[.bool false,.slice none 0 0])]) (fun p hp=>List.mem_cons_of_mem _ hp)).grown hg9 (fun p hp=>by
  simp at hp
  rcases hp with rfl|rfl
  ·exact hne1
  ·intro e;have:=own_ge hown7 _ e;have:=HB.out.size;omega)
 exact qeefabc):p:=h
theorem q7e5cc0 (h:p:=by
 clear zm;have BW:=(BV.sub (m:=[(w3.heap.size,[.bool false,v]),(w.heap.size,[.bool false,.slice none 0 0])]) (fun p hp=>List.mem_cons_of_mem _ hp)).grown hg9 (fun p hp=>by
  simp at hp
  rcases hp with rfl|rfl
  ·exact hne1
  ·intro e;have:=own_ge hown7 _ e;have:=HB.out.size;omega)
 exact qeefabc):p:=h
theorem q1c8a3f (h:p:=by
 have HDT2:=Hd (HDT.out.step HCK.out hD);have hta:=ta_val x w7;unfold vv at hta ⊢;have hsz7:=hbw7.size;have hb8:=below_one w7 (.cells #[.string (strOf x.data),.bool x.far,.int .i64 x.size,.int .i64 x.page] 209);have BV:=BY7.alloc #[.string (strOf x.data),.bool x.far,.int .i64 x.size,.int .i64 x.page] 209 rfl;obtain⟨v9,w9,hr9,ho9,hg9⟩:=append_en (hown7.below (Nat.le_refl _) hb8) ⟨key,x⟩ (by omega) (by simp;omega);obtain⟨a9,k9,rfl,hk91,hk92,hk93⟩:=own_slice ho9;rw[show(es++[⟨key,x⟩]:List En).length=es.length+1 from by simp] at ho9 hr9;have e1:=BV.cell 1 1 rfl rfl;have hne1:v.ownBlock≠some w3.heap.size:=fun e=>by have:=own_ge hown7 _ e;omega
 first|exact Mk.go 133500 zm q5d96fc|exact Mk.go 281280 zm q7e5cc0):p:=h
theorem qf42a29 (h:p:=by
 go_enter Tryz.func47,Tryz.ntmps47;go_wp2_with fail;go_ret;exact⟨ret_int HE.out.symm,rfl⟩):p:=h
theorem qd9c9d7 (h:p:=by
 refine bkw hK (by exact hA) (fun hHeld=>?_);clear hK K;refine rdy 11 (fun K hK=>?_);refine step_append_run rfl _ _ _ _ rfl rfl rfl hr9 ?_;refine bkw hK (by exact h9) (fun hHeld=>?_);clear hK K;refine tks [12,13] ?_;refine rdy 14 (fun K hK=>?_);refine step_store_run rfl 112 _ _ rfl rfl rfl (store_loose c10 f10) ?_;refine hK.out _ _ (by exact h10) (fun hHeld=>?_);clear hK K;refine wpAnyH_done (by kernel_rfl) ?_ _;refine NoPanic.normal ?_;clear hHeld;go_wp2_with fail;go_ret;exact END.out):p:=h
theorem q0fce22 (h:p:=by
 refine wpAnyH_done (by kernel_rfl) ?_ _;refine NoPanic.normal ?_;go_wp2_with fail;go_meet;exact⟨by simp[HBD.out],by first|assumption|exact Below.dr (Below.refl _ _)⟩):p:=h
theorem qa326a8 (h:p:=by
 go_upto_region 10 with(fail)
 try rw[hwx]
 clear hwx
 go_wp2_with (at_builtin;refine wpList_append_run rfl _ _ _ _ rfl rfl rfl hr8 ?_)
 go_roundw
 case rel=>exact⟨i+1,_,hlt,by go_num,HX8.out.put 2 _ (by intro p hp;simp at hp;rcases hp with rfl|rfl<;>simp<;>omega),HC8.out.set _ (by simp) (fun hf=>by have:=hF _ hf;simp at this;omega),HB8.out.setCell (by show w.heap.size≤w.heap.size+1+1;omega) _⟩
 case measure=>simp[intOf];omega):p:=h
theorem q71d1c8 (h:p:=by
 clear zm;have C1:=rput_any key d (fun b hb=>by have:=hF b hb;omega) (h.below hb2) ho;obtain⟨T,hT⟩:∃x,putT (N+1) t key ⟨d,[]⟩=x:=⟨_,rfl⟩
 have HT:Hid (putW (N+1) t key ⟨d,[]⟩=topT (N+1) T):=Hd (by rw[←hT];rfl);rw[hT] at C1 ht;have n0:=hx2.cell 1 0 rfl rfl;have n1:=hx2.cell 1 1 rfl rfl;have n2:=hx2.cell 1 2 rfl rfl;have HX:=Hd hx2;have HB:=Hd hb2;have HTO:=Hd ht;clear h ho ht hx2 hb2 hlf hp hm hT;show Calls _ _ #[.agg #[.int .i64 p,.bool lf,.slice a m c],.string (strOf key),.string (strOf d)] _ _;go_enter Tryz.func42,Tryz.ntmps42;go_wp2_with fail;refine C1.mono ?_;rintro e w1 hq;obtain⟨p1,l1,a1,m1,d1,rfl,hn1,hb1⟩:=hq.split;have C2:=rtop_any (F:=fun x=>Fr F W2 x∧x<w1.heap.size) (fun _ h=>h.2) hn1.lt HTO.out;have hx1:=HX.out.step hb1;have hbw1:=below_via HB.out hb1;have hs1:w.heap.size+2≤w1.heap.size:=by have:=hb1.size;omega
 have HX1:=Hd hx1;have HB1:=Hd hbw1;clear C1 hn1 hb1 hx1 hbw1 n0 n1 n2 hW2 hq;go_wp2_with fail;refine C2.mono ?_;rintro e w2 hq;obtain⟨p2,l2,a2,m2,d2,rfl,hn2,hb2⟩:=hq.split;have hx2:=HX1.out.step hb2;have z0:=hx2.cell 0 0 rfl rfl;have z1:=hx2.cell 0 1 rfl rfl;have z2:=hx2.cell 0 2 rfl rfl;have y0:=hx2.frozen 0 0 rfl;have y1:=hx2.frozen 0 1 rfl;have y2:=hx2.frozen 0 2 rfl;obtain⟨t0,t1,t2,HE⟩:=rend (F:=F) (w:=w) (hx2.sub (m:=[(w.heap.size+1,[.int .i64 0,.bool false,.slice none 0 0])]) (by simp)) (by omega) (fun hg=>by
  rcases hg with hg|hg
  ·rcases hg.1 with hg|hg
   ·have:=hF _ hg;omega
   ·omega
  ·omega) (fun b hb=>by
  rcases hb with hb|hb
  ·rcases hb.1 with hb|hb
   ·exact .inl hb
   ·exact .inr (by omega)
  ·exact .inr (by omega)) hn2 (below_via HB1.out hb2)
 clear hx2 hn2 hb2 hq C2;go_wp2_with fail;refine bodyPost_ret (v:=.agg #[.int .i64 p2,.bool l2,.slice a2 m2 d2]) (by simp only[results,Tryz.results42];simp[go_sem,t0,t1,t2]) rfl ?_;rw[HT.out];exact HE.out):p:=h
theorem q9681f1 (h:p:=by
 clear zm;have n0:=hx2.cell 1 0 rfl rfl;have n1:=hx2.cell 1 1 rfl rfl;have n2:=hx2.cell 1 2 rfl rfl;have HX2:=Hd hx2;have HB2:=Hd hb2;have HR:=Hd h1;have HLF:=Hd hlf;have HM:=Hd hm;have HO1:=Hd o1;have HO2:=Hd o2;have HO3:=Hd o3;have hF2:∀b,F b→b<W2.heap.size:=fun b hb=>by have:=hF b hb;omega
 clear hx2 hb2 h1 h hlf hp hm o1 o2 o3;show Calls _ _ #[.agg #[.int .i64 p,.bool lf,.slice a m c]] _ _
 by_cases hkid:lf=false∧m=1
 ·obtain⟨rfl,rfl⟩:=hkid
  cases t with
  | leaf p0 l=>have:=HLF.out;simp[Tr.isLeaf] at this
  | node p0 l=>
  have hl1:l.length=1:=HM.out;obtain⟨b,off,bk,ok,kcs,pa,pn,pc,kc,rfl,hbb,hbk,hon,d0,d1,d2,d3,hck,hkc1,hkc2⟩:=RNodeOn.kid HR.out (show 0<1 by omega);have CT:=IH hF2 (hon.below HB2.out) (HO3.out p0 l rfl hl1);have HTE:Hid (topT (N+1) (.node p0 l)=topT N (kidAt l 0)):=Hd (topT_kid hl1);cases N with
  | zero=>exact hon.elim
  | succ N=>
  obtain⟨ak,ck,rfl,_,_⟩:=hon.at;generalize (kidAt l 0).page=kp at *;generalize (kidAt l 0).isLeaf=kl at *;generalize cntT (kidAt l 0)=km at *;have v3:W2.cell? ⟨b,off+3,none⟩=some (.slice (some ⟨bk,ok,none⟩) 1 kc):=(HB2.out.cell (p:=⟨b,off+3,none⟩) hbb).trans (by simpa using d3);have k0:W2.cell? ⟨bk,ok,none⟩=some (.int .i64 kp):=(HB2.out.cell (p:=⟨bk,ok,none⟩) hbk).trans (by simpa using hck 0 _ rfl);have k1:W2.cell? ⟨bk,ok+1,none⟩=some (.bool kl):=(HB2.out.cell (p:=⟨bk,ok+1,none⟩) hbk).trans (by simpa using hck 1 _ rfl);have k2:W2.cell? ⟨bk,ok+2,none⟩=some (.slice ak km ck):=(HB2.out.cell (p:=⟨bk,ok+2,none⟩) hbk).trans (by simpa using hck 2 _ rfl);clear hon d0 d1 d2 d3 hck IH hl1;go_enter Tryz.func87,Tryz.ntmps87;go_wp2_with fail;refine CT.mono ?_;rintro e w1 hq;obtain⟨p1,l1,a1,m1,d1,rfl,hn1,hb1⟩:=hq.split;have hx1:=HX2.out.step hb1;have hbw1:=below_via HB2.out hb1;have z0:=hx1.cell 0 0 rfl rfl;have z1:=hx1.cell 0 1 rfl rfl;have z2:=hx1.cell 0 2 rfl rfl;have y0:=hx1.frozen 0 0 rfl;have y1:=hx1.frozen 0 1 rfl;have y2:=hx1.frozen 0 2 rfl;obtain⟨t0,t1,t2,HE⟩:=rend (F:=F) (w:=w) (hx1.sub (m:=[(w.heap.size+1,[.int .i64 0,.bool false,.slice none 0 0])]) (by simp)) (by omega) (fun hg=>by rcases hg with hg|hg;have:=hF _ hg;omega;omega) (fun b hb=>by rcases hb with hb|hb;exact .inl hb;exact .inr (by omega)) (hn1.more (show N+1+1≤N+1+1+1 by omega)) hbw1;clear hx1 hn1 hb1 hbw1 hq CT;exact q03511a
 have CS:=rsizes_any (H.out.below HB2.out) HO1.out;have HSM:=Hd (HO1.out.small);obtain⟨S,hS⟩:∃x,sizesT t=x:=⟨_,rfl⟩
 rw[hS] at CS HSM;have HNK:Hid (∀p l,t=.node p l→l.length≠1):=Hd (fun q l e h1=>hkid (by subst e;exact⟨HLF.out.symm,by rw[←HM.out];exact h1⟩));have HS:=Hd hS;clear IH hS;have hlm:lf=true∨(lf=false∧((m:Int) == 1)=false):=by
  cases lf with
  | true=>exact .inl rfl
  | false=>exact .inr ⟨rfl,by simp at hkid;simp;omega⟩
 clear hkid
 rcases hlm with rfl|⟨rfl,hm1⟩
 ·go_enter Tryz.func87,Tryz.ntmps87
  go_wp2_with fail;refine CS.mono ?_;rintro e w4 ⟨v4,rfl,ho4,hb4⟩;obtain⟨a4,c4,rfl,hrow⟩:=Row.of_own ho4;go_wp2_with fail;refine(refAt_any _ _ _ _ _ hrow HSM.out).mono ?_;rintro e w5 ⟨rfl,rfl⟩;have hx4:=HX2.out.step hb4;have hbw4:=below_via HB2.out hb4;have hs4:w.heap.size+2≤w4.heap.size:=by have:=hb4.size;omega
  obtain⟨z,hz⟩:∃z,atF S=z:=⟨_,rfl⟩
  rw[hz];have q0:=hx4.cell 1 0 rfl rfl;have q1:=hx4.cell 1 1 rfl rfl;have q2:=hx4.cell 1 2 rfl rfl
  by_cases hz0:z=0
  ·subst hz0
   have HTE:Hid (topT (N+1) t=t):=Hd (topT_same HNK.out (by rw[HS.out];exact hz));have z0:=hx4.cell 0 0 rfl rfl;have z1:=hx4.cell 0 1 rfl rfl;have z2:=hx4.cell 0 2 rfl rfl;have y0:=hx4.frozen 0 0 rfl;have y1:=hx4.frozen 0 1 rfl;have y2:=hx4.frozen 0 2 rfl;obtain⟨t0,t1,t2,HE⟩:=rend (F:=F) (w:=w) (hx4.sub (m:=[(w.heap.size+1,[.int .i64 0,.bool false,.slice none 0 0])]) (by simp)) (by omega) (G:=F) (fun hg=>by have:=hF _ hg;omega) (fun b hb=>.inl hb) ((H.out.below hbw4).more (show N+1≤N+1+1 by omega)) hbw4;clear hx4 hbw4 hb4 ho4 hrow CS n0 n1 n2 hz;go_wp2_with fail;refine bodyPost_ret (v:=.agg #[.int .i64 p,.bool true,.slice a m c]) (by simp only[results,Tryz.results87];simp[go_sem,t0,t1,t2]) rfl ?_;rw[HTE.out];exact HE.out
  have HTE:Hid (topT (N+1) t=mendT 0 [([],t)] 0):=Hd (topT_mend HNK.out (by rw[HS.out,hz];exact hz0));have hz1:(z == 0)=false:=by simpa using hz0
  have HX4:=Hd hx4;have HBW4:=Hd hbw4;clear ho4 hrow CS n0 n1 n2 hz hz0 hb4;obtain⟨W6,hW6⟩:∃x,(w4.alloc (.cells #[.int .i64 p,.bool true,.slice a m c] 27))=x:=⟨_,rfl⟩
  obtain⟨W7,hW7⟩:∃x,(W6.alloc (.cells #[.string ⟨#[]⟩,.string ⟨#[]⟩,.slice none 0 0,.slice (some ⟨w4.heap.size,0,none⟩) 1 1] 145))=x:=⟨_,rfl⟩
  have hs6:W6.heap.size=w4.heap.size+1:=by rw[←hW6];simp
  have hs7:W7.heap.size=w4.heap.size+2:=by rw[←hW7];simp;omega
  have hb47:Below w4.heap.size w4 W7:=by rw[←hW7,←hW6];exact Below.al (Below.al (Below.refl _ _))
  have hA:BoxAt W7 w4.heap.size #[.int .i64 p,.bool true,.slice a m c]:=by rw[←hW7,←hW6];exact BoxAt.al BoxAt.here
  have hC:BoxAt W7 (w4.heap.size+1) #[.string ⟨#[]⟩,.string ⟨#[]⟩,.slice none 0 0,.slice (some ⟨w4.heap.size,0,none⟩) 1 1]:=by rw[←hW7,←hs6];exact BoxAt.here
  have hbw7:=below_via hbw4 hb47;have nT:RNodeOn (fun x=>Fr F w4 x∧x<W7.heap.size) (N+1) W7 [.int .i64 p,.bool true,.slice a m c] t:=((H.out.below hbw7).lt).mono (fun b hb=>⟨.inl hb.1,hb.2⟩);exact qb94b03
 ·go_enter Tryz.func87,Tryz.ntmps87
  go_wp2_with fail;refine CS.mono ?_;rintro e w4 ⟨v4,rfl,ho4,hb4⟩;obtain⟨a4,c4,rfl,hrow⟩:=Row.of_own ho4;go_wp2_with fail;refine(refAt_any _ _ _ _ _ hrow HSM.out).mono ?_;rintro e w5 ⟨rfl,rfl⟩;have hx4:=HX2.out.step hb4;have hbw4:=below_via HB2.out hb4;have hs4:w.heap.size+2≤w4.heap.size:=by have:=hb4.size;omega
  obtain⟨z,hz⟩:∃z,atF S=z:=⟨_,rfl⟩
  rw[hz];have q0:=hx4.cell 1 0 rfl rfl;have q1:=hx4.cell 1 1 rfl rfl;have q2:=hx4.cell 1 2 rfl rfl
  by_cases hz0:z=0
  ·subst hz0
   have HTE:Hid (topT (N+1) t=t):=Hd (topT_same HNK.out (by rw[HS.out];exact hz));have z0:=hx4.cell 0 0 rfl rfl;have z1:=hx4.cell 0 1 rfl rfl;have z2:=hx4.cell 0 2 rfl rfl;have y0:=hx4.frozen 0 0 rfl;have y1:=hx4.frozen 0 1 rfl;have y2:=hx4.frozen 0 2 rfl;obtain⟨t0,t1,t2,HE⟩:=rend (F:=F) (w:=w) (hx4.sub (m:=[(w.heap.size+1,[.int .i64 0,.bool false,.slice none 0 0])]) (by simp)) (by omega) (G:=F) (fun hg=>by have:=hF _ hg;omega) (fun b hb=>.inl hb) ((H.out.below hbw4).more (show N+1≤N+1+1 by omega)) hbw4;clear hx4 hbw4 hb4 ho4 hrow CS n0 n1 n2 hz;go_wp2_with fail;refine bodyPost_ret (v:=.agg #[.int .i64 p,.bool false,.slice a m c]) (by simp only[results,Tryz.results87];simp[go_sem,t0,t1,t2]) rfl ?_;rw[HTE.out];exact HE.out
  have HTE:Hid (topT (N+1) t=mendT 0 [([],t)] 0):=Hd (topT_mend HNK.out (by rw[HS.out,hz];exact hz0));have hz1:(z == 0)=false:=by simpa using hz0
  have HX4:=Hd hx4;have HBW4:=Hd hbw4;clear ho4 hrow CS n0 n1 n2 hz hz0 hb4;obtain⟨W6,hW6⟩:∃x,(w4.alloc (.cells #[.int .i64 p,.bool false,.slice a m c] 27))=x:=⟨_,rfl⟩
  obtain⟨W7,hW7⟩:∃x,(W6.alloc (.cells #[.string ⟨#[]⟩,.string ⟨#[]⟩,.slice none 0 0,.slice (some ⟨w4.heap.size,0,none⟩) 1 1] 145))=x:=⟨_,rfl⟩
  have hs6:W6.heap.size=w4.heap.size+1:=by rw[←hW6];simp
  have hs7:W7.heap.size=w4.heap.size+2:=by rw[←hW7];simp;omega
  have hb47:Below w4.heap.size w4 W7:=by rw[←hW7,←hW6];exact Below.al (Below.al (Below.refl _ _))
  have hA:BoxAt W7 w4.heap.size #[.int .i64 p,.bool false,.slice a m c]:=by rw[←hW7,←hW6];exact BoxAt.al BoxAt.here
  have hC:BoxAt W7 (w4.heap.size+1) #[.string ⟨#[]⟩,.string ⟨#[]⟩,.slice none 0 0,.slice (some ⟨w4.heap.size,0,none⟩) 1 1]:=by rw[←hW7,←hs6];exact BoxAt.here
  have hbw7:=below_via hbw4 hb47;have nT:RNodeOn (fun x=>Fr F w4 x∧x<W7.heap.size) (N+1) W7 [.int .i64 p,.bool false,.slice a m c] t:=((H.out.below hbw7).lt).mono (fun b hb=>⟨.inl hb.1,hb.2⟩);exact qb94b03):p:=h
theorem qa4f6b9 (h:p:=by
 obtain⟨W2,hW2⟩:∃x,(w.alloc (.cells #[.int .i64 p,.bool lf,.slice a m c] 27)).alloc (.cells #[.int .i64 0,.bool false,.slice none 0 0] 27)=x:=⟨_,rfl⟩
 have hb2:Below w.heap.size w W2:=by rw[←hW2];exact Below.al (Below.al (Below.refl _ _))
 have hx2:Boxes W2 [(w.heap.size+1,[.int .i64 0,.bool false,.slice none 0 0]),(w.heap.size,[.int .i64 p,.bool lf,.slice a m c])]:=by
  rw[←hW2];exact((Boxes.nil w).alloc #[.int .i64 p,.bool lf,.slice a m c] 27 (b:=w.heap.size) rfl).alloc #[.int .i64 0,.bool false,.slice none 0 0] 27 (b:=w.heap.size+1) (by simp)
 have hsz2:W2.heap.size=w.heap.size+2:=by rw[←hW2];simp
 first|exact Mk.go 459272 zm q71d1c8|exact Mk.go 863665 zm q9681f1):p:=h
theorem q4419a1 (h:p:=by
 have hpb:pageB e.v.page=false:=by simp[pageB];omega
 have HF:Hid (nodeB false l=false):=Hd (HNS.out (by rw[HST.out];simp[valOkN,hpb]));exact qbe6c73):p:=h
theorem q894f49 (h:p:=by
 refine wpAnyH_done (by kernel_rfl) ?_ _;refine NoPanic.normal ?_;have hb8:=below_then hbw6 hC7;exact q432908):p:=h
theorem qaecd3a (h:p:=by
 clear zm;have E:=tempty_any w1 (fun _=>False);have hz:=zero_nodeL;have HX1:=Hd hx1;have HB1:=Hd hb1;clear hx1 hb1 hR
 go_enter_defers Tryz.func15,Tryz.ntmps15
 go_wp2_with fail;refine E.mono ?_;rintro e w2 ⟨cs,rfl,hon,hb2⟩;obtain⟨ka,kc,va,vn,vc,ca,cn,cc,_,_,eu,_⟩:=NodeOn.open_pos hon;subst eu;have hx2:=HX1.out.step hb2;have f0:=hx2.frozen 1 0 rfl;have f1:=hx2.frozen 1 1 rfl;have f2:=hx2.frozen 1 2 rfl;have f3:=hx2.frozen 1 3 rfl;have f4:=hx2.frozen 1 4 rfl;have fe:=hx2.frozen 0 0 rfl;have c0:=hx2.cell 1 0 rfl rfl;have c1:=hx2.cell 1 1 rfl rfl;have c2:=hx2.cell 1 2 rfl rfl;have c3:=hx2.cell 1 3 rfl rfl;have c4:=hx2.cell 1 4 rfl rfl;have ce:=hx2.cell 0 0 rfl rfl;have hx3:=load_set hx2 (by omega) (.int .i64 0) (.bool true) (.slice ka 0 kc) (.slice va vn vc) (.slice ca cn cc) 0;obtain⟨we,hwe⟩:∃x,x=(set5 w2 w.heap.size (.int .i64 0) (.bool true) (.slice ka 0 kc) (.slice va vn vc) (.slice ca cn cc)).setCell ⟨w.heap.size+1,0,none⟩ (.int .i64 0):=⟨_,rfl⟩
 rw[←hwe] at hx3;have z0:=hx3.cell 0 0 rfl rfl;have z1:=hx3.cell 0 1 rfl rfl;have z2:=hx3.cell 0 2 rfl rfl;have z3:=hx3.cell 0 3 rfl rfl;have z4:=hx3.cell 0 4 rfl rfl;have ze:=hx3.cell 1 0 rfl rfl;have hbe:Below w.heap.size w we:=by
  have h1:=HB1.out.trans (hb2.mono HB1.out.size);rw[hwe];exact(set5_below h1 (Nat.le_refl _) _ _ _ _ _).setCell (Nat.le_succ _) _
 have HE:Hid (LoadPost w (.ok (.leaf 0 [])) (.returned (.tuple #[.agg #[.int .i64 0,.bool true,.slice ka 0 kc,.slice va vn vc,.slice ca cn cc],.int .i64 0])) we):=Hd ⟨hbe,[.int .i64 0,.bool true,.slice ka 0 kc,.slice va vn vc,.slice ca cn cc],rfl,by
  have hag:AgreeF (Fr (fun _=>False) w1) w2 we:=by
   rw[hwe];have hsz:=HX1.out.lt 0 rfl;exact agree_res (by rintro(h|h);exact h;have h:w1.heap.size≤w.heap.size:=h;have hsz:w.heap.size+1<w1.heap.size:=hsz;omega) (by rintro(h|h);exact h;have h:w1.heap.size≤w.heap.size+1:=h;have hsz:w.heap.size+1<w1.heap.size:=hsz;omega)
  exact NodeOn.mono (n:=1000) (fun b hb=>by rcases hb with hb|hb;exact hb.elim;have hb:w1.heap.size≤b:=hb;have hsz:w.heap.size+1<w1.heap.size:=HX1.out.lt 0 rfl;omega) (hon.agree hag)⟩
 clear hx2 hx3 hbe hb2 hon;go_wp2_with fail;change bodyPostD Tryz.prog _ _ Exit.ret _ ((set5 w2 w.heap.size (.int .i64 0) (.bool true) (.slice ka 0 kc) (.slice va vn vc) (.slice ca cn cc)).setCell ⟨w.heap.size+1,0,none⟩ (.int .i64 0));rw[←hwe];exact⟨.tuple #[.agg #[.int .i64 0,.bool true,.slice ka 0 kc,.slice va vn vc,.slice ca cn cc],.int .i64 0],by simp[results,Tryz.results15,go_sem,z0,z1,z2,z3,z4,ze],HE.out⟩):p:=h
theorem q3f8118 (h:p:=by
 clear zm;have hs1:w1.heap.size=w.heap.size+2:=by rw[←hw1];simp
 obtain⟨w3,hw3⟩:∃w3,(w1.alloc (.map #[] 0)).alloc (.cells #[.pointer (some ⟨da,0,none⟩),.int .i64 r,.map (some w1.heap.size)] 134)=w3:=⟨_,rfl⟩
 have hb13:Below w1.heap.size w1 w3:=by rw[←hw3];exact Below.al (Below.al (Below.refl _ _))
 have hs3:w3.heap.size=w.heap.size+4:=by rw[←hw3];simp;omega
 have hld:LdIn w3.heap.size w3 (w1.heap.size+1) w1.heap.size da M d r []:=by
  have hbw:Below w.heap.size w w3:=hb1.trans (hb13.mono (by omega));obtain⟨F,bs,k1,k2,k3⟩:=h;refine⟨?_,?_,⟨F,bs,k1.below hbw,fun hF=>?_,fun k hk=>?_⟩,by omega,hh.below (Nat.le_refl _) hbw,?_,by omega,by omega,?_⟩
  ·rw[←hw3]
   have:=World.alloc_heap_new (w1.alloc (.map #[] 0)) (.cells #[.pointer (some ⟨da,0,none⟩),.int .i64 r,.map (some w1.heap.size)] 134);simpa using this
  ·have:=CtMap.made w1
   rw[←hw3];exact this.kept ((Below.al (Below.refl (w1.alloc (.map #[] 0)).heap.size (w1.alloc (.map #[] 0)))).block w1.heap.size (by simp))
  ·have:=k1.lt _ hF;omega
  ·have:=k1.lt _ hk;omega
  ·have:=hh.1;omega
  ·have:=hh.1;omega
 have P:=lpage_any 1000 hld (Nat.le_refl _) SeenOk.nil (by rw[roomL_nil];omega) hr h0;have hz:=zero_nodeL;have hmm:=@run_makeMap Tryz.prog;have hmf:∀(fn:Fn) (first cap:Array Value) (w:World),(Instr.makeFunc fn first cap).run Tryz.prog w=.ok (.func fn first cap) w:=fun _ _ _ _=>rfl
 have HX1:=Hd hx1;have HX3:=Hd (hx1.step hb13);have HB1:=Hd hb1;have HB13:=Hd hb13;have HR0:=Hd hR0;have HS1:=Hd hs1;have HS3:=Hd hs3;have q0:(root == 0)=false:=by simpa using h0
 clear hx1 hb1 hR hR0 hb13 hs1 hs3 hld h hh
 go_enter_defers Tryz.func15,Tryz.ntmps15
 go_wp2_with fail;refine P.mono ?_;rintro e w4 ⟨ho,hres⟩;have hs4:=ho.size;have hs1:=HS1.out;have hs3:=HS3.out;have hx4:=HX3.out.only ho (by intro q hq;simp at hq;rcases hq with rfl|rfl<;>simp<;>omega);have hb4:Below w.heap.size w w4:=by
  have h3:=HB1.out.trans (HB13.out.mono (show w.heap.size≤w1.heap.size by omega));exact h3.trans (ho.below (by omega) (by simp;omega))
 cases hT:loadT d r 1000 [] root with
 | error x=>
  rw[hT] at hres;have hres:e=.panicked (errP x):=hres;subst hres;have hR0:=HR0.out;rw[hT] at hR0;subst hR0;refine leaves_cons (f:=51) (args := #[.pointer (some ⟨w.heap.size,0,none⟩),.pointer (some ⟨w.heap.size+1,0,none⟩)]) (by simp) (by simp[go_sem]) ?_;have hx4c:Boxes w4 [(w.heap.size,[.int .i64 0,.bool false,.slice none 0 0,.slice none 0 0,.slice none 0 0]),(w.heap.size+1,[.int .i64 0])]:=hx4.sub (by intro q hq;simp at hq ⊢;rcases hq with rfl|rfl<;>simp);refine(recover_caught w.heap.size (w.heap.size+1) x 0 [] w4 hx4c (by omega)).mono ?_;rintro e u' w'' ⟨rfl,rfl,rfl⟩;have hx5:=load_set hx4 (by omega) (.int .i64 0) (.bool false) (.slice none 0 0) (.slice none 0 0) (.slice none 0 0) x;obtain⟨we,hwe⟩:∃y,y=(set5 w4 w.heap.size (.int .i64 0) (.bool false) (.slice none 0 0) (.slice none 0 0) (.slice none 0 0)).setCell ⟨w.heap.size+1,0,none⟩ (.int .i64 x):=⟨_,rfl⟩
  rw[←hwe] at hx5 ⊢;have z0:=hx5.cell 0 0 rfl rfl;have z1:=hx5.cell 0 1 rfl rfl;have z2:=hx5.cell 0 2 rfl rfl;have z3:=hx5.cell 0 3 rfl rfl;have z4:=hx5.cell 0 4 rfl rfl;have ze:=hx5.cell 1 0 rfl rfl;have hbe:Below w.heap.size w we.drew:=by
   rw[hwe];exact Below.dr ((set5_below hb4 (Nat.le_refl _) _ _ _ _ _).setCell (Nat.le_succ _) _)
  refine⟨.tuple #[.agg #[.int .i64 0,.bool false,.slice none 0 0,.slice none 0 0,.slice none 0 0],.int .i64 x],by simp[results,Tryz.results15,go_sem,z0,z1,z2,z3,z4,ze],?_⟩;exact⟨hbe,rfl⟩
 | ok y=>
  obtain⟨s,t⟩:=y;rw[hT] at hres;obtain⟨cs,rfl,hon,hld⟩:=hres;obtain⟨ka,kc,va,vn,vc,ca,cn,cc,_,_,eu,_⟩:=NodeOn.open_pos hon;subst eu;obtain⟨w5,hw5⟩:∃x,x=set5 w4 w.heap.size (.int .i64 t.page) (.bool t.isLeaf) (.slice ka (cntT t) kc) (.slice va vn vc) (.slice ca cn cc):=⟨_,rfl⟩
  have hx4r:Boxes w4 [(w.heap.size,[.int .i64 0,.bool false,.slice none 0 0,.slice none 0 0,.slice none 0 0]),(w.heap.size+1,[.int .i64 0])]:=hx4.sub (by intro q hq;simp at hq ⊢;rcases hq with rfl|rfl<;>simp);have hx5:Boxes w5 [(w.heap.size,[.int .i64 t.page,.bool t.isLeaf,.slice ka (cntT t) kc,.slice va vn vc,.slice ca cn cc]),(w.heap.size+1,[.int .i64 0])]:=by rw[hw5];exact set5_box hx4r (by intro q hq;simp at hq;subst hq;simp) _ _ _ _ _
  have hb45:Below w.heap.size w4 w5:=by rw[hw5];exact set5_below (Below.refl _ _) (Nat.le_refl _) _ _ _ _ _
  have hag5:AgreeF (fun b=>w3.heap.size≤b) w4 w5:=by
   rw[hw5];unfold set5;have hnb:¬(w3.heap.size≤w.heap.size):=by omega
   exact((((AgreeF.refl w4).set (.inl hnb)).set (.inl hnb)).set (.inl hnb)).set (.inl hnb) |>.set (.inl hnb)
  have hon5:=hon.agree hag5;have C:=tcheck_any hon5.toIn (loadT_small hT) (by omega);have f0:=hx4r.frozen 0 0 rfl;have f1:=hx4r.frozen 0 1 rfl;have f2:=hx4r.frozen 0 2 rfl;have f3:=hx4r.frozen 0 3 rfl;have f4:=hx4r.frozen 0 4 rfl;have c0:=hx4r.cell 0 0 rfl rfl;have c1:=hx4r.cell 0 1 rfl rfl;have c2:=hx4r.cell 0 2 rfl rfl;have c3:=hx4r.cell 0 3 rfl rfl;have c4:=hx4r.cell 0 4 rfl rfl;have d0:=hx5.cell 0 0 rfl rfl;have d1:=hx5.cell 0 1 rfl rfl;have d2:=hx5.cell 0 2 rfl rfl;have d3:=hx5.cell 0 3 rfl rfl;have d4:=hx5.cell 0 4 rfl rfl;unfold set5 at hw5;have hw5':=hw5.symm;have HON5:=Hd hon5;have HX5:=Hd hx5;have HB4:=Hd hb4;have HB45:=Hd hb45;have HT:=Hd hT;generalize t.page=tp at *;generalize t.isLeaf=tl at *;generalize cntT t=tn at *;clear hw5 hx4 hx4r hx5 hb4 hb45 hag5 hon hon5 hT hld ho P;go_wp2_with fail;refine C.mono ?_;rintro e w6 ⟨rfl,hb6⟩;have hx6:=HX5.out.step hb6;have hx6b:Boxes w6 [(w.heap.size+1,[.int .i64 0]),(w.heap.size,[.int .i64 tp,.bool tl,.slice ka tn kc,.slice va vn vc,.slice ca cn cc])]:=hx6.sub (by intro q hq;simp at hq ⊢;rcases hq with rfl|rfl<;>simp);have hb56:Below w.heap.size w w6:=(HB4.out.trans HB45.out).trans (hb6.mono (HB4.out.trans HB45.out).size);have HB56:=Hd hb56;have HR1:=HR0.out;rw[HT.out] at HR1;cases hc:checkT 1000 t with
  | true=>
   have hRt:R=.ok t:=by rw[←HR1];simp[hc]
   have g0:=hx6.frozen 0 0 rfl;have g1:=hx6.frozen 0 1 rfl;have g2:=hx6.frozen 0 2 rfl;have g3:=hx6.frozen 0 3 rfl;have g4:=hx6.frozen 0 4 rfl;have ge:=hx6.frozen 1 0 rfl;have b0:=hx6.cell 0 0 rfl rfl;have b1:=hx6.cell 0 1 rfl rfl;have b2:=hx6.cell 0 2 rfl rfl;have b3:=hx6.cell 0 3 rfl rfl;have b4:=hx6.cell 0 4 rfl rfl;have be:=hx6.cell 1 0 rfl rfl;have hx7:=load_set hx6b (by omega) (.int .i64 tp) (.bool tl) (.slice ka tn kc) (.slice va vn vc) (.slice ca cn cc) 0;obtain⟨we,hwe⟩:∃y,y=(set5 w6 w.heap.size (.int .i64 tp) (.bool tl) (.slice ka tn kc) (.slice va vn vc) (.slice ca cn cc)).setCell ⟨w.heap.size+1,0,none⟩ (.int .i64 0):=⟨_,rfl⟩
   rw[←hwe] at hx7;have HX7:=Hd hx7;have HE:Hid (LoadPost w R (.returned (.tuple #[.agg #[.int .i64 tp,.bool tl,.slice ka tn kc,.slice va vn vc,.slice ca cn cc],.int .i64 0])) we):=Hd (by
    rw[hRt];refine⟨?_,[.int .i64 tp,.bool tl,.slice ka tn kc,.slice va vn vc,.slice ca cn cc],rfl,?_⟩
    ·rw[hwe];exact(set5_below hb56 (Nat.le_refl _) _ _ _ _ _).setCell (Nat.le_succ _) _
    ·have h1:NodeOn (fun b=>w3.heap.size≤b) 1000 w6 _ t:=HON5.out.agree (AgreeF.of_below hb6)
     refine NodeOn.mono (fun b hb=>?_) (h1.agree (by rw[hwe];exact agree_res (show ¬(w3.heap.size≤w.heap.size) by omega) (show ¬(w3.heap.size≤w.heap.size+1) by omega)));have hb:w3.heap.size≤b:=hb;omega)
   clear hx6 hx6b hb56 hx7 hb6 HR1 hRt c0 c1 c2 c3 c4 d0 d1 d2 d3 d4 f0 f1 f2 f3 f4;go_wp2_with fail;change bodyPostD Tryz.prog _ _ Exit.ret _ ((set5 w6 w.heap.size (.int .i64 tp) (.bool tl) (.slice ka tn kc) (.slice va vn vc) (.slice ca cn cc)).setCell ⟨w.heap.size+1,0,none⟩ (.int .i64 0));rw[←hwe];refine leaves_cons (f:=51) (args := #[.pointer (some ⟨w.heap.size,0,none⟩),.pointer (some ⟨w.heap.size+1,0,none⟩)]) (by simp) (by simp[go_sem]) ?_;refine(recover_idle ⟨w.heap.size,0,none⟩ ⟨w.heap.size+1,0,none⟩ we).mono ?_;rintro e u' w'' ⟨rfl,rfl,rfl⟩;have z0:=HX7.out.cell 0 0 rfl rfl;have z1:=HX7.out.cell 0 1 rfl rfl;have z2:=HX7.out.cell 0 2 rfl rfl;have z3:=HX7.out.cell 0 3 rfl rfl;have z4:=HX7.out.cell 0 4 rfl rfl;have ze:=HX7.out.cell 1 0 rfl rfl;exact⟨.tuple #[.agg #[.int .i64 tp,.bool tl,.slice ka tn kc,.slice va vn vc,.slice ca cn cc],.int .i64 0],by simp[results,Tryz.results15,go_sem,z0,z1,z2,z3,z4,ze],HE.out⟩
  | false=>
   have hRt:R=.error 11:=by rw[←HR1];simp[hc]
   subst hRt;have HX6:=Hd hx6;have HX6B:=Hd hx6b;clear hx6 hx6b hb56 hb6 HR1 c0 c1 c2 c3 c4 d0 d1 d2 d3 d4 f0 f1 f2 f3 f4;go_wp2_with fail;refine leaves_cons (f:=51) (args := #[.pointer (some ⟨w.heap.size,0,none⟩),.pointer (some ⟨w.heap.size+1,0,none⟩)]) (by simp) (by simp[go_sem]) ?_;refine(recover_caught w.heap.size (w.heap.size+1) 11 0 [] w6 HX6.out (by omega)).mono ?_;rintro e u' w'' ⟨rfl,rfl,rfl⟩;have hx5:=load_set HX6B.out (by omega) (.int .i64 0) (.bool false) (.slice none 0 0) (.slice none 0 0) (.slice none 0 0) 11;obtain⟨we,hwe⟩:∃y,y=(set5 w6 w.heap.size (.int .i64 0) (.bool false) (.slice none 0 0) (.slice none 0 0) (.slice none 0 0)).setCell ⟨w.heap.size+1,0,none⟩ (.int .i64 11):=⟨_,rfl⟩
   rw[←hwe] at hx5 ⊢;have z0:=hx5.cell 0 0 rfl rfl;have z1:=hx5.cell 0 1 rfl rfl;have z2:=hx5.cell 0 2 rfl rfl;have z3:=hx5.cell 0 3 rfl rfl;have z4:=hx5.cell 0 4 rfl rfl;have ze:=hx5.cell 1 0 rfl rfl;have hbe:Below w.heap.size w we.drew:=by
    rw[hwe];exact Below.dr ((set5_below HB56.out (Nat.le_refl _) _ _ _ _ _).setCell (Nat.le_succ _) _)
   exact⟨.tuple #[.agg #[.int .i64 0,.bool false,.slice none 0 0,.slice none 0 0,.slice none 0 0],.int .i64 11],by simp[results,Tryz.results15,go_sem,z0,z1,z2,z3,z4,ze],hbe,rfl⟩):p:=h
theorem qc14425 (h:p:=by
 rw[hR];obtain⟨w1,hw1⟩:∃w1,(w.alloc (.cells #[.int .i64 0,.bool false,.slice none 0 0,.slice none 0 0,.slice none 0 0] 50)).alloc (.cells #[.int .i64 0] 32)=w1:=⟨_,rfl⟩
 have hx1:Boxes w1 [(w.heap.size+1,[.int .i64 0]),(w.heap.size,[.int .i64 0,.bool false,.slice none 0 0,.slice none 0 0,.slice none 0 0])]:=by
  rw[←hw1];exact((Boxes.nil w).alloc #[.int .i64 0,.bool false,.slice none 0 0,.slice none 0 0,.slice none 0 0] 50 (b:=w.heap.size) rfl).alloc #[.int .i64 0] 32 (b:=w.heap.size+1) (by simp)
 have hb1:Below w.heap.size w w1:=by rw[←hw1];exact Below.al (Below.al (Below.refl _ _))
 first|exact Mk.go 455802 zm qaecd3a|exact Mk.go 161816 zm q3f8118):p:=h
theorem q3b5267 (h:p:=by
 clear zm
 by_cases hkn:e.key=[]
 ·have hkb:keyB e.key=false:=by rw[hkn];rfl
  have HF:Hid (nodeB true l=false):=Hd (HNS.out (by rw[HST.out];simp[keyOkN,hkb]));simp only[hkn] at e0 hsz;exact q0ddb2b
 ·have hkn2:(e.key == [])=false:=by simpa using hkn
  by_cases hk16:16<e.key.length
  ·have q16:decide ((16:Int)<(e.key.length:Int))=true:=by simp;omega
   exact q15d91b
  ·have q16:decide ((16:Int)<(e.key.length:Int))=false:=by simp;omega
   have hkb:keyB e.key=true:=by simp[keyB,hkn];omega
   cases hke:kle e.key e'.key with
   | true=>
    have hlq:(Op.bytesLess (strOf e.key).toList (strOf e'.key).toList || (strOf e.key).toList == (strOf e'.key).toList)=true:=by rw[strOf_toList,strOf_toList,bytes_less];exact hke
    simp only[strOf_toList] at hlq;have HF:Hid (nodeB true l=false):=Hd (HNS.out (by rw[HST.out];simp[hke,hk1p]));clear hp1;exact q0ddb2b
   | false=>
    have hlq:(Op.bytesLess (strOf e.key).toList (strOf e'.key).toList || (strOf e.key).toList == (strOf e'.key).toList)=false:=by rw[strOf_toList,strOf_toList,bytes_less];exact hke
    simp only[strOf_toList] at hlq;have hlq1:=(Bool.or_eq_false_iff.1 hlq).1;have hlq2:=(Bool.or_eq_false_iff.1 hlq).2;cases hfn:fineB e.v with
    | false=>
     rw[hfn] at F;have HF:Hid (nodeB true l=false):=Hd (HNS.out (by rw[HST.out];simp[valOkN,hfn]));exact qbe6c73
    | true=>
     rw[hfn] at F;have HU:Hid (upN true l (k+1)=true):=Hd (by rw[HUS.out,HST.out];simp[hke,hk1p,hkb,keyOkN,valOkN,hfn]);have zm:=Mk.i 743247;exact q37c2ba):p:=h
theorem qf44e14 (h:p:=by
 clear zm
 by_cases hkn:e.key=[]
 ·have hkb:keyB e.key=false:=by rw[hkn];rfl
  have HF:Hid (nodeB false l=false):=Hd (HNS.out (by rw[HST.out];simp[keyOkN,firstB,hk0,hkb]));simp only[hkn] at e0 hsz;exact q0ddb2b
 ·have hkn2:(e.key == [])=false:=by simpa using hkn
  by_cases hk16:16<e.key.length
  ·have q16:decide ((16:Int)<(e.key.length:Int))=true:=by simp;omega
   have hkb:keyB e.key=false:=by simp[keyB];omega
   have HF:Hid (nodeB false l=false):=Hd (HNS.out (by rw[HST.out];simp[keyOkN,firstB,hk0,hkb]));exact q0ddb2b
  ·have q16:decide ((16:Int)<(e.key.length:Int))=false:=by simp;omega
   have hkb:keyB e.key=true:=by simp[keyB,hkn];omega
   cases hke:kle e.key e'.key with
   | true=>
    have hlq:(Op.bytesLess (strOf e.key).toList (strOf e'.key).toList || (strOf e.key).toList == (strOf e'.key).toList)=true:=by rw[strOf_toList,strOf_toList,bytes_less];exact hke
    simp only[strOf_toList] at hlq;have HF:Hid (nodeB false l=false):=Hd (HNS.out (by rw[HST.out];simp[hke,hk1p]));clear hp1;exact q0ddb2b
   | false=>
    have hlq:(Op.bytesLess (strOf e.key).toList (strOf e'.key).toList || (strOf e.key).toList == (strOf e'.key).toList)=false:=by rw[strOf_toList,strOf_toList,bytes_less];exact hke
    simp only[strOf_toList] at hlq;have hlq1:=(Bool.or_eq_false_iff.1 hlq).1;have hlq2:=(Bool.or_eq_false_iff.1 hlq).2
    by_cases hp1:e.v.page<2
    ·have q1:decide (e.v.page<2)=true:=by simpa using hp1
     exact q4419a1
    ·have q1:decide (e.v.page<2)=false:=by simpa using hp1
     by_cases hp2:999<e.v.page
     ·have q2:decide (999<e.v.page)=true:=by simpa using hp2
      exact q4419a1
     ·have q2:decide (999<e.v.page)=false:=by simpa using hp2
      have hpb:pageB e.v.page=true:=by simp[pageB];omega
      have hv:=fun W=>vneq_page e.v W
      have hvq:(e.v == ⟨[],false,0,e.v.page⟩) = !(e.v != ⟨[],false,0,e.v.page⟩):=by simp[bne]
      generalize (e.v != ⟨[],false,0,e.v.page⟩)=vb at *;cases vb with
      | true=>
       have HF:Hid (nodeB false l=false):=Hd (HNS.out (by rw[HST.out];simp[valOkN,hvq]));exact qbe6c73
      | false=>
       have HU:Hid (upN false l (k+1)=true):=Hd (by rw[HUS.out,HST.out];simp[hke,hk1p,hkb,keyOkN,firstB,hk0,valOkN,hpb,hvq]);have zm:=Mk.i 753811;exact q37c2ba):p:=h
theorem q9be21f (h:p:=by
 obtain⟨b2,off2,e',hq,hb2l,hy2,hc',_⟩:=(h.below (Nat.le_refl _) hbw).at hp2;cases hq;have hg2:l[k-1]?.getD ⟨[],Vv.zero⟩=e':=by rw[show k-1=p by omega,hy2];rfl
 rw[hg2] at HST;have hk1:decide ((0:Int)<(k:Int))=true:=by simp;omega
 have hk1n:decide (0<k)=true:=by simp;omega
 have hk1p:0<k:=by omega
 have hk1z:((k:Int) == 0)=false:=by simp;omega
 have hpp:(0:Int)≤(p:Int)∧(p:Int)<(len:Int):=by omega
 have hsub:(k:Int)-1=(p:Int):=by omega
 have hp6:=(hb6.cell (p:=⟨b,off+p*5,none⟩) hb2l).trans hc';clear hg2 hy2 hb2l
 first|exact Mk.go 887719 zm q3b5267|exact Mk.go 10772 zm qf44e14):p:=h
theorem q72c811 (h:p:=by
 go_wp2
 go_ret;exact⟨rfl,rfl⟩):p:=h
theorem q630d4a (h:p:=by
 clear zm;generalize depI D=di at *;generalize D.isSome=ds at *;generalize checkT (n+1) t=ck at *;clear hh h h1 hlf hm hpg hB0 hX0 hb hck hem hD;cases lf with
 | false=>
  go_enter Tryz.func55,Tryz.ntmps55;exact qceefca
 | true=>
  by_cases hm0:m=0
  ·subst hm0
   by_cases hp:pg=0
   ·subst hp
    have HE:Hid (ck=true):=Hd (by rw[HCK.out];rfl);go_enter Tryz.func55,Tryz.ntmps55;exact q993faf
   ·have HE:Hid (ck=ds):=Hd (by rw[HCK.out];simp[hp])
    have q1:(pg == 0)=false:=beq_eq_false_iff_ne.2 hp;have HM0:=Hd hp;clear hp;go_enter Tryz.func55,Tryz.ntmps55;exact qd21dd5
  ·have HE:Hid (ck=ds):=Hd (by rw[HCK.out];simp[hm0])
   have q1:((m:Int) == 0)=false:=beq_eq_false_iff_ne.2 (by omega);have HM0:=Hd hm0;clear hm0;go_enter Tryz.func55,Tryz.ntmps55;exact qd21dd5):p:=h
theorem qbdefa5 (h:p:=by
 clear zm;have n3:=hX0.cell 0 3 rfl rfl;have n4:=hX0.cell 0 4 rfl rfl;generalize depI D=di at *;generalize D.isSome=ds at *;generalize checkT (n+1) t=ck at *;clear hh h h1 h2 h3 h4 hlf hm hpg r1 r2 hB0 hX0 hb hck hem hD;cases lf with
 | false=>
  simp only[Bool.false_eq_true,if_false] at hvn hcn;replace hcn:=hcn.symm;subst hvn hcn;go_enter Tryz.func53,Tryz.ntmps53;exact qceefca
 | true=>
  simp only[if_true] at hvn hcn;subst hvn hcn
  by_cases hp:pg=0
  ·subst hp
   by_cases hm0:vn=0
   ·subst hm0
    have HE:Hid (ck=true):=Hd (by rw[HCK.out];rfl);go_enter Tryz.func53,Tryz.ntmps53;exact q993faf
   ·have HE:Hid (ck=ds):=Hd (by rw[HCK.out];simp[hm0])
    have q1:((vn:Int)+vn == 0)=false:=beq_eq_false_iff_ne.2 (by omega);have q2:((vn:Int)+vn+0 == 0)=false:=beq_eq_false_iff_ne.2 (by omega);have HM0:=Hd hm0;clear hm0;go_enter Tryz.func53,Tryz.ntmps53;exact qd21dd5
  ·have HE:Hid (ck=ds):=Hd (by rw[HCK.out];simp[hp])
   have q1:(pg == 0)=false:=beq_eq_false_iff_ne.2 hp;have HP:=Hd hp;clear hp;go_enter Tryz.func53,Tryz.ntmps53;exact qd21dd5):p:=h
theorem qa8e0cc (h:p:=by
 have hck:checkT (n+1) t=(emptyB t || (depthT (n+1) t [] [] true).isSome):=rfl;obtain⟨D,hD⟩:∃D,depthT (n+1) t [] [] true=D:=⟨_,rfl⟩
 rw[hD] at CF hck;have hem:emptyB t=(lf && (pg == 0 && m == 0)):=by
  rw[←hlf,←hpg,←hm];cases t with
  | leaf p l=>cases l<;>rfl
  | node p l=>rfl
 have h0:=depI_nn D;have hs0:strOf []=⟨#[]⟩:=rfl;rw[hs0] at CF;have HCK:Hid (checkT (n+1) t=(lf && (pg == 0 && m == 0) || D.isSome)):=Hd (by rw[hck,hem]);have HB:=Hd hB0;have n0:=hX0.cell 0 0 rfl rfl;have n1:=hX0.cell 0 1 rfl rfl;have n2:=hX0.cell 0 2 rfl rfl
 first|exact Mk.go 491466 zm q630d4a|exact Mk.go 447653 zm qbdefa5):p:=h
theorem q0ddb2b (h:p:=by
 go_wp2_with fail;go_ret;exact⟨ret_bool HF.out.symm,hbw6⟩):p:=h
theorem qb05780 (h:p:=by
 clear zm;have g3:=hs3.cell 0 1 rfl rfl;have hq:(binOp .eql 271 (.iface 273 (.agg #[])) (.iface 273 (.agg #[]))).run Tryz.prog w3=.ok (.bool true) w3:=by kernel_rfl
 have BY:=BX.alloc #[.bool true,.slice none 0 0] 205 rfl;have hb4:=below_one w3 (.cells #[.bool true,.slice none 0 0] 205);have HBS:=Hd hbs;have HB:=Hd hb;have hlt3:=BX.lt 0 rfl;clear hb3 hs3 BX hbs hb;go_wp2_with fail
 go_loopw [42] (fun i wr=>∃(k:Nat) (v:Value) (es:List En),k≤cl.length∧i=.int .i64 k∧DecTo true cl k es∧Boxes wr [(w3.heap.size,[.bool true,v]),(w.heap.size,[.bool false,.slice none 0 0])]∧OwnEn wr (w3.heap.size+1) v es∧Below w3.heap.size w3 wr) (fun i _=>cl.length-(intOf i).toNat)
 case atStart=>exact⟨0,_,[],Nat.zero_le _,rfl,rfl,BY,OwnEn.nil _ _,hb4⟩
 case round=>
  obtain⟨k,v,es,hk,rfl,hdt,BY,hown,hbw⟩:=hrel;have hsz:=hbw.size;have HDT:=Hd hdt;have hes:=hdt.len;clear hdt
  by_cases hlt:k<cl.length
  ·obtain⟨b5,off5,a5,n5,c5,rfl,hbb5,hcell5,hbs5⟩:=(HBS.out.below (Nat.le_refl _) hbw).at hlt
   obtain⟨c,hc⟩:∃c,cl[k]? = some c:=⟨_,List.getElem?_eq_getElem hlt⟩
   rw[hc,Option.getD_some] at hbs5;have h5:c.length≤128:=HC.out c (List.mem_of_getElem? hc);have h5':n5≤128:=by have:=hbs5.len;omega
   have HCK:=Hd hc;have hT:=take_any a5 n5 c5 c wr hbs5 (by omega);have hde:decE true c=(decV true (tText ⟨c,0⟩).2).map fun v=>⟨(tText ⟨c,0⟩).1,v⟩:=rfl
   have hl6:=tText_len ⟨c,0⟩;have hl6:(tText ⟨c,0⟩).2.l.length≤128:=Nat.le_trans hl6 h5;have TT:=fun t W (h:Tk W t ⟨c,0⟩)=>tText_any t ⟨c,0⟩ W h (Nat.le_trans h5 (by decide))
   generalize (tText ⟨c,0⟩).1=key at *;generalize (tText ⟨c,0⟩).2=s6 at *;have HDE:=Hd hde;have TK:=fun t W (h:Tk W t s6)=>takeL_any t s6 W h (Nat.le_trans hl6 (by decide))
   generalize decV true s6=o at *;have hmp:=m_takeL;clear hc hbs5 hde;go_wp2_with fail;refine hT.mono ?_;rintro e w5 ⟨rfl,htk5,htl,hb5⟩;generalize w5.heap.size-1=t at *;have BY0:=Hd BY;have HO0:=Hd hown;clear hT BY hown;go_wp2_with fail;refine(TT _ _ htk5).mono ?_;rintro e w6 ⟨_,rfl,rfl,hg6,htk6⟩;have hb6:=below_take hb5 htl hg6;go_wp2_with fail;refine(TK _ _ htk6).mono ?_;rintro e w7 ⟨u,s7,rfl,hu,hg7,htk7⟩;have hb7:=below_take hb6 htl hg7;have BY7:=BY0.out.step hb7;have hown7:=HO0.out.below (Nat.le_refl _) hb7;have hbw7:=below_then hbw hb7;have hb8:=below_one w7;cases o with
   | none=>
    obtain⟨x,rfl⟩:=hu;have hN:decL true cl=none:=decL_none HCK.out HDE.out;exact qe37dd5
   | some x=>
    subst hu;have hD:decE true c=some ⟨key,x⟩:=HDE.out;have zm:=Mk.i 133500;exact q1c8a3f
  ·obtain rfl:k=cl.length:=by omega
   have hdl:decL true cl=some es:=by have:=HDT.out;unfold DecTo at this;rwa [List.take_length] at this
   have hes16:SmE es:=fun e he=>by have:=decL_small hdl HC.out e he;omega
   obtain⟨av,kv,rfl,hen⟩:=hown.ents;have CK:=check_any true av es.length kv es wr hen (by omega) hes16;have hE:gE=if nodeB true es then 0 else 11:=by rw[HE.out,hdl]
   have e0:=BY.cell 0 0 rfl rfl;have e1:=BY.cell 0 1 rfl rfl;have HO:=Hd hown;clear hown hen;have hbb:=below_then HB.out hbw;cases hn:nodeB true es with
   | true=>
    rw[hn] at CK hE;have hE0:gE=0:=hE;have hL:gL=es:=by rw[HL.out,if_pos hE0,hdl];rfl
    have hF:gF=true:=by rw[HF.out,if_pos hE0]
    have zm:=Mk.i 433825;exact qc8892e
   | false=>
    rw[hn] at CK hE;have hE0:gE=11:=hE;have zm:=Mk.i 513689;exact qec5b5c):p:=h
theorem q4c3c3c (h:p:=by
 clear zm;have g3:=hs3.cell 0 2 rfl rfl;have hq:(binOp .eql 271 (.iface 315 (.agg #[])) (.iface 273 (.agg #[]))).run Tryz.prog w3=.ok (.bool false) w3:=by kernel_rfl
 have BY:=BX.alloc #[.bool false,.slice none 0 0] 205 rfl;have hb4:=below_one w3 (.cells #[.bool false,.slice none 0 0] 205);have HBS:=Hd hbs;have HB:=Hd hb;have hlt3:=BX.lt 0 rfl;clear hb3 hs3 BX hbs hb;go_wp2_with fail
 go_loopw [42] (fun i wr=>∃(k:Nat) (v:Value) (es:List En),k≤cl.length∧i=.int .i64 k∧DecTo false cl k es∧Boxes wr [(w3.heap.size,[.bool false,v]),(w.heap.size,[.bool false,.slice none 0 0])]∧OwnEn wr (w3.heap.size+1) v es∧Below w3.heap.size w3 wr) (fun i _=>cl.length-(intOf i).toNat)
 case atStart=>exact⟨0,_,[],Nat.zero_le _,rfl,rfl,BY,OwnEn.nil _ _,hb4⟩
 case round=>
  obtain⟨k,v,es,hk,rfl,hdt,BY,hown,hbw⟩:=hrel;have hsz:=hbw.size;have HDT:=Hd hdt;have hes:=hdt.len;clear hdt
  by_cases hlt:k<cl.length
  ·obtain⟨b5,off5,a5,n5,c5,rfl,hbb5,hcell5,hbs5⟩:=(HBS.out.below (Nat.le_refl _) hbw).at hlt
   obtain⟨c,hc⟩:∃c,cl[k]? = some c:=⟨_,List.getElem?_eq_getElem hlt⟩
   rw[hc,Option.getD_some] at hbs5;have h5:c.length≤128:=HC.out c (List.mem_of_getElem? hc);have h5':n5≤128:=by have:=hbs5.len;omega
   have HCK:=Hd hc;have hT:=take_any a5 n5 c5 c wr hbs5 (by omega);have hde:decE false c=(decV false (tText ⟨c,0⟩).2).map fun v=>⟨(tText ⟨c,0⟩).1,v⟩:=rfl
   have hl6:=tText_len ⟨c,0⟩;have hl6:(tText ⟨c,0⟩).2.l.length≤128:=Nat.le_trans hl6 h5;have TT:=fun t W (h:Tk W t ⟨c,0⟩)=>tText_any t ⟨c,0⟩ W h (Nat.le_trans h5 (by decide))
   generalize (tText ⟨c,0⟩).1=key at *;generalize (tText ⟨c,0⟩).2=s6 at *;have HDE:=Hd hde;have TK:=fun t W (h:Tk W t s6)=>takeB_any t s6 W h (Nat.le_trans hl6 (by decide))
   generalize decV false s6=o at *;have hmp:=m_takeB;clear hc hbs5 hde;go_wp2_with fail;refine hT.mono ?_;rintro e w5 ⟨rfl,htk5,htl,hb5⟩;generalize w5.heap.size-1=t at *;have BY0:=Hd BY;have HO0:=Hd hown;clear hT BY hown;go_wp2_with fail;refine(TT _ _ htk5).mono ?_;rintro e w6 ⟨_,rfl,rfl,hg6,htk6⟩;have hb6:=below_take hb5 htl hg6;go_wp2_with fail;refine(TK _ _ htk6).mono ?_;rintro e w7 ⟨u,s7,rfl,hu,hg7,htk7⟩;have hb7:=below_take hb6 htl hg7;have BY7:=BY0.out.step hb7;have hown7:=HO0.out.below (Nat.le_refl _) hb7;have hbw7:=below_then hbw hb7;have hb8:=below_one w7;cases o with
   | none=>
    obtain⟨x,rfl⟩:=hu;have hN:decL false cl=none:=decL_none HCK.out HDE.out;exact qe37dd5
   | some x=>
    subst hu;have hD:decE false c=some ⟨key,x⟩:=HDE.out;have zm:=Mk.i 281280;exact q1c8a3f
  ·obtain rfl:k=cl.length:=by omega
   have hdl:decL false cl=some es:=by have:=HDT.out;unfold DecTo at this;rwa [List.take_length] at this
   have hes16:SmE es:=fun e he=>by have:=decL_small hdl HC.out e he;omega
   obtain⟨av,kv,rfl,hen⟩:=hown.ents;have CK:=check_any false av es.length kv es wr hen (by omega) hes16;have hE:gE=if nodeB false es then 0 else 11:=by rw[HE.out,hdl]
   have e0:=BY.cell 0 0 rfl rfl;have e1:=BY.cell 0 1 rfl rfl;have HO:=Hd hown;clear hown hen;have hbb:=below_then HB.out hbw;cases hn:nodeB false es with
   | true=>
    rw[hn] at CK hE;have hE0:gE=0:=hE;have hL:gL=es:=by rw[HL.out,if_pos hE0,hdl];rfl
    have hF:gF=false:=by rw[HF.out,if_pos hE0]
    have zm:=Mk.i 80712;exact qc8892e
   | false=>
    rw[hn] at CK hE;have hE0:gE=11:=hE;have zm:=Mk.i 513689;exact qec5b5c):p:=h
theorem qda4906 (h:p:=by
 clear hE hk hlk hdec hgE hgL hgF hcl;go_enter Tryz.func96,Tryz.ntmps96;go_wp2_with fail;refine hun.mono ?_;rintro e w1 ⟨v1,rfl,hob,hb1⟩;obtain⟨ac,cc,rfl,hbs⟩:=hob.bss;have BX:=BX.step hb1;have hb:=below_then hB hb1;clear hob hun hb1;go_wp2_with fail;refine(SH _).mono ?_;rintro e w2 ⟨bs,rfl,hs2,hb2⟩;have BX:=BX.step hb2;have hb:=below_then hb hb2;have hbs:=hbs.below (Nat.le_refl _) hb2;clear hb2 hs2;go_wp2_with fail;refine(SH _).mono ?_;rintro e w3 ⟨bs3,rfl,hs3,hb3⟩;have BX:=BX.step hb3;have hb:=below_then hb hb3;have hbs:=hbs.below (Nat.le_refl _) hb3
 first|exact Mk.go 556736 zm qb05780|exact Mk.go 996156 zm q4c3c3c):p:=h
theorem qb5d386 (h:p:=by
 have hag:AgreeF (fun x=>(Value.slice aE es.length cE).ownBlock≠some x∧x≠w.heap.size+1+1+1) wz w2:=AgreeF.trans (AgreeF.dr (AgreeF.refl wz)) (AgreeF.of_below hb2);exact⟨a9,c9,w9,hr2,g8,g9,hm2.box.cell 1 1 rfl rfl,by have:=hm2.lt;have:=hb2.size;have h8:wz.heap.size≤w2.heap.size:=this;omega,hag,hag.trans gA,hag.trans gB,Hd hmQ⟩):p:=h
theorem q206bd6 (h:p:=by
 clear zm;have HV:=Hd hv;have H1:=Hd h1;have HX0:=Hd hX0;have HB0:=Hd hB0;have HBD:=Hd hb;show Calls _ _ #[.agg #[.int .i64 0,.bool true,.slice a l.length c]] _ _;clear h hB hb hv h1 hX0 hB0 hcn;go_enter Tryz.func167,Tryz.ntmps167;go_wp2_with fail
 go_loopw [3,4] (fun s3 s4 wr=>∃i:Nat,i≤l.length∧s4=.int .i64 i∧s3=.slice none 0 0∧Below w.heap.size w wr∧Boxes wr [(w.heap.size,[.int .i64 0,.bool true,.slice a l.length c])]) (fun _ s _=>l.length-(intOf s).toNat)
 case atStart=>exact⟨0,Nat.zero_le _,rfl,rfl,HB0.out,HX0.out⟩
 case round=>
  obtain⟨i,hi,rfl,rfl,hbw,hx⟩:=hrel;have c0:=hx.cell 0 0 rfl rfl;have c1:=hx.cell 0 1 rfl rfl;have c2:=hx.cell 0 2 rfl rfl;have iw2:IntKind.i64.wrap ((i:Int)+1)=(i:Int)+1:=by simp[IntKind.wrap,IntKind.signed,IntKind.bits];omega
  by_cases hlt:i<l.length
  ·have H1L:TabR 4 (RcOn F n w) w a l.length c (cellsR (.leaf 0 l)):=H1.out
   obtain⟨b,off,y,pa,pn,pc,ka,kn,kc,rfl,hbb,hy,_,hrow,_,htk,_,k0,k1,k2,k3⟩:=RNodeOn.cell H1L hlt;rw[cellsR_leaf] at hy;obtain⟨x,hx1,hx2⟩:=Option.map_eq_some_iff.1 hy;subst hx2;obtain⟨key,tv⟩:=x;dsimp only at *;have hpg:tv.pages=[]:=HV.out _ (List.mem_of_getElem? hx1);rw[hpg] at hrow;have hpn:pn=0:=hrow.1.symm;subst hpn;have hpc:pc≤9223372036854775807:=by have:=hrow.2.2.1;unfold maxLen at this;omega
   have g2:=(hbw.cell (p:=⟨b,off+i*4+2,none⟩) hbb).trans k2;have q1:decide ((i:Int)<(l.length:Int))=true:=decide_eq_true (by omega);have q2:decide (i<l.length)=true:=decide_eq_true hlt;have HBW:=Hd hbw;have HX:=Hd hx;clear hbw hx hrow hy hx1 htk k0 k1 k2 k3 hpg
   go_wp2_with (at_builtin;refine wpList_append_run rfl _ _ _ _ rfl rfl rfl (append_none _ _ _) ?_)
   go_roundw
   case rel=>exact⟨i+1,hlt,by go_num,rfl,HBW.out,HX.out⟩
   case measure=>simp[intOf];omega
  ·have q1:decide ((i:Int)<(l.length:Int))=false:=decide_eq_false (by omega)
   have q2:decide (i<l.length)=false:=decide_eq_false hlt;have HBW:=Hd hbw;clear hbw hx;go_wp2_with fail;go_ret;exact⟨rfl,HBW.out⟩):p:=h
theorem q804ac2 (h:p:=by
 clear zm;have c1:=hX0.cell 0 1 rfl rfl;have c2:=hX0.cell 0 2 rfl rfl;have HV:=Hd hv;have H1:=Hd h1;have HX0:=Hd hX0;have HB0:=Hd hB0;have HF:=Hd hf;show Calls _ _ #[.agg #[.int .i64 0,.bool true,.slice a l.length c]] _ _
 by_cases hl0:l=[]
 ·subst hl0
  have HR:Hid (freshN (n+1) (.leaf 0 ([]:List (List UInt8×Tv)))=0):=Hd rfl;rw[HR.out];clear h hB hb hf hv h1 hX0 hB0 hcn hbl;rw[List.length_nil] at hwb c2;go_enter Tryz.func43,Tryz.ntmps43;go_wp2_with fail;go_ret;exact⟨rfl,HB0.out⟩
 ·obtain⟨m,hm⟩:∃m,freshN (n+1) (.leaf 0 l)=m:=⟨_,rfl⟩
  have hm2:m=1+(l.map fun c=>needC c.2.data.length).sum:=by rw[←hm];unfold freshN;rw[if_neg hl0]
  rw[hm] at hf;rw[hm];have HM:=Hd hm2;have hpos:0<l.length:=List.length_pos_iff.2 hl0;have q0:((l.length:Int) == 0)=false:=by simp;omega
  have q0':(l.length == 0)=false:=by simp;exact hl0
  clear h hB hb hv h1 hX0 hB0 hcn hm hm2;go_enter Tryz.func43,Tryz.ntmps43;go_wp2_with fail
  go_loopw [3,4,5] (fun s3 s4 _ wr=>∃i:Nat,i≤l.length∧s4=.int .i64 i∧s3=.int .i64 ((1+((l.take i).map fun c=>needC c.2.data.length).sum:Nat):Int)∧Below w.heap.size w wr∧Boxes wr [(w.heap.size,[.int .i64 0,.bool true,.slice a l.length c])]) (fun _ s _ _=>l.length-(intOf s).toNat)
  case atStart=>exact⟨0,Nat.zero_le _,rfl,rfl,HB0.out,HX0.out⟩
  case round=>
   obtain⟨i,hi,rfl,rfl,hbw,hx⟩:=hrel;have c0:=hx.cell 0 0 rfl rfl;have c1:=hx.cell 0 1 rfl rfl;have c2:=hx.cell 0 2 rfl rfl;have iw2:IntKind.i64.wrap ((i:Int)+1)=(i:Int)+1:=by simp[IntKind.wrap,IntKind.signed,IntKind.bits];omega
   by_cases hlt:i<l.length
   ·have H1L:TabR 4 (RcOn F n w) w a l.length c (cellsR (.leaf 0 l)):=H1.out
    obtain⟨b,off,y,pa,pn,pc,ka,kn,kc,rfl,hbb,hy,_,hrow,_,_,_,k0,k1,k2,k3⟩:=RNodeOn.cell H1L hlt;rw[cellsR_leaf] at hy;obtain⟨x,hx1,hx2⟩:=Option.map_eq_some_iff.1 hy;subst hx2;obtain⟨key,tv⟩:=x;dsimp only at *;have hpg:tv.pages=[]:=HV.out _ (List.mem_of_getElem? hx1);rw[hpg] at hrow;have hpn:pn=0:=hrow.1.symm;subst hpn;obtain⟨S0,hS0⟩:∃x,((l.take i).map fun c=>needC c.2.data.length).sum=x:=⟨_,rfl⟩
    obtain⟨N0,hN0⟩:∃x,needC tv.data.length=x:=⟨_,rfl⟩
    have hS1:((l.take (i+1)).map fun c=>needC c.2.data.length).sum=S0+N0:=by rw[sum_take_succ _ hx1,hS0];exact congrArg _ hN0
    have hS9:=sum_take_le (fun c:List UInt8×Tv=>needC c.2.data.length) l (i+1);rw[hS1] at hS9;have hm:=HM.out;have hSm:1+S0+N0≤1000000:=by omega
    rw[hS0];have g0:=(hbw.cell (p:=⟨b,off+i*4,none⟩) hbb).trans k0;have g1:=(hbw.cell (p:=⟨b,off+i*4+1,none⟩) hbb).trans k1;have g2:=(hbw.cell (p:=⟨b,off+i*4+2,none⟩) hbb).trans k2;have g3:=(hbw.cell (p:=⟨b,off+i*4+3,none⟩) hbb).trans k3;have hsz:=strOf_size tv.data;have C:=fun W=>crneed_any (tv.data.length:Int) W
    rw[hN0] at C;have iw3:IntKind.i64.wrap (((1+S0:Nat):Int)+(N0:Int))=((1+(S0+N0):Nat):Int):=by simp[IntKind.wrap,IntKind.signed,IntKind.bits];omega
    have q1:decide ((i:Int)<(l.length:Int))=true:=decide_eq_true (by omega);have q2:decide (i<l.length)=true:=decide_eq_true hlt;obtain⟨wc,hwc⟩:∃x,x=wr.alloc (.cells #[.string (strOf key),.string (strOf tv.data),.slice pa 0 pc,.slice ka kn kc] 145):=⟨_,rfl⟩
    have hbc:Below wr.heap.size wr wc:=by rw[hwc];exact Below.al (Below.refl _ _)
    have hxc:Boxes wc [(wr.heap.size,[.string (strOf key),.string (strOf tv.data),.slice pa 0 pc,.slice ka kn kc])]:=by rw[hwc];exact(Boxes.nil wr).alloc #[.string (strOf key),.string (strOf tv.data),.slice pa 0 pc,.slice ka kn kc] 145 rfl
    have hx2:=hx.step hbc;have e1:=hx2.cell 0 1 rfl rfl;have e2:=hxc.cell 0 2 rfl rfl;have e3:=hxc.cell 0 1 rfl rfl;have HBW:=Hd (hbw.trans (hbc.mono hbw.size));have HX:=Hd hx2;have HWC:=Hd hwc;have HS1:=Hd hS1;clear hbw hx hx2 hbc hxc hwc hS0 hN0 hS1 hS9 hm hrow hpg hy hx1 k0 k1 k2 k3;go_upto_region 8 with(fail)
    rw[←HWC.out];go_wp2_with fail;refine(C _).mono ?_;rintro e wx ⟨rfl,rfl⟩;go_wp2_with fail;go_roundw
    case rel=>exact⟨i+1,hlt,by go_num,by rw[HS1.out];go_num,HBW.out,HX.out⟩
    case measure=>simp[intOf];omega
   ·have hin:i=l.length:=by omega
    have q1:decide ((i:Int)<(l.length:Int))=false:=decide_eq_false (by omega);have q2:decide (i<l.length)=false:=decide_eq_false hlt;have hm:=HM.out;have hfin:((1+((l.take i).map fun c=>needC c.2.data.length).sum:Nat):Int)=(m:Int):=by rw[hin,List.take_length,hm]
    rw[hfin];have HBW:=Hd hbw;clear hbw hx hfin hm hin;go_wp2_with fail;go_ret;exact⟨rfl,HBW.out⟩):p:=h
theorem qf6cfb1 (h:p:=by
 obtain⟨rfl,hv⟩:=bare_vals hB;obtain⟨a,c,rfl,h1,_⟩:=h.at;have hbl:l.length≤1000:=hb.1;have hcn:cntT (.leaf 0 l)=l.length:=rfl;rw[hcn] at h1;obtain⟨wb,hwb⟩:∃x,w.alloc (.cells #[.int .i64 0,.bool true,.slice a l.length c] 27)=x:=⟨_,rfl⟩
 have hB0:Below w.heap.size w wb:=by rw[←hwb];exact Below.al (Below.refl _ _)
 have hX0:Boxes wb [(w.heap.size,[.int .i64 0,.bool true,.slice a l.length c])]:=by rw[←hwb];exact(Boxes.nil w).alloc #[.int .i64 0,.bool true,.slice a l.length c] 27 rfl
 have c0:=hX0.cell 0 0 rfl rfl
 first|exact Mk.go 124758 zm q206bd6|exact Mk.go 407746 zm q804ac2):p:=h
theorem q3eabde (h:p:=by
 clear zm;have hl1:=hbss.2.1;have hl2:=hbss.2.2.1;unfold maxLen at hl2;clear hu ho2 hb1 hb2 hbss;go_wp2_with fail
 go_ret3
 rw[HF.out,HN.out,HL.out];exact oneC_nil hB):p:=h
theorem qf7f6b9 (h:p:=by
 clear zm;clear hu ho2 hb1 hb2 hbss;go_wp2_with fail
 go_ret3
 rw[HF.out,HN.out,HL.out];exact oneC_nil hB):p:=h
end
end Go.Proofs.YtpghlmcoajaiiaaGreatDoor
