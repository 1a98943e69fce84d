/- Texts that other texts of this claim lean on, one behind the other. -/
import Derived.Test.YtpghlmcoajaiiaaGreatDoorB1
import Derived.Test.YtpghlmcoajaiiaaGreatDoorB10
import Derived.Deep.RegionHeld3
import Derived.Deep.DeepCutAuto
import Derived.Deep.CutBlock
import Derived.Test.YtpghlmcoajaiiaaGreatDoorB6
set_option maxHeartbeats 20000000
set_option maxRecDepth 100000
namespace Go.Proofs.YtpghlmcoajaiiaaGreatDoor
open Go.RowKit
def PartedTo (F:Nat→Prop) (n:Nat) (w:World) (p:Int) (l:List (List UInt8×Tr)) (k:Nat) (e:Ending) (w':World):Prop:=
 ∃cs,e=.returned (.tuple #[.agg cs.toArray,.bool (splitT l k).isSome])∧RNodeOn (Fr F w) n w' cs (match splitT l k with|none=>.node p l|some m=>.node 0 m)∧Below w.heap.size w w'
theorem parted_end {F:Nat→Prop} {n m d:Nat} {w w4 w':World} {p:Int} {l mm:List (List UInt8×Tr)} {k r:Nat} {a:Option Addr} (hsp:splitT l k=some mm) (hr:w.heap.size≤r) (hF:∀b,F b→b<w.heap.size) (hr4:r<w4.heap.size)
 (h:RNodeOn (Fr F w4) (n+1) w' [.int .i64 0,.bool (Tr.node 0 mm).isLeaf,.slice a m d] (.node 0 mm)) (hb:Below w.heap.size w w') :
 PartedTo F (n+1) w p l k (.returned (.tuple #[.agg #[.int .i64 0,.bool false,.slice a m d],.bool true])) (((w'.setCell ⟨r,0,none⟩ (.int .i64 0)).setCell ⟨r,1,none⟩ (.bool false)).setCell ⟨r,2,none⟩ (.slice a m d)):=by
 refine⟨[.int .i64 0,.bool false,.slice a m d],by rw[hsp];rfl,?_,((hb.setCell (by simpa using hr) _).setCell (by simpa using hr) _).setCell (by simpa using hr) _⟩;rw[hsp];refine(h.put3 (r:=r) (fun hg=>?_) _ _ _).mono (fun b hb=>?_)
 ·rcases hg with hg|hg
  ·have:=hF _ hg;omega
  ·omega
 ·rcases hb with hb|hb
  ·exact .inl hb
  ·exact .inr (by omega)
theorem parted_any {F:Nat→Prop} {n:Nat} {w:World} {cs:List Value} {p:Int} {l:List (List UInt8×Tr)} (hF:∀b,F b→b<w.heap.size) (h:RNodeOn F (n+1) w cs (.node p l)) (hl9:l.length≤1000) {k:Nat} (hbd:Bnd n (kidAt l k)) (hk:k<l.length) :
 Calls Tryz.prog 165 #[.agg cs.toArray,.int .i64 (k:Int)] w (PartedTo F (n+1) w p l k):=by
 have H:=Hd h;obtain⟨a,c,rfl,h1,hfa⟩:=h.at;obtain⟨e1,e2,e3⟩:=h1.lens;obtain⟨m,hml⟩:∃m,cntT (.node p l)=m:=⟨_,rfl⟩
 have hlm:l.length=m:=hml;rw[hml] at h1 hfa e1 e2 ⊢;rw[hlm] at hk;have HFR:=Hd h1;obtain⟨b,off,y,pa,pn,pc,ka,kn,kc,rfl,hbb,hy,_,_,_,hkid,hfk,c0,c1,c2,c3⟩:=RNodeOn.cell h1 hk;rw[cellsR_node] at hy;obtain⟨x,hx1,hx2⟩:=Option.map_eq_some_iff.1 hy;subst hx2;obtain⟨xk,kid⟩:=x;have s1:=hkid.lens.1;obtain rfl:kn=1:=s1.symm;obtain⟨bk,ok,kd,kcs,rfl,hbk,hyk,_,hon,hck⟩:=TabR.at hkid (show 0<1 by omega);cases hyk;have hkey:keyAt l k=xk:=by unfold keyAt;rw[hx1];rfl
 have hkd:kidAt l k=kid:=by unfold kidAt;rw[hx1];rfl
 have hkb:Bnd n kid:=by rw[←hkd];exact hbd
 cases n with
 | zero=>exact hon.elim
 | succ n=>
 obtain⟨ak,ck,rfl,hkr,hfr⟩:=hon.at;have hm9:m≤1000:=by rw[←hlm];exact hl9
 have hsm:Small (sizesT kid):=hkb.small;have hkm9:cntT kid≤1000:=by
  cases kid with
  | leaf q r=>exact hkb.1
  | node q r=>exact hkb.1
 obtain⟨km,hkm⟩:∃x,cntT kid=x:=⟨_,rfl⟩
 obtain⟨kp,hkp⟩:∃x,kid.page=x:=⟨_,rfl⟩
 obtain⟨kl,hkl⟩:∃x,kid.isLeaf=x:=⟨_,rfl⟩
 rw[hkm,hkp,hkl] at hon hck;rw[hkm] at hkr hfr hkm9;show Calls _ _ #[.agg #[.int .i64 p,.bool false,.slice (some ⟨b,off,none⟩) m c],.int .i64 (k:Int)] _ _;obtain⟨W2,hW2⟩:∃x,(w.alloc (.cells #[.int .i64 p,.bool false,.slice (some ⟨b,off,none⟩) m c] 27)).alloc (.cells #[.int .i64 0,.bool false,.slice none 0 0] 27)=x:=⟨_,rfl⟩
 have hb2:Below w.heap.size w W2:=by rw[←hW2];exact Below.al (Below.al (Below.refl _ _))
 have hx2:Boxes W2 [(w.heap.size+1,[.int .i64 0,.bool false,.slice none 0 0]),(w.heap.size,[.int .i64 p,.bool false,.slice (some ⟨b,off,none⟩) m c])]:=by
  exact qfb406c
 have hsz2:W2.heap.size=w.heap.size+2:=by rw[←hW2];simp
 have n2:=hx2.cell 1 2 rfl rfl;have v3:=(hb2.cell (p:=⟨b,off+k*4+3,none⟩) hbb).trans c3;have k0:W2.cell? ⟨bk,ok,none⟩=some (.int .i64 kp):=(hb2.cell (p:=⟨bk,ok,none⟩) hbk).trans (by simpa using hck 0 _ rfl);have k1:W2.cell? ⟨bk,ok+1,none⟩=some (.bool kl):=(hb2.cell (p:=⟨bk,ok+1,none⟩) hbk).trans (by simpa using hck 1 _ rfl);have k2:W2.cell? ⟨bk,ok+2,none⟩=some (.slice ak km ck):=(hb2.cell (p:=⟨bk,ok+2,none⟩) hbk).trans (by simpa using hck 2 _ rfl);obtain⟨W3,hW3⟩:∃x,W2.alloc (.cells #[.int .i64 kp,.bool kl,.slice ak km ck] 27)=x:=⟨_,rfl⟩
 have hb23:Below W2.heap.size W2 W3:=by rw[←hW3];exact Below.al (Below.refl _ _)
 have hb3:Below w.heap.size w W3:=below_via hb2 hb23;have hx3:Boxes W3 [(w.heap.size+2,[.int .i64 kp,.bool kl,.slice ak km ck]),(w.heap.size+1,[.int .i64 0,.bool false,.slice none 0 0]),(w.heap.size,[.int .i64 p,.bool false,.slice (some ⟨b,off,none⟩) m c])]:=by
  rw[←hW3];exact hx2.alloc #[.int .i64 kp,.bool kl,.slice ak km ck] 27 (b:=w.heap.size+2) (by omega)
 have g0:=hx3.cell 0 0 rfl rfl;have g1:=hx3.cell 0 1 rfl rfl;have g2:=hx3.cell 0 2 rfl rfl;have CS:=rsizes_any (hon.below hb3) hkb;have HX3:=Hd hx3;have HB3:=Hd hb3;have HKR:=Hd hkr;have HSM:=Hd hsm;have HKEY:=Hd hkey;have HKD:=Hd hkd;have HKM:=Hd hkm;have HKL:=Hd hkl;have HX1:=Hd hx1;have HLM:=Hd hlm;have HC0:=Hd c0;clear hx2 hx3 hb2 hb3 hb23 c0 c1 c2 c3 hck hon hkr hsm hkey hkd hkm hkl hkp hx1 hlm h h1 hkid hy hbd hml e1 s1 hl9;go_enter Tryz.func165,Tryz.ntmps165;go_wp2_with fail;refine CS.mono ?_;rintro e w4 ⟨v4,rfl,ho4,hb4⟩;obtain⟨a4,c4,rfl,hrow⟩:=Row.of_own ho4;go_wp2_with fail;refine(refAt_any _ _ _ _ _ hrow HSM.out).mono ?_;rintro e w5 ⟨rfl,rfl⟩;obtain⟨z,hz⟩:∃z,atF (sizesT kid)=z:=⟨_,rfl⟩
 rw[hz];have hx4:=HX3.out.step hb4;have hbw4:=below_via HB3.out hb4
 by_cases hz0:z=0
 ·subst hz0
  have hsp:splitT l k=none:=by unfold splitT;rw[HKD.out,hz];rfl
  have r0:=hx4.cell 2 0 rfl rfl;have r1:=hx4.cell 2 1 rfl rfl;have r2:=hx4.cell 2 2 rfl rfl;have q0:=hx4.cell 1 0 rfl rfl;have q1:=hx4.cell 1 1 rfl rfl;have q2:=hx4.cell 1 2 rfl rfl;have u0:=hx4.frozen 1 0 rfl;have u1:=hx4.frozen 1 1 rfl;have u2:=hx4.frozen 1 2 rfl;clear ho4 hrow CS g0 g1 g2 n2 v3 k0 k1 k2;go_wp2_with fail;have hbe:=((hbw4.setCell (p:=⟨w.heap.size+1,0,none⟩) (by simp) (.int .i64 p)).setCell (p:=⟨w.heap.size+1,1,none⟩) (by simp) (.bool false)).setCell (p:=⟨w.heap.size+1,2,none⟩) (by simp) (.slice (some ⟨b,off,none⟩) m c);have hxw:=(((hx4.sub (m:=[(w.heap.size+1,[.int .i64 0,.bool false,.slice none 0 0])]) (by simp)).put 0 (.int .i64 p) (by simp)).put 1 (.bool false) (by simp)).put 2 (.slice (some ⟨b,off,none⟩) m c) (by simp);have t0:=hxw.cell 0 0 rfl rfl;have t1:=hxw.cell 0 1 rfl rfl;have t2:=hxw.cell 0 2 rfl rfl;have hend:=H.out.below hbe;rw[show cntT (.node p l)=m from HLM.out] at hend;refine bodyPost_ret (v:=.tuple #[.agg #[.int .i64 p,.bool false,.slice (some ⟨b,off,none⟩) m c],.bool false]) (by simp only[results,Tryz.results165];simp[go_sem,t0,t1,t2]) rfl ?_;refine⟨[.int .i64 p,.bool false,.slice (some ⟨b,off,none⟩) m c],by rw[hsp];rfl,?_,hbe⟩;rw[hsp];exact hend.mono (fun b h=>.inl h)
 have hsl:(sizesT kid).length=km:=by rw[←HKM.out];cases kid<;>simp[sizesT,cntT]
 have hA:∃A:Nat,z=(A:Int)∧0<A∧A<km:=by
  rcases atF_cases HSM.out with⟨h1,_⟩|⟨_,A,h1,h2,h3,_⟩
  ·rw[hz] at h1;exact absurd h1 hz0
  ·exact⟨A,by rw[←hz,h3],h1,by omega⟩
 obtain⟨A,rfl,hA0,hAk⟩:=hA;have HZ:=Hd hz;have hz1:((A:Int) == 0)=false:=by simp;omega
 have m1:=hx4.cell 0 1 rfl rfl;have m1':(w4.alloc (.cells #[.int .i64 0,.bool kl,.slice none 0 0] 27)).cell? ⟨w.heap.size+2,1,none⟩=some (.bool kl):=(hx4.step (Below.al (Below.refl _ _))).cell 0 1 rfl rfl;clear hrow ho4 CS g0 g1 g2 n2 v3 k0 k1 k2 hz0 hW2 hW3 hsz2;go_upto_region 7 with(fail)
 obtain⟨W6,hW6⟩:∃x,x=((w4.alloc (.cells #[.int .i64 0,.bool kl,.slice none 0 0] 27)).alloc (.cells #[.int .i64 0,.bool kl,.slice none 0 0] 27)):=⟨_,rfl⟩
 rw[←hW6];have hx6:Boxes W6 [(w4.heap.size+1,[.int .i64 0,.bool kl,.slice none 0 0]),(w4.heap.size,[.int .i64 0,.bool kl,.slice none 0 0]),(w.heap.size+2,[.int .i64 kp,.bool kl,.slice ak km ck]),(w.heap.size+1,[.int .i64 0,.bool false,.slice none 0 0]),(w.heap.size,[.int .i64 p,.bool false,.slice (some ⟨b,off,none⟩) m c])]:=by
  rw[hW6];exact(hx4.alloc #[.int .i64 0,.bool kl,.slice none 0 0] 27 (b:=w4.heap.size) rfl).alloc #[.int .i64 0,.bool kl,.slice none 0 0] 27 (b:=w4.heap.size+1) (by simp)
 have hb46:Below w4.heap.size w4 W6:=by rw[hW6];exact Below.al (Below.al (Below.refl _ _))
 have hsz6:W6.heap.size=w4.heap.size+2:=by rw[hW6];simp
 have hbw6:=below_via hbw4 hb46;have hw34:w.heap.size+2<w4.heap.size:=hx4.lt 0 rfl;have hx6d:=hx6.drew;have hbw6d:Below w.heap.size w W6.drew:=hbw6.drew;have hFB:∀b,F b→b<W6.heap.size:=fun b hb=>by have:=hF b hb;omega
 have c0:CellsF 145 F n W6.heap.size W6.drew (.slice none 0 0) []:=CellsF.nil _ _ _ _ _;have hk6:=TabR.below (Nat.le_refl _) hbw6d HKR.out;have r7:TabR 4 (RcOn F n W6.drew) W6.drew ak A ck ((cellsR kid).take A):=TabR.mono (TabR.tk hk6 (show A≤km by omega)) (fun cs y hy=>RcOn.below hy hbw6d);obtain⟨v7,w7,hr7,c7,hg7⟩:=c0.row Tryz.underlying25 info_Cw (Nat.le_refl _) hFB (by simp) r7 (by omega);rw[List.nil_append] at c7;obtain⟨a7,d7,ev7,hd7,hd7m,_,_⟩:=(c7.own hFB).sl;rw[List.length_take,cellsR_len,HKM.out,Nat.min_eq_left (by omega)] at ev7 hd7;subst ev7;have hx7:=hx6d.grown hg7 (by intro q hq e;cases e);have hb67:Below W6.heap.size W6.drew w7:=(Below.refl _ _).grown hg7 (Nat.le_refl _) (fun g hg=>by cases hg);obtain⟨hkck,_⟩:=(show km≤ck∧ck≤9223372036854775807 from HKR.out.lens.2)
 have hAck:A≤ck:=by omega
 have hS6:W6.drew.cell? ⟨w.heap.size+2,2,none⟩=some (.slice ak km ck):=hx6d.cell 2 2 rfl rfl;have hS7:w7.cell? ⟨w.heap.size+2,2,none⟩=some (.slice ak km ck):=hx7.cell 2 2 rfl rfl;have hx7s:=(hx7.sub (m:=[(w4.heap.size,[.int .i64 0,.bool kl,.slice none 0 0]),(w4.heap.size+1,[.int .i64 0,.bool kl,.slice none 0 0]),(w.heap.size+2,[.int .i64 kp,.bool kl,.slice ak km ck]),(w.heap.size+1,[.int .i64 0,.bool false,.slice none 0 0]),(w.heap.size,[.int .i64 p,.bool false,.slice (some ⟨b,off,none⟩) m c])]) (by simp)).put 2 (.slice a7 A d7) (by simp;omega);have hS8:(w7.setCell ⟨w4.heap.size,2,none⟩ (.slice a7 A d7)).cell? ⟨w.heap.size+2,2,none⟩=some (.slice ak km ck):=hx7s.cell 2 2 rfl rfl;have za6:=hx6d.cell 1 2 rfl rfl;have za7:=hx7.cell 1 2 rfl rfl;have u7:=hx7.frozen 1 2 rfl;have C7:=Hd c7;have HX7:=Hd hx7s;have HB67:=Hd hb67;have HBW6:=Hd hbw6d;have HSZ6:=Hd hsz6;clear hx4 hx6 hx6d hx7 hx7s c0 c7 r7 hk6 hg7 hbw4 hbw6 hbw6d hb46 hb67 hz hsl hW6 m1 m1';refine wp_region_noPanic ?_;refine wp_region_held_drew (S:=(fun W=>W.cell? ⟨w.heap.size+2,2,none⟩=some (.slice ak km ck))) (by kernel_rfl) (by assumption) (fun hHeld=>?_);refine tks [0,2] ?_;refine tks [3,4,5] ?_;refine rdy 1 (fun K hK=>?_)
 (rw[if_pos (by rfl)];go_wp2_with (fail))
 refine bkw hK (by assumption) (fun hHeld=>?_);clear hK K;refine rdy 6 (fun K hK=>?_)
 (refine step_append_run rfl _ _ _ _ rfl rfl rfl hr7 ?_)
 refine bkw hK (by assumption) (fun hHeld=>?_);clear hK K;refine tks [7] ?_;refine rdy 8 (fun K hK=>?_)
 (rw[if_pos (by rfl)];go_wp2_with (fail))
 refine bkw hK (by assumption) (fun hHeld=>?_);clear hK K;refine wpAnyH_done (by kernel_rfl) ?_ _;refine NoPanic.normal ?_;go_upto_region 8 with(fail)
 obtain⟨W7,hW7⟩:∃x,x=w7.setCell ⟨w4.heap.size,2,none⟩ (.slice a7 A d7):=⟨_,rfl⟩
 rw[←hW7] at HX7 hS8 ⊢;have hx7:Boxes W7 [(w4.heap.size,[.int .i64 0,.bool kl,.slice a7 A d7]),(w4.heap.size+1,[.int .i64 0,.bool kl,.slice none 0 0]),(w.heap.size+2,[.int .i64 kp,.bool kl,.slice ak km ck]),(w.heap.size+1,[.int .i64 0,.bool false,.slice none 0 0]),(w.heap.size,[.int .i64 p,.bool false,.slice (some ⟨b,off,none⟩) m c])]:=HX7.out;have hs6:=HSZ6.out;have hs67:=HB67.out.size;have hs67:W6.heap.size≤w7.heap.size:=hs67;have hsW7:W7.heap.size=w7.heap.size:=by rw[hW7];simp
 have hb7:Below w.heap.size w W7:=by rw[hW7];exact(HBW6.out.trans (HB67.out.mono HBW6.out.size)).setCell (by simp;omega) _
 have c7:CellsF 145 F n W6.heap.size W7 (.slice a7 A d7) ((cellsR kid).take A):=by
  rw[hW7];exact C7.out.set _ (fun e=>by have:W6.heap.size≤w4.heap.size:=(C7.out.ge e).1;omega) (fun hf=>by have:w4.heap.size<w.heap.size:=hF _ hf;omega)
 have hx7d:=hx7.drew;have hb7d:Below w.heap.size w W7.drew:=hb7.drew;have hFB7:∀b,F b→b<W7.heap.size:=fun b hb=>by have:=hF b hb;omega
 obtain⟨a2,ha2,hsl2⟩:=slice_from elem_Cw size_Cw ak km ck A (by omega);obtain⟨M,hM⟩:∃M,km-A=M:=⟨_,rfl⟩
 have c0:CellsF 145 F n W7.heap.size W7.drew (.slice none 0 0) []:=CellsF.nil _ _ _ _ _;have r8:TabR 4 (RcOn F n W7.drew) W7.drew a2 M (ck-A) ((cellsR kid).drop A):=by
  rw[ha2,←hM];exact TabR.mono (TabR.dp (TabR.below (Nat.le_refl _) hb7d HKR.out) (show A≤km by omega)) (fun cs y hy=>RcOn.below hy hb7d)
 rw[hM] at hsl2;obtain⟨v8,w8,hr8,c8,hg8⟩:=c0.row Tryz.underlying25 info_Cw (Nat.le_refl _) hFB7 (by simp) r8 (by omega);rw[List.nil_append] at c8;obtain⟨a8,d8,ev8,hd8,hd8m,_,_⟩:=(c8.own hFB7).sl;rw[List.length_drop,cellsR_len,HKM.out,hM] at ev8 hd8;subst ev8;have hx8:=hx7d.grown hg8 (by intro q hq e;cases e);have hb78:Below W7.heap.size W7.drew w8:=(Below.refl _ _).grown hg8 (Nat.le_refl _) (fun g hg=>by cases hg);have hT6:W7.drew.cell? ⟨w.heap.size+2,2,none⟩=some (.slice ak km ck):=hx7d.cell 2 2 rfl rfl;have hT7:w8.cell? ⟨w.heap.size+2,2,none⟩=some (.slice ak km ck):=hx8.cell 2 2 rfl rfl;have hx8s:=(hx8.swap).put 2 (.slice a8 M d8) (by simp;omega);have hT8:(w8.setCell ⟨w4.heap.size+1,2,none⟩ (.slice a8 M d8)).cell? ⟨w.heap.size+2,2,none⟩=some (.slice ak km ck):=hx8s.cell 2 2 rfl rfl;have zb6:=hx7d.cell 1 2 rfl rfl;have zb7:=hx8.cell 1 2 rfl rfl;have ub7:=hx8.frozen 1 2 rfl;have C8:=Hd c8;have C7:=Hd c7;have HX8:=Hd hx8s;have HB78:=Hd hb78;have HB7:=Hd hb7d;have HSW:=Hd hsW7;clear hx7 hx7d hx8 hx8s c0 c7 c8 r8 hg8 hb7 hb7d hb78 hS6 hS7 hS8 za6 za7 u7 hr7 hW7 ha2;refine wp_region_noPanic ?_;refine wp_region_held_drew (S:=(fun W=>W.cell? ⟨w.heap.size+2,2,none⟩=some (.slice ak km ck))) (by kernel_rfl) (by assumption) (fun hHeld=>?_);refine tks [0,2] ?_;refine tks [3,4,5] ?_;refine rdy 1 (fun K hK=>?_)
 (rw[if_pos (by rfl)];go_wp2_with (fail))
 refine bkw hK (by assumption) (fun hHeld=>?_);clear hK K;refine rdy 6 (fun K hK=>?_)
 (refine step_append_run rfl _ _ _ _ rfl rfl rfl hr8 ?_)
 refine bkw hK (by assumption) (fun hHeld=>?_);clear hK K;refine tks [7] ?_;refine rdy 8 (fun K hK=>?_)
 (rw[if_pos (by rfl)];go_wp2_with (fail))
 refine bkw hK (by assumption) (fun hHeld=>?_);clear hK K;refine wpAnyH_done (by kernel_rfl) ?_ _;refine NoPanic.normal ?_;go_upto_region 9 with(fail)
 obtain⟨W8,hW8⟩:∃x,x=w8.setCell ⟨w4.heap.size+1,2,none⟩ (.slice a8 M d8):=⟨_,rfl⟩
 rw[←hW8] at HX8 ⊢;have hx8:Boxes W8 [(w4.heap.size+1,[.int .i64 0,.bool kl,.slice a8 M d8]),(w4.heap.size,[.int .i64 0,.bool kl,.slice a7 A d7]),(w.heap.size+2,[.int .i64 kp,.bool kl,.slice ak km ck]),(w.heap.size+1,[.int .i64 0,.bool false,.slice none 0 0]),(w.heap.size,[.int .i64 p,.bool false,.slice (some ⟨b,off,none⟩) m c])]:=HX8.out;have hsw:=HSW.out;have hb78:Below W7.heap.size W7 w8:=((Below.refl _ _).drew).trans HB78.out;have hb8:Below w.heap.size w W8:=by rw[hW8];exact(HB7.out.trans (HB78.out.mono HB7.out.size)).setCell (by simp;omega) _
 have c8:CellsF 145 F n W7.heap.size W8 (.slice a8 M d8) ((cellsR kid).drop A):=by
  rw[hW8];exact C8.out.set _ (fun e=>by have:W7.heap.size≤w4.heap.size+1:=(C8.out.ge e).1;omega) (fun hf=>by have:w4.heap.size+1<w.heap.size:=hF _ hf;omega)
 have c7:CellsF 145 F n W6.heap.size W8 (.slice a7 A d7) ((cellsR kid).take A):=by
  rw[hW8];exact(C7.out.below hb78).set _ (fun e=>by have:W6.heap.size≤w4.heap.size+1:=(C7.out.ge e).1;omega) (fun hf=>by have:w4.heap.size+1<w.heap.size:=hF _ hf;omega)
 have hM0:0<M:=by omega
 obtain⟨y,r,hyr⟩:∃y r,(cellsR kid).drop A=y::r:=by
  cases hd:(cellsR kid).drop A with
  | nil=>
   have:=congrArg List.length hd;rw[List.length_drop,cellsR_len,HKM.out] at this;simp at this;omega
  | cons y r=>exact⟨y,r,rfl⟩
 have hpk:=part_key A kid hyr;rw[hyr] at c8;obtain⟨g,rfl,hg7,hgf⟩:∃g,a8=some ⟨g,0,none⟩∧W7.heap.size≤g∧W8.frozen? ⟨g,0,none⟩=false:=by
  obtain⟨L8,o8,_⟩:=c8
  rcases o8.2 with⟨e,_⟩|⟨g,cap,cur,e,hg,hh,_⟩
  ·cases e;omega
  ·cases e;exact⟨g,rfl,hg,by simp[World.frozen?,hh]⟩
 obtain⟨_,_,e8,_,_,t8,_⟩:=(c8.own (fun b hb=>by have:=hF b hb;omega)).sl;have hl8:(y::r).length=M:=by cases e8;rfl
 rw[hl8] at e8 t8;cases e8;obtain⟨_,_,y',_,_,_,_,_,_,eg,_,hy',_,_,_,_,_,d0,_⟩:=RNodeOn.cell t8 hM0;cases eg;cases hy';have d0:W8.cell? ⟨g,0,none⟩=some (.string (strOf y.key)):=by simpa using d0
 have p2:=hx8.cell 0 2 rfl rfl;have p1:=hx8.cell 2 1 rfl rfl;have D8:=Hd c8;have D7:=Hd c7;have HLT7:Hid (∀q,(Value.slice a7 A d7).ownBlock=some q→q<W7.heap.size):=Hd (fun q hq=>(C7.out.ge hq).2);have HX8:=Hd hx8;have HB8:=Hd hb8;have HYR:=Hd hyr;have HPK:=Hd hpk;clear hx8 hb8 c7 c8 hyr hpk t8 hb78 hW8 hT6 hT7 hT8 zb6 zb7 ub7 hr8 hl8
 go_upto_if 54 with(fail)
 go_cut [] (fun wq=>Boxes wq [(w4.heap.size+1,[.int .i64 0,.bool kl,.slice (some ⟨g,0,none⟩) M d8]),(w4.heap.size,[.int .i64 0,.bool kl,.slice a7 A d7]),(w.heap.size+2,[.int .i64 kp,.bool kl,.slice ak km ck]),(w.heap.size+1,[.int .i64 0,.bool false,.slice none 0 0]),(w.heap.size,[.int .i64 p,.bool false,.slice (some ⟨b,off,none⟩) m c])]∧CellsF 145 F n W7.heap.size wq (.slice (some ⟨g,0,none⟩) M d8) (cellsR (partT A kid).2.1)∧CellsF 145 F n W6.heap.size wq (.slice a7 A d7) ((cellsR kid).take A)∧Below w.heap.size w wq)
 case first=>
  cases kid with
  | leaf kq kr=>
   obtain rfl:kl=true:=HKL.out.symm;go_wp2_with fail;go_meet;exact⟨HX8.out,by rw[cells_part_leaf,HYR.out];exact D8.out,D7.out,HB8.out⟩
  | node kq kr=>
   obtain rfl:kl=false:=HKL.out.symm;have hw8:=HX8.out.lt 0 rfl;have hx9:=HX8.out.set ⟨g,0,none⟩ (.string (strOf [])) (by intro q hq;simp at hq;rcases hq with rfl|rfl|rfl|rfl|rfl<;>simp<;>omega);have c9:=D8.out.key0 (fun hf=>by have:g<w.heap.size:=hF _ hf;omega) [];have c7:=D7.out.set (p:=⟨g,0,none⟩) (.string (strOf [])) (fun e=>by have:g<W7.heap.size:=HLT7.out g e;omega) (fun hf=>by have:g<w.heap.size:=hF _ hf;omega);have hb9:=HB8.out.setCell (p:=⟨g,0,none⟩) (show w.heap.size≤g by omega) (.string (strOf []));have HX9:=Hd hx9;have HC9:=Hd c9;have HC7:=Hd c7;have HB9:=Hd hb9;clear hx9 c9 c7 hb9;go_wp2_with fail;go_meet;exact⟨HX9.out,by rw[cells_part_node A kq kr HYR.out];exact HC9.out,HC7.out,HB9.out⟩
 case rest=>
 obtain⟨hx,c8,c7,hbw⟩:=hcut;have hs6:=HSZ6.out;have hs7:w.heap.size≤W7.heap.size:=by have:=HB7.out.size;exact this
 have hxl:=hx.lt 0 rfl;obtain⟨q1,q2,q3,q4,q5⟩:=cells_part A kid;have nA:RNodeOn (Fr F w4) (n+1) wc [.int .i64 0,.bool kl,.slice a7 A d7] (partT A kid).1:=by
  have:=(c7.own (fun b hb=>by have:=hF b hb;omega))
  rw[←q1] at this;have:=this.node (w:=w4) (by omega);rw[q2,q3,HKL.out] at this;exact this
 have nB:RNodeOn (Fr F w4) (n+1) wc [.int .i64 0,.bool kl,.slice (some ⟨g,0,none⟩) M d8] (partT A kid).2.1:=by
  have:=(c8.own (fun b hb=>by have:=hF b hb;omega)).node (w:=w4) (by omega);rw[q4,q5,HKL.out] at this;exact this
 obtain⟨mm,hsp,hcm⟩:=split_cells HX1.out HZ.out hA0 p;have hkey:(partT A kid).2.2=y.key:=HPK.out;rw[hkey] at hcm;have hml:cntT (.node 0 mm)=m+1:=by
  have:=congrArg List.length hcm;rw[cellsR_len] at this;simp only[List.length_append,List.length_take,List.length_drop,List.length_cons,List.length_nil,cellsR_len] at this;have h2:cntT (.node p l)=m:=HLM.out;rw[h2] at this;omega
 have CW:∀(W:World) (ra rb z:Nat),Below wc.heap.size wc W→wc.heap.size≤ra→wc.heap.size≤rb→BoxAt W ra #[.int .i64 0,.bool kl,.slice a7 A d7]→BoxAt W rb #[.int .i64 0,.bool kl,.slice (some ⟨g,0,none⟩) M d8] →
  BoxAt W z #[.string (strOf xk),.string ⟨#[]⟩,.slice none 0 0,.slice (some ⟨ra,0,none⟩) 1 1,.string (strOf y.key),.string ⟨#[]⟩,.slice none 0 0,.slice (some ⟨rb,0,none⟩) 1 1] →
  Calls Tryz.prog 129 #[.slice (some ⟨b,off,none⟩) m c,.int .i64 (k:Int),.slice (some ⟨z,0,none⟩) 2 2] W (RowTo (Fr F w4) (n+1) wc (.node 0 mm) (m+1)):=fun W ra rb z hb r1 r2 hA hB hz=>
  with_two rfl hml hb (fun b hb=>.inr (by omega)) (TabR.mono (TabR.below (Nat.le_refl _) hbw HFR.out) (fun _ _ hy=>RcOn.mono (fun b hf=>Fr.old b hf) (RcOn.below hy hbw))) hk (by omega) hcm rfl nA nB r1 r2 hA hB hz
 have hG:∀j bb x W,bb≠w.heap.size+1→bb<wc.heap.size→wc.cell? ⟨bb,j,none⟩=some x→AgreeF (fun x=>x≠w.heap.size+1) wc W→W.cell? ⟨bb,j,none⟩=some x:=fun j bb x W h1 h2 h3 hW=>(hW.cell h1 h2).trans h3
 have hbl8:=hx.lt 0 rfl;have hbl7:=hx.lt 1 rfl;have hbl0:=hx.lt 4 rfl;have hbbw:b<wc.heap.size:=Nat.lt_of_lt_of_le hbb hbw.size;have n2:∀W,AgreeF (fun x=>x≠w.heap.size+1) wc W→W.cell? ⟨w.heap.size,2,none⟩=some (.slice (some ⟨b,off,none⟩) m c):=fun W hW=>hG _ _ _ W (by omega) hbl0 (hx.cell 4 2 rfl rfl) hW
 have nk:∀W,AgreeF (fun x=>x≠w.heap.size+1) wc W→W.cell? ⟨b,off+k*4,none⟩=some (.string (strOf xk)):=fun W hW=>hG _ _ _ W (by omega) hbbw ((hbw.cell (p:=⟨b,off+k*4,none⟩) hbb).trans HC0.out) hW
 have t0:∀W,AgreeF (fun x=>x≠w.heap.size+1) wc W→W.cell? ⟨w4.heap.size,0,none⟩=some (.int .i64 0):=fun W hW=>hG _ _ _ W (by omega) hbl7 (hx.cell 1 0 rfl rfl) hW
 have t1:∀W,AgreeF (fun x=>x≠w.heap.size+1) wc W→W.cell? ⟨w4.heap.size,1,none⟩=some (.bool kl):=fun W hW=>hG _ _ _ W (by omega) hbl7 (hx.cell 1 1 rfl rfl) hW
 have t2:∀W,AgreeF (fun x=>x≠w.heap.size+1) wc W→W.cell? ⟨w4.heap.size,2,none⟩=some (.slice a7 A d7):=fun W hW=>hG _ _ _ W (by omega) hbl7 (hx.cell 1 2 rfl rfl) hW
 have u0:∀W,AgreeF (fun x=>x≠w.heap.size+1) wc W→W.cell? ⟨w4.heap.size+1,0,none⟩=some (.int .i64 0):=fun W hW=>hG _ _ _ W (by omega) hbl8 (hx.cell 0 0 rfl rfl) hW
 have u1:∀W,AgreeF (fun x=>x≠w.heap.size+1) wc W→W.cell? ⟨w4.heap.size+1,1,none⟩=some (.bool kl):=fun W hW=>hG _ _ _ W (by omega) hbl8 (hx.cell 0 1 rfl rfl) hW
 have u2:∀W,AgreeF (fun x=>x≠w.heap.size+1) wc W→W.cell? ⟨w4.heap.size+1,2,none⟩=some (.slice (some ⟨g,0,none⟩) M d8):=fun W hW=>hG _ _ _ W (by omega) hbl8 (hx.cell 0 2 rfl rfl) hW
 have HX:=Hd (hx.sub (m:=[(w.heap.size+1,[.int .i64 0,.bool false,.slice none 0 0])]) (by simp));have HBW:=Hd hbw;have HSP:=Hd hsp;have hwz:=hbw.size;have hA00:AgreeF (fun x=>x≠w.heap.size+1) wc wc.drew:=agr _;clear hx c8 c7 hbw q1 q2 q3 q4 q5 nA nB hsp hcm hkey hG d0 p1 p2 hml;go_upto_region 12 with(fail)
 refine wp_region_noPanic ?_;refine wp_region_held_drew (S:=(fun W=>AgreeF (fun x=>x≠w.heap.size+1) wc W)) (by kernel_rfl) (by(repeat (with_reducible first|assumption|exact agr _|apply agal|apply agdr|apply agst))) (fun hHeld=>?_);refine tks [0,1] ?_;refine tks [2,3] ?_;refine tks [4,5] ?_;refine tks [6,7] ?_;refine tks [8,9] ?_;refine tks [12,13] ?_;refine rdy2 10 14 (fun K hK=>?_) (fun K hK=>?_)
 ·(rw[if_pos (by rfl)];go_wp2_with (fail))
  refine bkR hK (fun hHeld=>?_);clear hK K;refine tks [11] ?_;refine rdy 14 (fun K hK=>?_)
  (rw[if_pos (by rfl)];go_wp2_with (fail))
  refine bkR hK (fun hHeld=>?_);clear hK K;refine tks [15] ?_;refine rdy 16 (fun K hK=>?_)
  (rw[if_pos (by rfl)];go_wp2_with (fail))
  refine bkR hK (fun hHeld=>?_);clear hK K;refine rdy 17 (fun K hK=>?_)
  (rw[if_pos (by rfl)];go_simp;(with_reducible refine(CW _ ?ra1 ?rb1 _ ?hb1 ?r11 ?r21 ?hA1 ?hB1 ?hz1).mono ?fin1);(case hz1=>((repeat (with_reducible first|assumption|exact BoxAt.here3|exact BoxAt.here2|exact BoxAt.here|apply BoxAt.dr|apply BoxAt.al));done));(case hA1=>((repeat (with_reducible first|assumption|exact BoxAt.here3|exact BoxAt.here2|exact BoxAt.here|apply BoxAt.dr|apply BoxAt.al));done));(case hB1=>((repeat (with_reducible first|assumption|exact BoxAt.here3|exact BoxAt.here2|exact BoxAt.here|apply BoxAt.dr|apply BoxAt.al));done));(case hb1=>(repeat (with_reducible first|assumption|exact Below.refl _ _|apply Below.al|apply Below.dr)));(case r11=>(with_reducible first|exact Nat.le_refl _|(simp only[World.heap_alloc_size,World.heap_drew];omega)|omega));(case r21=>(with_reducible first|exact Nat.le_refl _|(simp only[World.heap_alloc_size,World.heap_drew];omega)|omega));rintro e w13 ⟨a13,d13,rfl,n13,hb13⟩;have hA13:AgreeF (fun x=>x≠w.heap.size+1) wc w13:=AgreeF.of_below hb13;have hx13:=HX.out.step hb13;have z0:=hx13.cell 0 0 rfl rfl;have z1:=hx13.cell 0 1 rfl rfl;have z2:=hx13.cell 0 2 rfl rfl;have y0:=hx13.frozen 0 0 rfl;have y1:=hx13.frozen 0 1 rfl;have y2:=hx13.frozen 0 2 rfl;go_wp2_with (fail))
  exact q7e447e
 ·(rw[if_pos (by rfl)];go_wp2_with (fail))
  refine bkR hK (fun hHeld=>?_);clear hK K;refine tks [15] ?_;refine rdy 10 (fun K hK=>?_)
  (rw[if_pos (by rfl)];go_wp2_with (fail))
  refine bkR hK (fun hHeld=>?_);clear hK K;refine tks [11] ?_;refine rdy 16 (fun K hK=>?_)
  (rw[if_pos (by rfl)];go_wp2_with (fail))
  refine bkR hK (fun hHeld=>?_);clear hK K;refine rdy 17 (fun K hK=>?_)
  (rw[if_pos (by rfl)];go_simp;(with_reducible refine(CW _ ?ra2 ?rb2 _ ?hb2 ?r12 ?r22 ?hA2 ?hB2 ?hz2).mono ?fin2);(case hz2=>((repeat (with_reducible first|assumption|exact BoxAt.here3|exact BoxAt.here2|exact BoxAt.here|apply BoxAt.dr|apply BoxAt.al));done));(case hA2=>((repeat (with_reducible first|assumption|exact BoxAt.here3|exact BoxAt.here2|exact BoxAt.here|apply BoxAt.dr|apply BoxAt.al));done));(case hB2=>((repeat (with_reducible first|assumption|exact BoxAt.here3|exact BoxAt.here2|exact BoxAt.here|apply BoxAt.dr|apply BoxAt.al));done));(case hb2=>(repeat (with_reducible first|assumption|exact Below.refl _ _|apply Below.al|apply Below.dr)));(case r12=>(with_reducible first|exact Nat.le_refl _|(simp only[World.heap_alloc_size,World.heap_drew];omega)|omega));(case r22=>(with_reducible first|exact Nat.le_refl _|(simp only[World.heap_alloc_size,World.heap_drew];omega)|omega));rintro e w13 ⟨a13,d13,rfl,n13,hb13⟩;have hA13:AgreeF (fun x=>x≠w.heap.size+1) wc w13:=AgreeF.of_below hb13;have hx13:=HX.out.step hb13;have z0:=hx13.cell 0 0 rfl rfl;have z1:=hx13.cell 0 1 rfl rfl;have z2:=hx13.cell 0 2 rfl rfl;have y0:=hx13.frozen 0 0 rfl;have y1:=hx13.frozen 0 1 rfl;have y2:=hx13.frozen 0 2 rfl;go_wp2_with (fail))
  exact q7e447e
theorem PartedTo.split {F:Nat→Prop} {n:Nat} {w w':World} {p:Int} {l:List (List UInt8×Tr)} {k:Nat} {e:Ending} (h:PartedTo F (n+1) w p l k e w') :
 ∃a1 c1,e=.returned (.tuple #[.agg #[.int .i64 (splitR p l k).page,.bool (splitR p l k).isLeaf,.slice a1 (cntT (splitR p l k)) c1],.bool (splitT l k).isSome])∧RNodeOn (Fr F w) (n+1) w' [.int .i64 (splitR p l k).page,.bool (splitR p l k).isLeaf,.slice a1 (cntT (splitR p l k)) c1] (splitR p l k)∧Below w.heap.size w w':=by
 obtain⟨cs,rfl,h1,h2⟩:=h;have e:(match splitT l k with|none=>Tr.node p l|some m=>Tr.node 0 m)=splitR p l k:=by
  unfold splitR;cases splitT l k<;>rfl
 have h1:RNodeOn (Fr F w) (n+1) w' cs (splitR p l k):=e ▸ h1;obtain⟨a,c,rfl,_⟩:=h1.at;exact⟨a,c,rfl,h1,h2⟩
theorem rmend_any {F:Nat→Prop} {n:Nat} {w:World} {cs:List Value} {p:Int} {l:List (List UInt8×Tr)} (hF:∀b,F b→b<w.heap.size) (h:RNodeOn F (n+2) w cs (.node p l)) (ho:MendOk n l) {k:Nat} (hk:k<l.length) :
 Calls Tryz.prog 127 #[.agg cs.toArray,.int .i64 (k:Int)] w (RNodeTo F (n+2) w (mendT p l k)):=by
 have H:=Hd h;obtain⟨a,c,rfl,h1,hfa⟩:=h.at;obtain⟨e1,e2,e3⟩:=h1.lens;obtain⟨m,hml⟩:∃m,cntT (.node p l)=m:=⟨_,rfl⟩
 have hlm:l.length=m:=hml;rw[hml] at h1 hfa e1 e2 ⊢;obtain⟨b,off,bk,ok,kcs,pa,pn,pc,kc,rfl,hbb,hbk,hon,d0,d1,d2,d3,hck,hkc1,hkc2⟩:=RNodeOn.kid h1 (show k<m by omega);have hm9:m≤1000:=by rw[←hlm];exact ho.len
 obtain⟨kid,hkd⟩:∃x,kidAt l k=x:=⟨_,rfl⟩
 obtain⟨kidm,hkm,hkx⟩:=kid_mem (l:=l) (k:=k) (by omega);have hkb:Bnd (n+1) kid:=by rw[←hkd,←hkx];exact ho.bnd _ hkm
 rw[hkd] at hon;obtain⟨ak,ck,rfl,hkr,hfr⟩:=hon.at;have hsm:Small (sizesT kid):=hkb.small;obtain⟨km,hkm⟩:∃x,cntT kid=x:=⟨_,rfl⟩
 obtain⟨kp,hkp⟩:∃x,kid.page=x:=⟨_,rfl⟩
 obtain⟨kl,hkl⟩:∃x,kid.isLeaf=x:=⟨_,rfl⟩
 rw[hkm,hkp,hkl] at hon hck;show Calls _ _ #[.agg #[.int .i64 p,.bool false,.slice (some ⟨b,off,none⟩) m c],.int .i64 (k:Int)] _ _;obtain⟨W2,hW2⟩:∃x,(w.alloc (.cells #[.int .i64 p,.bool false,.slice (some ⟨b,off,none⟩) m c] 27)).alloc (.cells #[.int .i64 0,.bool false,.slice none 0 0] 27)=x:=⟨_,rfl⟩
 have hb2:Below w.heap.size w W2:=by rw[←hW2];exact Below.al (Below.al (Below.refl _ _))
 have hx2:Boxes W2 [(w.heap.size+1,[.int .i64 0,.bool false,.slice none 0 0]),(w.heap.size,[.int .i64 p,.bool false,.slice (some ⟨b,off,none⟩) m c])]:=by
  exact qfb406c
 have hsz2:W2.heap.size=w.heap.size+2:=by rw[←hW2];simp
 have g0:=hx2.cell 1 0 rfl rfl;have g1:=hx2.cell 1 1 rfl rfl;have g2:=hx2.cell 1 2 rfl rfl;have hF2:∀b,F b→b<W2.heap.size:=fun b hb=>by have:=hF b hb;omega
 have CP:=parted_any hF2 (H.out.below hb2) ho.len (by rw[hkd];exact hkb) hk;rw[hml] at CP;have HX2:=Hd hx2;have HB2:=Hd hb2;have HR:=Hd h1;have HO:=Hd ho;have HON:=Hd hon;have HSM:=Hd hsm;have HKB:=Hd hkb;have HKD:=Hd hkd;have HKL:=Hd hkl;have HLM:=Hd hlm;have HD0:=Hd d0;have HD3:=Hd d3;have HCK:=Hd hck;have hks:k<m:=by omega
 clear hx2 hb2 h1 ho hon hsm hkb hkd hkl hlm d0 d1 d2 d3 hck h hkr hfr hml hkp hkm hkx e1 hfa hk;go_enter Tryz.func127,Tryz.ntmps127;go_wp2_with fail;refine CP.mono ?_;rintro e w1 hpt;obtain⟨a1,c1,rfl,hn1,hb1⟩:=hpt.split;clear CP g0 g1 g2 hW2 hpt;obtain⟨T1,hT1⟩:∃T,splitR p l k=T:=⟨_,rfl⟩
 rw[hT1] at hn1 ⊢;have HT1:=Hd hT1;obtain⟨B1,hB1⟩:∃B,(splitT l k).isSome=B:=⟨_,rfl⟩
 rw[hB1];have HB1:=Hd hB1;obtain⟨p1,hp1⟩:∃x,T1.page=x:=⟨_,rfl⟩
 obtain⟨l1,hl1⟩:∃x,T1.isLeaf=x:=⟨_,rfl⟩
 obtain⟨m1,hm1⟩:∃x,cntT T1=x:=⟨_,rfl⟩
 rw[hp1,hl1,hm1] at hn1 ⊢;obtain⟨W3,hW3⟩:∃x,w1.alloc (.cells #[.int .i64 p1,.bool l1,.slice a1 m1 c1] 27)=x:=⟨_,rfl⟩
 have hb13:Below w1.heap.size w1 W3:=by rw[←hW3];exact Below.al (Below.refl _ _)
 have hb3:Below w.heap.size w W3:=below_via HB2.out (below_via hb1 hb13);have hx3:Boxes W3 [(w1.heap.size,[.int .i64 p1,.bool l1,.slice a1 m1 c1]),(w.heap.size+1,[.int .i64 0,.bool false,.slice none 0 0]),(w.heap.size,[.int .i64 p,.bool false,.slice (some ⟨b,off,none⟩) m c])]:=by
  rw[←hW3];exact(HX2.out.step hb1).alloc #[.int .i64 p1,.bool l1,.slice a1 m1 c1] 27 (b:=w1.heap.size) rfl
 have hs1:w.heap.size+2≤w1.heap.size:=by have:=hb1.size;omega
 have hn3:=hn1.below hb13;have hFW:∀b,Fr F W2 b→Fr F w b:=fun b hb=>by
  rcases hb with hb|hb
  ·exact .inl hb
  ·exact .inr (by omega)
 have q0:=hx3.cell 1 0 rfl rfl;have q1:=hx3.cell 1 1 rfl rfl;have q2:=hx3.cell 1 2 rfl rfl;have q0':=hx3.frozen 1 0 rfl;have q1':=hx3.frozen 1 1 rfl;have q2':=hx3.frozen 1 2 rfl;have hGr:¬Fr F W2 (w.heap.size+1):=fun hg=>by
  rcases hg with hg|hg
  ·have:=hF _ hg;omega
  ·omega
 cases B1 with
 | true=>
  have hmt:mendT p l k=T1:=by
   rw[←HT1.out];exact mend_split hB1
  have r0:=hx3.cell 0 0 rfl rfl;have r1:=hx3.cell 0 1 rfl rfl;have r2:=hx3.cell 0 2 rfl rfl;have HE:Hid (RNodeTo F (n+2) w (mendT p l k) (.returned (.agg #[.int .i64 p1,.bool l1,.slice a1 m1 c1])) (((W3.setCell ⟨w.heap.size+1,0,none⟩ (.int .i64 p1)).setCell ⟨w.heap.size+1,1,none⟩ (.bool l1)).setCell ⟨w.heap.size+1,2,none⟩ (.slice a1 m1 c1))):=Hd (by
   rw[hmt];exact rnode_end (by omega) hGr hFW hn3 hb3)
  have hxe:=(((hx3.sub (m:=[(w.heap.size+1,[.int .i64 0,.bool false,.slice none 0 0])]) (by simp)).put 0 (.int .i64 p1) (by simp)).put 1 (.bool l1) (by simp)).put 2 (.slice a1 m1 c1) (by simp);have t0:=hxe.cell 0 0 rfl rfl;have t1:=hxe.cell 0 1 rfl rfl;have t2:=hxe.cell 0 2 rfl rfl;clear hx3 hxe hn1 hn3 hb1 hb13 hb3 hp1 hl1 hm1 hT1 hB1 hmt;go_wp2_with fail;refine bodyPost_ret (v:=.agg #[.int .i64 p1,.bool l1,.slice a1 m1 c1]) (by simp only[results,Tryz.results127];simp[go_sem,t0,t1,t2]) rfl HE.out
 | false=>
 have hsn:splitT l k=none:=by
  cases hs:splitT l k with
  | none=>rfl
  | some q=>rw[hs] at hB1;cases hB1
 have hTn:T1=.node p l:=by rw[←HT1.out];unfold splitR;rw[hsn]
 have v2:=hx3.cell 2 2 rfl rfl;have v3:=(hb3.cell (p:=⟨b,off+k*4+3,none⟩) hbb).trans HD3.out;have k0:W3.cell? ⟨bk,ok,none⟩=some (.int .i64 kp):=(hb3.cell (p:=⟨bk,ok,none⟩) hbk).trans (by simpa using HCK.out 0 _ rfl);have k1:W3.cell? ⟨bk,ok+1,none⟩=some (.bool kl):=(hb3.cell (p:=⟨bk,ok+1,none⟩) hbk).trans (by simpa using HCK.out 1 _ rfl);have k2:W3.cell? ⟨bk,ok+2,none⟩=some (.slice ak km ck):=(hb3.cell (p:=⟨bk,ok+2,none⟩) hbk).trans (by simpa using HCK.out 2 _ rfl);have CS:=rsizes_any (HON.out.below hb3) HKB.out;have HX3:=Hd hx3;have HB3:=Hd hb3;have HSN:=Hd hsn;clear hx3 hb3 hb13 hn1 hn3 hb1 hp1 hl1 hm1 hT1 hB1 hTn hsn HT1 q0 q1 q2 q0' q1' q2' hGr hFW;go_wp2_with fail;refine CS.mono ?_;rintro e w4 ⟨v4,rfl,ho4,hb4⟩;obtain⟨a4,c4,rfl,hrow⟩:=Row.of_own ho4;go_wp2_with fail;refine(refLow_any _ _ _ _ _ hrow HSM.out).mono ?_;rintro e w5 ⟨rfl,rfl⟩;obtain⟨LB,hLB⟩:∃z,decide (sumI (sizesT kid)<30)=z:=⟨_,rfl⟩
 rw[hLB];have hlow:lowT kid=LB:=hLB;have hx4:=HX3.out.step hb4;have hb4w:=below_via HB3.out hb4;have HE:(LB=false∨m<2)→Hid (RNodeTo F (n+2) w (mendT p l k) (.returned (.agg #[.int .i64 p,.bool false,.slice (some ⟨b,off,none⟩) m c])) (((w4.setCell ⟨w.heap.size+1,0,none⟩ (.int .i64 p)).setCell ⟨w.heap.size+1,1,none⟩ (.bool false)).setCell ⟨w.heap.size+1,2,none⟩ (.slice (some ⟨b,off,none⟩) m c))):=fun hc=>Hd (by
  rw[mend_same (by rw[HSN.out];rfl) (by rw[HKD.out,hlow,HLM.out];exact hc)];refine rnode_end (by omega) (G:=F) (fun hg=>by have:=hF _ hg;omega) (fun b hb=>.inl hb) ?_ hb4w;have:=H.out.below hb4w;rw[show cntT (.node p l)=m from HLM.out] at this;exact this)
 have n0:=hx4.cell 2 0 rfl rfl;have n1:=hx4.cell 2 1 rfl rfl;have n2:=hx4.cell 2 2 rfl rfl;have q0:=hx4.cell 1 0 rfl rfl;have q1:=hx4.cell 1 1 rfl rfl;have q2:=hx4.cell 1 2 rfl rfl;have q0':=hx4.frozen 1 0 rfl;have q1':=hx4.frozen 1 1 rfl;have q2':=hx4.frozen 1 2 rfl;have hxe:=(((hx4.sub (m:=[(w.heap.size+1,[.int .i64 0,.bool false,.slice none 0 0])]) (by simp)).put 0 (.int .i64 p) (by simp)).put 1 (.bool false) (by simp)).put 2 (.slice (some ⟨b,off,none⟩) m c) (by simp);have t0:=hxe.cell 0 0 rfl rfl;have t1:=hxe.cell 0 1 rfl rfl;have t2:=hxe.cell 0 2 rfl rfl;have HX4:=Hd hx4;have HB4:=Hd hb4w;clear hrow ho4 CS v2 v3 k0 k1 k2 hx4 hxe hb4 hb4w hW3;cases LB with
 | false=>
  have HE1:=HE (.inl rfl);exact qce611d
 | true=>
 by_cases hm2:m<2
 ·have HE1:=HE (.inr hm2)
  have hm2':(m:Int)<2:=by omega
  exact qce611d
 have hm2':¬((m:Int)<2):=by omega
 have HLOW:=Hd hlow;obtain⟨j,hj⟩:∃j,joinAt m k=j:=⟨_,rfl⟩
 have hj1:j+1<m:=by rw[←hj];unfold joinAt;split<;>omega
 have hjk:(neighF (m:Int) (k:Int)<k∧neighF (m:Int) (k:Int)=(j:Int))∨(¬neighF (m:Int) (k:Int)<k∧j=k):=by
  rw[←hj];unfold joinAt neighF
  split
  ·right;split<;>omega
  ·left;split<;>omega
 have CN:=fun W=>refNeighbour_any (m:Int) (k:Int) W (by omega) (by omega)
 obtain⟨z,hz⟩:∃z,neighF (m:Int) (k:Int)=z:=⟨_,rfl⟩
 simp only[hz] at hjk CN;have HJ:=Hd hj;have HJK:=Hd hjk;clear hlow hLB HE t0 t1 t2 n0 n1 q0 q1 q2 q0' q1' q2' hj hjk hz;go_wp2_with fail;refine(CN _).mono ?_;rintro e w5 ⟨rfl,rfl⟩;clear CN
 go_upto_if 47 with(fail)
 go_cut [1] (fun s1 wq=>s1=.int .i64 (j:Int)∧wq=w4)
 case first=>
  rcases HJK.out with⟨h1,h2⟩|⟨h1,h2⟩
  ·go_wp2_with fail
   go_meet;exact⟨by rw[h2],rfl⟩
  ·go_wp2_with fail
   go_meet;exact⟨by rw[h2],rfl⟩
 case rest=>
 obtain⟨rfl,rfl⟩:=hcut;obtain⟨_,_,ba,oa,acs,_,_,_,kca,e',_,hba,hona,ca0,_,_,ca3,hcka,hka1,hka2⟩:=RNodeOn.kid HR.out (show j<m by omega);cases e';obtain⟨_,_,bb,ob,bcs,_,_,_,kcb,e',_,hbb',honb,cb0,_,_,cb3,hckb,hkb1,hkb2⟩:=RNodeOn.kid HR.out hj1;cases e';obtain⟨jm,hjm,hjx⟩:=kid_mem (l:=l) (k:=j) (by have:=HLM.out;omega);obtain⟨jm',hjm',hjx'⟩:=kid_mem (l:=l) (k:=j+1) (by have:=HLM.out;omega);have bna:Bnd (n+1) (kidAt l j):=by rw[←hjx];exact HO.out.bnd _ hjm
 have bnb:Bnd (n+1) (kidAt l (j+1)):=by rw[←hjx'];exact HO.out.bnd _ hjm'
 have hkind:(kidAt l j).isLeaf=(kidAt l (j+1)).isLeaf:=by rw[←hjx,←hjx'];exact HO.out.kind _ hjm _ hjm'
 obtain⟨A,hA⟩:∃x,kidAt l j=x:=⟨_,rfl⟩
 obtain⟨B,hB⟩:∃x,kidAt l (j+1)=x:=⟨_,rfl⟩
 obtain⟨key,hkey⟩:∃x,keyAt l (j+1)=x:=⟨_,rfl⟩
 rw[hA] at hona bna hkind;rw[hB] at honb bnb hkind;rw[hkey] at cb0;obtain⟨aa,ca,rfl,hra,_⟩:=hona.at;obtain⟨ab,cb,rfl,hrb,_⟩:=honb.at;have ham9:cntT A≤1000:=by cases A<;>exact bna.1
 have hbm9:cntT B≤1000:=by cases B<;>exact bnb.1
 obtain⟨am,hamE⟩:∃x,cntT A=x:=⟨_,rfl⟩
 obtain⟨bm,hbmE⟩:∃x,cntT B=x:=⟨_,rfl⟩
 obtain⟨ap,hap⟩:∃x,A.page=x:=⟨_,rfl⟩
 obtain⟨bp,hbp⟩:∃x,B.page=x:=⟨_,rfl⟩
 obtain⟨lf,hlf⟩:∃x,A.isLeaf=x:=⟨_,rfl⟩
 have hlfB:B.isLeaf=lf:=by rw[←hkind];exact hlf
 rw[hamE,hap,hlf] at hcka;rw[hbmE,hbp,hlfB] at hckb;rw[hamE] at hra ham9;rw[hbmE] at hrb hbm9;have hb4:=HB4.out;have hx4:=HX4.out;have hs41:w1.heap.size<wc.heap.size:=hx4.lt 0 rfl;have hs4:w.heap.size+2<wc.heap.size+1:=by have:=hx4.lt 0 rfl;omega
 have v3:=(hb4.cell (p:=⟨b,off+j*4+3,none⟩) hbb).trans ca3;have k0:wc.cell? ⟨ba,oa,none⟩=some (.int .i64 ap):=(hb4.cell (p:=⟨ba,oa,none⟩) hba).trans (by simpa using hcka 0 _ rfl);have k1:wc.cell? ⟨ba,oa+1,none⟩=some (.bool lf):=(hb4.cell (p:=⟨ba,oa+1,none⟩) hba).trans (by simpa using hcka 1 _ rfl);have k2:wc.cell? ⟨ba,oa+2,none⟩=some (.slice aa am ca):=(hb4.cell (p:=⟨ba,oa+2,none⟩) hba).trans (by simpa using hcka 2 _ rfl);obtain⟨W9,hW9⟩:∃x,wc.alloc (.cells #[.int .i64 ap,.bool lf,.slice aa am ca] 27)=x:=⟨_,rfl⟩
 have hx9:Boxes W9 [(wc.heap.size,[.int .i64 ap,.bool lf,.slice aa am ca]),(w1.heap.size,[.int .i64 p1,.bool l1,.slice a1 m1 c1]),(w.heap.size+1,[.int .i64 0,.bool false,.slice none 0 0]),(w.heap.size,[.int .i64 p,.bool false,.slice (some ⟨b,off,none⟩) m c])]:=by
  rw[←hW9];exact hx4.alloc #[.int .i64 ap,.bool lf,.slice aa am ca] 27 (b:=wc.heap.size) rfl
 have hbc9:Below wc.heap.size wc W9:=by rw[←hW9];exact Below.al (Below.refl _ _)
 have hb9:=below_via hb4 hbc9;have hs9:W9.heap.size=wc.heap.size+1:=by rw[←hW9];simp
 have y2:=hx9.cell 3 2 rfl rfl;have y3:=(hb9.cell (p:=⟨b,off+(j+1)*4+3,none⟩) hbb).trans cb3;have z0:W9.cell? ⟨bb,ob,none⟩=some (.int .i64 bp):=(hb9.cell (p:=⟨bb,ob,none⟩) hbb').trans (by simpa using hckb 0 _ rfl);have z1:W9.cell? ⟨bb,ob+1,none⟩=some (.bool lf):=(hb9.cell (p:=⟨bb,ob+1,none⟩) hbb').trans (by simpa using hckb 1 _ rfl);have z2:W9.cell? ⟨bb,ob+2,none⟩=some (.slice ab bm cb):=(hb9.cell (p:=⟨bb,ob+2,none⟩) hbb').trans (by simpa using hckb 2 _ rfl);obtain⟨W10,hW10⟩:∃x,W9.alloc (.cells #[.int .i64 bp,.bool lf,.slice ab bm cb] 27)=x:=⟨_,rfl⟩
 have hx10:Boxes W10 [(wc.heap.size+1,[.int .i64 bp,.bool lf,.slice ab bm cb]),(wc.heap.size,[.int .i64 ap,.bool lf,.slice aa am ca]),(w1.heap.size,[.int .i64 p1,.bool l1,.slice a1 m1 c1]),(w.heap.size+1,[.int .i64 0,.bool false,.slice none 0 0]),(w.heap.size,[.int .i64 p,.bool false,.slice (some ⟨b,off,none⟩) m c])]:=by
  rw[←hW10];exact hx9.alloc #[.int .i64 bp,.bool lf,.slice ab bm cb] 27 (b:=wc.heap.size+1) (by omega)
 have hbc10:Below W9.heap.size W9 W10:=by rw[←hW10];exact Below.al (Below.refl _ _)
 have hb10:=below_via hb9 hbc10;have hs10:W10.heap.size=wc.heap.size+2:=by rw[←hW10];simp;omega
 have x1:=hx10.cell 1 1 rfl rfl;have hjw:IntKind.i64.wrap ((j:Int)+1)=(j:Int)+1:=IntWalk.i64_in _ (by omega);have hj1':((j:Int)+1)<(m:Int):=by omega
 have HX10:=Hd hx10;have HB10:=Hd hb10;clear hx4 hx9 hx10 hb4 hb9 hbc9 hb10 hbc10;go_upto_region 12 with(fail)
 have hx10:=HX10.out;have hb10:=HB10.out;obtain⟨W11,hW11⟩:∃x,x=W10.alloc (.cells #[.int .i64 0,.bool lf,.slice none 0 0] 27):=⟨_,rfl⟩
 rw[←hW11];clear hW9 hW10 v3 k0 k1 k2 y2 y3 z0 z1 z2 x1;have hx11:Boxes W11 [(wc.heap.size+2,[.int .i64 0,.bool lf,.slice none 0 0]),(wc.heap.size+1,[.int .i64 bp,.bool lf,.slice ab bm cb]),(wc.heap.size,[.int .i64 ap,.bool lf,.slice aa am ca]),(w1.heap.size,[.int .i64 p1,.bool l1,.slice a1 m1 c1]),(w.heap.size+1,[.int .i64 0,.bool false,.slice none 0 0]),(w.heap.size,[.int .i64 p,.bool false,.slice (some ⟨b,off,none⟩) m c])]:=by
  rw[hW11];exact hx10.alloc #[.int .i64 0,.bool lf,.slice none 0 0] 27 (b:=wc.heap.size+2) (by omega)
 have hbc11:Below W10.heap.size W10 W11:=by rw[hW11];exact Below.al (Below.refl _ _)
 have hb11:=below_via hb10 hbc11;have hs11:W11.heap.size=wc.heap.size+3:=by rw[hW11];simp;omega
 have hF11:∀b,F b→b<W11.heap.size:=fun b hb=>by have:=hF b hb;omega
 have c0:CellsF 145 F n W11.heap.size W11 (.slice none 0 0) []:=CellsF.nil _ _ _ _ _;obtain⟨v12,w12,hr12,c12,hg12⟩:=c0.row Tryz.underlying25 info_Cw (Nat.le_refl _) hF11 (by simp) (TabR.mono (TabR.below (Nat.le_refl _) hb11 hra) (fun _ _ hy=>RcOn.below hy hb11)) (by omega);rw[List.nil_append] at c12;obtain⟨a12,d12,ev12,_,_,_,_⟩:=(c12.own hF11).sl;rw[cellsR_len,hamE] at ev12;subst ev12;have o0:=hx11.cell 0 2 rfl rfl;have o1:=hx11.cell 2 2 rfl rfl;have hx12:=hx11.grown hg12 (by intro q hq e;cases e);have hbc12:Below W11.heap.size W11 w12:=(Below.refl _ _).grown hg12 (Nat.le_refl _) (fun g hg=>by cases hg);have hb12:=below_via hb11 hbc12;have o2:=hx12.cell 0 2 rfl rfl;have o2':=hx12.frozen 0 2 rfl;have hx13:=hx12.put 2 (.slice a12 am d12) (by simp;omega);obtain⟨W13,hW13⟩:∃x,w12.setCell ⟨wc.heap.size+2,2,none⟩ (.slice a12 am d12)=x:=⟨_,rfl⟩
 have c13:CellsF 145 F n W11.heap.size W13 (.slice a12 am d12) (cellsR A):=by
  rw[←hW13];exact c12.set _ (fun e=>by have:W11.heap.size≤wc.heap.size+2:=(c12.ge e).1;omega) (fun hf=>by have:wc.heap.size+2<w.heap.size:=hF _ hf;omega)
 have hb13:Below w.heap.size w W13:=by rw[←hW13];exact hb12.setCell (by simp;omega) _
 rw[hW13] at hx13;have hx13':=hx13.sub (m:=[(wc.heap.size+2,[.int .i64 0,.bool lf,.slice a12 am d12]),(wc.heap.size+1,[.int .i64 bp,.bool lf,.slice ab bm cb]),(w1.heap.size,[.int .i64 p1,.bool l1,.slice a1 m1 c1]),(w.heap.size+1,[.int .i64 0,.bool false,.slice none 0 0]),(w.heap.size,[.int .i64 p,.bool false,.slice (some ⟨b,off,none⟩) m c])]) (by simp);have HX:=Hd hx13';have HBW:=Hd hb13;have HC:=Hd c13;have HRB:=Hd hrb;have HA:=Hd hA;have HBE:=Hd hB;have HKEY:=Hd hkey;have HCB0:=Hd cb0;have HCA0:=Hd ca0;have HAM:=Hd hamE;have HBM:=Hd hbmE;have HLF:=Hd hlf;have HLFB:=Hd hlfB;have HKIND:=Hd hkind;have HF11:=Hd hF11;clear hx10 hx11 hx12 hx13 hx13' hb10 hb11 hbc11 hb12 hbc12 hb13 c0 c12 c13 hg12 hra hrb hona honb hcka hckb ca3 cb3 cb0 ca0 hA hB hkey hamE hbmE hap hbp hlf hlfB hkind hjm hjx hjm' hjx' bna bnb hF11 n2;clear hW11;go_upto_region 13 with(at_builtin;refine wpList_append_run rfl _ _ _ _ rfl rfl rfl hr12 ?_)
 clear o0 o1 o2 o2' hr12;go_wp2_with fail
 go_loopw [11] (fun s11 wr=>∃(i:Nat) (av:Option Addr) (dv:Nat),i≤bm∧s11=.int .i64 i∧Boxes wr [(wc.heap.size+2,[.int .i64 0,.bool lf,.slice av (am+i) dv]),(wc.heap.size+1,[.int .i64 bp,.bool lf,.slice ab bm cb]),(w1.heap.size,[.int .i64 p1,.bool l1,.slice a1 m1 c1]),(w.heap.size+1,[.int .i64 0,.bool false,.slice none 0 0]),(w.heap.size,[.int .i64 p,.bool false,.slice (some ⟨b,off,none⟩) m c])] ∧
  CellsF 145 F n W11.heap.size wr (.slice av (am+i) dv) (cellsR A++(firstRc key lf (cellsR B)).take i)∧Below w.heap.size w wr) (fun s _=>bm-(intOf s).toNat)
 case atStart=>exact⟨0,a12,d12,Nat.zero_le _,rfl,HX.out,by rw[List.take_zero,List.append_nil];exact HC.out,HBW.out⟩
 case round=>
  clear HX HC HBW hW13;obtain⟨i,av,dv,hi,rfl,hx,hc,hb⟩:=hrel;have hge:∀g,(Value.slice av (am+i) dv).ownBlock=some g→W11.heap.size≤g∧g<wr.heap.size:=fun g hg=>hc.ge hg
  have hwr:=hx.lt 0 rfl
  by_cases hlt:i<bm
  ·obtain⟨eb,eo,y,pa1,pn1,pc1,ka1,kn1,kc1,rfl,hebb,hy,hyc,_,_,_,_,e0,e1,e2,e3'⟩:=RNodeOn.cell HRB.out hlt
   have hsucc:=firstRc_succ key lf (cellsR B) i hy;have l0:=(hb.cell (p:=⟨eb,eo+i*4,none⟩) hebb).trans e0;have l1':=(hb.cell (p:=⟨eb,eo+i*4+1,none⟩) hebb).trans e1;have l2:=(hb.cell (p:=⟨eb,eo+i*4+2,none⟩) hebb).trans e2;have l3:=(hb.cell (p:=⟨eb,eo+i*4+3,none⟩) hebb).trans e3';have f2:=hx.cell 1 2 rfl rfl;obtain⟨W16,hW16⟩:∃x,wr.alloc (.cells #[.string (strOf y.key),.string (strOf y.val.data),.slice pa1 pn1 pc1,.slice ka1 kn1 kc1] 145)=x:=⟨_,rfl⟩
   have hbr16:Below wr.heap.size wr W16:=by rw[←hW16];exact Below.al (Below.refl _ _)
   have hb16:=below_via hb hbr16;have hx16:Boxes W16 [(wr.heap.size,[.string (strOf y.key),.string (strOf y.val.data),.slice pa1 pn1 pc1,.slice ka1 kn1 kc1]),(wc.heap.size+2,[.int .i64 0,.bool lf,.slice av (am+i) dv]),(wc.heap.size+1,[.int .i64 bp,.bool lf,.slice (some ⟨eb,eo,none⟩) bm cb]),(w1.heap.size,[.int .i64 p1,.bool l1,.slice a1 m1 c1]),(w.heap.size+1,[.int .i64 0,.bool false,.slice none 0 0]),(w.heap.size,[.int .i64 p,.bool false,.slice (some ⟨b,off,none⟩) m c])]:=by
    rw[←hW16];exact hx.alloc #[.string (strOf y.key),.string (strOf y.val.data),.slice pa1 pn1 pc1,.slice ka1 kn1 kc1] 145 (b:=wr.heap.size) rfl
   have hs16:W16.heap.size=wr.heap.size+1:=by rw[←hW16];simp
   have c16:=hc.below hbr16;have f1:=hx16.cell 2 1 rfl rfl;have hy16:=hyc.below hb16;have hFwr:¬F wr.heap.size:=fun hf=>by have:=hF _ hf;omega
   have hl19:(cellsR A++(firstRc key lf (cellsR B)).take i).length=am+i:=by
    rw[List.length_append,List.length_take,firstRc_len,cellsR_len,cellsR_len,HAM.out,HBM.out,Nat.min_eq_left hi]
   clear hx hc hb hbr16 e0 e1 e2 e3' hyc
   by_cases hi0:i=0
   ·have hi0':((i:Int) == 0)=true:=by simp;omega
    have HI0:=Hd hi0;clear hi0;cases lf with
    | true=>
    have m0:=hx16.cell 0 0 rfl rfl;have m1':=hx16.cell 0 1 rfl rfl;have m2':=hx16.cell 0 2 rfl rfl;have m3':=hx16.cell 0 3 rfl rfl;have m4:=hx16.cell 1 2 rfl rfl;obtain⟨v19,w19,hr19,c19,hg19⟩:=c16.append Tryz.underlying25 info_Cw (by omega) HF11.out (by rw[hl19];omega) hy16;have hx19:=hx16.grown hg19 (by intro q hq e;have:=hge _ e;simp at hq;rcases hq with rfl|rfl|rfl|rfl|rfl|rfl<;>omega);have hb19:=hb16.grown hg19 (by omega) (fun k hk=>by have:=hge k hk;omega);obtain⟨a19,d19,ev19,_,_,_,_⟩:=(c19.own HF11.out).sl;rw[List.length_append,hl19,List.length_singleton,Nat.add_assoc] at ev19;subst ev19;have o2:=hx19.cell 1 2 rfl rfl;have o2':=hx19.frozen 1 2 rfl;have hx20:=(hx19.sub (m:=[(wc.heap.size+2,[.int .i64 0,.bool true,.slice av (am+i) dv]),(wc.heap.size+1,[.int .i64 bp,.bool true,.slice (some ⟨eb,eo,none⟩) bm cb]),(w1.heap.size,[.int .i64 p1,.bool l1,.slice a1 m1 c1]),(w.heap.size+1,[.int .i64 0,.bool false,.slice none 0 0]),(w.heap.size,[.int .i64 p,.bool false,.slice (some ⟨b,off,none⟩) m c])]) (by simp)).put 2 (.slice a19 (am+(i+1)) d19) (by simp;omega);have c20:=c19.set (p:=⟨wc.heap.size+2,2,none⟩) (.slice a19 (am+(i+1)) d19) (fun e=>by have:W11.heap.size≤wc.heap.size+2:=(c19.ge e).1;omega) (fun hf=>by have:wc.heap.size+2<w.heap.size:=hF _ hf;omega);have HX20:=Hd hx20;have HC20:=Hd c20;have HB20:=Hd (hb19.setCell (p:=⟨wc.heap.size+2,2,none⟩) (by simp;omega) (.slice a19 (am+(i+1)) d19));have HS:Hid ((firstRc key true (cellsR B)).take (i+1)=(firstRc key true (cellsR B)).take i++[y]):=Hd (by rw[hsucc];simp[HI0.out]);clear hx16 c16 hb16 hy16 hx19 hx20 c19 c20 hb19 hg19 hsucc hl19 hs16;exact qe02527
    | false=>
     have n2:=hx16.cell 5 2 rfl rfl;have y0:=(hb16.cell (p:=⟨b,off+(j+1)*4,none⟩) hbb).trans HCB0.out;have hfz:=hx16.frozen 0 0 rfl;have hz0:=hx16.cell 0 0 rfl rfl;obtain⟨W17,hW17⟩:∃x,W16.setCell ⟨wr.heap.size,0,none⟩ (.string (strOf key))=x:=⟨_,rfl⟩
     have hx17:=hx16.put 0 (.string (strOf key)) (by simp;omega);have c17:=c16.set (p:=⟨wr.heap.size,0,none⟩) (.string (strOf key)) (fun e=>by have:=(hge _ e).2;simp at this) hFwr;have hb17:=hb16.setCell (p:=⟨wr.heap.size,0,none⟩) (by simp;omega) (.string (strOf key));have hy17:RcOn F n (W16.setCell ⟨wr.heap.size,0,none⟩ (.string (strOf key))) [.string (strOf key),.string (strOf y.val.data),.slice pa1 pn1 pc1,.slice ka1 kn1 kc1] ⟨key,y.val,y.kid⟩:=by
      have:=hy16.agree (AgreeF.set (F:=F) (p:=⟨wr.heap.size,0,none⟩) (u:=.string (strOf key)) ⟨Nat.le_refl _,fun _ _ _=>rfl⟩ (.inl hFwr));obtain⟨_,_,_,_,_,_,e,k1,k2,k3,k4⟩:=this;cases e;exact⟨_,_,_,_,_,_,rfl,k1,k2,k3,k4⟩
     rw[hW17] at hx17 c17 hb17 hy17;have hs17:W17.heap.size=W16.heap.size:=by rw[←hW17];simp
     clear hx16 c16 hb16 hy16;have m0:=hx17.cell 0 0 rfl rfl;have m1':=hx17.cell 0 1 rfl rfl;have m2':=hx17.cell 0 2 rfl rfl;have m3':=hx17.cell 0 3 rfl rfl;have m4:=hx17.cell 1 2 rfl rfl;obtain⟨v19,w19,hr19,c19,hg19⟩:=c17.append Tryz.underlying25 info_Cw (by omega) HF11.out (by rw[hl19];omega) hy17;have hx19:=hx17.grown hg19 (by intro q hq e;have:=hge _ e;simp at hq;rcases hq with rfl|rfl|rfl|rfl|rfl|rfl<;>omega);have hb19:=hb17.grown hg19 (by omega) (fun k hk=>by have:=hge k hk;omega);obtain⟨a19,d19,ev19,_,_,_,_⟩:=(c19.own HF11.out).sl;rw[List.length_append,hl19,List.length_singleton,Nat.add_assoc] at ev19;subst ev19;have o2:=hx19.cell 1 2 rfl rfl;have o2':=hx19.frozen 1 2 rfl;have hx20:=(hx19.sub (m:=[(wc.heap.size+2,[.int .i64 0,.bool false,.slice av (am+i) dv]),(wc.heap.size+1,[.int .i64 bp,.bool false,.slice (some ⟨eb,eo,none⟩) bm cb]),(w1.heap.size,[.int .i64 p1,.bool l1,.slice a1 m1 c1]),(w.heap.size+1,[.int .i64 0,.bool false,.slice none 0 0]),(w.heap.size,[.int .i64 p,.bool false,.slice (some ⟨b,off,none⟩) m c])]) (by simp)).put 2 (.slice a19 (am+(i+1)) d19) (by simp;omega);have c20:=c19.set (p:=⟨wc.heap.size+2,2,none⟩) (.slice a19 (am+(i+1)) d19) (fun e=>by have:W11.heap.size≤wc.heap.size+2:=(c19.ge e).1;omega) (fun hf=>by have:wc.heap.size+2<w.heap.size:=hF _ hf;omega);have HX20:=Hd hx20;have HC20:=Hd c20;have HB20:=Hd (hb19.setCell (p:=⟨wc.heap.size+2,2,none⟩) (by simp;omega) (.slice a19 (am+(i+1)) d19));have HS:Hid ((firstRc key false (cellsR B)).take (i+1)=(firstRc key false (cellsR B)).take i++[⟨key,y.val,y.kid⟩]):=Hd (by rw[hsucc];simp[HI0.out]);clear hx17 c17 hb17 hy17 hx19 hx20 c19 c20 hb19 hg19 hsucc hl19 hs16 hs17;exact qe02527
   ·have hi0':((i:Int) == 0)=false:=by simp;omega
    have HI0:=Hd hi0;clear hi0;have m0:=hx16.cell 0 0 rfl rfl;have m1':=hx16.cell 0 1 rfl rfl;have m2':=hx16.cell 0 2 rfl rfl;have m3':=hx16.cell 0 3 rfl rfl;have m4:=hx16.cell 1 2 rfl rfl;obtain⟨v19,w19,hr19,c19,hg19⟩:=c16.append Tryz.underlying25 info_Cw (by omega) HF11.out (by rw[hl19];omega) hy16;have hx19:=hx16.grown hg19 (by intro q hq e;have:=hge _ e;simp at hq;rcases hq with rfl|rfl|rfl|rfl|rfl|rfl<;>omega);have hb19:=hb16.grown hg19 (by omega) (fun k hk=>by have:=hge k hk;omega);obtain⟨a19,d19,ev19,_,_,_,_⟩:=(c19.own HF11.out).sl;rw[List.length_append,hl19,List.length_singleton,Nat.add_assoc] at ev19;subst ev19;have o2:=hx19.cell 1 2 rfl rfl;have o2':=hx19.frozen 1 2 rfl;have hx20:=(hx19.sub (m:=[(wc.heap.size+2,[.int .i64 0,.bool lf,.slice av (am+i) dv]),(wc.heap.size+1,[.int .i64 bp,.bool lf,.slice (some ⟨eb,eo,none⟩) bm cb]),(w1.heap.size,[.int .i64 p1,.bool l1,.slice a1 m1 c1]),(w.heap.size+1,[.int .i64 0,.bool false,.slice none 0 0]),(w.heap.size,[.int .i64 p,.bool false,.slice (some ⟨b,off,none⟩) m c])]) (by simp)).put 2 (.slice a19 (am+(i+1)) d19) (by simp;omega);have c20:=c19.set (p:=⟨wc.heap.size+2,2,none⟩) (.slice a19 (am+(i+1)) d19) (fun e=>by have:W11.heap.size≤wc.heap.size+2:=(c19.ge e).1;omega) (fun hf=>by have:wc.heap.size+2<w.heap.size:=hF _ hf;omega);have HX20:=Hd hx20;have HC20:=Hd c20;have HB20:=Hd (hb19.setCell (p:=⟨wc.heap.size+2,2,none⟩) (by simp;omega) (.slice a19 (am+(i+1)) d19));have HS:Hid ((firstRc key lf (cellsR B)).take (i+1)=(firstRc key lf (cellsR B)).take i++[y]):=Hd (by rw[hsucc];simp[HI0.out]);clear hx16 c16 hb16 hy16 hx19 hx20 c19 c20 hb19 hg19 hsucc hl19 hs16;exact qe02527
  ·obtain rfl:i=bm:=by omega
   have hL:=HLM.out;obtain⟨q1,q2,q3,q4⟩:=join_rows (l:=l) (j:=j) (by omega) p;obtain⟨L1,hL1⟩:∃x,l.take (j+1)++l.drop (j+2)=x:=⟨_,rfl⟩
   obtain⟨L2,hL2⟩:∃x,joined l j=x:=⟨_,rfl⟩
   have hkj:kidAt L2 j=joinT key A B:=by
    rw[←hL2,←HA.out,←HBE.out,←HKEY.out];obtain⟨x1,x2,x3,x4,hx1,hx2⟩:=list_two (l:=l) (j:=j) (by omega);subst hx1 hx2;simp only[joined_right,kidAt_at,two_kid,two_at]
   rw[hL1] at q1 q2 q3;rw[hL2] at q2 q4;rw[HA.out,HBE.out,HKEY.out] at q2;obtain⟨j1,j2,j3⟩:=join_cells (key:=key) HKIND.out;rw[HLFB.out] at j1;rw[HLF.out] at j3;have nBo:RNodeOn (Fr F W11) (n+1) wr [.int .i64 0,.bool lf,.slice av (am+i) dv] (joinT key A B):=by
    rw[List.take_of_length_le (by rw[firstRc_len,cellsR_len,HBM.out];exact Nat.le_refl _),←j1] at hc;have:=(hc.own HF11.out).node (w:=W11) (Nat.le_refl _);rw[j2,j3] at this;exact this
   have hG:∀b,wr.heap.size≤b→Fr F W11 b:=fun b hb=>.inr (by omega)
   have TR:TabR 4 (RcOn (Fr F W11) (n+1) wr) wr (some ⟨b,off,none⟩) m c (cellsR (.node p l)):=TabR.mono (TabR.below (Nat.le_refl _) hb HR.out) (fun _ _ hy=>RcOn.mono (fun b hf=>Fr.old b hf) (RcOn.below hy hb));obtain⟨m',hm'⟩:∃x,m-1=x:=⟨_,rfl⟩
   have CW1:=with_to (t:=.node 0 L1) (q:=m') (l2:=[]) (a2:=none) (m2:=0) (c2:=0) (wc:=wr) (W:=wr) (k:=j+1) rfl (by show L1.length=m';omega) q1 (Below.refl _ _) hG TR (TabR.nil wr) hj1 (by omega) (by omega);rw[show((j+1:Nat):Int)=(j:Int)+1 by omega] at CW1;have n2:=hx.cell 4 2 rfl rfl;have f2:=hx.cell 1 2 rfl rfl;have hr5:¬Fr F W11 w1.heap.size:=fun hg=>by
    rcases hg with hg|hg
    ·have:=hF _ hg;omega
    ·omega
   have HX:=Hd hx;have HB:=Hd hb;have NBO:=Hd nBo;have Q2:=Hd q2;have HKJ:=Hd hkj;have HL2:=Hd hL2;have hq3:L2.length=m':=by omega
   have hq1:L1.length=m':=by omega
   have HQ3:=Hd hq3;have HQ1:=Hd hq1;have hm'9:m'≤1000:=by omega
   have hjm':j<m':=by omega
   clear hx hb hc hge q1 q2 q3 q4 j1 j2 j3 nBo TR hkj hL1 hL2 hL hi hlt hq3 hq1 hm';go_upto_region 20 with(fail)
   go_wp2_with fail;refine CW1.mono ?_;rintro e w20 ⟨a20,d20,rfl,n20,hb20⟩;clear CW1 n2 f2;obtain⟨kj,hkj⟩:∃x,keyAt l j=x:=⟨_,rfl⟩
   have q2:=Q2.out;rw[hkj] at q2;have hcj:=HCA0.out;rw[hkj] at hcj;clear hkj;have hx20:=HX.out.step hb20;have hb20w:=below_via HB.out hb20;have h20:=n20.row (show cntT (.node 0 L1)=m' from HQ1.out);have hG20:∀b,w20.heap.size≤b→Fr F W11 b:=fun b hb=>hG b (Nat.le_trans hb20.size hb)
   have nB20:=NBO.out.below hb20;have CW2:∀(W:World) (ra z:Nat),Below w20.heap.size w20 W→w20.heap.size≤ra→BoxAt W ra #[.int .i64 0,.bool lf,.slice av (am+i) dv]→BoxAt W z #[.string (strOf kj),.string ⟨#[]⟩,.slice none 0 0,.slice (some ⟨ra,0,none⟩) 1 1] →
    Calls Tryz.prog 129 #[.slice a20 m' d20,.int .i64 (j:Int),.slice (some ⟨z,0,none⟩) 1 1] W (RowTo (Fr F W11) (n+1) w20 (.node 0 L2) m'):=fun W ra z hb r1 hA hz=>
    with_one (t:=.node 0 L2) rfl HQ3.out hb hG20 h20 hjm' (by omega) q2 rfl nB20 r1 hA hz
   have hwr4:w.heap.size≠w1.heap.size:=by omega
   have hl10:=hx20.lt 0 rfl;have hlw:=hx20.lt 4 rfl;have hbw:b<w20.heap.size:=Nat.lt_of_lt_of_le hbb hb20w.size;have n2:∀W,AgreeF (fun x=>x≠w1.heap.size) w20 W→W.cell? ⟨w.heap.size,2,none⟩=some (.slice (some ⟨b,off,none⟩) m c):=fun W hW=>(hW.cell hwr4 hlw).trans (hx20.cell 4 2 rfl rfl)
   have nk:∀W,AgreeF (fun x=>x≠w1.heap.size) w20 W→W.cell? ⟨b,off+j*4,none⟩=some (.string (strOf kj)):=fun W hW=>(hW.cell (by show b≠w1.heap.size;omega) hbw).trans ((hb20w.cell (p:=⟨b,off+j*4,none⟩) hbb).trans hcj)
   have b0:∀W,AgreeF (fun x=>x≠w1.heap.size) w20 W→W.cell? ⟨wc.heap.size+2,0,none⟩=some (.int .i64 0):=fun W hW=>(hW.cell (by show wc.heap.size+2≠w1.heap.size;omega) hl10).trans (hx20.cell 0 0 rfl rfl)
   have b1:∀W,AgreeF (fun x=>x≠w1.heap.size) w20 W→W.cell? ⟨wc.heap.size+2,1,none⟩=some (.bool lf):=fun W hW=>(hW.cell (by show wc.heap.size+2≠w1.heap.size;omega) hl10).trans (hx20.cell 0 1 rfl rfl)
   have b2:∀W,AgreeF (fun x=>x≠w1.heap.size) w20 W→W.cell? ⟨wc.heap.size+2,2,none⟩=some (.slice av (am+i) dv):=fun W hW=>(hW.cell (by show wc.heap.size+2≠w1.heap.size;omega) hl10).trans (hx20.cell 0 2 rfl rfl)
   have HX20:=Hd (hx20.sub (m:=[(w1.heap.size,[.int .i64 p1,.bool l1,.slice a1 m1 c1]),(w.heap.size+1,[.int .i64 0,.bool false,.slice none 0 0])]) (by simp));have HB20:=Hd hb20w;have hA00:AgreeF (fun x=>x≠w1.heap.size) w20 w20.drew:=agr _;have hjm1:(j:Int)<(m:Int):=by omega
   clear hx20 hb20 hb20w h20 n20 nB20 q2 hcj;go_upto_region 21 with(fail)
   refine wp_region_noPanic ?_;refine wp_region_held_drew (S:=(fun W=>AgreeF (fun x=>x≠w1.heap.size) w20 W)) (by kernel_rfl) (by(repeat (with_reducible first|assumption|exact agr _|apply agal|apply agdr|apply agst))) (fun hHeld=>?_);refine tks [0,1] ?_;refine tks [2,3] ?_;refine tks [4,5] ?_;refine tks [6,7,8] ?_;refine rdy 9 (fun K hK=>?_)
   (rw[if_pos (by rfl)];go_wp2_with (fail))
   refine bkR hK (fun hHeld=>?_);clear hK K;refine tks [10] ?_;refine rdy 11 (fun K hK=>?_)
   (rw[if_pos (by rfl)];go_wp2_with (fail))
   refine bkR hK (fun hHeld=>?_);clear hK K;refine rdy 12 (fun K hK=>?_)
   (rw[if_pos (by rfl)];go_simp;(with_reducible refine(CW2 _ ?ra _ ?hb ?r1 ?hA ?hz).mono ?fin);(case hz=>((repeat (with_reducible first|assumption|exact BoxAt.here3|exact BoxAt.here2|exact BoxAt.here|apply BoxAt.dr|apply BoxAt.al));done));(case hA=>((repeat (with_reducible first|assumption|exact BoxAt.here3|exact BoxAt.here2|exact BoxAt.here|apply BoxAt.dr|apply BoxAt.al));done));(case hb=>(repeat (with_reducible first|assumption|exact Below.refl _ _|apply Below.al|apply Below.dr)));(case r1=>(with_reducible first|exact Nat.le_refl _|(simp only[World.heap_alloc_size,World.heap_drew];omega)|omega));rintro e w21 ⟨a21,d21,rfl,n21,hb21⟩;have hA21:AgreeF (fun x=>x≠w1.heap.size) w20 w21:=AgreeF.of_below hb21;have hx21:=HX20.out.step hb21;have z0:=hx21.cell 0 0 rfl rfl;have z1:=hx21.cell 0 1 rfl rfl;have z2:=hx21.cell 0 2 rfl rfl;have y0:=hx21.frozen 0 0 rfl;have y1:=hx21.frozen 0 1 rfl;have y2:=hx21.frozen 0 2 rfl;go_wp2_with (fail))
   refine bkR hK (fun hHeld=>?_);clear hK K;refine tks [13] ?_;refine rdy 14 (fun K hK=>?_)
   (rw[if_pos (by rfl)];go_wp2_with (fail))
   refine bkR hK (fun hHeld=>?_);clear hK K;refine wpAnyH_done (by kernel_rfl) ?_ _;refine NoPanic.normal ?_;have hx22:=((hx21.put 0 (.int .i64 0) (by simp;omega)).put 1 (.bool false) (by simp;omega)).put 2 (.slice a21 m' d21) (by simp;omega);have n22:=n21.put3 hr5 (.int .i64 0) (.bool false) (.slice a21 m' d21);have hb22:=(((below_via HB20.out hb21).setCell (p:=⟨w1.heap.size,0,none⟩) (show w.heap.size≤w1.heap.size by omega) (.int .i64 0)).setCell (p:=⟨w1.heap.size,1,none⟩) (show w.heap.size≤w1.heap.size by omega) (.bool false)).setCell (p:=⟨w1.heap.size,2,none⟩) (show w.heap.size≤w1.heap.size by omega) (.slice a21 m' d21);obtain⟨W22,hW22⟩:∃x,(((w21.setCell ⟨w1.heap.size,0,none⟩ (.int .i64 0)).setCell ⟨w1.heap.size,1,none⟩ (.bool false)).setCell ⟨w1.heap.size,2,none⟩ (.slice a21 m' d21))=x:=⟨_,rfl⟩
   rw[hW22] at hx22 n22 hb22 ⊢;have hs22:w1.heap.size<W22.heap.size:=hx22.lt 0 rfl;have hbj:Bnd (n+1) (kidAt L2 j):=by
    rw[HKJ.out];have:=HO.out.both j (by have:=HLM.out;omega)
    rwa [HA.out,HBE.out,HKEY.out] at this
   have CP2:=parted_any (F:=fun x=>Fr F W11 x∧x<W22.heap.size) (fun _ h=>h.2) n22.lt (by rw[HQ3.out];exact hm'9) hbj (by rw[HQ3.out];exact hjm');have x0:=hx22.cell 0 0 rfl rfl;have x1':=hx22.cell 0 1 rfl rfl;have x2:=hx22.cell 0 2 rfl rfl;have HX22:=Hd hx22;have HB22:=Hd hb22;clear hx22 hb22 n22 n21 hx21 hb21 hA21 z0 z1 z2 y0 y1 y2 n2 nk b0 b1 b2 hHeld hbj hW22;go_wp2_with fail;refine CP2.mono ?_;rintro e w23 hpt;obtain⟨a23,c23,rfl,hn23,hb23⟩:=hpt.split;clear CP2 hpt x0 x1' x2;obtain⟨T2,hT2⟩:∃T,splitR 0 L2 j=T:=⟨_,rfl⟩
   rw[hT2] at hn23 ⊢;obtain⟨B2,hB2⟩:∃B,(splitT L2 j).isSome=B:=⟨_,rfl⟩
   rw[hB2];obtain⟨p2,hp2⟩:∃x,T2.page=x:=⟨_,rfl⟩
   obtain⟨l2,hl2⟩:∃x,T2.isLeaf=x:=⟨_,rfl⟩
   obtain⟨m2,hm2'⟩:∃x,cntT T2=x:=⟨_,rfl⟩
   rw[hp2,hl2,hm2'] at hn23 ⊢;have hx23:=HX22.out.step hb23;have z0:=hx23.cell 0 0 rfl rfl;have z1:=hx23.cell 0 1 rfl rfl;have z2:=hx23.cell 0 2 rfl rfl;have y0:=hx23.frozen 0 0 rfl;have y1:=hx23.frozen 0 1 rfl;have y2:=hx23.frozen 0 2 rfl;have hx24:=((hx23.put 0 (.int .i64 p2) (by simp;omega)).put 1 (.bool l2) (by simp;omega)).put 2 (.slice a23 m2 c23) (by simp;omega);have hrG5:¬Fr (fun x=>Fr F W11 x∧x<W22.heap.size) W22 w1.heap.size:=fun hg=>by
    rcases hg with hg|hg
    ·exact hr5 hg.1
    ·omega
   have hrG4:¬Fr (fun x=>Fr F W11 x∧x<W22.heap.size) W22 (w.heap.size+1):=fun hg=>by
    rcases hg with hg|hg
    ·rcases hg.1 with hg|hg
     ·have:=hF _ hg;omega
     ·omega
    ·omega
   have n24:=hn23.put3 hrG5 (.int .i64 p2) (.bool l2) (.slice a23 m2 c23);have hb24:=(((below_via HB22.out hb23).setCell (p:=⟨w1.heap.size,0,none⟩) (show w.heap.size≤w1.heap.size by omega) (.int .i64 p2)).setCell (p:=⟨w1.heap.size,1,none⟩) (show w.heap.size≤w1.heap.size by omega) (.bool l2)).setCell (p:=⟨w1.heap.size,2,none⟩) (show w.heap.size≤w1.heap.size by omega) (.slice a23 m2 c23);have HE:=Hd (rnode_end (T:=T2) (r:=w.heap.size+1) (show w.heap.size≤w.heap.size+1 by omega) hrG4 (fun b hb=>by
    rcases hb with hb|hb
    ·rcases hb.1 with hb|hb
     ·exact .inl hb
     ·exact .inr (by omega)
    ·exact .inr (by omega)) n24 hb24)
   have hmj:mendT p l k=T2:=by
    rw[mend_join (by rw[HSN.out];rfl) (by rw[HKD.out];exact HLOW.out) (by have:=HLM.out;omega),HLM.out,HJ.out,HL2.out];exact hT2
   have u0:=hx24.cell 0 0 rfl rfl;have u1:=hx24.cell 0 1 rfl rfl;have u2:=hx24.cell 0 2 rfl rfl;have v0:=hx24.cell 1 0 rfl rfl;have v1:=hx24.cell 1 1 rfl rfl;have v2:=hx24.cell 1 2 rfl rfl;have v0':=hx24.frozen 1 0 rfl;have v1':=hx24.frozen 1 1 rfl;have v2':=hx24.frozen 1 2 rfl;have hxe:=(((hx24.sub (m:=[(w.heap.size+1,[.int .i64 0,.bool false,.slice none 0 0])]) (by simp)).put 0 (.int .i64 p2) (by simp)).put 1 (.bool l2) (by simp)).put 2 (.slice a23 m2 c23) (by simp);have t0:=hxe.cell 0 0 rfl rfl;have t1:=hxe.cell 0 1 rfl rfl;have t2:=hxe.cell 0 2 rfl rfl;have HMJ:=Hd hmj;clear hx23 hx24 hxe n24 hb24 hb23 hn23 hrG5 hrG4 hT2 hB2 hp2 hl2 hm2' hmj;go_wp2_with fail;refine bodyPost_ret (v:=.agg #[.int .i64 p2,.bool l2,.slice a23 m2 c23]) (by simp only[results,Tryz.results127];simp[go_sem,t0,t1,t2]) rfl ?_;rw[HMJ.out];exact HE.out
open Go.RowKit
theorem rtop_any:∀{N:Nat} {F:Nat→Prop} {w:World} {cs:List Value} {t:Tr},(∀b,F b→b<w.heap.size)→RNodeOn F N w cs t→TopOk N t→Calls Tryz.prog 87 #[.agg cs.toArray] w (RNodeTo F (N+1) w (topT N t))
 | 0,_,_,_,_,_,h,_=>h.elim
 | N+1,F,w,cs,t,hF,h,ho=>by
  have IH:=fun {F:Nat→Prop} {w:World} {cs:List Value} {t:Tr} (hF:∀b,F b→b<w.heap.size) (h:RNodeOn F N w cs t) (ho:TopOk N t)=>rtop_any hF h ho
  obtain⟨o1,o2,o3⟩:=ho;have H:=Hd h;obtain⟨a,c,rfl,h1,_⟩:=h.at;obtain⟨_,e2,e3⟩:=h1.lens;obtain⟨lf,hlf⟩:∃x,t.isLeaf=x:=⟨_,rfl⟩
  obtain⟨p,hp⟩:∃x,t.page=x:=⟨_,rfl⟩
  obtain⟨m,hm⟩:∃x,cntT t=x:=⟨_,rfl⟩
  have hm9:m≤1000:=by rw[←hm];cases t<;>exact o1.1
  rw[hlf,hp,hm] at h H;rw[hm] at h1 e2;rw[hlf,hp,hm];obtain⟨W2,hW2⟩:∃x,(w.alloc (.cells #[.int .i64 p,.bool lf,.slice a m c] 27)).alloc (.cells #[.int .i64 0,.bool false,.slice none 0 0] 27)=x:=⟨_,rfl⟩
  have hb2:Below w.heap.size w W2:=by rw[←hW2];exact Below.al (Below.al (Below.refl _ _))
  have hx2:Boxes W2 [(w.heap.size+1,[.int .i64 0,.bool false,.slice none 0 0]),(w.heap.size,[.int .i64 p,.bool lf,.slice a m c])]:=by
   exact qae5e90
  have hsz2:W2.heap.size=w.heap.size+2:=by rw[←hW2];simp
  have n0:=hx2.cell 1 0 rfl rfl;have n1:=hx2.cell 1 1 rfl rfl;have n2:=hx2.cell 1 2 rfl rfl;have HX2:=Hd hx2;have HB2:=Hd hb2;have HR:=Hd h1;have HLF:=Hd hlf;have HM:=Hd hm;have HO1:=Hd o1;have HO2:=Hd o2;have HO3:=Hd o3;have hF2:∀b,F b→b<W2.heap.size:=fun b hb=>by have:=hF b hb;omega
  clear hx2 hb2 h1 h hlf hp hm o1 o2 o3;show Calls _ _ #[.agg #[.int .i64 p,.bool lf,.slice a m c]] _ _
  by_cases hkid:lf=false∧m=1
  ·obtain⟨rfl,rfl⟩:=hkid
   cases t with
   | leaf p0 l=>have:=HLF.out;simp[Tr.isLeaf] at this
   | node p0 l=>
   have hl1:l.length=1:=HM.out;obtain⟨b,off,bk,ok,kcs,pa,pn,pc,kc,rfl,hbb,hbk,hon,d0,d1,d2,d3,hck,hkc1,hkc2⟩:=RNodeOn.kid HR.out (show 0<1 by omega);have CT:=IH hF2 (hon.below HB2.out) (HO3.out p0 l rfl hl1);have HTE:Hid (topT (N+1) (.node p0 l)=topT N (kidAt l 0)):=Hd (topT_kid hl1);cases N with
   | zero=>exact hon.elim
   | succ N=>
   obtain⟨ak,ck,rfl,_,_⟩:=hon.at;generalize (kidAt l 0).page=kp at *;generalize (kidAt l 0).isLeaf=kl at *;generalize cntT (kidAt l 0)=km at *;have v3:W2.cell? ⟨b,off+3,none⟩=some (.slice (some ⟨bk,ok,none⟩) 1 kc):=(HB2.out.cell (p:=⟨b,off+3,none⟩) hbb).trans (by simpa using d3);have k0:W2.cell? ⟨bk,ok,none⟩=some (.int .i64 kp):=(HB2.out.cell (p:=⟨bk,ok,none⟩) hbk).trans (by simpa using hck 0 _ rfl);have k1:W2.cell? ⟨bk,ok+1,none⟩=some (.bool kl):=(HB2.out.cell (p:=⟨bk,ok+1,none⟩) hbk).trans (by simpa using hck 1 _ rfl);have k2:W2.cell? ⟨bk,ok+2,none⟩=some (.slice ak km ck):=(HB2.out.cell (p:=⟨bk,ok+2,none⟩) hbk).trans (by simpa using hck 2 _ rfl);clear hon d0 d1 d2 d3 hck IH hl1;go_enter Tryz.func87,Tryz.ntmps87;go_wp2_with fail;refine CT.mono ?_;rintro e w1 hq;obtain⟨p1,l1,a1,m1,d1,rfl,hn1,hb1⟩:=hq.split;have hx1:=HX2.out.step hb1;have hbw1:=below_via HB2.out hb1;have z0:=hx1.cell 0 0 rfl rfl;have z1:=hx1.cell 0 1 rfl rfl;have z2:=hx1.cell 0 2 rfl rfl;have y0:=hx1.frozen 0 0 rfl;have y1:=hx1.frozen 0 1 rfl;have y2:=hx1.frozen 0 2 rfl;obtain⟨t0,t1,t2,HE⟩:=rend (F:=F) (w:=w) (hx1.sub (m:=[(w.heap.size+1,[.int .i64 0,.bool false,.slice none 0 0])]) (by simp)) (by omega) (fun hg=>by rcases hg with hg|hg;have:=hF _ hg;omega;omega) (fun b hb=>by rcases hb with hb|hb;exact .inl hb;exact .inr (by omega)) (hn1.more (show N+1+1≤N+1+1+1 by omega)) hbw1;clear hx1 hn1 hb1 hbw1 hq CT;exact q03511a
  have CS:=rsizes_any (H.out.below HB2.out) HO1.out;have HSM:=Hd (HO1.out.small);obtain⟨S,hS⟩:∃x,sizesT t=x:=⟨_,rfl⟩
  rw[hS] at CS HSM;have HNK:Hid (∀p l,t=.node p l→l.length≠1):=Hd (fun q l e h1=>hkid (by subst e;exact⟨HLF.out.symm,by rw[←HM.out];exact h1⟩));have HS:=Hd hS;clear IH hS;have hlm:lf=true∨(lf=false∧((m:Int) == 1)=false):=by
   cases lf with
   | true=>exact .inl rfl
   | false=>exact .inr ⟨rfl,by simp at hkid;simp;omega⟩
  clear hkid
  rcases hlm with rfl|⟨rfl,hm1⟩
  ·go_enter Tryz.func87,Tryz.ntmps87
   go_wp2_with fail;refine CS.mono ?_;rintro e w4 ⟨v4,rfl,ho4,hb4⟩;obtain⟨a4,c4,rfl,hrow⟩:=Row.of_own ho4;go_wp2_with fail;refine(refAt_any _ _ _ _ _ hrow HSM.out).mono ?_;rintro e w5 ⟨rfl,rfl⟩;have hx4:=HX2.out.step hb4;have hbw4:=below_via HB2.out hb4;have hs4:w.heap.size+2≤w4.heap.size:=by have:=hb4.size;omega
   obtain⟨z,hz⟩:∃z,atF S=z:=⟨_,rfl⟩
   rw[hz];have q0:=hx4.cell 1 0 rfl rfl;have q1:=hx4.cell 1 1 rfl rfl;have q2:=hx4.cell 1 2 rfl rfl
   by_cases hz0:z=0
   ·subst hz0
    have HTE:Hid (topT (N+1) t=t):=Hd (topT_same HNK.out (by rw[HS.out];exact hz));have z0:=hx4.cell 0 0 rfl rfl;have z1:=hx4.cell 0 1 rfl rfl;have z2:=hx4.cell 0 2 rfl rfl;have y0:=hx4.frozen 0 0 rfl;have y1:=hx4.frozen 0 1 rfl;have y2:=hx4.frozen 0 2 rfl;obtain⟨t0,t1,t2,HE⟩:=rend (F:=F) (w:=w) (hx4.sub (m:=[(w.heap.size+1,[.int .i64 0,.bool false,.slice none 0 0])]) (by simp)) (by omega) (G:=F) (fun hg=>by have:=hF _ hg;omega) (fun b hb=>.inl hb) ((H.out.below hbw4).more (show N+1≤N+1+1 by omega)) hbw4;clear hx4 hbw4 hb4 ho4 hrow CS n0 n1 n2 hz;go_wp2_with fail;refine bodyPost_ret (v:=.agg #[.int .i64 p,.bool true,.slice a m c]) (by simp only[results,Tryz.results87];simp[go_sem,t0,t1,t2]) rfl ?_;rw[HTE.out];exact HE.out
   have HTE:Hid (topT (N+1) t=mendT 0 [([],t)] 0):=Hd (topT_mend HNK.out (by rw[HS.out,hz];exact hz0));have hz1:(z == 0)=false:=by simpa using hz0
   have HX4:=Hd hx4;have HBW4:=Hd hbw4;clear ho4 hrow CS n0 n1 n2 hz hz0 hb4;obtain⟨W6,hW6⟩:∃x,(w4.alloc (.cells #[.int .i64 p,.bool true,.slice a m c] 27))=x:=⟨_,rfl⟩
   obtain⟨W7,hW7⟩:∃x,(W6.alloc (.cells #[.string ⟨#[]⟩,.string ⟨#[]⟩,.slice none 0 0,.slice (some ⟨w4.heap.size,0,none⟩) 1 1] 145))=x:=⟨_,rfl⟩
   have hs6:W6.heap.size=w4.heap.size+1:=by rw[←hW6];simp
   have hs7:W7.heap.size=w4.heap.size+2:=by rw[←hW7];simp;omega
   have hb47:Below w4.heap.size w4 W7:=by rw[←hW7,←hW6];exact Below.al (Below.al (Below.refl _ _))
   have hA:BoxAt W7 w4.heap.size #[.int .i64 p,.bool true,.slice a m c]:=by rw[←hW7,←hW6];exact BoxAt.al BoxAt.here
   have hC:BoxAt W7 (w4.heap.size+1) #[.string ⟨#[]⟩,.string ⟨#[]⟩,.slice none 0 0,.slice (some ⟨w4.heap.size,0,none⟩) 1 1]:=by rw[←hW7,←hs6];exact BoxAt.here
   have hbw7:=below_via hbw4 hb47;have nT:RNodeOn (fun x=>Fr F w4 x∧x<W7.heap.size) (N+1) W7 [.int .i64 p,.bool true,.slice a m c] t:=((H.out.below hbw7).lt).mono (fun b hb=>⟨.inl hb.1,hb.2⟩);exact qb94b03
  ·go_enter Tryz.func87,Tryz.ntmps87
   go_wp2_with fail;refine CS.mono ?_;rintro e w4 ⟨v4,rfl,ho4,hb4⟩;obtain⟨a4,c4,rfl,hrow⟩:=Row.of_own ho4;go_wp2_with fail;refine(refAt_any _ _ _ _ _ hrow HSM.out).mono ?_;rintro e w5 ⟨rfl,rfl⟩;have hx4:=HX2.out.step hb4;have hbw4:=below_via HB2.out hb4;have hs4:w.heap.size+2≤w4.heap.size:=by have:=hb4.size;omega
   obtain⟨z,hz⟩:∃z,atF S=z:=⟨_,rfl⟩
   rw[hz];have q0:=hx4.cell 1 0 rfl rfl;have q1:=hx4.cell 1 1 rfl rfl;have q2:=hx4.cell 1 2 rfl rfl
   by_cases hz0:z=0
   ·subst hz0
    have HTE:Hid (topT (N+1) t=t):=Hd (topT_same HNK.out (by rw[HS.out];exact hz));have z0:=hx4.cell 0 0 rfl rfl;have z1:=hx4.cell 0 1 rfl rfl;have z2:=hx4.cell 0 2 rfl rfl;have y0:=hx4.frozen 0 0 rfl;have y1:=hx4.frozen 0 1 rfl;have y2:=hx4.frozen 0 2 rfl;obtain⟨t0,t1,t2,HE⟩:=rend (F:=F) (w:=w) (hx4.sub (m:=[(w.heap.size+1,[.int .i64 0,.bool false,.slice none 0 0])]) (by simp)) (by omega) (G:=F) (fun hg=>by have:=hF _ hg;omega) (fun b hb=>.inl hb) ((H.out.below hbw4).more (show N+1≤N+1+1 by omega)) hbw4;clear hx4 hbw4 hb4 ho4 hrow CS n0 n1 n2 hz;go_wp2_with fail;refine bodyPost_ret (v:=.agg #[.int .i64 p,.bool false,.slice a m c]) (by simp only[results,Tryz.results87];simp[go_sem,t0,t1,t2]) rfl ?_;rw[HTE.out];exact HE.out
   have HTE:Hid (topT (N+1) t=mendT 0 [([],t)] 0):=Hd (topT_mend HNK.out (by rw[HS.out,hz];exact hz0));have hz1:(z == 0)=false:=by simpa using hz0
   have HX4:=Hd hx4;have HBW4:=Hd hbw4;clear ho4 hrow CS n0 n1 n2 hz hz0 hb4;obtain⟨W6,hW6⟩:∃x,(w4.alloc (.cells #[.int .i64 p,.bool false,.slice a m c] 27))=x:=⟨_,rfl⟩
   obtain⟨W7,hW7⟩:∃x,(W6.alloc (.cells #[.string ⟨#[]⟩,.string ⟨#[]⟩,.slice none 0 0,.slice (some ⟨w4.heap.size,0,none⟩) 1 1] 145))=x:=⟨_,rfl⟩
   have hs6:W6.heap.size=w4.heap.size+1:=by rw[←hW6];simp
   have hs7:W7.heap.size=w4.heap.size+2:=by rw[←hW7];simp;omega
   have hb47:Below w4.heap.size w4 W7:=by rw[←hW7,←hW6];exact Below.al (Below.al (Below.refl _ _))
   have hA:BoxAt W7 w4.heap.size #[.int .i64 p,.bool false,.slice a m c]:=by rw[←hW7,←hW6];exact BoxAt.al BoxAt.here
   have hC:BoxAt W7 (w4.heap.size+1) #[.string ⟨#[]⟩,.string ⟨#[]⟩,.slice none 0 0,.slice (some ⟨w4.heap.size,0,none⟩) 1 1]:=by rw[←hW7,←hs6];exact BoxAt.here
   have hbw7:=below_via hbw4 hb47;have nT:RNodeOn (fun x=>Fr F w4 x∧x<W7.heap.size) (N+1) W7 [.int .i64 p,.bool false,.slice a m c] t:=((H.out.below hbw7).lt).mono (fun b hb=>⟨.inl hb.1,hb.2⟩);exact qb94b03
open Go.RowKit
theorem rput_node {N:Nat} {key d:List UInt8} (IH:∀{F:Nat→Prop} {w:World} {cs:List Value} {t:Tr},(∀b,F b→b<w.heap.size)→RNodeOn F N w cs t→PutOk N t key ⟨d,[]⟩→Calls Tryz.prog 88 #[.agg cs.toArray,.string (strOf key),.string (strOf d)] w (RNodeTo F N w (putT N t key ⟨d,[]⟩)))
 {F:Nat→Prop} {w:World} {cs:List Value} {p:Int} {l:List (List UInt8×Tr)} (hF:∀b,F b→b<w.heap.size) (h:RNodeOn F (N+1) w cs (.node p l)) (ho:PutOk (N+1) (.node p l) key ⟨d,[]⟩) :
 Calls Tryz.prog 88 #[.agg cs.toArray,.string (strOf key),.string (strOf d)] w (RNodeTo F (N+1) w (putT (N+1) (.node p l) key ⟨d,[]⟩)):=by
 obtain⟨o1,o2,o3,M,rfl,o4⟩:=ho;have H:=Hd h;obtain⟨a,c,rfl,h1,hfa⟩:=h.at;obtain⟨e1,e2,e3⟩:=h1.lens;obtain⟨m,hml⟩:∃m,cntT (.node p l)=m:=⟨_,rfl⟩
 have hlm:l.length=m:=hml;rw[hml] at h1 hfa e1 e2 ⊢;obtain⟨k,hk⟩:∃k,wayF (keysOf l) key=k:=⟨_,rfl⟩
 have hkm:k<m:=by rw[←hk,←hlm,←show(keysOf l).length=l.length by simp[keysOf]];exact wayF_lt key (by simpa[keysOf] using o1)
 have hput:putT (M+1+1) (.node p l) key ⟨d,[]⟩=mendT 0 (l.set k (keyAt l k,putT (M+1) (kidAt l k) key ⟨d,[]⟩)) k:=by rw[←hk];rfl
 rw[hk] at o3 o4;rw[hput];obtain⟨b,off,bk,ok,kcs,pa,pn,pc,kc,rfl,hbb,hbk,hon,d0,d1,d2,d3,hck,hkc1,hkc2⟩:=RNodeOn.kid h1 hkm;have hm9:m≤1000:=by rw[←hlm];exact o2
 obtain⟨kid,hkd⟩:∃x,kidAt l k=x:=⟨_,rfl⟩
 obtain⟨kj,hkj⟩:∃x,keyAt l k=x:=⟨_,rfl⟩
 rw[hkd] at hon o3 o4 ⊢;rw[hkj] at d0 o4 ⊢;obtain⟨T,hT⟩:∃x,putT (M+1) kid key ⟨d,[]⟩=x:=⟨_,rfl⟩
 have IH:=fun {F:Nat→Prop} {w:World} {cs:List Value} (h1:∀b,F b→b<w.heap.size) (h2:RNodeOn F (M+1) w cs kid)=>IH h1 h2 o3
 rw[hT] at IH o4 ⊢;obtain⟨L2,hL2⟩:∃x,l.set k (kj,T)=x:=⟨_,rfl⟩
 have q2:=set_cells (show k<l.length by omega) p kj T;have q3:L2.length=m:=by rw[←hL2,List.length_set];exact hlm
 rw[hL2] at o4 q2 ⊢;obtain⟨ak,ck,rfl,_,_⟩:=hon.at;obtain⟨km,hkm'⟩:∃x,cntT kid=x:=⟨_,rfl⟩
 obtain⟨kp,hkp⟩:∃x,kid.page=x:=⟨_,rfl⟩
 obtain⟨kl,hkl⟩:∃x,kid.isLeaf=x:=⟨_,rfl⟩
 rw[hkm',hkp,hkl] at hon hck;show Calls _ _ #[.agg #[.int .i64 p,.bool false,.slice (some ⟨b,off,none⟩) m c],.string (strOf key),.string (strOf d)] _ _;obtain⟨W2,hW2⟩:∃x,(w.alloc (.cells #[.int .i64 p,.bool false,.slice (some ⟨b,off,none⟩) m c] 27)).alloc (.cells #[.int .i64 0,.bool false,.slice none 0 0] 27)=x:=⟨_,rfl⟩
 have hb2:Below w.heap.size w W2:=by rw[←hW2];exact Below.al (Below.al (Below.refl _ _))
 have hx2:Boxes W2 [(w.heap.size+1,[.int .i64 0,.bool false,.slice none 0 0]),(w.heap.size,[.int .i64 p,.bool false,.slice (some ⟨b,off,none⟩) m c])]:=by
  exact qfb406c
 have hsz2:W2.heap.size=w.heap.size+2:=by rw[←hW2];simp
 have n0:=hx2.cell 1 0 rfl rfl;have n1:=hx2.cell 1 1 rfl rfl;have n2:=hx2.cell 1 2 rfl rfl;have CW:=rway_any (H.out.below hb2).toRIn key (by rw[hml];exact hm9);rw[show(Tr.node p l).keys=keysOf l from rfl,hk,hml] at CW;have HX2:=Hd hx2;have HB2:=Hd hb2;have HR:=Hd h1;have HON:=Hd hon;have HD0:=Hd d0;have HD3:=Hd d3;have HCK:=Hd hck;have HO4:=Hd o4;have Q2:=Hd q2;have HQ3:=Hd q3;clear hx2 hb2 h1 hon d0 d1 d2 d3 hck h hfa hml hkp hkm' hkl e1 hk hput hkd hkj o3 o4 q2 q3 hL2 hT hlm o1 o2;go_enter Tryz.func88,Tryz.ntmps88;go_wp2_with fail;refine CW.mono ?_;rintro e w1 ⟨rfl,hb1⟩;have hx1:=HX2.out.step hb1;have hbw1:=below_via HB2.out hb1;have v2:=hx1.cell 1 2 rfl rfl;have v3:=(hbw1.cell (p:=⟨b,off+k*4+3,none⟩) hbb).trans HD3.out;have k0:w1.cell? ⟨bk,ok,none⟩=some (.int .i64 kp):=(hbw1.cell (p:=⟨bk,ok,none⟩) hbk).trans (by simpa using HCK.out 0 _ rfl);have k1:w1.cell? ⟨bk,ok+1,none⟩=some (.bool kl):=(hbw1.cell (p:=⟨bk,ok+1,none⟩) hbk).trans (by simpa using HCK.out 1 _ rfl);have k2:w1.cell? ⟨bk,ok+2,none⟩=some (.slice ak km ck):=(hbw1.cell (p:=⟨bk,ok+2,none⟩) hbk).trans (by simpa using HCK.out 2 _ rfl);have hs1:w.heap.size+2≤w1.heap.size:=by have:=hb1.size;omega
 have CP:=IH (fun b hb=>by have:=hF b hb;omega) (HON.out.below hbw1);have HX1:=Hd hx1;have HBW1:=Hd hbw1;clear CW hx1 hbw1 hb1 n0 n1 n2 IH hW2;go_wp2_with fail;refine CP.mono ?_;rintro e w3 hq;obtain⟨p3,l3,a3,m3,d3,rfl,hn3,hb3⟩:=hq.split;obtain⟨W4,hW4⟩:∃x,w3.alloc (.cells #[.int .i64 p3,.bool l3,.slice a3 m3 d3] 27)=x:=⟨_,rfl⟩
 have hb34:Below w3.heap.size w3 W4:=by rw[←hW4];exact Below.al (Below.refl _ _)
 have hx4:Boxes W4 [(w3.heap.size,[.int .i64 p3,.bool l3,.slice a3 m3 d3]),(w.heap.size+1,[.int .i64 0,.bool false,.slice none 0 0]),(w.heap.size,[.int .i64 p,.bool false,.slice (some ⟨b,off,none⟩) m c])]:=by
  rw[←hW4];exact(HX1.out.step hb3).alloc #[.int .i64 p3,.bool l3,.slice a3 m3 d3] 27 (b:=w3.heap.size) rfl
 have hs3:w.heap.size+2≤w3.heap.size:=Nat.le_trans hs1 hb3.size;have hs4:W4.heap.size=w3.heap.size+1:=by rw[←hW4];simp
 have hb4w:=below_via HBW1.out (below_via hb3 hb34);have nT:RNodeOn (Fr F W2) (M+1) W4 [.int .i64 p3,.bool l3,.slice a3 m3 d3] T:=(hn3.below hb34).mono (fun b hb=>by
  rcases hb with hb|hb
  ·exact .inl hb
  ·exact .inr (by omega))
 have hG:∀b,W4.heap.size≤b→Fr F W2 b:=fun b hb=>.inr (by omega)
 have TR:TabR 4 (RcOn (Fr F W2) (M+1) W4) W4 (some ⟨b,off,none⟩) m c (cellsR (.node p l)):=TabR.mono (TabR.below (Nat.le_refl _) hb4w HR.out) (fun _ _ hy=>RcOn.mono (fun b hf=>Fr.old b hf) (RcOn.below hy hb4w));have CW2:∀(W:World) (ra z:Nat),Below W4.heap.size W4 W→W4.heap.size≤ra→BoxAt W ra #[.int .i64 p3,.bool l3,.slice a3 m3 d3]→BoxAt W z #[.string (strOf kj),.string ⟨#[]⟩,.slice none 0 0,.slice (some ⟨ra,0,none⟩) 1 1] →
  Calls Tryz.prog 129 #[.slice (some ⟨b,off,none⟩) m c,.int .i64 (k:Int),.slice (some ⟨z,0,none⟩) 1 1] W (RowTo (Fr F W2) (M+1) W4 (.node 0 L2) m):=fun W ra z hb r1 hA hz=>
  with_one (t:=.node 0 L2) rfl HQ3.out hb hG TR hkm (by omega) Q2.out rfl nT r1 hA hz
 have CM:∀(W:World) (a5:Option Addr) (d5:Nat),RNodeOn (Fr F W2) (M+2) W [.int .i64 0,.bool (Tr.node 0 L2).isLeaf,.slice a5 m d5] (.node 0 L2)→Calls Tryz.prog 127 #[.agg #[.int .i64 0,.bool false,.slice a5 m d5],.int .i64 (k:Int)] W (RNodeTo (fun x=>Fr F W2 x∧x<W.heap.size) (M+2) W (mendT 0 L2 k)):=fun W a5 d5 hn=>
  rmend_any (fun _ h=>h.2) hn.lt HO4.out (by rw[HQ3.out];exact hkm)
 have hlw:=hx4.lt 2 rfl;have hl3:=hx4.lt 0 rfl;have hbw:b<W4.heap.size:=Nat.lt_of_lt_of_le hbb hb4w.size;have n2:∀W,AgreeF (fun x=>x≠w.heap.size+1) W4 W→W.cell? ⟨w.heap.size,2,none⟩=some (.slice (some ⟨b,off,none⟩) m c):=fun W hW=>(hW.cell (by show w.heap.size≠w.heap.size+1;omega) hlw).trans (hx4.cell 2 2 rfl rfl)
 have nk:∀W,AgreeF (fun x=>x≠w.heap.size+1) W4 W→W.cell? ⟨b,off+k*4,none⟩=some (.string (strOf kj)):=fun W hW=>(hW.cell (by show b≠w.heap.size+1;omega) hbw).trans ((hb4w.cell (p:=⟨b,off+k*4,none⟩) hbb).trans HD0.out)
 have b0:∀W,AgreeF (fun x=>x≠w.heap.size+1) W4 W→W.cell? ⟨w3.heap.size,0,none⟩=some (.int .i64 p3):=fun W hW=>(hW.cell (by show w3.heap.size≠w.heap.size+1;omega) hl3).trans (hx4.cell 0 0 rfl rfl)
 have b1:∀W,AgreeF (fun x=>x≠w.heap.size+1) W4 W→W.cell? ⟨w3.heap.size,1,none⟩=some (.bool l3):=fun W hW=>(hW.cell (by show w3.heap.size≠w.heap.size+1;omega) hl3).trans (hx4.cell 0 1 rfl rfl)
 have b2:∀W,AgreeF (fun x=>x≠w.heap.size+1) W4 W→W.cell? ⟨w3.heap.size,2,none⟩=some (.slice a3 m3 d3):=fun W hW=>(hW.cell (by show w3.heap.size≠w.heap.size+1;omega) hl3).trans (hx4.cell 0 2 rfl rfl)
 have HX4:=Hd (hx4.sub (m:=[(w.heap.size+1,[.int .i64 0,.bool false,.slice none 0 0])]) (by simp));have HB4:=Hd hb4w;have hA00:AgreeF (fun x=>x≠w.heap.size+1) W4 W4.drew:=agr _;have HS4:=Hd hs4;clear hx4 hb34 hb4w nT TR hn3 hb3 hq CP v2 v3 k0 k1 k2 hs4 hG;go_upto_region 4 with(fail)
 clear hW4;refine wp_region_noPanic ?_;refine wp_region_held_drew (S:=(fun W=>AgreeF (fun x=>x≠w.heap.size+1) W4 W)) (by kernel_rfl) (by(repeat (with_reducible first|assumption|exact agr _|apply agal|apply agdr|apply agst))) (fun hHeld=>?_);refine tks [0,1] ?_;refine tks [2,3] ?_;refine tks [4,5] ?_;refine tks [6,7] ?_;refine tks [8,9,15] ?_;refine rdy 10 (fun K hK=>?_)
 (rw[if_pos (by rfl)];go_wp2_with (fail))
 refine bkR hK (fun hHeld=>?_);clear hK K;refine tks [11] ?_;refine rdy 12 (fun K hK=>?_)
 (rw[if_pos (by rfl)];go_wp2_with (fail))
 refine bkR hK (fun hHeld=>?_);clear hK K;refine rdy 13 (fun K hK=>?_)
 (rw[if_pos (by rfl)];go_simp;(with_reducible refine(CW2 _ ?ra _ ?hb ?r1 ?hA ?hz).mono ?fin);(case hz=>((repeat (with_reducible first|assumption|exact BoxAt.here3|exact BoxAt.here2|exact BoxAt.here|apply BoxAt.dr|apply BoxAt.al));done));(case hA=>((repeat (with_reducible first|assumption|exact BoxAt.here3|exact BoxAt.here2|exact BoxAt.here|apply BoxAt.dr|apply BoxAt.al));done));(case hb=>(repeat (with_reducible first|assumption|exact Below.refl _ _|apply Below.al|apply Below.dr)));(case r1=>(with_reducible first|exact Nat.le_refl _|(simp only[World.heap_alloc_size,World.heap_drew];omega)|omega));rintro e w5 ⟨a5,d5,rfl,n5,hb5⟩;have hA5:AgreeF (fun x=>x≠w.heap.size+1) W4 w5:=AgreeF.of_below hb5;have CM:=CM w5 a5 d5 n5;go_wp2_with (fail))
 refine bkR hK (fun hHeld=>?_);clear hK K;refine tks [14] ?_;refine rdy 16 (fun K hK=>?_)
 (rw[if_pos (by rfl)];go_simp;(with_reducible refine CM.mono ?_);rintro e w6 hq;obtain⟨p6,l6,a6,m6,d6,rfl,n6,hb6⟩:=hq.split;have hb46:=below_via hb5 hb6;have hA6:AgreeF (fun x=>x≠w.heap.size+1) W4 w6:=AgreeF.of_below hb46;have hx6:=HX4.out.step hb46;have z0:=hx6.cell 0 0 rfl rfl;have z1:=hx6.cell 0 1 rfl rfl;have z2:=hx6.cell 0 2 rfl rfl;have y0:=hx6.frozen 0 0 rfl;have y1:=hx6.frozen 0 1 rfl;have y2:=hx6.frozen 0 2 rfl;go_wp2_with (fail))
 refine bkR hK (fun hHeld=>?_);clear hK K;refine rdy 17 (fun K hK=>?_)
 (rw[if_pos (by rfl)];go_wp2_with (fail))
 refine bkR hK (fun hHeld=>?_);clear hK K;refine wpAnyH_done (by kernel_rfl) ?_ _;refine NoPanic.normal ?_;obtain⟨t0,t1,t2,HE⟩:=rend (F:=F) (w:=w) hx6 (by omega) (fun hg=>by
  have:=HS4.out;have:=hb5.size
  rcases hg with hg|hg
  ·rcases hg.1 with hg|hg
   ·have:=hF _ hg;omega
   ·omega
  ·omega) (fun b hb=>by
  have:=HS4.out;have:=hb5.size
  rcases hb with hb|hb
  ·rcases hb.1 with hb|hb
   ·exact .inl hb
   ·exact .inr (by omega)
  ·exact .inr (by omega)) n6 (below_via HB4.out hb46)
 clear hx6 n6 hb46 hA6 hA5 n5 hb5 hq z0 z1 z2 y0 y1 y2;go_wp2_with fail;refine bodyPost_ret (v:=.agg #[.int .i64 p6,.bool l6,.slice a6 m6 d6]) (by simp only[results,Tryz.results88];simp[go_sem,t0,t1,t2]) rfl HE.out
open Go.RowKit
theorem putL_cells (key:List UInt8) (v:Tv) (p:Int) (l:List (List UInt8×Tv)) :
 cellsR (.leaf 0 (putL key v l))=(cellsR (.leaf p l)).take (posK key (keysOf l))++[⟨key,v,none⟩]++(cellsR (.leaf p l)).drop (posK key (keysOf l)+(if hasK key (keysOf l) then 1 else 0)):=by
 rw[putL_pos];simp[cellsR,List.map_take,List.map_drop]
theorem RcOn.fresh (F:Nat→Prop) (n:Nat) (w:World) (key d:List UInt8):RcOn F n w [.string (strOf key),.string (strOf d),.slice none 0 0,.slice none 0 0] ⟨key,⟨d,[]⟩,none⟩:=
 ⟨none,0,0,none,0,0,rfl,⟨rfl,Nat.le_refl _,by unfold maxLen;omega,fun _=>rfl,.inl rfl⟩,.inl rfl,TabR.nil _,.inl rfl⟩
theorem rput_leaf {n:Nat} {key d:List UInt8} {F:Nat→Prop} {w:World} {cs:List Value} {p:Int} {l:List (List UInt8×Tv)} (hF:∀b,F b→b<w.heap.size) (h:RNodeOn F (n+1) w cs (.leaf p l)) (hl9:l.length≤900) :
 Calls Tryz.prog 88 #[.agg cs.toArray,.string (strOf key),.string (strOf d)] w (RNodeTo F (n+1) w (.leaf 0 (putL key ⟨d,[]⟩ l))):=by
 have H:=Hd h;obtain⟨a,c,rfl,h1,hfa⟩:=h.at;obtain⟨e1,e2,e3⟩:=h1.lens;obtain⟨m,hml⟩:∃m,cntT (.leaf p l)=m:=⟨_,rfl⟩
 have hlm:l.length=m:=hml;rw[hml] at h1 hfa e1 e2 ⊢;have hm9:m≤900:=by rw[←hlm];exact hl9
 have hcells:=putL_cells key ⟨d,[]⟩ p l;have hPm:posK key (keysOf l)≤m:=by have:=posK_le key (keysOf l);rw[←hlm];simpa[keysOf] using this
 have hlt:∀i,i<posK key (keysOf l)→(keysOf l)[i]?.getD []<key:=fun i hi=>posK_lt hi
 have hat:posK key (keysOf l)<m→¬(keysOf l)[posK key (keysOf l)]?.getD []<key:=fun hi=>posK_at (by rw[←hlm] at hi;simpa[keysOf] using hi)
 have hhas:hasK key (keysOf l)=((keysOf l)[posK key (keysOf l)]? == some key):=rfl;obtain⟨P,hP⟩:∃P,posK key (keysOf l)=P:=⟨_,rfl⟩
 rw[hP] at hcells hPm hlt hat hhas;obtain⟨hs,hhs⟩:∃x,hasK key (keysOf l)=x:=⟨_,rfl⟩
 rw[hhs] at hcells hhas;have hkey:∀(i:Nat) (y:Rc),(cellsR (.leaf p l))[i]? = some y→(keysOf l)[i]? = some y.key:=fun i y hy=>by
  rw[cellsR_leaf] at hy;obtain⟨x,hx1,hx2⟩:=Option.map_eq_some_iff.1 hy;subst hx2;simp[keysOf,hx1]
 obtain⟨R,hR⟩:∃x,putL key ⟨d,[]⟩ l=x:=⟨_,rfl⟩
 rw[hR] at hcells ⊢;show Calls _ _ #[.agg #[.int .i64 p,.bool true,.slice a m c],.string (strOf key),.string (strOf d)] _ _;obtain⟨W2,hW2⟩:∃x,(w.alloc (.cells #[.int .i64 p,.bool true,.slice a m c] 27)).alloc (.cells #[.int .i64 0,.bool false,.slice none 0 0] 27)=x:=⟨_,rfl⟩
 have hb2:Below w.heap.size w W2:=by rw[←hW2];exact Below.al (Below.al (Below.refl _ _))
 have hx2:Boxes W2 [(w.heap.size+1,[.int .i64 0,.bool false,.slice none 0 0]),(w.heap.size,[.int .i64 p,.bool true,.slice a m c])]:=by
  rw[←hW2];exact((Boxes.nil w).alloc #[.int .i64 p,.bool true,.slice a m c] 27 (b:=w.heap.size) rfl).alloc #[.int .i64 0,.bool false,.slice none 0 0] 27 (b:=w.heap.size+1) (by simp)
 have hsz2:W2.heap.size=w.heap.size+2:=by rw[←hW2];simp
 have n1:=hx2.cell 1 1 rfl rfl;have HX2:=Hd hx2;have HB2:=Hd hb2;have HR:=Hd h1;have HC:=Hd hcells;have HLT:=Hd hlt;have HAT:=Hd hat;have HHAS:=Hd hhas;have HKEY:=Hd hkey;have HLM:=Hd hlm;have hcl:(cellsR (.leaf p l)).length=m:=by rw[cellsR_len];exact hml
 have HCL:=Hd hcl;clear hx2 hb2 h1 h hfa hml e1 hcells hlt hat hhas hkey hlm hR hP hhs hl9 hcl;go_enter Tryz.func88,Tryz.ntmps88
 go_upto_block 0 with(fail)
 obtain⟨W3,hW3⟩:∃x,x=W2.alloc (.cells #[.string (strOf key),.string (strOf d),.slice none 0 0,.slice none 0 0] 145):=⟨_,rfl⟩
 rw[←hW3];have hb3:Below w.heap.size w W3:=by rw[hW3];exact Below.al HB2.out
 have hx3:Boxes W3 [(w.heap.size+2,[.string (strOf key),.string (strOf d),.slice none 0 0,.slice none 0 0]),(w.heap.size+1,[.int .i64 0,.bool false,.slice none 0 0]),(w.heap.size,[.int .i64 p,.bool true,.slice a m c])]:=by
  rw[hW3];exact HX2.out.alloc #[.string (strOf key),.string (strOf d),.slice none 0 0,.slice none 0 0] 145 (b:=w.heap.size+2) (by omega)
 have hs3:W3.heap.size=w.heap.size+3:=by rw[hW3];simp;omega
 have n2:=hx3.cell 2 2 rfl rfl;have HX3:=Hd hx3;have HB3:=Hd hb3;have HS3:=Hd hs3;have hF3:∀b,F b→b<W3.heap.size:=fun b hb=>by have:=hF b hb;omega
 have HF3:=Hd hF3;clear hx3 hb3 hW3 hW2 hs3 hF3 n1;go_wp2_with fail
 go_loop [10] (fun s=>∃i:Nat,i≤P∧s=.int .i64 i) (fun s=>P-(intOf s).toNat)
 case atStart=>exact⟨0,Nat.zero_le _,rfl⟩
 case round=>
  obtain⟨i,hi,rfl⟩:=hrel
  by_cases hiP:i<P
  ·obtain⟨b,off,y,_,_,_,_,_,_,rfl,hbb,hy,_,_,_,_,_,e0,_⟩:=RNodeOn.cell HR.out (show i<m by omega)
   have hk:y.key<key:=by
    have:=HLT.out i hiP;rw[HKEY.out i y hy] at this;exact this
   obtain⟨c1,c2,c3,c4⟩:=cmp_lt hk;have v0:=(HB3.out.cell (p:=⟨b,off+i*4,none⟩) hbb).trans e0;have him:(i:Int)<(m:Int):=by omega
   clear hk hy e0;go_wp2_with fail
   go_round
   case rel=>exact⟨i+1,by omega,by go_num⟩
   case measure=>simp[intOf];omega
  ·obtain rfl:i=P:=by omega
   by_cases hPm':i<m
   ·obtain⟨b,off,y,_,_,_,_,_,_,rfl,hbb,hy,_,_,_,_,_,e0,_⟩:=RNodeOn.cell HR.out (show i<m by omega)
    have v0:=(HB3.out.cell (p:=⟨b,off+i*4,none⟩) hbb).trans e0;have him:(i:Int)<(m:Int):=by omega
    have hna:¬y.key<key:=by
     have:=HAT.out hPm';rw[HKEY.out i y hy] at this;exact this
    have hha:=HHAS.out;rw[HKEY.out i y hy] at hha
    rcases ktri y.key key with hk|hk|hk
    ·exact absurd hk hna
    ·obtain rfl:hs=true:=by rw[hha,hk];simp
     obtain⟨c1,c2⟩:=cmp_eq key;rw[hk] at v0;have hcr:=HC.out;rw[if_pos rfl] at hcr;have hcnt:cntT (.leaf 0 R)=m:=by
      have:=congrArg List.length hcr;rw[cellsR_len] at this;simp only[List.length_append,List.length_take,List.length_drop,List.length_singleton,HCL.out] at this;omega
     obtain⟨W4,hW4⟩:∃x,W3.alloc (.cells #[.string (strOf key),.string (strOf d),.slice none 0 0,.slice none 0 0] 145)=x:=⟨_,rfl⟩
     have hb34:Below W3.heap.size W3 W4:=by rw[←hW4];exact Below.al (Below.refl _ _)
     have hz:BoxAt W4 W3.heap.size #[.string (strOf key),.string (strOf d),.slice none 0 0,.slice none 0 0]:=by rw[←hW4];exact BoxAt.here
     have hb4:=below_via HB3.out hb34;have CW3:=with_to (G:=Fr F W3) (n:=n) (wc:=W4) (W:=W4) (t:=.leaf 0 R) rfl hcnt hcr (Below.refl _ _) (fun b hb=>.inr (by have:=hb34.size;omega)) (TabR.mono (TabR.below (Nat.le_refl _) hb4 HR.out) (fun _ _ hy=>RcOn.mono (fun b hf=>Fr.old b hf) (RcOn.below hy hb4))) (one_cell hz (RcOn.fresh _ _ _ key d)) hPm' (by omega) (by omega);have hx4:=HX3.out.step hb34;have m0:=HX3.out.cell 0 0 rfl rfl;have m1:=HX3.out.cell 0 1 rfl rfl;have m2:=HX3.out.cell 0 2 rfl rfl;have m3:=HX3.out.cell 0 3 rfl rfl;have HX4:=Hd hx4;have HB4:=Hd hb4;clear hx4 hb4 hz hb34 hcr hcnt hna hha hk e0 hy;subst hW4;go_wp2_with fail;refine CW3.mono ?_;rintro e w5 ⟨a5,d5,rfl,n5',hb5⟩;have n5:RNodeOn (Fr F W3) (n+1) w5 [.int .i64 0,.bool true,.slice a5 m d5] (.leaf 0 R):=n5';have hx5:=HX4.out.step hb5;have z0:=hx5.cell 1 0 rfl rfl;have z1:=hx5.cell 1 1 rfl rfl;have z2:=hx5.cell 1 2 rfl rfl;have y0:=hx5.frozen 1 0 rfl;have y1:=hx5.frozen 1 1 rfl;have y2:=hx5.frozen 1 2 rfl;obtain⟨t0,t1,t2,HE⟩:=rend (F:=F) (w:=w) (hx5.sub (m:=[(w.heap.size+1,[.int .i64 0,.bool false,.slice none 0 0])]) (by simp)) (by omega) (fun hg=>by
      have:=HS3.out
      rcases hg with hg|hg
      ·have:=hF _ hg;omega
      ·omega) (fun b hb=>by
      have:=HS3.out
      rcases hb with hb|hb
      ·exact .inl hb
      ·exact .inr (by omega)) n5 (below_via HB4.out hb5)
     clear n5 hb5 CW3 hx5 n5';go_wp2_with fail;refine bodyPost_ret (v:=.agg #[.int .i64 0,.bool true,.slice a5 (m) d5]) (by simp only[results,Tryz.results88];simp[go_sem,t0,t1,t2]) rfl HE.out
    ·obtain rfl:hs=false:=by rw[hha];simp;intro e;rw[e] at hk;exact klt_irrefl _ hk
     obtain⟨c1,c2,c3,c4⟩:=cmp_lt hk;clear hna hha hk e0 hy;have hi9:i≤m:=by omega
     have hcr:=HC.out;rw[if_neg (by simp),Nat.add_zero] at hcr;have hs3:=HS3.out;have hcl:=HCL.out;have hb3:=HB3.out;have TR:TabR 4 (RcOn F n W3) W3 _ m c (cellsR (.leaf p l)):=TabR.mono (TabR.below (Nat.le_refl _) hb3 HR.out) (fun _ _ hy=>RcOn.below hy hb3);have c0:CellsF 145 F n W3.heap.size W3 (.slice none 0 0) []:=CellsF.nil _ _ _ _ _;obtain⟨v1,w1,hr1,c1',hg1⟩:=c0.row Tryz.underlying25 info_Cw (Nat.le_refl _) HF3.out (by simp) (TabR.tk TR hi9) (by omega);rw[List.nil_append] at c1';have hb1:Below W3.heap.size W3 w1:=(Below.refl _ _).grown hg1 (Nat.le_refl _) (fun g hg=>by cases hg);have hx1:=HX3.out.step hb1;have hl1:((cellsR (.leaf p l)).take i).length=i:=by rw[List.length_take,hcl,Nat.min_eq_left hi9]
     obtain⟨v2,w2,hr2,c2',hg2⟩:=c1'.append Tryz.underlying25 info_Cw hb1.size HF3.out (by rw[hl1];omega) (RcOn.fresh F n w1 key d);have hb2:Below W3.heap.size W3 w2:=hb1.grown hg2 hb1.size (fun g hg=>(c1'.ge hg).1);have hl2:((cellsR (.leaf p l)).take i++[(⟨key,⟨d,[]⟩,none⟩:Rc)]).length=i+1:=by rw[List.length_append,hl1];rfl
     obtain⟨ad,had,hsl⟩:=slice_from elem_Cw size_Cw (some ⟨b,off,none⟩) m c i hi9;exact q8adeb7
   ·obtain rfl:hs=false:=by
     rw[HHAS.out,List.getElem?_eq_none (by have:=HLM.out;simp[keysOf];omega)]
     rfl
    have him:decide ((i:Int)<(m:Int))=false:=by simp;omega
    have hi9:i≤m:=by omega
    have hcr:=HC.out;rw[if_neg (by simp),Nat.add_zero] at hcr;have hs3:=HS3.out;have hcl:=HCL.out;have hb3:=HB3.out;have TR:TabR 4 (RcOn F n W3) W3 _ m c (cellsR (.leaf p l)):=TabR.mono (TabR.below (Nat.le_refl _) hb3 HR.out) (fun _ _ hy=>RcOn.below hy hb3);have c0:CellsF 145 F n W3.heap.size W3 (.slice none 0 0) []:=CellsF.nil _ _ _ _ _;obtain⟨v1,w1,hr1,c1',hg1⟩:=c0.row Tryz.underlying25 info_Cw (Nat.le_refl _) HF3.out (by simp) (TabR.tk TR hi9) (by omega);rw[List.nil_append] at c1';have hb1:Below W3.heap.size W3 w1:=(Below.refl _ _).grown hg1 (Nat.le_refl _) (fun g hg=>by cases hg);have hx1:=HX3.out.step hb1;have hl1:((cellsR (.leaf p l)).take i).length=i:=by rw[List.length_take,hcl,Nat.min_eq_left hi9]
    obtain⟨v2,w2,hr2,c2',hg2⟩:=c1'.append Tryz.underlying25 info_Cw hb1.size HF3.out (by rw[hl1];omega) (RcOn.fresh F n w1 key d);have hb2:Below W3.heap.size W3 w2:=hb1.grown hg2 hb1.size (fun g hg=>(c1'.ge hg).1);have hl2:((cellsR (.leaf p l)).take i++[(⟨key,⟨d,[]⟩,none⟩:Rc)]).length=i+1:=by rw[List.length_append,hl1];rfl
    obtain⟨ad,had,hsl⟩:=slice_from elem_Cw size_Cw a m c i hi9;exact q8adeb7
open Go.RowKit
theorem RNodeOn.less {F:Nat→Prop}:∀{m n:Nat} {lo hi:List UInt8} {w:World} {cs:List Value} {t:Tr},RNodeOn F n w cs t→Shape m lo hi t→RNodeOn F m w cs t
 | 0,_,_,_,_,_,_,_,h=>h.elim
 | _,0,_,_,_,_,_,h,_=>h.elim
 | m+1,n+1,lo,hi,w,cs,.leaf p l,h,_=>by
  obtain⟨a,c,e,h1,f1⟩:=h.at;refine⟨a,c,e,TabR.agree h1 (Fa.mono f1 (fun _ h=>h)) (AgreeF.refl w) (fun cs y hy h=>?_),f1⟩;obtain⟨pa,pn,pc,ka,kn,kc,e,k1,f1,k2,f2⟩:=h;obtain⟨x,_,rfl⟩:=List.mem_map.1 hy;exact⟨pa,pn,pc,ka,kn,kc,e,k1,f1,TabR.agree k2 (Fa.mono f2 (fun _ h=>h)) (AgreeF.refl w) (fun cs y hy h=>by cases hy),f2⟩
 | m+1,n+1,lo,hi,w,cs,.node p l,h,hs=>by
  obtain⟨a,c,e,h1,f1⟩:=h.at;have hall:=node_kids hs;refine⟨a,c,e,TabR.agree h1 (Fa.mono f1 (fun _ h=>h)) (AgreeF.refl w) (fun cs y hy h=>?_),f1⟩;obtain⟨pa,pn,pc,ka,kn,kc,e,k1,f1,k2,f2⟩:=h;obtain⟨x,hx,rfl⟩:=List.mem_map.1 hy;obtain⟨_,lo',hi',g,_⟩:=hall x hx;exact⟨pa,pn,pc,ka,kn,kc,e,k1,f1,TabR.agree k2 (Fa.mono f2 (fun _ h=>h)) (AgreeF.refl w) (fun cs y hy h=>by
   have:y=x.2:=by simpa using hy
   subst this;exact RNodeOn.less h g),f2⟩
theorem rput_any:∀{N:Nat} {F:Nat→Prop} {w:World} {cs:List Value} {t:Tr} (key d:List UInt8),(∀b,F b→b<w.heap.size)→RNodeOn F N w cs t→PutOk N t key ⟨d,[]⟩ →
 Calls Tryz.prog 88 #[.agg cs.toArray,.string (strOf key),.string (strOf d)] w (RNodeTo F N w (putT N t key ⟨d,[]⟩))
 | 0,_,_,_,_,_,_,_,h,_=>h.elim
 | _+1,_,_,_,.leaf _p _l,_key,_d,hF,h,ho=>rput_leaf hF h ho.1
 | _N+1,_,_,_,.node _p _l,key,d,hF,h,ho=>rput_node (fun h1 h2 h3=>rput_any key d h1 h2 h3) hF h ho
theorem rPut_any {N:Nat} {F:Nat→Prop} {w:World} {cs:List Value} {t:Tr} (key d:List UInt8) (hF:∀b,F b→b<w.heap.size) (h:RNodeOn F N w cs t) (ho:PutOk N t key ⟨d,[]⟩) (ht:TopOk N (putT N t key ⟨d,[]⟩)) :
 Calls Tryz.prog 42 #[.agg cs.toArray,.string (strOf key),.string (strOf d)] w (RNodeTo F (N+1) w (putW N t key ⟨d,[]⟩)):=by
 cases N with
 | zero=>exact h.elim
 | succ N=>
 obtain⟨a,c,rfl,_,_⟩:=h.at;obtain⟨lf,hlf⟩:∃x,t.isLeaf=x:=⟨_,rfl⟩
 obtain⟨p,hp⟩:∃x,t.page=x:=⟨_,rfl⟩
 obtain⟨m,hm⟩:∃x,cntT t=x:=⟨_,rfl⟩
 rw[hlf,hp,hm] at h ⊢;obtain⟨W2,hW2⟩:∃x,(w.alloc (.cells #[.int .i64 p,.bool lf,.slice a m c] 27)).alloc (.cells #[.int .i64 0,.bool false,.slice none 0 0] 27)=x:=⟨_,rfl⟩
 have hb2:Below w.heap.size w W2:=by rw[←hW2];exact Below.al (Below.al (Below.refl _ _))
 have hx2:Boxes W2 [(w.heap.size+1,[.int .i64 0,.bool false,.slice none 0 0]),(w.heap.size,[.int .i64 p,.bool lf,.slice a m c])]:=by
  exact qae5e90
 have hsz2:W2.heap.size=w.heap.size+2:=by rw[←hW2];simp
 have C1:=rput_any key d (fun b hb=>by have:=hF b hb;omega) (h.below hb2) ho;obtain⟨T,hT⟩:∃x,putT (N+1) t key ⟨d,[]⟩=x:=⟨_,rfl⟩
 have HT:Hid (putW (N+1) t key ⟨d,[]⟩=topT (N+1) T):=Hd (by rw[←hT];rfl);rw[hT] at C1 ht;have n0:=hx2.cell 1 0 rfl rfl;have n1:=hx2.cell 1 1 rfl rfl;have n2:=hx2.cell 1 2 rfl rfl;have HX:=Hd hx2;have HB:=Hd hb2;have HTO:=Hd ht;clear h ho ht hx2 hb2 hlf hp hm hT;show Calls _ _ #[.agg #[.int .i64 p,.bool lf,.slice a m c],.string (strOf key),.string (strOf d)] _ _;go_enter Tryz.func42,Tryz.ntmps42;go_wp2_with fail;refine C1.mono ?_;rintro e w1 hq;obtain⟨p1,l1,a1,m1,d1,rfl,hn1,hb1⟩:=hq.split;have C2:=rtop_any (F:=fun x=>Fr F W2 x∧x<w1.heap.size) (fun _ h=>h.2) hn1.lt HTO.out;have hx1:=HX.out.step hb1;have hbw1:=below_via HB.out hb1;have hs1:w.heap.size+2≤w1.heap.size:=by have:=hb1.size;omega
 have HX1:=Hd hx1;have HB1:=Hd hbw1;clear C1 hn1 hb1 hx1 hbw1 n0 n1 n2 hW2 hq;go_wp2_with fail;refine C2.mono ?_;rintro e w2 hq;obtain⟨p2,l2,a2,m2,d2,rfl,hn2,hb2⟩:=hq.split;have hx2:=HX1.out.step hb2;have z0:=hx2.cell 0 0 rfl rfl;have z1:=hx2.cell 0 1 rfl rfl;have z2:=hx2.cell 0 2 rfl rfl;have y0:=hx2.frozen 0 0 rfl;have y1:=hx2.frozen 0 1 rfl;have y2:=hx2.frozen 0 2 rfl;obtain⟨t0,t1,t2,HE⟩:=rend (F:=F) (w:=w) (hx2.sub (m:=[(w.heap.size+1,[.int .i64 0,.bool false,.slice none 0 0])]) (by simp)) (by omega) (fun hg=>by
  rcases hg with hg|hg
  ·rcases hg.1 with hg|hg
   ·have:=hF _ hg;omega
   ·omega
  ·omega) (fun b hb=>by
  rcases hb with hb|hb
  ·rcases hb.1 with hb|hb
   ·exact .inl hb
   ·exact .inr (by omega)
  ·exact .inr (by omega)) hn2 (below_via HB1.out hb2)
 clear hx2 hn2 hb2 hq C2;go_wp2_with fail;refine bodyPost_ret (v:=.agg #[.int .i64 p2,.bool l2,.slice a2 m2 d2]) (by simp only[results,Tryz.results42];simp[go_sem,t0,t1,t2]) rfl ?_;rw[HT.out];exact HE.out
theorem rPut_whole {n:Nat} {F:Nat→Prop} {w:World} {cs:List Value} {t:Tr} (hF:∀b,F b→b<w.heap.size) (h:RNodeOn F n w cs t) (hw:Whole n t) (key d:List UInt8) (hk:keyOk key) (hd:d.length≤400) :
 Calls Tryz.prog 42 #[.agg cs.toArray,.string (strOf key),.string (strOf d)] w (RNodeTo F (n+1) w (putW n t key ⟨d,[]⟩)):=by
 have hv:valOk ⟨d,[]⟩:=⟨hd,fun h=>absurd rfl h⟩
 obtain⟨h1,h2⟩:=hw.put hk hv;exact rPut_any key d hF h h1 h2
theorem rempty_any (w:World) (F:Nat→Prop):Calls Tryz.prog 41 #[] w (RNodeTo F 1 w (.leaf 0 [])):=by
 go_enter Tryz.func41,Tryz.ntmps41;go_wp2_with fail;refine bodyPost_ret (v:=.agg #[.int .i64 0,.bool true,.slice none 0 0]) (by simp[results,Tryz.results41,go_sem]) rfl ⟨[.int .i64 0,.bool true,.slice none 0 0],rfl,?_,?_⟩
 ·exact RNodeOn.mk (t:=.leaf 0 []) (TabR.nil _) (Fa.zero _ _)
 ·exact Below.al (Below.refl _ _)
open Go.RowKit
end Go.Proofs.YtpghlmcoajaiiaaGreatDoor
