/- Texts that other texts of this claim lean on, one behind the other. -/
import Derived.Test.YtpghlmcoajaiiaaGreatDoorB1
import Derived.Test.YtpghlmcoajaiiaaGreatDoorB14
import Derived.Deep.QuietTactic
import Derived.BigQuiet
import Derived.Deep.RegionHeld3
import Derived.Test.YtpghlmcoajaiiaaGreatDoorB12b
import Derived.Test.YtpghlmcoajaiiaaGreatDoorB6
import Derived.Test.YtpghlmcoajaiiaaGreatDoorB10
import Derived.Test.YtpghlmcoajaiiaaGreatDoorB5
import Derived.Deep.DeepCutAuto
set_option maxHeartbeats 20000000
set_option maxRecDepth 100000
namespace Go.Proofs.YtpghlmcoajaiiaaGreatDoor
open Go.RowKit
theorem lay_leaf {n:Nat} {F G:Nat→Prop} {w:World} {sb:Nat} {vL:Value} {ws:List Wr} {la:Option Addr} {lc:Nat} {left:List Int} {cs:List Value} {l:List (List UInt8×Tv)} (hy:LyIn F w sb vL ws la lc left) (h:RNodeOn G (n+1) w cs (.leaf 0 l)) (hG:∀b,G b→b<w.heap.size∧b≠sb∧vL.ownBlock≠some b) (hB:Bare (.leaf 0 l)) (hb:Bnd (n+1) (.leaf 0 l)) (hf:freshN (n+1) (.leaf 0 l)≤left.length) (hws:ws.length+freshN (n+1) (.leaf 0 l)≤40000) (hl0:l≠[]) :
 Calls Tryz.prog 91 #[.pointer (some ⟨sb,0,none⟩),.agg cs.toArray] w (LayPost F w sb vL ws (n+1) (layT (n+1) (.leaf 0 l) left)):=by
 obtain⟨_,hv⟩:=bare_vals hB;obtain⟨a,c,rfl,h1,hfa⟩:=h.at;have hbl:l.length≤1000:=hb.1;have hbk:=hb.2;have hcn:cntT (.leaf 0 l)=l.length:=rfl;rw[hcn] at h1 hfa;obtain⟨wB,hwB⟩:∃x,x=(((w.alloc (.cells #[.int .i64 0,.bool true,.slice a l.length c] 27)).alloc (.cells #[.int .i64 0,.bool false,.slice none 0 0] 27)).alloc (.cells #[.int .i64 0,.bool true,.slice none 0 0] 27)).alloc (.cells #[.bool true,.slice none 0 0] 221):=⟨_,rfl⟩
 have hbB:Below w.heap.size w wB:=by rw[hwB];exact Below.al (Below.al (Below.al (Below.al (Below.refl _ _))))
 have hsB:wB.heap.size=w.heap.size+4:=by rw[hwB];simp
 have hxB:Boxes wB [(w.heap.size+1+1+1,[.bool true,.slice none 0 0]),(w.heap.size+1+1,[.int .i64 0,.bool true,.slice none 0 0]),(w.heap.size+1,[.int .i64 0,.bool false,.slice none 0 0]),(w.heap.size,[.int .i64 0,.bool true,.slice a l.length c])]:=by
  rw[hwB];exact((((Boxes.nil w).alloc #[.int .i64 0,.bool true,.slice a l.length c] 27 (b:=w.heap.size) rfl).alloc #[.int .i64 0,.bool false,.slice none 0 0] 27 (b:=w.heap.size+1) (by simp)).alloc #[.int .i64 0,.bool true,.slice none 0 0] 27 (b:=w.heap.size+1+1) (by simp)).alloc #[.bool true,.slice none 0 0] 221 (b:=w.heap.size+1+1+1) (by simp)
 have hsb:=hy.lt;have hvg:∀g,vL.ownBlock=some g→sb+1≤g∧g<w.heap.size:=fun g hg=>hy.ge hg
 have hLM:LM F w wB sb vL vL (w.heap.size+1+1) (w.heap.size+1+1+1) (w.heap.size+1) n true vL ws la lc left (.slice none 0 0) [] [] (.slice none 0 0) [] wB:=
  ⟨hxB.sub (by intro q hq;simp at hq ⊢;rcases hq with rfl|rfl|rfl<;>simp),hy.below hbB,own_nil wB _ 4 _,own_nil wB _ 5 _,fun g hg=>(by cases hg),fun g hg=>(by cases hg),fun g hg=>(by cases hg),Tells.nil,Only.of_below hbB,Turn.refl _ _,Turn.refl _ _,AgreeF.refl _,fun g hg=>by have:=(hvg g hg).2;omega,hsb,by omega,by omega,by omega,by omega⟩
 have HNB0:=Hd (hxB.cell 3 0 rfl rfl);have HNB1:=Hd (hxB.cell 3 1 rfl rfl);have HNB2:=Hd (hxB.cell 3 2 rfl rfl);have HV:=Hd hv;have H1:=Hd h1;have HFA:=Hd hfa;have HG:=Hd hG;have HBK:=Hd hbk;have HLM:=Hd hLM;have HSB:=Hd hsB;have HVG:=Hd hvg;have HWB:=Hd hwB;have HFB:=Hd (show ∀b,F b→b<sb from hy.fb);have hzN:=zero_refN;have hzC:=zero_refC;have hzM:∀W:World,(zeroValue 221).run Tryz.prog W=.ok (.agg #[.bool false,.slice none 0 0]) W:=fun W=>by kernel_rfl
 show Calls _ _ #[.pointer (some ⟨sb,0,none⟩),.agg #[.int .i64 0,.bool true,.slice a l.length c]] _ _;have hne:l≠[]:=hl0;have hpos:0<l.length:=List.length_pos_iff.2 hl0;have q0:((l.length:Int) == 0)=false:=by simp;omega
 have q0':(l.length == 0)=false:=by simp;exact hl0
 have hfr:freshN (n+1) (.leaf 0 l)=1+(l.map fun c=>needC c.2.data.length).sum:=by unfold freshN;rw[if_neg hl0]
 rw[hfr] at hf hws;have HI0:=Hd (show(([]:List Rc)=(([]:List (List UInt8×Tv)).map fun c=>(⟨c.1,c.2,none⟩:Rc))∧([]:List En)=([]:List (List UInt8×Tv)).map entV∧(layVs l left).1=[]++(layVs (l.drop 0) left).1∧ws++(layVs l left).2.1=ws++(layVs (l.drop 0) left).2.1∧((l.drop 0).map fun c=>needC c.2.data.length).sum+1≤left.length∧(layVs l left).2.2=(layVs (l.drop 0) left).2.2∧ws.length+((l.drop 0).map fun c=>needC c.2.data.length).sum+1≤40000) from⟨rfl,rfl,by simp,by simp,by rw[List.drop_zero];omega,by simp,by rw[List.drop_zero];omega⟩);clear hf hws hfr hne;clear h hG hB hb hbk hv h1 hfa hcn hbB hsB hxB hvg hLM hwB hy;go_enter Tryz.func91,Tryz.ntmps91;go_upto_region 5 with(fail)
 rw[←HWB.out];go_wp2_with fail
 go_loopw [7,8] (fun s7 _ wr=>∃(i:Nat) (vi:Value) (ws2:List Wr) (la2:Option Addr) (lc2:Nat) (left2:List Int) (vC:Value) (LL:List (Cl 4)) (ys:List Rc) (vE:Value) (es:List En) (dn:List (List UInt8×Tv)),i≤l.length∧s7=.int .i64 i∧LL.length=i∧es.length=i∧LM F w wB sb vL vL (w.heap.size+1+1) (w.heap.size+1+1+1) (w.heap.size+1) n true vi ws2 la2 lc2 left2 vC LL ys vE es wr∧dn.length=i∧(ys=(dn.map fun c=>(⟨c.1,c.2,none⟩:Rc))∧es=dn.map entV∧(layVs l left).1=dn++(layVs (l.drop i) left2).1∧ws++(layVs l left).2.1=ws2++(layVs (l.drop i) left2).2.1∧((l.drop i).map fun c=>needC c.2.data.length).sum+1≤left2.length∧(layVs l left).2.2=(layVs (l.drop i) left2).2.2∧ws2.length+((l.drop i).map fun c=>needC c.2.data.length).sum+1≤40000)) (fun s _ _=>l.length-(intOf s).toNat)
 case atStart=>exact⟨0,vL,ws,la,lc,left,_,[],[],_,[],[],Nat.zero_le _,rfl,rfl,rfl,HLM.out,rfl,HI0.out⟩
 case round=>
  clear HLM HI0;obtain⟨i,vi,ws2,la2,lc2,left2,vC,LL,ys,vE,es,dn,hi,rfl,hLL,hes,hm,hdn,hinv⟩:=hrel;obtain⟨aC,cC,rfl,hcC,hcCm,_⟩:=own_slice hm.rc;obtain⟨aE,cE,rfl,hcE,hcEm,_⟩:=own_slice hm.re;unfold maxLen at hcCm hcEm;have hlt2:=hm.lt;have hsB:=HSB.out;have nbr:∀(o:Nat) (u:Value),wB.cell? ⟨w.heap.size,o,none⟩=some u→wr.cell? ⟨w.heap.size,o,none⟩=some u:=fun o u hu=>(hm.ag.cell (b:=w.heap.size) (o:=o) ⟨by omega,by omega,by omega,fun e=>by have:=(HVG.out _ e).2;omega⟩ (by omega)).trans hu
  have nb1:=nbr 1 _ HNB1.out;have nb2:=nbr 2 _ HNB2.out;have iw2:IntKind.i64.wrap ((i:Int)+1)=(i:Int)+1:=by simp[IntKind.wrap,IntKind.signed,IntKind.bits];omega
  by_cases hlt:i<l.length
  ·have H1L:TabR 4 (RcOn G n w) w a l.length c (cellsR (.leaf 0 l)):=H1.out
   obtain⟨b,off,y,pa,pn,pc,ka,kn,kc,rfl,hbb,hyc,_,hrow,_,htk,hfk,k0,k1,k2,k3⟩:=RNodeOn.cell H1L hlt;have hGb:G b:=(HFA.out.resolve_left (by omega)) b off rfl;have hgb:=HG.out b hGb;have hkeep:∀(b' o:Nat),G b'→wr.cell? ⟨b',o,none⟩=w.cell? ⟨b',o,none⟩:=fun b' o hg=>World.cell?_of_block (hm.ol.block (k:=b') (HG.out b' hg).1 (fun hmm=>by
    rcases RS.mem.1 hmm with e|e
    ·exact(HG.out b' hg).2.1 e
    ·exact(HG.out b' hg).2.2 e))
   rw[cellsR_leaf] at hyc;obtain⟨x,hx1,hx2⟩:=Option.map_eq_some_iff.1 hyc;subst hx2;obtain⟨key,tv⟩:=x;dsimp only at *;have hxm:(key,tv)∈l:=List.mem_of_getElem? hx1;have g0:=(hkeep b (off+i*4) hGb).trans k0;have g1:=(hkeep b (off+i*4+1) hGb).trans k1;have g2:=(hkeep b (off+i*4+2) hGb).trans k2;have g3:=(hkeep b (off+i*4+3) hGb).trans k3;have hdr:l.drop i=(key,tv)::l.drop (i+1):=by
    have:=List.getElem?_eq_some_iff.1 hx1;rw[←this.2,List.drop_eq_getElem_cons]
   have q1:decide ((i:Int)<(l.length:Int))=true:=decide_eq_true (by omega);have q2:decide (i<l.length)=true:=decide_eq_true hlt;have hbig:=HBK.out _ hxm;have hpg:tv.pages=[]:=HV.out _ hxm;obtain⟨d,pg⟩:=tv;dsimp only at *;subst hpg;have hpn:pn=0:=hrow.1.symm;subst hpn;have hkn:kn=0:=htk.1.symm;subst hkn;obtain⟨wc,hwc⟩:∃x,x=wr.alloc (.cells #[.string (strOf key),.string (strOf d),.slice pa 0 pc,.slice ka 0 kc] 145):=⟨_,rfl⟩
   have hbc:Below wr.heap.size wr wc:=by rw[hwc];exact Below.al (Below.refl _ _)
   have hsc:wc.heap.size=wr.heap.size+1:=by rw[hwc];simp
   have hxc:Boxes wc [(wr.heap.size,[.string (strOf key),.string (strOf d),.slice pa 0 pc,.slice ka 0 kc])]:=by rw[hwc];exact(Boxes.nil wr).alloc #[.string (strOf key),.string (strOf d),.slice pa 0 pc,.slice ka 0 kc] 145 rfl
   have c1:=hxc.cell 0 1 rfl rfl;have c2:=hxc.cell 0 2 rfl rfl;have nc1:=(hbc.cell (p:=⟨w.heap.size,1,none⟩) (show w.heap.size<wr.heap.size by omega)).trans nb1;have hpa:Row .i64 wc pa 0 pc []:=⟨rfl,hrow.2.1,hrow.2.2.1,hrow.2.2.2.1,.inl rfl⟩
   obtain⟨e1,e2,e3,e4,e5,e6,e7⟩:=hinv;have CV:=lvalue_any (hm.ly.below hbc) (by omega) d (by omega) pa pc hpa (by rw[hdr] at e5;simp only[List.map_cons,List.sum_cons] at e5;omega);have HM:=Hd hm;have HLL:=Hd hLL;have HES:=Hd hes;have HBC:=Hd hbc;have HSC:=Hd hsc;have HXC:=Hd hxc;have HDR:=Hd hdr;have HXM:=Hd hxm;have HWC:=Hd hwc;have HDN:=Hd hdn;have HKC:=Hd htk;have HE:=Hd (And.intro e1 (And.intro e2 (And.intro e3 (And.intro e4 (And.intro e5 (And.intro e6 e7))))));clear hm hLL hes hbc hsc hxc hdr hxm hwc hdn hrow htk hfk hyc hx1 hkeep nbr hpa e1 e2 e3 e4 e5 e6 e7 k0 k1 k2 k3;go_upto_region 9 with(fail)
   rw[←HWC.out];go_wp2_with fail;refine CV.mono ?_;rintro e w5 ⟨pa2,pn2,pc2,v5,la5,lc5,rfl,hy5,ho5,ht5,hrow5,hfa5⟩;have hsc:=HSC.out;have hcbn:wr.heap.size∉RS sb vi:=fun hmm=>by
    rcases RS.mem.1 hmm with e|e
    ·omega
    ·have:=(HM.out.vne e).2.2.2;omega
   have hxc5:=HXC.out.only ho5 (by intro q hq;simp at hq;subst hq;exact hcbn);have hs5:=ho5.size;have hv5:∀k,v5.ownBlock=some k→vi.ownBlock=some k∨wc.heap.size≤k:=fun k hk=>by
    rcases ht5 with t|t
    ·exact .inl (t ▸ hk)
    ·exact .inr (t k hk)
   have hv5c:v5.ownBlock≠some wr.heap.size:=fun e=>by
    rcases hv5 _ e with e|e
    ·exact hcbn (RS.mem.2 (.inr e))
    ·omega
   obtain⟨w6,hw6⟩:∃x,(w5.setCell ⟨wr.heap.size,1,none⟩ (.string (strOf d))).setCell ⟨wr.heap.size,2,none⟩ (.slice pa2 pn2 pc2)=x:=⟨_,rfl⟩
   have k1:=hxc5.cell 0 1 rfl rfl;have k2:=hxc5.cell 0 2 rfl rfl;have t1:=hxc5.frozen 0 1 rfl;have t2:=hxc5.frozen 0 2 rfl;have hx6:Boxes w6 [(wr.heap.size,[.string (strOf key),.string (strOf d),.slice pa2 pn2 pc2,.slice ka 0 kc])]:=by rw[←hw6];exact(hxc5.put 1 (.string (strOf d)) (by intro q hq;simp at hq)).put 2 (.slice pa2 pn2 pc2) (by intro q hq;simp at hq)
   have ho56:Only [wr.heap.size] w5 w6:=by rw[←hw6];exact((Only.refl _ _).set _ _ (by simp)).set _ _ (by simp)
   have hFc:∀b,F b→b∉[wr.heap.size]:=fun b hb hm=>by have:=HFB.out b hb;simp at hm;omega
   have hrow6:=row_fa hrow5 hfa5 ho56 hFc;have hy6:=hy5.only ho56 (fun k hk=>by simp at hk;subst hk;exact⟨by omega,hv5c⟩);have ho6:Only (RS sb vi) wr w6:=((Only.of_below HBC.out).trans ho5).then ho56 (fun k hk=>by simp at hk;subst hk;exact .inr (Nat.le_refl _));have hm6:=HM.out.turn hy6 ho6 (ht5.from (by omega));have hll:=HLL.out;have hes:=HES.out;have hyC:RcOn (LG F wB.heap.size v5 (.slice aC LL.length cC) (.slice aE es.length cE)) n w6 [.string (strOf key),.string (strOf d),.slice pa2 pn2 pc2,.slice ka 0 kc] ⟨key,⟨d,pvL d left2⟩,none⟩:=
    ⟨pa2,pn2,pc2,ka,0,kc,rfl,hrow6,hfa5.mono (fun b hb=>.inl hb),⟨rfl,HKC.out.2.1,HKC.out.2.2.1,HKC.out.2.2.2.1,.inl rfl⟩,.inl rfl⟩
   obtain⟨aN,cN,w7,LL',hrun,f8,f9,hl',hmP,hoP⟩:=hm6.pushC (by omega) (x0:=.string (strOf key)) (x1:=.string (strOf d)) (x2:=.slice pa2 pn2 pc2) (x3:=.slice ka 0 kc) (by intro u hu;simp at hu;rcases hu with rfl|rfl|rfl|rfl<;>rfl) hyC;have o2:=hm6.box.cell 0 2 rfl rfl;have yc0:=hx6.cell 0 0 rfl rfl;have yc1:=hx6.cell 0 1 rfl rfl;have yc2:=hx6.cell 0 2 rfl rfl;have yc3:=hx6.cell 0 3 rfl rfl;obtain⟨wz,hwz⟩:∃x,w7.setCell ⟨w.heap.size+1+1,2,none⟩ (.slice aN (LL.length+1) cN)=x:=⟨_,rfl⟩
   rw[hwz] at hmP hoP;have hoC:∀k,(k=wr.heap.size∨F k)→k∉(w.heap.size+1+1)::(Value.slice aC LL.length cC).ownBlock.toList:=fun k hk hm=>by
    have h9:k=w.heap.size+1+1∨(Value.slice aC LL.length cC).ownBlock=some k:=by
     exact q2b53f5
    rcases hk with rfl|hk
    ·rcases h9 with e|e
     ·omega
     ·have:=(HM.out.lgc e).2;omega
    ·have:=HFB.out k hk
     rcases h9 with e|e
     ·omega
     ·have:=(HM.out.lgc e).1;omega
   have hxz:=hx6.only hoP (by intro q hq;simp at hq;subst hq;exact hoC _ (.inl rfl));have hrowz:=row_fa hrow6 hfa5 hoP (fun b hb=>hoC b (.inr hb));have hzl:=hmP.lt;have hbz:wr.heap.size<wz.heap.size:=by have:=hxz.lt 0 rfl;exact this
   have hge2:(Value.slice aE es.length cE).ownBlock≠some wr.heap.size:=fun e=>by have:=(HM.out.lge e).2;omega
   have hge3:(Value.slice aE es.length cE).ownBlock≠some w.heap.size:=fun e=>by have:=(HM.out.lge e).1;omega
   have hXA:∀(k:Nat) (u:Value),wz.cell? ⟨wr.heap.size,k,none⟩=some u→∀W,AgreeF (fun x=>(Value.slice aE es.length cE).ownBlock≠some x∧x≠w.heap.size+1+1+1) wz W→W.cell? ⟨wr.heap.size,k,none⟩=some u:=fun k u h W hW=>(hW.cell (b:=wr.heap.size) (o:=k) ⟨hge2,by show wr.heap.size≠_;omega⟩ hbz).trans h
   have x0:=hXA 0 _ (hxz.cell 0 0 rfl rfl);have x1:=hXA 1 _ (hxz.cell 0 1 rfl rfl);have x2:=hXA 2 _ (hxz.cell 0 2 rfl rfl);have x3:=hXA 3 _ (hxz.cell 0 3 rfl rfl);have nbz:wz.cell? ⟨w.heap.size,1,none⟩=some (.bool true):=(hmP.ag.cell (b:=w.heap.size) (o:=1) ⟨by omega,by omega,by omega,fun e=>by have:=(HVG.out _ e).2;omega⟩ (by omega)).trans HNB1.out;have xn:∀W,AgreeF (fun x=>(Value.slice aE es.length cE).ownBlock≠some x∧x≠w.heap.size+1+1+1) wz W→W.cell? ⟨w.heap.size,1,none⟩=some (.bool true):=fun W hW=>(hW.cell (b:=w.heap.size) (o:=1) ⟨hge3,by show w.heap.size≠_;omega⟩ (by omega)).trans nbz
   have o4:=hmP.box.cell 1 1 rfl rfl;have hA00:AgreeF (fun x=>(Value.slice aE es.length cE).ownBlock≠some x∧x≠w.heap.size+1+1+1) wz wz.drew:=AgreeF.refl _;have hb0:Below wz.heap.size wz wz.drew:=below_drewN (Below.refl _ _) 1;have CW:=rcell_val wz.drew key d pa2 pn2 pc2 (pvL d left2) (hrowz.below (Nat.le_refl _) hb0) ka 0 kc;obtain⟨ee,hee⟩:∃x,entV (key,⟨d,pvL d left2⟩)=x:=⟨_,rfl⟩
   rw[hee] at CW;obtain⟨ek,evd,evf,evs,evp⟩:=ee;have CW:Calls Tryz.prog 133 #[.bool true,.agg #[.string (strOf key),.string (strOf d),.slice pa2 pn2 pc2,.slice ka 0 kc]] wz.drew fun e w'=>e=.returned (.agg #[.string (strOf ek),.string (strOf evd),.bool evf,.int .i64 evs,.int .i64 evp])∧Below wz.drew.heap.size wz.drew w':=CW
   have PC:∀w2,Below wz.drew.heap.size wz.drew w2→∃a9 c9 w9,(Builtin.append_ #[219,219] 219 #[.slice aE es.length cE,.slice (some ⟨w2.heap.size,0,none⟩) 1 1]).run Tryz.prog (w2.alloc (.cells #[.string (strOf ek),.string (strOf evd),.bool evf,.int .i64 evs,.int .i64 evp] 226))=.ok (.slice a9 (es.length+1) c9) w9∧w9.cell? ⟨w.heap.size+1+1+1,1,none⟩=some (.slice aE es.length cE)∧w9.frozen? ⟨w.heap.size+1+1+1,1,none⟩=false∧w2.cell? ⟨w.heap.size+1+1+1,1,none⟩=some (.slice aE es.length cE)∧w.heap.size+1+1+1<w2.heap.size ∧
    AgreeF (fun x=>(Value.slice aE es.length cE).ownBlock≠some x∧x≠w.heap.size+1+1+1) wz w2∧AgreeF (fun x=>(Value.slice aE es.length cE).ownBlock≠some x∧x≠w.heap.size+1+1+1) wz w9∧AgreeF (fun x=>(Value.slice aE es.length cE).ownBlock≠some x∧x≠w.heap.size+1+1+1) wz (w9.setCell ⟨w.heap.size+1+1+1,1,none⟩ (.slice a9 (es.length+1) c9))∧Hid (LM F w wB sb vL vL (w.heap.size+1+1) (w.heap.size+1+1+1) (w.heap.size+1) n true v5 (ws2++wvL d left2) la5 lc5 (left2.drop (needC d.length)) (.slice aN (LL.length+1) cN) LL' (ys++[⟨key,⟨d,pvL d left2⟩,none⟩]) (.slice a9 (es.length+1) c9) (es++[entV (key,⟨d,pvL d left2⟩)]) (w9.setCell ⟨w.heap.size+1+1+1,1,none⟩ (.slice a9 (es.length+1) c9))):=fun w2 hb2=>by
    have hm2:=(hmP.below hb0).below hb2;obtain⟨a9,c9,w9,hr2,g8,g9,gA,gB,hmQ⟩:=hm2.pushE (by omega) (entV (key,⟨d,pvL d left2⟩));rw[hee] at hr2;exact qb5d386
   have HL':=Hd hl';have hnx:(ys++[⟨key,⟨d,pvL d left2⟩,none⟩]=((dn++[(key,(⟨d,pvL d left2⟩:Tv))]).map fun c=>(⟨c.1,c.2,none⟩:Rc))∧es++[entV (key,⟨d,pvL d left2⟩)]=(dn++[(key,(⟨d,pvL d left2⟩:Tv))]).map entV∧(layVs l left).1=(dn++[(key,(⟨d,pvL d left2⟩:Tv))])++(layVs (l.drop (i+1)) (left2.drop (needC d.length))).1∧ws++(layVs l left).2.1=(ws2++wvL d left2)++(layVs (l.drop (i+1)) (left2.drop (needC d.length))).2.1∧((l.drop (i+1)).map fun c=>needC c.2.data.length).sum+1≤(left2.drop (needC d.length)).length∧(layVs l left).2.2=(layVs (l.drop (i+1)) (left2.drop (needC d.length))).2.2∧(ws2++wvL d left2).length+((l.drop (i+1)).map fun c=>needC c.2.data.length).sum+1≤40000):=by
    obtain⟨e1,e2,e3,e4,e5,e6,e7⟩:=HE.out;rw[HDR.out,layVs_step rfl] at e3 e4 e6;rw[HDR.out] at e5 e7;simp only[List.map_cons,List.sum_cons] at e5 e7;have hwl:(wvL d left2).length≤needC d.length:=by
     unfold wvL
     split
     ·simp
     ·simp only[List.length_zip,List.length_take];omega
    refine⟨by rw[e1,List.map_append];rfl,by rw[e2,List.map_append];rfl,by rw[e3];simp,by rw[e4];simp,by rw[List.length_drop];omega,e6,by rw[List.length_append];omega⟩
   have HNX:=Hd hnx;clear hnx;clear hm6 hyC ho6 hy6 hx6 hxc5 ho5 hy5 ht5 hv5 hv5c hrow5 hrow6 hfa5 hFc ho56 hoC hxz hrowz hmP hoP hl' hXA hee hsc hll hes hcbn nbz;go_upto_region 13 with(at_builtin;refine wpList_append_run rfl _ _ _ _ rfl rfl rfl hrun ?_)
   clear hrun f8 f9 hw6 hwz k1 k2 t1 t2 yc0 yc1 yc2 yc3 o2;refine wp_region_noPanic ?_;refine wp_region_held_drew (S:=(fun W=>AgreeF (fun x=>(Value.slice aE es.length cE).ownBlock≠some x∧x≠w.heap.size+1+1+1) wz W)) (by kernel_rfl) (by(repeat (with_reducible first|assumption|exact AgreeF.refl _|apply AgreeF.al|apply AgreeF.dr))) (fun hHeld=>?_);refine tks [0,2] ?_;refine tks [3,4] ?_;refine rdy2 1 5 (fun K hK=>?_) (fun K hK=>?_)
   ·(rw[if_pos (by rfl)];go_wp2_with (fail))
    refine bkA hK (fun hHeld=>?_);clear hK K;refine rdy 5 (fun K hK=>?_)
    (rw[if_pos (by rfl)];go_simp;(with_reducible refine CW.mono ?_);rintro e w2 ⟨rfl,hb2⟩;obtain⟨a9,c9,w9,hrun2,f8,f9,f7,hlt9,hA1,hA3,hA4,HQ⟩:=PC _ hb2;clear CW PC hb2;dsimp only)
    refine bkA hK (fun hHeld=>?_);clear hK K;refine rdy 6 (fun K hK=>?_)
    (rw[if_pos (by rfl)];go_wp2_with (fail))
    exact qa5d300
   ·(rw[if_pos (by rfl)];go_simp;(with_reducible refine CW.mono ?_);rintro e w2 ⟨rfl,hb2⟩;obtain⟨a9,c9,w9,hrun2,f8,f9,f7,hlt9,hA1,hA3,hA4,HQ⟩:=PC _ hb2;clear CW PC hb2;dsimp only)
    refine bkA hK (fun hHeld=>?_);clear hK K;refine rdy2 1 6 (fun K hK=>?_) (fun K hK=>?_)
    ·(rw[if_pos (by rfl)];go_wp2_with (fail))
     refine bkA hK (fun hHeld=>?_);clear hK K;refine rdy 6 (fun K hK=>?_)
     (rw[if_pos (by rfl)];go_wp2_with (fail))
     exact qa5d300
    ·(rw[if_pos (by rfl)];go_wp2_with (fail))
     refine bkA hK (fun hHeld=>?_);clear hK K;refine rdy 1 (fun K hK=>?_)
     (rw[if_pos (by rfl)];go_wp2_with (fail))
     exact qa5d300
  ·have hin:i=l.length:=by omega
   have q1:decide ((i:Int)<(l.length:Int))=false:=decide_eq_false (by omega);have q2:decide (i<l.length)=false:=decide_eq_false hlt;have hdr:l.drop i=[]:=List.drop_of_length_le (by omega);rw[hdr] at hinv;obtain⟨e1,e2,e3,e4,e5,e6,e7⟩:=hinv;have hlen1:1≤left2.length:=by simp at e5;omega
   have hdn2:(layVs l left).1=dn:=by rw[e3];simp[layVs]
   have hsmE:SmE es:=fun e he=>by
    rw[e2] at he;obtain⟨c9,hc9,rfl⟩:=List.mem_map.1 he;rw[←hdn2] at hc9;obtain⟨c8,h8,h9,h10⟩:=layVs_mem c9 hc9;have:=HBK.out c8 h8;have:=entV_small (c:=c9) (by rw[h9];exact this.1) (by rw[h10];exact this.2);omega
   have hinv:=And.intro e1 (And.intro e2 (And.intro hdn2 (And.intro e4 (And.intro e6 e7))));clear e1 e2 e3 e4 e5 e6 e7 hdn2;obtain⟨bA,offA,hlaA,hbA,hcA⟩:=hm.ly.row.2.2.2.2.resolve_left (by omega);subst hlaA;obtain⟨P,hP⟩:∃x,left2.headD 0=x:=⟨_,rfl⟩
   have hbAF:F bA:=hm.ly.lf _ rfl;have hbAs:=HFB.out bA hbAF;have p0:wr.cell? ⟨bA,offA,none⟩=some (.int .i64 P):=by
    have:=hcA 0 hlen1;rw[←hP,List.headD_eq_head?_getD,List.head?_eq_getElem?];simpa using this
   have hlcm:lc2≤9223372036854775807:=by have:=hm.ly.row.2.2.1;unfold maxLen at this;omega
   have hlc1:1≤lc2:=by have:=hm.ly.row.2.1;omega
   have S1:=lsome_any hm.ly 1 hlen1;have HP:=Hd hP;have HM:=Hd hm;have HES:=Hd hes;have HIN:=Hd hin;have HINV:=Hd hinv;have HLL:=Hd hLL;have HSM:=Hd hsmE;have HL1:=Hd hlen1;clear hm hes hin hinv hdr hdn hLL hsmE hlen1 hcA hP nbr;go_wp2_with fail;refine S1.mono ?_;rintro e w2 ⟨rfl,la3,hy2,ho2⟩;have hs2:=ho2.size;have ho2R:Only (RS sb vi) wr w2:=ho2.mono (fun k hk=>by simp at hk;exact RS.mem.2 (.inl hk));have hm2:=HM.out.turn hy2 ho2R (Turn.refl _ _);have p2:w2.cell? ⟨bA,offA,none⟩=some (.int .i64 P):=(World.cell?_of_block (ho2.block (k:=bA) hbA (by simp;omega))).trans p0;have b0:=hm2.box.cell 0 0 rfl rfl;have u0:=hm2.box.frozen 0 0 rfl;obtain⟨w3,hw3⟩:∃x,w2.setCell ⟨w.heap.size+1+1,0,none⟩ (.int .i64 P)=x:=⟨_,rfl⟩
   have ho3:Only [w.heap.size+1+1] w2 w3:=by rw[←hw3];exact(Only.refl _ _).set _ _ (by simp)
   have hx3:Boxes w3 [(w.heap.size+1+1,[.int .i64 P,.bool true,.slice aC LL.length cC]),(w.heap.size+1+1+1,[.bool true,.slice aE es.length cE]),(w.heap.size+1,[.int .i64 0,.bool false,.slice none 0 0])]:=by rw[←hw3];exact hm2.box.put 0 _ (by intro q hq;simp at hq;rcases hq with rfl|rfl<;>simp)
   have hm0:=hx3.cell 1 0 rfl rfl;have hm1:=hx3.cell 1 1 rfl rfl;have hvo:=fun e=>(hm2.vne (g:=w.heap.size+1+1) e).1 rfl
   have hy3:LyIn F w3 sb vi ws2 la3 (lc2-1) (left2.drop 1):=hm2.ly.only ho3 (fun k hk=>by simp at hk;subst hk;exact⟨by omega,hvo⟩);have hre3:w3.ownsRow wB.heap.size 226 5 (.slice aE es.length cE) es.length (es.flatMap ecells):=own_only hm2.re ho3 (fun k hk hm9=>by have:=(hm2.lge hk).1;simp at hm9;omega);obtain⟨aE',cE',eE,hents⟩:=OwnRe.ents (show OwnRe w3 wB.heap.size (.slice aE es.length cE) es from hre3);cases eE;have CP:=rnput_any true aE es.length cE es w3 hents (by have:=HES.out;omega) HSM.out;obtain⟨PB,hPB⟩:∃x,putN true es=x:=⟨_,rfl⟩
   obtain⟨PE,hPE⟩:∃x,putNE true es=x:=⟨_,rfl⟩
   rw[hPB,hPE] at CP;have HPB:=Hd hPB;have HY3:=Hd hy3;have HX3:=Hd hx3;have HO3:=Hd ho3;have HO2:=Hd ho2;have q5:decide ((0:Int)<(1:Int))=true:=by decide
   clear hm2 hy2 ho2R ho2 ho3 hx3 hy3 hre3 hents hPB hPE hvo p0 S1;go_wp2_with fail;refine CP.mono ?_;rintro e w4 ⟨rfl,hb4⟩;have hx4:=HX3.out.step hb4;have o40:=hx4.cell 0 0 rfl rfl;have CWr:=lwrite_any (HY3.out.below hb4) (by have:=HINV.out;omega) P PB;have HX4:=Hd hx4;have HB4:=Hd hb4;have hs4:=hb4.size;clear hx4 hb4 CP p2 b0 u0 hm0 hm1 hw3;go_wp2_with fail;refine CWr.mono ?_;rintro e w5 ⟨rfl,v6,hy6,ho6,ht6⟩;have hs3:=HO3.out.size;have hs1:=HM.out.lt;have hviN:=fun g e=>HM.out.vne (g:=g) e
   have hx5:=HX4.out.only ho6 (by
    exact q7dd336)
   have n0:=hx5.cell 0 0 rfl rfl;have n1:=hx5.cell 0 1 rfl rfl;have n2:=hx5.cell 0 2 rfl rfl;have m0:=hx5.cell 2 0 rfl rfl;have m1:=hx5.cell 2 1 rfl rfl;have m2:=hx5.cell 2 2 rfl rfl;have u0:=hx5.frozen 2 0 rfl;have u1:=hx5.frozen 2 1 rfl;have u2:=hx5.frozen 2 2 rfl;have hxr:Boxes w5 [(w.heap.size+1,[.int .i64 0,.bool false,.slice none 0 0])]:=hx5.sub (by intro q hq;simp at hq ⊢;subst hq;exact .inr (.inr rfl));obtain⟨we,hwe⟩:∃x,x=st3 w5 (w.heap.size+1) (.int .i64 P) (.bool true) (.slice aC LL.length cC):=⟨_,rfl⟩
   have hxe:=st3_box hxr (.int .i64 P) (.bool true) (.slice aC LL.length cC);rw[←hwe] at hxe;have z0:=hxe.cell 0 0 rfl rfl;have z1:=hxe.cell 0 1 rfl rfl;have z2:=hxe.cell 0 2 rfl rfl;have hv6:∀k,v6.ownBlock=some k→(vi.ownBlock=some k∨w4.heap.size≤k):=fun k hk=>by
    rcases ht6 with t|t
    ·exact .inl (t ▸ hk)
    ·exact .inr (t k hk)
   have HE:Hid (LayPost F w sb vL ws (n+1) (layT (n+1) (.leaf 0 l) left) (.returned (.agg #[.int .i64 P,.bool true,.slice aC LL.length cC])) we):=Hd (by
    have hoe:Only [w.heap.size+1] w5 we:=by rw[hwe];exact st3_only _ _ _ _ _
    have hye:=hy6.only hoe (fun k hk=>by
     simp at hk;subst hk;refine⟨by omega,fun e=>?_⟩
     rcases hv6 _ e with e|e
     ·exact(hviN _ e).2.2.1 rfl
     ·omega)
    have hoW:Only (RS sb vL) w w4:=((HM.out.ol.trans (HO2.out.mono (fun k hk=>by simp at hk;exact RS.mem.2 (.inl hk)))).then HO3.out (fun k hk=>by simp at hk;subst hk;exact .inr (by omega))).trans (Only.of_below HB4.out);have htW:Turn w vL vi:=HM.out.tu;have hoF:Only (RS sb vL) w we:=(only_next hoW htW ho6).then hoe (fun k hk=>by simp at hk;subst hk;exact .inr (by omega));have hag:AgreeF (fun b=>F b∨(wB.heap.size≤b∧vi.ownBlock≠some b)) wr we:=by
     exact qbf305f
    obtain⟨e1,e2,e3,e4,e6,e7⟩:=HINV.out;have hws:ws++(layVs l left).2.1=ws2:=by rw[e4];simp[layVs]
    have hlf:(layVs l left).2.2=left2:=by rw[e6];simp[layVs]
    have hR:layT (n+1) (.leaf 0 l) left=(.leaf P dn,(layVs l left).2.1++[(P,PB)],left2.drop 1):=by
     rw[layT,if_neg hl0,e3,hlf,HP.out,←e2,HPB.out]
    rw[hR];subst e1;have hN:=LM.node (t:=.leaf P dn) (G:=fun b=>F b∨(w.heap.size≤b∧v6.ownBlock≠some b)) HM.out hag (fun b hb hlt9=>by
     rcases hb with hb|hb
     ·exact .inl hb
     ·refine .inr ⟨by have:=HSB.out;omega,fun e=>?_⟩
      rcases hv6 b e with e|e
      ·exact hb.2 e
      ·omega)
    refine⟨P,true,aC,LL.length,cC,v6,la3,lc2-1,rfl,?_,hoF,htW.trans ht6 (by omega),hN⟩;rw[←List.append_assoc,hws];exact hye)
   clear hx5 hxr hxe hy6 ho6 ht6 hviN hv6;go_wp2_with fail;change bodyPost Tryz.prog _ _ _ _ (st3 w5 (w.heap.size+1) (.int .i64 P) (.bool true) (.slice aC LL.length cC));rw[←hwe];refine bodyPost_ret (v:=.agg #[.int .i64 P,.bool true,.slice aC LL.length cC]) (by simp[results,Tryz.results91,go_sem,z0,z1,z2]) rfl ?_;exact HE.out
theorem lay_node {n:Nat} {F G:Nat→Prop} {sb:Nat} (IH:∀{w:World} {vL:Value} {ws:List Wr} {la:Option Addr} {lc:Nat} {left:List Int} {cs:List Value} {t:Tr},LyIn F w sb vL ws la lc left→RNodeOn G n w cs t→(∀b,G b→b<w.heap.size∧b≠sb∧vL.ownBlock≠some b)→Bare t→Bnd n t→freshN n t≤left.length→ws.length+freshN n t≤40000→Calls Tryz.prog 91 #[.pointer (some ⟨sb,0,none⟩),.agg cs.toArray] w (LayPost F w sb vL ws n (layT n t left))) {w:World} {vL:Value} {ws:List Wr} {la:Option Addr} {lc:Nat} {left:List Int} {cs:List Value} {l:List (List UInt8×Tr)} (hy:LyIn F w sb vL ws la lc left) (h:RNodeOn G (n+1) w cs (.node 0 l)) (hG:∀b,G b→b<w.heap.size∧b≠sb∧vL.ownBlock≠some b) (hB:Bare (.node 0 l)) (hb:Bnd (n+1) (.node 0 l)) (hf:freshN (n+1) (.node 0 l)≤left.length) (hws:ws.length+freshN (n+1) (.node 0 l)≤40000) :
 Calls Tryz.prog 91 #[.pointer (some ⟨sb,0,none⟩),.agg cs.toArray] w (LayPost F w sb vL ws (n+1) (layT (n+1) (.node 0 l) left)):=by
 obtain⟨_,hv⟩:=bare_kids hB;obtain⟨a,c,rfl,h1,hfa⟩:=h.at;have hbl:l.length≤1000:=hb.1;have hbk:=hb.2;have hcn:cntT (.node 0 l)=l.length:=rfl;rw[hcn] at h1 hfa;obtain⟨wB,hwB⟩:∃x,x=(((w.alloc (.cells #[.int .i64 0,.bool false,.slice a l.length c] 27)).alloc (.cells #[.int .i64 0,.bool false,.slice none 0 0] 27)).alloc (.cells #[.int .i64 0,.bool false,.slice none 0 0] 27)).alloc (.cells #[.bool false,.slice none 0 0] 221):=⟨_,rfl⟩
 have hbB:Below w.heap.size w wB:=by rw[hwB];exact Below.al (Below.al (Below.al (Below.al (Below.refl _ _))))
 have hsB:wB.heap.size=w.heap.size+4:=by rw[hwB];simp
 have hxB:Boxes wB [(w.heap.size+1+1+1,[.bool false,.slice none 0 0]),(w.heap.size+1+1,[.int .i64 0,.bool false,.slice none 0 0]),(w.heap.size+1,[.int .i64 0,.bool false,.slice none 0 0]),(w.heap.size,[.int .i64 0,.bool false,.slice a l.length c])]:=by
  rw[hwB];exact((((Boxes.nil w).alloc #[.int .i64 0,.bool false,.slice a l.length c] 27 (b:=w.heap.size) rfl).alloc #[.int .i64 0,.bool false,.slice none 0 0] 27 (b:=w.heap.size+1) (by simp)).alloc #[.int .i64 0,.bool false,.slice none 0 0] 27 (b:=w.heap.size+1+1) (by simp)).alloc #[.bool false,.slice none 0 0] 221 (b:=w.heap.size+1+1+1) (by simp)
 have hsb:=hy.lt;have hvg:∀g,vL.ownBlock=some g→sb+1≤g∧g<w.heap.size:=fun g hg=>hy.ge hg
 have hLM:LM F w wB sb vL vL (w.heap.size+1+1) (w.heap.size+1+1+1) (w.heap.size+1) n false vL ws la lc left (.slice none 0 0) [] [] (.slice none 0 0) [] wB:=
  ⟨hxB.sub (by intro q hq;simp at hq ⊢;rcases hq with rfl|rfl|rfl<;>simp),hy.below hbB,own_nil wB _ 4 _,own_nil wB _ 5 _,fun g hg=>(by cases hg),fun g hg=>(by cases hg),fun g hg=>(by cases hg),Tells.nil,Only.of_below hbB,Turn.refl _ _,Turn.refl _ _,AgreeF.refl _,fun g hg=>by have:=(hvg g hg).2;omega,hsb,by omega,by omega,by omega,by omega⟩
 have HNB0:=Hd (hxB.cell 3 0 rfl rfl);have HNB1:=Hd (hxB.cell 3 1 rfl rfl);have HNB2:=Hd (hxB.cell 3 2 rfl rfl);have HV:=Hd hv;have H1:=Hd h1;have HFA:=Hd hfa;have HG:=Hd hG;have HBK:=Hd hbk;have HLM:=Hd hLM;have HSB:=Hd hsB;have HVG:=Hd hvg;have HWB:=Hd hwB;have HFB:=Hd (show ∀b,F b→b<sb from hy.fb);have hzN:=zero_refN;have hzC:=zero_refC;have hzM:∀W:World,(zeroValue 221).run Tryz.prog W=.ok (.agg #[.bool false,.slice none 0 0]) W:=fun W=>by kernel_rfl
 show Calls _ _ #[.pointer (some ⟨sb,0,none⟩),.agg #[.int .i64 0,.bool false,.slice a l.length c]] _ _;have hfr:freshN (n+1) (.node 0 l)=1+(l.map fun c=>freshN n c.2).sum:=by rw[freshN]
 rw[hfr] at hf hws;have HI0:=Hd (show(([]:List Rc)=(([]:List (List UInt8×Tr)).map fun c=>(⟨c.1,⟨[],[]⟩,some c.2⟩:Rc))∧([]:List En)=([]:List (List UInt8×Tr)).map entK∧(layKs (layT n) l left).1=[]++(layKs (layT n) (l.drop 0) left).1∧ws++(layKs (layT n) l left).2.1=ws++(layKs (layT n) (l.drop 0) left).2.1∧((l.drop 0).map fun c=>freshN n c.2).sum+1≤left.length∧(layKs (layT n) l left).2.2=(layKs (layT n) (l.drop 0) left).2.2∧ws.length+((l.drop 0).map fun c=>freshN n c.2).sum+1≤40000) from⟨rfl,rfl,by simp,by simp,by rw[List.drop_zero];omega,by simp,by rw[List.drop_zero];omega⟩);clear hf hws hfr;clear h hG hB hb hbk hv h1 hfa hcn hbB hsB hxB hvg hLM hwB hy;go_enter Tryz.func91,Tryz.ntmps91;go_upto_region 5 with(fail)
 rw[←HWB.out];go_wp2_with fail
 go_loopw [7,8] (fun s7 _ wr=>∃(i:Nat) (vi:Value) (ws2:List Wr) (la2:Option Addr) (lc2:Nat) (left2:List Int) (vC:Value) (LL:List (Cl 4)) (ys:List Rc) (vE:Value) (es:List En) (dn:List (List UInt8×Tr)),i≤l.length∧s7=.int .i64 i∧LL.length=i∧es.length=i∧LM F w wB sb vL vL (w.heap.size+1+1) (w.heap.size+1+1+1) (w.heap.size+1) n false vi ws2 la2 lc2 left2 vC LL ys vE es wr∧dn.length=i∧(ys=(dn.map fun c=>(⟨c.1,⟨[],[]⟩,some c.2⟩:Rc))∧es=dn.map entK∧(layKs (layT n) l left).1=dn++(layKs (layT n) (l.drop i) left2).1∧ws++(layKs (layT n) l left).2.1=ws2++(layKs (layT n) (l.drop i) left2).2.1∧((l.drop i).map fun c=>freshN n c.2).sum+1≤left2.length∧(layKs (layT n) l left).2.2=(layKs (layT n) (l.drop i) left2).2.2∧ws2.length+((l.drop i).map fun c=>freshN n c.2).sum+1≤40000)) (fun s _ _=>l.length-(intOf s).toNat)
 case atStart=>exact⟨0,vL,ws,la,lc,left,_,[],[],_,[],[],Nat.zero_le _,rfl,rfl,rfl,HLM.out,rfl,HI0.out⟩
 case round=>
  clear HLM HI0;obtain⟨i,vi,ws2,la2,lc2,left2,vC,LL,ys,vE,es,dn,hi,rfl,hLL,hes,hm,hdn,hinv⟩:=hrel;obtain⟨aC,cC,rfl,hcC,hcCm,_⟩:=own_slice hm.rc;obtain⟨aE,cE,rfl,hcE,hcEm,_⟩:=own_slice hm.re;unfold maxLen at hcCm hcEm;have hlt2:=hm.lt;have hsB:=HSB.out;have nbr:∀(o:Nat) (u:Value),wB.cell? ⟨w.heap.size,o,none⟩=some u→wr.cell? ⟨w.heap.size,o,none⟩=some u:=fun o u hu=>(hm.ag.cell (b:=w.heap.size) (o:=o) ⟨by omega,by omega,by omega,fun e=>by have:=(HVG.out _ e).2;omega⟩ (by omega)).trans hu
  have nb1:=nbr 1 _ HNB1.out;have nb2:=nbr 2 _ HNB2.out;have iw2:IntKind.i64.wrap ((i:Int)+1)=(i:Int)+1:=by simp[IntKind.wrap,IntKind.signed,IntKind.bits];omega
  by_cases hlt:i<l.length
  ·have H1L:TabR 4 (RcOn G n w) w a l.length c (cellsR (.node 0 l)):=H1.out
   obtain⟨b,off,y,pa,pn,pc,ka,kn,kc,rfl,hbb,hyc,_,hrow,_,htk,hfk,k0,k1,k2,k3⟩:=RNodeOn.cell H1L hlt;have hGb:G b:=(HFA.out.resolve_left (by omega)) b off rfl;have hgb:=HG.out b hGb;have hkeep:∀(b' o:Nat),G b'→wr.cell? ⟨b',o,none⟩=w.cell? ⟨b',o,none⟩:=fun b' o hg=>World.cell?_of_block (hm.ol.block (k:=b') (HG.out b' hg).1 (fun hmm=>by
    rcases RS.mem.1 hmm with e|e
    ·exact(HG.out b' hg).2.1 e
    ·exact(HG.out b' hg).2.2 e))
   rw[cellsR_node] at hyc;obtain⟨x,hx1,hx2⟩:=Option.map_eq_some_iff.1 hyc;subst hx2;obtain⟨key,tv⟩:=x;dsimp only at *;have hxm:(key,tv)∈l:=List.mem_of_getElem? hx1;have g0:=(hkeep b (off+i*4) hGb).trans k0;have g1:=(hkeep b (off+i*4+1) hGb).trans k1;have g2:=(hkeep b (off+i*4+2) hGb).trans k2;have g3:=(hkeep b (off+i*4+3) hGb).trans k3;have hdr:l.drop i=(key,tv)::l.drop (i+1):=by
    have:=List.getElem?_eq_some_iff.1 hx1;rw[←this.2,List.drop_eq_getElem_cons]
   have q1:decide ((i:Int)<(l.length:Int))=true:=decide_eq_true (by omega);have q2:decide (i<l.length)=true:=decide_eq_true hlt;have hbig:=HBK.out _ hxm;have hpn:pn=0:=hrow.1.symm;subst hpn;have hkb:Bare tv:=HV.out _ hxm;obtain⟨b2,off2,y2,cs2,rfl,hb2,hy2,hl2,hon2,hcs2⟩:=TabR.at htk (k:=0) (by have h9:([tv]:List Tr).length=kn:=htk.1;simp at h9;omega);have hy3:y2=tv:=by simpa using hy2.symm
   subst hy3;obtain⟨ka',kn',kc',e9⟩:=RNodeOn.open_pos hon2;subst e9;have hkn:0<kn:=by have h9:([y2]:List Tr).length=kn:=htk.1;simp at h9;omega
   have hGk:G b2:=(hfk.resolve_left (by omega)) b2 off2 rfl;have r0:=(hkeep b2 (off2+0*3+0) hGk).trans (hcs2 0 _ rfl);have r1:=(hkeep b2 (off2+0*3+1) hGk).trans (hcs2 1 _ rfl);have r2:=(hkeep b2 (off2+0*3+2) hGk).trans (hcs2 2 _ rfl);simp only[Nat.zero_mul,Nat.add_zero] at r0 r1 r2;have hb2r:b2<wr.heap.size:=Nat.lt_of_lt_of_le (HG.out b2 hGk).1 hm.ol.size;have hkon:RNodeOn G n wr [.int .i64 y2.page,.bool y2.isLeaf,.slice ka' kn' kc'] y2:=hon2.agree ⟨hm.ol.size,fun b' hb' hlt9=>hm.ol.block hlt9 (fun hmm=>by
    rcases RS.mem.1 hmm with e|e
    ·exact(HG.out b' hb').2.1 e
    ·exact(HG.out b' hb').2.2 e)⟩
   have q5:decide ((0:Int)<(kn:Int))=true:=decide_eq_true (by omega);have q6:decide (0<kn)=true:=decide_eq_true hkn;obtain⟨wc,hwc⟩:∃x,x=wr.alloc (.cells #[.string (strOf key),.string (strOf []),.slice pa 0 pc,.slice (some ⟨b2,off2,none⟩) kn kc] 145):=⟨_,rfl⟩
   have hbc:Below wr.heap.size wr wc:=by rw[hwc];exact Below.al (Below.refl _ _)
   have hsc:wc.heap.size=wr.heap.size+1:=by rw[hwc];simp
   have hxc:Boxes wc [(wr.heap.size,[.string (strOf key),.string (strOf []),.slice pa 0 pc,.slice (some ⟨b2,off2,none⟩) kn kc])]:=by rw[hwc];exact(Boxes.nil wr).alloc #[.string (strOf key),.string (strOf []),.slice pa 0 pc,.slice (some ⟨b2,off2,none⟩) kn kc] 145 rfl
   have c3:=hxc.cell 0 3 rfl rfl;have nc1:=(hbc.cell (p:=⟨w.heap.size,1,none⟩) (show w.heap.size<wr.heap.size by omega)).trans nb1;obtain⟨e1,e2,e3,e4,e5,e6,e7⟩:=hinv;have hGw:∀b,G b→b<wc.heap.size∧b≠sb∧vi.ownBlock≠some b:=fun b hb=>by
    have h9:=HG.out b hb;have h8:=hm.ol.size;refine⟨by omega,h9.2.1,fun e=>?_⟩
    rcases hm.tu with t|t
    ·exact h9.2.2 (t ▸ e)
    ·have:=t b e;omega
   have CV:=IH (hm.ly.below hbc) (hkon.agree (AgreeF.of_below hbc)) hGw hkb hbig.2 (by rw[hdr] at e5;simp only[List.map_cons,List.sum_cons] at e5;omega) (by rw[hdr] at e7;simp only[List.map_cons,List.sum_cons] at e7;omega);have s0:=(hbc.cell (p:=⟨b2,off2,none⟩) hb2r).trans r0;have s1:=(hbc.cell (p:=⟨b2,off2+1,none⟩) hb2r).trans r1;have s2:=(hbc.cell (p:=⟨b2,off2+2,none⟩) hb2r).trans r2;obtain⟨yp,hyp⟩:∃x,y2.page=x:=⟨_,rfl⟩
   obtain⟨yl,hyl⟩:∃x,y2.isLeaf=x:=⟨_,rfl⟩
   rw[hyp] at s0 CV;rw[hyl] at s1 CV;obtain⟨RR,hRR⟩:∃x,layT n y2 left2=x:=⟨_,rfl⟩
   rw[hRR] at CV;have HRR:=Hd hRR;clear hGw hkon hyp hyl hRR r0 r1 r2;have HM:=Hd hm;have HLL:=Hd hLL;have HES:=Hd hes;have HBC:=Hd hbc;have HSC:=Hd hsc;have HXC:=Hd hxc;have HDR:=Hd hdr;have HXM:=Hd hxm;have HWC:=Hd hwc;have HDN:=Hd hdn;have HRW:=Hd hrow;have HE:=Hd (And.intro e1 (And.intro e2 (And.intro e3 (And.intro e4 (And.intro e5 (And.intro e6 e7))))));clear hm hLL hes hbc hsc hxc hdr hxm hwc hdn hrow htk hfk hyc hx1 hkeep nbr hkb hon2 hcs2 hy2 e1 e2 e3 e4 e5 e6 e7 k0 k1 k2 k3;go_upto_region 9 with(fail)
   rw[←HWC.out];go_wp2_with fail;refine CV.mono ?_;rintro e w5 ⟨kp,klf,xa,xn,xc,v5,la5,lc5,rfl,hy5,ho5,ht5,hkid5⟩;have hsc:=HSC.out;have hcbn:wr.heap.size∉RS sb vi:=fun hmm=>by
    rcases RS.mem.1 hmm with e|e
    ·omega
    ·have:=(HM.out.vne e).2.2.2;omega
   have hxc5:=HXC.out.only ho5 (by intro q hq;simp at hq;subst hq;exact hcbn);have hs5:=ho5.size;have hv5:∀k,v5.ownBlock=some k→vi.ownBlock=some k∨wc.heap.size≤k:=fun k hk=>by
    rcases ht5 with t|t
    ·exact .inl (t ▸ hk)
    ·exact .inr (t k hk)
   have hv5c:v5.ownBlock≠some wr.heap.size:=fun e=>by
    rcases hv5 _ e with e|e
    ·exact hcbn (RS.mem.2 (.inr e))
    ·omega
   obtain⟨w5b,hw5b⟩:∃x,w5.alloc (.cells #[.int .i64 kp,.bool klf,.slice xa xn xc] 27)=x:=⟨_,rfl⟩
   have hbk5:Below w5.heap.size w5 w5b:=by rw[←hw5b];exact Below.al (Below.refl _ _)
   have hsk5:w5b.heap.size=w5.heap.size+1:=by rw[←hw5b];simp
   have hxk:Boxes w5b [(w5.heap.size,[.int .i64 kp,.bool klf,.slice xa xn xc])]:=by rw[←hw5b];exact(Boxes.nil w5).alloc #[.int .i64 kp,.bool klf,.slice xa xn xc] 27 rfl
   have hxc5b:=hxc5.step hbk5;obtain⟨w6,hw6⟩:∃x,w5b.setCell ⟨wr.heap.size,3,none⟩ (.slice (some ⟨w5.heap.size,0,none⟩) 1 1)=x:=⟨_,rfl⟩
   have k3:=hxc5b.cell 0 3 rfl rfl;have t3:=hxc5b.frozen 0 3 rfl;have hx6:Boxes w6 [(wr.heap.size,[.string (strOf key),.string (strOf []),.slice pa 0 pc,.slice (some ⟨w5.heap.size,0,none⟩) 1 1])]:=by rw[←hw6];exact hxc5b.put 3 _ (by intro q hq;simp at hq)
   have hob6:Only [wr.heap.size] w5b w6:=by rw[←hw6];exact(Only.refl _ _).set _ _ (by simp)
   have ho56:Only [wr.heap.size] w5 w6:=(Only.of_below hbk5).trans hob6;have hxk6:=hxk.only hob6 (by intro q hq;simp at hq;subst hq;simp;omega);have hl6:=ho56.size;have hy6:=hy5.only ho56 (fun k hk=>by simp at hk;subst hk;exact⟨by omega,hv5c⟩);have ho6:Only (RS sb vi) wr w6:=((Only.of_below HBC.out).trans ho5).then ho56 (fun k hk=>by simp at hk;subst hk;exact .inr (Nat.le_refl _));have hm6:=HM.out.turn hy6 ho6 (ht5.from (by omega));have hll:=HLL.out;have hes:=HES.out;have hv5lt:∀k,v5.ownBlock=some k→k<w5.heap.size:=fun k hk=>(hy5.ge hk).2
   have hkid6:RNodeOn (LG F wB.heap.size v5 (.slice aC LL.length cC) (.slice aE es.length cE)) n w6 [.int .i64 kp,.bool klf,.slice xa xn xc] RR.1:=RNodeOn.mono (fun b hb=>hb.imp id fun hb=>⟨by omega,hb.2,fun e=>by have:=(HM.out.lgc e).2;omega,fun e=>by have:=(HM.out.lge e).2;omega⟩) (hkid5.agree ⟨hl6,fun b hb hlt9=>ho56.block hlt9 (by
    have h9:b≠wr.heap.size:=by
     rcases hb with hb|hb
     ·have:=HFB.out b hb;omega
     ·omega
    simpa using h9)⟩)
   have hyC:RcOn (LG F wB.heap.size v5 (.slice aC LL.length cC) (.slice aE es.length cE)) n w6 [.string (strOf key),.string (strOf []),.slice pa 0 pc,.slice (some ⟨w5.heap.size,0,none⟩) 1 1] ⟨key,⟨[],[]⟩,some RR.1⟩:=by
    refine⟨pa,0,pc,some ⟨w5.heap.size,0,none⟩,1,1,rfl,⟨rfl,HRW.out.2.1,HRW.out.2.2.1,HRW.out.2.2.2.1,.inl rfl⟩,.inl rfl,⟨rfl,Nat.le_refl _,by unfold maxLen;omega,fun h=>(by cases h),.inr ⟨w5.heap.size,0,rfl,hxk6.lt 0 rfl,fun j y hj=>?_⟩⟩,.inr fun b off e=>?_⟩
    ·cases j with
     | succ j=>simp at hj
     | zero=>
      simp at hj;subst hj;refine⟨[.int .i64 kp,.bool klf,.slice xa xn xc],rfl,hkid6,fun m u hu=>?_⟩;simp only[Nat.zero_mul,Nat.zero_add]
      rcases m with _|_|_|m
      ·cases hu;exact hxk6.cell 0 0 rfl rfl
      ·cases hu;exact hxk6.cell 0 1 rfl rfl
      ·cases hu;exact hxk6.cell 0 2 rfl rfl
      ·simp at hu
    ·cases e
     exact .inr ⟨by omega,fun e=>by have:=hv5lt _ e;omega,fun e=>by have:=(HM.out.lgc e).2;omega,fun e=>by have:=(HM.out.lge e).2;omega⟩
   have hkp:kp=RR.1.page:=by
    obtain⟨z1,z2,z3,z4⟩:=RNodeOn.open_pos hkid5;simp at z4;exact z4.1
   obtain⟨aN,cN,w7,LL',hrun,f8,f9,hl',hmP,hoP⟩:=hm6.pushC (by omega) (x0:=.string (strOf key)) (x1:=.string (strOf [])) (x2:=.slice pa 0 pc) (x3:=.slice (some ⟨w5.heap.size,0,none⟩) 1 1) (by intro u hu;simp at hu;rcases hu with rfl|rfl|rfl|rfl<;>rfl) hyC;have o2:=hm6.box.cell 0 2 rfl rfl;have yc0:=hx6.cell 0 0 rfl rfl;have yc1:=hx6.cell 0 1 rfl rfl;have yc2:=hx6.cell 0 2 rfl rfl;have yc3:=hx6.cell 0 3 rfl rfl;obtain⟨wz,hwz⟩:∃x,w7.setCell ⟨w.heap.size+1+1,2,none⟩ (.slice aN (LL.length+1) cN)=x:=⟨_,rfl⟩
   rw[hwz] at hmP hoP;have hoC:∀k,(k=wr.heap.size∨k=w5.heap.size)→k∉(w.heap.size+1+1)::(Value.slice aC LL.length cC).ownBlock.toList:=fun k hk hm=>by
    have h9:k=w.heap.size+1+1∨(Value.slice aC LL.length cC).ownBlock=some k:=by
     exact q2b53f5
    rcases hk with rfl|rfl<;>(rcases h9 with e|e;omega;have:=(HM.out.lgc e).2;omega)
   have hxz:=hx6.only hoP (by intro q hq;simp at hq;subst hq;exact hoC _ (.inl rfl));have hxkz:=hxk6.only hoP (by intro q hq;simp at hq;subst hq;exact hoC _ (.inr rfl));have hkz:=hxkz.cell 0 0 rfl rfl;have hkzl:=hxkz.lt 0 rfl;have hzl:=hmP.lt;have hbz:wr.heap.size<wz.heap.size:=by have:=hxz.lt 0 rfl;exact this
   have hge2:(Value.slice aE es.length cE).ownBlock≠some wr.heap.size:=fun e=>by have:=(HM.out.lge e).2;omega
   have hge3:(Value.slice aE es.length cE).ownBlock≠some w.heap.size:=fun e=>by have:=(HM.out.lge e).1;omega
   have hXA:∀(k:Nat) (u:Value),wz.cell? ⟨wr.heap.size,k,none⟩=some u→∀W,AgreeF (fun x=>(Value.slice aE es.length cE).ownBlock≠some x∧x≠w.heap.size+1+1+1) wz W→W.cell? ⟨wr.heap.size,k,none⟩=some u:=fun k u h W hW=>(hW.cell (b:=wr.heap.size) (o:=k) ⟨hge2,by show wr.heap.size≠_;omega⟩ hbz).trans h
   have x0:=hXA 0 _ (hxz.cell 0 0 rfl rfl);have x1:=hXA 1 _ (hxz.cell 0 1 rfl rfl);have x2:=hXA 2 _ (hxz.cell 0 2 rfl rfl);have x3:=hXA 3 _ (hxz.cell 0 3 rfl rfl);have nbz:wz.cell? ⟨w.heap.size,1,none⟩=some (.bool false):=(hmP.ag.cell (b:=w.heap.size) (o:=1) ⟨by omega,by omega,by omega,fun e=>by have:=(HVG.out _ e).2;omega⟩ (by omega)).trans HNB1.out;have xn:∀W,AgreeF (fun x=>(Value.slice aE es.length cE).ownBlock≠some x∧x≠w.heap.size+1+1+1) wz W→W.cell? ⟨w.heap.size,1,none⟩=some (.bool false):=fun W hW=>(hW.cell (b:=w.heap.size) (o:=1) ⟨hge3,by show w.heap.size≠_;omega⟩ (by omega)).trans nbz
   have o4:=hmP.box.cell 1 1 rfl rfl;have hA00:AgreeF (fun x=>(Value.slice aE es.length cE).ownBlock≠some x∧x≠w.heap.size+1+1+1) wz wz.drew:=AgreeF.refl _;have hb0:Below wz.heap.size wz wz.drew:=below_drewN (Below.refl _ _) 1;have CW:=rcell_kid wz.drew key [] pa 0 pc w5.heap.size 0 kp ⟨hkzl,hkz⟩ 1 1 (by omega);have PC:∀w2,Below wz.drew.heap.size wz.drew w2→∃a9 c9 w9,(Builtin.append_ #[219,219] 219 #[.slice aE es.length cE,.slice (some ⟨w2.heap.size,0,none⟩) 1 1]).run Tryz.prog (w2.alloc (.cells #[.string (strOf key),.string (strOf []),.bool false,.int .i64 0,.int .i64 kp] 226))=.ok (.slice a9 (es.length+1) c9) w9∧w9.cell? ⟨w.heap.size+1+1+1,1,none⟩=some (.slice aE es.length cE)∧w9.frozen? ⟨w.heap.size+1+1+1,1,none⟩=false∧w2.cell? ⟨w.heap.size+1+1+1,1,none⟩=some (.slice aE es.length cE)∧w.heap.size+1+1+1<w2.heap.size ∧
    AgreeF (fun x=>(Value.slice aE es.length cE).ownBlock≠some x∧x≠w.heap.size+1+1+1) wz w2∧AgreeF (fun x=>(Value.slice aE es.length cE).ownBlock≠some x∧x≠w.heap.size+1+1+1) wz w9∧AgreeF (fun x=>(Value.slice aE es.length cE).ownBlock≠some x∧x≠w.heap.size+1+1+1) wz (w9.setCell ⟨w.heap.size+1+1+1,1,none⟩ (.slice a9 (es.length+1) c9))∧Hid (LM F w wB sb vL vL (w.heap.size+1+1) (w.heap.size+1+1+1) (w.heap.size+1) n false v5 (ws2++RR.2.1) la5 lc5 RR.2.2 (.slice aN (LL.length+1) cN) LL' (ys++[⟨key,⟨[],[]⟩,some RR.1⟩]) (.slice a9 (es.length+1) c9) (es++[entK (key,RR.1)]) (w9.setCell ⟨w.heap.size+1+1+1,1,none⟩ (.slice a9 (es.length+1) c9))):=fun w2 hb2=>by
    have hm2:=(hmP.below hb0).below hb2;obtain⟨a9,c9,w9,hr2,g8,g9,gA,gB,hmQ⟩:=hm2.pushE (by omega) (entK (key,RR.1));have hr2:=hr2;rw[show(ecells (entK (key,RR.1))).toArray = #[.string (strOf key),.string (strOf []),.bool false,.int .i64 0,.int .i64 kp] by rw[hkp];rfl] at hr2;exact qb5d386
   have HL':=Hd hl';have hnx:(ys++[⟨key,⟨[],[]⟩,some RR.1⟩]=((dn++[(key,RR.1)]).map fun c=>(⟨c.1,⟨[],[]⟩,some c.2⟩:Rc))∧es++[entK (key,RR.1)]=(dn++[(key,RR.1)]).map entK∧(layKs (layT n) l left).1=(dn++[(key,RR.1)])++(layKs (layT n) (l.drop (i+1)) RR.2.2).1∧ws++(layKs (layT n) l left).2.1=(ws2++RR.2.1)++(layKs (layT n) (l.drop (i+1)) RR.2.2).2.1∧((l.drop (i+1)).map fun c=>freshN n c.2).sum+1≤RR.2.2.length∧(layKs (layT n) l left).2.2=(layKs (layT n) (l.drop (i+1)) RR.2.2).2.2∧(ws2++RR.2.1).length+((l.drop (i+1)).map fun c=>freshN n c.2).sum+1≤40000):=by
    obtain⟨e1,e2,e3,e4,e5,e6,e7⟩:=HE.out;rw[HDR.out] at e3 e4 e5 e6 e7;rw[layKs_step] at e3 e4 e6;dsimp only at e3 e4 e6;rw[HRR.out] at e3 e4 e6;simp only[List.map_cons,List.sum_cons] at e5 e7;have hwl:=layT_many n y2 left2;have hlf:=layT_left n y2 left2;rw[HRR.out] at hwl hlf;exact⟨by rw[e1,List.map_append];rfl,by rw[e2,List.map_append];rfl,by rw[e3];simp,by rw[e4];simp,by rw[hlf,List.length_drop];omega,e6,by rw[List.length_append];omega⟩
   have HNX:=Hd hnx;clear hnx;clear hm6 hyC ho6 hy6 hx6 hxc5 ho5 hy5 ht5 hv5 hv5c hkid5 hkid6 ho56 hob6 hoC hxz hxk hxk6 hxkz hxc5b hbk5 hsk5 hkz hkzl hv5lt hkp hmP hoP hl' hXA hsc hll hes hcbn nbz;go_upto_region 13 with(at_builtin;refine wpList_append_run rfl _ _ _ _ rfl rfl rfl hrun ?_)
   clear hrun f8 f9 hw6 hw5b hwz k3 t3 yc0 yc1 yc2 yc3 o2;refine wp_region_noPanic ?_;refine wp_region_held_drew (S:=(fun W=>AgreeF (fun x=>(Value.slice aE es.length cE).ownBlock≠some x∧x≠w.heap.size+1+1+1) wz W)) (by kernel_rfl) (by(repeat (with_reducible first|assumption|exact AgreeF.refl _|apply AgreeF.al|apply AgreeF.dr))) (fun hHeld=>?_);refine tks [0,2] ?_;refine tks [3,4] ?_;refine rdy2 1 5 (fun K hK=>?_) (fun K hK=>?_)
   ·(rw[if_pos (by rfl)];go_wp2_with (fail))
    refine bkA hK (fun hHeld=>?_);clear hK K;refine rdy 5 (fun K hK=>?_)
    (rw[if_pos (by rfl)];go_simp;(with_reducible refine CW.mono ?_);rintro e w2 ⟨rfl,hb2⟩;obtain⟨a9,c9,w9,hrun2,f8,f9,f7,hlt9,hA1,hA3,hA4,HQ⟩:=PC _ hb2;clear CW PC hb2;dsimp only)
    refine bkA hK (fun hHeld=>?_);clear hK K;refine rdy 6 (fun K hK=>?_)
    (rw[if_pos (by rfl)];go_wp2_with (fail))
    exact q060404
   ·(rw[if_pos (by rfl)];go_simp;(with_reducible refine CW.mono ?_);rintro e w2 ⟨rfl,hb2⟩;obtain⟨a9,c9,w9,hrun2,f8,f9,f7,hlt9,hA1,hA3,hA4,HQ⟩:=PC _ hb2;clear CW PC hb2;dsimp only)
    refine bkA hK (fun hHeld=>?_);clear hK K;refine rdy2 1 6 (fun K hK=>?_) (fun K hK=>?_)
    ·(rw[if_pos (by rfl)];go_wp2_with (fail))
     refine bkA hK (fun hHeld=>?_);clear hK K;refine rdy 6 (fun K hK=>?_)
     (rw[if_pos (by rfl)];go_wp2_with (fail))
     exact q060404
    ·(rw[if_pos (by rfl)];go_wp2_with (fail))
     refine bkA hK (fun hHeld=>?_);clear hK K;refine rdy 1 (fun K hK=>?_)
     (rw[if_pos (by rfl)];go_wp2_with (fail))
     exact q060404
  ·have hin:i=l.length:=by omega
   have q1:decide ((i:Int)<(l.length:Int))=false:=decide_eq_false (by omega);have q2:decide (i<l.length)=false:=decide_eq_false hlt;have hdr:l.drop i=[]:=List.drop_of_length_le (by omega);rw[hdr] at hinv;obtain⟨e1,e2,e3,e4,e5,e6,e7⟩:=hinv;have hlen1:1≤left2.length:=by simp at e5;omega
   have hdn2:(layKs (layT n) l left).1=dn:=by rw[e3];simp[layKs]
   have hsmE:SmE es:=fun e he=>by
    rw[e2] at he;obtain⟨c9,hc9,rfl⟩:=List.mem_map.1 he;rw[←hdn2] at hc9;obtain⟨c8,h8,h9⟩:=layKs_mem c9 hc9;have h7:=HBK.out c8 h8;refine⟨?_,by simp[entK]⟩;show c9.1.length≤1000000;rw[h9];omega
   have hinv:=And.intro e1 (And.intro e2 (And.intro hdn2 (And.intro e4 (And.intro e6 e7))));clear e1 e2 e3 e4 e5 e6 e7 hdn2;obtain⟨bA,offA,hlaA,hbA,hcA⟩:=hm.ly.row.2.2.2.2.resolve_left (by omega);subst hlaA;obtain⟨P,hP⟩:∃x,left2.headD 0=x:=⟨_,rfl⟩
   have hbAF:F bA:=hm.ly.lf _ rfl;have hbAs:=HFB.out bA hbAF;have p0:wr.cell? ⟨bA,offA,none⟩=some (.int .i64 P):=by
    have:=hcA 0 hlen1;rw[←hP,List.headD_eq_head?_getD,List.head?_eq_getElem?];simpa using this
   have hlcm:lc2≤9223372036854775807:=by have:=hm.ly.row.2.2.1;unfold maxLen at this;omega
   have hlc1:1≤lc2:=by have:=hm.ly.row.2.1;omega
   have S1:=lsome_any hm.ly 1 hlen1;have HP:=Hd hP;have HM:=Hd hm;have HES:=Hd hes;have HIN:=Hd hin;have HINV:=Hd hinv;have HLL:=Hd hLL;have HSM:=Hd hsmE;have HL1:=Hd hlen1;clear hm hes hin hinv hdr hdn hLL hsmE hlen1 hcA hP nbr;go_wp2_with fail;refine S1.mono ?_;rintro e w2 ⟨rfl,la3,hy2,ho2⟩;have hs2:=ho2.size;have ho2R:Only (RS sb vi) wr w2:=ho2.mono (fun k hk=>by simp at hk;exact RS.mem.2 (.inl hk));have hm2:=HM.out.turn hy2 ho2R (Turn.refl _ _);have p2:w2.cell? ⟨bA,offA,none⟩=some (.int .i64 P):=(World.cell?_of_block (ho2.block (k:=bA) hbA (by simp;omega))).trans p0;have b0:=hm2.box.cell 0 0 rfl rfl;have u0:=hm2.box.frozen 0 0 rfl;obtain⟨w3,hw3⟩:∃x,w2.setCell ⟨w.heap.size+1+1,0,none⟩ (.int .i64 P)=x:=⟨_,rfl⟩
   have ho3:Only [w.heap.size+1+1] w2 w3:=by rw[←hw3];exact(Only.refl _ _).set _ _ (by simp)
   have hx3:Boxes w3 [(w.heap.size+1+1,[.int .i64 P,.bool false,.slice aC LL.length cC]),(w.heap.size+1+1+1,[.bool false,.slice aE es.length cE]),(w.heap.size+1,[.int .i64 0,.bool false,.slice none 0 0])]:=by rw[←hw3];exact hm2.box.put 0 _ (by intro q hq;simp at hq;rcases hq with rfl|rfl<;>simp)
   have hm0:=hx3.cell 1 0 rfl rfl;have hm1:=hx3.cell 1 1 rfl rfl;have hvo:=fun e=>(hm2.vne (g:=w.heap.size+1+1) e).1 rfl
   have hy3:LyIn F w3 sb vi ws2 la3 (lc2-1) (left2.drop 1):=hm2.ly.only ho3 (fun k hk=>by simp at hk;subst hk;exact⟨by omega,hvo⟩);have hre3:w3.ownsRow wB.heap.size 226 5 (.slice aE es.length cE) es.length (es.flatMap ecells):=own_only hm2.re ho3 (fun k hk hm9=>by have:=(hm2.lge hk).1;simp at hm9;omega);obtain⟨aE',cE',eE,hents⟩:=OwnRe.ents (show OwnRe w3 wB.heap.size (.slice aE es.length cE) es from hre3);cases eE;have CP:=rnput_any false aE es.length cE es w3 hents (by have:=HES.out;omega) HSM.out;obtain⟨PB,hPB⟩:∃x,putN false es=x:=⟨_,rfl⟩
   obtain⟨PE,hPE⟩:∃x,putNE false es=x:=⟨_,rfl⟩
   rw[hPB,hPE] at CP;have HPB:=Hd hPB;have HY3:=Hd hy3;have HX3:=Hd hx3;have HO3:=Hd ho3;have HO2:=Hd ho2;have q5:decide ((0:Int)<(1:Int))=true:=by decide
   clear hm2 hy2 ho2R ho2 ho3 hx3 hy3 hre3 hents hPB hPE hvo p0 S1;go_wp2_with fail;refine CP.mono ?_;rintro e w4 ⟨rfl,hb4⟩;have hx4:=HX3.out.step hb4;have o40:=hx4.cell 0 0 rfl rfl;have CWr:=lwrite_any (HY3.out.below hb4) (by have:=HINV.out;omega) P PB;have HX4:=Hd hx4;have HB4:=Hd hb4;have hs4:=hb4.size;clear hx4 hb4 CP p2 b0 u0 hm0 hm1 hw3;go_wp2_with fail;refine CWr.mono ?_;rintro e w5 ⟨rfl,v6,hy6,ho6,ht6⟩;have hs3:=HO3.out.size;have hs1:=HM.out.lt;have hviN:=fun g e=>HM.out.vne (g:=g) e
   have hx5:=HX4.out.only ho6 (by
    exact q7dd336)
   have n0:=hx5.cell 0 0 rfl rfl;have n1:=hx5.cell 0 1 rfl rfl;have n2:=hx5.cell 0 2 rfl rfl;have m0:=hx5.cell 2 0 rfl rfl;have m1:=hx5.cell 2 1 rfl rfl;have m2:=hx5.cell 2 2 rfl rfl;have u0:=hx5.frozen 2 0 rfl;have u1:=hx5.frozen 2 1 rfl;have u2:=hx5.frozen 2 2 rfl;have hxr:Boxes w5 [(w.heap.size+1,[.int .i64 0,.bool false,.slice none 0 0])]:=hx5.sub (by intro q hq;simp at hq ⊢;subst hq;exact .inr (.inr rfl));obtain⟨we,hwe⟩:∃x,x=st3 w5 (w.heap.size+1) (.int .i64 P) (.bool false) (.slice aC LL.length cC):=⟨_,rfl⟩
   have hxe:=st3_box hxr (.int .i64 P) (.bool false) (.slice aC LL.length cC);rw[←hwe] at hxe;have z0:=hxe.cell 0 0 rfl rfl;have z1:=hxe.cell 0 1 rfl rfl;have z2:=hxe.cell 0 2 rfl rfl;have hv6:∀k,v6.ownBlock=some k→(vi.ownBlock=some k∨w4.heap.size≤k):=fun k hk=>by
    rcases ht6 with t|t
    ·exact .inl (t ▸ hk)
    ·exact .inr (t k hk)
   have HE:Hid (LayPost F w sb vL ws (n+1) (layT (n+1) (.node 0 l) left) (.returned (.agg #[.int .i64 P,.bool false,.slice aC LL.length cC])) we):=Hd (by
    have hoe:Only [w.heap.size+1] w5 we:=by rw[hwe];exact st3_only _ _ _ _ _
    have hye:=hy6.only hoe (fun k hk=>by
     simp at hk;subst hk;refine⟨by omega,fun e=>?_⟩
     rcases hv6 _ e with e|e
     ·exact(hviN _ e).2.2.1 rfl
     ·omega)
    have hoW:Only (RS sb vL) w w4:=((HM.out.ol.trans (HO2.out.mono (fun k hk=>by simp at hk;exact RS.mem.2 (.inl hk)))).then HO3.out (fun k hk=>by simp at hk;subst hk;exact .inr (by omega))).trans (Only.of_below HB4.out);have htW:Turn w vL vi:=HM.out.tu;have hoF:Only (RS sb vL) w we:=(only_next hoW htW ho6).then hoe (fun k hk=>by simp at hk;subst hk;exact .inr (by omega));have hag:AgreeF (fun b=>F b∨(wB.heap.size≤b∧vi.ownBlock≠some b)) wr we:=by
     exact qbf305f
    obtain⟨e1,e2,e3,e4,e6,e7⟩:=HINV.out;have hws:ws++(layKs (layT n) l left).2.1=ws2:=by rw[e4];simp[layKs]
    have hlf:(layKs (layT n) l left).2.2=left2:=by rw[e6];simp[layKs]
    have hR:layT (n+1) (.node 0 l) left=(.node P dn,(layKs (layT n) l left).2.1++[(P,PB)],left2.drop 1):=by
     rw[layT,e3,hlf,HP.out,←e2,HPB.out]
    rw[hR];subst e1;have hN:=LM.node (t:=.node P dn) (G:=fun b=>F b∨(w.heap.size≤b∧v6.ownBlock≠some b)) HM.out hag (fun b hb hlt9=>by
     rcases hb with hb|hb
     ·exact .inl hb
     ·refine .inr ⟨by have:=HSB.out;omega,fun e=>?_⟩
      rcases hv6 b e with e|e
      ·exact hb.2 e
      ·omega)
    refine⟨P,false,aC,LL.length,cC,v6,la3,lc2-1,rfl,?_,hoF,htW.trans ht6 (by omega),hN⟩;rw[←List.append_assoc,hws];exact hye)
   clear hx5 hxr hxe hy6 ho6 ht6 hviN hv6;go_wp2_with fail;change bodyPost Tryz.prog _ _ _ _ (st3 w5 (w.heap.size+1) (.int .i64 P) (.bool false) (.slice aC LL.length cC));rw[←hwe];refine bodyPost_ret (v:=.agg #[.int .i64 P,.bool false,.slice aC LL.length cC]) (by simp[results,Tryz.results91,go_sem,z0,z1,z2]) rfl ?_;exact HE.out
theorem lay_empty {n:Nat} {F G:Nat→Prop} {w:World} {sb:Nat} {vL:Value} {ws:List Wr} {la:Option Addr} {lc:Nat} {left:List Int} {cs:List Value} (hy:LyIn F w sb vL ws la lc left) (h:RNodeOn G (n+1) w cs (.leaf 0 [])) :
 Calls Tryz.prog 91 #[.pointer (some ⟨sb,0,none⟩),.agg cs.toArray] w (LayPost F w sb vL ws (n+1) (layT (n+1) (.leaf 0 []) left)):=by
 obtain⟨a,c,rfl,h1,_⟩:=h.at;have hcn:cntT (.leaf 0 [])=0:=rfl;rw[hcn] at h1;obtain⟨wB,hwB⟩:∃x,(w.alloc (.cells #[.int .i64 0,.bool true,.slice a 0 c] 27)).alloc (.cells #[.int .i64 0,.bool false,.slice none 0 0] 27)=x:=⟨_,rfl⟩
 have hbB:Below w.heap.size w wB:=by rw[←hwB];exact Below.al (Below.al (Below.refl _ _))
 have hxB:Boxes wB [(w.heap.size+1,[.int .i64 0,.bool false,.slice none 0 0]),(w.heap.size,[.int .i64 0,.bool true,.slice a 0 c])]:=by
  rw[←hwB];exact((Boxes.nil w).alloc #[.int .i64 0,.bool true,.slice a 0 c] 27 (b:=w.heap.size) rfl).alloc #[.int .i64 0,.bool false,.slice none 0 0] 27 (b:=w.heap.size+1) (by simp)
 have c0:=hxB.cell 1 0 rfl rfl;have c1:=hxB.cell 1 1 rfl rfl;have c2:=hxB.cell 1 2 rfl rfl;have m0:=hxB.cell 0 0 rfl rfl;have m1:=hxB.cell 0 1 rfl rfl;have m2:=hxB.cell 0 2 rfl rfl;have u0:=hxB.frozen 0 0 rfl;have u1:=hxB.frozen 0 1 rfl;have u2:=hxB.frozen 0 2 rfl;have hxr:Boxes wB [(w.heap.size+1,[.int .i64 0,.bool false,.slice none 0 0])]:=hxB.sub (by intro q hq;simp at hq ⊢;exact .inl hq);obtain⟨we,hwe⟩:∃x,x=st3 wB (w.heap.size+1) (.int .i64 0) (.bool true) (.slice a 0 c):=⟨_,rfl⟩
 have hxe:=st3_box hxr (.int .i64 0) (.bool true) (.slice a 0 c);rw[←hwe] at hxe;have z0:=hxe.cell 0 0 rfl rfl;have z1:=hxe.cell 0 1 rfl rfl;have z2:=hxe.cell 0 2 rfl rfl;have HE:Hid (LayPost F w sb vL ws (n+1) (layT (n+1) (.leaf 0 []) left) (.returned (.agg #[.int .i64 0,.bool true,.slice a 0 c])) we):=Hd (by
  have hoe:Only [w.heap.size+1] wB we:=by rw[hwe];exact st3_only _ _ _ _ _
  have hbe:Below w.heap.size w we:=hbB.trans (hoe.below hbB.size (by simp));refine⟨0,true,a,0,c,vL,la,lc,rfl,?_,Only.of_below hbe,Turn.refl _ _,?_⟩
  ·show LyIn F we sb vL (ws++[]) la lc left
   rw[List.append_nil];exact hy.below hbe
  ·exact RNodeOn.mk (t:=.leaf 0 []) ⟨rfl,h1.2.1,h1.2.2.1,h1.2.2.2.1,.inl rfl⟩ (.inl rfl))
 have hz:=zero_refN;show Calls _ _ #[.pointer (some ⟨sb,0,none⟩),.agg #[.int .i64 0,.bool true,.slice a 0 c]] _ _;clear h h1 hbB hxB hxr hxe hy hcn;go_enter Tryz.func91,Tryz.ntmps91;go_wp2_with fail;change bodyPost Tryz.prog _ _ _ _ (st3 wB (w.heap.size+1) (.int .i64 0) (.bool true) (.slice a 0 c));rw[←hwe];refine bodyPost_ret (v:=.agg #[.int .i64 0,.bool true,.slice a 0 c]) (by simp[results,Tryz.results91,go_sem,z0,z1,z2]) rfl ?_;exact HE.out
theorem lay_any:∀(n:Nat) {F G:Nat→Prop} {w:World} {sb:Nat} {vL:Value} {ws:List Wr} {la:Option Addr} {lc:Nat} {left:List Int} {cs:List Value} {t:Tr},LyIn F w sb vL ws la lc left→RNodeOn G n w cs t→(∀b,G b→b<w.heap.size∧b≠sb∧vL.ownBlock≠some b)→Bare t→Bnd n t→freshN n t≤left.length→ws.length+freshN n t≤40000→Calls Tryz.prog 91 #[.pointer (some ⟨sb,0,none⟩),.agg cs.toArray] w (LayPost F w sb vL ws n (layT n t left))
 | 0,_,_,_,_,_,_,_,_,_,_,_,_,h,_,_,_,_,_=>h.elim
 | n+1,_,_,_,_,_,_,_,_,_,_,.leaf p l,hy,h,hG,hB,hb,hf,hws=>by
  obtain⟨rfl,_⟩:=bare_vals hB
  by_cases hl0:l=[]
  ·subst hl0;exact lay_empty hy h
  ·exact lay_leaf hy h hG hB hb hf hws hl0
 | n+1,_,_,_,_,_,_,_,_,_,_,.node p l,hy,h,hG,hB,hb,hf,hws=>by
  obtain⟨rfl,_⟩:=bare_kids hB;exact lay_node (fun hy h hG hB hb hf hws=>lay_any n hy h hG hB hb hf hws) hy h hG hB hb hf hws
def LayTo (F:Nat→Prop) (w:World) (n:Nat) (R:Tr×List Wr×List Int) (e:Ending) (w':World):Prop:=
 ∃(p:Int) (lf:Bool) (xa:Option Addr) (xn xc:Nat) (vW vX:Value),e=.returned (.tuple #[.agg #[.int .i64 p,.bool lf,.slice xa xn xc],vW,vX,.bool true])∧RNodeOn (fun b=>F b∨w.heap.size≤b) n w' [.int .i64 p,.bool lf,.slice xa xn xc] R.1∧w'.ownsRow w.heap.size 41 2 vW R.2.1.length (R.2.1.flatMap wcl)∧Below w.heap.size w w'
theorem Lay_any {n:Nat} {F G:Nat→Prop} {w:World} {cs:List Value} {t:Tr} (h:RNodeOn G n w cs t) (hG:∀b,G b→b<w.heap.size) (hB:Bare t) (hb:Bnd n t) (hn:n≤1000) (hc:checkT n t=true) {a:Option Addr} {m cap:Nat} {at_:List Int} (hat:Row .i64 w a m cap at_) (hab:∀x,a=some x→F x.block) (hF:∀b,F b→b<w.heap.size) (hr:Rises at_) (hm:m≤10000) (hp:∀p∈at_,2≤p∧p≤999) (hf:freshN n t≤m) :
 Calls Tryz.prog 44 #[.agg cs.toArray,.slice a m cap] w (LayTo F w n (layT n t at_)):=by
 obtain⟨xa,xn,xc,rfl⟩:=RNodeOn.open_pos h;have hlm:at_.length=m:=hat.1;obtain⟨tp,htp⟩:∃x,t.page=x:=⟨_,rfl⟩
 obtain⟨tl,htl⟩:∃x,t.isLeaf=x:=⟨_,rfl⟩
 rw[htp,htl] at h ⊢;obtain⟨w1,hw1⟩:∃x,(w.alloc (.cells #[.int .i64 tp,.bool tl,.slice xa xn xc] 27)).alloc (.cells #[.int .i64 0,.bool false,.slice none 0 0] 27)=x:=⟨_,rfl⟩
 have hb1:Below w.heap.size w w1:=by rw[←hw1];exact Below.al (Below.al (Below.refl _ _))
 have hx1:Boxes w1 [(w.heap.size+1,[.int .i64 0,.bool false,.slice none 0 0]),(w.heap.size,[.int .i64 tp,.bool tl,.slice xa xn xc])]:=by
  rw[←hw1];exact((Boxes.nil w).alloc #[.int .i64 tp,.bool tl,.slice xa xn xc] 27 (b:=w.heap.size) rfl).alloc #[.int .i64 0,.bool false,.slice none 0 0] 27 (b:=w.heap.size+1) (by simp)
 have hs1:w1.heap.size=w.heap.size+2:=by rw[←hw1];simp
 have CM:=rmay_any (h.agree (AgreeF.of_below hb1)) hB hb hn hc (hat.below (Nat.le_refl _) hb1) hr hm hp hf;have c0:=hx1.cell 1 0 rfl rfl;have c1:=hx1.cell 1 1 rfl rfl;have c2:=hx1.cell 1 2 rfl rfl;have hz:=zero_refN;have HX1:=Hd hx1;have HB1:=Hd hb1;have HS1:=Hd hs1;have H:=Hd h;have HBR:=Hd hB;have HBD:=Hd hb;have HAT:=Hd hat;have HLM:=Hd hlm;have HG:=Hd hG;have HF:=Hd (And.intro hab hF);have HFR:=Hd hf;clear hx1 hb1 hs1 h hB hb hat hlm hG hab hF hf hr hp hc htp htl;go_enter Tryz.func44,Tryz.ntmps44;go_wp2_with fail;refine CM.mono ?_;rintro e w2 ⟨rfl,hb2⟩;have hx2:=HX1.out.step hb2;obtain⟨w3,hw3⟩:∃x,w2.alloc (.cells #[.slice none 0 0,.slice a m cap] 197)=x:=⟨_,rfl⟩
 have hb23:Below w2.heap.size w2 w3:=by rw[←hw3];exact Below.al (Below.refl _ _)
 have hxs:Boxes w3 [(w2.heap.size,[.slice none 0 0,.slice a m cap])]:=by rw[←hw3];exact(Boxes.nil w2).alloc #[.slice none 0 0,.slice a m cap] 197 rfl
 have hs3:w3.heap.size=w2.heap.size+1:=by rw[←hw3];simp
 have hx3:=hx2.step hb23;have hs2:=hb2.size;have hs1:=HS1.out;have hb3:Below w.heap.size w w3:=(HB1.out.trans (hb2.mono HB1.out.size)).trans (hb23.mono (by omega));have hly:LyIn F w3 w2.heap.size (.slice none 0 0) [] a cap at_:=
  ⟨by rw[HLM.out];exact hxs,own_nil w3 _ 2 _,by rw[HLM.out];exact HAT.out.below (Nat.le_refl _) hb3,HF.out.1,fun b hb=>by have:=HF.out.2 b hb;omega⟩
 have CL:=lay_any n hly (H.out.agree (AgreeF.of_below hb3)) (fun b hb=>⟨by have:=HG.out b hb;omega,by have:=HG.out b hb;omega,by simp[Value.ownBlock]⟩) HBR.out HBD.out (by rw[HLM.out];exact HFR.out) (by have:=HFR.out;simp;omega);have d0:=hx3.cell 1 0 rfl rfl;have d1:=hx3.cell 1 1 rfl rfl;have d2:=hx3.cell 1 2 rfl rfl;have HX3:=Hd hx3;have HB3:=Hd hb3;have HS3:=Hd hs3;clear hx2 hx3 hxs hb23 hb2 hb3 hly hs3 CM;go_wp2_with fail;refine CL.mono ?_;rintro e w4 ⟨p,lf,ya,yn,yc,vL',la',lc',rfl,hy4,ho4,ht4,hn4⟩;obtain⟨R,hR⟩:∃x,layT n t at_=x:=⟨_,rfl⟩
 rw[hR,List.nil_append] at hy4;rw[hR] at hn4;have hs4:=ho4.size;have hs3:=HS3.out;have hx4:=(HX3.out.sub (m:=[(w.heap.size+1,[.int .i64 0,.bool false,.slice none 0 0])]) (by intro q hq;simp at hq ⊢;exact .inl hq)).only ho4 (by
  intro q hq hm9;simp at hq;subst hq
  rcases RS.mem.1 hm9 with e|e
  ·simp at e;omega
  ·simp[Value.ownBlock] at e)
 have hb4:Below w.heap.size w w4:=HB3.out.trans (ho4.below HB3.out.size (fun k hk=>by
  rcases RS.mem.1 hk with e|e
  ·omega
  ·simp[Value.ownBlock] at e))
 obtain⟨w5,hw5⟩:∃x,w4.alloc (.cells #[.int .i64 p,.bool lf,.slice ya yn yc] 27)=x:=⟨_,rfl⟩
 have hb45:Below w4.heap.size w4 w5:=by rw[←hw5];exact Below.al (Below.refl _ _)
 have hxo:Boxes w5 [(w4.heap.size,[.int .i64 p,.bool lf,.slice ya yn yc])]:=by rw[←hw5];exact(Boxes.nil w4).alloc #[.int .i64 p,.bool lf,.slice ya yn yc] 27 rfl
 have hx5:=hx4.step hb45;have hy5:=hy4.below hb45;obtain⟨aW,cW,rfl,_⟩:=own_slice hy5.own;have s0:=hy5.box.cell 0 0 rfl rfl;have s1:=hy5.box.cell 0 1 rfl rfl;have o0:=hxo.cell 0 0 rfl rfl;have o1:=hxo.cell 0 1 rfl rfl;have o2:=hxo.cell 0 2 rfl rfl;have m0:=hx5.cell 0 0 rfl rfl;have m1:=hx5.cell 0 1 rfl rfl;have m2:=hx5.cell 0 2 rfl rfl;have u0:=hx5.frozen 0 0 rfl;have u1:=hx5.frozen 0 1 rfl;have u2:=hx5.frozen 0 2 rfl;obtain⟨we,hwe⟩:∃x,x=st3 w5 (w.heap.size+1) (.int .i64 p) (.bool lf) (.slice ya yn yc):=⟨_,rfl⟩
 have hxe:=st3_box hx5 (.int .i64 p) (.bool lf) (.slice ya yn yc);rw[←hwe] at hxe;have z0:=hxe.cell 0 0 rfl rfl;have z1:=hxe.cell 0 1 rfl rfl;have z2:=hxe.cell 0 2 rfl rfl;have HE:Hid (LayTo F w n (layT n t at_) (.returned (.tuple #[.agg #[.int .i64 p,.bool lf,.slice ya yn yc],.slice aW R.2.1.length cW,.slice la' R.2.2.length lc',.bool true])) we.drew):=Hd (by
  rw[hR];have hoe:Only [w.heap.size+1] w5 we:=by rw[hwe];exact st3_only _ _ _ _ _
  have hbe:Below w.heap.size w we.drew:=Below.dr ((hb4.trans (hb45.mono hb4.size)).trans (hoe.below (by have:=hb45.size;omega) (by simp)));have hown:we.drew.ownsRow w.heap.size 41 2 (.slice aW R.2.1.length cW) R.2.1.length (R.2.1.flatMap wcl):=by
   have h9:=own_only hy5.own hoe (fun k hk hm9=>by have:=(hy5.ge hk).1;simp at hm9;omega);have h8:=own_base h9 (show w.heap.size≤w2.heap.size+1 by omega);exact h8
  refine⟨p,lf,ya,yn,yc,_,_,rfl,?_,hown,hbe⟩;refine RNodeOn.mono (fun b hb=>?_) ((hn4.agree (AgreeF.of_below hb45)).agree (w':=we.drew) ⟨hoe.size,fun b hb hlt9=>hoe.block hlt9 (fun hm9=>?_)⟩)
  ·rcases hb with hb|hb
   ·exact .inl hb
   ·exact .inr (by omega)
  ·simp at hm9
   rcases hb with hb|hb
   ·have:=HF.out.2 b hb;omega
   ·omega)
 clear hxe hx5 hxo hx4 hb4 hb45 hy4 hy5 ho4 ht4 hn4 hR CL;go_wp2_with fail
 go_region
 all_goals (
  go_wp2_with fail;change bodyPost Tryz.prog _ _ _ _ (st3 w5 (w.heap.size+1) (.int .i64 p) (.bool lf) (.slice ya yn yc)).drew;rw[←hwe];refine bodyPost_ret (v:=.tuple #[.agg #[.int .i64 p,.bool lf,.slice ya yn yc],.slice aW R.2.1.length cW,.slice la' R.2.2.length lc',.bool true]) (by simp[results,Tryz.results44,go_sem,z0,z1,z2]) rfl ?_;exact HE.out)
open Go.RowKit
def pzC (y:Pz):List Value:=[.string (strOf y.key),.int .i64 y.size]
def IsPz (cs:List Value) (y:Pz):Prop:=cs=pzC y
def Pzs (w:World) (a:Option Addr) (n c:Nat) (l:List Pz):Prop:=TabR 2 IsPz w a n c l
theorem Pzs.at {w:World} {a:Option Addr} {n c:Nat} {l:List Pz} (h:Pzs w a n c l) {k:Nat} (hk:k<n) :
 ∃b off y,a=some ⟨b,off,none⟩∧b<w.heap.size∧l[k]? = some y∧w.cell? ⟨b,off+k*2,none⟩=some (.string (strOf y.key))∧w.cell? ⟨b,off+k*2+1,none⟩=some (.int .i64 y.size):=by
 obtain⟨b,off,y,cs,e1,e2,e3,_,e5,e6⟩:=TabR.at h hk;obtain rfl:cs=pzC y:=e5;exact⟨b,off,y,e1,e2,e3,e6 0 _ rfl,e6 1 _ rfl⟩
def okZ (y:Pz):Bool:=(y.key != []) && (decide (y.key.length≤16) && (decide (0≤y.size) && decide (y.size≤400)))
def smallZ (l:List Pz):Bool:=l.all okZ && decide (l.length≤60)
def atZ (fr m:Nat):List Int:=(List.range m).map fun(k:Nat)=>((2:Int)+(fr:Int)+(k:Int))
theorem atZ_len (fr m:Nat):(atZ fr m).length=m:=by simp[atZ]
theorem atZ_succ (fr m:Nat):atZ fr (m+1)=atZ fr m++[(2:Int)+(fr:Int)+(m:Int)]:=by simp[atZ,List.range_succ]
theorem atZ_mem {fr m:Nat} {p:Int} (h:p∈atZ fr m):2+(fr:Int)≤p∧p<2+fr+m:=by
 unfold atZ at h;obtain⟨k,hk,rfl⟩:=List.mem_map.1 h;have:=List.mem_range.1 hk;omega
theorem atZ_rises (fr m:Nat):Rises (atZ fr m):=by
 intro i j x y hij hx hy;have h1:∀(q:Nat) (z:Int),(atZ fr m)[q]? = some z→z=2+(fr:Int)+(q:Int):=fun q z hz=>by
  unfold atZ at hz;rw[List.getElem?_map] at hz;obtain⟨k,hk,rfl⟩:=Option.map_eq_some_iff.1 hz;obtain⟨hq,e⟩:=List.getElem?_eq_some_iff.1 hk;rw[List.getElem_range] at e;rw[e]
 rw[h1 i x hx,h1 j y hy];omega
def LaidTo (w:World) (l:List Pz) (fr:Nat) (e:Ending) (w':World):Prop:=Below w.heap.size w w' ∧
 ((smallZ l=false∧∃p lf a m d vW,e=.returned (.tuple #[.agg #[.int .i64 p,.bool lf,.slice a m d],vW,.bool false])) ∨
 (smallZ l=true∧∃N T,LaidR l N T∧∃R,layT N T (atZ fr (freshN N T))=R∧∃p lf a m d aW cW,e=.returned (.tuple #[.agg #[.int .i64 p,.bool lf,.slice a m d],.slice aW R.2.1.length cW,.bool true])∧RNodeOn (fun x=>w.heap.size<x) N w' [.int .i64 p,.bool lf,.slice a m d] R.1∧w'.ownsRow (w.heap.size+1) 41 2 (.slice aW R.2.1.length cW) R.2.1.length (R.2.1.flatMap wcl)))
theorem info_b20:(Tryz.prog.info? 5).map (fun i=>(i.zero,i.size,i.bytes))=some (some (.int .u8 0),1,1):=by kernel_rfl
theorem make_fill20 (n:Nat) (hn:n≤400) (w:World):∃w1,(Instr.makeSlice 42 (.int .i64 (n:Int)) (.int .i64 (n:Int))).run Tryz.prog w=.ok (.slice (some ⟨w.heap.size,0,none⟩) n n) w1∧Below w.heap.size w w1∧(convert 42 9 (.slice (some ⟨w.heap.size,0,none⟩) n n)).run Tryz.prog w1=.ok (.string (strOf (fillT 0 n))) w1:=by
 obtain⟨i0,hi,hz0,hz1,hz2⟩:=info_parts info_b20;obtain⟨w1,hm,ho1,hg1⟩:=run_makeSlice_full (P:=Tryz.prog) (w:=w) w.heap.size 42 5 i0 _ 1 Tryz.underlying42 hi hz0 hz1 .i64 .i64 n (by omega) (by rw[hz2];omega) (by unfold maxLen;omega) (Nat.le_refl _);refine⟨w1,hm,(Below.refl _ _).grown hg1 (Nat.le_refl _) (fun j e=>by cases e),?_⟩;have ho:w1.ownsRow w.heap.size 5 1 (.slice (some ⟨w.heap.size,0,none⟩) n n) n ((toI (fillT 0 n)).map (Value.int .u8)):=by
  have hmade:(madeCells (Value.int .u8 0).cells (n*1)).toList=List.replicate n (.int .u8 0):=by rw[Nat.mul_one];exact made_list (.int .u8 0) n
  rw[hmade] at ho1;have e:((toI (fillT 0 n)).map (Value.int .u8))=List.replicate n (.int .u8 0):=by simp[toI,fillT]
  rw[e];exact ho1
 exact conv_string Tryz.underlying42 Tryz.underlying5 Tryz.underlying9 (Bs.own ho)
theorem LaidR.nextN {l:List Pz} {i m:Nat} {t:Tr} (h:LaidR (l.take i) m t) {k:List UInt8} {sn:Nat} (hy:l[i]? = some ⟨k,(sn:Int)⟩) (ho:okZ ⟨k,(sn:Int)⟩=true):∃m',m'≤m+1∧LaidR (l.take (i+1)) m' (putW m t k ⟨fillT 0 sn,[]⟩):=by
 have hp:(⟨k,(sn:Int)⟩:Pz).ok:=by
  unfold okZ at ho;simp at ho;exact⟨ho.1,ho.2.1,by simp,by simpa using ho.2.2⟩
 obtain⟨m',h1,h2⟩:=h.more hp;rw[List.take_succ_eq_append_of hy];exact⟨m',h1,h2⟩
theorem laid_any {w:World} {a:Option Addr} {n c:Nat} {l:List Pz} (h:Pzs w a n c l) {fr:Nat} (hfr:fr≤255):Calls Tryz.prog 10 #[.slice a n c,.int .u8 (fr:Int)] w (LaidTo w l fr):=by
 obtain⟨e1,e2,e3⟩:=TabR.lens h;have HP:=Hd h;have HL:=Hd e1;obtain⟨W0,hW0⟩:∃x,w.alloc (.cells #[.int .i64 0,.bool false,.slice none 0 0] 27)=x:=⟨_,rfl⟩
 have hb0:Below w.heap.size w W0:=by rw[←hW0];exact Below.al (Below.refl _ _)
 have hx0:Boxes W0 [(w.heap.size,[.int .i64 0,.bool false,.slice none 0 0])]:=by
  rw[←hW0];exact(Boxes.nil w).alloc #[.int .i64 0,.bool false,.slice none 0 0] 27 (b:=w.heap.size) rfl
 have hs0:W0.heap.size=w.heap.size+1:=by rw[←hW0];simp
 have E2:=rempty_any W0 (fun _=>False);have HB0:=Hd hb0;have HX0:=Hd hx0;have HS0:=Hd hs0;clear h e1 hb0 hx0 hs0;go_enter Tryz.func10,Tryz.ntmps10;go_wp2_with fail;refine E2.mono ?_;rintro e w1 ⟨cs,rfl,hn5,hb5⟩;obtain⟨y1,j1,ecs,hn5⟩:=rempty_on (F:=fun x=>w1.heap.size+1≤x) hn5;subst ecs;have hs1:w.heap.size<w1.heap.size:=by have:=HS0.out;have:=hb5.size;omega
 have hb5a:Below w1.heap.size w1 (w1.alloc (.cells #[.int .i64 0,.bool true,.slice y1 0 j1] 27)):=Below.al (Below.refl _ _);have hbW:=below_via hb5 hb5a;have HR:Hid (RBox (w1.heap.size+1) w1.heap.size (w1.alloc (.cells #[.int .i64 0,.bool true,.slice y1 0 j1] 27)) 1 (.leaf 0 [])):=Lib.hid
  ⟨_,_,_,_,_,(Boxes.nil w1).alloc #[.int .i64 0,.bool true,.slice y1 0 j1] 27 (b:=w1.heap.size) rfl,hn5.below hb5a⟩
 have HZ:=Hd (HX0.out.step hbW);have HBEL:=Hd (below_via HB0.out hbW);clear E2 hn5 hb5 hb5a hbW hW0;go_wp2_with fail
 go_loopw [8] (fun s8 wr=>∃(i N:Nat) (t:Tr),i≤n∧s8=.int .i64 i∧RBox (w1.heap.size+1) w1.heap.size wr N t∧Hid (LaidR (l.take i) N t)∧Boxes wr [(w.heap.size,[.int .i64 0,.bool false,.slice none 0 0])]∧Hid ((l.take i).all okZ=true)∧(i=0∨n≤60)∧Below w.heap.size w wr) (fun s _=>n-(intOf s).toNat)
 case atStart=>exact⟨0,1,_,Nat.zero_le _,rfl,HR.out,Hd .nil,HZ.out,Hd rfl,.inl rfl,HBEL.out⟩
 case round=>
  clear HR HZ HBEL;obtain⟨i,N,t,hi,rfl,hrb,HLR,hz0,hall,h120,hb⟩:=hrel;obtain⟨p,lf,a1,n1,c1,hx,hr⟩:=hrb;have f0:=hx.cell 0 0 rfl rfl;have f1:=hx.cell 0 1 rfl rfl;have f2:=hx.cell 0 2 rfl rfl;have hsz5:w1.heap.size+1≤wr.heap.size:=hx.lt 0 rfl
  by_cases hlt:i<n
  ·obtain⟨bl,ol,y,rfl,hbl,hy,c0,c1'⟩:=HP.out.at hlt
   have hlt':(i:Int)<(n:Int):=by omega
   have hbl2:=Nat.lt_of_lt_of_le hbl hb.size;have HGOOD:Hid (okZ y=true→(l.take (i+1)).all okZ=true):=Hd (fun hp=>all_next hy hp hall.out);have HBAD:Hid (okZ y=false∨60<n→smallZ l=false):=Hd (fun hp=>by
    rcases hp with hp|hp
    ·unfold smallZ;rw[all_bad hy hp];rfl
    ·unfold smallZ
     rw[show decide (l.length≤60)=false by simp;have:=HL.out;omega,Bool.and_false])
   have HY:=Hd hy;obtain⟨k,sz⟩:=y;dsimp only at *;have v0:=(hb.cell (p:=⟨bl,ol+i*2,none⟩) hbl).trans c0;have v1:=(hb.cell (p:=⟨bl,ol+i*2+1,none⟩) hbl).trans c1';have hszk:=strOf_size k;obtain⟨m,hm⟩:∃m,k.length=m:=⟨_,rfl⟩
   rw[hm] at hszk;have HM:=Hd hm;clear hm hy
   by_cases kb:k=[]
   ·have g1:=str_empty kb
    have hs:=HBAD.out (by left;unfold okZ;simp[kb]);exact qf1843d
   have g1:=str_some kb
   by_cases k16:¬m≤16
   ·have d1:decide ((16:Int)<m)=true:=by simp;omega
    have d1':decide (16<m)=true:=by simp;omega
    have hs:=HBAD.out (by left;unfold okZ;simp[HM.out,k16]);exact qf1843d
   have k16:m≤16:=by omega
   have d1:decide ((16:Int)<m)=false:=by simp;omega
   have d1':decide (16<m)=false:=by simp;omega
   by_cases s0:sz<0
   ·have d3:decide (sz<0)=true:=by simp;omega
    have hs:=HBAD.out (by left;unfold okZ;simp;intros;omega);exact qf1843d
   have d3:decide (sz<0)=false:=by simp;omega
   by_cases s4:¬sz≤400
   ·have d4:decide ((400:Int)<sz)=true:=by simp;omega
    have hs:=HBAD.out (by left;unfold okZ;simp;intros;omega);exact qf1843d
   have s4:sz≤400:=by omega
   have d4:decide ((400:Int)<sz)=false:=by simp;omega
   by_cases n12:¬n≤60
   ·have d5:decide ((60:Int)<n)=true:=by simp;omega
    have d5':decide (60<n)=true:=by simp;omega
    have hs:=HBAD.out (by right;omega);exact qf1843d
   have n12:n≤60:=by omega
   have d5:decide ((60:Int)<n)=false:=by simp;omega
   have d5':decide (60<n)=false:=by simp;omega
   obtain⟨sn,rfl⟩:∃sn:Nat,sz=(sn:Int):=⟨sz.toNat,by omega⟩
   have hsn:sn≤400:=by omega
   have hokz:okZ ⟨k,(sn:Int)⟩=true:=by unfold okZ;simp[kb,HM.out,k16];omega
   have hall':=HGOOD.out hokz;have HALL:=Hd hall';have hyk:keyOk k:=⟨kb,by rw[HM.out];exact k16⟩
   obtain⟨M,hM,hLM⟩:=HLR.out.nextN HY.out hokz;clear hall' HGOOD HBAD hall hokz HY;obtain⟨T,hT⟩:∃T,putW N t k ⟨fillT 0 sn,[]⟩=T:=⟨_,rfl⟩
   rw[hT] at hLM;have HLM:=Hd hLM;have hw:=HLR.out.whole;obtain⟨w6,hmk,hb6,hcv⟩:=make_fill20 sn hsn wr.drew;have hB6:Below wr.heap.size wr w6:=below_via (Below.dr (Below.refl _ _)) hb6;have hA6:AgreeF (fun x=>x≠w1.heap.size) wr w6:=AgreeF.of_below hB6;have CRc:∀W,Below wr.heap.size wr W→Calls Tryz.prog 42 #[.agg #[.int .i64 p,.bool lf,.slice a1 n1 c1],.string (strOf k),.string (strOf (fillT 0 sn))] W (RGo (fun x=>w1.heap.size+1≤x) M W T):=fun W hW=>by
    have:=rPut_whole (F:=fun x=>w1.heap.size+1≤x∧x<wr.heap.size) (fun b h=>Nat.lt_of_lt_of_le h.2 hW.size) (hr.lt.below hW) hw k (fillT 0 sn) hyk (by rw[fillT_len];exact hsn);rw[hT] at this;exact this.mono fun e w' h=>h.go (fun b hb=>fr_le (fun b h=>h.1) hsz5 hW.size hb) HLM.out.whole.1.1
   have l0:∀W,AgreeF (fun x=>x≠w1.heap.size) wr W→W.cell? ⟨bl,ol+i*2,none⟩=some (.string (strOf k)):=fun W hW=>(hW.cell (by show bl≠w1.heap.size;omega) hbl2).trans v0
   have l1:∀W,AgreeF (fun x=>x≠w1.heap.size) wr W→W.cell? ⟨bl,ol+i*2+1,none⟩=some (.int .i64 (sn:Int)):=fun W hW=>(hW.cell (by show bl≠w1.heap.size;omega) hbl2).trans v1
   have hx6:=hx.step hB6;have m0:=hx6.cell 0 0 rfl rfl;have m1:=hx6.cell 0 1 rfl rfl;have m2:=hx6.cell 0 2 rfl rfl;have HX:=Hd hx;have HZ:=Hd hz0;have HB:=Hd hb;clear hx hr hz0 hb hw hyk kb hT hx6 s0 hLM HLR;go_upto_region 7 with(fail)
   clear v0 v1;refine wp_region_noPanic ?_;refine wp_region_held_drew (S:=(fun W=>AgreeF (fun x=>x≠w1.heap.size) wr W)) (by kernel_rfl) (by(repeat (with_reducible first|assumption|exact AgreeF.refl _|apply AgreeF.al|apply AgreeF.dr|apply AgreeF.st))) (fun hHeld=>?_);refine tks [1,2] ?_;refine tks [3,4] ?_;refine tks [5,6] ?_;refine tks [7,8] ?_;refine tks [9,10] ?_;refine rdy2 0 11 (fun K hK=>?_) (fun K hK=>?_)
   ·(rw[if_pos (by rfl)];go_wp2_with (fail))
    refine bkA hK (fun hHeld=>?_);clear hK K;refine rdy 11 (fun K hK=>?_);refine step_make_run rfl _ _ _ rfl rfl rfl hmk ?_;refine bkA hK (fun hHeld=>?_);clear hK K;refine rdy 12 (fun K hK=>?_);refine step_convert_run rfl _ _ _ rfl rfl hcv ?_;exact qa3ab36
   ·refine step_make_run rfl _ _ _ rfl rfl rfl hmk ?_
    refine bkA hK (fun hHeld=>?_);clear hK K;refine rdy2 0 12 (fun K hK=>?_) (fun K hK=>?_)
    ·(rw[if_pos (by rfl)];go_wp2_with (fail))
     refine bkA hK (fun hHeld=>?_);clear hK K;refine rdy 12 (fun K hK=>?_);refine step_convert_run rfl _ _ _ rfl rfl hcv ?_;exact qa3ab36
    ·refine step_convert_run rfl _ _ _ rfl rfl hcv ?_
     refine bkA hK (fun hHeld=>?_);clear hK K;refine rdy 0 (fun K hK=>?_)
     (rw[if_pos (by rfl)];go_wp2_with (fail))
     exact qa3ab36
  ·obtain rfl:i=n:=by omega
   obtain⟨wA,hwA⟩:∃x,x=wr:=⟨_,rfl⟩
   subst hwA;have hlt':decide ((i:Int)<(i:Int))=false:=by simp
   have hs:smallZ l=true:=by
    unfold smallZ;rw[all_whole (by rw[HL.out];exact Nat.le_refl _) hall.out,HL.out,Bool.true_and];simp;omega
   have hlr:=HLR.out;rw[List.take_of_length_le (by rw[HL.out];exact Nat.le_refl _)] at hlr;have hl60:l.length≤60:=by unfold smallZ at hs;simp at hs;exact hs.2
   have hfn:=hlr.fresh;have hnn:=hlr.ents.2;have CF0:∀W,Below wA.heap.size wA W→Calls Tryz.prog 43 #[.agg #[.int .i64 p,.bool lf,.slice a1 n1 c1]] W fun e w'=>e=.returned (.int .i64 (freshN N t:Nat))∧Below W.heap.size W w':=fun W hW=>
    rfresh_any (hr.below hW) hlr.bare hlr.whole.bnd (by omega)
   have CL0:∀W,Below wA.heap.size wA W→∀a9 c9,Row .i64 W a9 (freshN N t) c9 (atZ fr (freshN N t))→(∀x,a9=some x→wA.heap.size≤x.block∧x.block<W.heap.size)→Calls Tryz.prog 44 #[.agg #[.int .i64 p,.bool lf,.slice a1 n1 c1],.slice a9 (freshN N t) c9] W (LayTo (fun b=>wA.heap.size≤b∧b<W.heap.size) W N (layT N t (atZ fr (freshN N t)))):=fun W hW a9 c9 hrow hin=>
    Lay_any (F:=fun b=>wA.heap.size≤b∧b<W.heap.size) (G:=fun x=>w1.heap.size+1≤x∧x<wA.heap.size) (hr.lt.below hW) (fun b hb=>Nat.lt_of_lt_of_le hb.2 hW.size) hlr.bare hlr.whole.bnd (by omega) (whole_check hlr.whole) hrow hin (fun b hb=>hb.2) (atZ_rises _ _) (by omega) (fun p hp=>by have:=atZ_mem hp;omega) (Nat.le_refl _)
   obtain⟨f,hf⟩:∃f,freshN N t=f:=⟨_,rfl⟩
   rw[hf] at CF0 CL0 hfn;have HF:=Hd hf;have HLR2:=Hd hlr;have HS:=Hd hs;have HX:=Hd hx;have HZ:=Hd hz0;have HB:=Hd hb;have hf3:f≤360:=by omega
   have HII:=Hd infoI;clear hs hlr hr hx hz0 hb hall HLR hl60 hfn hf;go_wp2_with fail
   go_loopw [9,10] (fun s9 s10 wx=>∃k:Nat,k≤f∧s10=.int .i64 k∧wx.ownsRow wA.heap.size 3 1 s9 k ((atZ fr k).map (Value.int .i64))∧Below wA.heap.size wA wx) (fun _ s _=>f-(intOf s).toNat)
   case atStart=>exact⟨0,Nat.zero_le _,rfl,own_nil _ _ _ _,Below.refl _ _⟩
   case round=>
    obtain⟨k,hk,rfl,hown,hbx⟩:=hrel;have hx4:=HX.out.step hbx;have g0:=hx4.cell 0 0 rfl rfl;have g1:=hx4.cell 0 1 rfl rfl;have g2:=hx4.cell 0 2 rfl rfl;clear hx4 f0 f1 f2;go_wp2_with fail;refine(CF0 _ hbx).mono ?_;rintro e w6 ⟨rfl,hb6⟩;have hbx6:=below_via hbx hb6;have hown6:=own_below hown (Nat.le_refl _) hb6
    by_cases hkf:k<f
    ·have hkf':decide ((k:Int)<(f:Int))=true:=by simp;omega
     obtain⟨i0,hi0,hz0,hz1,hz2⟩:=info_parts HII.out;obtain⟨u,hu⟩:∃u,(2:Int)+(fr:Int)+(k:Int)=u:=⟨_,rfl⟩
     have hun:=atZ_succ fr k;rw[hu] at hun;have HUN:=Hd hun;have HSZ:=Hd hbx6.size;have hB1:=Hd (hbx6.alloc hbx6.size (.cells #[.int .i64 u] 3));have hown1:=hown6.alloc (.cells #[.int .i64 u] 3);have hcl:(w6.alloc (.cells #[.int .i64 u] 3)).cell? ⟨w6.heap.size,0,none⟩=some (.int .i64 u):=by
      simp only[World.cell?,World.alloc_heap_new];rfl
     have HG:=Hd (own_ge hown6);clear hun hown hown6 hbx hbx6 hb6 g0 g1 g2
     go_wp2_with (at_builtin;refine wpList_append_one rfl _ _ 35 rfl wA.heap.size 3 i0 _ 8 Tryz.underlying35 hi0 hz0 hz1 hz2 rfl _ k _ rfl hown1 w6.heap.size rfl (.int .i64 u) hcl rfl (by unfold maxLen;omega) (by omega) (by have:=HSZ.out;simp;omega) ?_)
     intro v2 w2 hown2 hg;have HBB:=Hd (hB1.out.grown hg (by have:=HSZ.out;simp;omega) (fun j e=>HG.out j e));clear hg;go_wp2_with fail;go_roundw
     case rel=>exact⟨k+1,by omega,by go_num,by rw[HUN.out,List.map_append];exact hown2,HBB.out⟩
     case measure=>simp[intOf];omega
    ·obtain rfl:k=f:=by omega
     have hkf':decide ((k:Int)<(k:Int))=false:=by simp
     obtain⟨a9,c9,rfl,hrow⟩:=Row.of_own hown6;have hin:∀x,a9=some x→wA.heap.size≤x.block∧x.block<w6.heap.size:=fun x hx9=>by
      subst hx9;exact⟨own_ge hown6 _ rfl,own_lt hown6 _ rfl⟩
     have CL:=CL0 w6 hbx6 a9 c9 hrow hin;have hx6:=HX.out.step hbx6;have q0:=hx6.cell 0 0 rfl rfl;have q1:=hx6.cell 0 1 rfl rfl;have q2:=hx6.cell 0 2 rfl rfl;have hz6:=HZ.out.step hbx6;have HZ6:=Hd hz6;have HB6:=Hd (below_via HB.out hbx6);have HS6:=Hd hbx6.size;obtain⟨R,hR⟩:∃x,layT N t (atZ fr k)=x:=⟨_,rfl⟩
     rw[hR] at CL;have HR:=Hd hR;clear hR hin hrow hown hown6 hbx hbx6 hb6 hx6 hz6 CL0 CF0 g0 g1 g2;go_wp2_with fail;refine CL.mono ?_;rintro e w9 ⟨p9,l9,a9',n9,c9',vW,vX,rfl,hn9,ho9,hb9⟩;obtain⟨aW,cW,rfl,_⟩:=own_slice ho9;have hs6:=HS6.out;obtain⟨w5,hw5⟩:∃x,w9.alloc (.cells #[.int .i64 p9,.bool l9,.slice a9' n9 c9'] 27)=x:=⟨_,rfl⟩
     have hb45:Below w9.heap.size w9 w5:=by rw[←hw5];exact Below.al (Below.refl _ _)
     have hxo:Boxes w5 [(w9.heap.size,[.int .i64 p9,.bool l9,.slice a9' n9 c9'])]:=by rw[←hw5];exact(Boxes.nil w9).alloc #[.int .i64 p9,.bool l9,.slice a9' n9 c9'] 27 rfl
     have hb96:Below w6.heap.size w6 w5:=below_via hb9 hb45;have hx5:=HZ6.out.step hb96;have hb5:Below w.heap.size w w5:=below_via HB6.out hb96;have o0:=hxo.cell 0 0 rfl rfl;have o1:=hxo.cell 0 1 rfl rfl;have o2:=hxo.cell 0 2 rfl rfl;have m0:=hx5.cell 0 0 rfl rfl;have m1:=hx5.cell 0 1 rfl rfl;have m2:=hx5.cell 0 2 rfl rfl;have u0:=hx5.frozen 0 0 rfl;have u1:=hx5.frozen 0 1 rfl;have u2:=hx5.frozen 0 2 rfl;obtain⟨we,hwe⟩:∃x,x=st3 w5 w.heap.size (.int .i64 p9) (.bool l9) (.slice a9' n9 c9'):=⟨_,rfl⟩
     have hxe:=st3_box hx5 (.int .i64 p9) (.bool l9) (.slice a9' n9 c9');rw[←hwe] at hxe;have z0:=hxe.cell 0 0 rfl rfl;have z1:=hxe.cell 0 1 rfl rfl;have z2:=hxe.cell 0 2 rfl rfl;have HE:Hid (LaidTo w l fr (.returned (.tuple #[.agg #[.int .i64 p9,.bool l9,.slice a9' n9 c9'],.slice aW R.2.1.length cW,.bool true])) we):=Hd (by
      have hoe:Only [w.heap.size] w5 we:=by rw[hwe];exact st3_only _ _ _ _ _
      have hbe:Below w.heap.size w we:=hb5.trans (hoe.below (by have:=hb5.size;omega) (by simp));refine⟨hbe,.inr ⟨HS.out,N,t,HLR2.out,R,by rw[HF.out];exact HR.out,p9,l9,a9',n9,c9',aW,cW,rfl,?_,?_⟩⟩
      ·refine RNodeOn.mono (fun b hb=>?_) ((hn9.agree (AgreeF.of_below hb45)).agree (w':=we) ⟨hoe.size,fun b hb hlt9=>hoe.block hlt9 (fun hm9=>?_)⟩)
       ·rcases hb with hb|hb
        ·omega
        ·omega
       ·simp at hm9
        rcases hb with hb|hb<;>omega
      ·have h9:=own_only (own_below ho9 (Nat.le_refl _) hb45) hoe (fun k hk hm9=>by have:=own_ge ho9 k hk;simp at hm9;omega)
       exact own_base h9 (show w.heap.size+1≤w6.heap.size by omega))
     clear hxe hx5 hxo hb5 hb45 hb96 hn9 ho9 hb9 CL;go_wp2_with fail;change bodyPost Tryz.prog _ _ _ _ (st3 w5 w.heap.size (.int .i64 p9) (.bool l9) (.slice a9' n9 c9'));rw[←hwe];refine bodyPost_ret (v:=.tuple #[.agg #[.int .i64 p9,.bool l9,.slice a9' n9 c9'],.slice aW R.2.1.length cW,.bool true]) (by simp[results,Tryz.results10,go_sem,z0,z1,z2]) rfl ?_;exact HE.out
open Go.RowKit
theorem zerosL_sum:(crcOf (List.replicate 124 0) == 0)=false:=by kernel_rfl
theorem zerosL_unp:unpE (List.replicate 128 0)=12:=by
 have h:=zerosL_sum;unfold unpE;rw[if_neg (by simp)];have e1:(List.replicate 128 (0:UInt8)).take 4=List.replicate 4 0:=by simp
 have e2:(List.replicate 128 (0:UInt8)).drop 4=List.replicate 124 0:=by simp
 rw[e1,e2,if_pos];intro e;have hz:beVal (List.replicate 4 0)=0:=by decide
 rw[hz] at e;rw[←e] at h;simp at h
theorem load_sum {d:List Rg} {r N:Nat} {f:Nat→List UInt8} (hd:RegAt d r N f) {p:Int} (hp:1≤p∧p<N) (hz:unpE (f p.toNat)=12):loadD d r p=.error 12:=by
 have hpd:pagedE d r p=0:=by rw[hd.paged,if_pos ⟨by omega,hp.2⟩]
 have hrd:readB d r p=f p.toNat:=hd.read ⟨by omega,hp.2⟩;have hg:getNE (f p.toNat)=12:=by
  unfold getNE;rw[if_pos (by rw[hz];decide),hz]
 have:loadT d r (999+1) [] p=.error 12:=by
  rw[loadT,if_neg (by simp),if_neg (by rw[hpd];decide),hrd,if_pos (by rw[hg];decide),hg]
 unfold loadD;rw[if_neg (by omega),show(1000:Nat)=999+1 from rfl,this]
theorem LaidR.nil_inv {m:Nat} {t:Tr} (h:LaidR [] m t):m=1∧t=.leaf 0 []:=by
 generalize hL:([]:List Pz)=L at h;cases h with
 | nil=>exact⟨rfl,rfl⟩
 | put=>simp at hL
theorem LaidR.one_inv {p:Pz} {m:Nat} {t:Tr} (h:LaidR [p] m t):t=putW 1 (.leaf 0 []) p.key p.val∧Whole m t:=by
 generalize hL:[p]=L at h;cases h with
 | nil=>cases hL
 | @put l m0 m' t0 p' h0 hok hm hw he=>
  have:l=[]∧p'=p:=by
   cases l with
   | nil=>simp at hL;exact⟨rfl,hL.symm⟩
   | cons=>simp at hL
  obtain⟨rfl,rfl⟩:=this;obtain⟨rfl,rfl⟩:=h0.nil_inv;exact⟨rfl,hw⟩
def aP:Pz:=⟨[107],30⟩
def aD:List UInt8:=List.replicate 30 0
def aT:Tr:=.leaf 0 [([107],⟨aD,[]⟩)]
def aL:Tr:=.leaf 3 [([107],⟨aD,[2]⟩)]
theorem aw_tree:putW 1 (.leaf 0 []) aP.key aP.val=aT:=by kernel_rfl
theorem aw_fresh:freshN 1 aT=2:=by kernel_rfl
theorem aw_lay:(layT 1 aT (atZ 0 2)).1=aL:=by kernel_rfl
theorem aw_small:smallZ [aP]=true:=by kernel_rfl
theorem aw_spots:Spots 9 (atZ 0 2):=atZ_spots (fr:=0) (by omega) (by omega)
theorem aw_laid {N:Nat} {T:Tr} (h:LaidR [aP] N T):N=1∧T=aT∧Whole 1 aT∧Bare aT:=by
 have hb:=h.bare;obtain⟨h1,h2⟩:=h.one_inv;rw[aw_tree] at h1;subst h1;cases N with
 | zero=>exact h2.1.1.elim
 | succ n=>
  have:n=0:=h2.1.1.1;subst this;exact⟨rfl,rfl,h2,hb⟩
theorem aw_writes (hw:Whole 1 aT) (hb:Bare aT):(layT 1 aT (atZ 0 2)).2.1.map (·.1)=[2,3]∧∀x∈(layT 1 aT (atZ 0 2)).2.1,x.2.length=128:=by
 have h:=whole_writes hw hb aw_spots (by rw[aw_fresh,atZ_len];omega);rw[aw_fresh] at h;exact⟨h.1.trans (by decide),h.2⟩
theorem aw_loads (hw:Whole 1 aT) (hb:Bare aT) {d:List Rg} (h:Wrtn zeros 9 (layT 1 aT (atZ 0 2)).2.1 2 d):loadD d 0 3=.ok aL∧loadD d 0 7=.error 12∧loadD d 0 0=.ok (.leaf 0 []):=by
 obtain⟨w1,w2⟩:=aw_writes hw hb;have hl:=congrArg List.length w1;simp only[List.length_map] at hl;obtain⟨f,h1,h2,h3⟩:=h;rw[List.take_of_length_le (by rw[hl];exact Nat.le_refl _)] at h2 h3;refine⟨?_,load_sum h1 (by omega) ?_,?_⟩
 ·have:=loadD_back h1 (n:=1) (by omega) hw hb aw_spots (by rw[aw_fresh,atZ_len];omega) h2
  rw[aw_lay] at this;exact this
 ·show unpE (f 7)=12
  rw[h3 7 (fun x hx e=>by
   have:x.1∈[(2:Int),3]:=by rw[←w1];exact List.mem_map.2 ⟨x,hx,rfl⟩
   simp at this;omega)]
  exact zerosL_unp
 ·unfold loadD
  exact if_pos rfl
open Go.RowKit
theorem empty_on2 {F G:Nat→Prop} {w:World} {cs:List Value} (h:NodeOn G 1 w cs (.leaf 0 [])):∃a1 c1 a2 c2 a3 c3,cs=[.int .i64 0,.bool true,.slice a1 0 c1,.slice a2 0 c2,.slice a3 0 c3]∧NodeOn F 1 w cs (.leaf 0 []):=by
 obtain⟨ka,kn,kc,va,vn,vc,ca,cc,e,h1,_,h2,_,h3⟩:=h;obtain rfl:kn=0:=h1.1.symm;obtain rfl:vn=0:=h2.1.symm;exact⟨ka,kc,va,vc,ca,cc,e,ka,0,kc,va,0,vc,ca,cc,e,h1,Fa.zero _ _,unit_any (α:=Tv) h2,Fa.zero _ _,h3⟩
open Go.RowKit
theorem aw_one20 (W:World) (n:Int):Row .i64 (W.alloc (.cells #[.int .i64 n] 3)) (some ⟨W.heap.size,0,none⟩) 1 1 [n]:=Row.made .i64 W 3 [n] rfl (by unfold maxLen;simp)
theorem aw_row (w:World):Pzs (w.alloc (.cells #[.string ⟨#[107]⟩,.int .i64 30] 99)) (some ⟨w.heap.size,0,none⟩) 1 1 [aP]:=by
 refine⟨rfl,Nat.le_refl _,by unfold maxLen;omega,fun h=>(by cases h),.inr ⟨_,0,rfl,by simp,fun i y hy=>?_⟩⟩
 match i,hy with
 | 0,hy=>
  cases hy;refine⟨pzC aP,rfl,rfl,fun j v hj=>?_⟩
  match j,hj with
  | 0,hj=>cases hj;simp only[World.cell?,World.alloc_heap_new];rfl
  | 1,hj=>cases hj;simp only[World.cell?,World.alloc_heap_new];rfl
  | j+2,hj=>simp[pzC] at hj
 | i+1,hy=>simp at hy
theorem One.opens_at {B:Nat} {w w1:World} {da M:Nat} {d:List Rg} (h:One B w da M d) (hb:Below w.heap.size w w1):Opens B w.heap.size w1 da M d (fun w' M' d'=>One B w' da M' d'∧Below B w1 w'):=by
 obtain⟨F,bs,h1,h2,h3⟩:=h;have hs:=hb.size;refine⟨F,bs,h1.below hb,fun k hk=>⟨h2 k hk,h1.lt k hk⟩,hs,by omega,fun w' F' bs' d' M' _ ho hd hF=>⟨⟨F',bs',hd,fun k hk=>(hF k hk).elim (h2 k) (fun h=>by omega),by have:=ho.size;omega⟩,ho.below (by omega) h2⟩⟩
def Wrs (w:World) (a:Option Addr) (n c:Nat) (W:List Wr):Prop:=TabR 2 (fun cs y=>cs=wcl y) w a n c W
theorem Wrs.at {w:World} {a:Option Addr} {n c:Nat} {l:List Wr} (h:Wrs w a n c l) {k:Nat} (hk:k<n) :
 ∃b off y,a=some ⟨b,off,none⟩∧b<w.heap.size∧l[k]? = some y∧w.cell? ⟨b,off+k*2,none⟩=some (.int .i64 y.1)∧w.cell? ⟨b,off+k*2+1,none⟩=some (.string (strOf y.2)):=by
 obtain⟨b,off,y,cs,e1,e2,e3,_,e5,e6⟩:=TabR.at h hk;obtain rfl:cs=wcl y:=e5;exact⟨b,off,y,e1,e2,e3,e6 0 _ rfl,e6 1 _ rfl⟩
theorem Wrs.own {w:World} {base:Nat} {e:TypeId} {a:Option Addr} {c:Nat} {l:List Wr} (h:w.ownsRow base e 2 (.slice a l.length c) l.length (l.flatMap wcl)):Wrs w a l.length c l:=by
 obtain⟨a',c',e,hr⟩:=TabR.of_own (R:=fun cs y=>cs=wcl y) wcl (fun y=>rfl) (fun y=>rfl) h;cases e;exact hr
theorem aw_open {F:Nat→Prop} {w:World} {cs:List Value} (h:NodeOn F 1000 w cs aL):∃ka kc va vc ca cc,cs=[.int .i64 3,.bool true,.slice ka 1 kc,.slice va 1 vc,.slice ca 0 cc]∧∃b off,va=some ⟨b,off,none⟩∧b<w.heap.size∧w.cell? ⟨b,off,none⟩=some (.string (strOf aD))∧1≤vc∧vc≤maxLen:=by
 have h:NodeOn F (999+1) w cs aL:=h;obtain⟨ka,kn,kc,va,vn,vc,ca,cc,rfl,h1,_,h2,_,h3⟩:=h;have hk:kn=1:=by have:=(TabR.lens h1).1;simpa[keysOf] using this.symm
 have hv:vn=1:=by have:=(TabR.lens h2).1;simpa using this.symm
 subst hk hv;refine⟨ka,kc,va,vc,ca,cc,rfl,?_⟩;obtain⟨b,off,y,tcs,e1,e2,e3,_,e5,e6⟩:=TabR.at h2 (show 0<1 by omega);simp at e3;subst e3;obtain⟨pa,pn,pc,rfl,_⟩:=e5;have:=e6 0 _ rfl;exact⟨b,off,e1,e2,by simpa using this,(TabR.lens h2).2.1,(TabR.lens h2).2.2⟩
theorem awake20_any (w:World) (hh:Half w):Calls Tryz.prog 9 #[] w fun e w'=>e=.returned (.bool true)∧Below w.heap.size w w':=by
 have L:=laid_any (aw_row w) (fr:=0) (by omega);have hb0:Below w.heap.size w (w.alloc (.cells #[.string ⟨#[107]⟩,.int .i64 30] 99)):=Below.al (Below.refl _ _);go_enter Tryz.func9,Tryz.ntmps9;go_wp2_with fail;refine L.mono ?_;rintro e w1 ⟨hb1,hr⟩
 rcases hr with⟨hs,_⟩|⟨_,N,T,hlr,R,hR,p,lf,a,m,c,aW,cW,rfl,hn,ho⟩
 ·rw[aw_small] at hs;cases hs
 obtain⟨rfl,rfl,hwh,hbr⟩:=aw_laid hlr;rw[aw_fresh] at hR;obtain⟨q1,q2⟩:=aw_writes hwh hbr;obtain⟨w2,hw2⟩:∃x,w1.alloc (.cells #[.int .i64 p,.bool lf,.slice a m c] 27)=x:=⟨_,rfl⟩
 have hRl:R.1=aL:=by rw[←hR];exact aw_lay
 rw[hRl] at hn;have hp3:p=3:=by
  exact qc97986
 subst hp3;rw[hR] at q1 q2;have hlen:R.2.1.length=2:=by have:=congrArg List.length q1;simpa using this
 have hb12:Below w1.heap.size w1 w2:=by rw[←hw2];exact Below.al (Below.refl _ _)
 have hWR:=(Wrs.own ho)
 have hWR2:Wrs w2 aW R.2.1.length cW R.2.1:=TabR.below (Nat.le_refl _) hb12 hWR;have hcW:=(TabR.lens hWR).2;unfold maxLen at hcW;rw[hlen] at hWR2 hcW ⊢;have hx2:Boxes w2 [(w1.heap.size,[.int .i64 3,.bool lf,.slice a m c])]:=by rw[←hw2];exact(Boxes.nil w1).alloc #[.int .i64 3,.bool lf,.slice a m c] 27 rfl
 have hbw2:Below w.heap.size w w2:=below_via (below_via hb0 hb1) hb12;have HP:=Hd hWR2;have HX:=Hd hx2;have HB2:=Hd hbw2;have HQ:=Hd (And.intro q1 q2);have HWB:=Hd (And.intro hwh hbr);have HRR:=Hd hR;have HLEN:=Hd hlen;have D:=new_ok (aw_one20 w2 9) (by decide);have hsz2:(w2.alloc (.cells #[.int .i64 9] 3)).heap.size=w2.heap.size+1:=by simp
 clear L hb0 hb1 hlr hR q1 q2 hRl hn hb12 hWR hWR2 hx2 hbw2 hwh hbr ho hlen;go_wp2_with fail;refine D.mono ?_;rintro e w3 ⟨db,rfl,hd3,hb3⟩;rw[hsz2] at hd3;have hw3:Below w2.heap.size w2 w3:=below_then ((Below.refl _ _).alloc (Nat.le_refl _) _) hb3;have HD3:=Hd hd3;have HW3:=Hd hw3;clear D hb3 hsz2 hd3 hw3;go_wp2_with fail
 go_loopw [6] (fun s6 wr=>∃(i:Nat) (d:List Rg),i≤2∧s6=.int .i64 i∧One (w2.heap.size+1) wr db i d∧Wrtn zeros 9 R.2.1 i d∧Below w2.heap.size w2 wr) (fun s _=>2-(intOf s).toNat)
 case atStart=>exact⟨0,_,Nat.zero_le _,rfl,HD3.out,Wrtn.start (RegAt.new (l:=[9]) (r:=0) rfl) _,HW3.out⟩
 case round=>
  clear HD3 HW3;obtain⟨i,d,hi,rfl,hd,hwr,hb⟩:=hrel
  by_cases hlt:i<2
  ·obtain⟨bl,ol,y,rfl,hbl,hy,c0,c1⟩:=HP.out.at hlt
   have hlt':(i:Int)<2:=by omega
   have hym:=List.mem_of_getElem? hy;have hy128:=HQ.out.2 y hym;have hstep:=hwr.step (by rw[HQ.out.1];decide) (fun x hx=>by
    have:x.1∈[(2:Int),3]:=by rw[←HQ.out.1];exact List.mem_map.2 ⟨x,hx,rfl⟩
    simp at this;omega) hy hy128
   obtain⟨py,by9⟩:=y;dsimp only at *;obtain⟨c11,w11,hcv,hbs,hb11⟩:=str_bytes (P:=Tryz.prog) wr.drew Tryz.underlying9 Tryz.underlying42 Tryz.underlying5 by9 (by omega);rw[hy128] at hcv hbs;have hbd:Below wr.heap.size wr w11:=below_via (Below.dr (Below.refl _ _)) hb11;have hop:=hd.opens_at hbd;have C:=write_o hop hbs (fun g off e=>.inr (by cases e;exact Nat.le_refl _)) (by omega) 0 py;rw[hstep.1] at C;have cA:∀W,Below w2.heap.size w2 W→W.cell? ⟨bl,ol+i*2,none⟩=some (.int .i64 py):=fun W hW=>(hW.cell (p:=⟨bl,ol+i*2,none⟩) hbl).trans c0
   have cB:∀W,Below w2.heap.size w2 W→W.cell? ⟨bl,ol+i*2+1,none⟩=some (.string (strOf by9)):=fun W hW=>(hW.cell (p:=⟨bl,ol+i*2+1,none⟩) hbl).trans c1
   have hB0:Below w2.heap.size w2 wr.drew:=hb.drew;have hBx11:Below w2.heap.size w2 w11:=below_then hb hbd;have HWR:=Hd hstep.2;clear hd hwr hb hop c0 c1 hstep hy hym hbs hb11 hbd hy128;go_upto_region 8 with(fail)
   exact q0bf88d
  ·obtain rfl:i=2:=by omega
   have hlt':decide ((2:Int)<2)=false:=by decide
   have hcp:=HX.out.step hb;have f0:=hcp.cell 0 0 rfl rfl;obtain⟨l1,l2,l3⟩:=aw_loads HWB.out.1 HWB.out.2 (d:=d) (by rw[HRR.out];exact hwr);have hbw:=below_then HB2.out hb;have G1:=load_any hd (hh.below (Nat.le_refl _) hbw) 0 3 (by unfold I64;omega);rw[l1] at G1;have HD:=Hd hd;have HBW:=Hd hbw;have HL2:=Hd l2;have HL3:=Hd l3;clear hd hbw hwr hb hcp l1 l2 l3;go_wp2_with fail;refine G1.mono ?_;rintro e w4 ⟨hb4,cs,rfl,hn4⟩;obtain⟨ka,kc,va,vc,ca,cc,rfl,bv,ov,rfl,hbv,hcv,hvc1,hvc2⟩:=aw_open hn4;obtain⟨w5,hw5⟩:∃x,w4.alloc (.cells #[.int .i64 3,.bool true,.slice ka 1 kc,.slice (some ⟨bv,ov,none⟩) 1 vc,.slice ca 0 cc] 50)=x:=⟨_,rfl⟩
   have hb45:Below w4.heap.size w4 w5:=by rw[←hw5];exact Below.al (Below.refl _ _)
   have hx5:Boxes w5 [(w4.heap.size,[.int .i64 3,.bool true,.slice ka 1 kc,.slice (some ⟨bv,ov,none⟩) 1 vc,.slice ca 0 cc])]:=by rw[←hw5];exact(Boxes.nil w4).alloc #[.int .i64 3,.bool true,.slice ka 1 kc,.slice (some ⟨bv,ov,none⟩) 1 vc,.slice ca 0 cc] 50 rfl
   have hcv5:=(hb45.cell (p:=⟨bv,ov,none⟩) hbv).trans hcv;have hbv5:=Nat.lt_of_lt_of_le hbv hb45.size;have hd5:=(HD.out.below hb4).below hb45;have hbw5:=below_then (below_then HBW.out hb4) hb45;have G2:=load_any hd5 (hh.below (Nat.le_refl _) hbw5) 0 7 (by unfold I64;omega);rw[HL2.out] at G2;have HX5:=Hd hx5;have HCV:=Hd hcv5;have HD5:=Hd hd5;have HB5:=Hd hbw5;clear hn4 hb4 hcv hbv hb45 hx5 hcv5 hd5 hbw5 G1 HD HBW;go_wp2_with fail;refine G2.mono ?_;rintro e w6 ⟨hb6,rfl⟩;obtain⟨w7,hw7⟩:∃x,w6.alloc (.cells #[.int .i64 0,.bool false,.slice none 0 0,.slice none 0 0,.slice none 0 0] 50)=x:=⟨_,rfl⟩
   have hb67:Below w6.heap.size w6 w7:=by rw[←hw7];exact Below.al (Below.refl _ _)
   have hb57:=below_via hb6 hb67;have hd7:=HD5.out.below hb57;have hbw7:=below_then HB5.out hb57;have G3:=load_any hd7 (hh.below (Nat.le_refl _) hbw7) 0 0 (by unfold I64;omega);rw[HL3.out] at G3;have HX7:=Hd (HX5.out.step hb57);have HC7:=Hd ((hb57.cell (p:=⟨bv,ov,none⟩) hbv5).trans HCV.out);have hbv7:=Nat.lt_of_lt_of_le hbv5 hb57.size;have HB7:=Hd hbw7;have HW7:=Hd hw7;clear hb6 hb67 hb57 hd7 hbw7 G2 HX5 HCV HD5 HB5 hw7;go_wp2_with fail;rw[HW7.out];refine G3.mono ?_;rintro e w8 ⟨hb8,cs,rfl,hn8⟩;obtain⟨e1,e2,e3,e4,e5,e6,rfl,_⟩:=empty_on2 (F:=fun _=>True) (NodeOn.less (m:=1) (lo:=[]) (hi:=[]) hn8 ⟨rfl,by simp[keysOf],fun c hc=>by cases hc⟩);obtain⟨w9,hw9⟩:∃x,w8.alloc (.cells #[.int .i64 0,.bool true,.slice e1 0 e2,.slice e3 0 e4,.slice e5 0 e6] 50)=x:=⟨_,rfl⟩
   have hb89:Below w8.heap.size w8 w9:=by rw[←hw9];exact Below.al (Below.refl _ _)
   have hx9:Boxes w9 [(w8.heap.size,[.int .i64 0,.bool true,.slice e1 0 e2,.slice e3 0 e4,.slice e5 0 e6])]:=by rw[←hw9];exact(Boxes.nil w8).alloc #[.int .i64 0,.bool true,.slice e1 0 e2,.slice e3 0 e4,.slice e5 0 e6] 50 rfl
   have hb79:=below_via hb8 hb89;have hxx:=HX7.out.step hb79;have m0:=hxx.cell 0 0 rfl rfl;have m2:=hxx.cell 0 2 rfl rfl;have m3:=hxx.cell 0 3 rfl rfl;have n1:=hx9.cell 0 1 rfl rfl;have n2:=hx9.cell 0 2 rfl rfl;have cv:=(hb79.cell (p:=⟨bv,ov,none⟩) hbv7).trans HC7.out;have hd30:(strOf aD).size=30:=by rw[strOf_size];rfl
   have HF:=Hd (below_then HB7.out hb79);unfold maxLen at hvc2;clear hn8 hb8 hb89 hx9 hb79 hxx G3 HX7 HC7 HB7;go_wp2_with fail;go_ret;exact⟨rfl,HF.out⟩
open Go.RowKit
theorem info_Cc:RowInfo Tryz.prog 145 4 80:=row_info (by kernel_rfl)
end Go.Proofs.YtpghlmcoajaiiaaGreatDoor
