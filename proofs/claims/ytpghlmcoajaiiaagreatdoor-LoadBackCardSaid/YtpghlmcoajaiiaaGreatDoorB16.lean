/- Texts that other texts of this claim lean on, one behind the other. -/
import Derived.Test.YtpghlmcoajaiiaaGreatDoorB1
import Derived.Test.YtpghlmcoajaiiaaGreatDoorB15
import Derived.Test.YtpghlmcoajaiiaaGreatDoorB6
import Derived.Test.YtpghlmcoajaiiaaGreatDoorB5
import Derived.Deep.RegionHeld3
import Derived.Deep.DeepCutAuto
import Derived.Deep.CutBlock
import Derived.Deep.QuietTactic
import Derived.BigQuiet
import Derived.Test.YtpghlmcoajaiiaaGreatDoorB2
import Derived.Test.YtpghlmcoajaiiaaGreatDoorB13b
import Derived.Test.YtpghlmcoajaiiaaGreatDoorB4
import Derived.Test.YtpghlmcoajaiiaaGreatDoorB12b
import Derived.Lib.ConvBytes
set_option maxHeartbeats 20000000
set_option maxRecDepth 100000
namespace Go.Proofs.YtpghlmcoajaiiaaGreatDoor
open Go.RowKit
theorem plain20_leaf {n:Nat} {F:Nat→Prop} {w:World} {cs:List Value} {p:Int} {l:List (List UInt8×Tv)} (hF:∀b,F b→b<w.heap.size) (h:NodeOn F (n+1) w cs (.leaf p l)) (hm:l.length≤1000) :
 Calls Tryz.prog 18 #[.agg cs.toArray] w (RNodeTo F (n+1) w (.leaf p l)):=by
 obtain⟨ka,kn,kc,va,vn,vc,ca,cc,rfl,h1,f1,h2,f2,h3⟩:=h;obtain⟨e1,e2,e3⟩:=h1.lens;obtain⟨e4,e5,e6⟩:=h2.lens;have hkl:(keysOf l).length=l.length:=by simp[keysOf]
 obtain rfl:kn=vn:=by rw[List.length_map] at e4;omega
 have hcl:(cellsR (.leaf p l)).length=kn:=by rw[cellsR_len];show l.length=kn;omega
 have hkn:kn≤1000:=by omega
 have HH1:=Hd h1;have HV:=Hd h2;have hB0:Below w.heap.size w (((w.alloc (.cells #[.int .i64 p,.bool true,.slice ka kn kc,.slice va kn vc,.slice ca 0 cc] 50)).alloc (.cells #[.int .i64 0,.bool false,.slice none 0 0] 27)).alloc (.cells #[.int .i64 p,.bool true,.slice none 0 0] 27)):=Below.al (Below.al (Below.al (Below.refl _ _)));have HX0:Hid (Boxes _ [(w.heap.size+1+1,[.int .i64 p,.bool true,.slice none 0 0]),(w.heap.size+1,[.int .i64 0,.bool false,.slice none 0 0]),(w.heap.size,[.int .i64 p,.bool true,.slice ka kn kc,.slice va kn vc,.slice ca 0 cc])]):=Hd ((((Boxes.nil w).alloc #[.int .i64 p,.bool true,.slice ka kn kc,.slice va kn vc,.slice ca 0 cc] 50 (b:=w.heap.size) rfl).alloc #[.int .i64 0,.bool false,.slice none 0 0] 27 (b:=w.heap.size+1) (by simp)).alloc #[.int .i64 p,.bool true,.slice none 0 0] 27 (b:=w.heap.size+1+1) (by simp));have HB0:=Hd hB0;have HCL:=Hd hcl;clear h1 f1 h2 h3 hB0 e1 e4 hcl hkl e5 e6;go_enter Tryz.func18,Tryz.ntmps18;go_wp2_with fail
 go_loopw [4,5] (fun s4 _ wr=>∃(i:Nat) (v:Value),i≤kn∧s4=.int .i64 i∧Boxes wr [(w.heap.size+1+1,[.int .i64 p,.bool true,v]),(w.heap.size+1,[.int .i64 0,.bool false,.slice none 0 0]),(w.heap.size,[.int .i64 p,.bool true,.slice ka kn kc,.slice va kn vc,.slice ca 0 cc])]∧CellsOwn 145 F n (w.heap.size+3) wr v ((cellsR (.leaf p l)).take i)∧Below w.heap.size w wr) (fun s _ _=>kn-(intOf s).toNat)
 case atStart=>exact⟨0,_,Nat.zero_le _,rfl,HX0.out,CellsOwn.nil _ _ _ _ _,HB0.out⟩
 case round=>
  obtain⟨i,v,hi,rfl,hx,hc,hb⟩:=hrel;clear HX0 HB0;have hx0:=hx.lt 2 rfl;have hx1:=hx.lt 1 rfl;have hx2:=hx.lt 0 rfl;have n0:=hx.cell 2 0 rfl rfl;have n1:=hx.cell 2 1 rfl rfl;have n2:=hx.cell 2 2 rfl rfl;have n3:=hx.cell 2 3 rfl rfl;have n4:=hx.cell 2 4 rfl rfl;have o0:=hx.cell 0 0 rfl rfl;have o1:=hx.cell 0 1 rfl rfl;have o2:=hx.cell 0 2 rfl rfl;have u2:=hx.frozen 0 2 rfl
  by_cases hlt:i<kn
  ·obtain⟨bk,ok,rfl,hbk9,hck⟩:=HH1.out.at hlt
   have k0:=(hb.cell (p:=⟨bk,ok+i,none⟩) hbk9).trans hck;obtain⟨k,hk⟩:∃k,(keysOf l)[i]?.getD []=k:=⟨_,rfl⟩
   rw[hk] at k0;have HK:=Hd hk;have HX:=Hd hx;have HC:=Hd hc;have HB:=Hd hb;have hbk8:=Nat.lt_of_lt_of_le hbk9 hb.size;have hsl:=hc.sl;rw[show((cellsR (.leaf p l)).take i).length=i by rw[List.length_take,HCL.out];omega] at hsl;obtain⟨va0,vc0,rfl,hvc0,hvm0,_,_⟩:=hsl;clear hk hck hx hc;obtain⟨bv,ov,tv,tcs,rfl,hbv,hyv,_,⟨pa,pn,pc,rfl,hrow,hfa⟩,hcv⟩:=TabR.at HV.out hlt;have v0:=(hb.cell (p:=⟨bv,ov+i*2,none⟩) hbv).trans (hcv 0 _ rfl);have v1:=(hb.cell (p:=⟨bv,ov+i*2+1,none⟩) hbv).trans (hcv 1 _ rfl);have hbv8:=Nat.lt_of_lt_of_le hbv hb.size;have HYV:=Hd hyv;have HROW:=Hd hrow;have HFA:=Hd hfa;clear hyv hrow hfa hcv;obtain⟨wx,hwx⟩:∃wx,(wr.alloc (.cells #[.string (strOf k),.string (strOf tv.data),.slice pa pn pc,.slice none 0 0] 145)).drew=wx:=⟨_,rfl⟩
   have hwb:Below wr.heap.size wr wx:=by rw[←hwx];exact Below.dr (Below.al (Below.refl _ _))
   have hxq:Boxes wx [(wr.heap.size,[.string (strOf k),.string (strOf tv.data),.slice pa pn pc,.slice none 0 0])]:=by rw[←hwx];exact((Boxes.nil wr).alloc #[.string (strOf k),.string (strOf tv.data),.slice pa pn pc,.slice none 0 0] 145 rfl).drew
   have hy:RcOn (Gp F (w.heap.size+3) (.slice va0 i vc0)) n wx [.string (strOf k),.string (strOf tv.data),.slice pa pn pc,.slice none 0 0] ⟨k,tv,none⟩:=⟨pa,pn,pc,none,0,0,rfl,(HROW.out.below (Nat.le_refl _) hb).below (Nat.le_refl _) hwb,HFA.out.mono (fun b hf=>⟨.inl hf,fun e=>by have:=HC.out.block e;have:=hF b hf;omega⟩),TabR.nil _,Fa.zero _ _⟩
   have hyi:(cellsR (.leaf p l))[i]? = some ⟨k,tv,none⟩:=by
    rw[cellsR_leaf];have:=HYV.out;rw[List.getElem?_map] at this;obtain⟨c,hc1,hc2⟩:=Option.map_eq_some_iff.1 this;have hk:=HK.out;rw[hc1,←hk,←hc2];simp[keysOf,hc1]
   obtain⟨v',w8,hr8,hc8,hg8⟩:=CellsOwn.append (P:=Tryz.prog) (t:=25) Tryz.underlying25 info_Cc (HC.out.below hwb) (by have:=hwb.size;omega) (fun b hf=>by have:=hF b hf;omega) (by rw[List.length_take];omega) hy;rw[←List.take_succ_eq_append_of hyi] at hc8;have hlen:((cellsR (.leaf p l)).take (i+1)).length=i+1:=by rw[List.length_take,HCL.out];omega
   have hsl8:=hc8.sl;rw[hlen] at hsl8;obtain⟨va8,vc8,rfl,hvc8,hvm8,_,_⟩:=hsl8;have hge:∀b,(Value.slice va0 i vc0).ownBlock=some b→w.heap.size+3≤b:=fun b hb=>(HC.out.block hb).1
   have hx8:=(HX.out.step hwb).grown hg8 (by intro p hp e;simp at hp;have:=hge _ e;rcases hp with rfl|rfl|rfl<;>simp at this<;>omega);have hb8:=(hb.trans (hwb.mono hb.size)).grown hg8 (Nat.le_trans hb.size hwb.size) (fun k hk=>by have:=hge k hk;omega);have HX8:=Hd hx8;have HB8:=Hd hb8;have HC8:=Hd hc8;have r2:=hx8.cell 0 2 rfl rfl;have ru:=hx8.frozen 0 2 rfl;have z0:=hxq.cell 0 0 rfl rfl;have z1:=hxq.cell 0 1 rfl rfl;have z2:=hxq.cell 0 2 rfl rfl;have z3:=hxq.cell 0 3 rfl rfl;have y2:=(HX.out.step hwb).cell 0 2 rfl rfl;have y4:=(HX.out.step hwb).cell 2 4 rfl rfl;clear hx8 hb8 hc8 hg8 hxq hy hyi hge hlen;clear n0 n1 o0 o1;go_wp2_with fail
   go_region
   exact qa326a8
  ·obtain rfl:i=kn:=by omega
   have hc9:CellsOwn 145 F n (w.heap.size+3) wr v (cellsR (.leaf p l)):=by
    have:=hc
    rwa [List.take_of_length_le (by rw[HCL.out];exact Nat.le_refl _)] at this
   have hsl:=hc9.sl;rw[HCL.out] at hsl;obtain⟨va0,vc0,rfl,hvc0,hvm0,_,_⟩:=hsl;have HC:=Hd hc9;have HB:=Hd hb;have z0:=hx.cell 1 0 rfl rfl;have z1:=hx.cell 1 1 rfl rfl;have z2:=hx.cell 1 2 rfl rfl;have y0:=hx.frozen 1 0 rfl;have y1:=hx.frozen 1 1 rfl;have y2:=hx.frozen 1 2 rfl;have HXE:=Hd hx;clear hc hc9 hx hb;have hend:RNodeTo F (n+1) w (.leaf p l) (.returned (.agg #[.int .i64 p,.bool true,.slice va0 i vc0])) (((wr.setCell ⟨w.heap.size+1,0,none⟩ (.int .i64 p)).setCell ⟨w.heap.size+1,1,none⟩ (.bool true)).setCell ⟨w.heap.size+1,2,none⟩ (.slice va0 i vc0)):=by
    have h9:∀j,¬F (⟨w.heap.size+1,j,none⟩:Addr).block:=fun j hf=>by have:=hF _ hf;simp at this;omega
    have h8:∀j,(⟨w.heap.size+1,j,none⟩:Addr).block<w.heap.size+3:=fun j=>by show w.heap.size+1<_;omega
    have h7:∀j,w.heap.size≤(⟨w.heap.size+1,j,none⟩:Addr).block:=fun j=>by show _≤w.heap.size+1;omega
    exact⟨[.int .i64 p,.bool true,.slice va0 i vc0],rfl,(((HC.out.set _ (h8 0) (h9 0)).set _ (h8 1) (h9 1)).set _ (h8 2) (h9 2)).node (by omega),((HB.out.setCell (h7 0) _).setCell (h7 1) _).setCell (h7 2) _⟩
   have hxw:=(((HXE.out.sub (m:=[(w.heap.size+1,[.int .i64 0,.bool false,.slice none 0 0])]) (by simp)).put 0 (.int .i64 p) (by simp)).put 1 (.bool true) (by simp)).put 2 (.slice va0 i vc0) (by simp);have g0:=hxw.cell 0 0 rfl rfl;have g1:=hxw.cell 0 1 rfl rfl;have g2:=hxw.cell 0 2 rfl rfl;have HG:=Hd (And.intro g0 (And.intro g1 g2));clear g0 g1 g2 hxw;have HE:=Hd hend;clear hend;go_wp2_with fail;refine bodyPost_ret (v:=.agg #[.int .i64 p,.bool true,.slice va0 i vc0]) (by obtain⟨g0,g1,g2⟩:=HG.out;simp only[results,Tryz.results18];simp[go_sem,g0,g1,g2]) rfl ?_;exact HE.out
theorem plain20_node {n:Nat} (IH:∀{F:Nat→Prop} {w:World} {cs:List Value} {t:Tr},(∀b,F b→b<w.heap.size)→NodeOn F n w cs t→Bnd n t→Calls Tryz.prog 18 #[.agg cs.toArray] w (RNodeTo F n w t)) {F:Nat→Prop} {w:World} {cs:List Value} {p:Int} {l:List (List UInt8×Tr)} (hF:∀b,F b→b<w.heap.size) (h:NodeOn F (n+1) w cs (.node p l)) (hm:l.length≤1000) (hbk:∀c∈l,Bnd n c.2) :
 Calls Tryz.prog 18 #[.agg cs.toArray] w (RNodeTo F (n+1) w (.node p l)):=by
 obtain⟨ka,kn,kc,va,vc,ca,cn,cc,rfl,h1,f1,h2,h3,f3⟩:=h;obtain⟨e1,e2,e3⟩:=h1.lens;obtain⟨e4,e5,e6⟩:=h3.lens;have hkl:(keysOf l).length=l.length:=by simp[keysOf]
 obtain rfl:kn=cn:=by rw[List.length_map] at e4;omega
 have hcl:(cellsR (.node p l)).length=kn:=by rw[cellsR_len];show l.length=kn;omega
 have hkn:kn≤1000:=by omega
 have HH1:=Hd h1;have HV:=Hd h3;have hB0:Below w.heap.size w (((w.alloc (.cells #[.int .i64 p,.bool false,.slice ka kn kc,.slice va 0 vc,.slice ca kn cc] 50)).alloc (.cells #[.int .i64 0,.bool false,.slice none 0 0] 27)).alloc (.cells #[.int .i64 p,.bool false,.slice none 0 0] 27)):=Below.al (Below.al (Below.al (Below.refl _ _)));have HX0:Hid (Boxes _ [(w.heap.size+1+1,[.int .i64 p,.bool false,.slice none 0 0]),(w.heap.size+1,[.int .i64 0,.bool false,.slice none 0 0]),(w.heap.size,[.int .i64 p,.bool false,.slice ka kn kc,.slice va 0 vc,.slice ca kn cc])]):=Hd ((((Boxes.nil w).alloc #[.int .i64 p,.bool false,.slice ka kn kc,.slice va 0 vc,.slice ca kn cc] 50 (b:=w.heap.size) rfl).alloc #[.int .i64 0,.bool false,.slice none 0 0] 27 (b:=w.heap.size+1) (by simp)).alloc #[.int .i64 p,.bool false,.slice none 0 0] 27 (b:=w.heap.size+1+1) (by simp));have HB0:=Hd hB0;have HCL:=Hd hcl;clear h1 f1 h2 h3 hB0 e1 e4 hcl hkl;go_enter Tryz.func18,Tryz.ntmps18;go_wp2_with fail
 go_loopw [4,5] (fun s4 _ wr=>∃(i:Nat) (v:Value),i≤kn∧s4=.int .i64 i∧Boxes wr [(w.heap.size+1+1,[.int .i64 p,.bool false,v]),(w.heap.size+1,[.int .i64 0,.bool false,.slice none 0 0]),(w.heap.size,[.int .i64 p,.bool false,.slice ka kn kc,.slice va 0 vc,.slice ca kn cc])]∧CellsOwn 145 F n (w.heap.size+3) wr v ((cellsR (.node p l)).take i)∧Below w.heap.size w wr) (fun s _ _=>kn-(intOf s).toNat)
 case atStart=>exact⟨0,_,Nat.zero_le _,rfl,HX0.out,CellsOwn.nil _ _ _ _ _,HB0.out⟩
 case round=>
  obtain⟨i,v,hi,rfl,hx,hc,hb⟩:=hrel;clear HX0 HB0;have hx0:=hx.lt 2 rfl;have hx1:=hx.lt 1 rfl;have hx2:=hx.lt 0 rfl;have n0:=hx.cell 2 0 rfl rfl;have n1:=hx.cell 2 1 rfl rfl;have n2:=hx.cell 2 2 rfl rfl;have n3:=hx.cell 2 3 rfl rfl;have n4:=hx.cell 2 4 rfl rfl;have o0:=hx.cell 0 0 rfl rfl;have o1:=hx.cell 0 1 rfl rfl;have o2:=hx.cell 0 2 rfl rfl;have u2:=hx.frozen 0 2 rfl
  by_cases hlt:i<kn
  ·obtain⟨bk,ok,rfl,hbk9,hck⟩:=HH1.out.at hlt
   have k0:=(hb.cell (p:=⟨bk,ok+i,none⟩) hbk9).trans hck;obtain⟨k,hk⟩:∃k,(keysOf l)[i]?.getD []=k:=⟨_,rfl⟩
   rw[hk] at k0;have HK:=Hd hk;have HX:=Hd hx;have HC:=Hd hc;have HB:=Hd hb;have hbk8:=Nat.lt_of_lt_of_le hbk9 hb.size;have hsl:=hc.sl;rw[show((cellsR (.node p l)).take i).length=i by rw[List.length_take,HCL.out];omega] at hsl;obtain⟨va0,vc0,rfl,hvc0,hvm0,_,_⟩:=hsl;clear hk hck hx hc;obtain⟨bv,ov,kid,kcs,rfl,hbv,hyv,_,hkid,hcv⟩:=TabR.at HV.out hlt;have hkid9:=hkid;cases n with
   | zero=>exact hkid.elim
   | succ n=>
   obtain⟨y1,y2,y3,y4,y5,y6,y7,y8,_,_,ey,_⟩:=hkid.open;subst ey;have v0:=(hb.cell (p:=⟨bv,ov+i*5,none⟩) hbv).trans (hcv 0 _ rfl);have v1:=(hb.cell (p:=⟨bv,ov+i*5+1,none⟩) hbv).trans (hcv 1 _ rfl);have v2:=(hb.cell (p:=⟨bv,ov+i*5+2,none⟩) hbv).trans (hcv 2 _ rfl);have v3:=(hb.cell (p:=⟨bv,ov+i*5+3,none⟩) hbv).trans (hcv 3 _ rfl);have v4:=(hb.cell (p:=⟨bv,ov+i*5+4,none⟩) hbv).trans (hcv 4 _ rfl);have hbv8:=Nat.lt_of_lt_of_le hbv hb.size;obtain⟨c,hc1,hc2⟩:∃c,l[i]? = some c∧c.2=kid:=by
    rw[List.getElem?_map] at hyv;exact Option.map_eq_some_iff.1 hyv
   have hyi:(cellsR (.node p l))[i]? = some ⟨k,⟨[],[]⟩,some kid⟩:=by
    rw[cellsR_node,hc1,←hc2,←HK.out];simp[keysOf,hc1]
   have hal:Below wr.heap.size wr (wr.alloc (.cells #[.string (strOf k),.string ⟨#[]⟩,.slice none 0 0,.slice none 0 0] 145)):=Below.al (Below.refl _ _);have CK:=IH (F:=F) (w:=wr.alloc (.cells #[.string (strOf k),.string ⟨#[]⟩,.slice none 0 0,.slice none 0 0] 145)) (fun b hf=>by have:=hF b hf;simp;omega) ((hkid.below hb).below hal) (by rw[←hc2];exact hbk c (List.mem_of_getElem? hc1));have HYI:=Hd hyi;clear hyv hcv hkid hkid9 hc1 hc2 hyi;go_wp2_with fail;refine CK.mono ?_;rintro e w2 ⟨cs2,rfl,hkn,hb2⟩;obtain⟨a3,c3,ecs,_,_⟩:=hkn.at;subst ecs;have hxq0:=((Boxes.nil wr).alloc #[.string (strOf k),.string ⟨#[]⟩,.slice none 0 0,.slice none 0 0] 145 rfl).step hb2;have hxq1:Boxes (w2.alloc (.cells #[.int .i64 kid.page,.bool kid.isLeaf,.slice a3 (cntT kid) c3] 27)) _:=Boxes.al hxq0;have q3:=hxq1.cell 0 3 rfl rfl;have q3':=hxq1.frozen 0 3 rfl;clear hxq1;obtain⟨wx,hwx⟩:∃wx,(w2.alloc (.cells #[.int .i64 kid.page,.bool kid.isLeaf,.slice a3 (cntT kid) c3] 27)).setCell ⟨wr.heap.size,3,none⟩ (.slice (some ⟨w2.heap.size,0,none⟩) 1 1)=wx:=⟨_,rfl⟩
   have hz2:wr.heap.size+1≤w2.heap.size:=by have:=hb2.size;simpa using this
   have hwb2:Below wr.heap.size wr w2:=hal.trans (hb2.mono hal.size);have hwb:Below wr.heap.size wr wx:=by rw[←hwx];exact Below.st (Below.al hwb2) (Nat.le_refl _)
   have hxq:Boxes wx [(wr.heap.size,[.string (strOf k),.string ⟨#[]⟩,.slice none 0 0,.slice (some ⟨w2.heap.size,0,none⟩) 1 1])]:=by rw[←hwx];exact(Boxes.al hxq0).put 3 _ (by simp)
   have hxk:Boxes wx [(w2.heap.size,[.int .i64 kid.page,.bool kid.isLeaf,.slice a3 (cntT kid) c3])]:=by rw[←hwx];exact Boxes.st ((Boxes.nil w2).alloc #[.int .i64 kid.page,.bool kid.isLeaf,.slice a3 (cntT kid) c3] 27 rfl) (by intro p hp;simp at hp;subst hp;simp;omega)
   have hagr:AgreeF (Fr F (wr.alloc (.cells #[.string (strOf k),.string ⟨#[]⟩,.slice none 0 0,.slice none 0 0] 145))) w2 wx:=by
    rw[←hwx];refine AgreeF.set (AgreeF.of_below (Below.al (Below.refl _ _))) (.inl fun hf=>?_)
    rcases hf with hf|hf
    ·have:=hF _ hf;simp at this;have:=hb.size;omega
    ·simp at hf;omega
   have hge0:∀b,(Value.slice va0 i vc0).ownBlock=some b→w.heap.size+3≤b∧b<wr.heap.size:=fun b hb=>HC.out.block hb
   have hkx:RNodeOn (Gp F (w.heap.size+3) (.slice va0 i vc0)) (n+1) wx [.int .i64 kid.page,.bool kid.isLeaf,.slice a3 (cntT kid) c3] kid:=(hkn.agree hagr).mono (fun b hf=>by
    rcases hf with hf|hf
    ·exact⟨.inl hf,fun e=>by have:=(hge0 b e).1;have:=hF b hf;omega⟩
    ·simp at hf
     exact⟨.inr (by omega),fun e=>by have:=(hge0 b e).2;omega⟩)
   have hy:RcOn (Gp F (w.heap.size+3) (.slice va0 i vc0)) (n+1) wx [.string (strOf k),.string ⟨#[]⟩,.slice none 0 0,.slice (some ⟨w2.heap.size,0,none⟩) 1 1] ⟨k,⟨[],[]⟩,some kid⟩:=by
    refine⟨none,0,0,some ⟨w2.heap.size,0,none⟩,1,1,rfl,⟨rfl,Nat.le_refl _,by unfold maxLen;omega,fun _=>rfl,.inl rfl⟩,Fa.zero _ _,⟨rfl,Nat.le_refl _,by unfold maxLen;omega,fun h=>(by cases h),.inr ⟨w2.heap.size,0,rfl,hxk.lt 0 rfl,fun j y hj=>?_⟩⟩,.inr fun b off e=>?_⟩
    ·cases j with
     | succ j=>cases hj
     | zero=>
      cases hj;exact⟨_,rfl,hkx,fun j v hv=>by have:=hxk.cell 0 j rfl hv;simpa using this⟩
    ·cases e
     exact⟨.inr (by omega),fun e=>by have:=(hge0 _ e).2;omega⟩
   have hyi:=HYI.out;clear hkn hagr hkx hge0 hxk hxq0 hwb2 CK hb2;obtain⟨v',w8,hr8,hc8,hg8⟩:=CellsOwn.append (P:=Tryz.prog) (t:=25) Tryz.underlying25 info_Cc (HC.out.below hwb) (by have:=hwb.size;omega) (fun b hf=>by have:=hF b hf;omega) (by rw[List.length_take];omega) hy;rw[←List.take_succ_eq_append_of hyi] at hc8;have hlen:((cellsR (.node p l)).take (i+1)).length=i+1:=by rw[List.length_take,HCL.out];omega
   have hsl8:=hc8.sl;rw[hlen] at hsl8;obtain⟨va8,vc8,rfl,hvc8,hvm8,_,_⟩:=hsl8;have hge:∀b,(Value.slice va0 i vc0).ownBlock=some b→w.heap.size+3≤b:=fun b hb=>(HC.out.block hb).1
   have hx8:=(HX.out.step hwb).grown hg8 (by intro p hp e;simp at hp;have:=hge _ e;rcases hp with rfl|rfl|rfl<;>simp at this<;>omega);have hb8:=(hb.trans (hwb.mono hb.size)).grown hg8 (Nat.le_trans hb.size hwb.size) (fun k hk=>by have:=hge k hk;omega);have HX8:=Hd hx8;have HB8:=Hd hb8;have HC8:=Hd hc8;have r2:=hx8.cell 0 2 rfl rfl;have ru:=hx8.frozen 0 2 rfl;have z0:=hxq.cell 0 0 rfl rfl;have z1:=hxq.cell 0 1 rfl rfl;have z2:=hxq.cell 0 2 rfl rfl;have z3:=hxq.cell 0 3 rfl rfl;have y2:=(HX.out.step hwb).cell 0 2 rfl rfl;have y4:=(HX.out.step hwb).cell 2 4 rfl rfl;clear hx8 hb8 hc8 hg8 hxq hy hyi hge hlen;exact qa326a8
  ·obtain rfl:i=kn:=by omega
   have hc9:CellsOwn 145 F n (w.heap.size+3) wr v (cellsR (.node p l)):=by
    have:=hc
    rwa [List.take_of_length_le (by rw[HCL.out];exact Nat.le_refl _)] at this
   have hsl:=hc9.sl;rw[HCL.out] at hsl;obtain⟨va0,vc0,rfl,hvc0,hvm0,_,_⟩:=hsl;have HC:=Hd hc9;have HB:=Hd hb;have z0:=hx.cell 1 0 rfl rfl;have z1:=hx.cell 1 1 rfl rfl;have z2:=hx.cell 1 2 rfl rfl;have y0:=hx.frozen 1 0 rfl;have y1:=hx.frozen 1 1 rfl;have y2:=hx.frozen 1 2 rfl;have HXE:=Hd hx;clear hc hc9 hx hb;have hend:RNodeTo F (n+1) w (.node p l) (.returned (.agg #[.int .i64 p,.bool false,.slice va0 i vc0])) (((wr.setCell ⟨w.heap.size+1,0,none⟩ (.int .i64 p)).setCell ⟨w.heap.size+1,1,none⟩ (.bool false)).setCell ⟨w.heap.size+1,2,none⟩ (.slice va0 i vc0)):=by
    have h9:∀j,¬F (⟨w.heap.size+1,j,none⟩:Addr).block:=fun j hf=>by have:=hF _ hf;simp at this;omega
    have h8:∀j,(⟨w.heap.size+1,j,none⟩:Addr).block<w.heap.size+3:=fun j=>by show w.heap.size+1<_;omega
    have h7:∀j,w.heap.size≤(⟨w.heap.size+1,j,none⟩:Addr).block:=fun j=>by show _≤w.heap.size+1;omega
    exact⟨[.int .i64 p,.bool false,.slice va0 i vc0],rfl,(((HC.out.set _ (h8 0) (h9 0)).set _ (h8 1) (h9 1)).set _ (h8 2) (h9 2)).node (by omega),((HB.out.setCell (h7 0) _).setCell (h7 1) _).setCell (h7 2) _⟩
   have hxw:=(((HXE.out.sub (m:=[(w.heap.size+1,[.int .i64 0,.bool false,.slice none 0 0])]) (by simp)).put 0 (.int .i64 p) (by simp)).put 1 (.bool false) (by simp)).put 2 (.slice va0 i vc0) (by simp);have g0:=hxw.cell 0 0 rfl rfl;have g1:=hxw.cell 0 1 rfl rfl;have g2:=hxw.cell 0 2 rfl rfl;have HG:=Hd (And.intro g0 (And.intro g1 g2));clear g0 g1 g2 hxw;have HE:=Hd hend;clear hend;go_wp2_with fail;refine bodyPost_ret (v:=.agg #[.int .i64 p,.bool false,.slice va0 i vc0]) (by obtain⟨g0,g1,g2⟩:=HG.out;simp only[results,Tryz.results18];simp[go_sem,g0,g1,g2]) rfl ?_;exact HE.out
theorem plain20_any:∀{n:Nat} {F:Nat→Prop} {w:World} {cs:List Value} {t:Tr},(∀b,F b→b<w.heap.size)→NodeOn F n w cs t→Bnd n t→Calls Tryz.prog 18 #[.agg cs.toArray] w (RNodeTo F n w t)
 | 0,_,_,_,_,_,h,_=>h.elim
 | _n+1,_,_,_,.leaf _p _l,hF,h,hb=>plain20_leaf hF h hb.1
 | _n+1,_,_,_,.node _p _l,hF,h,hb=>plain20_node (fun hF h hb=>plain20_any hF h hb) hF h hb.1 (fun c hc=>(hb.2 c hc).2)
def SameTo (w:World) (e:Ending) (w':World):Prop:=e=.returned (.bool true)∧Below w.heap.size w w'
theorem Row.cellS {w:World} {a:Option Addr} {len cap:Nat} {l:List Int} (h:Row .i64 w a len cap l) {k:Nat} (hk:k<len) :
 ∃b off,a=some ⟨b,off,none⟩∧b<w.heap.size∧w.cell? ⟨b,off+k,none⟩=some (.int .i64 (l[k]?.getD 0)):=by
 rcases h.2.2.2.2 with h0|⟨b,off,h1,h2,h3⟩
 ·omega
 ·exact⟨b,off,h1,h2,h3 k hk⟩
theorem Row.lensS {k:IntKind} {w:World} {a:Option Addr} {len cap:Nat} {l:List Int} (h:Row k w a len cap l):l.length=len∧len≤cap∧cap≤9223372036854775807:=⟨h.1,h.2.1,by have:=h.2.2.1;unfold maxLen at this;omega⟩
theorem same_step {n:Nat} (IH:∀{F G:Nat→Prop} {w:World} {cs ds:List Value} {t:Tr},RNodeOn F n w cs t→RNodeOn G n w ds t→Calls Tryz.prog 17 #[.agg cs.toArray,.agg ds.toArray] w (SameTo w))
 {F G:Nat→Prop} {w:World} {cs ds:List Value} {t:Tr} (hf:RNodeOn F (n+1) w cs t) (hg:RNodeOn G (n+1) w ds t) :
 Calls Tryz.prog 17 #[.agg cs.toArray,.agg ds.toArray] w (SameTo w):=by
 obtain⟨a,c,rfl,h1,_⟩:=hf.at;obtain⟨d,g,rfl,g1,_⟩:=hg.at;obtain⟨e1,e2,e3⟩:=h1.lens;obtain⟨e4,e5,e6⟩:=g1.lens;generalize cntT t=m at *;generalize cellsR t=L at *;generalize t.page=p at *;generalize t.isLeaf=lf at *;have H1:=Hd h1;have G1:=Hd g1;have hB0:Below w.heap.size w ((w.alloc (.cells #[.int .i64 p,.bool lf,.slice a m c] 27)).alloc (.cells #[.int .i64 p,.bool lf,.slice d m g] 27)):=Below.al (Below.al (Below.refl _ _));have HX0:=Hd (((Boxes.nil w).alloc #[.int .i64 p,.bool lf,.slice a m c] 27 (b:=w.heap.size) rfl).alloc #[.int .i64 p,.bool lf,.slice d m g] 27 (b:=w.heap.size+1) (by simp));have HB0:=Hd hB0;have hpp:(p != p)=false:=by simp
 have hll:(lf != lf)=false:=by simp
 have hmm:((m:Int) != (m:Int))=false:=by simp
 clear h1 g1 hB0 hf hg e1 e4;go_enter Tryz.func17,Tryz.ntmps17;go_wp2_with fail
 go_loopw [5] (fun s5 wr=>∃(i:Nat),i≤m∧s5=.int .i64 i∧Boxes wr [(w.heap.size+1,[.int .i64 p,.bool lf,.slice d m g]),(w.heap.size,[.int .i64 p,.bool lf,.slice a m c])]∧Below w.heap.size w wr) (fun s _=>m-(intOf s).toNat)
 case atStart=>exact⟨0,Nat.zero_le _,rfl,HX0.out,HB0.out⟩
 case round=>
  obtain⟨i,hi,rfl,hx,hb⟩:=hrel;clear HX0 HB0 hpp hll hmm;have n2:=hx.cell 1 2 rfl rfl;have o2:=hx.cell 0 2 rfl rfl
  by_cases hlt:i<m
  rotate_left
  ·obtain rfl:i=m:=by omega
   have HE:=Hd hb;clear hx hb;go_wp2_with fail;go_ret;exact⟨rfl,HE.out⟩
  obtain⟨b,off,y,pa,pn,pc,ka,kn,kc,rfl,hbb,hy,_,hrow,_,hkid,_,c0,c1,c2,c3⟩:=RNodeOn.cell H1.out hlt;obtain⟨b',off',y',qa,qn,qc,la,ln,lc,rfl,hbb',hy',_,hrow',_,hkid',_,c0',c1',c2',c3'⟩:=RNodeOn.cell G1.out hlt;rw[hy] at hy';cases hy';obtain⟨r1,r2,r3⟩:=hrow.lensS;obtain⟨r4,r5,r6⟩:=hrow'.lensS;obtain⟨s1,s2,s3⟩:=hkid.lens;obtain⟨s4,s5,s6⟩:=hkid'.lens;obtain rfl:pn=qn:=by omega
  obtain rfl:kn=ln:=by omega
  obtain⟨yk,yv,yo⟩:=y;obtain⟨yd,yp⟩:=yv;dsimp only at *;have v0:=(hb.cell (p:=⟨b,off+i*4,none⟩) hbb).trans c0;have v1:=(hb.cell (p:=⟨b,off+i*4+1,none⟩) hbb).trans c1;have v2:=(hb.cell (p:=⟨b,off+i*4+2,none⟩) hbb).trans c2;have v3:=(hb.cell (p:=⟨b,off+i*4+3,none⟩) hbb).trans c3;have hba:Below wr.heap.size wr (wr.alloc (.cells #[.string (strOf yk),.string (strOf yd),.slice pa pn pc,.slice ka kn kc] 145)):=Below.al (Below.refl _ _);have hba2:Below wr.heap.size wr ((wr.alloc (.cells #[.string (strOf yk),.string (strOf yd),.slice pa pn pc,.slice ka kn kc] 145)).alloc (.cells #[.string (strOf yk),.string (strOf yd),.slice qa pn qc,.slice la kn lc] 145)):=Below.al hba;have x2:=(hx.step hba).cell 0 2 rfl rfl;have w0:=((below_via hb hba).cell (p:=⟨b',off'+i*4,none⟩) hbb').trans c0';have w1:=((below_via hb hba).cell (p:=⟨b',off'+i*4+1,none⟩) hbb').trans c1';have w2:=((below_via hb hba).cell (p:=⟨b',off'+i*4+2,none⟩) hbb').trans c2';have w3:=((below_via hb hba).cell (p:=⟨b',off'+i*4+3,none⟩) hbb').trans c3';have hz:Boxes ((wr.alloc (.cells #[.string (strOf yk),.string (strOf yd),.slice pa pn pc,.slice ka kn kc] 145)).alloc (.cells #[.string (strOf yk),.string (strOf yd),.slice qa pn qc,.slice la kn lc] 145)) [(wr.heap.size+1,[.string (strOf yk),.string (strOf yd),.slice qa pn qc,.slice la kn lc]),(wr.heap.size,[.string (strOf yk),.string (strOf yd),.slice pa pn pc,.slice ka kn kc])]:=((Boxes.nil wr).alloc #[.string (strOf yk),.string (strOf yd),.slice pa pn pc,.slice ka kn kc] 145 (b:=wr.heap.size) rfl).alloc #[.string (strOf yk),.string (strOf yd),.slice qa pn qc,.slice la kn lc] 145 (b:=wr.heap.size+1) (by simp);have q1:((strOf yk).toList == (strOf yk).toList)=true:=by simp
  have q2:((strOf yd).toList == (strOf yd).toList)=true:=by simp
  have q3:((pn:Int) != (pn:Int))=false:=by simp
  have q4:((kn:Int) != (kn:Int))=false:=by simp
  have t0:=hz.cell 0 0 rfl rfl;have t1:=hz.cell 0 1 rfl rfl;have t2:=hz.cell 0 2 rfl rfl;have t3:=hz.cell 0 3 rfl rfl;have u0:=hz.cell 1 0 rfl rfl;have u1:=hz.cell 1 1 rfl rfl;have u2:=hz.cell 1 2 rfl rfl;have u3:=hz.cell 1 3 rfl rfl;have HZ:=Hd hz;have HX:=Hd (hx.step hba2);have HB:=Hd (below_via hb hba2);have HR:=Hd hrow;have HR':=Hd hrow';have HK:=Hd hkid;have HK':=Hd hkid';have HS1:=Hd s1;have hsz2:wr.heap.size+2=((wr.alloc (.cells #[.string (strOf yk),.string (strOf yd),.slice pa pn pc,.slice ka kn kc] 145)).alloc (.cells #[.string (strOf yk),.string (strOf yd),.slice qa pn qc,.slice la kn lc] 145)).heap.size:=by simp
  clear hx hb c0 c1 c2 c3 c0' c1' c2' c3' hrow hrow' hkid hkid' hy r1 r4 s1 s4 hz hba hba2 hbb hbb' hsz2;go_upto_region 10 with(fail)
  clear v0 v1 v2 v3 w0 w1 w2 w3 x2;obtain⟨WA,hWA⟩:∃x,x=((wr.alloc (.cells #[.string (strOf yk),.string (strOf yd),.slice pa pn pc,.slice ka kn kc] 145)).alloc (.cells #[.string (strOf yk),.string (strOf yd),.slice qa pn qc,.slice la kn lc] 145)):=⟨_,rfl⟩
  rw[←hWA] at HZ HX HB ⊢;clear t0 t1 t2 t3 u0 u1 u2 u3 n2 o2;have HBA:=Hd (Below.refl WA.heap.size WA);clear hWA q1 q2 q3 q4;go_wp2_with fail
  go_loopw [8] (fun s8 wy=>∃(k:Nat),k≤pn∧s8=.int .i64 k∧Below WA.heap.size WA wy) (fun s _=>pn-(intOf s).toNat)
  case atStart=>exact⟨0,Nat.zero_le _,rfl,HBA.out⟩
  case round=>
   obtain⟨k,hk,rfl,hby⟩:=hrel;clear HBA;obtain⟨wy,rfl⟩:∃x:World,x=wr:=⟨_,rfl⟩
   have hzy:=HZ.out.step hby
   have z2:=hzy.cell 1 2 rfl rfl;have y2:=hzy.cell 0 2 rfl rfl
   by_cases hkl:k<pn
   ·obtain⟨bp,op,rfl,hbp,hcp⟩:=HR.out.cellS hkl
    obtain⟨bq,oq,rfl,hbq,hcq⟩:=HR'.out.cellS hkl;have z5:=((below_via HB.out hby).cell (p:=⟨bp,op+k,none⟩) hbp).trans hcp;have y5:=((below_via HB.out hby).cell (p:=⟨bq,oq+k,none⟩) hbq).trans hcq;generalize yp[k]?.getD 0=vk at z5 y5;have hvk:(vk != vk)=false:=by simp
    clear hcp hcq hzy hbp hbq;go_upto_region 13 with(fail)
    go_quiet (fail)
    go_wp2
    go_roundw
    case rel=>exact⟨k+1,hkl,by go_num,below_drewN hby _⟩
    case measure=>simp[intOf];omega
   ·obtain rfl:k=pn:=by omega
    cases yo with
    | none=>
     obtain rfl:kn=0:=HS1.out.symm;have z3:=hzy.cell 1 3 rfl rfl;have HX5:=Hd (HX.out.step hby);have HB5:=Hd (below_via HB.out hby);clear hzy hby
     go_upto_region 15 with(fail)
     go_quiet (fail)
     go_wp2
     go_roundw
     case rel=>exact⟨i+1,hlt,by go_num,HX5.out.step (below_drewN (Below.refl _ _) _),below_drewN HB5.out _⟩
     case measure=>simp[intOf];omega
    | some kid=>
     obtain rfl:kn=1:=HS1.out.symm;obtain⟨bk,ok,kd,ks,rfl,hbk,hyk,_,hon,hck⟩:=TabR.at HK.out (show 0<1 by omega);obtain⟨bj,oj,kd',js,rfl,hbj,hyj,_,hon',hcj⟩:=TabR.at HK'.out (show 0<1 by omega);cases hyk;cases hyj;have hbw:=below_via HB.out hby
     cases n with
     | zero=>exact hon.elim
     | succ n=>
     have CS:∀W,Below wy.heap.size wy W→Calls Tryz.prog 17 #[.agg ks.toArray,.agg js.toArray] W (SameTo W):=fun W hW=>IH (hon.below (below_via hbw hW)) (hon'.below (below_via hbw hW))
     obtain⟨ak,ck,rfl,_,_⟩:=hon.at;obtain⟨aj,cj,rfl,_,_⟩:=hon'.at;generalize cntT kid=mk at *;generalize kid.page=pk at *;generalize kid.isLeaf=lk at *;have c0:∀W,Below wy.heap.size wy W→W.cell? ⟨bk,ok,none⟩=some (.int .i64 pk):=fun W hW=>((below_via hbw hW).cell (p:=⟨bk,ok,none⟩) hbk).trans (by simpa using hck 0 _ rfl)
     have c1:∀W,Below wy.heap.size wy W→W.cell? ⟨bk,ok+1,none⟩=some (.bool lk):=fun W hW=>((below_via hbw hW).cell (p:=⟨bk,ok+1,none⟩) hbk).trans (by simpa using hck 1 _ rfl)
     have c2:∀W,Below wy.heap.size wy W→W.cell? ⟨bk,ok+2,none⟩=some (.slice ak mk ck):=fun W hW=>((below_via hbw hW).cell (p:=⟨bk,ok+2,none⟩) hbk).trans (by simpa using hck 2 _ rfl)
     have j0:∀W,Below wy.heap.size wy W→W.cell? ⟨bj,oj,none⟩=some (.int .i64 pk):=fun W hW=>((below_via hbw hW).cell (p:=⟨bj,oj,none⟩) hbj).trans (by simpa using hcj 0 _ rfl)
     have j1:∀W,Below wy.heap.size wy W→W.cell? ⟨bj,oj+1,none⟩=some (.bool lk):=fun W hW=>((below_via hbw hW).cell (p:=⟨bj,oj+1,none⟩) hbj).trans (by simpa using hcj 1 _ rfl)
     have j2:∀W,Below wy.heap.size wy W→W.cell? ⟨bj,oj+2,none⟩=some (.slice aj mk cj):=fun W hW=>((below_via hbw hW).cell (p:=⟨bj,oj+2,none⟩) hbj).trans (by simpa using hcj 2 _ rfl)
     have z3:∀W,Below wy.heap.size wy W→W.cell? ⟨wr.heap.size,3,none⟩=some (.slice (some ⟨bk,ok,none⟩) 1 kc):=fun W hW=>(hzy.step hW).cell 1 3 rfl rfl
     have y3:∀W,Below wy.heap.size wy W→W.cell? ⟨wr.heap.size+1,3,none⟩=some (.slice (some ⟨bj,oj,none⟩) 1 lc):=fun W hW=>(hzy.step hW).cell 0 3 rfl rfl
     have hC0:Below wy.heap.size wy wy.drew:=(Below.refl _ _).drew;have HX5:=Hd (HX.out.step hby);have HB5:=Hd hbw;clear hzy hby hbw hck hcj hon hon';go_upto_region 15 with(fail)
     go_region_held3 (fun W=>Below wy.heap.size wy W) (first|with_reducible assumption|(repeat (with_reducible first|assumption|exact Below.refl _ _|apply Below.al|apply Below.dr))) (first|(go_at_call 17;(with_reducible refine(CS _ ?_).mono ?_);(focus (repeat (with_reducible first|assumption|exact Below.refl _ _|apply Below.al|apply Below.dr)));rintro e w12 ⟨rfl,hb12⟩;have hB12:Below wy.heap.size wy w12:=below_via (by(repeat (with_reducible first|assumption|exact Below.refl _ _|apply Below.al|apply Below.dr))) hb12))
     go_wp2_with fail;go_roundw
     case rel=>exact⟨i+1,hlt,by go_num,HX5.out.step hB12,below_via HB5.out hB12⟩
     case measure=>simp[intOf];omega
theorem same_any:∀{n:Nat} {F G:Nat→Prop} {w:World} {cs ds:List Value} {t:Tr},RNodeOn F n w cs t→RNodeOn G n w ds t→Calls Tryz.prog 17 #[.agg cs.toArray,.agg ds.toArray] w (SameTo w)
 | 0,_,_,_,_,_,_,h,_=>h.elim
 | _n+1,_,_,_,_,_,_,h,g=>same_step (fun h g=>same_any h g) h g
open Go.RowKit
open Go.RowKit
theorem NodeOn.words {F:Nat→Prop} {n:Nat} {w:World} {cs:List Value} {t:Tr} (h:NodeOn F n w cs t) :
 ∃a1 c1 a2 n2 c2 a3 n3 c3,cs=[.int .i64 t.page,.bool t.isLeaf,.slice a1 (cntT t) c1,.slice a2 n2 c2,.slice a3 n3 c3]∧cntT t≤c1∧c1≤9223372036854775807:=by
 obtain⟨ka,kc,va,vn,vc,ca,cn,cc,V,C,e,h1,_⟩:=h.open_pos;exact⟨ka,kc,va,vn,vc,ca,cn,cc,e,h1.lens.2.1,h1.lens.2.2⟩
end Go.Proofs.YtpghlmcoajaiiaaGreatDoor
namespace Go.Proofs.YtpghlmcoajaiiaaGreatDoor
open Go.RowKit Go.Deep Go.WideShapes Go.ChangeShapes
section
variable {H:Type} {enc:TypeId×Value→H} {P:Program} {w:World} {base:Nat}
end
end Go.Proofs.YtpghlmcoajaiiaaGreatDoor
namespace Go.Proofs.YtpghlmcoajaiiaaGreatDoor
open Go.RowKit Go.Deep Go.WideShapes Go.ChangeShapes
structure Wrt where
 page:Int
 a:Option Addr
 n:Nat
 cap:Nat
 b:List UInt8
section
variable {H:Type} {enc:TypeId×Value→H} {P:Program} {w:World} {base:Nat}
end
end Go.Proofs.YtpghlmcoajaiiaaGreatDoor
namespace Go.Proofs.YtpghlmcoajaiiaaGreatDoor
open Go.RowKit
def codeD:Except Int Tr→Int
 | .ok _=>0
 | .error x=>x
theorem loadD_bnd {d:List Rg} {r root:Int} {t:Tr} (h:loadD d r root=.ok t):Bnd 1000 t:=by
 unfold loadD at h
 split at h
 ·cases h
  exact⟨by simp,fun c hc=>by cases hc⟩
 ·split at h
  ·cases h
  ·rename_i hv
   split at h
   ·cases h
    exact(loadT_bnd hv).1
   ·cases h
def LoadC (w:World) (R:Except Int Tr) (e:Ending) (w':World):Prop:=
 Below w.heap.size w w'∧∃p lf ka kn kc va vn vc ca cn cc,e=.returned (.tuple #[.agg #[.int .i64 p,.bool lf,.slice ka kn kc,.slice va vn vc,.slice ca cn cc],.int .i64 (codeD R)])∧∀t,R=.ok t→NodeOn (fun b=>w.heap.size≤b) 1000 w' [.int .i64 p,.bool lf,.slice ka kn kc,.slice va vn vc,.slice ca cn cc] t
theorem LoadPost.code {w:World} {R:Except Int Tr} {e:Ending} {w':World} (h:LoadPost w R e w'):LoadC w R e w':=by
 obtain⟨hb,h⟩:=h;cases R with
 | ok t=>
  obtain⟨cs,rfl,hn⟩:=h;obtain⟨a1,c1,a2,n2,c2,a3,n3,c3,rfl,_⟩:=hn.words;exact⟨hb,_,_,_,_,_,_,_,_,_,_,_,rfl,fun t e=>by cases e;exact hn⟩
 | error x=>exact⟨hb,_,_,_,_,_,_,_,_,_,_,_,h,fun t e=>by cases e⟩
theorem lay_page {N n:Nat} {t:Tr} (h:Whole n t) (hb:Bare t) {s:List Int} (hs:Spots N s) (hl:freshN n t≤s.length):0≤(layT n t s).1.page∧(layT n t s).1.page≤999:=by
 by_cases h0:freshN n t=0
 ·have ht:=fresh_zero h h0
  have hp0:t.page=0:=hb.page0;rw[hp0] at ht;subst ht;cases n with
  | zero=>exact h.1.1.elim
  | succ n=>
   rw[layT,if_pos rfl];show(0:Int)≤0∧(0:Int)≤999;omega
 ·obtain⟨p,e1,e2,e3,e4⟩:=layT_page (fits_whole h hb h0) hs hl
  have:=pgC_lt e3;rw[e1];omega
def OneK (B:Nat) (K:List Nat) (w:World) (da M:Nat) (d:List Rg):Prop:=∃F bs,DskIn w F da M bs d∧(∀k∈F,B≤k∧k∉K)∧B≤w.heap.size∧∀k∈K,k<w.heap.size
def KeepK (K:List Nat) (w w':World):Prop:=∀k∈K,w'.heap[k]? = w.heap[k]?
theorem OneK.one {B:Nat} {K:List Nat} {w:World} {da M:Nat} {d:List Rg} (h:OneK B K w da M d):One B w da M d:=by
 obtain⟨F,bs,h1,h2,h3,h4⟩:=h;exact⟨F,bs,h1,fun k hk=>(h2 k hk).1,h3⟩
theorem One.k {B:Nat} {w:World} {da M:Nat} {d:List Rg} (h:One B w da M d):OneK B [] w da M d:=by
 obtain⟨F,bs,h1,h2,h3⟩:=h;exact⟨F,bs,h1,fun k hk=>⟨h2 k hk,by simp⟩,h3,by simp⟩
theorem OneK.add {B:Nat} {K:List Nat} {w w':World} {da M:Nat} {d:List Rg} (h:OneK B K w da M d) (hb:Below w.heap.size w w') (g:Nat) (h1:w.heap.size≤g) (h2:g<w'.heap.size):OneK B (g::K) w' da M d:=by
 obtain⟨F,bs,e1,e2,e3,e4⟩:=h;refine⟨F,bs,e1.below hb,fun k hk=>⟨(e2 k hk).1,fun hk2=>?_⟩,by omega,fun k hk=>?_⟩
 ·rcases List.mem_cons.1 hk2 with rfl|hk2
  ·have:=e1.lt k hk;omega
  ·exact(e2 k hk).2 hk2
 ·rcases List.mem_cons.1 hk with rfl|hk
  ·exact h2
  ·exact Nat.lt_of_lt_of_le (e4 k hk) hb.size
theorem write_k {B:Nat} {K:List Nat} {w:World} {da M:Nat} {d:List Rg} (h:OneK B K w da M d) {a:Option Addr} {len cap:Nat} {l:List UInt8} (hb:Bs w a len cap l) (hF:∀g off,a=some ⟨g,off,none⟩→g∈K∨g<B) (hM:M≤900000) (r p:Int) :
 Calls Tryz.prog 13 #[.pointer (some ⟨da,0,none⟩),.int .i64 r,.int .i64 p,.slice a len cap] w fun e w'=>e=.returned (.int .i64 (writeE d r p l))∧OneK B K w' da (M+1) (writeD d r p l)∧Below B w w'∧KeepK K w w':=by
 obtain⟨F,bs,h1,h2,h3,h4⟩:=h;refine(write_any h1 hb (fun g off hg hk=>by have:=h2 g hk;rcases hF g off hg with h5|h5;exact this.2 h5;omega) hM r p).mono ?_;rintro e w' ⟨rfl,ho,F',bs',hd,hF'⟩;refine⟨rfl,⟨F',bs',hd,fun k hk=>?_,by have:=ho.size;omega,fun k hk=>Nat.lt_of_lt_of_le (h4 k hk) ho.size⟩,ho.below h3 (fun k hk=>(h2 k hk).1),fun k hk=>ho.block (h4 k hk) (fun hk2=>(h2 k hk2).2 hk)⟩
 rcases hF' k hk with h5|h5
 ·exact h2 k h5
 ·exact⟨by omega,fun hk2=>by have:=h4 k hk2;omega⟩
open Go.RowKit
theorem laid_facts {l:List Pz} {fr N:Nat} {T:Tr} {R:Tr×List Wr×List Int} (h:LaidR l N T) (hl:l.length≤60) (hfr:fr≤255) (hR:layT N T (atZ fr (freshN N T))=R) :
 N≤1000∧(R.2.1.map (·.1)).Nodup∧(∀x∈R.2.1,(2≤x.1∧x.1<(1000:Nat))∧x.2.length=128)∧R.2.1.length≤360∧(0≤R.1.page∧R.1.page≤999)∧∀d f,RegAt d 0 1000 f→Stand f R.2.1→loadD d 0 R.1.page=.ok R.1:=by
 have hf:=h.fresh;have hN:N≤1000:=by have:=h.ents.2;omega
 have hsp:Spots 1000 (atZ fr (freshN N T)):=atZ_spots (fr:=fr) (by omega) (by omega);have hlen:freshN N T≤(atZ fr (freshN N T)).length:=by rw[atZ_len];exact Nat.le_refl _
 obtain⟨q1,q2⟩:=whole_writes h.whole h.bare hsp hlen;have hp:=lay_page (N:=1000) h.whole h.bare hsp hlen;rw[hR] at q1 q2 hp;refine⟨hN,by rw[q1];exact(hsp.take _).1,fun x hx=>⟨?_,q2 x hx⟩,?_,hp,fun d f hd hw=>?_⟩
 ·have h5:x.1∈R.2.1.map (·.1):=List.mem_map.2 ⟨x,hx,rfl⟩
  rw[q1] at h5;obtain⟨k,hk,e⟩:=List.mem_map.1 (List.mem_of_mem_take h5);have:=List.mem_range.1 hk;rw[←e];omega
 ·have h5:=congrArg List.length q1
  simp only[List.length_map,List.length_take,atZ_len] at h5;omega
 ·have:=loadD_back (d:=d) (r:=0) (f:=f) hd hN h.whole h.bare hsp hlen (by rw[hR];exact hw)
  rw[hR] at this;exact this
theorem own_kept {w w':World} {base:Nat} {e:TypeId} {sz g m cap n:Nat} {xs:List Value} (ho:w.ownsRow base e sz (.slice (some ⟨g,0,none⟩) m cap) n xs) (hk:w'.heap[g]? = w.heap[g]?):w'.ownsRow base e sz (.slice (some ⟨g,0,none⟩) m cap) n xs:=
 ⟨ho.1,ho.2.imp id fun⟨g',cap',cur,e1,hg1,hh,r⟩=>⟨g',cap',cur,e1,hg1,(by
  have e2:g=g':=by
   injection e1 with e1 _ _
   injection e1 with e1
   injection e1
  rw[←e2] at hh ⊢;exact hk.trans hh),r⟩⟩
def fill20 (n:Nat) (f:UInt8):List UInt8:=List.replicate n f
def part20 (f:UInt8) (n k:Nat):List UInt8:=List.replicate k f++List.replicate (n-k) 0
theorem set_fill20 (f:UInt8) (n k:Nat) (h:k<n):(List.replicate k f++List.replicate (n-k) 0).set k f=List.replicate (k+1) f++List.replicate (n-(k+1)) 0:=by
 rw[List.set_append_right _ _ (by simp),List.length_replicate,Nat.sub_self];obtain⟨m,hm⟩:∃m,n-k=m+1:=⟨n-k-1,by omega⟩
 rw[hm,List.replicate_succ,List.set_cons_zero,show n-(k+1)=m by omega,List.replicate_succ',List.append_assoc]
 rfl
theorem u8_nat {a:Int} (h:(Lit.int .u8 a).wf=true):∃fr:Nat,fr≤255∧a=(fr:Int):=by
 simp[Lit.wf,IntKind.min,IntKind.max,IntKind.signed,IntKind.bits] at h;exact⟨a.toNat,by omega,by omega⟩
theorem u8_byte {a:Int} (h:(Lit.int .u8 a).wf=true):∃f:UInt8,a=(f.toNat:Int):=by
 obtain⟨n,hn,rfl⟩:=u8_nat h;exact⟨UInt8.ofNat n,by simp;omega⟩
theorem u16_nat {a:Int} (h:(Lit.int .u16 a).wf=true):∃fr:Nat,fr≤65535∧a=(fr:Int):=by
 simp[Lit.wf,IntKind.min,IntKind.max,IntKind.signed,IntKind.bits] at h;exact⟨a.toNat,by omega,by omega⟩
open Go.RowKit
theorem lOnly (a:Option Addr) (n c:Nat) (l:List Pz) (fr:Nat) (hfr:fr≤255) (fi:UInt8) (w:World) (h1:Pzs w a n c l) (hh:Half w) :
 Calls Tryz.prog 6 #[.slice a n c,.int .u8 (fr:Int),.int .u8 (fi.toNat:Int)] w fun e w'=>e=.returned (.bool true)∧Below w.heap.size w w':=by
 obtain⟨i0,hi0,hz0,hz1,hz2⟩:=info_parts info_b20;have A:=awake20_any w hh;have H1:=Hd h1;clear h1;go_enter Tryz.func6,Tryz.ntmps6;go_wp2_with fail;refine A.mono ?_;rintro e w0 ⟨rfl,hb0⟩;have L:=laid_any (TabR.below (Nat.le_refl _) hb0 H1.out:Pzs w0 a n c l) hfr;have HB0:=Hd hb0;clear A hb0;go_wp2_with fail;refine L.mono ?_;rintro e w1 ⟨hb1,hres⟩;have HB1:=Hd (below_then HB0.out hb1);clear L
 rcases hres with⟨hs,p,lf,a9,m9,c9,vW,rfl⟩|⟨hs,N,T,hlr,R,hR,p,lf,a9,m9,c9,aW,cW,rfl,hn,ho⟩
 ·have HB2:=Hd (below_then HB1.out (show Below w1.heap.size w1 (w1.alloc (.cells #[.int .i64 p,.bool lf,.slice a9 m9 c9] 27)) from Below.al (Below.refl _ _)))
  clear hs hb1;go_wp2_with fail;go_ret;exact⟨rfl,HB2.out⟩
 have hl60:l.length≤60:=by unfold smallZ at hs;simp at hs;exact hs.2
 obtain⟨hN,hWd,hWp,hRn,hpp,hback⟩:=laid_facts hlr hl60 hfr hR;obtain⟨w2,hw2⟩:∃x,w1.alloc (.cells #[.int .i64 p,.bool lf,.slice a9 m9 c9] 27)=x:=⟨_,rfl⟩
 have hpe:p=R.1.page:=by
  exact qc97986
 have hpI:I64 p:=by rw[hpe];unfold I64;omega
 have hb12:Below w1.heap.size w1 w2:=by rw[←hw2];exact Below.al (Below.refl _ _)
 have hWR:=(Wrs.own ho)
 have hWR2:Wrs w2 aW R.2.1.length cW R.2.1:=TabR.below (Nat.le_refl _) hb12 hWR;have hcW:=(TabR.lens hWR).2;unfold maxLen at hcW;have hx2:Boxes w2 [(w1.heap.size,[.int .i64 p,.bool lf,.slice a9 m9 c9])]:=by rw[←hw2];exact(Boxes.nil w1).alloc #[.int .i64 p,.bool lf,.slice a9 m9 c9] 27 rfl
 have hbw2:Below w.heap.size w w2:=below_then HB1.out hb12;have HNN:=Hd ((hn.more hN).below hb12);have HP:=Hd hWR2;have HX:=Hd hx2;have HB2:=Hd hbw2;have HWP:=Hd hWp;have HWD:=Hd hWd;have HPI:=Hd hpI;have HPE:=Hd hpe;have HBK:=Hd hback;have D:=new_ok (aw_one20 w2 1000) (by decide);have hA2:Below w2.heap.size w2 (w2.alloc (.cells #[.int .i64 1000] 3)):=(Below.refl _ _).alloc (Nat.le_refl _) _;have hsz2:(w2.alloc (.cells #[.int .i64 1000] 3)).heap.size=w2.heap.size+1:=by simp
 clear hs hb1 hlr hR hn ho hl60 hpI hpe hb12 hWR hWR2 hx2 hbw2 H1 HB0 HB1 hWp hWd hback hpp hN;go_wp2_with fail;refine D.mono ?_;rintro e w3 ⟨db,rfl,hd3,hb3⟩;rw[hsz2] at hd3;have hw3:Below w2.heap.size w2 w3:=below_then hA2 hb3;have hr3:=RegAt.new (l:=[1000]) (r:=0) (n:=1000) rfl;have HD3:=Hd hd3;have HW3:=Hd hw3;clear D hb3 hsz2 hA2 hd3 hw3;have HR3:=Hd hr3;clear hr3
 go_wp2_with (at_make;refine wpList_make_full _ rfl _ _ 42 rfl w3.heap.size 5 i0 _ 1 Tryz.underlying42 hi0 hz0 hz1 .i64 .i64 _ _ 128 rfl rfl rfl rfl (by rw[hz2];omega) (by unfold maxLen;omega) (Nat.le_refl _) ?_)
 intro w4 hown hg;have hB4:Below w3.heap.size w3 w4:=(Below.refl _ _).grown hg (Nat.le_refl _) (fun k e=>by cases e);have hown':w4.ownsRow w3.heap.size 5 1 (.slice (some ⟨w3.heap.size,0,none⟩) 128 128) 128 ((toI (part20 fi 128 0)).map (Value.int .u8)):=by
  simp only[made_list] at hown;simpa[toI,part20] using hown
 clear hown hg hi0 hz0 hz1 hz2;go_wp2_with fail
 go_loopw [14] (fun s wr=>∃k:Nat,k≤128∧s=.int .i64 k∧wr.ownsRow w3.heap.size 5 1 (.slice (some ⟨w3.heap.size,0,none⟩) 128 128) 128 ((toI (part20 fi 128 k)).map (Value.int .u8))∧Below w3.heap.size w3 wr) (fun s _=>128-(intOf s).toNat)
 case atStart=>exact⟨0,Nat.zero_le _,rfl,hown',hB4⟩
 case round=>
  clear hown' hB4;obtain⟨k,hk,rfl,hr,hb⟩:=hrel
  by_cases hlt:k<128
  ·have hc:=hr.cellAt k (by omega)
   have hf:=hr.frozenAt k;have hst:=hr.stored k (.int .u8 (fi.toNat:Int));have hlist:((toI (part20 fi 128 k)).map (Value.int .u8)).set k (.int .u8 (fi.toNat:Int))=(toI (part20 fi 128 (k+1))).map (Value.int .u8):=by
    unfold part20;rw[←set_fill20 fi 128 k hlt];simp only[toI,List.map_set]
   rw[hlist] at hst;have hst:=hst.1;clear hlist;rw[List.getElem?_map,toI,List.getElem?_map] at hc;have hc':∃v,wr.cell? ⟨w3.heap.size,k,none⟩=some v:=by
    rw[hc,part20,List.getElem?_append_right (by simp),List.length_replicate,Nat.sub_self,List.getElem?_replicate,if_pos (by omega)];exact⟨_,rfl⟩
   obtain⟨v0,hc'⟩:=hc';have HS:=Hd hst;have HBB:=Hd hb;clear hst hc hr hb;have l1:(k:Int)<128:=by omega
   go_wp2_with fail;go_roundw
   case rel=>exact⟨k+1,by omega,by go_num,HS.out,HBB.out.setCell (Nat.le_refl _) _⟩
   case measure=>simp[intOf];omega
  ·have hk8:k=128:=by omega
   have l1:decide ((k:Int)<128)=false:=by simp;omega
   have l1':decide (k<128)=false:=by simp;omega
   have hfe:part20 fi 128 k=fill20 128 fi:=by subst hk8;unfold part20 fill20;rw[Nat.sub_self,List.replicate_zero,List.append_nil]
   rw[hfe] at hr;have hK:OneK (w2.heap.size+1) [w3.heap.size] wr db 0 (newD [1000]):=HD3.out.k.add hb w3.heap.size (Nat.le_refl _) (own_lt hr w3.heap.size rfl);have hb2:=below_then HW3.out hb;have HK:=Hd hK;have HO:=Hd hr;have HB5:=Hd hb2;clear hfe hK hr hb hb2 HD3 HW3 hk8 hlt hk;go_wp2_with fail
   go_loopw [15] (fun s wr=>∃(q j:Nat) (d:List Rg),q=3*j∧j≤334∧s=.int .i64 (q:Int)∧OneK (w2.heap.size+1) [w3.heap.size] wr db j d∧(∃f,RegAt d 0 1000 f)∧wr.ownsRow w3.heap.size 5 1 (.slice (some ⟨w3.heap.size,0,none⟩) 128 128) 128 ((toI (fill20 128 fi)).map (Value.int .u8))∧Below w2.heap.size w2 wr) (fun s _=>1002-(intOf s).toNat)
   case atStart=>exact⟨0,0,_,rfl,Nat.zero_le _,rfl,HK.out,⟨_,HR3.out⟩,HO.out,HB5.out⟩
   case round=>
    clear HK HR3 HO HB5;obtain⟨q,j,d,hqj,hj,rfl,hd,⟨f,hf⟩,hr,hb⟩:=hrel
    by_cases hlt:q<1000
    ·have l1:(q:Int)<1000:=by omega
     obtain⟨e8,g8,_⟩:=hf.write (p:=(q:Int)) ⟨by omega,by omega⟩ (b:=fill20 128 fi) (by simp[fill20]);have C:=write_k hd (Bs.own hr) (fun g off e=>.inl (by cases e;simp)) (by omega) 0 (q:Int);have iw:IntKind.i64.wrap ((q:Int)+3)=(q:Int)+3:=by simp[IntKind.wrap,IntKind.signed,IntKind.bits];omega
     have HQJ:=Hd hqj;have HG:=Hd g8;have HR:=Hd hr;have HB:=Hd hb;clear e8 g8 hd hf hr hb hqj;go_wp2_with fail;refine C.mono ?_;rintro e wx ⟨rfl,hd5,hb5,hk5⟩;have HD5:=Hd hd5;have HO5:=Hd (own_kept HR.out (hk5 w3.heap.size (by simp)));have HB5:=Hd (HB.out.trans (hb5.mono (Nat.le_succ _)));clear C hd5 hb5 hk5;go_wp2_with fail;go_roundw
     case rel=>exact⟨q+3,j+1,_,by have:=HQJ.out;omega,by have:=HQJ.out;omega,by go_num,HD5.out,⟨_,HG.out⟩,HO5.out,HB5.out⟩
     case measure=>simp[intOf];omega
    ·have l1:decide ((q:Int)<1000)=false:=by simp;omega
     have l1':decide (q<1000)=false:=by simp;omega
     have HD3:=Hd hd.one;have HW3:=Hd hb;have HF:=Hd hf;clear hd hr hb hf;go_wp2_with fail
     go_loopw [16] (fun s wr=>∃(i:Nat) (d:List Rg),i≤R.2.1.length∧s=.int .i64 i∧One (w2.heap.size+1) wr db (j+i) d∧Wrtn f 1000 R.2.1 i d∧Below w2.heap.size w2 wr) (fun s _=>R.2.1.length-(intOf s).toNat)
     case atStart=>exact⟨0,_,Nat.zero_le _,rfl,HD3.out,Wrtn.start HF.out _,HW3.out⟩
     case round=>
      clear HD3 HW3;obtain⟨i,d,hi,rfl,hd,hwr,hb⟩:=hrel
      by_cases hlt:i<R.2.1.length
      ·obtain⟨bl,ol,y,rfl,hbl,hy,c0,c1⟩:=HP.out.at hlt
       have hlt':(i:Int)<(R.2.1.length:Int):=by omega
       have hym:=List.mem_of_getElem? hy;have hy128:=(HWP.out y hym).2;have hstep:=hwr.step HWD.out (fun x hx=>by have:=(HWP.out x hx).1;omega) hy hy128;obtain⟨py,by9⟩:=y;dsimp only at *;obtain⟨c11,w11,hcv,hbs,hb11⟩:=str_bytes (P:=Tryz.prog) wr.drew Tryz.underlying9 Tryz.underlying42 Tryz.underlying5 by9 (by omega);rw[hy128] at hcv hbs;have hbd:Below wr.heap.size wr w11:=below_via (Below.dr (Below.refl _ _)) hb11;have hop:=hd.opens_at hbd;have C:=write_o hop hbs (fun g off e=>.inr (by cases e;exact Nat.le_refl _)) (by omega) 0 py;rw[hstep.1] at C;have cA:∀W,Below w2.heap.size w2 W→W.cell? ⟨bl,ol+i*2,none⟩=some (.int .i64 py):=fun W hW=>(hW.cell (p:=⟨bl,ol+i*2,none⟩) hbl).trans c0
       have cB:∀W,Below w2.heap.size w2 W→W.cell? ⟨bl,ol+i*2+1,none⟩=some (.string (strOf by9)):=fun W hW=>(hW.cell (p:=⟨bl,ol+i*2+1,none⟩) hbl).trans c1
       have hB0:Below w2.heap.size w2 wr.drew:=hb.drew;have hBx11:Below w2.heap.size w2 w11:=below_then hb hbd;have HWR:=Hd hstep.2;clear hd hwr hb hop c0 c1 hstep hy hym hbs hb11 hbd hy128;go_upto_region 20 with(fail)
       exact q0bf88d
      ·obtain rfl:i=R.2.1.length:=by omega
       have hlt':decide ((R.2.1.length:Int)<(R.2.1.length:Int))=false:=by simp
       obtain⟨fE,hreg,hstand,hrest⟩:=hwr;rw[List.take_length] at hstand hrest;have hld:=HBK.out d fE hreg hstand;rw[←HPE.out] at hld;have hcp:=HX.out.step hb;have f0:=hcp.cell 0 0 rfl rfl;have hbw:=below_then HB2.out hb;have G1:=(load_any hd (hh.below (Nat.le_refl _) hbw) 0 p HPI.out).mono fun e w' h=>h.code
       rw[hld] at G1;have HD:=Hd hd;have HBR:=Hd hb;have HBW:=Hd hbw;have HRG:=Hd hreg;have HST:=Hd hstand;clear hd hbw hb hcp hld hreg hstand hrest;go_wp2_with fail;refine G1.mono ?_;rintro e w5 ⟨hb5,p5,l5,ka5,kn5,kc5,va5,vn5,vc5,ca5,cn5,cc5,rfl,hn5⟩;rw[show codeD (.ok R.1)=0 from rfl];replace hn5:=hn5 _ rfl;change NodeOn _ _ _ _ _ at hn5;obtain⟨w6,hw6⟩:∃x,w5.alloc (.cells #[.int .i64 p5,.bool l5,.slice ka5 kn5 kc5,.slice va5 vn5 vc5,.slice ca5 cn5 cc5] 50)=x:=⟨_,rfl⟩
       have hbaw6:Below w5.heap.size w5 w6:=by rw[←hw6];exact Below.al (Below.refl _ _)
       have hx6:Boxes w6 [(w5.heap.size,[.int .i64 p5,.bool l5,.slice ka5 kn5 kc5,.slice va5 vn5 vc5,.slice ca5 cn5 cc5])]:=by rw[←hw6];exact(Boxes.nil w5).alloc #[.int .i64 p5,.bool l5,.slice ka5 kn5 kc5,.slice va5 vn5 vc5,.slice ca5 cn5 cc5] 50 rfl
       have hB6:=below_via hb5 hbaw6;have hn6:=hn5.below hbaw6;have hNN6:=RNodeOn.below HNN.out (below_then HBR.out hB6);have hbt:Bnd 1000 R.1:=loadD_bnd (HBK.out d fE HRG.out HST.out);have CP:∀W,Below w6.heap.size w6 W→Calls Tryz.prog 18 #[.agg #[.int .i64 p5,.bool l5,.slice ka5 kn5 kc5,.slice va5 vn5 vc5,.slice ca5 cn5 cc5]] W (RNodeTo (fun b=>wr.heap.size≤b∧b<w6.heap.size) 1000 W R.1):=fun W hW=>plain20_any (fun b hb=>Nat.lt_of_lt_of_le hb.2 hW.size) (hn6.lt.below hW) hbt
       have hxn:=HX.out.step (below_then HBR.out hB6);have a0:∀W,Below w6.heap.size w6 W→W.cell? ⟨w5.heap.size,0,none⟩=some (.int .i64 p5):=fun W hW=>(hx6.step hW).cell 0 0 rfl rfl
       have a1:∀W,Below w6.heap.size w6 W→W.cell? ⟨w5.heap.size,1,none⟩=some (.bool l5):=fun W hW=>(hx6.step hW).cell 0 1 rfl rfl
       have a2:∀W,Below w6.heap.size w6 W→W.cell? ⟨w5.heap.size,2,none⟩=some (.slice ka5 kn5 kc5):=fun W hW=>(hx6.step hW).cell 0 2 rfl rfl
       have a3:∀W,Below w6.heap.size w6 W→W.cell? ⟨w5.heap.size,3,none⟩=some (.slice va5 vn5 vc5):=fun W hW=>(hx6.step hW).cell 0 3 rfl rfl
       have a4:∀W,Below w6.heap.size w6 W→W.cell? ⟨w5.heap.size,4,none⟩=some (.slice ca5 cn5 cc5):=fun W hW=>(hx6.step hW).cell 0 4 rfl rfl
       have b0:∀W,Below w6.heap.size w6 W→W.cell? ⟨w1.heap.size,0,none⟩=some (.int .i64 p):=fun W hW=>(hxn.step hW).cell 0 0 rfl rfl
       have b1:∀W,Below w6.heap.size w6 W→W.cell? ⟨w1.heap.size,1,none⟩=some (.bool lf):=fun W hW=>(hxn.step hW).cell 0 1 rfl rfl
       have b2:∀W,Below w6.heap.size w6 W→W.cell? ⟨w1.heap.size,2,none⟩=some (.slice a9 m9 c9):=fun W hW=>(hxn.step hW).cell 0 2 rfl rfl
       have HB6:=Hd hB6;have HX6:=Hd hx6;have HN6:=Hd hn6;clear G1 hb5 hx6 hbaw6 hn5 hn6 hxn hB6;go_upto_region 22 with(fail)
       refine wp_region_noPanic ?_;refine wp_region_held_drew (S:=(fun W=>Below w6.heap.size w6 W)) (by kernel_rfl) (by(repeat (with_reducible first|assumption|exact Below.refl _ _|apply Below.al|apply Below.dr))) (fun hHeld=>?_);refine tks [0,1,2,3,5] ?_;refine rdy 4 (fun K hK=>?_);rw[if_pos (by rfl)]
       go_wp2_with ((go_at_call 18;(with_reducible refine(CP _ ?_).mono ?_);(focus (repeat (with_reducible first|assumption|exact Below.refl _ _|apply Below.al|apply Below.dr)));rintro e wP ⟨cs9,rfl,hrP,hbP⟩;have hBP:Below w6.heap.size w6 wP:=below_via (by(repeat (with_reducible first|assumption|exact Below.refl _ _|apply Below.al|apply Below.dr))) hbP;(obtain⟨g1,g2,g3,rfl⟩:=RNodeOn.open_pos hrP)))
       refine bkw hK (by(repeat (with_reducible first|assumption|exact Below.refl _ _|apply Below.al|apply Below.dr))) (fun hHeld=>?_);clear hK K;refine rdy 6 (fun K hK=>?_);rw[if_pos (by rfl)]
       go_wp2_with ((go_at_call 17;(with_reducible refine(same_any hrP (RNodeOn.below hNN6 hBP)).mono ?_);rintro e wS ⟨rfl,hbS⟩;have hBS:Below w6.heap.size w6 wS:=below_via hBP hbS))
       refine bkw hK (by(repeat (with_reducible first|assumption|exact Below.refl _ _|apply Below.al|apply Below.dr))) (fun hHeld=>?_);clear hK K;refine tks [7,8] ?_;refine wpAnyH_done (by kernel_rfl) ?_ _;refine NoPanic.normal ?_;have HB13:=Hd (below_then HBW.out (below_via HB6.out hBS));go_wp2_with fail;go_ret;exact⟨rfl,HB13.out⟩
open Go.RowKit
theorem kids_wide {P:List UInt8→List UInt8→Tr→Prop} (hP:∀lo hi lo' hi' t,P lo hi t→(lo'=lo∨lo'=[])→(hi'=hi∨hi'=[])→P lo' hi' t):∀{l:List (List UInt8×Tr)} {lo hi lo' hi':List UInt8},KidsP P lo hi l→(lo'=lo∨lo'=[])→(hi'=hi∨hi'=[])→KidsP P lo' hi' l
 | [],_,_,_,_,h,_,_=>h.elim
 | [c],_,_,_,_,h,h1,h2=>hP _ _ _ _ _ h h1 h2
 | c::d::r,_,_,_,_,h,h1,h2=>by
  obtain⟨g1,g2,g3,g4,g5⟩:=h;refine⟨hP _ _ _ _ _ g1 h1 (.inl rfl),g2,?_,?_,kids_wide hP g5 (.inl rfl) h2⟩
  ·rcases h1 with rfl|rfl
   ·exact g3
   ·obtain⟨x,y,e⟩:=List.exists_cons_of_ne_nil g2.1
    rw[e];exact List.nil_lt_cons _ _
  ·rcases h2 with rfl|rfl
   ·exact g4
   ·exact .inl rfl
theorem shape_wide:∀{n:Nat} {lo hi lo' hi':List UInt8} {t:Tr},Shape n lo hi t→(lo'=lo∨lo'=[])→(hi'=hi∨hi'=[])→Shape n lo' hi' t
 | 0,_,_,_,_,_,h,_,_=>h.elim
 | n+1,lo,hi,lo',hi',.leaf p l,h,h1,h2=>by
  obtain⟨g1,g2,g3⟩:=h;refine⟨g1,g2,fun c hc=>?_⟩;obtain⟨k1,k2,k3,k4⟩:=g3 c hc;refine⟨k1,?_,?_,k4⟩
  ·rcases h1 with rfl|rfl
   ·exact k2
   ·exact List.not_lt_nil _
  ·rcases h2 with rfl|rfl
   ·exact k3
   ·exact .inl rfl
 | n+1,lo,hi,lo',hi',.node p l,h,h1,h2=>by
  obtain⟨g1,g2⟩:=h;exact⟨kids_wide (fun _ _ _ _ _ hP e1 e2=>⟨shape_wide hP.1 e1 e2,hP.2⟩) g1 h1 h2,g2⟩
theorem layKs_kid {n:Nat}:∀{l:List (List UInt8×Tr)} {s:List Int} {c':List UInt8×Tr},c'∈(layKs (layT n) l s).1→(l.map fun c=>freshN n c.2).sum≤s.length→∃c∈l,∃k,c'.2=(layT n c.2 (s.drop k)).1∧k+freshN n c.2≤s.length∧∀x∈(layT n c.2 (s.drop k)).2.1,x∈(layKs (layT n) l s).2.1
 | [],s,c',h,_=>by simp[layKs] at h
 | c::r,s,c',h,hl=>by
  simp only[List.map_cons,List.sum_cons] at hl;have hlf:(layT n c.2 s).2.2=s.drop (freshN n c.2):=layT_left n c.2 s;rw[layKs_cons,hlf] at h ⊢
  rcases List.mem_cons.1 h with e|h
  ·subst e
   exact⟨c,by simp,0,by simp,by omega,fun x hx=>by rw[List.drop_zero] at hx;exact List.mem_append_left _ hx⟩
  ·obtain⟨b,hb,k,e1,e2,e3⟩:=layKs_kid (s:=s.drop (freshN n c.2)) h (by rw[List.length_drop];omega)
   rw[List.length_drop] at e2;rw[List.drop_drop] at e1 e3;exact⟨b,List.mem_cons_of_mem _ hb,freshN n c.2+k,e1,by omega,fun x hx=>List.mem_append_right _ (e3 x hx)⟩
theorem kid_back {d:List Rg} {r N n:Nat} {f:Nat→List UInt8} (hd:RegAt d r N f) (hn:n≤1000) {t:Tr} (h:Fits n t) (h30:30≤sumT t) {s:List Int} (hs:Spots N s) (hl:freshN n t≤s.length) (hw:Stand f (layT n t s).2.1):loadD d r (layT n t s).1.page=.ok (layT n t s).1:=by
 obtain⟨p,hp,_,hpc,_⟩:=layT_page h hs hl;obtain⟨seen,h1,_⟩:=load_back hd n 1000 hn t h s [] hs hl hw (fun p _=>by simp);obtain⟨⟨lo,hi,hsh⟩,hb,h122,h0,h2⟩:=h;obtain⟨g1,g2⟩:=lay_shape (s:=s) hsh hb;have k2:∀p l,(layT n t s).1=.node p l→2≤l.length:=fun p l e=>by
  cases n with
  | zero=>exact hsh.elim
  | succ n=>
   refine good_len (n:=n+1) (lo:=lo) (hi:=hi) (p:=p) ?_;rw[←e];exact⟨g1,by unfold sumT;rw[g2];exact h30,by unfold sumT;rw[g2];exact h122⟩
 have hck:checkT 1000 (layT n t s).1=true:=by
  refine check_ok (n:=n) ⟨shape_wide g1 (.inr rfl) (.inr rfl),by unfold sumT;rw[g2];exact h122,k2⟩ hn (.inr ?_);have hs0:sumT (layT n t s).1=sumT t:=by unfold sumT;rw[g2]
  generalize (layT n t s).1=u at *;cases u with
  | leaf q m=>
   cases m with
   | nil=>rw[←hs0] at h30;simp[sumT,sizesT,sumI] at h30
   | cons c m=>simp[cntT]
  | node q m=>have:=k2 q m rfl;simp only[cntT];omega
 have hp0:(layT n t s).1.page≠0:=by
  rw[hp];intro e;rw[e] at hpc
  revert hpc
  decide
 unfold loadD;rw[if_neg hp0,h1];simp only[hck,if_true]
theorem laid_kids {l:List Pz} {fr N:Nat} {T:Tr} {R:Tr×List Wr×List Int} (h:LaidR l N T) (hl:l.length≤60) (hfr:fr≤255) (hR:layT N T (atZ fr (freshN N T))=R) {p:Int} {l':List (List UInt8×Tr)} (e:R.1=.node p l') {d:List Rg} {f:Nat→List UInt8} (hd:RegAt d 0 1000 f) (hw:Stand f R.2.1) :
 ∀c∈l',I64 c.2.page∧loadD d 0 c.2.page=.ok c.2:=fun c' hc'=>by
 have hf:=h.fresh;have hN:N≤1000:=by have:=h.ents.2;omega
 have hsp:Spots 1000 (atZ fr (freshN N T)):=atZ_spots (fr:=fr) (by omega) (by omega);have hlen:(atZ fr (freshN N T)).length=freshN N T:=atZ_len fr (freshN N T);generalize atZ fr (freshN N T)=s at *;cases N with
 | zero=>exact h.whole.1.1.elim
 | succ n=>
  cases T with
  | leaf q m=>
   rw[←hR,layT] at e
   split at e<;>cases e
  | node q m=>
   have h0:freshN (n+1) (.node q m)≠0:=by rw[freshN];omega
   have hF:=fits_whole h.whole h.bare h0;rw[freshN] at hlen;rw[←hR,layT] at e hw
   injection e with e1 e2
   subst e2;obtain⟨c,hc,k,k1,k2,k3⟩:=layKs_kid hc' (by omega);obtain⟨lo',hi',_,g2,_⟩:=kids_each h.whole.1.1.1 c hc;have hFc:=fits_kids hF c hc;have hl2:freshN n c.2≤(s.drop k).length:=by rw[List.length_drop];omega
   obtain⟨pg,hp,_,hpc,hpn⟩:=layT_page hFc (hsp.drop k) hl2;rw[k1];refine⟨?_,kid_back hd (by omega) hFc g2 (hsp.drop k) hl2 (fun x hx=>hw x (List.mem_append_left _ (k3 x hx)))⟩;rw[hp];unfold pgC at hpc;simp at hpc;unfold I64;omega
open Go.RowKit
theorem kids_mem {F:Nat→Prop} {w:World} {p5:Int} {l5:Bool} {ka5 va5 ca5:Option Addr} {kn5 kc5 vn5 vc5 cn5 cc5:Nat} {T:Tr} {Q:Int→Tr→Prop} (h:NodeOn F 1000 w [.int .i64 p5,.bool l5,.slice ka5 kn5 kc5,.slice va5 vn5 vc5,.slice ca5 cn5 cc5] T) (hk:∀p l,T=.node p l→∀c∈l,I64 c.2.page∧Q c.2.page c.2) :
 (cn5=kn5∨l5=true)∧(kn5≤kc5∧kc5≤9223372036854775807∧cn5≤cc5∧cc5≤9223372036854775807)∧∀i,i<cn5→∃bk ok t k1 k2 k3 k4 k5 k6 k7 k8,ca5=some ⟨bk,ok,none⟩∧bk<w.heap.size∧NodeOn F 1000 w [.int .i64 t.page,.bool t.isLeaf,.slice k1 (cntT t) k2,.slice k3 k4 k5,.slice k6 k7 k8] t∧I64 t.page∧Q t.page t ∧
  w.cell? ⟨bk,ok+i*5,none⟩=some (.int .i64 t.page)∧w.cell? ⟨bk,ok+i*5+1,none⟩=some (.bool t.isLeaf)∧w.cell? ⟨bk,ok+i*5+2,none⟩=some (.slice k1 (cntT t) k2)∧w.cell? ⟨bk,ok+i*5+3,none⟩=some (.slice k3 k4 k5)∧w.cell? ⟨bk,ok+i*5+4,none⟩=some (.slice k6 k7 k8):=by
 have h:NodeOn F (999+1) w [.int .i64 p5,.bool l5,.slice ka5 kn5 kc5,.slice va5 vn5 vc5,.slice ca5 cn5 cc5] T:=h;cases T with
 | leaf p l=>
  obtain⟨ka,kn,kc,va,vn,vc,ca,cc,e,h1,_,_,_,h2⟩:=h;simp only[List.cons.injEq,Value.int.injEq,Value.bool.injEq,Value.slice.injEq,and_true,true_and] at e;obtain⟨_,rfl,⟨rfl,rfl,rfl⟩,_,rfl,rfl,rfl⟩:=e;have g1:=(TabR.lens h1).2;have g2:=(TabR.lens h2).2;exact⟨.inr rfl,⟨g1.1,g1.2,g2.1,g2.2⟩,fun i hi=>absurd hi (Nat.not_lt_zero _)⟩
 | node p l=>
  obtain⟨ka,kn,kc,va,vc,ca,cn,cc,e,h1,_,_,h2,_⟩:=h;simp only[List.cons.injEq,Value.int.injEq,Value.bool.injEq,Value.slice.injEq,and_true,true_and] at e;obtain⟨_,rfl,⟨rfl,rfl,rfl⟩,_,rfl,rfl,rfl⟩:=e;have g1:=TabR.lens h1;have g2:=TabR.lens h2;refine⟨.inl ?_,⟨g1.2.1,g1.2.2,g2.2.1,g2.2.2⟩,fun i hi=>?_⟩
  ·rw[←g2.1,←g1.1];simp[keysOf]
  ·obtain⟨b,off,y,cs,e1,e2,e3,_,e5,e6⟩:=TabR.at h2 hi
   rw[List.getElem?_map,Option.map_eq_some_iff] at e3;obtain⟨c,hc,rfl⟩:=e3;have hcm:=List.mem_of_getElem? hc;obtain⟨hI,hQ⟩:=hk p l rfl c hcm;obtain⟨k1,k2,k3,k4,k5,k6,k7,k8,rfl,_⟩:=e5.words;exact⟨b,off,c.2,k1,k2,k3,k4,k5,k6,k7,k8,e1,e2,NodeOn.more (n:=999) (m:=1000) e5 (by decide),hI,hQ,e6 0 _ rfl,e6 1 _ rfl,e6 2 _ rfl,e6 3 _ rfl,e6 4 _ rfl⟩
theorem lKids (a:Option Addr) (n c:Nat) (l:List Pz) (fr:Nat) (hfr:fr≤255) (w:World) (h1:Pzs w a n c l) (hh:Half w) :
 Calls Tryz.prog 5 #[.slice a n c,.int .u8 (fr:Int)] w fun e w'=>e=.returned (.bool true)∧Below w.heap.size w w':=by
 have A:=awake20_any w hh;have H1:=Hd h1;clear h1;go_enter Tryz.func5,Tryz.ntmps5;go_wp2_with fail;refine A.mono ?_;rintro e w0 ⟨rfl,hb0⟩;have L:=laid_any (TabR.below (Nat.le_refl _) hb0 H1.out:Pzs w0 a n c l) hfr;have HB0:=Hd hb0;clear A hb0;go_wp2_with fail;refine L.mono ?_;rintro e w1 ⟨hb1,hres⟩;have HB1:=Hd (below_then HB0.out hb1);clear L
 rcases hres with⟨hs,p,lf,a9,m9,c9,vW,rfl⟩|⟨hs,N,T,hlr,R,hR,p,lf,a9,m9,c9,aW,cW,rfl,hn,ho⟩
 ·have HB2:=Hd (below_then HB1.out (show Below w1.heap.size w1 (w1.alloc (.cells #[.int .i64 p,.bool lf,.slice a9 m9 c9] 27)) from Below.al (Below.refl _ _)))
  clear hs hb1;go_wp2_with fail;go_ret;exact⟨rfl,HB2.out⟩
 have hl60:l.length≤60:=by unfold smallZ at hs;simp at hs;exact hs.2
 obtain⟨hN,hWd,hWp,hRn,hpp,hback⟩:=laid_facts hlr hl60 hfr hR;obtain⟨w2,hw2⟩:∃x,w1.alloc (.cells #[.int .i64 p,.bool lf,.slice a9 m9 c9] 27)=x:=⟨_,rfl⟩
 have hpe:p=R.1.page:=by
  exact qc97986
 have hpI:I64 p:=by rw[hpe];unfold I64;omega
 have hb12:Below w1.heap.size w1 w2:=by rw[←hw2];exact Below.al (Below.refl _ _)
 have hWR:=(Wrs.own ho)
 have hWR2:Wrs w2 aW R.2.1.length cW R.2.1:=TabR.below (Nat.le_refl _) hb12 hWR;have hcW:=(TabR.lens hWR).2;unfold maxLen at hcW;have hx2:Boxes w2 [(w1.heap.size,[.int .i64 p,.bool lf,.slice a9 m9 c9])]:=by rw[←hw2];exact(Boxes.nil w1).alloc #[.int .i64 p,.bool lf,.slice a9 m9 c9] 27 rfl
 have hbw2:Below w.heap.size w w2:=below_then HB1.out hb12;have HNN:=Hd ((hn.more hN).below hb12);have HP:=Hd hWR2;have HX:=Hd hx2;have HB2:=Hd hbw2;have HWP:=Hd hWp;have HWD:=Hd hWd;have HPI:=Hd hpI;have HPE:=Hd hpe;have HBK:=Hd hback;have D:=new_ok (aw_one20 w2 1000) (by decide);have hA2:Below w2.heap.size w2 (w2.alloc (.cells #[.int .i64 1000] 3)):=(Below.refl _ _).alloc (Nat.le_refl _) _;have hsz2:(w2.alloc (.cells #[.int .i64 1000] 3)).heap.size=w2.heap.size+1:=by simp
 have HKD:=Hd (fun p' l' (e:R.1=.node p' l') d f hd hw=>laid_kids hlr hl60 hfr hR e (d:=d) (f:=f) hd hw);clear hs hb1 hlr hR hn ho hl60 hpI hpe hb12 hWR hWR2 hx2 hbw2 H1 HB0 HB1 hWp hWd hback hpp hN;go_wp2_with fail;refine D.mono ?_;rintro e w3 ⟨db,rfl,hd3,hb3⟩;rw[hsz2] at hd3;have hw3:Below w2.heap.size w2 w3:=below_then hA2 hb3;have hr3:=RegAt.new (l:=[1000]) (r:=0) (n:=1000) rfl;have HD3:=Hd hd3;have HW3:=Hd hw3;clear D hb3 hsz2 hA2 hd3 hw3;have HR3:=Hd hr3;clear hr3;go_wp2_with fail
 go_loopw [11] (fun s wr=>∃(i:Nat) (d:List Rg),i≤R.2.1.length∧s=.int .i64 i∧One (w2.heap.size+1) wr db (0+i) d∧Wrtn zeros 1000 R.2.1 i d∧Below w2.heap.size w2 wr) (fun s _=>R.2.1.length-(intOf s).toNat)
 case atStart=>exact⟨0,_,Nat.zero_le _,rfl,HD3.out,Wrtn.start HR3.out _,HW3.out⟩
 case round=>
  clear HD3 HW3;obtain⟨i,d,hi,rfl,hd,hwr,hb⟩:=hrel
  by_cases hlt:i<R.2.1.length
  ·obtain⟨bl,ol,y,rfl,hbl,hy,c0,c1⟩:=HP.out.at hlt
   exact qcd2a40
  ·obtain rfl:i=R.2.1.length:=by omega
   have hlt':decide ((R.2.1.length:Int)<(R.2.1.length:Int))=false:=by simp
   obtain⟨fE,hreg,hstand,hrest⟩:=hwr;rw[List.take_length] at hstand hrest;have hld:=HBK.out d fE hreg hstand;rw[←HPE.out] at hld;have hcp:=HX.out.step hb;have f0:=hcp.cell 0 0 rfl rfl;have hbw:=below_then HB2.out hb;have G1:=(load_any hd (hh.below (Nat.le_refl _) hbw) 0 p HPI.out).mono fun e w' h=>h.code
   rw[hld] at G1;have HD:=Hd hd;have HBR:=Hd hb;have HBW:=Hd hbw;have HRG:=Hd hreg;have HST:=Hd hstand;clear hd hbw hb hcp hld hreg hstand hrest;go_wp2_with fail;refine G1.mono ?_;rintro e w5 ⟨hb5,p5,l5,ka5,kn5,kc5,va5,vn5,vc5,ca5,cn5,cc5,rfl,hn5⟩;rw[show codeD (.ok R.1)=0 from rfl];replace hn5:=hn5 _ rfl;change NodeOn _ _ _ _ _ at hn5;obtain⟨w6,hw6⟩:∃x,w5.alloc (.cells #[.int .i64 p5,.bool l5,.slice ka5 kn5 kc5,.slice va5 vn5 vc5,.slice ca5 cn5 cc5] 50)=x:=⟨_,rfl⟩
   have hbaw6:Below w5.heap.size w5 w6:=by rw[←hw6];exact Below.al (Below.refl _ _)
   have hx6:Boxes w6 [(w5.heap.size,[.int .i64 p5,.bool l5,.slice ka5 kn5 kc5,.slice va5 vn5 vc5,.slice ca5 cn5 cc5])]:=by rw[←hw6];exact(Boxes.nil w5).alloc #[.int .i64 p5,.bool l5,.slice ka5 kn5 kc5,.slice va5 vn5 vc5,.slice ca5 cn5 cc5] 50 rfl
   have hB6:=below_via hb5 hbaw6;have hn6:=hn5.below hbaw6;have hNN6:=RNodeOn.below HNN.out (below_then HBR.out hB6);have hbt:Bnd 1000 R.1:=loadD_bnd (HBK.out d fE HRG.out HST.out);have CP:∀W,Below w6.heap.size w6 W→Calls Tryz.prog 18 #[.agg #[.int .i64 p5,.bool l5,.slice ka5 kn5 kc5,.slice va5 vn5 vc5,.slice ca5 cn5 cc5]] W (RNodeTo (fun b=>wr.heap.size≤b∧b<w6.heap.size) 1000 W R.1):=fun W hW=>plain20_any (fun b hb=>Nat.lt_of_lt_of_le hb.2 hW.size) (hn6.lt.below hW) hbt
   have hxn:=HX.out.step (below_then HBR.out hB6);have a0:∀W,Below w6.heap.size w6 W→W.cell? ⟨w5.heap.size,0,none⟩=some (.int .i64 p5):=fun W hW=>(hx6.step hW).cell 0 0 rfl rfl
   have a1:∀W,Below w6.heap.size w6 W→W.cell? ⟨w5.heap.size,1,none⟩=some (.bool l5):=fun W hW=>(hx6.step hW).cell 0 1 rfl rfl
   have a2:∀W,Below w6.heap.size w6 W→W.cell? ⟨w5.heap.size,2,none⟩=some (.slice ka5 kn5 kc5):=fun W hW=>(hx6.step hW).cell 0 2 rfl rfl
   have a3:∀W,Below w6.heap.size w6 W→W.cell? ⟨w5.heap.size,3,none⟩=some (.slice va5 vn5 vc5):=fun W hW=>(hx6.step hW).cell 0 3 rfl rfl
   have a4:∀W,Below w6.heap.size w6 W→W.cell? ⟨w5.heap.size,4,none⟩=some (.slice ca5 cn5 cc5):=fun W hW=>(hx6.step hW).cell 0 4 rfl rfl
   have b0:∀W,Below w6.heap.size w6 W→W.cell? ⟨w1.heap.size,0,none⟩=some (.int .i64 p):=fun W hW=>(hxn.step hW).cell 0 0 rfl rfl
   have b1:∀W,Below w6.heap.size w6 W→W.cell? ⟨w1.heap.size,1,none⟩=some (.bool lf):=fun W hW=>(hxn.step hW).cell 0 1 rfl rfl
   have b2:∀W,Below w6.heap.size w6 W→W.cell? ⟨w1.heap.size,2,none⟩=some (.slice a9 m9 c9):=fun W hW=>(hxn.step hW).cell 0 2 rfl rfl
   have HB6:=Hd hB6;have HX6:=Hd hx6;have HN6:=Hd hn6;clear G1 hb5 hx6 hbaw6 hn5 hn6 hxn hB6;have HKK:=Hd (kids_mem (F:=fun b=>wr.heap.size≤b) (Q:=fun pg t=>loadD d 0 pg=.ok t) HN6.out (fun p' l' e=>HKD.out p' l' e d fE HRG.out HST.out));have hcc:kn5≤kc5∧kc5≤9223372036854775807∧cn5≤cc5∧cc5≤9223372036854775807:=HKK.out.2.1;have HBW6:=Hd (below_then HBW.out HB6.out);have HD6:=Hd (HD.out.below HB6.out);obtain⟨B4,hB4⟩:∃x,wr.heap.size=x:=⟨_,rfl⟩
   rw[hB4] at HKK;clear CP hNN6 hbt b0 b1 b2 HB6 HBW HD HBR HN6 hB4;go_wp2_with fail
   go_loopw [14] (fun s wk=>∃(i:Nat),i≤cn5∧s=.int .i64 i∧Below w6.heap.size w6 wk) (fun s _=>cn5-(intOf s).toNat)
   case atStart=>exact⟨0,Nat.zero_le _,rfl,Below.refl _ _⟩
   case round=>
    obtain⟨i,hi,rfl,hb⟩:=hrel;have x0:=a0 _ hb;have x1:=a1 _ hb;have x2:=a2 _ hb;have x4:=a4 _ hb
    by_cases hlt:i<cn5
    ·obtain⟨bk,ok,t,k1,k2,k3,k4,k5,k6,k7,k8,rfl,hbk,hnk,hIk,hlk,q0,q1,q2,q3,q4⟩:=HKK.out.2.2 i hlt
     have hlt':(i:Int)<(cn5:Int):=by omega
     have y0:=(hb.cell (p:=⟨bk,ok+i*5,none⟩) hbk).trans q0;have G2:=(load_any (HD6.out.below hb) (hh.below (Nat.le_refl _) (below_then HBW6.out hb)) 0 t.page hIk).mono fun e w' h=>h.code
     replace hlk:loadD d 0 t.page=.ok t:=hlk;rw[hlk] at G2;have htk:=loadD_bnd hlk;have HBI:=Hd hb;have HNK:=Hd hnk;clear hb x0 x1 x2 hIk hlk hnk;go_wp2_with fail;refine G2.mono ?_;rintro e w7 ⟨hb7,p7,l7,ka7,kn7,kc7,va7,vn7,vc7,ca7,cn7,cc7,rfl,hn7⟩;rw[show codeD (.ok t)=0 from rfl];replace hn7:=hn7 _ rfl;change NodeOn _ _ _ _ _ at hn7;obtain⟨w8,hw8⟩:∃x,w7.alloc (.cells #[.int .i64 p7,.bool l7,.slice ka7 kn7 kc7,.slice va7 vn7 vc7,.slice ca7 cn7 cc7] 50)=x:=⟨_,rfl⟩
     have hbaw8:Below w7.heap.size w7 w8:=by rw[←hw8];exact Below.al (Below.refl _ _)
     have hx8:Boxes w8 [(w7.heap.size,[.int .i64 p7,.bool l7,.slice ka7 kn7 kc7,.slice va7 vn7 vc7,.slice ca7 cn7 cc7])]:=by rw[←hw8];exact(Boxes.nil w7).alloc #[.int .i64 p7,.bool l7,.slice ka7 kn7 kc7,.slice va7 vn7 vc7,.slice ca7 cn7 cc7] 50 rfl
     have hB8:=below_via hb7 hbaw8;have hB68:=below_then HBI.out hB8;have hn8:=hn7.below hbaw8;have hnk8:=HNK.out.below hB68;have CP1:∀W,Below w8.heap.size w8 W→Calls Tryz.prog 18 #[.agg #[.int .i64 p7,.bool l7,.slice ka7 kn7 kc7,.slice va7 vn7 vc7,.slice ca7 cn7 cc7]] W (RNodeTo (fun b=>wr.heap.size≤b∧b<w8.heap.size) 1000 W t):=fun W hW=>plain20_any (fun b hb=>Nat.lt_of_lt_of_le hb.2 hW.size) (hn8.lt.below hW) htk
     have CP2:∀W,Below w8.heap.size w8 W→Calls Tryz.prog 18 #[.agg #[.int .i64 t.page,.bool t.isLeaf,.slice k1 (cntT t) k2,.slice k3 k4 k5,.slice k6 k7 k8]] W (RNodeTo (fun b=>B4≤b∧b<w8.heap.size) 1000 W t):=fun W hW=>plain20_any (fun b hb=>Nat.lt_of_lt_of_le hb.2 hW.size) (hnk8.lt.below hW) htk
     have c0:∀W,Below w8.heap.size w8 W→W.cell? ⟨w7.heap.size,0,none⟩=some (.int .i64 p7):=fun W hW=>(hx8.step hW).cell 0 0 rfl rfl
     have c1:∀W,Below w8.heap.size w8 W→W.cell? ⟨w7.heap.size,1,none⟩=some (.bool l7):=fun W hW=>(hx8.step hW).cell 0 1 rfl rfl
     have c2:∀W,Below w8.heap.size w8 W→W.cell? ⟨w7.heap.size,2,none⟩=some (.slice ka7 kn7 kc7):=fun W hW=>(hx8.step hW).cell 0 2 rfl rfl
     have c3:∀W,Below w8.heap.size w8 W→W.cell? ⟨w7.heap.size,3,none⟩=some (.slice va7 vn7 vc7):=fun W hW=>(hx8.step hW).cell 0 3 rfl rfl
     have c4:∀W,Below w8.heap.size w8 W→W.cell? ⟨w7.heap.size,4,none⟩=some (.slice ca7 cn7 cc7):=fun W hW=>(hx8.step hW).cell 0 4 rfl rfl
     have hbk8:=Nat.lt_of_lt_of_le hbk hB68.size;have d0:∀W,Below w8.heap.size w8 W→W.cell? ⟨bk,ok+i*5,none⟩=some (.int .i64 t.page):=fun W hW=>(hW.cell (p:=⟨bk,ok+i*5,none⟩) hbk8).trans ((hB68.cell (p:=⟨bk,ok+i*5,none⟩) hbk).trans q0)
     have d1:∀W,Below w8.heap.size w8 W→W.cell? ⟨bk,ok+i*5+1,none⟩=some (.bool t.isLeaf):=fun W hW=>(hW.cell (p:=⟨bk,ok+i*5+1,none⟩) hbk8).trans ((hB68.cell (p:=⟨bk,ok+i*5+1,none⟩) hbk).trans q1)
     have d2:∀W,Below w8.heap.size w8 W→W.cell? ⟨bk,ok+i*5+2,none⟩=some (.slice k1 (cntT t) k2):=fun W hW=>(hW.cell (p:=⟨bk,ok+i*5+2,none⟩) hbk8).trans ((hB68.cell (p:=⟨bk,ok+i*5+2,none⟩) hbk).trans q2)
     have d3:∀W,Below w8.heap.size w8 W→W.cell? ⟨bk,ok+i*5+3,none⟩=some (.slice k3 k4 k5):=fun W hW=>(hW.cell (p:=⟨bk,ok+i*5+3,none⟩) hbk8).trans ((hB68.cell (p:=⟨bk,ok+i*5+3,none⟩) hbk).trans q3)
     have d4:∀W,Below w8.heap.size w8 W→W.cell? ⟨bk,ok+i*5+4,none⟩=some (.slice k6 k7 k8):=fun W hW=>(hW.cell (p:=⟨bk,ok+i*5+4,none⟩) hbk8).trans ((hB68.cell (p:=⟨bk,ok+i*5+4,none⟩) hbk).trans q4)
     have m4:∀W,Below w8.heap.size w8 W→W.cell? ⟨w5.heap.size,4,none⟩=some (.slice (some ⟨bk,ok,none⟩) cn5 cc5):=fun W hW=>a4 _ (below_then hB68 hW)
     have HB68:=Hd hB68;clear G2 hb7 hx8 hbaw8 hB8 hB68 hn7 hn8 hnk8 x4 y0 q0 q1 q2 q3 q4;go_upto_region 19 with(fail)
     refine wp_region_noPanic ?_;refine wp_region_held_drew (S:=(fun W=>Below w8.heap.size w8 W)) (by kernel_rfl) (by(repeat (with_reducible first|assumption|exact Below.refl _ _|apply Below.al|apply Below.dr))) (fun hHeld=>?_);refine tks [0,1,2,3,5,6,7,8,9] ?_;refine rdy 4 (fun K hK=>?_);rw[if_pos (by rfl)]
     go_wp2_with ((go_at_call 18;(with_reducible refine(CP1 _ ?_).mono ?_);(focus (repeat (with_reducible first|assumption|exact Below.refl _ _|apply Below.al|apply Below.dr)));rintro e wP ⟨cs9,rfl,hrP,hbP⟩;have hBP:Below w8.heap.size w8 wP:=below_via (by(repeat (with_reducible first|assumption|exact Below.refl _ _|apply Below.al|apply Below.dr))) hbP;(obtain⟨g1,g2,g3,rfl⟩:=RNodeOn.open_pos hrP)))
     refine bkw hK (by(repeat (with_reducible first|assumption|exact Below.refl _ _|apply Below.al|apply Below.dr))) (fun hHeld=>?_);clear hK K;refine rdy 10 (fun K hK=>?_);rw[if_pos (by rfl)]
     go_wp2_with ((go_at_call 18;(with_reducible refine(CP2 _ ?_).mono ?_);(focus (repeat (with_reducible first|assumption|exact Below.refl _ _|apply Below.al|apply Below.dr)));rintro e wQ ⟨cs8,rfl,hrQ,hbQ⟩;have hBQ:Below w8.heap.size w8 wQ:=below_via (by(repeat (with_reducible first|assumption|exact Below.refl _ _|apply Below.al|apply Below.dr))) hbQ;(obtain⟨g4,g5,g6,rfl⟩:=RNodeOn.open_pos hrQ)))
     refine bkw hK (by(repeat (with_reducible first|assumption|exact Below.refl _ _|apply Below.al|apply Below.dr))) (fun hHeld=>?_);clear hK K;refine rdy 11 (fun K hK=>?_);rw[if_pos (by rfl)]
     go_wp2_with ((go_at_call 17;(with_reducible refine(same_any (RNodeOn.below hrP hbQ) hrQ).mono ?_);rintro e wS ⟨rfl,hbS⟩;have hBS:Below w8.heap.size w8 wS:=below_via hBQ hbS))
     refine bkw hK (by(repeat (with_reducible first|assumption|exact Below.refl _ _|apply Below.al|apply Below.dr))) (fun hHeld=>?_);clear hK K;refine tks [12,13] ?_;refine wpAnyH_done (by kernel_rfl) ?_ _;refine NoPanic.normal ?_;have HBE:=Hd (below_then HB68.out hBS);clear hbP hBP hbQ hBQ hbS hBS hrP hrQ c0 c1 c2 c3 c4 d0 d1 d2 d3 d4 m4 CP1 CP2;go_wp2_with fail;go_roundw
     case rel=>exact⟨i+1,hlt,by go_num,HBE.out⟩
     case measure=>simp[intOf];omega
    ·obtain rfl:i=cn5:=by omega
     have hlt':decide ((i:Int)<(i:Int))=false:=by simp
     have HBE:=Hd (below_then HBW6.out hb);clear hb
     by_cases hck:i=kn5
     ·have e1:((i:Int) == (kn5:Int))=true:=by simp[hck]
      have e2:(i == kn5)=true:=by simp[hck]
      clear hck hlt;go_wp2_with fail;go_ret;exact⟨rfl,HBE.out⟩
     ·have e1:((i:Int) == (kn5:Int))=false:=by simp;omega
      have e2:(i == kn5)=false:=by simp;omega
      obtain rfl:l5=true:=HKK.out.1.resolve_left hck;clear hck hlt;go_wp2_with fail;go_ret;exact⟨rfl,HBE.out⟩
open Go.RowKit
def Pgs (b:List UInt8):Prop:=∃kind l,b=pageOf kind l∧fits kind l=true
theorem putN_pgs {leaf:Bool} {l:List En} (h:nodeB leaf l=true):Pgs (putN leaf l):=⟨_,_,by rw[putN,if_pos h],fits_node h⟩
theorem putLC_pgs {v:List UInt8} {at_:List Int} (hok:putOkC v at_=true):∀b∈putLC v at_,Pgs b:=fun b hb=>by
 rw[putLC,hok,if_pos rfl] at hb;obtain⟨k,_,rfl⟩:=List.mem_map.1 hb;exact⟨3,_,rfl,pageC_fits v at_ k⟩
theorem layVs_pgs {N:Nat}:∀{l:List (List UInt8×Tv)} {s:List Int},(∀c∈l,c.2.pages=[])→Spots N s→(l.map fun c=>needC c.2.data.length).sum≤s.length→∀x∈(layVs l s).2.1,Pgs x.2
 | [],s,_,_,_=>by simp[layVs]
 | c::r9,s,hp,hs,hl=>by
  simp only[List.map_cons,List.sum_cons] at hl;obtain⟨e,e1,e2,h1,h2,h3⟩:=layVs_cons (r:=r9) (s:=s) (hp c (by simp));have ih:=layVs_pgs (l:=r9) (s:=s.drop (needC c.2.data.length)) (fun c hc=>hp c (List.mem_cons_of_mem _ hc)) (hs.drop _) (by rw[List.length_drop];omega)
  rcases h3 with⟨_,_,h3⟩|⟨h0,_,h3⟩
  ·rw[h3];exact ih
  ·rw[h3]
   intro x hx
   rcases List.mem_append.1 hx with hx|hx
   ·exact putLC_pgs (hs.ok h0 (by omega)) _ (List.of_mem_zip hx).2
   ·exact ih x hx
theorem layKs_pgs {N n:Nat} (IH:∀t,Fits n t→∀s,Spots N s→freshN n t≤s.length→∀x∈(layT n t s).2.1,Pgs x.2):∀{l:List (List UInt8×Tr)} {s:List Int},(∀c∈l,Fits n c.2)→Spots N s→(l.map fun c=>freshN n c.2).sum≤s.length→∀x∈(layKs (layT n) l s).2.1,Pgs x.2
 | [],s,_,_,_=>by simp[layKs]
 | c::r9,s,hp,hs,hl=>by
  simp only[List.map_cons,List.sum_cons] at hl;have hlf:(layT n c.2 s).2.2=s.drop (freshN n c.2):=layT_left n c.2 s;rw[layKs_cons,hlf];intro x hx
  rcases List.mem_append.1 hx with hx|hx
  ·exact IH c.2 (hp c (by simp)) s hs (by omega) x hx
  ·exact layKs_pgs IH (l:=r9) (s:=s.drop (freshN n c.2)) (fun c hc=>hp c (List.mem_cons_of_mem _ hc)) (hs.drop _) (by rw[List.length_drop];omega) x hx
theorem layT_pgs {N:Nat}:∀(n:Nat) (t:Tr),Fits n t→∀s,Spots N s→freshN n t≤s.length→∀x∈(layT n t s).2.1,Pgs x.2
 | 0,t,h,_,_,_=>by obtain⟨⟨_,_,h1⟩,_⟩:=h;exact h1.elim
 | n+1,.leaf p l,h,s,hs,hl=>by
  obtain⟨⟨lo,hi,hn0,hlo⟩,hb,hsum,h0,_⟩:=h;have hne:l≠[]:=fun e=>by rw[freshN,if_pos e] at h0;exact h0 rfl
  obtain⟨_,hbv⟩:=bare_vals hb;rw[freshN,if_neg hne] at hl;rw[layT,if_neg hne];have hnb:=leaf_nodeB hlo hbv hs (by omega) hne hsum;intro x hx
  rcases List.mem_append.1 hx with hx|hx
  ·exact layVs_pgs hbv hs (by omega) x hx
  ·rw[List.mem_singleton.1 hx]
   exact putN_pgs hnb
 | n+1,.node p l,h,s,hs,hl=>by
  have hks:=fits_kids h;rw[freshN] at hl;rw[layT];have hnb:=node_nodeB h hs (by omega);intro x hx
  rcases List.mem_append.1 hx with hx|hx
  ·exact layKs_pgs (fun t h s hs hl=>layT_pgs n t h s hs hl) hks hs (by omega) x hx
  ·rw[List.mem_singleton.1 hx]
   exact putN_pgs hnb
def Spl (f:Nat→List UInt8) (p:Int) (W:List Wr):Prop:=unpE (f p.toNat)=12∧∀y∈W,y.1≠p→f y.1.toNat=y.2
theorem Spl.left {f:Nat→List UInt8} {p:Int} {A B:List Wr} (h:Spl f p (A++B)):Spl f p A:=⟨h.1,fun y hy=>h.2 y (List.mem_append_left _ hy)⟩
theorem Spl.right {f:Nat→List UInt8} {p:Int} {A B:List Wr} (h:Spl f p (A++B)):Spl f p B:=⟨h.1,fun y hy=>h.2 y (List.mem_append_right _ hy)⟩
theorem Spl.stand {f:Nat→List UInt8} {p:Int} {A:List Wr} (h:Spl f p A) (hp:p∉A.map (·.1)):Stand f A:=fun y hy=>h.2 y hy (fun e=>hp (List.mem_map.2 ⟨y,hy,e⟩))
theorem zip_fst {v:List UInt8} {at_:List Int} (hok:putOkC v at_=true):(at_.zip (putLC v at_)).map (·.1)=at_:=List.map_fst_zip (by rw[(putLC_all hok).1];exact Nat.le_refl _)
theorem val_spoiled {d:List Rg} {r N:Nat} {f:Nat→List UInt8} (hd:RegAt d r N f) {v:List UInt8} {at_:List Int} (ha:Spots N at_) (hok:putOkC v at_=true) {p:Int} (hp:p∈at_) (hw:Spl f p (at_.zip (putLC v at_))) :
 getDC d r (at_.headD 0) v.length=([],[],12):=by
 have h0:at_.headD 0=atC at_ 0:=by cases at_<;>simp[atC]
 rw[h0];obtain⟨k,hk,rfl⟩:=List.getElem_of_mem hp;have ek:atC at_ k=at_[k]:=by simp[atC,hk]
 refine gotC_lost hok hd (fun i hi=>?_) k hk 12 (by decide) (by decide) ?_ (fun i hi=>?_)
 ·have e:atC at_ i=at_[i]:=by simp[atC,hi]
  rw[e];exact(ha.2 _ (List.getElem_mem hi)).2
 ·rw[ek,oneEC,if_pos (by rw[hw.1];decide),hw.1]
 ·have hi2:i<at_.length:=by omega
  have e:atC at_ i=at_[i]:=by simp[atC,hi2]
  have:=hw.2 (at_[i],pageC v at_ i) (List.mem_of_getElem? (i:=i) (by
   rw[List.getElem?_zip_eq_some];exact⟨List.getElem?_eq_getElem hi2,putLC_at hok hi2⟩)) (fun h9=>by
    have:=List.pairwise_iff_getElem.1 ha.1 i k hi2 hk hi;exact this h9)
  rw[e];exact this
theorem valsL_bad {d:List Rg} {r:Int} {seen:List Int} {e:En} {l:List En} {x:Int} (h:valL d r seen e.v=.error x):valsL d r seen (e::l)=.error x:=by
 unfold valsL;rw[h]
theorem valsL_on {d:List Rg} {r:Int} {seen s:List Int} {e:En} {v:Tv} {l:List En} {x:Int} (h:valL d r seen e.v=.ok (s,v)) (h2:valsL d r s l=.error x):valsL d r seen (e::l)=.error x:=by
 rw[valsL,h];simp only[h2]
theorem kidsL_bad {F:List Int→Int→Except Int (List Int×Tr)} {seen:List Int} {e:En} {l:List En} {x:Int} (h:F seen e.v.page=.error x):kidsL F seen (e::l)=.error x:=by
 unfold kidsL;rw[h]
theorem kidsL_on {F:List Int→Int→Except Int (List Int×Tr)} {seen s:List Int} {e:En} {t:Tr} {l:List En} {x:Int} (h:F seen e.v.page=.ok (s,t)) (h2:kidsL F s l=.error x):kidsL F seen (e::l)=.error x:=by
 rw[kidsL,h];simp only[h2]
theorem vals_spoiled {d:List Rg} {r N:Nat} {f:Nat→List UInt8} (hd:RegAt d r N f) {p:Int}:∀{l:List (List UInt8×Tv)} {s seen:List Int},(∀c∈l,c.2.pages=[])→Spots N s→(l.map fun c=>needC c.2.data.length).sum≤s.length→p∈s.take (l.map fun c=>needC c.2.data.length).sum→Spl f p (layVs l s).2.1→(∀p∈s.take (l.map fun c=>needC c.2.data.length).sum,p∉seen) →
 valsL d r seen ((layVs l s).1.map entV)=.error 12
 | [],s,seen,_,_,_,h,_,_=>by simp at h
 | c::r9,s,seen,hp,hs,hl,hpm,hw,hd9=>by
  have hc:=hp c (by simp);simp only[List.map_cons,List.sum_cons] at hl hd9 hpm;obtain⟨e,e1,e2,h1,h2,h3⟩:=layVs_cons (r:=r9) (s:=s) hc;obtain⟨k,hk⟩:∃x,needC c.2.data.length=x:=⟨_,rfl⟩
  rw[hk] at h1 h2 h3 hl hd9 hpm;rw[List.take_add] at hd9 hpm;have hsd:Spots N (s.drop k):=hs.drop k;rw[h1,List.map_cons]
  rcases h3 with⟨h0,rfl,h3⟩|⟨h0,rfl,h3⟩
  ·have hv:valL d r seen (entV e).v=.ok (seen,e.2):=by
    unfold entV;rw[if_pos hc];unfold valL;simp;obtain⟨_,⟨_,_⟩⟩:=e;simp at hc;simp[hc]
   rw[h3] at hw;refine valsL_on hv (vals_spoiled hd (l:=r9) (s:=s.drop k) (seen:=seen) (fun c hc=>hp c (List.mem_cons_of_mem _ hc)) hsd (by rw[List.length_drop];omega) ?_ hw (fun q hq=>hd9 q (List.mem_append_right _ hq)));subst h0;simpa using hpm
  ·have hok:putOkC c.2.data (s.take k)=true:=by rw[←hk];exact hs.ok (by rw[hk];exact h0) (by rw[hk];omega)
   have hne:s.take k≠[]:=fun e=>by
    have h9:(s.take k).length=0:=by rw[e];rfl
    rw[List.length_take] at h9;omega
   rw[h3] at hw;have hent:(entV (c.1,(⟨c.2.data,s.take k⟩:Tv))).v=⟨[],true,c.2.data.length,(s.take k).headD 0⟩:=by
    unfold entV;rw[if_neg hne]
   by_cases hpk:p∈s.take k
   ·refine valsL_bad ?_
    have hb:=val_spoiled hd (hs.take k) hok hpk hw.left;rw[hent];unfold valL;simp only[if_neg (show ¬(true=false) by decide),hb];rw[if_pos (by decide)]
   ·have hpr:=(List.mem_append.1 hpm).resolve_left hpk
    have hst:Stand f ((s.take k).zip (putLC c.2.data (s.take k))):=hw.left.stand (by rw[zip_fst hok];exact hpk);have hb:=val_back hd hs (v:=c.2.data) (by rw[hk];exact h0) (by rw[hk];omega) (by rw[hk];exact hst);rw[hk] at hb;have hsee:=seeL_ok (hs.take k).1 (fun p hp=>hd9 p (List.mem_append_left _ hp));have hv:valL d r seen (entV (c.1,(⟨c.2.data,s.take k⟩:Tv))).v=.ok (seen++s.take k,⟨c.2.data,s.take k⟩):=by
     rw[hent];unfold valL;simp only[if_neg (show ¬(true=false) by decide),hb,ne_eq,not_true_eq_false,if_false,hsee]
    exact valsL_on hv (vals_spoiled hd (l:=r9) (s:=s.drop k) (seen:=seen++s.take k) (fun c hc=>hp c (List.mem_cons_of_mem _ hc)) hsd (by rw[List.length_drop];omega) hpr hw.right (fun q hq hm=>by
     rcases List.mem_append.1 hm with h|h
     ·exact hd9 q (List.mem_append_right _ hq) h
     ·exact hs.apart k (List.mem_of_mem_take hq) h))
theorem kids_spoiled {N n:Nat} {f:Nat→List UInt8} {F:List Int→Int→Except Int (List Int×Tr)} {p:Int}
 (IH:∀t,Fits n t→∀s seen,Spots N s→freshN n t≤s.length→Stand f (layT n t s).2.1→(∀p∈s.take (freshN n t),p∉seen)→∃seen',F seen (layT n t s).1.page=.ok (seen',(layT n t s).1)∧∀p∈seen',p∈seen∨p∈s.take (freshN n t))
 (IS:∀t,Fits n t→∀s seen,Spots N s→freshN n t≤s.length→p∈s.take (freshN n t)→Spl f p (layT n t s).2.1→(∀p∈s.take (freshN n t),p∉seen)→F seen (layT n t s).1.page=.error 12) :
 ∀{l:List (List UInt8×Tr)} {s seen:List Int},(∀c∈l,Fits n c.2)→Spots N s→(l.map fun c=>freshN n c.2).sum≤s.length→p∈s.take (l.map fun c=>freshN n c.2).sum→Spl f p (layKs (layT n) l s).2.1→(∀p∈s.take (l.map fun c=>freshN n c.2).sum,p∉seen) →
 kidsL F seen ((layKs (layT n) l s).1.map entK)=.error 12
 | [],s,seen,_,_,_,h,_,_=>by simp at h
 | c::r9,s,seen,hQ,hs,hl,hpm,hw,hd=>by
  simp only[List.map_cons,List.sum_cons] at hl hd hpm;rw[List.take_add] at hd hpm;rw[layKs_cons] at hw ⊢;have hlf:(layT n c.2 s).2.2=s.drop (freshN n c.2):=layT_left n c.2 s;rw[hlf] at hw ⊢;rw[List.map_cons]
  by_cases hpk:p∈s.take (freshN n c.2)
  ·exact kidsL_bad (e:=entK (c.1,(layT n c.2 s).1)) (IS c.2 (hQ c (by simp)) s seen hs (by omega) hpk hw.left (fun q hq=>hd q (List.mem_append_left _ hq)))
  ·have hpr:=(List.mem_append.1 hpm).resolve_left hpk
   have hst:Stand f (layT n c.2 s).2.1:=hw.left.stand (by rw[(layT_writes n c.2 (hQ c (by simp)) s hs (by omega)).1];exact hpk);obtain⟨s1,g1,g2⟩:=IH c.2 (hQ c (by simp)) s seen hs (by omega) hst (fun q hq=>hd q (List.mem_append_left _ hq));exact kidsL_on (e:=entK (c.1,(layT n c.2 s).1)) g1 (kids_spoiled IH IS (l:=r9) (s:=s.drop (freshN n c.2)) (seen:=s1) (fun c hc=>hQ c (List.mem_cons_of_mem _ hc)) (hs.drop _) (by rw[List.length_drop];omega) hpr hw.right (fun q hq hm=>by
    rcases g2 q hm with h|h
    ·exact hd q (List.mem_append_right _ hq) h
    ·exact hs.apart _ (List.mem_of_mem_take hq) h))
theorem load_spoiled {d:List Rg} {r N:Nat} {f:Nat→List UInt8} (hd:RegAt d r N f) {p:Int}:∀(n m:Nat),n≤m→∀t,Fits n t→∀s seen,Spots N s→freshN n t≤s.length→p∈s.take (freshN n t)→Spl f p (layT n t s).2.1→(∀p∈s.take (freshN n t),p∉seen) →
 loadT d r m seen (layT n t s).1.page=.error 12
 | 0,_,_,t,h,_,_,_,_,_,_,_=>by obtain⟨⟨_,_,h1⟩,_⟩:=h;exact h1.elim
 | n+1,0,hm,_,_,_,_,_,_,_,_,_=>by omega
 | n+1,m+1,hm,t,h,s,seen,hs,hl,hpm,hw,hsn=>by
  obtain⟨p0,e0,hp0,hpg,hpN⟩:=layT_page h hs hl;have hp2:=pgC_lt hpg;have hpd:pagedE d r p0=0:=by rw[hd.paged,if_pos ⟨by omega,hpN⟩]
  have hrd:readB d r p0=f p0.toNat:=hd.read ⟨by omega,hpN⟩;have hns:=hsn p0 hp0;rw[e0]
  by_cases hpp:p0=p
  ·subst hpp
   have hg:getNE (f p0.toNat)=12:=by
    unfold getNE;rw[if_pos (by rw[hw.1];decide),hw.1]
   rw[loadT,if_neg hns,if_neg (by rw[hpd];decide),hrd,if_pos (by rw[hg];decide),hg]
  cases t with
  | leaf q l=>
   obtain⟨⟨lo,hi,hn0,hlo⟩,hb,hsum,h0,_⟩:=h;have hne:l≠[]:=fun e=>by rw[freshN,if_pos e] at h0;exact h0 rfl
   obtain⟨_,hbv⟩:=bare_vals hb;rw[freshN,if_neg hne] at hl hsn hpm;rw[layT,if_neg hne] at e0 hw;have e0':(layVs l s).2.2.headD 0=p0:=e0;rw[e0'] at hw;have hnb:=leaf_nodeB hlo hbv hs (by omega) hne hsum;have hpage:f p0.toNat=putN true ((layVs l s).1.map entV):=hw.right.2 (p0,_) (List.mem_singleton.2 rfl) hpp;obtain⟨q1,q2,q3⟩:=get_putN hnb;rw[←drop_take hl,←layVs_left,e0'] at hpm;have hpl:=(List.mem_append.1 hpm).resolve_right (fun h9=>hpp (List.mem_singleton.1 h9).symm);have hbk:=vals_spoiled hd (s:=s) (seen:=seen++[p0]) hbv hs (by omega) hpl hw.left (fun q hq hm9=>by
    exact q627618)
   unfold loadT;rw[if_neg hns,if_neg (by rw[hpd];decide),hrd,hpage,if_neg (by rw[q1];decide),q3,if_pos rfl,q2,hbk]
  | node q l=>
   have hks:=fits_kids h;rw[freshN] at hl hsn hp0 hpm;rw[layT] at e0 hw;have e0':(layKs (layT n) l s).2.2.headD 0=p0:=e0;rw[e0'] at hw;have hnb:=node_nodeB h hs (by omega);have hpage:f p0.toNat=putN false ((layKs (layT n) l s).1.map entK):=hw.right.2 (p0,_) (List.mem_singleton.2 rfl) hpp;obtain⟨q1,q2,q3⟩:=get_putN hnb;rw[←drop_take hl,←layKs_left (fun t s=>layT_left n t s),e0'] at hpm;have hpl:=(List.mem_append.1 hpm).resolve_right (fun h9=>hpp (List.mem_singleton.1 h9).symm);have g1:=kids_spoiled (n:=n) (F:=loadT d r m) (fun t hQ s seen h1 h2 h3 h4=>load_back hd n m (by omega) t hQ s seen h1 h2 h3 h4) (fun t hQ s seen h1 h2 h3 h4 h5=>load_spoiled hd n m (by omega) t hQ s seen h1 h2 h3 h4 h5) (l:=l) (s:=s) (seen:=seen++[p0]) hks hs (by omega) hpl hw.left (fun q hq hm9=>by
    exact qb001f6)
   unfold loadT;rw[if_neg hns,if_neg (by rw[hpd];decide),hrd,hpage,if_neg (by rw[q1];decide),q3,if_neg (by decide),q2,g1]
theorem laid_turned {l:List Pz} {fr N:Nat} {T:Tr} {R:Tr×List Wr×List Int} (h:LaidR l N T) (hl:l.length≤60) (hfr:fr≤255) (hR:layT N T (atZ fr (freshN N T))=R) {x:Wr} (hx:x∈R.2.1) {k:Nat} (hk:k<128) {c:UInt8} (hc:x.2[k]? ≠ some c) {d:List Rg} {f:Nat→List UInt8} (hd:RegAt d 0 1000 (upd f x.1.toNat (x.2.set k c))) (hw:Stand f R.2.1) :
 loadD d 0 R.1.page=.error 12:=by
 have hf:=h.fresh;have hN:N≤1000:=by have:=h.ents.2;omega
 have hsp:Spots 1000 (atZ fr (freshN N T)):=atZ_spots (fr:=fr) (by omega) (by omega);have hlen:freshN N T≤(atZ fr (freshN N T)).length:=by rw[atZ_len];exact Nat.le_refl _
 generalize atZ fr (freshN N T)=s at *;subst hR;have h0:freshN N T≠0:=fun e=>by
  have hw9:=(whole_writes h.whole h.bare hsp hlen).1;rw[e,List.take_zero] at hw9;have:=List.map_eq_nil_iff.1 hw9;rw[this] at hx;cases hx
 have hF:=fits_whole h.whole h.bare h0;obtain⟨hws,_⟩:=layT_writes N T hF s hsp hlen;obtain⟨kind,lc,hp1,hp2⟩:=layT_pgs N T hF s hsp hlen x hx;have hxm:x.1∈s.take (freshN N T):=by rw[←hws];exact List.mem_map.2 ⟨x,hx,rfl⟩
 have hun:unpE (x.2.set k c)=12:=by
  rw[hp1];exact page_turned kind lc hp2 k hk c (by rw[←hp1];exact hc)
 have hspl:Spl (upd f x.1.toNat (x.2.set k c)) x.1 (layT N T s).2.1:=by
  refine⟨by unfold upd;rw[if_pos rfl];exact hun,fun y hy hne=>?_⟩;have h5:y.1∈s.take (freshN N T):=by rw[←hws];exact List.mem_map.2 ⟨y,hy,rfl⟩
  have h6:=pgC_lt ((hsp.take _).2 _ h5).1;have h7:=pgC_lt ((hsp.take _).2 _ hxm).1;unfold upd;rw[if_neg (by omega)];exact hw y hy
 obtain⟨pg,hpg,_,hpc,_⟩:=layT_page hF hsp hlen;have hpg2:=pgC_lt hpc;have hl9:loadT d 0 1000 [] (layT N T s).1.page=.error 12:=load_spoiled hd N 1000 hN T hF s [] hsp hlen hxm hspl (fun p _=>by simp);unfold loadD;rw[if_neg (by rw[hpg];omega),hl9]
theorem laid_empty {l:List Pz} {fr N:Nat} {T:Tr} {R:Tr×List Wr×List Int} (h:LaidR l N T) (hl:l.length≤60) (hfr:fr≤255) (hR:layT N T (atZ fr (freshN N T))=R) (h0:R.2.1.length=0):R.1.page=0:=by
 have hf:=h.fresh;have hsp:Spots 1000 (atZ fr (freshN N T)):=atZ_spots (fr:=fr) (by omega) (by omega);have hlen:(atZ fr (freshN N T)).length=freshN N T:=atZ_len fr (freshN N T);have hw9:=congrArg List.length (whole_writes h.whole h.bare hsp (by omega)).1;rw[hR,List.length_map,List.length_take,hlen,h0] at hw9;have hz:freshN N T=0:=by omega
 have ht:=fresh_zero h.whole hz;have hp0:T.page=0:=h.bare.page0;rw[hp0] at ht;subst ht;rw[←hR];cases N with
 | zero=>exact h.whole.1.1.elim
 | succ n=>rw[layT,if_pos rfl];rfl
theorem xor2_ne (x:UInt8):UInt8.ofNat (x.toNat ^^^ 2)≠x:=by
 have:∀k:Fin 256,(k.val ^^^ 2) % 256≠k.val:=by decide +kernel
 intro e;have h:=congrArg UInt8.toNat e;rw[UInt8.toNat_ofNat'] at h;exact this ⟨x.toNat,x.toNat_lt⟩ h
theorem xor2_val (x:UInt8):(UInt8.ofNat (x.toNat ^^^ 2)).toNat=x.toNat ^^^ 2:=by
 have e:(x.toNat ^^^ 2)<256:=Nat.xor_lt_two_pow (n:=8) x.toNat_lt (by decide);rw[UInt8.toNat_ofNat',Nat.mod_eq_of_lt e]
theorem str_turn {P:Program} (w:World) {src dst e:TypeId} (hs:P.underlying src=some .string) (hd:P.underlying dst=some (.slice e)) (he:P.underlying e=some (.int .u8)) (l:List UInt8) (hl:l.length≤140737488351232) {k:Nat} (hk:k<l.length) :
 ∃c w',(convert src dst (.string (strOf l))).run P w=.ok (.slice (some ⟨w.heap.size,0,none⟩) l.length c) w'∧Below w.heap.size w w'∧w'.cell? ⟨w.heap.size,k,none⟩=some (.int .u8 ((l[k]?.getD 0).toNat:Int))∧w'.frozen? ⟨w.heap.size,k,none⟩=false∧(l.length≤c∧c≤maxLen) ∧
  ∀x:UInt8,Bs (w'.setCell ⟨w.heap.size,k,none⟩ (.int .u8 (x.toNat:Int))) (some ⟨w.heap.size,0,none⟩) l.length c (l.set k x):=by
 have h:=Lib.run_convert_string_bytes (P:=P) w src dst e (strOf l) hs hd he;rw[strOf_size] at h;have hsz:=Lib.bytesWorld_size w e (strOf l);have hcell:∀i,i<l.length→(Lib.bytesWorld w e (strOf l)).cell? ⟨w.heap.size,i,none⟩=some (.int .u8 ((l[i]?.getD 0).toNat:Int)):=fun i hi=>by
  rw[Lib.bytesWorld_cell w e (strOf l) i (by rw[strOf_size];exact hi),strOf_list,List.getD_eq_getElem?_getD]
 have hc1:=grownCap_ge w l.length 0 e;have hc2:=grownCap_le_maxLen w l.length 0 e (by unfold maxLen;omega);refine⟨_,_,h,?_,hcell k hk,?_,⟨hc1,hc2⟩,fun x=>⟨by rw[toI_length,List.length_set],hc1,hc2,(fun h=>by cases h),.inr ⟨_,0,rfl,by simp;omega,fun i hi=>?_⟩⟩⟩
 ·have e1:(Lib.bytesWorld w e (strOf l)).os=w.os∧(Lib.bytesWorld w e (strOf l)).tape=w.tape∧(Lib.bytesWorld w e (strOf l)).output=w.output:=by
   unfold Lib.bytesWorld World.freeze
   split<;>exact⟨rfl,rfl,rfl⟩
  exact⟨e1.1,e1.2.1,e1.2.2,by rw[hsz];omega,fun k hk=>Lib.bytesWorld_at_old w e _ k hk⟩
 ·unfold World.frozen?
  rw[Lib.bytesWorld_at_new];have h9:l.length≤(Lib.bytesCells w e (strOf l)).size:=by
   unfold Lib.bytesCells;have:=strOf_size l;unfold ByteArray.size at this;simp[this]
  simp;omega
 ·rw[Nat.zero_add,toI_get,List.getElem?_set]
  by_cases hik:i=k
  ·subst hik
   rw[World.cell?_setCell_same _ _ _ (hcell i hi)];simp[hi]
  ·rw[World.cell?_setCell_other _ _ _ _ (by intro e;injection e with _ e _;omega),hcell i hi,if_neg (fun e=>hik e.symm)]
end Go.Proofs.YtpghlmcoajaiiaaGreatDoor
