/- Texts that other texts of this claim lean on, one behind the other. -/
import Derived.Deep.RegionLaw
import Derived.Deep.RegionWith
import Derived.Laws.CopyOwn
import Derived.Outline
import Derived.Laws.BitsAllLaws
import Derived.Deep.DeepCutAuto
import Derived.Deep.RegionHeld3
import Derived.Deep.QuietTactic
import Derived.BigQuiet
import Derived.Defers
import Derived.Recover
import Derived.RegionTactic
import Derived.IntWalk
import Derived.Laws.EntriesVeiled
import Derived.Laws.StructEq
import Derived.Deep.CutBlock
import Derived.Test.YtpghlmcoajaiiaaGreatDoorM1
set_option maxHeartbeats 20000000
set_option maxRecDepth 100000
namespace Go.Proofs.YtpghlmcoajaiiaaGreatDoor
open Go.RowKit
section
variable {p:Prop}
theorem q842745 (h:p:=by
 clear n0 n1 n2 n3 n4 s0 s1;obtain⟨i,far,hi',hfar,rfl,rfl,hdk,hb,hx⟩:=hrel;have hx1:=hx.lt 1 rfl;have hx0:=hx.lt 0 rfl;have n0:=hx.cell 1 0 rfl rfl;have n1:=hx.cell 1 1 rfl rfl;have n2:=hx.cell 1 2 rfl rfl;have n3:=hx.cell 1 3 rfl rfl;have n4:=hx.cell 1 4 rfl rfl;have s0:=hx.cell 0 0 rfl rfl;have s1:=hx.cell 0 1 rfl rfl
 by_cases hlt:i<m
 ·obtain⟨bc,oc,kid,kcs,eca,hbc,hy,_,hkid,hcell⟩:=TabR.at HT.out hlt
  obtain⟨c,hc1,hc2⟩:∃c,l[i]? = some c∧c.2=kid:=by
   rw[List.getElem?_map] at hy;cases hli:l[i]? with
   | none=>rw[hli] at hy;cases hy
   | some c=>rw[hli] at hy;exact⟨c,rfl,by injection hy⟩
  have hkk0:K[i]?.getD []=c.1:=by rw[←HKL.out];simp[keysOf,hc1]
  have hkb:=HKS.out c (List.mem_of_getElem? hc1);obtain⟨k,hk⟩:∃k,c.1=k:=⟨_,rfl⟩
  rw[hk] at hkk0 hkb;rw[hc2] at hkb;have hkk:k.length≤1000:=by have:=hkb.1;omega
  have HKB:=Hd hkb.2;have HC1:=Hd hc1;have HC2:=Hd hc2;have HCK:=Hd hk;have HDK:=Hd hdk;clear hc1 hc2 hk hdk hy hkb;subst eca;cases n with
  | zero=>exact hkid.elim
  | succ n=>
  obtain⟨y1,y2,y3,y4,y5,y6,y7,y8,_,_,ey,_⟩:=hkid.openK;subst ey;have e0:=(hb.cell (p:=⟨bc,oc+i*5+0,none⟩) hbc).trans (hcell 0 _ rfl);have e1:=(hb.cell (p:=⟨bc,oc+i*5+1,none⟩) hbc).trans (hcell 1 _ rfl);have e2:=(hb.cell (p:=⟨bc,oc+i*5+2,none⟩) hbc).trans (hcell 2 _ rfl);have e3:=(hb.cell (p:=⟨bc,oc+i*5+3,none⟩) hbc).trans (hcell 3 _ rfl);have e4:=(hb.cell (p:=⟨bc,oc+i*5+4,none⟩) hbc).trans (hcell 4 _ rfl);rw[Nat.add_zero] at e0;have HKID:=Hd hkid;have HB9:=Hd hb;have HX9:=Hd hx;have d0:decide ((i:Int)<(m:Int))=true:=by simp;omega
  have d0':decide (i<m)=true:=by simp;omega
  clear hcell hkid hx;cases i with
  | zero=>
   simp only[Nat.zero_mul,Nat.add_zero] at e0 e1 e2 e3 e4
   by_cases hla:m≤0+1
   ·have d3:decide ((0:Int)+1<(m:Int))=false:=by simp;omega
    have d3':decide (0+1<m)=false:=by simp;omega
    simp only[Nat.zero_add,Int.zero_add] at d3 d3';have HNX:Hid (nextH hi (l.drop (0+1))=hi):=Hd (nextH_last (by have:=HLL.out;omega));have HHI:=Hd hhi;clear hla;obtain⟨D,hD⟩:∃D,depthT (n+1) kid lo hi false=D:=⟨_,rfl⟩
    have CD:=fun W (hW:Below w.heap.size w W)=>IH (HKID.out.below hW) HKB.out lo hi hlo HHI.out
    exact q9dfb63
   have d3:decide ((0:Int)+1<(m:Int))=true:=by simp;omega
   have d3':decide (0+1<m)=true:=by simp;omega
   obtain⟨bk2,ok2,e2,hbk2,hck2⟩:=H1.out.key_at (show 0+1<m by omega);obtain⟨k2,hk2⟩:∃k,K[0+1]?.getD []=k:=⟨_,rfl⟩
   rw[hk2] at hck2;have hk2l:=HK.out (0+1) (by omega);rw[hk2] at hk2l;have HNX:Hid (nextH hi (l.drop (0+1))=k2):=Hd (nextH_mid (by rw[HKL.out];exact hk2) (by have:=HLL.out;omega));subst e2;simp only[Nat.zero_add,Int.zero_add] at d3 d3';have g2:=(hb.cell (p:=⟨bk2,ok2+(0+1),none⟩) hbk2).trans hck2;simp only[Nat.zero_add] at g2;have hbk9:=Nat.lt_of_lt_of_le hbk2 hb.size;have hla2:1<m:=by omega
   have hla3:(1:Int)<(m:Int):=by omega
   clear hla hck2 hk2;have HHI:Hid (k2.length≤1000):=Hd (by omega);obtain⟨D,hD⟩:∃D,depthT (n+1) kid lo k2 false=D:=⟨_,rfl⟩
   have CD:=fun W (hW:Below w.heap.size w W)=>IH (HKID.out.below hW) HKB.out lo k2 hlo HHI.out
   exact q9dfb63
  | succ i=>
   obtain⟨bk,ok,eka,hbk,hck⟩:=H1.out.key_at hlt;rw[hkk0] at hck;subst eka;have g1:=(hb.cell (p:=⟨bk,ok+(i+1),none⟩) hbk).trans hck;have d5:decide ((0:Int)<((i+1:Nat):Int))=true:=decide_eq_true (by omega);have d5':decide (0<i+1)=true:=by simp
   have hbk9:=Nat.lt_of_lt_of_le hbk hb.size;clear hck
   by_cases hla:m≤i+1+1
   ·have d3:decide ((i:Int)+1+1<(m:Int))=false:=by simp;omega
    have d3':decide (i+1+1<m)=false:=by simp;omega
    have HNX:Hid (nextH hi (l.drop (i+1+1))=hi):=Hd (nextH_last (by have:=HLL.out;omega));have HHI:=Hd hhi;clear hla;obtain⟨D,hD⟩:∃D,depthT (n+1) kid k hi false=D:=⟨_,rfl⟩
    have CD:=fun W (hW:Below w.heap.size w W)=>IH (HKID.out.below hW) HKB.out k hi hkk HHI.out
    exact qd52b26
   have d3:decide ((i:Int)+1+1<(m:Int))=true:=by simp;omega
   have d3':decide (i+1+1<m)=true:=by simp;omega
   obtain⟨bk2,ok2,e2,hbk2,hck2⟩:=H1.out.key_at (show i+1+1<m by omega);obtain⟨k2,hk2⟩:∃k,K[i+1+1]?.getD []=k:=⟨_,rfl⟩
   rw[hk2] at hck2;have hk2l:=HK.out (i+1+1) (by omega);rw[hk2] at hk2l;have HNX:Hid (nextH hi (l.drop (i+1+1))=k2):=Hd (nextH_mid (by rw[HKL.out];exact hk2) (by have:=HLL.out;omega));cases e2;have g2:=(hb.cell (p:=⟨bk,ok+(i+1+1),none⟩) hbk2).trans hck2;have hla2:i+1+1<m:=by omega
   have hla3:(i:Int)+1+1<(m:Int):=by omega
   clear hla hck2 hk2;have HHI:Hid (k2.length≤1000):=Hd (by omega);obtain⟨D,hD⟩:∃D,depthT (n+1) kid k k2 false=D:=⟨_,rfl⟩
   have CD:=fun W (hW:Below w.heap.size w W)=>IH (HKID.out.below hW) HKB.out k k2 hkk HHI.out
   exact qd52b26
 ·obtain rfl:i=m:=by omega
  have HR:Hid (R=some far):=Hd (by rw[←hdk,List.drop_of_length_le (by have:=HLL.out;omega)];rfl);have HB9:=Hd hb;clear hdk hb hx hx0 hx1;go_wp2_with fail;go_ret;exact⟨by rw[HR.out];rfl,HB9.out⟩):p:=h
theorem q68bce9 (h:p:=by
 clear zm;rw[HPE.out] at hE;go_wp2_with fail;refine(must_bad hE _).mono ?_;rintro e wy ⟨rfl,rfl⟩;refine⟨rfl,only_past HO3.out hs3 HBX.out,?_⟩;rw[HPE.out]):p:=h
theorem q8111d8 (h:p:=by
 clear zm;have hpe0:=HPE.out;rw[hP] at hpe0;subst hpe0;have hd4:=HD3.out.past (HBX.out.mono (show T≤w3.heap.size by omega));obtain⟨a',c',e',hbs⟩:=Bs.of_own HOX.out;cases e';have G:=nget_any _ _ _ _ wx hbs hd4.half;obtain⟨ge,hge⟩:∃x,getNE rb=x:=⟨_,rfl⟩
 obtain⟨gf,hgf⟩:∃x,getNF rb=x:=⟨_,rfl⟩
 obtain⟨gl,hgl⟩:∃x,getNL rb=x:=⟨_,rfl⟩
 rw[hge,hgf,hgl] at G;have HGE:=Hd hge;have HGF:=Hd hgf;have HGL:=Hd hgl;have HBS:=Hd hbs;have HD4:=Hd hd4;clear hge hgf hgl hbs hd4;go_wp2_with fail;refine(must_ok _).mono ?_;rintro e wy ⟨rfl,rfl⟩;go_wp2_with fail;refine G.mono ?_;rintro e w5 ⟨vn,rfl,hon,hbn⟩;obtain⟨an,cn,rfl,hcn,hcm,_⟩:=own_slice hon;unfold maxLen at hcm;have HON:=Hd hon;have HBN:=Hd hbn;have hs5:=hbn.size;clear G hon hbn;rw[HRB.out,HGE.out] at hE;go_wp2_with fail;refine(must_bad hE _).mono ?_;rintro e wy ⟨rfl,rfl⟩;refine⟨rfl,only_past HO3.out hs3 (HBX.out.trans ((HBN.out.mono hsx).trans (Below.al (Below.refl _ _) |>.mono (by omega)))),?_⟩;show Ending.panicked (errP ge)=.panicked (errP (getNE (readB d r p)));rw[HRB.out,HGE.out]):p:=h
theorem q0baff6 (h:p:=by
 clear zm;have hpe0:=HPE.out;rw[hP] at hpe0;subst hpe0;have hd4:=HD3.out.past (HBX.out.mono (show T≤w3.heap.size by omega));obtain⟨a',c',e',hbs⟩:=Bs.of_own HOX.out;cases e';have G:=nget_any _ _ _ _ wx hbs hd4.half;obtain⟨ge,hge⟩:∃x,getNE rb=x:=⟨_,rfl⟩
 obtain⟨gf,hgf⟩:∃x,getNF rb=x:=⟨_,rfl⟩
 obtain⟨gl,hgl⟩:∃x,getNL rb=x:=⟨_,rfl⟩
 rw[hge,hgf,hgl] at G;have HGE:=Hd hge;have HGF:=Hd hgf;have HGL:=Hd hgl;have HBS:=Hd hbs;have HD4:=Hd hd4;clear hge hgf hgl hbs hd4;go_wp2_with fail;refine(must_ok _).mono ?_;rintro e wy ⟨rfl,rfl⟩;go_wp2_with fail;refine G.mono ?_;rintro e w5 ⟨vn,rfl,hon,hbn⟩;obtain⟨an,cn,rfl,hcn,hcm,_⟩:=own_slice hon;unfold maxLen at hcm;have HON:=Hd hon;have HBN:=Hd hbn;have hs5:=hbn.size;clear G hon hbn;rw[HRB.out] at hE hF hR0;have hge0:=HGE.out;rw[hE] at hge0;subst hge0;have hgf0:=HGF.out;rw[hF] at hgf0;subst hgf0;rw[HGL.out] at hR0;have hN:=getN_node hE;rw[hF,HGL.out] at hN;obtain⟨hn1,hn2,hn3⟩:=nodeB_small hN;obtain⟨w6,hw6⟩:∃x,x=((w5.alloc (.cells #[.bool true,.slice an gl.length cn] 205)).alloc (.cells #[.int .i64 p,.bool true,.slice none 0 0,.slice none 0 0,.slice none 0 0] 50)):=⟨_,rfl⟩
 have hx5:Boxes w5 [(w.heap.size,zero5.toList)]:=(HX3.out.step HBX.out).step HBN.out;have hx6:Boxes w6 [(w5.heap.size+1,[.int .i64 p,.bool true,.slice none 0 0,.slice none 0 0,.slice none 0 0]),(w5.heap.size,[.bool true,.slice an gl.length cn]),(w.heap.size,zero5.toList)]:=by
  rw[hw6];exact(hx5.alloc #[.bool true,.slice an gl.length cn] 205 (b:=w5.heap.size) rfl).alloc #[.int .i64 p,.bool true,.slice none 0 0,.slice none 0 0,.slice none 0 0] 50 (b:=w5.heap.size+1) (by simp)
 have hb56:Below w5.heap.size w5 w6:=by rw[hw6];exact Below.al (Below.al (Below.refl _ _))
 have hsz6:w6.heap.size=w5.heap.size+2:=by rw[hw6];simp
 have hb36:Below w3.heap.size w3 w6:=HBX.out.trans ((HBN.out.trans (hb56.mono hs5)).mono hsx);have hmid:LMid T w w6 lb mb da M d r (seen++[p]) (w5.heap.size+1) w.heap.size (w5.heap.size+2) n p true (.slice none 0 0) (.slice none 0 0) (.slice none 0 0) [] [] [] w6:=
  ⟨hx6.sub (by intro q hq;simp at hq ⊢;rcases hq with rfl|rfl<;>simp),NodeRows.nil _ _ _ _ _ _ _,HD3.out.past (hb36.mono (by omega)),AgreeF.refl _,only_past HO3.out hs3 hb36,hT,Nat.le_refl _,by omega,by omega,by omega⟩
 have nb0:=hx6.cell 1 0 rfl rfl;obtain⟨a',c',e',hents⟩:=HON.out.ents;cases e';have hgeb:=own_ge HON.out;have HENTS:=Hd hents;have HMID:=Hd hmid;have HR0:=Hd hR0;have HN:=Hd hN;have HN2:=Hd hn2;have HN3:=Hd hn3;have HB56:=Hd hb56;have HSZ6:=Hd hsz6;have HGEB:=Hd hgeb;have HNB0:=Hd nb0;have hs53:w.heap.size<w5.heap.size:=by have:=hx5.lt 0 rfl;exact this
 have HW6:=Hd hw6;clear hR0 hN hn2 hn3 hx5 hx6 hb56 hsz6 hb36 hmid hents hgeb nb0 hw6;go_wp2_with fail;refine(must_ok _).mono ?_;rintro e wy ⟨rfl,rfl⟩;go_wp2_with fail;rw[←HW6.out]
 go_loopw [10,44] (fun _ s44 wr=>∃(i:Nat) (v1 v2 v3:Value) (s:List Int) (Li:List (List UInt8×Tv)),i≤gl.length∧s44=.int .i64 i∧Li.length=i∧SeenOk s∧afterL Li (valsL d r s (gl.drop i))=R0∧LMid T w w6 lb mb da M d r s (w5.heap.size+1) w.heap.size (w5.heap.size+2) n p true v1 v2 v3 (keysOf Li) (Li.map (·.2)) [] wr) (fun _ s _=>gl.length-(intOf s).toNat)
 case atStart=>exact⟨0,_,_,_,seen++[p],[],Nat.zero_le _,rfl,rfl,HS.out.snoc HM.out (paged_range HD3.out.dok HPE.out).1 (paged_range HD3.out.dok HPE.out).2,by rw[List.drop_zero,afterL_nil];exact HR0.out,HMID.out⟩
 case round=>
  clear HMID;obtain⟨i,v1,v2,v3,s,Li,hi,rfl,hLi,hsok,haf,hmid⟩:=hrel;obtain⟨a1,k1,a2,k2,a3,k3,rfl,rfl,rfl⟩:=hmid.rows.sl;have hlt2:=hmid.lt;have q5:=HSZ6.out;have htm:=hmid.ld.tm;have hK0:(keysOf Li).length=i:=by simp[keysOf];omega
  have hV0:(Li.map (·.2)).length=i:=by simp;omega
  have hnil:([]:List Tr).length=0:=rfl;rw[hK0,hV0,hnil] at hmid
  by_cases hlt:i<gl.length
  ·obtain⟨b,off,en,rfl,hb5,hen,k0,k1',k2',k3',k4⟩:=HENTS.out.at hlt
   have hbx:wx.heap.size≤b:=HGEB.out b rfl;have hdr:gl.drop i=en::gl.drop (i+1):=by
    exact q6f4561
   rw[hdr] at haf;have henm:en∈gl:=List.mem_of_getElem? hen;obtain⟨hek,hed⟩:=HN2.out en henm;have hagr:∀(o:Nat),wr.cell? ⟨b,off+i*5+o,none⟩=w5.cell? ⟨b,off+i*5+o,none⟩:=fun o=>(hmid.ag.cell (b:=b) (o:=off+i*5+o) ⟨by show b<_;omega,by show b≠mb;omega,by show b≠_;omega⟩ (show b<w6.heap.size by omega)).trans (HB56.out.cell (p:=⟨b,off+i*5+o,none⟩) hb5)
   have j0:=(hagr 0).trans k0;have j1:=(hagr 1).trans k1';have j2:=(hagr 2).trans k2';have j3:=(hagr 3).trans k3';have j4:=(hagr 4).trans k4;simp only[Nat.add_zero] at j0;obtain⟨key,vd,vf,vs,vp⟩:=en;dsimp only at j0 j1 j2 j3 j4 hek hed;obtain⟨wb,hwb⟩:∃x,wr.alloc (.cells #[.string (strOf key),.string (strOf vd),.bool vf,.int .i64 vs,.int .i64 vp] 211)=x:=⟨_,rfl⟩
   have hbb:Below wr.heap.size wr wb:=by rw[←hwb];exact Below.al (Below.refl _ _)
   have hxb:Boxes wb [(wr.heap.size,[.string (strOf key),.string (strOf vd),.bool vf,.int .i64 vs,.int .i64 vp])]:=by rw[←hwb];exact(Boxes.nil wr).alloc #[.string (strOf key),.string (strOf vd),.bool vf,.int .i64 vs,.int .i64 vp] 211 rfl
   have hm0:=hmid.below hbb;have hwr9:=hbb.size;have hxlt:=hxb.lt 0 rfl;have x0:=hxb.cell 0 0 rfl rfl;have o2:=hm0.box.cell 0 2 rfl rfl;obtain⟨a',c',w',hrun1,hA1,f8,f9,hA2,hmidP⟩:=hm0.pushK (by rw[hK0];omega) key;rw[hK0] at hrun1 hA2 hmidP;have hkeys:keysOf Li++[key]=keysOf Li++[key]:=rfl;have hge1:(Value.slice a1 i k1).ownBlock≠some wr.heap.size:=fun e=>by have:=(hmid.rows.k.lt e).2;omega
   have hxz:Boxes (w'.setCell ⟨w5.heap.size+1,2,none⟩ (.slice a' (i+1) c')) [(wr.heap.size,[.string (strOf key),.string (strOf vd),.bool vf,.int .i64 vs,.int .i64 vp])]:=hxb.agree hA2 (by intro q hq;simp at hq;subst hq;exact⟨hge1,by show wr.heap.size≠_;omega⟩);obtain⟨wz,hwz⟩:∃x,w'.setCell ⟨w5.heap.size+1,2,none⟩ (.slice a' (i+1) c')=x:=⟨_,rfl⟩
   rw[hwz] at hmidP hxz;have hzl:=hmidP.lt;have nbz:wz.cell? ⟨w5.heap.size,0,none⟩=some (.bool true):=(hmidP.ag.cell (b:=w5.heap.size) (o:=0) ⟨by show w5.heap.size<_;omega,by show w5.heap.size≠mb;omega,by show w5.heap.size≠_;omega⟩ (show w5.heap.size<w6.heap.size by omega)).trans HNB0.out;have HP:=Hd hmidP;have HXZ:=Hd hxz;have HMID:=Hd hmid;have HAF:=Hd haf;have HLI:=Hd hLi;have HSOK:=Hd hsok;have HHEN:=Hd hen;have HHENM:=Hd henm;have q1:decide ((i:Int)<(gl.length:Int))=true:=decide_eq_true (by omega);have q2:decide (i<gl.length)=true:=decide_eq_true hlt;clear hdr hagr k0 k1' k2' k3' k4 hbb hxb hm0 hmidP hxz hmid haf hLi hsok hen henm hA1 hA2 hkeys;go_upto_region 12 with(at_builtin;refine wpList_append_run rfl _ _ _ _ rfl rfl rfl hrun1 ?_)
   clear hrun1 f8 f9 hwz hwb j0 j1 j2 j3 j4 x0 o2 q1 q2 nbz;have hT9:T≤wz.heap.size:=by omega
   have hb0:Below wz.heap.size wz wz.drew:=below_drewN (Below.refl _ _) 1;have hge2:(Value.slice a2 i k2).ownBlock≠some wr.heap.size:=fun e=>by have:=(HMID.out.rows.v.lt e).2;omega
   have hXA:∀(k:Nat) (u:Value),wz.cell? ⟨wr.heap.size,k,none⟩=some u→∀W,AgreeF (fun x=>(Value.slice a2 i k2).ownBlock≠some x∧x≠w5.heap.size+1∧x≠mb) wz W→W.cell? ⟨wr.heap.size,k,none⟩=some u:=fun k u h W hW=>(hW.cell (b:=wr.heap.size) (o:=k) ⟨hge2,by show wr.heap.size≠_;omega,by show wr.heap.size≠_;omega⟩ (by have:=HXZ.out.lt 0 rfl;exact this)).trans h
   have x1:=hXA 1 _ (HXZ.out.cell 0 1 rfl rfl);have x2:=hXA 2 _ (HXZ.out.cell 0 2 rfl rfl);have x3:=hXA 3 _ (HXZ.out.cell 0 3 rfl rfl);have x4:=hXA 4 _ (HXZ.out.cell 0 4 rfl rfl);have o3:=HP.out.box.cell 0 3 rfl rfl;have hA00:AgreeF (fun x=>(Value.slice a2 i k2).ownBlock≠some x∧x≠w5.heap.size+1∧x≠mb) wz wz.drew:=AgreeF.refl _;have CV:=value_any (HP.out.ld.past (hb0.mono hT9)) (show T≤wz.drew.heap.size from hT9) HSOK.out.len ⟨vd,vf,vs,vp⟩ (leaf_page HN.out _ HHENM.out).1;have haf:=HAF.out;cases hv:valL d r s ⟨vd,vf,vs,vp⟩ with
   | error x=>
    rw[valsL_err hv] at haf;have HEP:∀w2,Only [mb] wz.drew w2→PagePost T w lb mb da M d r (n+1) (leafR p R0) (.panicked (errP x)) w2:=fun w2 ho=>⟨HP.out.ol.trans ho,by rw[←haf];rfl⟩
    rw[hv] at CV;clear haf HAF hXA;refine wp_region_held_drew (S:=(fun W=>AgreeF (fun x=>(Value.slice a2 i k2).ownBlock≠some x∧x≠w5.heap.size+1∧x≠mb) wz W)) (by kernel_rfl) (by(repeat (with_reducible first|assumption|exact AgreeF.refl _|apply AgreeF.al|apply AgreeF.dr))) (fun hHeld=>?_);refine tks [0,2] ?_;refine tks [3,4] ?_;refine rdy2 1 5 (fun K hK=>?_) (fun K hK=>?_)
    ·(rw[if_pos (by rfl)];go_wp2_with (fail))
     refine bkA hK (fun hHeld=>?_);clear hK K;refine rdy 5 (fun K hK=>?_)
     (rw[if_pos (by rfl)];go_simp;(with_reducible refine CV.mono ?_);rintro e w2 ⟨ho2,he⟩;have he:e=.panicked (errP x):=he;subst he;exact⟨rfl,HEP _ ho2⟩)
    ·(rw[if_pos (by rfl)];go_simp;(with_reducible refine CV.mono ?_);rintro e w2 ⟨ho2,he⟩;have he:e=.panicked (errP x):=he;subst he;exact⟨rfl,HEP _ ho2⟩)
   | ok y=>
    obtain⟨s2,tv⟩:=y;rw[valsL_ok hv,afterL_app] at haf;have haf2:afterL (Li++[(key,tv)]) (valsL d r s2 (gl.drop (i+1)))=R0:=haf;have HAF2:=Hd haf2;have HV:=Hd hv;rw[hv] at CV;have PC:∀(w2:World) (e1:Value),Only [mb] wz.drew w2→TvOn (fun b=>wz.drew.heap.size≤b) w2 [.string (strOf tv.data),e1] tv→LdIn T w2 lb mb da M d r s2→∃a9 c9 w9,(Builtin.append_ #[47,47] 47 #[.slice a2 i k2,.slice (some ⟨w2.heap.size,0,none⟩) 1 1]).run Tryz.prog (w2.alloc (.cells #[.string (strOf tv.data),e1] 101))=.ok (.slice a9 (i+1) c9) w9∧w9.cell? ⟨w5.heap.size+1,3,none⟩=some (.slice a2 i k2)∧w9.frozen? ⟨w5.heap.size+1,3,none⟩=false∧w2.cell? ⟨w5.heap.size+1,3,none⟩=some (.slice a2 i k2)∧w5.heap.size+1<w2.heap.size ∧
     AgreeF (fun x=>(Value.slice a2 i k2).ownBlock≠some x∧x≠w5.heap.size+1∧x≠mb) wz w2∧AgreeF (fun x=>(Value.slice a2 i k2).ownBlock≠some x∧x≠w5.heap.size+1∧x≠mb) wz w9∧AgreeF (fun x=>(Value.slice a2 i k2).ownBlock≠some x∧x≠w5.heap.size+1∧x≠mb) wz (w9.setCell ⟨w5.heap.size+1,3,none⟩ (.slice a9 (i+1) c9))∧Hid (LMid T w w6 lb mb da M d r s2 (w5.heap.size+1) w.heap.size (w5.heap.size+2) n p true (.slice a' (i+1) c') (.slice a9 (i+1) c9) (.slice a3 0 k3) (keysOf (Li++[(key,tv)])) ((Li++[(key,tv)]).map (·.2)) [] (w9.setCell ⟨w5.heap.size+1,3,none⟩ (.slice a9 (i+1) c9))):=fun w2 e1 ho hon hl2=>by
     have hm2:=(HP.out.below hb0).turn ho hl2;have hy:TvOn (G3 (fun _=>False) (w5.heap.size+2) (.slice a' (i+1) c') (.slice a2 i k2) (.slice a3 0 k3)) w2 [.string (strOf tv.data),e1] tv:=hon.mono (fun b hb=>by
      have hb:wz.heap.size≤b:=hb;exact⟨.inr (by have:=HP.out.lt;omega),fun e=>by have:=(HP.out.rows.k.lt e).2;omega,fun e=>by have:=(HP.out.rows.v.lt e).2;omega,fun e=>by have:=(HP.out.rows.c.lt e).2;omega⟩)
     obtain⟨a9,c9,w9,hrun2,hA3,f8,f9,hA4,hmidQ⟩:=hm2.pushV (by rw[show(Li.map (·.2)).length=i by simp;exact HLI.out];have:=HLI.out;omega) hy;have e2:keysOf Li++[key]=keysOf (Li++[(key,tv)]):=by simp[keysOf]
     have e3:Li.map (·.2)++[tv]=(Li++[(key,tv)]).map (·.2):=by simp
     rw[show(Li.map (·.2)).length=i by simp;exact HLI.out] at hrun2 hA4 hmidQ;rw[e2,e3] at hmidQ;have hag:AgreeF (fun x=>(Value.slice a2 i k2).ownBlock≠some x∧x≠w5.heap.size+1∧x≠mb) wz w2:=⟨ho.size,fun b hb hlt=>ho.block hlt (by simp;exact hb.2.2)⟩
     exact⟨a9,c9,w9,hrun2,f8,f9,hm2.box.cell 0 3 rfl rfl,hm2.lt.1,hag,hag.trans (hA3.sub fun x hx=>⟨hx.1,hx.2.1⟩),hag.trans (hA4.sub fun x hx=>⟨hx.1,hx.2.1⟩),Hd hmidQ⟩
    have HSOK2:=Hd (valL_seen HV.out (leaf_page HN.out _ HHENM.out).2 HSOK.out).1;clear haf haf2 HAF hXA hv
    skip
    refine wp_region_held_drew (S:=(fun W=>AgreeF (fun x=>(Value.slice a2 i k2).ownBlock≠some x∧x≠w5.heap.size+1∧x≠mb) wz W)) (by kernel_rfl) (by(repeat (with_reducible first|assumption|exact AgreeF.refl _|apply AgreeF.al|apply AgreeF.dr))) (fun hHeld=>?_);refine tks [0,2] ?_;refine tks [3,4] ?_;refine rdy2 1 5 (fun K hK=>?_) (fun K hK=>?_)
    ·(rw[if_pos (by rfl)];go_wp2_with (fail))
     refine bkA hK (fun hHeld=>?_);clear hK K;refine rdy 5 (fun K hK=>?_)
     (rw[if_pos (by rfl)];go_simp;(with_reducible refine CV.mono ?_);rintro e w2 ⟨ho2,e1,rfl,hon2,hl2⟩;obtain⟨a9,c9,w9,hrun2,f8,f9,f7,hlt9,hA1,hA3,hA4,HQ⟩:=PC _ _ ho2 hon2 hl2;clear CV PC hon2 hl2;dsimp only)
     refine bkA hK (fun hHeld=>?_);clear hK K;refine rdy 6 (fun K hK=>?_)
     (rw[if_pos (by rfl)];go_wp2_with (fail))
     exact qdf4017
    ·(rw[if_pos (by rfl)];go_simp;(with_reducible refine CV.mono ?_);rintro e w2 ⟨ho2,e1,rfl,hon2,hl2⟩;obtain⟨a9,c9,w9,hrun2,f8,f9,f7,hlt9,hA1,hA3,hA4,HQ⟩:=PC _ _ ho2 hon2 hl2;clear CV PC hon2 hl2;dsimp only)
     refine bkA hK (fun hHeld=>?_);clear hK K;refine rdy2 1 6 (fun K hK=>?_) (fun K hK=>?_)
     ·(rw[if_pos (by rfl)];go_wp2_with (fail))
      refine bkA hK (fun hHeld=>?_);clear hK K;refine rdy 6 (fun K hK=>?_)
      (rw[if_pos (by rfl)];go_wp2_with (fail))
      exact qdf4017
     ·(rw[if_pos (by rfl)];go_wp2_with (fail))
      refine bkA hK (fun hHeld=>?_);clear hK K;refine rdy 1 (fun K hK=>?_)
      (rw[if_pos (by rfl)];go_wp2_with (fail))
      exact qdf4017
  ·have hin:i=gl.length:=by omega
   have hdr:gl.drop i=[]:=List.drop_of_length_le (by omega);rw[hdr] at haf;have haf2:R0=.ok (s,Li):=by rw[←haf];unfold valsL;simp[afterL]
   have htw:=hmid.tw;have hx:=hmid.box;have n0:=hx.cell 0 0 rfl rfl;have n1:=hx.cell 0 1 rfl rfl;have n2:=hx.cell 0 2 rfl rfl;have n3:=hx.cell 0 3 rfl rfl;have n4:=hx.cell 0 4 rfl rfl;have hrb:Boxes wr [(w.heap.size,zero5.toList)]:=hx.sub (by intro q hq;simp at hq ⊢;exact .inr hq);have hrb1:=hrb.put 0 (.int .i64 p) (by intro q hq;simp at hq);have hrb2:=hrb1.put 1 (.bool true) (by intro q hq;simp at hq);have hrb3:=hrb2.put 2 (.slice a1 i k1) (by intro q hq;simp at hq);have hrb4:=hrb3.put 3 (.slice a2 i k2) (by intro q hq;simp at hq);have hrb5:=hrb4.put 4 (.slice a3 0 k3) (by intro q hq;simp at hq);obtain⟨we,hwe⟩:∃x,x=((((wr.setCell ⟨w.heap.size,0,none⟩ (.int .i64 p)).setCell ⟨w.heap.size,1,none⟩ (.bool true)).setCell ⟨w.heap.size,2,none⟩ (.slice a1 i k1)).setCell ⟨w.heap.size,3,none⟩ (.slice a2 i k2)).setCell ⟨w.heap.size,4,none⟩ (.slice a3 0 k3):=⟨_,rfl⟩
   rw[←hwe] at hrb5;have hbw:Below w.heap.size wr we:=by
    exact q5f5823
   have hrows:NodeRows 9 101 50 (fun _=>False) n (w5.heap.size+2) we (.slice a1 i k1) (.slice a2 i k2) (.slice a3 0 k3) (keysOf Li) (Li.map (·.2)) []:=by
    rw[hwe];have hk:w.heap.size<w5.heap.size+2:=by omega
    exact((((hmid.rows.set hk id).set hk id).set hk id).set hk id).set hk id
   have HE:Hid (PagePost T w lb mb da M d r (n+1) (leafR p R0) (.returned (.agg #[.int .i64 p,.bool true,.slice a1 i k1,.slice a2 i k2,.slice a3 0 k3])) we):=Hd (by rw[haf2];exact⟨only_past hmid.ol (Nat.le_refl _) hbw,[.int .i64 p,.bool true,.slice a1 i k1,.slice a2 i k2,.slice a3 0 k3],rfl,hrows.leaf (fun b hb=>by rcases hb with hb|hb;exact hb.elim;omega) n,hmid.ld.past (hbw.mono htw)⟩);have z0:=hrb5.cell 0 0 rfl rfl;have z1:=hrb5.cell 0 1 rfl rfl;have z2:=hrb5.cell 0 2 rfl rfl;have z3:=hrb5.cell 0 3 rfl rfl;have z4:=hrb5.cell 0 4 rfl rfl;have u0:=hrb.frozen 0 0 rfl;have u1:=hrb.frozen 0 1 rfl;have u2:=hrb.frozen 0 2 rfl;have u3:=hrb.frozen 0 3 rfl;have u4:=hrb.frozen 0 4 rfl;have y0:=hrb.cell 0 0 rfl rfl;have y1:=hrb.cell 0 1 rfl rfl;have y2:=hrb.cell 0 2 rfl rfl;have y3:=hrb.cell 0 3 rfl rfl;have y4:=hrb.cell 0 4 rfl rfl;have hrb0:=hrb.lt 0 rfl;have q1:decide ((i:Int)<(gl.length:Int))=false:=decide_eq_false (by omega);have q2:decide (i<gl.length)=false:=decide_eq_false hlt;clear hin hdr haf haf2 hx hrb hrb1 hrb2 hrb3 hrb4 hrb5 hbw hrows hmid;go_wp2_with fail;rw[←hwe];refine bodyPost_ret (v:=.agg #[.int .i64 p,.bool true,.slice a1 i k1,.slice a2 i k2,.slice a3 0 k3]) (by simp[results,Tryz.results52,go_sem,z0,z1,z2,z3,z4]) rfl ?_;exact HE.out):p:=h
theorem q1a3854 (h:p:=by
 clear zm;have hpe0:=HPE.out;rw[hP] at hpe0;subst hpe0;have hd4:=HD3.out.past (HBX.out.mono (show T≤w3.heap.size by omega));obtain⟨a',c',e',hbs⟩:=Bs.of_own HOX.out;cases e';have G:=nget_any _ _ _ _ wx hbs hd4.half;obtain⟨ge,hge⟩:∃x,getNE rb=x:=⟨_,rfl⟩
 obtain⟨gf,hgf⟩:∃x,getNF rb=x:=⟨_,rfl⟩
 obtain⟨gl,hgl⟩:∃x,getNL rb=x:=⟨_,rfl⟩
 rw[hge,hgf,hgl] at G;have HGE:=Hd hge;have HGF:=Hd hgf;have HGL:=Hd hgl;have HBS:=Hd hbs;have HD4:=Hd hd4;clear hge hgf hgl hbs hd4;go_wp2_with fail;refine(must_ok _).mono ?_;rintro e wy ⟨rfl,rfl⟩;go_wp2_with fail;refine G.mono ?_;rintro e w5 ⟨vn,rfl,hon,hbn⟩;obtain⟨an,cn,rfl,hcn,hcm,_⟩:=own_slice hon;unfold maxLen at hcm;have HON:=Hd hon;have HBN:=Hd hbn;have hs5:=hbn.size;clear G hon hbn;rw[HRB.out] at hE hF hR0;have hge0:=HGE.out;rw[hE] at hge0;subst hge0;have hgf0:=HGF.out;rw[hF] at hgf0;subst hgf0;rw[HGL.out] at hR0;have hN:=getN_node hE;rw[hF,HGL.out] at hN;obtain⟨hn1,hn2,hn3⟩:=nodeB_small hN;obtain⟨w6,hw6⟩:∃x,x=((w5.alloc (.cells #[.bool false,.slice an gl.length cn] 205)).alloc (.cells #[.int .i64 p,.bool false,.slice none 0 0,.slice none 0 0,.slice none 0 0] 50)):=⟨_,rfl⟩
 have hx5:Boxes w5 [(w.heap.size,zero5.toList)]:=(HX3.out.step HBX.out).step HBN.out;have hx6:Boxes w6 [(w5.heap.size+1,[.int .i64 p,.bool false,.slice none 0 0,.slice none 0 0,.slice none 0 0]),(w5.heap.size,[.bool false,.slice an gl.length cn]),(w.heap.size,zero5.toList)]:=by
  rw[hw6];exact(hx5.alloc #[.bool false,.slice an gl.length cn] 205 (b:=w5.heap.size) rfl).alloc #[.int .i64 p,.bool false,.slice none 0 0,.slice none 0 0,.slice none 0 0] 50 (b:=w5.heap.size+1) (by simp)
 have hb56:Below w5.heap.size w5 w6:=by rw[hw6];exact Below.al (Below.al (Below.refl _ _))
 have hsz6:w6.heap.size=w5.heap.size+2:=by rw[hw6];simp
 have hb36:Below w3.heap.size w3 w6:=HBX.out.trans ((HBN.out.trans (hb56.mono hs5)).mono hsx);have hmid:LMid T w w6 lb mb da M d r (seen++[p]) (w5.heap.size+1) w.heap.size (w5.heap.size+2) n p false (.slice none 0 0) (.slice none 0 0) (.slice none 0 0) [] [] [] w6:=
  ⟨hx6.sub (by intro q hq;simp at hq ⊢;rcases hq with rfl|rfl<;>simp),NodeRows.nil _ _ _ _ _ _ _,HD3.out.past (hb36.mono (by omega)),AgreeF.refl _,only_past HO3.out hs3 hb36,hT,Nat.le_refl _,by omega,by omega,by omega⟩
 have nb0:=hx6.cell 1 0 rfl rfl;obtain⟨a',c',e',hents⟩:=HON.out.ents;cases e';have hgeb:=own_ge HON.out;have HENTS:=Hd hents;have HMID:=Hd hmid;have HR0:=Hd hR0;have HN:=Hd hN;have HN2:=Hd hn2;have HN3:=Hd hn3;have HB56:=Hd hb56;have HSZ6:=Hd hsz6;have HGEB:=Hd hgeb;have HNB0:=Hd nb0;have hs53:w.heap.size<w5.heap.size:=by have:=hx5.lt 0 rfl;exact this
 have HW6:=Hd hw6;clear hR0 hN hn2 hn3 hx5 hx6 hb56 hsz6 hb36 hmid hents hgeb nb0 hw6;go_wp2_with fail;refine(must_ok _).mono ?_;rintro e wy ⟨rfl,rfl⟩;go_wp2_with fail;rw[←HW6.out]
 go_loopw [10,44] (fun _ s44 wr=>∃(i:Nat) (v1 v2 v3:Value) (s:List Int) (Li:List (List UInt8×Tr)),i≤gl.length∧s44=.int .i64 i∧Li.length=i∧SeenOk s∧roomL s<n∧afterL Li (kidsL (loadT d r n) s (gl.drop i))=R0∧LMid T w w6 lb mb da M d r s (w5.heap.size+1) w.heap.size (w5.heap.size+2) n p false v1 v2 v3 (keysOf Li) [] (Li.map (·.2)) wr) (fun _ s _=>gl.length-(intOf s).toNat)
 case atStart=>exact⟨0,_,_,_,seen++[p],[],Nat.zero_le _,rfl,rfl,HS.out.snoc HM.out (paged_range HD3.out.dok HPE.out).1 (paged_range HD3.out.dok HPE.out).2,hroom0,by rw[List.drop_zero,afterL_nil];exact HR0.out,HMID.out⟩
 case round=>
  clear HMID;obtain⟨i,v1,v2,v3,s,Li,hi,rfl,hLi,hsok,hroom,haf,hmid⟩:=hrel;obtain⟨a1,k1,a2,k2,a3,k3,rfl,rfl,rfl⟩:=hmid.rows.sl;have hlt2:=hmid.lt;have q5:=HSZ6.out;have htm:=hmid.ld.tm;have hK0:(keysOf Li).length=i:=by simp[keysOf];omega
  have hV0:(Li.map (·.2)).length=i:=by simp;omega
  have hnil:([]:List Tv).length=0:=rfl;rw[hK0,hnil,hV0] at hmid
  by_cases hlt:i<gl.length
  ·obtain⟨b,off,en,rfl,hb5,hen,k0,k1',k2',k3',k4⟩:=HENTS.out.at hlt
   have hbx:wx.heap.size≤b:=HGEB.out b rfl;have hdr:gl.drop i=en::gl.drop (i+1):=by
    exact q6f4561
   rw[hdr] at haf;have henm:en∈gl:=List.mem_of_getElem? hen;obtain⟨hek,hed⟩:=HN2.out en henm;have hagr:∀(o:Nat),wr.cell? ⟨b,off+i*5+o,none⟩=w5.cell? ⟨b,off+i*5+o,none⟩:=fun o=>(hmid.ag.cell (b:=b) (o:=off+i*5+o) ⟨by show b<_;omega,by show b≠mb;omega,by show b≠_;omega⟩ (show b<w6.heap.size by omega)).trans (HB56.out.cell (p:=⟨b,off+i*5+o,none⟩) hb5)
   have j0:=(hagr 0).trans k0;have j1:=(hagr 1).trans k1';have j2:=(hagr 2).trans k2';have j3:=(hagr 3).trans k3';have j4:=(hagr 4).trans k4;simp only[Nat.add_zero] at j0;obtain⟨key,vd,vf,vs,vp⟩:=en;dsimp only at j0 j1 j2 j3 j4 hek hed;obtain⟨wb,hwb⟩:∃x,wr.alloc (.cells #[.string (strOf key),.string (strOf vd),.bool vf,.int .i64 vs,.int .i64 vp] 211)=x:=⟨_,rfl⟩
   have hbb:Below wr.heap.size wr wb:=by rw[←hwb];exact Below.al (Below.refl _ _)
   have hxb:Boxes wb [(wr.heap.size,[.string (strOf key),.string (strOf vd),.bool vf,.int .i64 vs,.int .i64 vp])]:=by rw[←hwb];exact(Boxes.nil wr).alloc #[.string (strOf key),.string (strOf vd),.bool vf,.int .i64 vs,.int .i64 vp] 211 rfl
   have hm0:=hmid.below hbb;have hwr9:=hbb.size;have hxlt:=hxb.lt 0 rfl;have x0:=hxb.cell 0 0 rfl rfl;have o2:=hm0.box.cell 0 2 rfl rfl;obtain⟨a',c',w',hrun1,hA1,f8,f9,hA2,hmidP⟩:=hm0.pushK (by rw[hK0];omega) key;rw[hK0] at hrun1 hA2 hmidP;have hkeys:keysOf Li++[key]=keysOf Li++[key]:=rfl;have hge1:(Value.slice a1 i k1).ownBlock≠some wr.heap.size:=fun e=>by have:=(hmid.rows.k.lt e).2;omega
   have hxz:Boxes (w'.setCell ⟨w5.heap.size+1,2,none⟩ (.slice a' (i+1) c')) [(wr.heap.size,[.string (strOf key),.string (strOf vd),.bool vf,.int .i64 vs,.int .i64 vp])]:=hxb.agree hA2 (by intro q hq;simp at hq;subst hq;exact⟨hge1,by show wr.heap.size≠_;omega⟩);obtain⟨wz,hwz⟩:∃x,w'.setCell ⟨w5.heap.size+1,2,none⟩ (.slice a' (i+1) c')=x:=⟨_,rfl⟩
   rw[hwz] at hmidP hxz;have hzl:=hmidP.lt;have nbz:wz.cell? ⟨w5.heap.size,0,none⟩=some (.bool false):=(hmidP.ag.cell (b:=w5.heap.size) (o:=0) ⟨by show w5.heap.size<_;omega,by show w5.heap.size≠mb;omega,by show w5.heap.size≠_;omega⟩ (show w5.heap.size<w6.heap.size by omega)).trans HNB0.out;have HP:=Hd hmidP;have HXZ:=Hd hxz;have HMID:=Hd hmid;have HAF:=Hd haf;have HLI:=Hd hLi;have HSOK:=Hd hsok;have HHEN:=Hd hen;have HHENM:=Hd henm;have q1:decide ((i:Int)<(gl.length:Int))=true:=decide_eq_true (by omega);have q2:decide (i<gl.length)=true:=decide_eq_true hlt;clear hdr hagr k0 k1' k2' k3' k4 hbb hxb hm0 hmidP hxz hmid haf hLi hsok hen henm hA1 hA2 hkeys;go_upto_region 13 with(at_builtin;refine wpList_append_run rfl _ _ _ _ rfl rfl rfl hrun1 ?_)
   clear hrun1 f8 f9 hwz hwb j0 j1 j2 j3 j4 x0 o2 q1 q2 nbz;have hT9:T≤wz.heap.size:=by omega
   have hb0:Below wz.heap.size wz wz.drew:=below_drewN (Below.refl _ _) 1;have hge2:(Value.slice a3 i k3).ownBlock≠some wr.heap.size:=fun e=>by have:=(HMID.out.rows.c.lt e).2;omega
   have hXA:∀(k:Nat) (u:Value),wz.cell? ⟨wr.heap.size,k,none⟩=some u→∀W,AgreeF (fun x=>(Value.slice a3 i k3).ownBlock≠some x∧x≠w5.heap.size+1∧x≠mb) wz W→W.cell? ⟨wr.heap.size,k,none⟩=some u:=fun k u h W hW=>(hW.cell (b:=wr.heap.size) (o:=k) ⟨hge2,by show wr.heap.size≠_;omega,by show wr.heap.size≠_;omega⟩ (by have:=HXZ.out.lt 0 rfl;exact this)).trans h
   have x1:=hXA 1 _ (HXZ.out.cell 0 1 rfl rfl);have x2:=hXA 2 _ (HXZ.out.cell 0 2 rfl rfl);have x3:=hXA 3 _ (HXZ.out.cell 0 3 rfl rfl);have x4:=hXA 4 _ (HXZ.out.cell 0 4 rfl rfl);have o3:=HP.out.box.cell 0 4 rfl rfl;have hA00:AgreeF (fun x=>(Value.slice a3 i k3).ownBlock≠some x∧x≠w5.heap.size+1∧x≠mb) wz wz.drew:=AgreeF.refl _;have CV:=IH (HP.out.ld.past (hb0.mono hT9)) (show T≤wz.drew.heap.size from hT9) HSOK.out hroom (show I64 vp by have:=HN3.out (by trivial) _ HHENM.out;dsimp only at this;unfold I64;omega) (show vp≠0 by have:=HN3.out (by trivial) _ HHENM.out;dsimp only at this;omega);have haf:=HAF.out;cases hv:loadT d r n s vp with
   | error x=>
    rw[kidsL_err hv] at haf;have HEP:∀w2,Only [mb] wz.drew w2→PagePost T w lb mb da M d r (n+1) (nodeR p R0) (.panicked (errP x)) w2:=fun w2 ho=>⟨HP.out.ol.trans ho,by rw[←haf];rfl⟩
    rw[hv] at CV;clear haf HAF hXA;refine wp_region_held_drew (S:=(fun W=>AgreeF (fun x=>(Value.slice a3 i k3).ownBlock≠some x∧x≠w5.heap.size+1∧x≠mb) wz W)) (by kernel_rfl) (by(repeat (with_reducible first|assumption|exact AgreeF.refl _|apply AgreeF.al|apply AgreeF.dr))) (fun hHeld=>?_);refine tks [0,2] ?_;refine tks [3,4,5] ?_;refine rdy2 1 6 (fun K hK=>?_) (fun K hK=>?_)
    ·(rw[if_pos (by rfl)];go_wp2_with (fail))
     refine bkA hK (fun hHeld=>?_);clear hK K;refine rdy 6 (fun K hK=>?_)
     (rw[if_pos (by rfl)];go_simp;(with_reducible refine CV.mono ?_);rintro e w2 ⟨ho2,he⟩;have he:e=.panicked (errP x):=he;subst he;exact⟨rfl,HEP _ ho2⟩)
    ·(rw[if_pos (by rfl)];go_simp;(with_reducible refine CV.mono ?_);rintro e w2 ⟨ho2,he⟩;have he:e=.panicked (errP x):=he;subst he;exact⟨rfl,HEP _ ho2⟩)
   | ok y=>
    obtain⟨s2,kid⟩:=y;rw[kidsL_ok hv,afterL_app] at haf;have haf2:afterL (Li++[(key,kid)]) (kidsL (loadT d r n) s2 (gl.drop (i+1)))=R0:=haf;have HAF2:=Hd haf2;have HV:=Hd hv;rw[hv] at CV;have PC:∀(w2:World) (x0 x1 x2 x3 x4:Value),Only [mb] wz.drew w2→NodeOn (fun b=>wz.drew.heap.size≤b) n w2 [x0,x1,x2,x3,x4] kid→LdIn T w2 lb mb da M d r s2→∃a9 c9 w9,(Builtin.append_ #[48,48] 48 #[.slice a3 i k3,.slice (some ⟨w2.heap.size,0,none⟩) 1 1]).run Tryz.prog (w2.alloc (.cells #[x0,x1,x2,x3,x4] 50))=.ok (.slice a9 (i+1) c9) w9∧w9.cell? ⟨w5.heap.size+1,4,none⟩=some (.slice a3 i k3)∧w9.frozen? ⟨w5.heap.size+1,4,none⟩=false∧w2.cell? ⟨w5.heap.size+1,4,none⟩=some (.slice a3 i k3)∧w5.heap.size+1<w2.heap.size ∧
     AgreeF (fun x=>(Value.slice a3 i k3).ownBlock≠some x∧x≠w5.heap.size+1∧x≠mb) wz w2∧AgreeF (fun x=>(Value.slice a3 i k3).ownBlock≠some x∧x≠w5.heap.size+1∧x≠mb) wz w9∧AgreeF (fun x=>(Value.slice a3 i k3).ownBlock≠some x∧x≠w5.heap.size+1∧x≠mb) wz (w9.setCell ⟨w5.heap.size+1,4,none⟩ (.slice a9 (i+1) c9))∧Hid (LMid T w w6 lb mb da M d r s2 (w5.heap.size+1) w.heap.size (w5.heap.size+2) n p false (.slice a' (i+1) c') (.slice a2 0 k2) (.slice a9 (i+1) c9) (keysOf (Li++[(key,kid)])) [] ((Li++[(key,kid)]).map (·.2)) (w9.setCell ⟨w5.heap.size+1,4,none⟩ (.slice a9 (i+1) c9))):=fun w2 x0 x1 x2 x3 x4 ho hon hl2=>by
     have hm2:=(HP.out.below hb0).turn ho hl2;have hy:NodeOn (G3 (fun _=>False) (w5.heap.size+2) (.slice a' (i+1) c') (.slice a2 0 k2) (.slice a3 i k3)) n w2 [x0,x1,x2,x3,x4] kid:=NodeOn.mono (fun b hb=>by
      have hb:wz.heap.size≤b:=hb;exact⟨.inr (by have:=HP.out.lt;omega),fun e=>by have:=(HP.out.rows.k.lt e).2;omega,fun e=>by have:=(HP.out.rows.v.lt e).2;omega,fun e=>by have:=(HP.out.rows.c.lt e).2;omega⟩) hon
     obtain⟨a9,c9,w9,hrun2,hA3,f8,f9,hA4,hmidQ⟩:=hm2.pushC (by rw[show(Li.map (·.2)).length=i by simp;exact HLI.out];have:=HLI.out;omega) hy;have e2:keysOf Li++[key]=keysOf (Li++[(key,kid)]):=by simp[keysOf]
     have e3:Li.map (·.2)++[kid]=(Li++[(key,kid)]).map (·.2):=by simp
     rw[show(Li.map (·.2)).length=i by simp;exact HLI.out] at hrun2 hA4 hmidQ;rw[e2,e3] at hmidQ;have hag:AgreeF (fun x=>(Value.slice a3 i k3).ownBlock≠some x∧x≠w5.heap.size+1∧x≠mb) wz w2:=⟨ho.size,fun b hb hlt=>ho.block hlt (by simp;exact hb.2.2)⟩
     exact⟨a9,c9,w9,hrun2,f8,f9,hm2.box.cell 0 4 rfl rfl,hm2.lt.1,hag,hag.trans (hA3.sub fun x hx=>⟨hx.1,hx.2.1⟩),hag.trans (hA4.sub fun x hx=>⟨hx.1,hx.2.1⟩),Hd hmidQ⟩
    have HSOK2:=Hd (loadT_seen HP.out.ld.dok (show vp≠0 by have:=HN3.out (by trivial) _ HHENM.out;dsimp only at this;omega) HSOK.out hv);clear haf haf2 HAF hXA hv;have hroom2:roomL s2<n:=by
     obtain⟨_,l,el⟩:=HSOK2.out;have:=roomL_mono (seen:=s) (l:=l);rw[el];omega
    skip
    refine wp_region_held_drew (S:=(fun W=>AgreeF (fun x=>(Value.slice a3 i k3).ownBlock≠some x∧x≠w5.heap.size+1∧x≠mb) wz W)) (by kernel_rfl) (by(repeat (with_reducible first|assumption|exact AgreeF.refl _|apply AgreeF.al|apply AgreeF.dr))) (fun hHeld=>?_);refine tks [0,2] ?_;refine tks [3,4,5] ?_;refine rdy2 1 6 (fun K hK=>?_) (fun K hK=>?_)
    ·(rw[if_pos (by rfl)];go_wp2_with (fail))
     refine bkA hK (fun hHeld=>?_);clear hK K;refine rdy 6 (fun K hK=>?_)
     (rw[if_pos (by rfl)];go_simp;(with_reducible refine CV.mono ?_);rintro e w2 ⟨ho2,cs2,rfl,hon2,hl2⟩;obtain⟨u1,u2,u3,u4,u5,u6,u7,u8,_,_,eu,_⟩:=NodeOn.open_pos hon2;subst eu;obtain⟨a9,c9,w9,hrun2,f8,f9,f7,hlt9,hA1,hA3,hA4,HQ⟩:=PC _ _ _ _ _ _ ho2 hon2 hl2;clear CV PC hon2 hl2;dsimp only)
     refine bkA hK (fun hHeld=>?_);clear hK K;refine rdy 7 (fun K hK=>?_)
     (rw[if_pos (by rfl)];go_wp2_with (fail))
     exact qa6eaf4
    ·(rw[if_pos (by rfl)];go_simp;(with_reducible refine CV.mono ?_);rintro e w2 ⟨ho2,cs2,rfl,hon2,hl2⟩;obtain⟨u1,u2,u3,u4,u5,u6,u7,u8,_,_,eu,_⟩:=NodeOn.open_pos hon2;subst eu;obtain⟨a9,c9,w9,hrun2,f8,f9,f7,hlt9,hA1,hA3,hA4,HQ⟩:=PC _ _ _ _ _ _ ho2 hon2 hl2;clear CV PC hon2 hl2;dsimp only)
     refine bkA hK (fun hHeld=>?_);clear hK K;refine rdy2 1 7 (fun K hK=>?_) (fun K hK=>?_)
     ·(rw[if_pos (by rfl)];go_wp2_with (fail))
      refine bkA hK (fun hHeld=>?_);clear hK K;refine rdy 7 (fun K hK=>?_)
      (rw[if_pos (by rfl)];go_wp2_with (fail))
      exact qa6eaf4
     ·(rw[if_pos (by rfl)];go_wp2_with (fail))
      refine bkA hK (fun hHeld=>?_);clear hK K;refine rdy 1 (fun K hK=>?_)
      (rw[if_pos (by rfl)];go_wp2_with (fail))
      exact qa6eaf4
  ·have hin:i=gl.length:=by omega
   have hdr:gl.drop i=[]:=List.drop_of_length_le (by omega);rw[hdr] at haf;have haf2:R0=.ok (s,Li):=by rw[←haf];unfold kidsL;simp[afterL]
   have htw:=hmid.tw;have hx:=hmid.box;have n0:=hx.cell 0 0 rfl rfl;have n1:=hx.cell 0 1 rfl rfl;have n2:=hx.cell 0 2 rfl rfl;have n3:=hx.cell 0 3 rfl rfl;have n4:=hx.cell 0 4 rfl rfl;have hrb:Boxes wr [(w.heap.size,zero5.toList)]:=hx.sub (by intro q hq;simp at hq ⊢;exact .inr hq);have hrb1:=hrb.put 0 (.int .i64 p) (by intro q hq;simp at hq);have hrb2:=hrb1.put 1 (.bool false) (by intro q hq;simp at hq);have hrb3:=hrb2.put 2 (.slice a1 i k1) (by intro q hq;simp at hq);have hrb4:=hrb3.put 3 (.slice a2 0 k2) (by intro q hq;simp at hq);have hrb5:=hrb4.put 4 (.slice a3 i k3) (by intro q hq;simp at hq);obtain⟨we,hwe⟩:∃x,x=((((wr.setCell ⟨w.heap.size,0,none⟩ (.int .i64 p)).setCell ⟨w.heap.size,1,none⟩ (.bool false)).setCell ⟨w.heap.size,2,none⟩ (.slice a1 i k1)).setCell ⟨w.heap.size,3,none⟩ (.slice a2 0 k2)).setCell ⟨w.heap.size,4,none⟩ (.slice a3 i k3):=⟨_,rfl⟩
   rw[←hwe] at hrb5;have hbw:Below w.heap.size wr we:=by
    exact q5f5823
   have hrows:NodeRows 9 101 50 (fun _=>False) n (w5.heap.size+2) we (.slice a1 i k1) (.slice a2 0 k2) (.slice a3 i k3) (keysOf Li) [] (Li.map (·.2)):=by
    rw[hwe];have hk:w.heap.size<w5.heap.size+2:=by omega
    exact((((hmid.rows.set hk id).set hk id).set hk id).set hk id).set hk id
   have HE:Hid (PagePost T w lb mb da M d r (n+1) (nodeR p R0) (.returned (.agg #[.int .i64 p,.bool false,.slice a1 i k1,.slice a2 0 k2,.slice a3 i k3])) we):=Hd (by rw[haf2];exact⟨only_past hmid.ol (Nat.le_refl _) hbw,[.int .i64 p,.bool false,.slice a1 i k1,.slice a2 0 k2,.slice a3 i k3],rfl,hrows.node (fun b hb=>by rcases hb with hb|hb;exact hb.elim;omega),hmid.ld.past (hbw.mono htw)⟩);have z0:=hrb5.cell 0 0 rfl rfl;have z1:=hrb5.cell 0 1 rfl rfl;have z2:=hrb5.cell 0 2 rfl rfl;have z3:=hrb5.cell 0 3 rfl rfl;have z4:=hrb5.cell 0 4 rfl rfl;have u0:=hrb.frozen 0 0 rfl;have u1:=hrb.frozen 0 1 rfl;have u2:=hrb.frozen 0 2 rfl;have u3:=hrb.frozen 0 3 rfl;have u4:=hrb.frozen 0 4 rfl;have y0:=hrb.cell 0 0 rfl rfl;have y1:=hrb.cell 0 1 rfl rfl;have y2:=hrb.cell 0 2 rfl rfl;have y3:=hrb.cell 0 3 rfl rfl;have y4:=hrb.cell 0 4 rfl rfl;have hrb0:=hrb.lt 0 rfl;have q1:decide ((i:Int)<(gl.length:Int))=false:=decide_eq_false (by omega);have q2:decide (i<gl.length)=false:=decide_eq_false hlt;clear hin hdr haf haf2 hx hrb hrb1 hrb2 hrb3 hrb4 hrb5 hbw hrows hmid;go_wp2_with fail;rw[←hwe];refine bodyPost_ret (v:=.agg #[.int .i64 p,.bool false,.slice a1 i k1,.slice a2 0 k2,.slice a3 i k3]) (by simp[results,Tryz.results52,go_sem,z0,z1,z2,z3,z4]) rfl ?_;exact HE.out):p:=h
theorem q390662 (h:p:=by
 rw[hR];obtain⟨w1,hw1⟩:∃w1,w.alloc (.cells #[.int .i64 0,.bool false,.slice none 0 0,.slice none 0 0,.slice none 0 0] 50)=w1:=⟨_,rfl⟩
 have hb1:Below w.heap.size w w1:=by rw[←hw1];exact Below.al (Below.refl _ _)
 have hX1:Boxes w1 [(w.heap.size,zero5.toList)]:=by rw[←hw1];exact(Boxes.nil w).alloc #[.int .i64 0,.bool false,.slice none 0 0,.slice none 0 0,.slice none 0 0] 50 rfl
 obtain⟨w2,hw2⟩:∃w2,w1.alloc (.cells #[.int .i64 p] 3)=w2:=⟨_,rfl⟩
 have hb12:Below w1.heap.size w1 w2:=by rw[←hw2];exact Below.al (Below.refl _ _)
 have hb2:Below w.heap.size w w2:=by rw[←hw2];exact Below.al hb1
 have hs1:=hb1.size;have hrow:Row .i64 w2 (some ⟨w1.heap.size,0,none⟩) 1 1 [p]:=by
  rw[←hw2];exact Row.made .i64 w1 3 [p] rfl (by unfold maxLen;simp)
 have hmb:=h.lt.2;have hls:=hs.len;have S1:=see_any (ps:=[p]) (h.below hT hb2) (by simp;omega) (by simpa using hp) hrow (fun x ex=>by cases ex;show w1.heap.size≠mb;omega);have hsee:seeL seen [p]=some (seen++[p]):=by unfold seeL;rw[if_neg hm];rfl
 rw[hsee] at S1;have hz:=zero_nodeL;have HB2:=Hd hb2;have HX2:=Hd (hX1.step hb12);have HS:=Hd hs;have HM:=Hd hm;have HR:=Hd hR;clear hb1 hb12 hX1 hb2 hrow hR hsee hm h hs1 hls hs;go_enter Tryz.func52,Tryz.ntmps52;go_wp2_with fail;refine S1.mono ?_;rintro e w3 ⟨ho3,rfl,hd3⟩;have hO3:=below_only HB2.out ho3;have HO3:=Hd hO3;have hs3:=hO3.size;have HX3:=Hd (HX2.out.only ho3 (by intro q hq;simp at hq;subst hq;simp;omega));obtain⟨c0,c1,_⟩:=hd3.cell;have hlt3:=hd3.lt.1;have hb0:Below w3.heap.size w3 w3.drew:=below_drewN (Below.refl _ _) 1;have hd0:=hd3.past (hb0.mono (show T≤w3.heap.size by omega));have C:=read_o hd0.one r p;have cA:∀W,Below w3.heap.size w3 W→W.cell? ⟨lb,0,none⟩=some (.pointer (some ⟨da,0,none⟩)):=fun W hW=>(hW.cell (p:=⟨lb,0,none⟩) hlt3).trans c0
 have cB:∀W,Below w3.heap.size w3 W→W.cell? ⟨lb,1,none⟩=some (.int .i64 r):=fun W hW=>(hW.cell (p:=⟨lb,1,none⟩) hlt3).trans c1
 have HD3:=Hd hd3;obtain⟨pe,hpe⟩:∃x,pagedE d r p=x:=⟨_,rfl⟩
 obtain⟨rb,hrb⟩:∃x,readB d r p=x:=⟨_,rfl⟩
 rw[hpe,hrb] at C;have HPE:=Hd hpe;have HRB:=Hd hrb;clear ho3 hO3 hd3 hd0 c0 c1 hpe hrb;go_wp2_with fail
 go_region_held3 (fun W=>Below w3.heap.size w3 W) (with_reducible assumption) (first|(go_at_call 94;refine C.mono ?_;rintro e wx ⟨vx,rfl,hox,hbx⟩;have hBx:Below w3.heap.size w3 wx:=below_then hb0 hbx))
 have HBX:=Hd hBx;have hsx:=hBx.size;obtain⟨av,cv,rfl,_⟩:=own_slice hox;have HOX:=Hd hox;clear C cA cB hox hbx hBx hb0
 first|exact Mk.go 864105 zm q68bce9|exact Mk.go 458712 zm q8111d8|exact Mk.go 765942 zm q0baff6|exact Mk.go 718356 zm q1a3854):p:=h
theorem q3dbb1c (h:p:=by
 clear zm;rw[HPE.out] at hP;have hR0:RF=.error pe:=by rw[←HRF.out];unfold loadT;rw[if_neg hm,if_pos (by rw[HPE.out];exact hP),HPE.out]
 obtain⟨wq,hwq⟩:∃x,wx.setCell ⟨sb,3,none⟩ (.int .i64 pe)=x:=⟨_,rfl⟩
 have hdx:=HD2.out.below HBX.out;have x3:=hdx.box.cell 0 3 rfl rfl;have y3:=hdx.box.frozen 0 3 rfl;have hoS:Only [sb] wx wq:=by rw[←hwq];exact(Only.refl _ _).set _ _ (by simp)
 have hdq:RLd wq sb a len cap d r v2 (seen++[p]) pe:=by rw[←hwq];exact hdx.err pe
 have hxq:=(HX2.out.step HBX.out).only hoS (by intro q hq;simp at hq;rcases hq with rfl|rfl<;>simp<;>omega);have hoq:Only (RS sb v) w wq:=(HO2.out.trans (Only.of_below HBX.out)).trans (hoS.mono (fun k hk=>by simp at hk;exact RS.mem.2 (.inl hk)));have htq:=HT2.out;have hvq:=HV2.out w.heap.size (Nat.le_refl _) (by have:=HS1.out;omega);have b3:=hdq.box.cell 0 3 rfl rfl;have f3:=hdq.box.frozen 0 3 rfl;have n0:=hxq.cell 0 0 rfl rfl;have n1:=hxq.cell 0 1 rfl rfl;have n2:=hxq.cell 0 2 rfl rfl;have m0:=hxq.cell 1 0 rfl rfl;have m1:=hxq.cell 1 1 rfl rfl;have m2:=hxq.cell 1 2 rfl rfl;have u0:=hxq.frozen 1 0 rfl;have u1:=hxq.frozen 1 1 rfl;have u2:=hxq.frozen 1 2 rfl;have hxr:Boxes wq [(w.heap.size,[.int .i64 0,.bool false,.slice none 0 0])]:=hxq.sub (by intro q hq;simp at hq ⊢;exact .inr hq);obtain⟨we,hwe⟩:∃x,x=st3 wq w.heap.size (.int .i64 p) (.bool false) (.slice none 0 0):=⟨_,rfl⟩
 have hxe:=st3_box hxr (.int .i64 p) (.bool false) (.slice none 0 0);rw[←hwe] at hxe;have z0:=hxe.cell 0 0 rfl rfl;have z1:=hxe.cell 0 1 rfl rfl;have z2:=hxe.cell 0 2 rfl rfl;have HE:Hid (RLoadPost w sb a len cap d r v (n+1) RF (.returned (.agg #[.int .i64 p,.bool false,.slice none 0 0])) we):=Hd (by
  obtain⟨g1,g2⟩:=rload_left hdq hoq hsb hvq (.int .i64 p) (.bool false) (.slice none 0 0);rw[←hwe] at g1 g2;exact⟨p,false,none,0,0,_,_,_,rfl,g1,g2,htq,by rw[hR0];exact⟨rfl,hP⟩⟩)
 clear hdq hxq hoq htq hvq hxr hxe hdx hoS;exact q857964):p:=h
theorem q79efea (h:p:=by
 clear zm;have hpe0:=HPE.out;rw[hP] at hpe0;subst hpe0;have G:=rnget_any rb wx (by omega);obtain⟨ge,hge⟩:∃x,getNE rb=x:=⟨_,rfl⟩
 obtain⟨gf,hgf⟩:∃x,getNF rb=x:=⟨_,rfl⟩
 obtain⟨gl,hgl⟩:∃x,getNL rb=x:=⟨_,rfl⟩
 have hgf0:=hgf;rw[←HRB.out,hF] at hgf0;subst hgf0;rw[hge,hgf,hgl] at G;have HGE:=Hd hge;have HGL:=Hd hgl;clear hge hgf hgl;go_wp2_with fail;refine G.mono ?_;rintro e w4 ⟨vn,rfl,hon,hbn⟩;obtain⟨an,cn,rfl,hcn,hcm,_⟩:=own_slice hon;unfold maxLen at hcm;have hsx4:=hbn.size;obtain⟨w5,hw5⟩:∃x,w4.alloc (.cells #[.bool true,.slice an gl.length cn] 221)=x:=⟨_,rfl⟩
 have hb45:Below w4.heap.size w4 w5:=by rw[←hw5];exact Below.al (Below.refl _ _)
 have hs45:w5.heap.size=w4.heap.size+1:=by rw[←hw5];simp
 have hxn:Boxes w5 [(w4.heap.size,[.bool true,.slice an gl.length cn])]:=by rw[←hw5];exact(Boxes.nil w4).alloc #[.bool true,.slice an gl.length cn] 221 rfl
 have hb25:Below w2.heap.size w2 w5:=HBX.out.trans ((hbn.trans (hb45.mono hsx4)).mono hsx);have hd5:=HD2.out.below hb25;have hx5:=HX2.out.step hb25;have hs25:=hb25.size;have a3:=hd5.box.cell 0 3 rfl rfl;have e3:=hd5.box.frozen 0 3 rfl;obtain⟨wC,hwC⟩:∃x,w5.setCell ⟨sb,3,none⟩ (.int .i64 ge)=x:=⟨_,rfl⟩
 have hoC:Only [sb] w5 wC:=by rw[←hwC];exact(Only.refl _ _).set _ _ (by simp)
 have hdC:RLd wC sb a len cap d r v2 (seen++[p]) ge:=by rw[←hwC];exact hd5.err ge
 have hxC:=hx5.only hoC (by intro q hq;simp at hq;rcases hq with rfl|rfl<;>simp<;>omega);have hxnC:=hxn.only hoC (by intro q hq;simp at hq;subst hq;simp;omega);have nC:=hxnC.cell 0 0 rfl rfl;have oC:=hxC.cell 0 1 rfl rfl;have pC:=hxC.frozen 0 1 rfl;obtain⟨wB,hwB⟩:∃x,wC.setCell ⟨w.heap.size+1,1,none⟩ (.bool true)=x:=⟨_,rfl⟩
 have hoB:Only [w.heap.size+1] wC wB:=by rw[←hwB];exact(Only.refl _ _).set _ _ (by simp)
 have hszC:wC.heap.size=w5.heap.size:=by rw[←hwC];simp
 have hszB:wB.heap.size=w4.heap.size+1:=by rw[←hwB];simp[hszC];omega
 have hv2n:∀b,w.heap.size≤b→b<w1.heap.size→v2.ownBlock≠some b:=HV2.out;have hv2g:∀g,v2.ownBlock=some g→g<w2.heap.size:=fun g hg=>(HD2.out.ge hg).2
 have hs1:=HS1.out;have hRM:RM w wB sb a len cap d r v v2 (w.heap.size+1) w.heap.size n p true v2 (seen++[p]) ge (.slice none 0 0) [] [] wB:=
  ⟨by rw[←hwB];exact hxC.put 1 _ (by intro q hq;simp at hq;subst hq;simp),hdC.only hoB (fun k hk=>by simp at hk;subst hk;exact⟨by omega,hv2n _ (by omega) (by omega)⟩),own_nil wB _ 4 _,fun g hg=>by(cases hg),fun _=>Tells.nil,
   ((HO2.out.trans (Only.of_below hb25)).trans (hoC.mono (fun k hk=>by simp at hk;exact RS.mem.2 (.inl hk)))).then hoB (fun k hk=>by simp at hk;subst hk;exact .inr (by omega)),HT2.out,Turn.refl _ _,AgreeF.refl _,fun g hg=>⟨fun e=>hv2n g (by omega) (by omega) hg,fun e=>hv2n g (by omega) (by omega) hg,by have:=hv2g g hg;omega⟩,hsb,Nat.le_refl _,by omega,by omega⟩
 have hxnB:=hxnC.only hoB (by intro q hq;simp at hq;subst hq;simp;omega);have HNB0:=Hd (hxnB.cell 0 0 rfl rfl);have HNB1:=Hd (hxnB.cell 0 1 rfl rfl);obtain⟨a',c',e',hents⟩:=OwnRe.ents hon;cases e';have HENTS:=Hd hents;have HGEB:=Hd (own_ge hon);have HB4:Hid (AgreeF (fun b=>b≠sb∧b≠w.heap.size+1) w4 wB):=Hd ((AgreeF.of_below hb45).trans ⟨by omega,fun b hb hlt=>(hoB.block (by omega) (by simp;exact hb.2)).trans (hoC.block hlt (by simp;exact hb.1))⟩);have HV2G:=Hd hv2g;have HRM:=Hd hRM;have HSZB:=Hd hszB;have hgl9:gl.length≤122:=by
  exact qb2093d
 have hge0:ge=0:=by
  rw[←HGE.out,←HRB.out];unfold getNF at hF
  split at hF
  ·rename_i h;exact h
  ·cases hF
 have HI1:=Hd (show ge≠0→RF=.error ge from fun h=>absurd hge0 h);have HI2:=Hd (show ge=0→∃Li:List (List UInt8×Tv),Li.length=0∧([]:List Rc)=(Li.map fun c=>(⟨c.1,c.2,none⟩:Rc))∧SeenOk (seen++[p])∧afterL Li (valsL d r (seen++[p]) (gl.drop 0))=R0 from fun _=>⟨[],rfl,rfl,HSK.out.snoc hm (paged_range hd HPE.out).1 (paged_range hd HPE.out).2,by rw[List.drop_zero,afterL_nil,←HGL.out,←HRB.out];exact hR0⟩);have HNB9:=Hd (show nodeB true gl=true by have:=getN_node (b:=rb) (by rw[HGE.out];exact hge0);rw[HGL.out,←HRB.out,hF] at this;exact this);have HRR:=Hd (show RF=leafR p R0 by rw[←HRF.out];unfold loadT;rw[if_neg hm,if_neg (by omega),if_neg (by rw[HRB.out,HGE.out];omega),if_pos hF,hR0];cases R0<;>rfl);clear hge0;clear hon hbn hb45 hs45 hxn hb25 hd5 hx5 hs25 hoC hdC hxC hxnC hoB hszC hszB hv2n hv2g hRM hxnB hents G;go_wp2_with fail;have hzc:=zero_refC;clear a3 e3 nC oC pC hwC hwB hw5
 go_loopw [9,10] (fun s9 _ wr=>∃(i:Nat) (vi:Value) (s:List Int) (E:Int) (vL:Value) (LL:List (Cl 4)) (ys:List Rc),i≤gl.length∧s9=.int .i64 i∧LL.length=i∧RM w wB sb a len cap d r v v2 (w.heap.size+1) w.heap.size n p true vi s E vL LL ys wr∧(E≠0→RF=.error E)∧(E=0→∃Li:List (List UInt8×Tv),Li.length=i∧ys=(Li.map fun c=>(⟨c.1,c.2,none⟩:Rc))∧SeenOk s∧afterL Li (valsL d r s (gl.drop i))=R0)) (fun s _ _=>gl.length-(intOf s).toNat)
 case atStart=>exact⟨0,v2,_,ge,_,[],[],Nat.zero_le _,rfl,rfl,HRM.out,HI1.out,HI2.out⟩
 case round=>
  clear HRM HI1 HI2;obtain⟨i,vi,s,E,vL,LL,ys,hi,rfl,hLL,hm,hE1,hE2⟩:=hrel;obtain⟨aL,cL,rfl,_⟩:=own_slice hm.row;have hlt2:=hm.lt;have q5:=HSZB.out;have hs1:=HS1.out;have nbr:∀(o:Nat) (u:Value),wB.cell? ⟨w4.heap.size,o,none⟩=some u→wr.cell? ⟨w4.heap.size,o,none⟩=some u:=fun o u hu=>(hm.ag.cell (b:=w4.heap.size) (o:=o) ⟨by omega,by omega,fun e=>by have:=HV2G.out _ e;omega⟩ (by omega)).trans hu
  have nb0:=nbr 0 _ HNB0.out;have nb1:=nbr 1 _ HNB1.out;have b3:=hm.ld.box.cell 0 3 rfl rfl;have iw2:IntKind.i64.wrap ((i:Int)+1)=(i:Int)+1:=by simp[IntKind.wrap,IntKind.signed,IntKind.bits];omega
  by_cases hc:i<gl.length∧E=0
  ·obtain⟨hlt,hE0⟩:=hc
   subst hE0;have hinv:=hE2 rfl;obtain⟨b,off,en,rfl,hb4,hen,k0,k1',k2',k3',k4⟩:=HENTS.out.at hlt;have hbx:wx.heap.size≤b:=HGEB.out b rfl;have hdr:gl.drop i=en::gl.drop (i+1):=by
    exact q6f4561
   have henm:en∈gl:=List.mem_of_getElem? hen;have hagr:∀(o:Nat),wr.cell? ⟨b,off+i*5+o,none⟩=w4.cell? ⟨b,off+i*5+o,none⟩:=fun o=>(hm.ag.cell (b:=b) (o:=off+i*5+o) ⟨by omega,by omega,fun e=>by have:=HV2G.out _ e;omega⟩ (by omega)).trans (HB4.out.cell (b:=b) (o:=off+i*5+o) ⟨by omega,by omega⟩ hb4)
   have j0:=(hagr 0).trans k0;have j1:=(hagr 1).trans k1';have j2:=(hagr 2).trans k2';have j3:=(hagr 3).trans k3';have j4:=(hagr 4).trans k4;simp only[Nat.add_zero] at j0;obtain⟨key,vd,vf,vs,vp⟩:=en;dsimp only at j0 j1 j2 j3 j4;have hblt:b<wr.heap.size:=by omega
   obtain⟨wb,hwb⟩:∃x,x=wr.alloc (.cells #[.string (strOf key),.string ⟨#[]⟩,.slice none 0 0,.slice none 0 0] 145):=⟨_,rfl⟩
   have hbb:Below wr.heap.size wr wb:=by rw[hwb];exact Below.al (Below.refl _ _)
   have hbs:wb.heap.size=wr.heap.size+1:=by rw[hwb];simp
   have hxb:Boxes wb [(wr.heap.size,[.string (strOf key),.string ⟨#[]⟩,.slice none 0 0,.slice none 0 0])]:=by rw[hwb];exact(Boxes.nil wr).alloc #[.string (strOf key),.string ⟨#[]⟩,.slice none 0 0,.slice none 0 0] 145 rfl
   have l1:∀(o:Nat) (u:Value),wr.cell? ⟨b,o,none⟩=some u→wb.cell? ⟨b,o,none⟩=some u:=fun o u hu=>(hbb.cell (p:=⟨b,o,none⟩) hblt).trans hu
   have i1:=l1 _ _ j1;have i2:=l1 _ _ j2;have i3:=l1 _ _ j3;have i4:=l1 _ _ j4;have nbb:∀(o:Nat) (u:Value),wr.cell? ⟨w4.heap.size,o,none⟩=some u→wb.cell? ⟨w4.heap.size,o,none⟩=some u:=fun o u hu=>(hbb.cell (p:=⟨w4.heap.size,o,none⟩) (show w4.heap.size<wr.heap.size by omega)).trans hu
   have nc0:=nbb 0 _ nb0;have nc1:=nbb 1 _ nb1;have L0:=hm.ld.below hbb;have q1:decide ((i:Int)<(gl.length:Int))=true:=decide_eq_true (by omega);have q2:decide (i<gl.length)=true:=decide_eq_true hlt;have C:=rleaf_any L0 (by have:=hinv;exact hinv.choose_spec.2.2.1.len) ⟨vd,vf,vs,vp⟩;dsimp only at C;have HM:=Hd hm;have HLL:=Hd hLL;have HBB:=Hd hbb;have HBS:=Hd hbs;have HXB:=Hd hxb;have HDR:=Hd hdr;have HENM:=Hd henm;have HINV:=Hd hinv;have HWB:=Hd hwb;clear hagr hm hLL hbb hbs hxb hE1 hE2 hinv hdr henm L0 l1 nbr nbb hen k0 k1' k2' k3' k4 hwb;go_upto_region 16 with(fail)
   rw[←HWB.out];go_wp2_with fail;refine C.mono ?_;rintro e w5' ⟨S',pa,pn,pc,v',seen',E',rfl,hd',ho',ht',hres⟩;have hbs:=HBS.out;have hcbn:wr.heap.size∉RS sb vi:=fun hmm=>by
    rcases RS.mem.1 hmm with e|e
    ·omega
    ·have:=(HM.out.vne e).2.2;omega
   have hxcb:=HXB.out.only ho' (by intro q hq;simp at hq;subst hq;exact hcbn);have hs5:=ho'.size;obtain⟨w6,hw6⟩:∃x,(w5'.setCell ⟨wr.heap.size,1,none⟩ (.string S')).setCell ⟨wr.heap.size,2,none⟩ (.slice pa pn pc)=x:=⟨_,rfl⟩
   have k1:=hxcb.cell 0 1 rfl rfl;have k2:=hxcb.cell 0 2 rfl rfl;have t1:=hxcb.frozen 0 1 rfl;have t2:=hxcb.frozen 0 2 rfl;have hx6:Boxes w6 [(wr.heap.size,[.string (strOf key),.string S',.slice pa pn pc,.slice none 0 0])]:=by rw[←hw6];exact(hxcb.put 1 (.string S') (by intro q hq;simp at hq)).put 2 (.slice pa pn pc) (by intro q hq;simp at hq)
   have ho56:Only [wr.heap.size] w5' w6:=by rw[←hw6];exact((Only.refl _ _).set _ _ (by simp)).set _ _ (by simp)
   have hk6:∀k∈[wr.heap.size],k=wr.heap.size∨w5'.heap.size≤k:=fun k hk=>.inl (by simpa using hk)
   have hl6:w5'.heap.size≤w6.heap.size:=ho56.size;have hv'c:v'.ownBlock≠some wr.heap.size:=fun e=>by
    rcases ht' with t|t
    ·exact hcbn (RS.mem.2 (.inr (t ▸ e)))
    ·have:=t _ e;omega
   have hd6:RLd w6 sb a len cap d r v' seen' E':=hd'.only ho56 (fun k hk=>by
    rcases hk6 k hk with rfl|hk
    ·exact⟨by omega,hv'c⟩
    ·refine⟨by omega,fun e=>?_⟩
     have:=(hd'.ge e).2;omega)
   have ho6:Only (RS sb vi) wr w6:=((Only.of_below HBB.out).trans ho').then ho56 (fun k hk=>by
    rcases hk6 k hk with rfl|hk
    ·exact .inr (Nat.le_refl _)
    ·exact .inr (by omega))
   have ht6:Turn wr vi v':=ht'.from (by omega)
   have hm6:=HM.out.turn hd6 ho6 ht6;obtain⟨y,hy,hy1,hy2⟩:∃y:Rc,(E'=0→RcOn (RG wB.heap.size v' (.slice aL LL.length cL)) n w6 [.string (strOf key),.string S',.slice pa pn pc,.slice none 0 0] y)∧(E'≠0→RF=.error E')∧(E'=0→∃Li:List (List UInt8×Tv),Li.length=i+1∧ys++[y]=(Li.map fun c=>(⟨c.1,c.2,none⟩:Rc))∧SeenOk seen'∧afterL Li (valsL d r seen' (gl.drop (i+1)))=R0):=by
    obtain⟨Li,g1,g2,g3,g4⟩:=HINV.out;rw[HDR.out] at g4;cases hv:valL d r s ⟨vd,vf,vs,vp⟩ with
    | error x=>
     rw[hv] at hres;obtain⟨rfl,hx⟩:=hres;rw[valsL_err hv] at g4;exact⟨⟨[],⟨[],[]⟩,none⟩,fun h=>absurd h hx,fun _=>by rw[HRR.out,←g4];rfl,fun h=>absurd h hx⟩
    | ok z=>
     obtain⟨s2,tv⟩:=z;rw[hv] at hres;obtain⟨rfl,rfl,hton⟩:=hres;rw[valsL_ok hv,afterL_app] at g4;refine⟨⟨key,tv,none⟩,fun _=>?_,fun h=>absurd rfl h,fun _=>⟨Li++[(key,tv)],by simp[g1],by rw[List.map_append,g2];rfl,(valL_seen hv (leaf_page HNB9.out _ HENM.out).2 g3).1,g4⟩⟩;have hton6:=hton.agree (w':=w6) ⟨hl6,fun b hb hlt3=>ho56.block hlt3 (by have:=hb.1;simp;omega)⟩;obtain⟨xa,xn,xc,e1,e2,e3⟩:=hton6;cases e1;exact⟨pa,pn,pc,none,0,0,rfl,e2,e3.mono (fun b hb=>⟨by have:=hb.1;omega,hb.2,fun e=>by have:=(HM.out.lge e).2;have:=hb.1;omega⟩),⟨rfl,by simp,by unfold maxLen;omega,fun _=>rfl,.inl rfl⟩,Fa.zero _ _⟩
   have hll:=HLL.out;obtain⟨aN,cN,w7,LL',hrun,f8,f9,hl',hmP⟩:=hm6.push (by omega) (x0:=.string (strOf key)) (x1:=.string S') (x2:=.slice pa pn pc) (x3:=.slice none 0 0) (by intro u hu;simp at hu;rcases hu with rfl|rfl|rfl|rfl<;>rfl) hy;exact q14c47d
  ·obtain⟨wq,rfl⟩:∃x,x=wr:=⟨_,rfl⟩
   have hdq:=hm.ld;have hxq:=hm.box;have hoq:=hm.ol;have htq:=hm.tu;have hvq:vi.ownBlock≠some w.heap.size:=fun e=>(hm.vne e).2.1 rfl
   have b3:=hdq.box.cell 0 3 rfl rfl;have f3:=hdq.box.frozen 0 3 rfl;have n0:=hxq.cell 0 0 rfl rfl;have n1:=hxq.cell 0 1 rfl rfl;have n2:=hxq.cell 0 2 rfl rfl;have m0:=hxq.cell 1 0 rfl rfl;have m1:=hxq.cell 1 1 rfl rfl;have m2:=hxq.cell 1 2 rfl rfl;have u0:=hxq.frozen 1 0 rfl;have u1:=hxq.frozen 1 1 rfl;have u2:=hxq.frozen 1 2 rfl;have hxr:Boxes wq [(w.heap.size,[.int .i64 0,.bool false,.slice none 0 0])]:=hxq.sub (by intro q hq;simp at hq ⊢;exact .inr hq);obtain⟨we,hwe⟩:∃x,x=st3 wq w.heap.size (.int .i64 p) (.bool true) (.slice aL LL.length cL):=⟨_,rfl⟩
   have hxe:=st3_box hxr (.int .i64 p) (.bool true) (.slice aL LL.length cL);rw[←hwe] at hxe;have z0:=hxe.cell 0 0 rfl rfl;have z1:=hxe.cell 0 1 rfl rfl;have z2:=hxe.cell 0 2 rfl rfl;have HE:Hid (RLoadPost w sb a len cap d r v (n+1) RF (.returned (.agg #[.int .i64 p,.bool true,.slice aL LL.length cL])) we):=Hd (by
    obtain⟨g1,g2⟩:=rload_left hdq hoq hsb hvq (.int .i64 p) (.bool true) (.slice aL LL.length cL);rw[←hwe] at g1 g2;exact⟨p,true,aL,LL.length,cL,_,_,_,rfl,g1,g2,htq,by
     by_cases hE:E=0
     ·subst hE
      obtain⟨Li,g1,g2,g3,g4⟩:=hE2 rfl;have hin:i=gl.length:=by
       rcases Nat.lt_or_ge i gl.length with h|h
       ·exact absurd ⟨h,rfl⟩ hc
       ·omega
      have hdr:gl.drop i=[]:=List.drop_of_length_le (by omega);rw[hdr] at g4;rw[HRR.out,←g4];subst g2;have hag:AgreeF (RG wB.heap.size vi (.slice none 0 0)) wq we:=by
       exact q961df2
      have hN:=RM.node (t:=.leaf p Li) (G:=fun b=>w.heap.size≤b∧vi.ownBlock≠some b) hm hag (fun b hb=>⟨by have:=hb.1;omega,hb.2.1⟩);refine⟨rfl,rfl,?_⟩;simpa[afterL,Tr.page,Tr.isLeaf] using hN
     ·rw[hE1 hE]
      exact⟨rfl,hE⟩⟩)
   by_cases hlt:i<gl.length
   ·have q1:decide ((i:Int)<(gl.length:Int))=true:=decide_eq_true (by omega)
    have q2:decide (i<gl.length)=true:=decide_eq_true hlt;have q3:(E == 0)=false:=by simp;exact fun h=>hc ⟨hlt,h⟩
    exact qd2ed57
   ·have q1:decide ((i:Int)<(gl.length:Int))=false:=decide_eq_false (by omega)
    have q2:decide (i<gl.length)=false:=decide_eq_false hlt;exact qd2ed57):p:=h
theorem qaea418 (h:p:=by
 clear zm;have hpe0:=HPE.out;rw[hP] at hpe0;subst hpe0;have G:=rnget_any rb wx (by omega);obtain⟨ge,hge⟩:∃x,getNE rb=x:=⟨_,rfl⟩
 obtain⟨gf,hgf⟩:∃x,getNF rb=x:=⟨_,rfl⟩
 obtain⟨gl,hgl⟩:∃x,getNL rb=x:=⟨_,rfl⟩
 have hgf0:=hgf;rw[←HRB.out,hF] at hgf0;subst hgf0;rw[hge,hgf,hgl] at G;have HGE:=Hd hge;have HGL:=Hd hgl;clear hge hgf hgl;go_wp2_with fail;refine G.mono ?_;rintro e w4 ⟨vn,rfl,hon,hbn⟩;obtain⟨an,cn,rfl,hcn,hcm,_⟩:=own_slice hon;unfold maxLen at hcm;have hsx4:=hbn.size;obtain⟨w5,hw5⟩:∃x,w4.alloc (.cells #[.bool false,.slice an gl.length cn] 221)=x:=⟨_,rfl⟩
 have hb45:Below w4.heap.size w4 w5:=by rw[←hw5];exact Below.al (Below.refl _ _)
 have hs45:w5.heap.size=w4.heap.size+1:=by rw[←hw5];simp
 have hxn:Boxes w5 [(w4.heap.size,[.bool false,.slice an gl.length cn])]:=by rw[←hw5];exact(Boxes.nil w4).alloc #[.bool false,.slice an gl.length cn] 221 rfl
 have hb25:Below w2.heap.size w2 w5:=HBX.out.trans ((hbn.trans (hb45.mono hsx4)).mono hsx);have hd5:=HD2.out.below hb25;have hx5:=HX2.out.step hb25;have hs25:=hb25.size;have a3:=hd5.box.cell 0 3 rfl rfl;have e3:=hd5.box.frozen 0 3 rfl;obtain⟨wC,hwC⟩:∃x,w5.setCell ⟨sb,3,none⟩ (.int .i64 ge)=x:=⟨_,rfl⟩
 have hoC:Only [sb] w5 wC:=by rw[←hwC];exact(Only.refl _ _).set _ _ (by simp)
 have hdC:RLd wC sb a len cap d r v2 (seen++[p]) ge:=by rw[←hwC];exact hd5.err ge
 have hxC:=hx5.only hoC (by intro q hq;simp at hq;rcases hq with rfl|rfl<;>simp<;>omega);have hxnC:=hxn.only hoC (by intro q hq;simp at hq;subst hq;simp;omega);have nC:=hxnC.cell 0 0 rfl rfl;have oC:=hxC.cell 0 1 rfl rfl;have pC:=hxC.frozen 0 1 rfl;obtain⟨wB,hwB⟩:∃x,wC.setCell ⟨w.heap.size+1,1,none⟩ (.bool false)=x:=⟨_,rfl⟩
 have hoB:Only [w.heap.size+1] wC wB:=by rw[←hwB];exact(Only.refl _ _).set _ _ (by simp)
 have hszC:wC.heap.size=w5.heap.size:=by rw[←hwC];simp
 have hszB:wB.heap.size=w4.heap.size+1:=by rw[←hwB];simp[hszC];omega
 have hv2n:∀b,w.heap.size≤b→b<w1.heap.size→v2.ownBlock≠some b:=HV2.out;have hv2g:∀g,v2.ownBlock=some g→g<w2.heap.size:=fun g hg=>(HD2.out.ge hg).2
 have hs1:=HS1.out;have hRM:RM w wB sb a len cap d r v v2 (w.heap.size+1) w.heap.size n p false v2 (seen++[p]) ge (.slice none 0 0) [] [] wB:=
  ⟨by rw[←hwB];exact hxC.put 1 _ (by intro q hq;simp at hq;subst hq;simp),hdC.only hoB (fun k hk=>by simp at hk;subst hk;exact⟨by omega,hv2n _ (by omega) (by omega)⟩),own_nil wB _ 4 _,fun g hg=>by(cases hg),fun _=>Tells.nil,
   ((HO2.out.trans (Only.of_below hb25)).trans (hoC.mono (fun k hk=>by simp at hk;exact RS.mem.2 (.inl hk)))).then hoB (fun k hk=>by simp at hk;subst hk;exact .inr (by omega)),HT2.out,Turn.refl _ _,AgreeF.refl _,fun g hg=>⟨fun e=>hv2n g (by omega) (by omega) hg,fun e=>hv2n g (by omega) (by omega) hg,by have:=hv2g g hg;omega⟩,hsb,Nat.le_refl _,by omega,by omega⟩
 have hxnB:=hxnC.only hoB (by intro q hq;simp at hq;subst hq;simp;omega);have HNB0:=Hd (hxnB.cell 0 0 rfl rfl);have HNB1:=Hd (hxnB.cell 0 1 rfl rfl);obtain⟨a',c',e',hents⟩:=OwnRe.ents hon;cases e';have HENTS:=Hd hents;have HGEB:=Hd (own_ge hon);have HB4:Hid (AgreeF (fun b=>b≠sb∧b≠w.heap.size+1) w4 wB):=Hd ((AgreeF.of_below hb45).trans ⟨by omega,fun b hb hlt=>(hoB.block (by omega) (by simp;exact hb.2)).trans (hoC.block hlt (by simp;exact hb.1))⟩);have HV2G:=Hd hv2g;have HRM:=Hd hRM;have HSZB:=Hd hszB;have hgl9:gl.length≤122:=by
  exact qb2093d
 have HI1:=Hd (show ge≠0→RF=.error ge from fun h=>by rw[←HRF.out];unfold loadT;rw[if_neg hm,if_neg (by omega),if_pos (by rw[HRB.out,HGE.out];exact h),HRB.out,HGE.out]);have HI2:=Hd (show ge=0→∃Li:List (List UInt8×Tr),Li.length=0∧([]:List Rc)=(Li.map fun c=>(⟨c.1,⟨[],[]⟩,some c.2⟩:Rc))∧SeenOk (seen++[p])∧roomL (seen++[p])<n∧RF=nodeR p R0∧afterL Li (kidsL (loadT d r n) (seen++[p]) (gl.drop (0)))=R0 from fun hge0=>⟨[],rfl,rfl,HSK.out.snoc hm (paged_range hd HPE.out).1 (paged_range hd HPE.out).2,by
  have hrng:=paged_range hd HPE.out;have:=roomL_see hm (by omega) hrng.2;omega,by rw[←HRF.out];unfold loadT;rw[if_neg hm,if_neg (by omega),if_neg (by rw[HRB.out,HGE.out];omega),if_neg (by rw[hF];simp),hR0];cases R0<;>rfl,by rw[List.drop_zero,afterL_nil,←HGL.out,←HRB.out];exact hR0⟩)
 have HPG:=Hd (show ∀e∈gl,2≤e.v.page∧e.v.page≤999 from by
  rw[←HGL.out]
  by_cases h0:getNE rb=0
  ·have h1:=getN_node h0
   have h2:=(nodeB_small h1).2.2 (by rw[←HRB.out];exact hF);exact h2
  ·unfold getNL;rw[if_neg h0];simp)
 clear hon hbn hb45 hs45 hxn hb25 hd5 hx5 hs25 hoC hdC hxC hxnC hoB hszC hszB hv2n hv2g hRM hxnB hents G;go_wp2_with fail;have hzc:=zero_refC;clear a3 e3 nC oC pC hwC hwB hw5
 go_loopw [9,10] (fun s9 _ wr=>∃(i:Nat) (vi:Value) (s:List Int) (E:Int) (vL:Value) (LL:List (Cl 4)) (ys:List Rc),i≤gl.length∧s9=.int .i64 i∧LL.length=i∧RM w wB sb a len cap d r v v2 (w.heap.size+1) w.heap.size n p false vi s E vL LL ys wr∧(E≠0→RF=.error E)∧(E=0→∃Li:List (List UInt8×Tr),Li.length=i∧ys=(Li.map fun c=>(⟨c.1,⟨[],[]⟩,some c.2⟩:Rc))∧SeenOk s∧roomL s<n∧RF=nodeR p R0∧afterL Li (kidsL (loadT d r n) s (gl.drop (i)))=R0)) (fun s _ _=>gl.length-(intOf s).toNat)
 case atStart=>exact⟨0,v2,_,ge,_,[],[],Nat.zero_le _,rfl,rfl,HRM.out,HI1.out,HI2.out⟩
 case round=>
  clear HRM HI1 HI2;obtain⟨i,vi,s,E,vL,LL,ys,hi,rfl,hLL,hm,hE1,hE2⟩:=hrel;obtain⟨aL,cL,rfl,_⟩:=own_slice hm.row;have hlt2:=hm.lt;have q5:=HSZB.out;have hs1:=HS1.out;have nbr:∀(o:Nat) (u:Value),wB.cell? ⟨w4.heap.size,o,none⟩=some u→wr.cell? ⟨w4.heap.size,o,none⟩=some u:=fun o u hu=>(hm.ag.cell (b:=w4.heap.size) (o:=o) ⟨by omega,by omega,fun e=>by have:=HV2G.out _ e;omega⟩ (by omega)).trans hu
  have nb0:=nbr 0 _ HNB0.out;have nb1:=nbr 1 _ HNB1.out;have b3:=hm.ld.box.cell 0 3 rfl rfl;have iw2:IntKind.i64.wrap ((i:Int)+1)=(i:Int)+1:=by simp[IntKind.wrap,IntKind.signed,IntKind.bits];omega
  by_cases hc:i<gl.length∧E=0
  ·obtain⟨hlt,hE0⟩:=hc
   subst hE0;have hinv:=hE2 rfl;obtain⟨b,off,en,rfl,hb4,hen,k0,k1',k2',k3',k4⟩:=HENTS.out.at hlt;have hbx:wx.heap.size≤b:=HGEB.out b rfl;have hdr:gl.drop i=en::gl.drop (i+1):=by
    exact q6f4561
   have henm:en∈gl:=List.mem_of_getElem? hen;have hagr:∀(o:Nat),wr.cell? ⟨b,off+i*5+o,none⟩=w4.cell? ⟨b,off+i*5+o,none⟩:=fun o=>(hm.ag.cell (b:=b) (o:=off+i*5+o) ⟨by omega,by omega,fun e=>by have:=HV2G.out _ e;omega⟩ (by omega)).trans (HB4.out.cell (b:=b) (o:=off+i*5+o) ⟨by omega,by omega⟩ hb4)
   have j0:=(hagr 0).trans k0;have j1:=(hagr 1).trans k1';have j2:=(hagr 2).trans k2';have j3:=(hagr 3).trans k3';have j4:=(hagr 4).trans k4;simp only[Nat.add_zero] at j0;obtain⟨key,vd,vf,vs,vp⟩:=en;dsimp only at j0 j1 j2 j3 j4;have hblt:b<wr.heap.size:=by omega
   obtain⟨wb,hwb⟩:∃x,x=wr.alloc (.cells #[.string (strOf key),.string ⟨#[]⟩,.slice none 0 0,.slice none 0 0] 145):=⟨_,rfl⟩
   have hbb:Below wr.heap.size wr wb:=by rw[hwb];exact Below.al (Below.refl _ _)
   have hbs:wb.heap.size=wr.heap.size+1:=by rw[hwb];simp
   have hxb:Boxes wb [(wr.heap.size,[.string (strOf key),.string ⟨#[]⟩,.slice none 0 0,.slice none 0 0])]:=by rw[hwb];exact(Boxes.nil wr).alloc #[.string (strOf key),.string ⟨#[]⟩,.slice none 0 0,.slice none 0 0] 145 rfl
   have l1:∀(o:Nat) (u:Value),wr.cell? ⟨b,o,none⟩=some u→wb.cell? ⟨b,o,none⟩=some u:=fun o u hu=>(hbb.cell (p:=⟨b,o,none⟩) hblt).trans hu
   have i1:=l1 _ _ j1;have i2:=l1 _ _ j2;have i3:=l1 _ _ j3;have i4:=l1 _ _ j4;have nbb:∀(o:Nat) (u:Value),wr.cell? ⟨w4.heap.size,o,none⟩=some u→wb.cell? ⟨w4.heap.size,o,none⟩=some u:=fun o u hu=>(hbb.cell (p:=⟨w4.heap.size,o,none⟩) (show w4.heap.size<wr.heap.size by omega)).trans hu
   have nc0:=nbb 0 _ nb0;have nc1:=nbb 1 _ nb1;have L0:=hm.ld.below hbb;have q1:decide ((i:Int)<(gl.length:Int))=true:=decide_eq_true (by omega);have q2:decide (i<gl.length)=true:=decide_eq_true hlt;have C:=IH L0 (by obtain⟨Li,_,_,g3,_⟩:=hinv;exact g3) (by obtain⟨Li,_,_,_,g4,_⟩:=hinv;exact g4) (show vp≠0 by have:=(HPG.out _ henm).1;dsimp only at this;omega);have HM:=Hd hm;have HLL:=Hd hLL;have HBB:=Hd hbb;have HBS:=Hd hbs;have HXB:=Hd hxb;have HDR:=Hd hdr;have HENM:=Hd henm;have HINV:=Hd hinv;have HWB:=Hd hwb;clear hagr hm hLL hbb hbs hxb hE1 hE2 hinv hdr henm L0 l1 nbr nbb hen k0 k1' k2' k3' k4 hwb;go_upto_region 16 with(fail)
   rw[←HWB.out];go_wp2_with fail;refine C.mono ?_;rintro e w5' ⟨kp,klf,xa,xn,xc,v',seen',E',rfl,hd',ho',ht',hres⟩;have hbs:=HBS.out;have hcbn:wr.heap.size∉RS sb vi:=fun hmm=>by
    rcases RS.mem.1 hmm with e|e
    ·omega
    ·have:=(HM.out.vne e).2.2;omega
   have hxcb:=HXB.out.only ho' (by intro q hq;simp at hq;subst hq;exact hcbn);have hs5:=ho'.size;obtain⟨w5b,hw5b⟩:∃x,w5'.alloc (.cells #[.int .i64 kp,.bool klf,.slice xa xn xc] 27)=x:=⟨_,rfl⟩
   have hbk:Below w5'.heap.size w5' w5b:=by rw[←hw5b];exact Below.al (Below.refl _ _)
   have hxk:Boxes w5b [(w5'.heap.size,[.int .i64 kp,.bool klf,.slice xa xn xc])]:=by rw[←hw5b];exact(Boxes.nil w5').alloc #[.int .i64 kp,.bool klf,.slice xa xn xc] 27 rfl
   have hxcb2:=hxcb.step hbk;obtain⟨w6,hw6⟩:∃x,w5b.setCell ⟨wr.heap.size,3,none⟩ (.slice (some ⟨w5'.heap.size,0,none⟩) 1 1)=x:=⟨_,rfl⟩
   have k3:=hxcb2.cell 0 3 rfl rfl;have t3:=hxcb2.frozen 0 3 rfl;have hx6:Boxes w6 [(wr.heap.size,[.string (strOf key),.string ⟨#[]⟩,.slice none 0 0,.slice (some ⟨w5'.heap.size,0,none⟩) 1 1])]:=by rw[←hw6];exact hxcb2.put 3 _ (by intro q hq;simp at hq)
   have hob6:Only [wr.heap.size] w5b w6:=by rw[←hw6];exact(Only.refl _ _).set _ _ (by simp)
   have ho56:Only [wr.heap.size] w5' w6:=(Only.of_below hbk).trans hob6;have hxk6:=hxk.only hob6 (by intro q hq;simp at hq;subst hq;simp;omega);have hk6:∀k∈[wr.heap.size],k=wr.heap.size∨w5'.heap.size≤k:=fun k hk=>.inl (by simpa using hk)
   have hl6:w5'.heap.size≤w6.heap.size:=ho56.size;have hv'c:v'.ownBlock≠some wr.heap.size:=fun e=>by
    rcases ht' with t|t
    ·exact hcbn (RS.mem.2 (.inr (t ▸ e)))
    ·have:=t _ e;omega
   have hd6:RLd w6 sb a len cap d r v' seen' E':=hd'.only ho56 (fun k hk=>by
    rcases hk6 k hk with rfl|hk
    ·exact⟨by omega,hv'c⟩
    ·refine⟨by omega,fun e=>?_⟩
     have:=(hd'.ge e).2;omega)
   have ho6:Only (RS sb vi) wr w6:=((Only.of_below HBB.out).trans ho').then ho56 (fun k hk=>by
    rcases hk6 k hk with rfl|hk
    ·exact .inr (Nat.le_refl _)
    ·exact .inr (by omega))
   have ht6:Turn wr vi v':=ht'.from (by omega)
   have hm6:=HM.out.turn hd6 ho6 ht6;obtain⟨y,hy,hy1,hy2⟩:∃y:Rc,(E'=0→RcOn (RG wB.heap.size v' (.slice aL LL.length cL)) n w6 [.string (strOf key),.string ⟨#[]⟩,.slice none 0 0,.slice (some ⟨w5'.heap.size,0,none⟩) 1 1] y)∧(E'≠0→RF=.error E')∧(E'=0→∃Li:List (List UInt8×Tr),Li.length=i+1∧ys++[y]=(Li.map fun c=>(⟨c.1,⟨[],[]⟩,some c.2⟩:Rc))∧SeenOk seen'∧roomL seen'<n∧RF=nodeR p R0∧afterL Li (kidsL (loadT d r n) seen' (gl.drop (i+1)))=R0):=by
    obtain⟨Li,g1,g2,g3,g3r,g3R,g4⟩:=HINV.out;rw[HDR.out] at g4;cases hv:loadT d r n s vp with
    | error x=>
     rw[hv] at hres;obtain⟨rfl,hx⟩:=hres;rw[kidsL_err hv] at g4;exact⟨⟨[],⟨[],[]⟩,none⟩,fun h=>absurd h hx,fun _=>by rw[g3R,←g4];rfl,fun h=>absurd h hx⟩
    | ok z=>
     obtain⟨s2,kid⟩:=z;rw[hv] at hres;obtain⟨rfl,rfl,hkid⟩:=hres;rw[kidsL_ok hv,afterL_app] at g4;obtain⟨q1,q2,q3⟩:=loadT_seen hd (show vp≠0 by have:=(HPG.out _ HENM.out).1;dsimp only at this;omega) g3 hv;refine⟨⟨key,⟨[],[]⟩,some kid⟩,fun _=>?_,fun h=>absurd rfl h,fun _=>⟨Li++[(key,kid)],by simp[g1],by rw[List.map_append,g2];rfl,q1,by have:=roomL_mono (seen:=s) (l:=q2);rw[q3];omega,g3R,g4⟩⟩;have hk2:RNodeOn (RG wB.heap.size v' (.slice aL LL.length cL)) n w6 [.int .i64 kp,.bool klf,.slice xa xn xc] kid:=RNodeOn.mono (fun b hb=>⟨by have:=hb.1;omega,hb.2,fun e=>by have:=(HM.out.lge e).2;have:=hb.1;omega⟩) (hkid.agree ⟨hl6,fun b hb hlt3=>ho56.block hlt3 (by have:=hb.1;simp;omega)⟩);refine⟨none,0,0,some ⟨w5'.heap.size,0,none⟩,1,1,rfl,⟨rfl,by simp,by unfold maxLen;omega,fun _=>rfl,.inl rfl⟩,Fa.zero _ _,⟨rfl,Nat.le_refl _,by unfold maxLen;omega,fun h=>(by cases h),.inr ⟨w5'.heap.size,0,rfl,hxk6.lt 0 rfl,fun j y hj=>?_⟩⟩,.inr fun b off e=>?_⟩
     ·cases j with
      | succ j=>simp at hj
      | zero=>
       simp at hj;subst hj;refine⟨[.int .i64 kp,.bool klf,.slice xa xn xc],rfl,hk2,fun m u hu=>?_⟩;exact qc9233d
     ·cases e
      exact⟨by omega,fun e=>by have:=(hd'.ge e).2;omega,fun e=>by have:=(HM.out.lge e).2;omega⟩
   have hll:=HLL.out;obtain⟨aN,cN,w7,LL',hrun,f8,f9,hl',hmP⟩:=hm6.push (by omega) (x0:=.string (strOf key)) (x1:=.string ⟨#[]⟩) (x2:=.slice none 0 0) (x3:=.slice (some ⟨w5'.heap.size,0,none⟩) 1 1) (by intro u hu;simp at hu;rcases hu with rfl|rfl|rfl|rfl<;>rfl) hy;exact q14c47d
  ·obtain⟨wq,rfl⟩:∃x,x=wr:=⟨_,rfl⟩
   have hdq:=hm.ld;have hxq:=hm.box;have hoq:=hm.ol;have htq:=hm.tu;have hvq:vi.ownBlock≠some w.heap.size:=fun e=>(hm.vne e).2.1 rfl
   have b3:=hdq.box.cell 0 3 rfl rfl;have f3:=hdq.box.frozen 0 3 rfl;have n0:=hxq.cell 0 0 rfl rfl;have n1:=hxq.cell 0 1 rfl rfl;have n2:=hxq.cell 0 2 rfl rfl;have m0:=hxq.cell 1 0 rfl rfl;have m1:=hxq.cell 1 1 rfl rfl;have m2:=hxq.cell 1 2 rfl rfl;have u0:=hxq.frozen 1 0 rfl;have u1:=hxq.frozen 1 1 rfl;have u2:=hxq.frozen 1 2 rfl;have hxr:Boxes wq [(w.heap.size,[.int .i64 0,.bool false,.slice none 0 0])]:=hxq.sub (by intro q hq;simp at hq ⊢;exact .inr hq);obtain⟨we,hwe⟩:∃x,x=st3 wq w.heap.size (.int .i64 p) (.bool false) (.slice aL LL.length cL):=⟨_,rfl⟩
   have hxe:=st3_box hxr (.int .i64 p) (.bool false) (.slice aL LL.length cL);rw[←hwe] at hxe;have z0:=hxe.cell 0 0 rfl rfl;have z1:=hxe.cell 0 1 rfl rfl;have z2:=hxe.cell 0 2 rfl rfl;have HE:Hid (RLoadPost w sb a len cap d r v (n+1) RF (.returned (.agg #[.int .i64 p,.bool false,.slice aL LL.length cL])) we):=Hd (by
    obtain⟨g1,g2⟩:=rload_left hdq hoq hsb hvq (.int .i64 p) (.bool false) (.slice aL LL.length cL);rw[←hwe] at g1 g2;exact⟨p,false,aL,LL.length,cL,_,_,_,rfl,g1,g2,htq,by
     by_cases hE:E=0
     ·subst hE
      obtain⟨Li,g1,g2,g3,g3r,g3R,g4⟩:=hE2 rfl;have hin:i=gl.length:=by
       rcases Nat.lt_or_ge i gl.length with h|h
       ·exact absurd ⟨h,rfl⟩ hc
       ·omega
      have hdr:gl.drop i=[]:=List.drop_of_length_le (by omega);rw[hdr] at g4;rw[g3R,←g4];subst g2;have hag:AgreeF (RG wB.heap.size vi (.slice none 0 0)) wq we:=by
       exact q961df2
      have hN:=RM.node (t:=.node p Li) (G:=fun b=>w.heap.size≤b∧vi.ownBlock≠some b) hm hag (fun b hb=>⟨by have:=hb.1;omega,hb.2.1⟩);refine⟨rfl,rfl,?_⟩;simpa[afterL,Tr.page,Tr.isLeaf] using hN
     ·rw[hE1 hE]
      exact⟨rfl,hE⟩⟩)
   by_cases hlt:i<gl.length
   ·have q1:decide ((i:Int)<(gl.length:Int))=true:=decide_eq_true (by omega)
    have q2:decide (i<gl.length)=true:=decide_eq_true hlt;have q3:(E == 0)=false:=by simp;exact fun h=>hc ⟨hlt,h⟩
    exact q5881c0
   ·have q1:decide ((i:Int)<(gl.length:Int))=false:=decide_eq_false (by omega)
    have q2:decide (i<gl.length)=false:=decide_eq_false hlt;exact q5881c0):p:=h
theorem qe2d857 (h:p:=by
 obtain⟨RF,hRF⟩:∃RF,loadT d r (n+1) seen p=RF:=⟨_,rfl⟩
 obtain⟨w1,hw1⟩:∃x,x=(w.alloc (.cells #[.int .i64 0,.bool false,.slice none 0 0] 27)).alloc (.cells #[.int .i64 p,.bool false,.slice none 0 0] 27):=⟨_,rfl⟩
 have hb1:Below w.heap.size w w1:=by rw[hw1];exact Below.al (Below.al (Below.refl _ _))
 have hx1:Boxes w1 [(w.heap.size+1,[.int .i64 p,.bool false,.slice none 0 0]),(w.heap.size,[.int .i64 0,.bool false,.slice none 0 0])]:=by
  exact qe40f05
 have hs1:w1.heap.size=w.heap.size+2:=by rw[hw1];simp
 have hvb:∀k,v.ownBlock=some k→k<w.heap.size:=fun k hk=>(h.ge hk).2
 have hsb:=h.lt;have S1:=rsee_any (h.below hb1) (by have:=hs.len;omega) p;have hz:=zero_refN;have HW1:=Hd hw1;have HB1:=Hd hb1;have HX1:=Hd hx1;have HS1:=Hd hs1;have HVB:=Hd hvb;have HSK:=Hd hs;rw[hRF];have HRF:=Hd hRF;clear hw1 hb1 hx1 hs1 hvb hs hRF h;go_enter Tryz.func54,Tryz.ntmps54;go_wp2_with fail;rw[←HW1.out];refine S1.mono ?_;rintro e w2 ⟨rfl,v2,hd2,ho2,ht2⟩;have hs1:=HS1.out;have hs12b:=ho2.size;have hnb:∀b,w.heap.size≤b→b<w1.heap.size→b∉RS sb v:=fun b h0 _ hm=>by
  exact q79e41f
 have hx2:=HX1.out.only ho2 (by intro q hq;simp at hq;rcases hq with rfl|rfl;exact hnb _ (by simp) (by simp;omega);exact hnb _ (by simp) (by simp;omega));have hO2:Only (RS sb v) w w2:=(Only.of_below HB1.out).trans ho2;have hT2:Turn w v v2:=ht2.from HB1.out.size
 have hv2:∀b,w.heap.size≤b→b<w1.heap.size→v2.ownBlock≠some b:=fun b h0 h1=>turn_ne ht2 HVB.out h0 h1
 rw[if_neg (fun h=>hm h.2)] at hd2;have c0:=hd2.box.cell 0 0 rfl rfl;have c1:=hd2.box.cell 0 1 rfl rfl;have c3:=hd2.box.cell 0 3 rfl rfl;have hlt2:=hd2.lt;have cA:∀W,Below w2.heap.size w2 W→W.cell? ⟨sb,0,none⟩=some (.slice a len cap):=fun W hW=>(hW.cell (p:=⟨sb,0,none⟩) hlt2).trans c0
 have cB:∀W,Below w2.heap.size w2 W→W.cell? ⟨sb,1,none⟩=some (.int .i64 r):=fun W hW=>(hW.cell (p:=⟨sb,1,none⟩) hlt2).trans c1
 have hb0:Below w2.heap.size w2 w2.drew:=below_drewN (Below.refl _ _) 1;have C:=rread_any (hd2.below hb0).regs hd2.l9 r p;obtain⟨pe,hpe⟩:∃x,pagedE d r p=x:=⟨_,rfl⟩
 have hrl:=readB_len d r p;obtain⟨rb,hrb⟩:∃x,readB d r p=x:=⟨_,rfl⟩
 rw[hpe,hrb] at C;rw[hrb] at hrl;have HPE:=Hd hpe;have HRB:=Hd hrb;have HD2:=Hd hd2;have HO2:=Hd hO2;have HT2:=Hd hT2;have HX2:=Hd hx2;have HV2:=Hd hv2;have HNB:=Hd hnb;clear hpe hrb hd2 hO2 hT2 hx2 hv2 hnb c0 c1 ho2 ht2 hs1;go_wp2_with fail
 go_region_held3 (fun W=>Below w2.heap.size w2 W) (with_reducible assumption) (first|(go_at_call 100;refine C.mono ?_;rintro e wx ⟨rfl,hbx⟩;have hBx:Below w2.heap.size w2 wx:=below_then hb0 hbx))
 have HBX:=Hd hBx;have hsx:=hBx.size;have hs12:=HB1.out.size;have hs2:=HO2.out.size;clear C cA cB hbx hBx hb0 c3
 first|exact Mk.go 45596 zm q3dbb1c|exact Mk.go 991274 zm q79efea|exact Mk.go 445272 zm qaea418):p:=h
theorem qd5f735 (h:p:=by
 clear zm;refine tkb A27 28 (bif A27 then undef else .bool F) ?_;refine tka 29 (bif A27 then undef else .bool NF) ?_ (hy:=by as_aux_lemma=>(cases A27 with|true=>exact Or.inr ⟨by rfl,rfl⟩|false=>exact Or.inl ⟨by rfl,by(intro W hW;(try dsimp only at hW);(try simp only[cond_true,cond_false]);obtain rfl:=HNF.out;cases F;all_goals go_simp<;>(with_reducible rfl))⟩));refine tkb A27 30 (bif A27 then undef else .bool NF) ?_;refine tkc A27 NF 31 (bif A27 then undef else (bif NF then .pointer (some ⟨wr.heap.size,0,none⟩) else undef)) ?_;refine tkc A27 NF 32 (bif A27 then undef else (bif NF then .string (strOf k) else undef)) ?_;refine tkc A27 NF 33 (bif A27 then undef else (bif NF then .string (strOf lo) else undef)) ?_;refine tka 34 (bif A27 then undef else (bif NF then .bool X4 else undef)) ?_ (hy:=by as_aux_lemma=>(cases A27 with|true=>exact Or.inr ⟨by rfl,rfl⟩|false=>(cases NF with|true=>exact Or.inl ⟨by rfl,by(intro W hW;(try dsimp only at hW);(try simp only[cond_true,cond_false]);rcases HX4.out with⟨rfl,p1⟩|⟨rfl,p1⟩;all_goals go_simp<;>(with_reducible rfl))⟩|false=>exact Or.inr ⟨by rfl,rfl⟩)));refine tka 35 (bif A27 then undef else .bool Y4) ?_ (hy:=by as_aux_lemma=>(cases A27 with|true=>exact Or.inr ⟨by rfl,rfl⟩|false=>exact Or.inl ⟨by rfl,by(intro W hW;(try dsimp only at hW);(try simp only[cond_true,cond_false]);obtain rfl:=HY4.out;cases NF;all_goals go_simp<;>(with_reducible rfl))⟩));refine tka 36 (.bool A37) ?_ (hy:=by as_aux_lemma=>exact Or.inl ⟨by rfl,by(intro W hW;(try dsimp only at hW);(try simp only[cond_true,cond_false]);obtain rfl:=HA37.out;cases A27;all_goals go_simp<;>(with_reducible rfl))⟩);refine tka 37 (.bool A37) ?_;refine tkb A37 38 (bif A37 then undef else .string (strOf hi)) ?_;refine tka 39 (bif A37 then undef else .bool Hn) ?_ (hy:=by as_aux_lemma=>(cases A37 with|true=>exact Or.inr ⟨by rfl,rfl⟩|false=>exact Or.inl ⟨by rfl,by(intro W hW;(try dsimp only at hW);(try simp only[cond_true,cond_false]);rcases HHn.out with⟨rfl,e1,e2⟩|⟨rfl,e1,e2⟩;all_goals go_simp<;>(with_reducible rfl))⟩));refine tkb A37 40 (bif A37 then undef else .bool Hn) ?_;refine tkc A37 Hn 41 (bif A37 then undef else (bif Hn then .pointer (some ⟨wr.heap.size,0,none⟩) else undef)) ?_;refine tkc A37 Hn 42 (bif A37 then undef else (bif Hn then .string (strOf k) else undef)) ?_;refine tkc A37 Hn 43 (bif A37 then undef else (bif Hn then .string (strOf hi) else undef)) ?_;refine tka 44 (bif A37 then undef else (bif Hn then .bool X5 else undef)) ?_ (hy:=by as_aux_lemma=>(cases A37 with|true=>exact Or.inr ⟨by rfl,rfl⟩|false=>(cases Hn with|true=>exact Or.inl ⟨by rfl,by(intro W hW;(try dsimp only at hW);(try simp only[cond_true,cond_false]);rcases HX5.out with⟨rfl,rfl,p1,p2⟩|⟨rfl,p1,p2,p3,p4⟩|⟨rfl,p1,p2,p3,p4⟩;all_goals go_simp<;>(with_reducible rfl))⟩|false=>exact Or.inr ⟨by rfl,rfl⟩)));refine tka 45 (bif A37 then undef else .bool Y5) ?_ (hy:=by as_aux_lemma=>(cases A37 with|true=>exact Or.inr ⟨by rfl,rfl⟩|false=>exact Or.inl ⟨by rfl,by(intro W hW;(try dsimp only at hW);(try simp only[cond_true,cond_false]);obtain rfl:=HY5.out;cases Hn;all_goals go_simp<;>(with_reducible rfl))⟩));refine tka 46 (.bool A47) ?_ (hy:=by as_aux_lemma=>exact Or.inl ⟨by rfl,by(intro W hW;(try dsimp only at hW);(try simp only[cond_true,cond_false]);obtain rfl:=HA47.out;cases A37;all_goals go_simp<;>(with_reducible rfl))⟩);refine tka 47 (.bool A47) ?_;refine tkb A47 48 (bif A47 then undef else .pointer (some ⟨wr.heap.size,1,none⟩)) ?_;refine tkb A47 49 (bif A47 then undef else .pointer (some ⟨wr.heap.size,1,none⟩)) ?_;refine tkb A47 50 (bif A47 then undef else .string (strOf [])) ?_;refine tkb A47 51 (bif A47 then undef else .int .i64 0) ?_;refine tka 52 (bif A47 then undef else .bool X6) ?_ (hy:=by as_aux_lemma=>(cases A47 with|true=>exact Or.inr ⟨by rfl,rfl⟩|false=>exact Or.inl ⟨by rfl,by(intro W hW;(try dsimp only at hW);(try simp only[cond_true,cond_false]);obtain rfl:=HX6.out;go_simp<;>(with_reducible rfl))⟩));refine tka 53 (.bool A54) ?_ (hy:=by as_aux_lemma=>exact Or.inl ⟨by rfl,by(intro W hW;(try dsimp only at hW);(try simp only[cond_true,cond_false]);obtain rfl:=HA54.out;cases A47;all_goals go_simp<;>(with_reducible rfl))⟩);refine tka 54 (.bool A54) ?_;refine tkb A54 55 (bif A54 then undef else .pointer (some ⟨wr.heap.size,1,none⟩)) ?_;refine tkb A54 56 (bif A54 then undef else .pointer (some ⟨wr.heap.size,2,none⟩)) ?_;refine tkb A54 57 (bif A54 then undef else .slice pa 0 pc) ?_;refine tkb A54 58 (bif A54 then undef else .int .i64 (0:Int)) ?_;refine tkb A54 59 (bif A54 then undef else .bool false) ?_;refine tkb A54 60 (bif A54 then undef else .bool false) ?_;refine tka 61 undef ?_ (hy:=by as_aux_lemma=>(cases A54 with|true=>exact Or.inr ⟨by rfl,rfl⟩|false=>exact Or.inr ⟨by rfl,rfl⟩));refine tka 62 undef ?_ (hy:=by as_aux_lemma=>(cases A54 with|true=>exact Or.inr ⟨by rfl,rfl⟩|false=>exact Or.inr ⟨by rfl,rfl⟩));refine tka 63 undef ?_ (hy:=by as_aux_lemma=>(cases A54 with|true=>exact Or.inr ⟨by rfl,rfl⟩|false=>exact Or.inr ⟨by rfl,rfl⟩));refine tka 64 undef ?_ (hy:=by as_aux_lemma=>(cases A54 with|true=>exact Or.inr ⟨by rfl,rfl⟩|false=>exact Or.inr ⟨by rfl,rfl⟩));refine tka 65 undef ?_ (hy:=by as_aux_lemma=>(cases A54 with|true=>exact Or.inr ⟨by rfl,rfl⟩|false=>exact Or.inr ⟨by rfl,rfl⟩));refine tka 66 undef ?_ (hy:=by as_aux_lemma=>(cases A54 with|true=>exact Or.inr ⟨by rfl,rfl⟩|false=>exact Or.inr ⟨by rfl,rfl⟩));refine tkb A54 67 (bif A54 then undef else .bool false) ?_;refine tka 68 (.bool A54) ?_ (hy:=by as_aux_lemma=>exact Or.inl ⟨by rfl,by(intro W hW;(try dsimp only at hW);(try simp only[cond_true,cond_false]);cases A54;all_goals go_simp<;>(with_reducible rfl))⟩);refine tka 69 (.bool A54) ?_;refine tkb A54 70 (bif A54 then undef else .pointer (some ⟨w.heap.size,1,none⟩)) ?_;refine tkb A54 71 (bif A54 then undef else .bool false) ?_;refine tkb A54 72 (bif A54 then undef else .pointer (some ⟨wr.heap.size,3,none⟩)) ?_;refine tkb A54 73 (bif A54 then undef else .slice (some ⟨bk,okk,none⟩) 1 kc) ?_;refine tkb A54 74 (bif A54 then undef else .int .i64 1) ?_;refine tkb A54 75 (bif A54 then undef else .bool false) ?_;refine tkb A54 76 (bif A54 then undef else .bool false) ?_;refine tka 77 (.bool A54) ?_ (hy:=by as_aux_lemma=>exact Or.inl ⟨by rfl,by(intro W hW;(try dsimp only at hW);(try simp only[cond_true,cond_false]);cases A54;all_goals go_simp<;>(with_reducible rfl))⟩);exact q0fce22):p:=h
theorem q679eee (h:p:=by
 clear zm;refine tkb A27 28 (bif A27 then undef else .bool false) ?_;refine tkb A27 29 (bif A27 then undef else .bool true) ?_;refine tkb A27 30 (bif A27 then undef else .bool true) ?_;refine tkb A27 31 (bif A27 then undef else .pointer (some ⟨wr.heap.size,0,none⟩)) ?_;refine tkb A27 32 (bif A27 then undef else .string (strOf k)) ?_;refine tkb A27 33 (bif A27 then undef else .string (strOf lo)) ?_;refine tka 34 (bif A27 then undef else .bool X4) ?_ (hy:=by as_aux_lemma=>(cases A27 with|true=>exact Or.inr ⟨by rfl,rfl⟩|false=>exact Or.inl ⟨by rfl,by(intro W hW;(try dsimp only at hW);(try simp only[cond_true,cond_false]);rcases HX4.out with⟨rfl,p1⟩|⟨rfl,p1⟩;all_goals go_simp<;>(with_reducible rfl))⟩));refine tkb A27 35 (bif A27 then undef else .bool X4) ?_;refine tka 36 (.bool A37) ?_ (hy:=by as_aux_lemma=>exact Or.inl ⟨by rfl,by(intro W hW;(try dsimp only at hW);(try simp only[cond_true,cond_false]);obtain rfl:=HA37.out;cases A27;all_goals go_simp<;>(with_reducible rfl))⟩);refine tka 37 (.bool A37) ?_;refine tkb A37 38 (bif A37 then undef else .string (strOf hi)) ?_;refine tka 39 (bif A37 then undef else .bool Hn) ?_ (hy:=by as_aux_lemma=>(cases A37 with|true=>exact Or.inr ⟨by rfl,rfl⟩|false=>exact Or.inl ⟨by rfl,by(intro W hW;(try dsimp only at hW);(try simp only[cond_true,cond_false]);rcases HHn.out with⟨rfl,e1,e2⟩|⟨rfl,e1,e2⟩;all_goals go_simp<;>(with_reducible rfl))⟩));refine tkb A37 40 (bif A37 then undef else .bool Hn) ?_;refine tkc A37 Hn 41 (bif A37 then undef else (bif Hn then .pointer (some ⟨wr.heap.size,0,none⟩) else undef)) ?_;refine tkc A37 Hn 42 (bif A37 then undef else (bif Hn then .string (strOf k) else undef)) ?_;refine tkc A37 Hn 43 (bif A37 then undef else (bif Hn then .string (strOf hi) else undef)) ?_;refine tka 44 (bif A37 then undef else (bif Hn then .bool X5 else undef)) ?_ (hy:=by as_aux_lemma=>(cases A37 with|true=>exact Or.inr ⟨by rfl,rfl⟩|false=>(cases Hn with|true=>exact Or.inl ⟨by rfl,by(intro W hW;(try dsimp only at hW);(try simp only[cond_true,cond_false]);rcases HX5.out with⟨rfl,rfl,p1,p2⟩|⟨rfl,p1,p2,p3,p4⟩|⟨rfl,p1,p2,p3,p4⟩;all_goals go_simp<;>(with_reducible rfl))⟩|false=>exact Or.inr ⟨by rfl,rfl⟩)));refine tka 45 (bif A37 then undef else .bool Y5) ?_ (hy:=by as_aux_lemma=>(cases A37 with|true=>exact Or.inr ⟨by rfl,rfl⟩|false=>exact Or.inl ⟨by rfl,by(intro W hW;(try dsimp only at hW);(try simp only[cond_true,cond_false]);obtain rfl:=HY5.out;cases Hn;all_goals go_simp<;>(with_reducible rfl))⟩));refine tka 46 (.bool A47) ?_ (hy:=by as_aux_lemma=>exact Or.inl ⟨by rfl,by(intro W hW;(try dsimp only at hW);(try simp only[cond_true,cond_false]);obtain rfl:=HA47.out;cases A37;all_goals go_simp<;>(with_reducible rfl))⟩);refine tka 47 (.bool A47) ?_;refine tkb A47 48 (bif A47 then undef else .pointer (some ⟨wr.heap.size,1,none⟩)) ?_;refine tkb A47 49 (bif A47 then undef else .pointer (some ⟨wr.heap.size,1,none⟩)) ?_;refine tkb A47 50 (bif A47 then undef else .string (strOf yv.data)) ?_;refine tkb A47 51 (bif A47 then undef else .int .i64 (dl:Int)) ?_;refine tka 52 (bif A47 then undef else .bool X6) ?_ (hy:=by as_aux_lemma=>(cases A47 with|true=>exact Or.inr ⟨by rfl,rfl⟩|false=>exact Or.inl ⟨by rfl,by(intro W hW;(try dsimp only at hW);(try simp only[cond_true,cond_false]);obtain rfl:=HX6.out;go_simp<;>(with_reducible rfl))⟩));refine tka 53 (.bool A54) ?_ (hy:=by as_aux_lemma=>exact Or.inl ⟨by rfl,by(intro W hW;(try dsimp only at hW);(try simp only[cond_true,cond_false]);obtain rfl:=HA54.out;cases A47;all_goals go_simp<;>(with_reducible rfl))⟩);refine tka 54 (.bool A54) ?_;refine tkb A54 55 (bif A54 then undef else .pointer (some ⟨wr.heap.size,1,none⟩)) ?_;refine tkb A54 56 (bif A54 then undef else .pointer (some ⟨wr.heap.size,2,none⟩)) ?_;refine tkb A54 57 (bif A54 then undef else .slice pa pn pc) ?_;refine tkb A54 58 (bif A54 then undef else .int .i64 (pn:Int)) ?_;refine tka 59 (bif A54 then undef else .bool Gp) ?_ (hy:=by as_aux_lemma=>(cases A54 with|true=>exact Or.inr ⟨by rfl,rfl⟩|false=>exact Or.inl ⟨by rfl,by(intro W hW;(try dsimp only at hW);(try simp only[cond_true,cond_false]);obtain rfl:=HGp.out;go_simp<;>(with_reducible rfl))⟩));refine tkb A54 60 (bif A54 then undef else .bool Gp) ?_;refine tkc A54 Gp 61 (bif A54 then undef else (bif Gp then .pointer (some ⟨wr.heap.size,1,none⟩) else undef)) ?_;refine tkc A54 Gp 62 (bif A54 then undef else (bif Gp then .pointer (some ⟨wr.heap.size,1,none⟩) else undef)) ?_;refine tkc A54 Gp 63 (bif A54 then undef else (bif Gp then .string (strOf yv.data) else undef)) ?_;refine tkc A54 Gp 64 (bif A54 then undef else (bif Gp then .int .i64 (dl:Int) else undef)) ?_;cases A54 with
 | true=>
  refine tka 65 undef ?_ (hy:=by as_aux_lemma=>exact Or.inr ⟨by rfl,rfl⟩);refine tka 66 undef ?_ (hy:=by as_aux_lemma=>exact Or.inr ⟨by rfl,rfl⟩);refine tka 67 undef ?_ (hy:=by as_aux_lemma=>exact Or.inr ⟨by rfl,rfl⟩);refine tka 68 (.bool true) ?_;refine tka 69 (.bool true) ?_;refine tka 70 undef ?_ (hy:=by as_aux_lemma=>exact Or.inr ⟨by rfl,rfl⟩);refine tka 71 undef ?_ (hy:=by as_aux_lemma=>exact Or.inr ⟨by rfl,rfl⟩);refine tka 72 undef ?_ (hy:=by as_aux_lemma=>exact Or.inr ⟨by rfl,rfl⟩);refine tka 73 undef ?_ (hy:=by as_aux_lemma=>exact Or.inr ⟨by rfl,rfl⟩);refine tka 74 undef ?_ (hy:=by as_aux_lemma=>exact Or.inr ⟨by rfl,rfl⟩);refine tka 75 undef ?_ (hy:=by as_aux_lemma=>exact Or.inr ⟨by rfl,rfl⟩);refine tka 76 undef ?_ (hy:=by as_aux_lemma=>exact Or.inr ⟨by rfl,rfl⟩);refine tka 77 (.bool true) ?_;exact q0fce22
 | false=>
 cases Gp with
 | false=>
  refine tka 65 undef ?_ (hy:=by as_aux_lemma=>exact Or.inr ⟨by rfl,rfl⟩);refine tka 66 undef ?_ (hy:=by as_aux_lemma=>exact Or.inr ⟨by rfl,rfl⟩);refine tka 67 (.bool false) ?_;refine tka 68 (.bool false) ?_;refine tka 69 (.bool false) ?_;refine tka 70 (.pointer (some ⟨w.heap.size,1,none⟩)) ?_;refine tka 71 (.bool true) ?_;refine tka 72 (.pointer (some ⟨wr.heap.size,3,none⟩)) ?_;refine tka 73 (.slice ka 0 kc) ?_;refine tka 74 (.int .i64 0) ?_;refine tka 75 (.bool true) ?_;refine tka 76 (.bool false) ?_;refine tka 77 (.bool false) ?_;exact q0fce22
 | true=>
 refine rdy 65 (fun K hK=>?_)
 (rw[if_pos (by rfl)];(try simp only[cond_true,cond_false]);go_wp2_with (go_at_call 89;refine(CN _).mono ?_;rintro e w9 ⟨rfl,rfl⟩))
 refine hK.out _ _ (by assumption) (fun hHeld=>?_);clear hK K
 (try simp only[Act.put,List.setIfInBounds_toArray]);(try dsimp only[List.set_cons_zero,List.set_cons_succ])
 refine tka 66 (.bool X7) ?_ (hy:=by as_aux_lemma=>exact Or.inl ⟨by rfl,by(intro W hW;(try dsimp only at hW);(try simp only[cond_true,cond_false]);rcases HX7.out with⟨rfl,p1⟩|⟨rfl,p1⟩;all_goals go_simp<;>(with_reducible rfl))⟩);refine tka 67 (.bool X7) ?_;refine tka 68 (.bool X7) ?_;refine tka 69 (.bool X7) ?_;refine tkb X7 70 (bif X7 then undef else .pointer (some ⟨w.heap.size,1,none⟩)) ?_;refine tkb X7 71 (bif X7 then undef else .bool true) ?_;refine tkb X7 72 (bif X7 then undef else .pointer (some ⟨wr.heap.size,3,none⟩)) ?_;refine tkb X7 73 (bif X7 then undef else .slice ka 0 kc) ?_;refine tkb X7 74 (bif X7 then undef else .int .i64 0) ?_;refine tkb X7 75 (bif X7 then undef else .bool true) ?_;refine tkb X7 76 (bif X7 then undef else .bool false) ?_;refine tka 77 (.bool X7) ?_ (hy:=by as_aux_lemma=>exact Or.inl ⟨by rfl,by(intro W hW;(try dsimp only at hW);(try simp only[cond_true,cond_false]);cases X7;all_goals go_simp<;>(with_reducible rfl))⟩);exact q0fce22):p:=h
theorem q23e8d2 (h:p:=by
 refine tka 1 (.pointer (some ⟨wr.heap.size,0,none⟩)) ?_;refine tka 2 (.string (strOf k)) ?_;refine tka 3 (.bool E) ?_ (hy:=by as_aux_lemma=>exact Or.inl ⟨by rfl,by(intro W hW;(try dsimp only at hW);(try simp only[cond_true,cond_false]);rcases HE3.out with⟨rfl,e1,e2⟩|⟨rfl,e1,e2⟩;all_goals go_simp<;>(with_reducible rfl))⟩);refine tka 4 (.bool X1) ?_ (hy:=by as_aux_lemma=>exact Or.inl ⟨by rfl,by(intro W hW;(try dsimp only at hW);(try simp only[cond_true,cond_false]);obtain rfl:=HX1b.out;cases E;all_goals go_simp<;>(with_reducible rfl))⟩);refine tka 5 (.bool X1) ?_;refine tkb X1 6 (bif X1 then undef else .pointer (some ⟨wr.heap.size,0,none⟩)) ?_;refine tkb X1 7 (bif X1 then undef else .string (strOf k)) ?_;refine tkb X1 8 (bif X1 then undef else .int .i64 (kl:Int)) ?_;refine tka 9 (bif X1 then undef else .bool X2) ?_ (hy:=by as_aux_lemma=>(cases X1 with|true=>exact Or.inr ⟨by rfl,rfl⟩|false=>exact Or.inl ⟨by rfl,by(intro W hW;(try dsimp only at hW);(try simp only[cond_true,cond_false]);obtain rfl:=HX2.out;go_simp<;>(with_reducible rfl))⟩));refine tka 10 (.bool A11) ?_ (hy:=by as_aux_lemma=>exact Or.inl ⟨by rfl,by(intro W hW;(try dsimp only at hW);(try simp only[cond_true,cond_false]);obtain rfl:=HA11.out;cases X1;all_goals go_simp<;>(with_reducible rfl))⟩);refine tka 11 (.bool A11) ?_;refine tkb A11 12 (bif A11 then undef else .int .i64 (i:Int)) ?_;refine tka 13 (bif A11 then undef else .bool P) ?_ (hy:=by as_aux_lemma=>(cases A11 with|true=>exact Or.inr ⟨by rfl,rfl⟩|false=>exact Or.inl ⟨by rfl,by(intro W hW;(try dsimp only at hW);(try simp only[cond_true,cond_false]);rcases HPP.out with⟨rfl,d5,d6⟩|⟨rfl,d5,d6⟩;all_goals go_simp<;>(with_reducible rfl))⟩));refine tkb A11 14 (bif A11 then undef else .bool P) ?_;refine tkc A11 P 15 (bif A11 then undef else (bif P then .pointer (some ⟨wr.heap.size,0,none⟩) else undef)) ?_;refine tkc A11 P 16 (bif A11 then undef else (bif P then .string (strOf k) else undef)) ?_;refine tkc A11 P 17 (bif A11 then undef else (bif P then .pointer (some ⟨w.heap.size,2,none⟩) else undef)) ?_;refine tkc A11 P 18 (bif A11 then undef else (bif P then .slice (some ⟨b,off,none⟩) m c else undef)) ?_;refine tkc A11 P 19 (bif A11 then undef else (bif P then .int .i64 (i:Int) else undef)) ?_;refine tka 20 (bif A11 then undef else (bif P then .int .i64 (ip:Int) else undef)) ?_ (hy:=by as_aux_lemma=>(cases A11 with|true=>exact Or.inr ⟨by rfl,rfl⟩|false=>(cases P with|true=>exact Or.inl ⟨by rfl,by(intro W hW;(try dsimp only at hW);(try simp only[cond_true,cond_false]);obtain⟨p1,p2,p3,p4⟩:=HPT.out rfl;go_simp<;>(with_reducible rfl))⟩|false=>exact Or.inr ⟨by rfl,rfl⟩)));refine tka 21 (bif A11 then undef else (bif P then .pointer (some ⟨b,off+ip*4,none⟩) else undef)) ?_ (hy:=by as_aux_lemma=>(cases A11 with|true=>exact Or.inr ⟨by rfl,rfl⟩|false=>(cases P with|true=>exact Or.inl ⟨by rfl,by(intro W hW;(try dsimp only at hW);(try simp only[cond_true,cond_false]);obtain⟨p1,p2,p3,p4⟩:=HPT.out rfl;go_simp<;>(with_reducible rfl))⟩|false=>exact Or.inr ⟨by rfl,rfl⟩)));refine tkc A11 P 22 (bif A11 then undef else (bif P then .pointer (some ⟨b,off+ip*4,none⟩) else undef)) ?_;refine tka 23 (bif A11 then undef else (bif P then .string (strOf kp) else undef)) ?_ (hy:=by as_aux_lemma=>(cases A11 with|true=>exact Or.inr ⟨by rfl,rfl⟩|false=>(cases P with|true=>exact Or.inl ⟨by rfl,by(intro W hW;(try dsimp only at hW);(try simp only[cond_true,cond_false]);obtain⟨p1,p2,p3,p4⟩:=HPT.out rfl;have p5:=p4 _ hW;go_simp<;>(with_reducible rfl))⟩|false=>exact Or.inr ⟨by rfl,rfl⟩)));refine tka 24 (bif A11 then undef else (bif P then .bool X3 else undef)) ?_ (hy:=by as_aux_lemma=>(cases A11 with|true=>exact Or.inr ⟨by rfl,rfl⟩|false=>(cases P with|true=>exact Or.inl ⟨by rfl,by(intro W hW;(try dsimp only at hW);(try simp only[cond_true,cond_false]);rcases HX3.out with⟨rfl,rfl,p1,p2⟩|⟨rfl,p1,p2,p3,p4⟩|⟨rfl,p1,p2,p3,p4⟩;all_goals go_simp<;>(with_reducible rfl))⟩|false=>exact Or.inr ⟨by rfl,rfl⟩)));refine tka 25 (bif A11 then undef else .bool Y3) ?_ (hy:=by as_aux_lemma=>(cases A11 with|true=>exact Or.inr ⟨by rfl,rfl⟩|false=>exact Or.inl ⟨by rfl,by(intro W hW;(try dsimp only at hW);(try simp only[cond_true,cond_false]);obtain rfl:=HY3.out;cases P;all_goals go_simp<;>(with_reducible rfl))⟩));refine tka 26 (.bool A27) ?_ (hy:=by as_aux_lemma=>exact Or.inl ⟨by rfl,by(intro W hW;(try dsimp only at hW);(try simp only[cond_true,cond_false]);obtain rfl:=HA27.out;cases A11;all_goals go_simp<;>(with_reducible rfl))⟩);refine tka 27 (.bool A27) ?_
 first|exact Mk.go 22453 zm qd5f735|exact Mk.go 790894 zm q679eee):p:=h
theorem qe7858f (h:p:=by
 clear zm;have hC:Below W6.heap.size W6 W6.drew:=(Below.refl _ _).drew;refine wp_region_noPanic ?_;refine wp_region_held_drew (S:=fun W=>Below W6.heap.size W6 W) (by kernel_rfl) (by with_reducible assumption) (fun hHeld=>?_);refine tks [0,1,2] ?_;refine rdy 3 (fun K hK=>?_);rw[if_pos (by rfl)]
 go_wp2_with (first|(go_at_call 230;(with_reducible refine(M1 _).mono ?_);rintro e1 w7 ⟨rfl,hb7⟩;have hC7:=hC.trans (hb7.mono hC.size)))
 exact qcc5afb):p:=h
theorem q2f39d1 (h:p:=by
 clear zm;have hC:Below W6.heap.size W6 W6.drew:=(Below.refl _ _).drew;refine wp_region_noPanic ?_;refine wp_region_held_drew (S:=fun W=>Below W6.heap.size W6 W) (by kernel_rfl) (by with_reducible assumption) (fun hHeld=>?_);refine tks [0,1,2] ?_;refine rdy 3 (fun K hK=>?_);rw[if_pos (by rfl)]
 go_wp2_with (first|(go_at_call 230;(with_reducible refine(M1 _).mono ?_);rintro e1 w7 ⟨rfl,hb7⟩;have hC7:=hC.trans (hb7.mono hC.size)))
 refine bkw hK (by with_reducible assumption) (fun hHeld=>?_);clear hK K;refine tks [4,5] ?_;refine tks [6,7,8] ?_;refine tkn [9,10] ?_;refine tkn [11,12] ?_;refine tkn [13,14] ?_;refine tkn [15,16] ?_;refine tkn [17,18] ?_;refine tks [19,20] ?_;refine wpAnyH_done (by kernel_rfl) ?_ _;refine NoPanic.normal ?_;have hb8:=below_then hbw6 hC7;have B8:=(B6.step hC7).sub (m:=[(w.heap.size,[.bool true,.slice (some ⟨b,off,none⟩) len cap])]) (by intro p hp;simp at hp;subst hp;simp);clear hC hC7 hb7 B6 hr6;go_wp2_with fail;go_roundw
 case rel=>exact⟨0+1,by omega,by go_num,HU.out,B8,hb8⟩
 case measure=>simp[intOf];omega):p:=h
theorem q23b7d7 (h:p:=by
 clear zm;have d1:∀W,Below W6.heap.size W6 W→W.cell? ⟨w.heap.size,1,none⟩=some (.slice (some ⟨b,off,none⟩) len cap):=fun W hW=>(B6.step hW).cell 1 1 rfl rfl
 have p0:∀W,Below W6.heap.size W6 W→W.cell? ⟨b,off+p*5,none⟩=some (.string (strOf e'.key)):=fun W hW=>(hW.cell (p:=⟨b,off+p*5,none⟩) hbl6).trans hp6
 have hC:Below W6.heap.size W6 W6.drew:=(Below.refl _ _).drew;refine wp_region_noPanic ?_;refine wp_region_held_drew (S:=fun W=>Below W6.heap.size W6 W) (by kernel_rfl) (by with_reducible assumption) (fun hHeld=>?_);refine tks [0,1,2] ?_;refine rdy 3 (fun K hK=>?_);rw[if_pos (by rfl)]
 go_wp2_with (first|(go_at_call 230;(with_reducible refine(M1 _).mono ?_);rintro e1 w7 ⟨rfl,hb7⟩;have hC7:=hC.trans (hb7.mono hC.size)))
 exact qc817f7):p:=h
theorem qb9a293 (h:p:=by
 clear zm;have d1:∀W,Below W6.heap.size W6 W→W.cell? ⟨w.heap.size,1,none⟩=some (.slice (some ⟨b,off,none⟩) len cap):=fun W hW=>(B6.step hW).cell 1 1 rfl rfl
 have p0:∀W,Below W6.heap.size W6 W→W.cell? ⟨b,off+p*5,none⟩=some (.string (strOf e'.key)):=fun W hW=>(hW.cell (p:=⟨b,off+p*5,none⟩) hbl6).trans hp6
 have hC:Below W6.heap.size W6 W6.drew:=(Below.refl _ _).drew;refine wp_region_noPanic ?_;refine wp_region_held_drew (S:=fun W=>Below W6.heap.size W6 W) (by kernel_rfl) (by with_reducible assumption) (fun hHeld=>?_);refine tks [0,1,2] ?_;refine rdy 3 (fun K hK=>?_);rw[if_pos (by rfl)]
 go_wp2_with (first|(go_at_call 230;(with_reducible refine(M1 _).mono ?_);rintro e1 w7 ⟨rfl,hb7⟩;have hC7:=hC.trans (hb7.mono hC.size)))
 refine bkw hK (by with_reducible assumption) (fun hHeld=>?_);clear hK K;refine tks [4,5] ?_;refine tks [6,7] ?_;refine tks [8,9] ?_;refine tks [10,11] ?_;refine tks [12,13] ?_;refine tks [14,15] ?_;refine tks [16,17] ?_;refine tks [18,19,20] ?_;refine wpAnyH_done (by kernel_rfl) ?_ _;refine NoPanic.normal ?_;have hb8:=below_then hbw6 hC7;have B8:=(B6.step hC7).sub (m:=[(w.heap.size,[.bool true,.slice (some ⟨b,off,none⟩) len cap])]) (by intro p hp;simp at hp;subst hp;simp);exact qbdac8e):p:=h
theorem qfe7128 (h:p:=by
 clear zm;have hC:Below W6.heap.size W6 W6.drew:=(Below.refl _ _).drew;refine wp_region_noPanic ?_;refine wp_region_held_drew (S:=fun W=>Below W6.heap.size W6 W) (by kernel_rfl) (by with_reducible assumption) (fun hHeld=>?_);refine tks [0,1,2] ?_;refine rdy 3 (fun K hK=>?_);rw[if_pos (by rfl)]
 go_wp2_with (first|(go_at_call 237;(with_reducible refine(M1 _).mono ?_);rintro e1 w7 ⟨rfl,hb7⟩;have hC7:=hC.trans (hb7.mono hC.size)))
 exact qcc5afb):p:=h
theorem q0b5dc5 (h:p:=by
 clear zm;have hC:Below W6.heap.size W6 W6.drew:=(Below.refl _ _).drew;refine wp_region_noPanic ?_;refine wp_region_held_drew (S:=fun W=>Below W6.heap.size W6 W) (by kernel_rfl) (by with_reducible assumption) (fun hHeld=>?_);refine tks [0,1,2] ?_;refine rdy 3 (fun K hK=>?_);rw[if_pos (by rfl)]
 go_wp2_with (first|(go_at_call 237;(with_reducible refine(M1 _).mono ?_);rintro e1 w7 ⟨rfl,hb7⟩;have hC7:=hC.trans (hb7.mono hC.size)))
 refine bkw hK (by with_reducible assumption) (fun hHeld=>?_);clear hK K;refine tks [4,5] ?_;refine tks [6,7,8] ?_;refine tkn [9,10] ?_;refine tkn [11,12] ?_;refine tkn [13,14] ?_;refine tkn [15,16] ?_;refine tkn [17,18] ?_;refine tks [19,20] ?_;refine wpAnyH_done (by kernel_rfl) ?_ _;refine NoPanic.normal ?_;have hb8:=below_then hbw6 hC7;have B8:=(B6.step hC7).sub (m:=[(w.heap.size,[.bool false,.slice (some ⟨b,off,none⟩) len cap])]) (by intro p hp;simp at hp;subst hp;simp);clear hC hC7 hb7 B6 hr6;go_wp2_with fail;go_roundw
 case rel=>exact⟨0+1,by omega,by go_num,HU.out,B8,hb8⟩
 case measure=>simp[intOf];omega):p:=h
theorem q1d558c (h:p:=by
 clear zm;have d1:∀W,Below W6.heap.size W6 W→W.cell? ⟨w.heap.size,1,none⟩=some (.slice (some ⟨b,off,none⟩) len cap):=fun W hW=>(B6.step hW).cell 1 1 rfl rfl
 have p0:∀W,Below W6.heap.size W6 W→W.cell? ⟨b,off+p*5,none⟩=some (.string (strOf e'.key)):=fun W hW=>(hW.cell (p:=⟨b,off+p*5,none⟩) hbl6).trans hp6
 have hC:Below W6.heap.size W6 W6.drew:=(Below.refl _ _).drew;refine wp_region_noPanic ?_;refine wp_region_held_drew (S:=fun W=>Below W6.heap.size W6 W) (by kernel_rfl) (by with_reducible assumption) (fun hHeld=>?_);refine tks [0,1,2] ?_;refine rdy 3 (fun K hK=>?_);rw[if_pos (by rfl)]
 go_wp2_with (first|(go_at_call 237;(with_reducible refine(M1 _).mono ?_);rintro e1 w7 ⟨rfl,hb7⟩;have hC7:=hC.trans (hb7.mono hC.size)))
 exact qc817f7):p:=h
theorem qb435fb (h:p:=by
 clear zm;have d1:∀W,Below W6.heap.size W6 W→W.cell? ⟨w.heap.size,1,none⟩=some (.slice (some ⟨b,off,none⟩) len cap):=fun W hW=>(B6.step hW).cell 1 1 rfl rfl
 have p0:∀W,Below W6.heap.size W6 W→W.cell? ⟨b,off+p*5,none⟩=some (.string (strOf e'.key)):=fun W hW=>(hW.cell (p:=⟨b,off+p*5,none⟩) hbl6).trans hp6
 have hC:Below W6.heap.size W6 W6.drew:=(Below.refl _ _).drew;refine wp_region_noPanic ?_;refine wp_region_held_drew (S:=fun W=>Below W6.heap.size W6 W) (by kernel_rfl) (by with_reducible assumption) (fun hHeld=>?_);refine tks [0,1,2] ?_;refine rdy 3 (fun K hK=>?_);rw[if_pos (by rfl)]
 go_wp2_with (first|(go_at_call 237;(with_reducible refine(M1 _).mono ?_);rintro e1 w7 ⟨rfl,hb7⟩;have hC7:=hC.trans (hb7.mono hC.size)))
 refine bkw hK (by with_reducible assumption) (fun hHeld=>?_);clear hK K;refine tks [4,5] ?_;refine tks [6,7] ?_;refine tks [8,9] ?_;refine tks [10,11] ?_;refine tks [12,13] ?_;refine tks [14,15] ?_;refine tks [16,17] ?_;refine tks [18,19,20] ?_;refine wpAnyH_done (by kernel_rfl) ?_ _;refine NoPanic.normal ?_;have hb8:=below_then hbw6 hC7;have B8:=(B6.step hC7).sub (m:=[(w.heap.size,[.bool false,.slice (some ⟨b,off,none⟩) len cap])]) (by intro p hp;simp at hp;subst hp;simp);exact qbdac8e):p:=h
theorem qffd49c (h:p:=by
 go_wp2_with fail;generalize wr.heap.size=bx at *;generalize wr.alloc _=W6 at *;have c0:∀W,Below W6.heap.size W6 W→W.cell? ⟨bx,0,none⟩=some (.string (strOf e.key)):=fun W hW=>(B6.step hW).cell 0 0 rfl rfl
 have c1:∀W,Below W6.heap.size W6 W→W.cell? ⟨bx,1,none⟩=some (.string (strOf e.v.data)):=fun W hW=>(B6.step hW).cell 0 1 rfl rfl
 have c2:∀W,Below W6.heap.size W6 W→W.cell? ⟨bx,2,none⟩=some (.bool e.v.far):=fun W hW=>(B6.step hW).cell 0 2 rfl rfl
 have c3:∀W,Below W6.heap.size W6 W→W.cell? ⟨bx,3,none⟩=some (.int .i64 e.v.size):=fun W hW=>(B6.step hW).cell 0 3 rfl rfl
 have c4:∀W,Below W6.heap.size W6 W→W.cell? ⟨bx,4,none⟩=some (.int .i64 e.v.page):=fun W hW=>(B6.step hW).cell 0 4 rfl rfl
 first|exact Mk.go 173007 zm qe7858f|exact Mk.go 94993 zm q2f39d1|exact Mk.go 340823 zm q23b7d7|exact Mk.go 165779 zm qb9a293|exact Mk.go 675112 zm qfe7128|exact Mk.go 744901 zm q0b5dc5|exact Mk.go 922444 zm q1d558c|exact Mk.go 810299 zm qb435fb):p:=h
theorem qf1843d (h:p:=by
 have HE:Hid (LaidTo w l fr (.returned (.tuple #[.agg #[.int .i64 p,.bool lf,.slice a1 n1 c1],.slice none 0 0,.bool false])) (((wr.setCell ⟨w.heap.size,0,none⟩ (.int .i64 p)).setCell ⟨w.heap.size,1,none⟩ (.bool lf)).setCell ⟨w.heap.size,2,none⟩ (.slice a1 n1 c1))):=Hd ⟨((hb.setCell (by simp) _).setCell (by simp) _).setCell (by simp) _,.inl ⟨hs,_,_,_,_,_,_,rfl⟩⟩;have hxe:=((hz0.put 0 (.int .i64 p) (by simp)).put 1 (.bool lf) (by simp)).put 2 (.slice a1 n1 c1) (by simp);have t0:=hxe.cell 0 0 rfl rfl;have t1:=hxe.cell 0 1 rfl rfl;have t2:=hxe.cell 0 2 rfl rfl;have z0:=hz0.cell 0 0 rfl rfl;have z1:=hz0.cell 0 1 rfl rfl;have z2:=hz0.cell 0 2 rfl rfl;have y0:=hz0.frozen 0 0 rfl;have y1:=hz0.frozen 0 1 rfl;have y2:=hz0.frozen 0 2 rfl;clear HBAD HGOOD hs hxe hz0 hb kb;go_wp2_with fail;refine bodyPost_ret (v:=.tuple #[.agg #[.int .i64 p,.bool lf,.slice a1 n1 c1],.slice none 0 0,.bool false]) (by simp only[results,Tryz.results10];simp[go_sem,t0,t1,t2]) rfl HE.out):p:=h
theorem qb7fab6 (h:p:=by
 go_wp2_with (first|(go_at_call 150;refine(CSum _ (by first|exact Below.refl _ _|assumption)).mono ?_;rintro e w9 ⟨rfl,rfl⟩)|(go_at_call 151;refine(CLow _ (by first|exact Below.refl _ _|assumption)).mono ?_;rintro e w9 ⟨rfl,rfl⟩))
 go_meet;exact⟨by rw[HE.out];rfl,rfl⟩):p:=h
theorem qa3ab36 (h:p:=by
 refine bkA hK (fun hHeld=>?_);clear hK K;refine rdy 13 (fun K hK=>?_)
 (rw[if_pos (by rfl)];go_simp;(with_reducible refine(CRc _ hB6).mono ?_);rintro e w9 ⟨p9,l9,a9,m9,d9,rfl,hn9,hb9⟩;have hB9:Below wr.heap.size wr w9:=below_via hB6 hb9;have hA9:AgreeF (fun x=>x≠w1.heap.size) wr w9:=AgreeF.of_below hB9;have hx9:=HX.out.step hB9;have z0:=hx9.cell 0 0 rfl rfl;have u0:=hx9.frozen 0 0 rfl;have z1:=hx9.cell 0 1 rfl rfl;have u1:=hx9.frozen 0 1 rfl;have z2:=hx9.cell 0 2 rfl rfl;have u2:=hx9.frozen 0 2 rfl;go_wp2_with (fail))
 refine bkA hK (fun hHeld=>?_);clear hK K;refine rdy 14 (fun K hK=>?_)
 (rw[if_pos (by rfl)];go_wp2_with (fail))
 refine bkA hK (fun hHeld=>?_);clear hK K;refine wpAnyH_done (by kernel_rfl) ?_ _;refine NoPanic.normal ?_;obtain⟨hrx,hA,hbw⟩:=RStay.mk (B:=w1.heap.size+1) hx9 hn9 (Nat.lt_succ_self _) hA9 (below_via HB.out hB9) (Nat.le_of_lt hs1);have HZX:=Hd (HZ.out.agree hA (fun q hq=>by simp at hq;subst hq;show w.heap.size≠w1.heap.size;omega));have HRX:=Hd hrx;have HBX:=Hd hbw;clear hrx hA hbw CRc l0 l1 m0 m1 m2 hmk hcv hb6 hB6 hA6 hx9 hn9 hA9 hB9 hb9 z0 z1 z2 u0 u1 u2;go_wp2_with fail;go_roundw
 case rel=>exact⟨i+1,M,T,hlt,by go_num,HRX.out,HLM,HZX.out,HALL,.inr n12,HBX.out⟩
 case measure=>simp[intOf];omega):p:=h
theorem qbe6c73 (h:p:=by
 go_wp2_with (first|(go_at_call 183;(with_reducible refine(F _).mono ?_);rintro en w7 ⟨rfl,hb7⟩;have hC7:=below_then hbw6 hb7;have B7:=B6.step hb7;have f0:=B7.cell 0 0 rfl rfl;have f1:=B7.cell 0 1 rfl rfl;have f2:=B7.cell 0 2 rfl rfl;have f3:=B7.cell 0 3 rfl rfl;have f4:=B7.cell 1 0 rfl rfl))
 go_ret;exact⟨ret_bool HF.out.symm,hC7⟩):p:=h
theorem qd52b26 (h:p:=by
 rw[hD] at CD;have HD:Hid (depthT (n+1) kid (if i+1=0 then lo else k) (nextH hi (l.drop (i+1+1))) false=D):=Hd (by rw[HNX.out];exact hD);clear hD;go_wp2_with fail;refine(CD _ (by have:=HB9.out.size;repeat (first|exact HB9.out|apply Below.al|(refine Below.st ?_ (by simp;omega))))).mono ?_;rintro e w9 ⟨rfl,hb9⟩;have hbq:Below w.heap.size w w9:=Below.trans (by have:=HB9.out.size;repeat (first|exact HB9.out|apply Below.al|(refine Below.st ?_ (by simp;omega)))) (hb9.mono (by have:=HB9.out.size;simp;omega));have hxq:Boxes w9 [(w.heap.size+1,[.string (strOf lo),.string (strOf hi)]),(w.heap.size,[.int .i64 pg,.bool false,.slice _ m kc,.slice va vn vc,.slice _ m cc])]:=Boxes.step (by repeat (first|exact HX9.out|apply Boxes.al|(refine Boxes.st ?_ (by intro p hp;simp at hp;rcases hp with rfl|rfl<;>simp<;>omega)))) hb9;have HBQ:=Hd hbq;have HXQ:=Hd hxq;clear hbq hxq hb9 n0 n1 n2 n3 n4 s0 s1 e0 e1 e2 e3 e4 CD hb;cases D with
 | none=>
  exact qf4a7ef
 | some d=>
  have hdi:depI (some d)=(d:Int):=rfl;rw[hdi];clear hdi;have hd9:d+1≤1000:=Nat.le_trans (depthT_lt HD.out) hn;have dz:((d:Int)+1 == 0)=false:=beq_eq_false_iff_ne.2 (by omega)
  by_cases hfd:d+1=far
  ·have dy:((d:Int)+1 != (far:Int))=false:=by simp;omega
   have HR:Hid (depK (fun t lo hi=>depthT (n+1) t lo hi false) lo hi (i+1+1) (d+1) (l.drop (i+1+1))=R):=Hd (by rw[←HDK.out];exact(depK_go HC1.out (by rw[HC2.out,HCK.out];exact HD.out) (by simp[hfd])).symm);have HFD:=Hd hfd;clear hfd;go_wp2_with fail;go_roundw
   case rel=>exact⟨i+1+1,d+1,by omega,by omega,by go_num,by go_num,HR.out,HBQ.out,HXQ.out⟩
   case measure=>simp[intOf];omega
  ·have dy:((d:Int)+1 != (far:Int))=true:=by simp;omega
   have HR:Hid (R=none):=Hd (by rw[←HDK.out];exact depK_far HC1.out (by rw[HC2.out,HCK.out];exact HD.out) ⟨by omega,hfd⟩);have HFD:=Hd hfd;clear hfd;exact q42d8b3):p:=h
theorem q7deb1d (h:p:=by
 clear zm;go_roundw
 case rel=>exact⟨i+1,v5,_,la5,lc5,_,_,LL',_,_,_,dn++[(key,(⟨d,pvL d left2⟩:Tv))],hlt,by go_num,by have:=HL'.out;have:=HLL.out;omega,by have:=HES.out;simp;omega,HQ.out,by have:=HDN.out;simp;omega,HNX.out⟩
 case measure=>simp[intOf];omega):p:=h
theorem qbb5ba2 (h:p:=by
 clear zm;go_roundw
 case rel=>exact⟨i+1,v5,_,la5,lc5,_,_,LL',_,_,_,dn++[(key,RR.1)],hlt,by go_num,by have:=HL'.out;have:=HLL.out;omega,by have:=HES.out;simp;omega,HQ.out,by have:=HDN.out;simp;omega,HNX.out⟩
 case measure=>simp[intOf];omega):p:=h
theorem q099904 (h:p:=by
 refine bkA hK (fun hHeld=>?_);clear hK K;refine rdy 7 (fun K hK=>?_)
 (refine step_append_run rfl _ _ _ _ rfl rfl rfl hrun2 ?_)
 refine bkA hK (fun hHeld=>?_);clear hK K;refine tks [8] ?_;refine rdy 9 (fun K hK=>?_)
 (rw[if_pos (by rfl)];go_wp2_with (fail))
 refine bkA hK (fun hHeld=>?_);clear hK K;refine wpAnyH_done (by kernel_rfl) ?_ _;refine NoPanic.normal ?_;obtain⟨wy,hwy⟩:∃x,x=(w9.setCell ⟨w.heap.size+1+1+1,1,none⟩ (.slice a9 (es.length+1) c9)):=⟨_,rfl⟩
 rw[←hwy] at HQ ⊢;clear hwy f8 f9 f7 hA00 hA1 hA3 hA4 hHeld x0 x1 x2 x3 xn hrun2 o4;go_wp2_with fail
 first|exact Mk.go 252189 zm q7deb1d|exact Mk.go 278690 zm qbb5ba2):p:=h
theorem q8adeb7 (h:p:=by
 have TR2:TabR 4 (RcOn F n w2) w2 ad (m-i) (c-i) ((cellsR (.leaf p l)).drop i):=by
  rw[had];exact TabR.mono (TabR.dp (TabR.below (Nat.le_refl _) hb2 TR) hi9) (fun _ _ hy=>RcOn.below hy hb2)
 obtain⟨v3,w3,hr3,c3',hg3⟩:=c2'.row Tryz.underlying25 info_Cw hb2.size HF3.out (by rw[hl2];omega) TR2 (by omega);have hb3':Below W3.heap.size W3 w3:=hb2.grown hg3 hb2.size (fun g hg=>(c2'.ge hg).1);rw[←hcr] at c3';have hlen:cntT (.leaf 0 R)=m+1:=by
  have:=congrArg List.length hcr;rw[cellsR_len,List.length_append,hl2,List.length_drop,hcl] at this;omega
 have o3:=c3'.own HF3.out;obtain⟨a3,d3,ev3,_,_,_,_⟩:=o3.sl;rw[cellsR_len,hlen] at ev3;subst ev3;have n3:RNodeOn (Fr F W3) (n+1) w3 [.int .i64 0,.bool true,.slice a3 (m+1) d3] (.leaf 0 R):=o3.node (w:=W3) (Nat.le_refl _);have hbe:=below_via hb3 hb3';have hx3:=HX3.out.step hb3';have m0:=hx1.cell 0 0 rfl rfl;have m1:=hx1.cell 0 1 rfl rfl;have m2:=hx1.cell 0 2 rfl rfl;have m3:=hx1.cell 0 3 rfl rfl;have nn1:=hx1.cell 2 2 rfl rfl;have nn2:=(HX3.out.step hb2).cell 2 2 rfl rfl;have hic:i≤c:=by omega
 clear c0 c1' c2' c3' o3 TR TR2 hg1 hg2 hg3 hb1 hb2 hb3' hb3 hx1 hl1 hl2 had hcr hcl hs3 hlen;go_upto_region 12 with(fail)
 go_upto_region 13 with(at_builtin;refine wpList_append_run rfl _ _ _ _ rfl rfl rfl hr1 ?_)
 go_upto_region 14 with(at_builtin;refine wpList_append_run rfl _ _ _ _ rfl rfl rfl hr2 ?_)
 go_upto_region 15 with(at_builtin;refine wpList_append_run rfl _ _ _ _ rfl rfl rfl hr3 ?_)
 have z0:=hx3.cell 1 0 rfl rfl;have z1:=hx3.cell 1 1 rfl rfl;have z2:=hx3.cell 1 2 rfl rfl;have y0:=hx3.frozen 1 0 rfl;have y1:=hx3.frozen 1 1 rfl;have y2:=hx3.frozen 1 2 rfl;obtain⟨t0,t1,t2,HE⟩:=rend (F:=F) (w:=w) (hx3.sub (m:=[(w.heap.size+1,[.int .i64 0,.bool false,.slice none 0 0])]) (by simp)) (by omega) (fun hg=>by
  have:=HS3.out
  rcases hg with hg|hg
  ·have:=hF _ hg;omega
  ·omega) (fun b hb=>by
  have:=HS3.out
  rcases hb with hb|hb
  ·exact .inl hb
  ·exact .inr (by omega)) n3 hbe
 clear n3 hbe hx3;go_wp2_with fail;refine bodyPost_ret (v:=.agg #[.int .i64 0,.bool true,.slice a3 (m+1) d3]) (by simp only[results,Tryz.results88];simp[go_sem,t0,t1,t2]) rfl HE.out):p:=h
theorem q788913 (h:p:=by
 clear zm
 by_cases hh:hi=[]
 ·obtain⟨e3,e4⟩:=str_empty hh
  have HH:=Hd hh;clear hh;have HT2:Hid (fitTo lo hi true K ((i+1)+1)=true):=Hd (by rw[fitTo_succ,HA.out,Bool.true_and];unfold fitAt;rw[HKK.out,HKP.out];simp[HK0.out,HL16.out,HP.out,HLO.out,HH.out]);exact q834c9f
 obtain⟨e3,e4⟩:=str_some hh;have HH:=Hd hh;clear hh
 by_cases hh2:k<hi
 ·have g1:Op.bytesLess (strOf k).toList (strOf hi).toList=true:=by rw[strOf_toList,strOf_toList,bytes_lessT];simpa using hh2
  have HH2:=Hd hh2;clear hh2;have HT2:Hid (fitTo lo hi true K ((i+1)+1)=true):=Hd (by rw[fitTo_succ,HA.out,Bool.true_and];unfold fitAt;rw[HKK.out,HKP.out];simp[HK0.out,HL16.out,HP.out,HLO.out,HH2.out]);exact q834c9f
 ·have g1:Op.bytesLess (strOf k).toList (strOf hi).toList=false:=by rw[strOf_toList,strOf_toList,bytes_lessT];simpa using hh2
  exact q7ce93d):p:=h
theorem q1b5bfe (h:p:=by
 clear zm
 by_cases hh:hi=[]
 ·obtain⟨e3,e4⟩:=str_empty hh
  have HH:=Hd hh;clear hh;have HT2:Hid (fitTo lo hi false K ((i+1)+1)=true):=Hd (by rw[fitTo_succ,HA.out,Bool.true_and];unfold fitAt;rw[HKK.out,HKP.out];simp[HK0.out,HL16.out,HP.out,HLO.out,HH.out]);exact q834c9f
 obtain⟨e3,e4⟩:=str_some hh;have HH:=Hd hh;clear hh
 by_cases hh2:k<hi
 ·have g1:Op.bytesLess (strOf k).toList (strOf hi).toList=true:=by rw[strOf_toList,strOf_toList,bytes_lessT];simpa using hh2
  have HH2:=Hd hh2;clear hh2;have HT2:Hid (fitTo lo hi false K ((i+1)+1)=true):=Hd (by rw[fitTo_succ,HA.out,Bool.true_and];unfold fitAt;rw[HKK.out,HKP.out];simp[HK0.out,HL16.out,HP.out,HLO.out,HH2.out]);exact q834c9f
 ·have g1:Op.bytesLess (strOf k).toList (strOf hi).toList=false:=by rw[strOf_toList,strOf_toList,bytes_lessT];simpa using hh2
  exact q7ce93d):p:=h
theorem qd0c851 (h:p:=by
 have HKP:Hid (K[i+1-1]?.getD []=kp):=Hd hkp;clear hkp hc2
 by_cases hk0:k=[]
 ·obtain⟨e1,e2⟩:=str_empty hk0
  have HK0:=Hd hk0;clear hk0;have HE:Hid (FT=false):=Hd (by rw[HFIT.out,fitTo_bad (i:=(i+1)) (by omega) (by unfold fitAt;rw[HKK.out,HKP.out];simp[HK0.out])];rfl);exact q993faf
 obtain⟨e1,e2⟩:=str_some hk0;have HK0:=Hd hk0;clear hk0;obtain⟨kl,hkl0⟩:∃x,k.length=x:=⟨_,rfl⟩
 rw[hkl0] at hsz hkl;have HKL:=Hd hkl0;clear hkl0
 by_cases hl:16<kl
 ·have q1:decide ((16:Int)<kl)=true:=by simp;omega
  have q1':decide (16<kl)=true:=by simp;omega
  have HE:Hid (FT=false):=Hd (by rw[HFIT.out,fitTo_bad (i:=(i+1)) (by omega) (by have h9:=HKL.out;unfold fitAt;rw[HKK.out];simp;omega)];rfl);exact q993faf
 have q1:decide ((16:Int)<kl)=false:=by simp;omega
 have q1':decide (16<kl)=false:=by simp;omega
 have HL16:Hid (k.length≤16):=Hd (by have:=HKL.out;omega)
 rcases ktri kp k with hp|hp|hp
 rotate_left
 ·subst hp
  obtain⟨p1,p2⟩:=cmp_eq kp;have HE:Hid (FT=false):=Hd (by rw[HFIT.out,fitTo_bad (i:=(i+1)) (by omega) (by unfold fitAt;rw[HKK.out,HKP.out];simp[klt_irrefl])];rfl);exact q993faf
 ·obtain⟨p1,p2,_,_⟩:=cmp_lt hp
  have HP:=Hd (klt_asymm hp);clear hp;have HE:Hid (FT=false):=Hd (by rw[HFIT.out,fitTo_bad (i:=(i+1)) (by omega) (by unfold fitAt;rw[HKK.out,HKP.out];simp[HP.out])];rfl);exact q993faf
 obtain⟨p3,p4,p1,p2⟩:=cmp_lt hp;obtain⟨p6,p5⟩:=cmp_lt2 hp;have HP:=Hd hp;clear hp p3 p4 p6
 by_cases hlo2:k<lo
 ·obtain⟨l1,l2,_,_⟩:=cmp_lt hlo2
  have HLO:=Hd hlo2;clear hlo2 l2;have HE:Hid (FT=false):=Hd (by rw[HFIT.out,fitTo_bad (i:=(i+1)) (by omega) (by unfold fitAt;rw[HKK.out,HKP.out];simp[HLO.out])];rfl);exact q993faf
 have l1:Op.bytesLess (strOf k).toList (strOf lo).toList=false:=by rw[strOf_toList,strOf_toList,bytes_lessT];simpa using hlo2
 have HLO:=Hd hlo2;clear hlo2
 first|exact Mk.go 899411 zm q788913|exact Mk.go 793022 zm q1b5bfe):p:=h
theorem q9dfb63 (h:p:=by
 rw[hD] at CD;have HD:Hid (depthT (n+1) kid (if (0:Nat)=0 then lo else k) (nextH hi (l.drop (0+1))) false=D):=Hd (by rw[HNX.out];exact hD);clear hD;go_wp2_with fail;refine(CD _ (by have:=HB9.out.size;repeat (first|exact HB9.out|apply Below.al|(refine Below.st ?_ (by simp;omega))))).mono ?_;rintro e w9 ⟨rfl,hb9⟩;have hbq:Below w.heap.size w w9:=Below.trans (by have:=HB9.out.size;repeat (first|exact HB9.out|apply Below.al|(refine Below.st ?_ (by simp;omega)))) (hb9.mono (by have:=HB9.out.size;simp;omega));have hxq:Boxes w9 [(w.heap.size+1,[.string (strOf lo),.string (strOf hi)]),(w.heap.size,[.int .i64 pg,.bool false,.slice _ m kc,.slice va vn vc,.slice _ m cc])]:=Boxes.step (by repeat (first|exact HX9.out|apply Boxes.al|(refine Boxes.st ?_ (by intro p hp;simp at hp;rcases hp with rfl|rfl<;>simp<;>omega)))) hb9;have HBQ:=Hd hbq;have HXQ:=Hd hxq;clear hbq hxq hb9 n0 n1 n2 n3 n4 s0 s1 e0 e1 e2 e3 e4 CD hb;cases D with
 | none=>
  exact qf4a7ef
 | some d=>
  have hdi:depI (some d)=(d:Int):=rfl;rw[hdi];clear hdi;have hd9:d+1≤1000:=Nat.le_trans (depthT_lt HD.out) hn;have dz:((d:Int)+1 == 0)=false:=beq_eq_false_iff_ne.2 (by omega);have HR:Hid (depK (fun t lo hi=>depthT (n+1) t lo hi false) lo hi (0+1) (d+1) (l.drop (0+1))=R):=Hd (by rw[←HDK.out];exact(depK_go HC1.out (by rw[HC2.out,HCK.out];exact HD.out) (by simp)).symm);go_wp2_with fail;go_roundw
  case rel=>exact⟨0+1,d+1,by omega,by omega,by go_num,by go_num,HR.out,HBQ.out,HXQ.out⟩
  case measure=>simp[intOf];omega):p:=h
theorem qb94b03 (h:p:=by
 have nC:=one_cell hC (cell_kid [] hA nT ⟨.inr (Nat.le_refl _),hA.lt⟩);have nM:RNodeOn (fun x=>Fr F w4 x∧x<W7.heap.size) (N+2) W7 [.int .i64 0,.bool false,.slice (some ⟨w4.heap.size+1,0,none⟩) 1 1] (.node 0 [([],t)]):=
  RNodeOn.mk (t:=.node 0 [([],t)]) nC (.inr fun b off e=>by cases e;exact⟨.inr (by omega),hC.lt⟩)
 have hmo:MendOk N [([],t)]:=⟨by simp,fun c hc=>by simp at hc;subst hc;exact HO1.out,fun c hc d hd=>by simp at hc hd;subst hc hd;rfl,fun c hc=>by simp at hc;subst hc;exact HO2.out,fun j hj=>by simp at hj⟩
 have CM:=rmend_any (fun _ h=>h.2) nM hmo (k:=0) (by simp);rw[show((0:Nat):Int)=0 from rfl,←hs6] at CM;have HX7:=Hd (hx4.step hb47);have HB7:=Hd hbw7;have HS6:=Hd hs6;clear hx4 hbw4 hb47 hA hC nT nC nM hmo hbw7 hs6;go_wp2_with fail;refine CM.mono ?_;rintro e w8 hq;obtain⟨p1,l1,a1,m1,d1,rfl,hn1,hb1⟩:=hq.split;have hx1:=HX7.out.step hb1;have hbw1:=below_via HB7.out hb1;have z0:=hx1.cell 0 0 rfl rfl;have z1:=hx1.cell 0 1 rfl rfl;have z2:=hx1.cell 0 2 rfl rfl;have y0:=hx1.frozen 0 0 rfl;have y1:=hx1.frozen 0 1 rfl;have y2:=hx1.frozen 0 2 rfl;obtain⟨t0,t1,t2,HE⟩:=rend (F:=F) (w:=w) (hx1.sub (m:=[(w.heap.size+1,[.int .i64 0,.bool false,.slice none 0 0])]) (by simp)) (by omega) (fun hg=>by
  rcases hg with hg|hg
  ·rcases hg.1 with hg|hg
   ·have:=hF _ hg;omega
   ·omega
  ·omega) (fun b hb=>by
  rcases hb with hb|hb
  ·rcases hb.1 with hb|hb
   ·exact .inl hb
   ·exact .inr (by omega)
  ·exact .inr (by omega)) hn1 hbw1
 clear hx1 hn1 hb1 hbw1 hq CM;exact q03511a):p:=h
theorem q779872 (h:p:=by
 generalize partC v i=Q at *;have hpk0:∀W:World,Calls Tryz.prog 169 #[.int .u8 3,.slice (some ⟨W.heap.size,0,none⟩) 1 1] (W.alloc (.cells #[.string (strOf (U++Q))] 9)) (StrPost (W.alloc (.cells #[.string (strOf (U++Q))] 9)) (pageOf 3 [U++Q]) 0):=fun W=>by
  have:=rpack_any 3 (some ⟨W.heap.size,0,none⟩) 1 1 [U++Q] (W.alloc (.cells #[.string (strOf (U++Q))] 9)) (strsC_single W (U++Q) _) (by rw[lens_one,hcl];omega)
  rwa [packV,packE,if_pos HFI.out,if_pos HFI.out] at this
 clear hml hcl;go_wp2_with fail;refine(P _).mono ?_;rintro e w4 ⟨rfl,rfl⟩;go_wp2_with fail;refine(hpk0 _).mono ?_;rintro e w5 ⟨rfl,hb5⟩;have hA8:Below w3.heap.size w3 (w3.alloc (.cells #[.string (strOf (U++Q))] 9)):=(Below.refl _ _).alloc (Nat.le_refl _) _;have hb8:=below_then (below_then HB3.out hA8) hb5;have ho8:=own_below (own_below HO3.out (Nat.le_refl _) hA8) (Nat.le_refl _) hb5;obtain⟨v10,w10,hr10,ho10,hg10,_⟩:=run_append_new (P:=Tryz.prog) (w:=w5) w.heap.size 46 9 k0 _ 1 16 Tryz.underlying46 hk hx0 hx1 hx2 rfl (by decide) ho8 #[.string (strOf (pageOf 3 [U++Q]))] rfl (by intro u hu;simp at hu;subst hu;rfl) (by unfold maxLen;omega) (by omega) hb8.size;have HB10:=Hd (hb8.grown hg10 hb8.size (own_ge ho8));have HO10:Hid (w10.ownsRow w.heap.size 9 1 v10 (i+1) (((List.range (i+1)).map (rpageC v at_)).map sv)):=Hd (by rw[HRS.out,HPGE.out,List.map_append];exact ho10);clear hpk0 hb5 hb8 ho8 ho10 hg10 hA8 P
 go_wp2_with (at_builtin;refine wpList_append_run rfl _ _ _ _ rfl rfl rfl hr10 ?_)
 go_roundw
 case rel=>exact⟨i+1,hlt,by go_num,HO10.out,HB10.out,HT.out HE.out⟩
 case measure=>simp[intOf];omega):p:=h
theorem q299ef4 (h:p:=by
 refine bkw hK (by trivial) (fun hHeld=>?_);clear hK K;refine rdy 5 (fun K hK=>?_);refine step_append_run rfl _ _ _ _ rfl rfl rfl hr9 ?_;refine bkw hK (by trivial) (fun hHeld=>?_);clear hK K;refine tks [6] ?_;refine rdy 7 (fun K hK=>?_);refine step_store_run rfl _ _ _ rfl rfl rfl st1 ?_;refine bkw hK (by trivial) (fun hHeld=>?_);clear hK K;refine wpAnyH_done (by kernel_rfl) ?_ _;refine NoPanic.normal ?_;clear hHeld;go_wp2_with fail;go_roundw
 case rel=>exact⟨k+1,hltk,by go_num,HIN2.out⟩
 case measure=>simp[intOf];omega):p:=h
theorem qceea1d (h:p:=by
 clear zm
 go_region_held3 (fun W=>Boxes W [(bx,[.string (strOf e.key),.string (strOf e.v.data),.bool e.v.far,.int .i64 e.v.size,.int .i64 e.v.page])]) (first|with_reducible assumption|(with_reducible exact B9.step (below_one w9 _))) (first|(go_at_call 65;(with_reducible refine(T1 _).mono ?_);rintro e1 w7 ⟨v7,rfl,ho7,hb7⟩;have hC7:=hC.trans (hb7.mono hC.size);have B7:=B6d.step hb7)|(go_at_call 231;(with_reducible refine(PU _).mono ?_);rintro e1 w8 ⟨v8,rfl,ho8,hb8⟩;have hC8:=hC7.trans (hb8.mono hC7.size);have B8:=B7.step hb8;obtain⟨a8,k8,rfl,hs8⟩:=Bs.of_own ho8;obtain⟨v9,w9,hr9,ho9,hg9,ha9⟩:=append_bytes (own_below (own_baseC (b0:=W6.heap.size) ho7 hC.size) (Nat.le_refl _) hb8) hs8 (by rw[textF_length,encV_length];simp;split<;>omega) hC8.size;have hC9:Below W6.heap.size W6 w9:=hC8.grown hg9 hC8.size (own_ge (own_baseC (b0:=W6.heap.size) ho7 hC.size));have B9:=B6.step hC9;have ho9:=own_cell ho9;obtain⟨a9,k9,rfl,hk91,hk92,hk93⟩:=own_slice ho9;have hown9:=hown6.below (Nat.le_refl _) hC9;obtain⟨v10,w10,hr10,ho10,hg10⟩:=append_bss hown9 ho9 hsz (by rw[cellsN_length,List.length_take];omega) (Nat.le_trans hsz hC9.size);have B10:=B9.grown hg10 (fun p hp=>by simp at hp;subst hp;exact hvb);have hb9:=below_then hbw6 hC9;have hb10:=hb9.grown hg10 hb9.size hvg)|(refine step_append_run rfl _ _ _ _ rfl rfl rfl hr9 ?_)|(refine step_append_run rfl _ _ _ _ rfl rfl rfl hr10 ?_))
 rw[←cellsN_snoc true l k e hy] at ho10;exact q44d2aa):p:=h
theorem qdddc1f (h:p:=by
 clear zm
 go_region_held3 (fun W=>Boxes W [(bx,[.string (strOf e.key),.string (strOf e.v.data),.bool e.v.far,.int .i64 e.v.size,.int .i64 e.v.page])]) (first|with_reducible assumption|(with_reducible exact B9.step (below_one w9 _))) (first|(go_at_call 65;(with_reducible refine(T1 _).mono ?_);rintro e1 w7 ⟨v7,rfl,ho7,hb7⟩;have hC7:=hC.trans (hb7.mono hC.size);have B7:=B6d.step hb7)|(go_at_call 238;(with_reducible refine(PU _).mono ?_);rintro e1 w8 ⟨v8,rfl,ho8,hb8⟩;have hC8:=hC7.trans (hb8.mono hC7.size);have B8:=B7.step hb8;obtain⟨a8,k8,rfl,hs8⟩:=Bs.of_own ho8;obtain⟨v9,w9,hr9,ho9,hg9,ha9⟩:=append_bytes (own_below (own_baseC (b0:=W6.heap.size) ho7 hC.size) (Nat.le_refl _) hb8) hs8 (by rw[textF_length,encV_length];simp;omega) hC8.size;have hC9:Below W6.heap.size W6 w9:=hC8.grown hg9 hC8.size (own_ge (own_baseC (b0:=W6.heap.size) ho7 hC.size));have B9:=B6.step hC9;have ho9:=own_cell ho9;obtain⟨a9,k9,rfl,hk91,hk92,hk93⟩:=own_slice ho9;have hown9:=hown6.below (Nat.le_refl _) hC9;obtain⟨v10,w10,hr10,ho10,hg10⟩:=append_bss hown9 ho9 hsz (by rw[cellsN_length,List.length_take];omega) (Nat.le_trans hsz hC9.size);have B10:=B9.grown hg10 (fun p hp=>by simp at hp;subst hp;exact hvb);have hb9:=below_then hbw6 hC9;have hb10:=hb9.grown hg10 hb9.size hvg)|(refine step_append_run rfl _ _ _ _ rfl rfl rfl hr9 ?_)|(refine step_append_run rfl _ _ _ _ rfl rfl rfl hr10 ?_))
 rw[←cellsN_snoc false l k e hy] at ho10;exact q44d2aa):p:=h
theorem q4d3b76 (h:p:=by
 have hvb:=hown.blk;have hvg:∀j,v.ownBlock=some j→w.heap.size≤j:=by obtain⟨vs,hv,_⟩:=hown;exact own_ge hv
 have hsz:=hbw6.size;clear hown hb6;go_wp2_with fail;clear e0 e1 e2 e3 e4;generalize wr.heap.size=bx at *;generalize wr.alloc _=W6 at *;have c0:∀W,Boxes W [(bx,[.string (strOf e.key),.string (strOf e.v.data),.bool e.v.far,.int .i64 e.v.size,.int .i64 e.v.page])]→W.cell? ⟨bx,0,none⟩=some (.string (strOf e.key)):=fun W hW=>hW.cell 0 0 rfl rfl
 have c1:∀W,Boxes W [(bx,[.string (strOf e.key),.string (strOf e.v.data),.bool e.v.far,.int .i64 e.v.size,.int .i64 e.v.page])]→W.cell? ⟨bx,1,none⟩=some (.string (strOf e.v.data)):=fun W hW=>hW.cell 0 1 rfl rfl
 have c2:∀W,Boxes W [(bx,[.string (strOf e.key),.string (strOf e.v.data),.bool e.v.far,.int .i64 e.v.size,.int .i64 e.v.page])]→W.cell? ⟨bx,2,none⟩=some (.bool e.v.far):=fun W hW=>hW.cell 0 2 rfl rfl
 have c3:∀W,Boxes W [(bx,[.string (strOf e.key),.string (strOf e.v.data),.bool e.v.far,.int .i64 e.v.size,.int .i64 e.v.page])]→W.cell? ⟨bx,3,none⟩=some (.int .i64 e.v.size):=fun W hW=>hW.cell 0 3 rfl rfl
 have c4:∀W,Boxes W [(bx,[.string (strOf e.key),.string (strOf e.v.data),.bool e.v.far,.int .i64 e.v.size,.int .i64 e.v.page])]→W.cell? ⟨bx,4,none⟩=some (.int .i64 e.v.page):=fun W hW=>hW.cell 0 4 rfl rfl
 have hC:Below W6.heap.size W6 W6.drew:=(Below.refl _ _).drew;have B6:Boxes W6 [(bx,[.string (strOf e.key),.string (strOf e.v.data),.bool e.v.far,.int .i64 e.v.size,.int .i64 e.v.page])]:=B6;have B6d:Boxes W6.drew [(bx,[.string (strOf e.key),.string (strOf e.v.data),.bool e.v.far,.int .i64 e.v.size,.int .i64 e.v.page])]:=B6
 first|exact Mk.go 560349 zm qceea1d|exact Mk.go 539807 zm qdddc1f):p:=h
theorem q3dc4f4 (h:p:=by
 clear zm;have hws:ws++(layVs l left).2.1=ws2:=by rw[e4];simp[layVs]
 have hlf:(layVs l left).2.2=left2:=by rw[e6];simp[layVs]
 have hR:layT (n+1) (.leaf 0 l) left=(.leaf P dn,(layVs l left).2.1++[(P,PB)],left2.drop 1):=by
  rw[layT,if_neg hl0,e3,hlf,HP.out,←e2,HPB.out]
 rw[hR];subst e1;have hN:=LM.node (t:=.leaf P dn) (G:=fun b=>F b∨(w.heap.size≤b∧v6.ownBlock≠some b)) HM.out hag (fun b hb hlt9=>by
  rcases hb with hb|hb
  ·exact .inl hb
  ·refine .inr ⟨by have:=HSB.out;omega,fun e=>?_⟩
   rcases hv6 b e with e|e
   ·exact hb.2 e
   ·omega)
 refine⟨P,true,aC,LL.length,cC,v6,la3,lc2-1,rfl,?_,hoF,htW.trans ht6 (by omega),hN⟩;rw[←List.append_assoc,hws];exact hye):p:=h
theorem qab734d (h:p:=by
 clear zm;have hws:ws++(layKs (layT n) l left).2.1=ws2:=by rw[e4];simp[layKs]
 have hlf:(layKs (layT n) l left).2.2=left2:=by rw[e6];simp[layKs]
 have hR:layT (n+1) (.node 0 l) left=(.node P dn,(layKs (layT n) l left).2.1++[(P,PB)],left2.drop 1):=by
  rw[layT,e3,hlf,HP.out,←e2,HPB.out]
 rw[hR];subst e1;have hN:=LM.node (t:=.node P dn) (G:=fun b=>F b∨(w.heap.size≤b∧v6.ownBlock≠some b)) HM.out hag (fun b hb hlt9=>by
  rcases hb with hb|hb
  ·exact .inl hb
  ·refine .inr ⟨by have:=HSB.out;omega,fun e=>?_⟩
   rcases hv6 b e with e|e
   ·exact hb.2 e
   ·omega)
 refine⟨P,false,aC,LL.length,cC,v6,la3,lc2-1,rfl,?_,hoF,htW.trans ht6 (by omega),hN⟩;rw[←List.append_assoc,hws];exact hye):p:=h
theorem q171663 (h:p:=by
 have hoe:Only [w.heap.size+1] w5 we:=by rw[hwe];exact st3_only _ _ _ _ _
 have hye:=hy6.only hoe (fun k hk=>by
  simp at hk;subst hk;refine⟨by omega,fun e=>?_⟩
  rcases hv6 _ e with e|e
  ·exact(hviN _ e).2.2.1 rfl
  ·omega)
 have hoW:Only (RS sb vL) w w4:=((HM.out.ol.trans (HO2.out.mono (fun k hk=>by simp at hk;exact RS.mem.2 (.inl hk)))).then HO3.out (fun k hk=>by simp at hk;subst hk;exact .inr (by omega))).trans (Only.of_below HB4.out);have htW:Turn w vL vi:=HM.out.tu;have hoF:Only (RS sb vL) w we:=(only_next hoW htW ho6).then hoe (fun k hk=>by simp at hk;subst hk;exact .inr (by omega));have hag:AgreeF (fun b=>F b∨(wB.heap.size≤b∧vi.ownBlock≠some b)) wr we:=by
  have hFs:∀b,(F b∨(wB.heap.size≤b∧vi.ownBlock≠some b))→b≠sb∧b≠w.heap.size+1+1∧b≠w.heap.size+1∧vi.ownBlock≠some b:=fun b hb=>by
   rcases hb with hb|hb
   ·have:=HFB.out b hb
    exact⟨by omega,by omega,by omega,fun e=>by have:=(HM.out.ly.ge e).1;omega⟩
   ·have:=HSB.out
    exact⟨by omega,by omega,by omega,hb.2⟩
  refine⟨by have:=hoe.size;have:=ho6.size;omega,fun b hb hlt9=>?_⟩;obtain⟨f1,f2,f3,f4⟩:=hFs b hb;have r1:=HO2.out.block (k:=b) hlt9 (by simpa using f1);have r2:=HO3.out.block (k:=b) (by omega) (by simpa using f2);have r3:=HB4.out.block b (show b<w3.heap.size by omega);have r4:=ho6.block (k:=b) (by omega) (fun hm9=>by rcases RS.mem.1 hm9 with e|e;exact f1 e;exact f4 e);have r5:=hoe.block (k:=b) (by have:=ho6.size;omega) (by simpa using f3);exact r5.trans (r4.trans (r3.trans (r2.trans r1)))
 obtain⟨e1,e2,e3,e4,e6,e7⟩:=HINV.out
 first|exact Mk.go 48116 zm q3dc4f4|exact Mk.go 236173 zm qab734d):p:=h
theorem qa6eaf4 (h:p:=by
 refine bkA hK (fun hHeld=>?_);clear hK K;refine rdy 8 (fun K hK=>?_)
 (refine step_append_run rfl _ _ _ _ rfl rfl rfl hrun2 ?_)
 refine bkA hK (fun hHeld=>?_);clear hK K;refine tks [9] ?_;refine rdy 10 (fun K hK=>?_)
 (rw[if_pos (by rfl)];go_wp2_with (fail))
 refine bkA hK (fun hHeld=>?_);clear hK K;refine wpAnyH_done (by kernel_rfl) ?_ _;refine NoPanic.normal ?_;obtain⟨wy,hwy⟩:∃x,x=(w9.setCell ⟨w5.heap.size+1,4,none⟩ (.slice a9 (i+1) c9)):=⟨_,rfl⟩
 rw[←hwy] at HQ ⊢;clear hwy f8 f9 f7 hA00 hA1 hA3 hA4 hHeld x1 x2 x3 x4 hrun2 o3;go_wp2_with fail;go_roundw
 case rel=>exact⟨i+1,_,_,_,s2,Li++[(key,kid)],hlt,by go_num,by simp;exact HLI.out,HSOK2.out.1,hroom2,HAF2.out,HQ.out⟩
 case measure=>simp[intOf];omega):p:=h
theorem qdf4017 (h:p:=by
 refine bkA hK (fun hHeld=>?_);clear hK K;refine rdy 7 (fun K hK=>?_)
 (refine step_append_run rfl _ _ _ _ rfl rfl rfl hrun2 ?_)
 refine bkA hK (fun hHeld=>?_);clear hK K;refine tks [8] ?_;refine rdy 9 (fun K hK=>?_)
 (rw[if_pos (by rfl)];go_wp2_with (fail))
 refine bkA hK (fun hHeld=>?_);clear hK K;refine wpAnyH_done (by kernel_rfl) ?_ _;refine NoPanic.normal ?_;obtain⟨wy,hwy⟩:∃x,x=(w9.setCell ⟨w5.heap.size+1,3,none⟩ (.slice a9 (i+1) c9)):=⟨_,rfl⟩
 rw[←hwy] at HQ ⊢;clear hwy f8 f9 f7 hA00 hA1 hA3 hA4 hHeld x1 x2 x3 x4 hrun2 o3;go_wp2_with fail;go_roundw
 case rel=>exact⟨i+1,_,_,_,s2,Li++[(key,tv)],hlt,by go_num,by simp;exact HLI.out,HSOK2.out,HAF2.out,HQ.out⟩
 case measure=>simp[intOf];omega):p:=h
theorem qc4edfd (h:p:=by
 clear zm;have HR:Hid (R=none):=Hd (HFAIL.out (rfl));go_wp2_with fail;go_ret;exact⟨by rw[HR.out];rfl,HB1.out⟩):p:=h
theorem q96afa6 (h:p:=by
 clear zm;have HR:Hid (R=none):=Hd (HFAIL.out (by rw[HSZ.out];have:=HLE.out;simp;omega));go_wp2_with fail;go_ret;exact⟨by rw[HR.out];rfl,HB1.out⟩):p:=h
theorem qd23826 (h:p:=by
 clear zm;go_wp2_with fail;refine(CS _ HB1.out).mono ?_;rintro e w2 ⟨v2,rfl,ho2,hb2⟩;obtain⟨sa,sc,rfl,hrow⟩:=Row.of_own ho2;clear ho2;have HB2:=Hd (HB1.out.trans (hb2.mono HB1.out.size));have HX2:=Hd (HX1.out.step hb2);clear n0 n1 n2 n3 n4 s0 s1 hb2;have n0:=HX2.out.cell 1 0 rfl rfl;have n1:=HX2.out.cell 1 1 rfl rfl;have n2:=HX2.out.cell 1 2 rfl rfl;have n3:=HX2.out.cell 1 3 rfl rfl;have n4:=HX2.out.cell 1 4 rfl rfl;have s0:=HX2.out.cell 0 0 rfl rfl;have s1:=HX2.out.cell 0 1 rfl rfl;have HROW:=Hd hrow;clear hrow;obtain⟨sm,hsm⟩:∃x,sumI S=x:=⟨_,rfl⟩
 have CSum:=sum_any _ _ _ _ _ HROW.out HSm.out;rw[hsm] at CSum HSZ;have HSM:=Hd hsm;clear hsm
 by_cases h122:sm≤122
 rotate_left
 ·have d2:decide ((122:Int)<sm)=true:=by simp;omega
  exact q02edb4
 have d2:decide ((122:Int)<sm)=false:=by simp;omega
 have H122:=Hd h122;clear h122;cases root with
 | true=>
  have HP:Hid ((true && SZ)=true):=Hd (by rw[HSZ.out];simp[H122.out];exact HLE.out);go_wp2_with fail;refine CSum.mono ?_;rintro e w3 ⟨rfl,rfl⟩;have HR:Hid (R=some 0):=Hd (HL2.out (by first|rfl|trivial) HP.out);go_wp2_with fail
  go_loop [8,44] (fun s i=>s=.int .i64 0∧i=.int .i64 0) (fun _ _=>0)
  case atStart=>exact⟨rfl,rfl⟩
  case round=>
   obtain⟨rfl,rfl⟩:=hrel;exact qd1db3c
 | false=>
  have CS2:=CS _ HB2.out;go_wp2_with fail;refine CSum.mono ?_;rintro e w3 ⟨rfl,rfl⟩;go_wp2_with fail;refine CS2.mono ?_;rintro e w3 ⟨v3,rfl,ho3,hb3⟩;obtain⟨sb,sd,rfl,hrow3⟩:=Row.of_own ho3;clear ho3 CS2;have HB3:=Hd (HB2.out.trans (hb3.mono HB2.out.size));have HX3:=Hd (HX2.out.step hb3);clear n0 n1 n2 n3 n4 s0 s1 hb3;have n0:=HX3.out.cell 1 0 rfl rfl;have n1:=HX3.out.cell 1 1 rfl rfl;have n2:=HX3.out.cell 1 2 rfl rfl;have n3:=HX3.out.cell 1 3 rfl rfl;have n4:=HX3.out.cell 1 4 rfl rfl;have s0:=HX3.out.cell 0 0 rfl rfl;have s1:=HX3.out.cell 0 1 rfl rfl;have CL:=low_any _ _ _ _ _ hrow3 HSm.out;rw[HSM.out] at CL;clear hrow3
  by_cases h30:sm<30
  ·rw[decide_eq_true h30] at CL
   exact qa5216f
  rw[decide_eq_false h30] at CL;have H30:=Hd h30;clear h30;have HP:Hid ((true && SZ)=true):=Hd (by rw[HSZ.out];have:=H30.out;have:=H122.out;have:=HLE.out;simp;omega);go_wp2_with fail;refine CL.mono ?_;rintro e w4 ⟨rfl,rfl⟩;have HR:Hid (R=some 0):=Hd (HL2.out (by first|rfl|trivial) HP.out);go_wp2_with fail
  go_loop [8,44] (fun s i=>s=.int .i64 0∧i=.int .i64 0) (fun _ _=>0)
  case atStart=>exact⟨rfl,rfl⟩
  case round=>
   obtain⟨rfl,rfl⟩:=hrel;go_wp2_with fail;go_ret;exact⟨by rw[HR.out];rfl,HB3.out⟩):p:=h
theorem qb9067d (h:p:=by
 clear zm;go_wp2_with fail;refine(CS _ HB1.out).mono ?_;rintro e w2 ⟨v2,rfl,ho2,hb2⟩;obtain⟨sa,sc,rfl,hrow⟩:=Row.of_own ho2;clear ho2;have HB2:=Hd (HB1.out.trans (hb2.mono HB1.out.size));have HX2:=Hd (HX1.out.step hb2);clear n0 n1 n2 n3 n4 s0 s1 hb2;have n0:=HX2.out.cell 1 0 rfl rfl;have n1:=HX2.out.cell 1 1 rfl rfl;have n2:=HX2.out.cell 1 2 rfl rfl;have n3:=HX2.out.cell 1 3 rfl rfl;have n4:=HX2.out.cell 1 4 rfl rfl;have s0:=HX2.out.cell 0 0 rfl rfl;have s1:=HX2.out.cell 0 1 rfl rfl;have HROW:=Hd hrow;clear hrow;obtain⟨sm,hsm⟩:∃x,sumI S=x:=⟨_,rfl⟩
 have CSum:=sum_any _ _ _ _ _ HROW.out HSm.out;rw[hsm] at CSum HSZ;have HSM:=Hd hsm;clear hsm
 by_cases h122:sm≤122
 rotate_left
 ·have d2:decide ((122:Int)<sm)=true:=by simp;omega
  exact q02edb4
 have d2:decide ((122:Int)<sm)=false:=by simp;omega
 have H122:=Hd h122;clear h122;cases root with
 | true=>
  have HP:Hid ((true && SZ)=true):=Hd (by rw[HSZ.out];simp[H122.out];exact HLE.out);go_wp2_with fail;refine CSum.mono ?_;rintro e w3 ⟨rfl,rfl⟩;obtain⟨q1,q2,q3,q4,q5⟩:=HL1.out (by first|rfl|trivial);have HQ1:=Hd (q1 HP.out);have HLL:=Hd q2;have HKL:=Hd q3;have HKS:=Hd q4;have HT:=Hd q5;have HK:Hid (∀i,i<m→(K[i]?.getD []).length≤200):=Hd (fun i hi=>by
   have:=(q4 l[i] (List.getElem_mem (by omega))).1;rw[←q3];simpa[keysOf,show i<l.length by omega] using this)
  clear q1 q2 q3 q4 q5 CS CSum;go_wp2_with fail
  go_loopw [8,44] (fun s8 s44 wr=>∃i far:Nat,i≤m∧far≤1000∧s44=.int .i64 i∧s8=.int .i64 far∧depK (fun t lo hi=>depthT n t lo hi false) lo hi i far (l.drop i)=R∧Below w.heap.size w wr∧Boxes wr [(w.heap.size+1,[.string (strOf lo),.string (strOf hi)]),(w.heap.size,[.int .i64 pg,.bool false,.slice ka m kc,.slice va vn vc,.slice ca m cc])]) (fun _ s _=>m-(intOf s).toNat)
  case atStart=>exact⟨0,0,Nat.zero_le _,Nat.zero_le _,rfl,rfl,HQ1.out.symm,HB2.out,HX2.out⟩
  case round=>
   exact q842745
 | false=>
  have CS2:=CS _ HB2.out;go_wp2_with fail;refine CSum.mono ?_;rintro e w3 ⟨rfl,rfl⟩;go_wp2_with fail;refine CS2.mono ?_;rintro e w3 ⟨v3,rfl,ho3,hb3⟩;obtain⟨sb,sd,rfl,hrow3⟩:=Row.of_own ho3;clear ho3 CS2;have HB3:=Hd (HB2.out.trans (hb3.mono HB2.out.size));have HX3:=Hd (HX2.out.step hb3);clear n0 n1 n2 n3 n4 s0 s1 hb3;have n0:=HX3.out.cell 1 0 rfl rfl;have n1:=HX3.out.cell 1 1 rfl rfl;have n2:=HX3.out.cell 1 2 rfl rfl;have n3:=HX3.out.cell 1 3 rfl rfl;have n4:=HX3.out.cell 1 4 rfl rfl;have s0:=HX3.out.cell 0 0 rfl rfl;have s1:=HX3.out.cell 0 1 rfl rfl;have CL:=low_any _ _ _ _ _ hrow3 HSm.out;rw[HSM.out] at CL;clear hrow3
  by_cases h30:sm<30
  ·rw[decide_eq_true h30] at CL
   exact qa5216f
  rw[decide_eq_false h30] at CL;have H30:=Hd h30;clear h30;have HP:Hid ((true && SZ)=true):=Hd (by rw[HSZ.out];have:=H30.out;have:=H122.out;have:=HLE.out;simp;omega);go_wp2_with fail;refine CL.mono ?_;rintro e w4 ⟨rfl,rfl⟩;obtain⟨q1,q2,q3,q4,q5⟩:=HL1.out (by first|rfl|trivial);have HQ1:=Hd (q1 HP.out);have HLL:=Hd q2;have HKL:=Hd q3;have HKS:=Hd q4;have HT:=Hd q5;have HK:Hid (∀i,i<m→(K[i]?.getD []).length≤200):=Hd (fun i hi=>by
   have:=(q4 l[i] (List.getElem_mem (by omega))).1;rw[←q3];simpa[keysOf,show i<l.length by omega] using this)
  clear q1 q2 q3 q4 q5 CS CSum;go_wp2_with fail
  go_loopw [8,44] (fun s8 s44 wr=>∃i far:Nat,i≤m∧far≤1000∧s44=.int .i64 i∧s8=.int .i64 far∧depK (fun t lo hi=>depthT n t lo hi false) lo hi i far (l.drop i)=R∧Below w.heap.size w wr∧Boxes wr [(w.heap.size+1,[.string (strOf lo),.string (strOf hi)]),(w.heap.size,[.int .i64 pg,.bool false,.slice ka m kc,.slice va vn vc,.slice ca m cc])]) (fun _ s _=>m-(intOf s).toNat)
  case atStart=>exact⟨0,0,Nat.zero_le _,Nat.zero_le _,rfl,rfl,HQ1.out.symm,HB3.out,HX3.out⟩
  case round=>
   exact q842745):p:=h
theorem q0fde97 (h:p:=by
 refine CF.mono ?_;rintro e w1 ⟨rfl,hb1⟩;clear CF;have HB1:=Hd (HB.out.trans (hb1.mono HB.out.size));have HX1:=Hd (HX.out.step hb1);clear n0 n1 n2 n3 n4 s0 s1 hb1;have n0:=HX1.out.cell 1 0 rfl rfl;have n1:=HX1.out.cell 1 1 rfl rfl;have n2:=HX1.out.cell 1 2 rfl rfl;have n3:=HX1.out.cell 1 3 rfl rfl;have n4:=HX1.out.cell 1 4 rfl rfl;have s0:=HX1.out.cell 0 0 rfl rfl;have s1:=HX1.out.cell 0 1 rfl rfl
 first|exact Mk.go 905981 zm qc4edfd|exact Mk.go 875366 zm q96afa6|exact Mk.go 776934 zm qd23826|exact Mk.go 125821 zm qb9067d):p:=h
theorem qc8f5eb (h:p:=by
 go_wp2_with (at_builtin;refine wpList_append_run rfl _ _ _ _ rfl rfl rfl hr8 ?_)
 go_roundw
 case rel=>exact⟨i+1,hlt,by go_num,HO8.out,HB8.out,HX8.out,HN8.out⟩
 case measure=>simp[intOf];omega):p:=h
theorem q9ad0fe (h:p:=by
 clear zm;have hx3:Boxes w3 [(w.heap.size+1+1,[.int .i64 P,.bool true,.slice aC LL.length cC]),(w.heap.size+1+1+1,[.bool true,.slice aE es.length cE]),(w.heap.size+1,[.int .i64 0,.bool false,.slice none 0 0])]:=by rw[←hw3];exact hm2.box.put 0 _ (by intro q hq;simp at hq;rcases hq with rfl|rfl<;>simp)
 have hm0:=hx3.cell 1 0 rfl rfl;have hm1:=hx3.cell 1 1 rfl rfl;have hvo:=fun e=>(hm2.vne (g:=w.heap.size+1+1) e).1 rfl
 have hy3:LyIn F w3 sb vi ws2 la3 (lc2-1) (left2.drop 1):=hm2.ly.only ho3 (fun k hk=>by simp at hk;subst hk;exact⟨by omega,hvo⟩);have hre3:w3.ownsRow wB.heap.size 226 5 (.slice aE es.length cE) es.length (es.flatMap ecells):=own_only hm2.re ho3 (fun k hk hm9=>by have:=(hm2.lge hk).1;simp at hm9;omega);obtain⟨aE',cE',eE,hents⟩:=OwnRe.ents (show OwnRe w3 wB.heap.size (.slice aE es.length cE) es from hre3);cases eE;have CP:=rnput_any true aE es.length cE es w3 hents (by have:=HES.out;omega) HSM.out;obtain⟨PB,hPB⟩:∃x,putN true es=x:=⟨_,rfl⟩
 obtain⟨PE,hPE⟩:∃x,putNE true es=x:=⟨_,rfl⟩
 rw[hPB,hPE] at CP;have HPB:=Hd hPB;have HY3:=Hd hy3;have HX3:=Hd hx3;have HO3:=Hd ho3;have HO2:=Hd ho2;have q5:decide ((0:Int)<(1:Int))=true:=by decide
 clear hm2 hy2 ho2R ho2 ho3 hx3 hy3 hre3 hents hPB hPE hvo p0 S1;go_wp2_with fail;refine CP.mono ?_;rintro e w4 ⟨rfl,hb4⟩;have hx4:=HX3.out.step hb4;have o40:=hx4.cell 0 0 rfl rfl;have CWr:=lwrite_any (HY3.out.below hb4) (by have:=HINV.out;omega) P PB;have HX4:=Hd hx4;have HB4:=Hd hb4;have hs4:=hb4.size;clear hx4 hb4 CP p2 b0 u0 hm0 hm1 hw3;go_wp2_with fail;refine CWr.mono ?_;rintro e w5 ⟨rfl,v6,hy6,ho6,ht6⟩;have hs3:=HO3.out.size;have hs1:=HM.out.lt;have hviN:=fun g e=>HM.out.vne (g:=g) e
 have hx5:=HX4.out.only ho6 (by
  exact q7dd336)
 have n0:=hx5.cell 0 0 rfl rfl;have n1:=hx5.cell 0 1 rfl rfl;have n2:=hx5.cell 0 2 rfl rfl;have m0:=hx5.cell 2 0 rfl rfl;have m1:=hx5.cell 2 1 rfl rfl;have m2:=hx5.cell 2 2 rfl rfl;have u0:=hx5.frozen 2 0 rfl;have u1:=hx5.frozen 2 1 rfl;have u2:=hx5.frozen 2 2 rfl;have hxr:Boxes w5 [(w.heap.size+1,[.int .i64 0,.bool false,.slice none 0 0])]:=hx5.sub (by intro q hq;simp at hq ⊢;subst hq;exact .inr (.inr rfl));obtain⟨we,hwe⟩:∃x,x=st3 w5 (w.heap.size+1) (.int .i64 P) (.bool true) (.slice aC LL.length cC):=⟨_,rfl⟩
 have hxe:=st3_box hxr (.int .i64 P) (.bool true) (.slice aC LL.length cC);rw[←hwe] at hxe;have z0:=hxe.cell 0 0 rfl rfl;have z1:=hxe.cell 0 1 rfl rfl;have z2:=hxe.cell 0 2 rfl rfl;have hv6:∀k,v6.ownBlock=some k→(vi.ownBlock=some k∨w4.heap.size≤k):=fun k hk=>by
  rcases ht6 with t|t
  ·exact .inl (t ▸ hk)
  ·exact .inr (t k hk)
 have HE:Hid (LayPost F w sb vL ws (n+1) (layT (n+1) (.leaf 0 l) left) (.returned (.agg #[.int .i64 P,.bool true,.slice aC LL.length cC])) we):=Hd (by
  have zm:=Mk.i 48116;exact q171663)
 clear hx5 hxr hxe hy6 ho6 ht6 hviN hv6;go_wp2_with fail;change bodyPost Tryz.prog _ _ _ _ (st3 w5 (w.heap.size+1) (.int .i64 P) (.bool true) (.slice aC LL.length cC));rw[←hwe];refine bodyPost_ret (v:=.agg #[.int .i64 P,.bool true,.slice aC LL.length cC]) (by simp[results,Tryz.results91,go_sem,z0,z1,z2]) rfl ?_;exact HE.out):p:=h
theorem q2389d9 (h:p:=by
 clear zm;have hx3:Boxes w3 [(w.heap.size+1+1,[.int .i64 P,.bool false,.slice aC LL.length cC]),(w.heap.size+1+1+1,[.bool false,.slice aE es.length cE]),(w.heap.size+1,[.int .i64 0,.bool false,.slice none 0 0])]:=by rw[←hw3];exact hm2.box.put 0 _ (by intro q hq;simp at hq;rcases hq with rfl|rfl<;>simp)
 have hm0:=hx3.cell 1 0 rfl rfl;have hm1:=hx3.cell 1 1 rfl rfl;have hvo:=fun e=>(hm2.vne (g:=w.heap.size+1+1) e).1 rfl
 have hy3:LyIn F w3 sb vi ws2 la3 (lc2-1) (left2.drop 1):=hm2.ly.only ho3 (fun k hk=>by simp at hk;subst hk;exact⟨by omega,hvo⟩);have hre3:w3.ownsRow wB.heap.size 226 5 (.slice aE es.length cE) es.length (es.flatMap ecells):=own_only hm2.re ho3 (fun k hk hm9=>by have:=(hm2.lge hk).1;simp at hm9;omega);obtain⟨aE',cE',eE,hents⟩:=OwnRe.ents (show OwnRe w3 wB.heap.size (.slice aE es.length cE) es from hre3);cases eE;have CP:=rnput_any false aE es.length cE es w3 hents (by have:=HES.out;omega) HSM.out;obtain⟨PB,hPB⟩:∃x,putN false es=x:=⟨_,rfl⟩
 obtain⟨PE,hPE⟩:∃x,putNE false es=x:=⟨_,rfl⟩
 rw[hPB,hPE] at CP;have HPB:=Hd hPB;have HY3:=Hd hy3;have HX3:=Hd hx3;have HO3:=Hd ho3;have HO2:=Hd ho2;have q5:decide ((0:Int)<(1:Int))=true:=by decide
 clear hm2 hy2 ho2R ho2 ho3 hx3 hy3 hre3 hents hPB hPE hvo p0 S1;go_wp2_with fail;refine CP.mono ?_;rintro e w4 ⟨rfl,hb4⟩;have hx4:=HX3.out.step hb4;have o40:=hx4.cell 0 0 rfl rfl;have CWr:=lwrite_any (HY3.out.below hb4) (by have:=HINV.out;omega) P PB;have HX4:=Hd hx4;have HB4:=Hd hb4;have hs4:=hb4.size;clear hx4 hb4 CP p2 b0 u0 hm0 hm1 hw3;go_wp2_with fail;refine CWr.mono ?_;rintro e w5 ⟨rfl,v6,hy6,ho6,ht6⟩;have hs3:=HO3.out.size;have hs1:=HM.out.lt;have hviN:=fun g e=>HM.out.vne (g:=g) e
 have hx5:=HX4.out.only ho6 (by
  exact q7dd336)
 have n0:=hx5.cell 0 0 rfl rfl;have n1:=hx5.cell 0 1 rfl rfl;have n2:=hx5.cell 0 2 rfl rfl;have m0:=hx5.cell 2 0 rfl rfl;have m1:=hx5.cell 2 1 rfl rfl;have m2:=hx5.cell 2 2 rfl rfl;have u0:=hx5.frozen 2 0 rfl;have u1:=hx5.frozen 2 1 rfl;have u2:=hx5.frozen 2 2 rfl;have hxr:Boxes w5 [(w.heap.size+1,[.int .i64 0,.bool false,.slice none 0 0])]:=hx5.sub (by intro q hq;simp at hq ⊢;subst hq;exact .inr (.inr rfl));obtain⟨we,hwe⟩:∃x,x=st3 w5 (w.heap.size+1) (.int .i64 P) (.bool false) (.slice aC LL.length cC):=⟨_,rfl⟩
 have hxe:=st3_box hxr (.int .i64 P) (.bool false) (.slice aC LL.length cC);rw[←hwe] at hxe;have z0:=hxe.cell 0 0 rfl rfl;have z1:=hxe.cell 0 1 rfl rfl;have z2:=hxe.cell 0 2 rfl rfl;have hv6:∀k,v6.ownBlock=some k→(vi.ownBlock=some k∨w4.heap.size≤k):=fun k hk=>by
  rcases ht6 with t|t
  ·exact .inl (t ▸ hk)
  ·exact .inr (t k hk)
 have HE:Hid (LayPost F w sb vL ws (n+1) (layT (n+1) (.node 0 l) left) (.returned (.agg #[.int .i64 P,.bool false,.slice aC LL.length cC])) we):=Hd (by
  have zm:=Mk.i 236173;exact q171663)
 clear hx5 hxr hxe hy6 ho6 ht6 hviN hv6;go_wp2_with fail;change bodyPost Tryz.prog _ _ _ _ (st3 w5 (w.heap.size+1) (.int .i64 P) (.bool false) (.slice aC LL.length cC));rw[←hwe];refine bodyPost_ret (v:=.agg #[.int .i64 P,.bool false,.slice aC LL.length cC]) (by simp[results,Tryz.results91,go_sem,z0,z1,z2]) rfl ?_;exact HE.out):p:=h
theorem qf7335c (h:p:=by
 have hinv:=And.intro e1 (And.intro e2 (And.intro hdn2 (And.intro e4 (And.intro e6 e7))));clear e1 e2 e3 e4 e5 e6 e7 hdn2;obtain⟨bA,offA,hlaA,hbA,hcA⟩:=hm.ly.row.2.2.2.2.resolve_left (by omega);subst hlaA;obtain⟨P,hP⟩:∃x,left2.headD 0=x:=⟨_,rfl⟩
 have hbAF:F bA:=hm.ly.lf _ rfl;have hbAs:=HFB.out bA hbAF;have p0:wr.cell? ⟨bA,offA,none⟩=some (.int .i64 P):=by
  have:=hcA 0 hlen1;rw[←hP,List.headD_eq_head?_getD,List.head?_eq_getElem?];simpa using this
 have hlcm:lc2≤9223372036854775807:=by have:=hm.ly.row.2.2.1;unfold maxLen at this;omega
 have hlc1:1≤lc2:=by have:=hm.ly.row.2.1;omega
 have S1:=lsome_any hm.ly 1 hlen1;have HP:=Hd hP;have HM:=Hd hm;have HES:=Hd hes;have HIN:=Hd hin;have HINV:=Hd hinv;have HLL:=Hd hLL;have HSM:=Hd hsmE;have HL1:=Hd hlen1;clear hm hes hin hinv hdr hdn hLL hsmE hlen1 hcA hP nbr;go_wp2_with fail;refine S1.mono ?_;rintro e w2 ⟨rfl,la3,hy2,ho2⟩;have hs2:=ho2.size;have ho2R:Only (RS sb vi) wr w2:=ho2.mono (fun k hk=>by simp at hk;exact RS.mem.2 (.inl hk));have hm2:=HM.out.turn hy2 ho2R (Turn.refl _ _);have p2:w2.cell? ⟨bA,offA,none⟩=some (.int .i64 P):=(World.cell?_of_block (ho2.block (k:=bA) hbA (by simp;omega))).trans p0;have b0:=hm2.box.cell 0 0 rfl rfl;have u0:=hm2.box.frozen 0 0 rfl;obtain⟨w3,hw3⟩:∃x,w2.setCell ⟨w.heap.size+1+1,0,none⟩ (.int .i64 P)=x:=⟨_,rfl⟩
 have ho3:Only [w.heap.size+1+1] w2 w3:=by rw[←hw3];exact(Only.refl _ _).set _ _ (by simp)
 first|exact Mk.go 146046 zm q9ad0fe|exact Mk.go 329049 zm q2389d9):p:=h
theorem q47fce3 (h:p:=by
 clear zm;obtain⟨X6,hX6⟩:∃z:Bool,(decide ((400:Int)<(0:Int)))=z:=⟨_,rfl⟩
 have HX6:=Hd hX6;obtain⟨A54,hA54⟩:∃z:Bool,((A47 || X6))=z:=⟨_,rfl⟩
 have HA54:=Hd hA54;have hfa:fitAt lo hi false (keysOf l) i=((F == E) && (!X2 && ((!P || !X3) && ((F || !X4) && (!Hn || !X5))))):=by
  have h9:=fitAt_any (lo:=lo) (hi:=hi) (leaf:=false) (F:=F) HKK.out hkp (by rw[Bool.not_false,Bool.and_true];exact HF.out) hP;rw[hE,hkl0,hX2,hHn,hX5,hX3,hX4] at h9;exact h9
 have hx6:X6=false:=by rw[←hX6];decide
 have hbo:∀(E F X2 P X3 X4 Hn X5:Bool),(!(((F == E) && (!X2 && ((!P || !X3) && ((F || !X4) && (!Hn || !X5))))) && true))=((((((F != E) || X2) || (P && X3)) || (!F && X4)) || (Hn && X5)) || false):=by decide
 have HBD:Hid (BAD=A54):=Hd (by
  rw[HBAD.out,hfa,HVN.out,←hA54,hx6,←hA47,←hY5,←hA37,←hY4,←hNF,←hA27,←hY3,←hA11,←hX1];exact hbo _ _ _ _ _ _ _ _)
 clear hbo;clear hE hX1 hX2 hA11 hX3 hY3 hA27 hX4 hA37 hHn hX5 hY5 hA47 hX6 hA54 hfa hP hkp hip hx6 hNF hY4;have T1:∀W,Below wc.heap.size wc W→W.cell? ⟨w.heap.size,1,none⟩=some (.bool false):=fun W hW=>(HX.out.step hW).cell 1 1 rfl rfl
 have T2:∀W,Below wc.heap.size wc W→W.cell? ⟨w.heap.size,2,none⟩=some (.slice (some ⟨b,off,none⟩) m c):=fun W hW=>(HX.out.step hW).cell 1 2 rfl rfl
 have M0:∀W,Below wc.heap.size wc W→W.cell? ⟨wr.heap.size,0,none⟩=some (.string (strOf k)):=fun W hW=>(HX.out.step hW).cell 0 0 rfl rfl
 have M1:∀W,Below wc.heap.size wc W→W.cell? ⟨wr.heap.size,1,none⟩=some (.string (strOf [])):=fun W hW=>(HX.out.step hW).cell 0 1 rfl rfl
 have M2:∀W,Below wc.heap.size wc W→W.cell? ⟨wr.heap.size,2,none⟩=some (.slice pa 0 pc):=fun W hW=>(HX.out.step hW).cell 0 2 rfl rfl
 have M3:∀W,Below wc.heap.size wc W→W.cell? ⟨wr.heap.size,3,none⟩=some (.slice (some ⟨bk,okk,none⟩) 1 kc):=fun W hW=>(HX.out.step hW).cell 0 3 rfl rfl
 clear u1 u2 m0 m1 m2 m3 hx hb;refine wp_region_noPanic ?_;refine wp_region_held_drew (S:=(fun W=>Below wc.heap.size wc W)) (by kernel_rfl) (Below.dr (Below.refl _ _)) (fun hHeld=>?_);change wpAnyH _ _ _ _ _ 78 [false,false,false,false,false,false,false,false,false,false,false,false,false,false,false,false,false,false,false,false,false,false,false,false,false,false,false,false,false,false,false,false,false,false,false,false,false,false,false,false,false,false,false,false,false,false,false,false,false,false,false,false,false,false,false,false,false,false,false,false,false,false,false,false,false,false,false,false,false,false,false,false,false,false,false,false,false,false].toArray _ _;refine tka 0 (.bool F) ?_;have zm:=Mk.i 22453;exact q23e8d2):p:=h
theorem q53c402 (h:p:=by
 clear zm;obtain⟨X6,hX6⟩:∃z:Bool,(decide ((400:Int)<(dl:Int)))=z:=⟨_,rfl⟩
 have HX6:=Hd hX6;obtain⟨A54,hA54⟩:∃z:Bool,((A47 || X6))=z:=⟨_,rfl⟩
 have HA54:=Hd hA54;have hfa:fitAt lo hi true (keysOf l) i=((false == E) && (!X2 && ((!P || !X3) && ((false || !X4) && (!Hn || !X5))))):=by
  have h9:=fitAt_any (lo:=lo) (hi:=hi) (leaf:=true) (F:=false) HKK.out hkp (by simp) hP;rw[hE,hkl0,hX2,hHn,hX5,hX3,hX4] at h9;exact h9
 obtain⟨Gp,hGp⟩:∃z:Bool,(decide ((0:Int)<(pn:Int)))=z:=⟨_,rfl⟩
 have HGp:=Hd hGp;obtain⟨nd,hnd⟩:∃z,needC (dl:Int)=z:=⟨_,rfl⟩
 rw[hnd] at CN;obtain⟨X7,hX7⟩:∃z:Bool,(decide (nd=0))=z:=⟨_,rfl⟩
 have HX7:Hid ((X7=true∧((nd:Int) == 0)=true)∨(X7=false∧((nd:Int) == 0)=false)):=Hd (by
  rw[←hX7]
  by_cases h:nd=0
  ·exact .inl ⟨decide_eq_true h,by simp[h]⟩
  ·exact .inr ⟨decide_eq_false h,beq_eq_false_iff_ne.2 (by omega)⟩)
 have hvb:valB yv=(!X6 && !(Gp && X7)):=by
  have h9:=valB_bools HDL.out HPN.out hnd;rw[hX6,hGp,hX7] at h9;exact h9
 have hbo:∀(E X2 P X3 X4 Hn X5 X6 Gp X7:Bool),(!(((false == E) && (!X2 && ((!P || !X3) && ((false || !X4) && (!Hn || !X5))))) && (!X6 && !(Gp && X7))))=(((((((false != E) || X2) || (P && X3)) || X4) || (Hn && X5)) || X6) || (Gp && X7)):=by decide
 have HBD:Hid (BAD=(A54 || (Gp && X7))):=Hd (by
  rw[HBAD.out,hfa,hvb,←hA54,←hA47,←hY5,←hA37,←hA27,←hY3,←hA11,←hX1];exact hbo _ _ _ _ _ _ _ _ _ _)
 clear hbo;clear hE hX1 hX2 hA11 hX3 hY3 hA27 hX4 hA37 hHn hX5 hY5 hA47 hX6 hA54 hfa hP hkp hip hGp hnd hX7 hvb;have T1:∀W,Below wc.heap.size wc W→W.cell? ⟨w.heap.size,1,none⟩=some (.bool true):=fun W hW=>(HX.out.step hW).cell 1 1 rfl rfl
 have T2:∀W,Below wc.heap.size wc W→W.cell? ⟨w.heap.size,2,none⟩=some (.slice (some ⟨b,off,none⟩) m c):=fun W hW=>(HX.out.step hW).cell 1 2 rfl rfl
 have M0:∀W,Below wc.heap.size wc W→W.cell? ⟨wr.heap.size,0,none⟩=some (.string (strOf k)):=fun W hW=>(HX.out.step hW).cell 0 0 rfl rfl
 have M1:∀W,Below wc.heap.size wc W→W.cell? ⟨wr.heap.size,1,none⟩=some (.string (strOf yv.data)):=fun W hW=>(HX.out.step hW).cell 0 1 rfl rfl
 have M2:∀W,Below wc.heap.size wc W→W.cell? ⟨wr.heap.size,2,none⟩=some (.slice pa pn pc):=fun W hW=>(HX.out.step hW).cell 0 2 rfl rfl
 have M3:∀W,Below wc.heap.size wc W→W.cell? ⟨wr.heap.size,3,none⟩=some (.slice ka 0 kc):=fun W hW=>(HX.out.step hW).cell 0 3 rfl rfl
 clear u1 u2 m0 m1 m2 m3 hx hb;refine wp_region_noPanic ?_;refine wp_region_held_drew (S:=(fun W=>Below wc.heap.size wc W)) (by kernel_rfl) (Below.dr (Below.refl _ _)) (fun hHeld=>?_);change wpAnyH _ _ _ _ _ 78 [false,false,false,false,false,false,false,false,false,false,false,false,false,false,false,false,false,false,false,false,false,false,false,false,false,false,false,false,false,false,false,false,false,false,false,false,false,false,false,false,false,false,false,false,false,false,false,false,false,false,false,false,false,false,false,false,false,false,false,false,false,false,false,false,false,false,false,false,false,false,false,false,false,false,false,false,false,false].toArray _ _;refine tka 0 (.bool false) ?_;have zm:=Mk.i 790894;exact q23e8d2):p:=h
theorem qc3eb6e (h:p:=by
 have HA37:=Hd hA37;obtain⟨Hn,hHn⟩:∃z:Bool,(!decide (hi=[]))=z:=⟨_,rfl⟩
 have HHn:Hid ((Hn=false∧(strOf hi).toList=[]∧(strOf hi).toList.isEmpty=true)∨(Hn=true∧¬(strOf hi).toList=[]∧(strOf hi).toList.isEmpty=false)):=Hd (by
  rw[←hHn]
  by_cases h:hi=[]
  ·exact .inl ⟨by simp[h],str_empty h⟩
  ·exact .inr ⟨by simp[h],str_some h⟩)
 obtain⟨X5,hX5⟩:∃z:Bool,(!decide (k<hi))=z:=⟨_,rfl⟩
 have HX5:Hid ((X5=true∧k=hi∧Op.bytesLess (strOf k).toList (strOf k).toList=false∧((strOf k).toList == (strOf k).toList)=true)∨(X5=false∧Op.bytesLess (strOf k).toList (strOf hi).toList=true∧((strOf k).toList == (strOf hi).toList)=false∧Op.bytesLess (strOf hi).toList (strOf k).toList=false∧((strOf hi).toList == (strOf k).toList)=false)∨(X5=true∧Op.bytesLess (strOf hi).toList (strOf k).toList=true∧((strOf hi).toList == (strOf k).toList)=false∧Op.bytesLess (strOf k).toList (strOf hi).toList=false∧((strOf k).toList == (strOf hi).toList)=false)):=Hd (by
  rw[←hX5]
  rcases ktri k hi with h|h|h
  ·exact .inr (.inl ⟨by simp[h],cmp_lt h⟩)
  ·exact .inl ⟨by simp[h,klt_irrefl],h,cmp_eq k⟩
  ·exact .inr (.inr ⟨by simp[klt_asymm h],cmp_lt h⟩))
 obtain⟨Y5,hY5⟩:∃z:Bool,((Hn && X5))=z:=⟨_,rfl⟩
 have HY5:=Hd hY5;obtain⟨A47,hA47⟩:∃z:Bool,((A37 || Y5))=z:=⟨_,rfl⟩
 have HA47:=Hd hA47
 first|exact Mk.go 717795 zm q47fce3|exact Mk.go 489666 zm q53c402):p:=h
theorem q6924f0 (h:p:=by
 clear zm;have g0:=hx2.cell 1 0 rfl rfl;have g1:=hx2.cell 1 1 rfl rfl;have g2:=hx2.cell 1 2 rfl rfl;have hF2:∀b,F b→b<W2.heap.size:=fun b hb=>by have:=hF b hb;omega
 have CP:=parted_any hF2 (H.out.below hb2) ho.len (by rw[hkd];exact hkb) hk;rw[hml] at CP;have HX2:=Hd hx2;have HB2:=Hd hb2;have HR:=Hd h1;have HO:=Hd ho;have HON:=Hd hon;have HSM:=Hd hsm;have HKB:=Hd hkb;have HKD:=Hd hkd;have HKL:=Hd hkl;have HLM:=Hd hlm;have HD0:=Hd d0;have HD3:=Hd d3;have HCK:=Hd hck;have hks:k<m:=by omega
 clear hx2 hb2 h1 ho hon hsm hkb hkd hkl hlm d0 d1 d2 d3 hck h hkr hfr hml hkp hkm hkx e1 hfa hk;go_enter Tryz.func127,Tryz.ntmps127;go_wp2_with fail;refine CP.mono ?_;rintro e w1 hpt;obtain⟨a1,c1,rfl,hn1,hb1⟩:=hpt.split;clear CP g0 g1 g2 hW2 hpt;obtain⟨T1,hT1⟩:∃T,splitR p l k=T:=⟨_,rfl⟩
 rw[hT1] at hn1 ⊢;have HT1:=Hd hT1;obtain⟨B1,hB1⟩:∃B,(splitT l k).isSome=B:=⟨_,rfl⟩
 rw[hB1];have HB1:=Hd hB1;obtain⟨p1,hp1⟩:∃x,T1.page=x:=⟨_,rfl⟩
 obtain⟨l1,hl1⟩:∃x,T1.isLeaf=x:=⟨_,rfl⟩
 obtain⟨m1,hm1⟩:∃x,cntT T1=x:=⟨_,rfl⟩
 rw[hp1,hl1,hm1] at hn1 ⊢;obtain⟨W3,hW3⟩:∃x,w1.alloc (.cells #[.int .i64 p1,.bool l1,.slice a1 m1 c1] 27)=x:=⟨_,rfl⟩
 have hb13:Below w1.heap.size w1 W3:=by rw[←hW3];exact Below.al (Below.refl _ _)
 have hb3:Below w.heap.size w W3:=below_via HB2.out (below_via hb1 hb13);have hx3:Boxes W3 [(w1.heap.size,[.int .i64 p1,.bool l1,.slice a1 m1 c1]),(w.heap.size+1,[.int .i64 0,.bool false,.slice none 0 0]),(w.heap.size,[.int .i64 p,.bool false,.slice (some ⟨b,off,none⟩) m c])]:=by
  rw[←hW3];exact(HX2.out.step hb1).alloc #[.int .i64 p1,.bool l1,.slice a1 m1 c1] 27 (b:=w1.heap.size) rfl
 have hs1:w.heap.size+2≤w1.heap.size:=by have:=hb1.size;omega
 have hn3:=hn1.below hb13;have hFW:∀b,Fr F W2 b→Fr F w b:=fun b hb=>by
  rcases hb with hb|hb
  ·exact .inl hb
  ·exact .inr (by omega)
 have q0:=hx3.cell 1 0 rfl rfl;have q1:=hx3.cell 1 1 rfl rfl;have q2:=hx3.cell 1 2 rfl rfl;have q0':=hx3.frozen 1 0 rfl;have q1':=hx3.frozen 1 1 rfl;have q2':=hx3.frozen 1 2 rfl;have hGr:¬Fr F W2 (w.heap.size+1):=fun hg=>by
  rcases hg with hg|hg
  ·have:=hF _ hg;omega
  ·omega
 cases B1 with
 | true=>
  have hmt:mendT p l k=T1:=by
   rw[←HT1.out];exact mend_split hB1
  have r0:=hx3.cell 0 0 rfl rfl;have r1:=hx3.cell 0 1 rfl rfl;have r2:=hx3.cell 0 2 rfl rfl;have HE:Hid (RNodeTo F (n+2) w (mendT p l k) (.returned (.agg #[.int .i64 p1,.bool l1,.slice a1 m1 c1])) (((W3.setCell ⟨w.heap.size+1,0,none⟩ (.int .i64 p1)).setCell ⟨w.heap.size+1,1,none⟩ (.bool l1)).setCell ⟨w.heap.size+1,2,none⟩ (.slice a1 m1 c1))):=Hd (by
   rw[hmt];exact rnode_end (by omega) hGr hFW hn3 hb3)
  have hxe:=(((hx3.sub (m:=[(w.heap.size+1,[.int .i64 0,.bool false,.slice none 0 0])]) (by simp)).put 0 (.int .i64 p1) (by simp)).put 1 (.bool l1) (by simp)).put 2 (.slice a1 m1 c1) (by simp);have t0:=hxe.cell 0 0 rfl rfl;have t1:=hxe.cell 0 1 rfl rfl;have t2:=hxe.cell 0 2 rfl rfl;clear hx3 hxe hn1 hn3 hb1 hb13 hb3 hp1 hl1 hm1 hT1 hB1 hmt;go_wp2_with fail;refine bodyPost_ret (v:=.agg #[.int .i64 p1,.bool l1,.slice a1 m1 c1]) (by simp only[results,Tryz.results127];simp[go_sem,t0,t1,t2]) rfl HE.out
 | false=>
 have hsn:splitT l k=none:=by
  cases hs:splitT l k with
  | none=>rfl
  | some q=>rw[hs] at hB1;cases hB1
 have hTn:T1=.node p l:=by rw[←HT1.out];unfold splitR;rw[hsn]
 have v2:=hx3.cell 2 2 rfl rfl;have v3:=(hb3.cell (p:=⟨b,off+k*4+3,none⟩) hbb).trans HD3.out;have k0:W3.cell? ⟨bk,ok,none⟩=some (.int .i64 kp):=(hb3.cell (p:=⟨bk,ok,none⟩) hbk).trans (by simpa using HCK.out 0 _ rfl);have k1:W3.cell? ⟨bk,ok+1,none⟩=some (.bool kl):=(hb3.cell (p:=⟨bk,ok+1,none⟩) hbk).trans (by simpa using HCK.out 1 _ rfl);have k2:W3.cell? ⟨bk,ok+2,none⟩=some (.slice ak km ck):=(hb3.cell (p:=⟨bk,ok+2,none⟩) hbk).trans (by simpa using HCK.out 2 _ rfl);have CS:=rsizes_any (HON.out.below hb3) HKB.out;have HX3:=Hd hx3;have HB3:=Hd hb3;have HSN:=Hd hsn;clear hx3 hb3 hb13 hn1 hn3 hb1 hp1 hl1 hm1 hT1 hB1 hTn hsn HT1 q0 q1 q2 q0' q1' q2' hGr hFW;go_wp2_with fail;refine CS.mono ?_;rintro e w4 ⟨v4,rfl,ho4,hb4⟩;obtain⟨a4,c4,rfl,hrow⟩:=Row.of_own ho4;go_wp2_with fail;refine(refLow_any _ _ _ _ _ hrow HSM.out).mono ?_;rintro e w5 ⟨rfl,rfl⟩;obtain⟨LB,hLB⟩:∃z,decide (sumI (sizesT kid)<30)=z:=⟨_,rfl⟩
 rw[hLB];have hlow:lowT kid=LB:=hLB;have hx4:=HX3.out.step hb4;have hb4w:=below_via HB3.out hb4;have HE:(LB=false∨m<2)→Hid (RNodeTo F (n+2) w (mendT p l k) (.returned (.agg #[.int .i64 p,.bool false,.slice (some ⟨b,off,none⟩) m c])) (((w4.setCell ⟨w.heap.size+1,0,none⟩ (.int .i64 p)).setCell ⟨w.heap.size+1,1,none⟩ (.bool false)).setCell ⟨w.heap.size+1,2,none⟩ (.slice (some ⟨b,off,none⟩) m c))):=fun hc=>Hd (by
  rw[mend_same (by rw[HSN.out];rfl) (by rw[HKD.out,hlow,HLM.out];exact hc)];refine rnode_end (by omega) (G:=F) (fun hg=>by have:=hF _ hg;omega) (fun b hb=>.inl hb) ?_ hb4w;have:=H.out.below hb4w;rw[show cntT (.node p l)=m from HLM.out] at this;exact this)
 have n0:=hx4.cell 2 0 rfl rfl;have n1:=hx4.cell 2 1 rfl rfl;have n2:=hx4.cell 2 2 rfl rfl;have q0:=hx4.cell 1 0 rfl rfl;have q1:=hx4.cell 1 1 rfl rfl;have q2:=hx4.cell 1 2 rfl rfl;have q0':=hx4.frozen 1 0 rfl;have q1':=hx4.frozen 1 1 rfl;have q2':=hx4.frozen 1 2 rfl;have hxe:=(((hx4.sub (m:=[(w.heap.size+1,[.int .i64 0,.bool false,.slice none 0 0])]) (by simp)).put 0 (.int .i64 p) (by simp)).put 1 (.bool false) (by simp)).put 2 (.slice (some ⟨b,off,none⟩) m c) (by simp);have t0:=hxe.cell 0 0 rfl rfl;have t1:=hxe.cell 0 1 rfl rfl;have t2:=hxe.cell 0 2 rfl rfl;have HX4:=Hd hx4;have HB4:=Hd hb4w;clear hrow ho4 CS v2 v3 k0 k1 k2 hx4 hxe hb4 hb4w hW3;cases LB with
 | false=>
  have HE1:=HE (.inl rfl);exact qce611d
 | true=>
 by_cases hm2:m<2
 ·have HE1:=HE (.inr hm2)
  have hm2':(m:Int)<2:=by omega
  exact qce611d
 have hm2':¬((m:Int)<2):=by omega
 have HLOW:=Hd hlow;obtain⟨j,hj⟩:∃j,joinAt m k=j:=⟨_,rfl⟩
 have hj1:j+1<m:=by rw[←hj];unfold joinAt;split<;>omega
 have hjk:(neighF (m:Int) (k:Int)<k∧neighF (m:Int) (k:Int)=(j:Int))∨(¬neighF (m:Int) (k:Int)<k∧j=k):=by
  rw[←hj];unfold joinAt neighF
  split
  ·right;split<;>omega
  ·left;split<;>omega
 have CN:=fun W=>refNeighbour_any (m:Int) (k:Int) W (by omega) (by omega)
 obtain⟨z,hz⟩:∃z,neighF (m:Int) (k:Int)=z:=⟨_,rfl⟩
 simp only[hz] at hjk CN;have HJ:=Hd hj;have HJK:=Hd hjk;clear hlow hLB HE t0 t1 t2 n0 n1 q0 q1 q2 q0' q1' q2' hj hjk hz;go_wp2_with fail;refine(CN _).mono ?_;rintro e w5 ⟨rfl,rfl⟩;clear CN
 go_upto_if 47 with(fail)
 go_cut [1] (fun s1 wq=>s1=.int .i64 (j:Int)∧wq=w4)
 case first=>
  rcases HJK.out with⟨h1,h2⟩|⟨h1,h2⟩
  ·go_wp2_with fail
   go_meet;exact⟨by rw[h2],rfl⟩
  ·go_wp2_with fail
   go_meet;exact⟨by rw[h2],rfl⟩
 case rest=>
 obtain⟨rfl,rfl⟩:=hcut;obtain⟨_,_,ba,oa,acs,_,_,_,kca,e',_,hba,hona,ca0,_,_,ca3,hcka,hka1,hka2⟩:=RNodeOn.kid HR.out (show j<m by omega);cases e';obtain⟨_,_,bb,ob,bcs,_,_,_,kcb,e',_,hbb',honb,cb0,_,_,cb3,hckb,hkb1,hkb2⟩:=RNodeOn.kid HR.out hj1;cases e';obtain⟨jm,hjm,hjx⟩:=kid_mem (l:=l) (k:=j) (by have:=HLM.out;omega);obtain⟨jm',hjm',hjx'⟩:=kid_mem (l:=l) (k:=j+1) (by have:=HLM.out;omega);have bna:Bnd (n+1) (kidAt l j):=by rw[←hjx];exact HO.out.bnd _ hjm
 have bnb:Bnd (n+1) (kidAt l (j+1)):=by rw[←hjx'];exact HO.out.bnd _ hjm'
 have hkind:(kidAt l j).isLeaf=(kidAt l (j+1)).isLeaf:=by rw[←hjx,←hjx'];exact HO.out.kind _ hjm _ hjm'
 obtain⟨A,hA⟩:∃x,kidAt l j=x:=⟨_,rfl⟩
 obtain⟨B,hB⟩:∃x,kidAt l (j+1)=x:=⟨_,rfl⟩
 obtain⟨key,hkey⟩:∃x,keyAt l (j+1)=x:=⟨_,rfl⟩
 rw[hA] at hona bna hkind;rw[hB] at honb bnb hkind;rw[hkey] at cb0;obtain⟨aa,ca,rfl,hra,_⟩:=hona.at;obtain⟨ab,cb,rfl,hrb,_⟩:=honb.at;have ham9:cntT A≤1000:=by cases A<;>exact bna.1
 have hbm9:cntT B≤1000:=by cases B<;>exact bnb.1
 obtain⟨am,hamE⟩:∃x,cntT A=x:=⟨_,rfl⟩
 obtain⟨bm,hbmE⟩:∃x,cntT B=x:=⟨_,rfl⟩
 obtain⟨ap,hap⟩:∃x,A.page=x:=⟨_,rfl⟩
 obtain⟨bp,hbp⟩:∃x,B.page=x:=⟨_,rfl⟩
 obtain⟨lf,hlf⟩:∃x,A.isLeaf=x:=⟨_,rfl⟩
 have hlfB:B.isLeaf=lf:=by rw[←hkind];exact hlf
 rw[hamE,hap,hlf] at hcka;rw[hbmE,hbp,hlfB] at hckb;rw[hamE] at hra ham9;rw[hbmE] at hrb hbm9;have hb4:=HB4.out;have hx4:=HX4.out;have hs41:w1.heap.size<wc.heap.size:=hx4.lt 0 rfl;have hs4:w.heap.size+2<wc.heap.size+1:=by have:=hx4.lt 0 rfl;omega
 have v3:=(hb4.cell (p:=⟨b,off+j*4+3,none⟩) hbb).trans ca3;have k0:wc.cell? ⟨ba,oa,none⟩=some (.int .i64 ap):=(hb4.cell (p:=⟨ba,oa,none⟩) hba).trans (by simpa using hcka 0 _ rfl);have k1:wc.cell? ⟨ba,oa+1,none⟩=some (.bool lf):=(hb4.cell (p:=⟨ba,oa+1,none⟩) hba).trans (by simpa using hcka 1 _ rfl);have k2:wc.cell? ⟨ba,oa+2,none⟩=some (.slice aa am ca):=(hb4.cell (p:=⟨ba,oa+2,none⟩) hba).trans (by simpa using hcka 2 _ rfl);obtain⟨W9,hW9⟩:∃x,wc.alloc (.cells #[.int .i64 ap,.bool lf,.slice aa am ca] 27)=x:=⟨_,rfl⟩
 have hx9:Boxes W9 [(wc.heap.size,[.int .i64 ap,.bool lf,.slice aa am ca]),(w1.heap.size,[.int .i64 p1,.bool l1,.slice a1 m1 c1]),(w.heap.size+1,[.int .i64 0,.bool false,.slice none 0 0]),(w.heap.size,[.int .i64 p,.bool false,.slice (some ⟨b,off,none⟩) m c])]:=by
  rw[←hW9];exact hx4.alloc #[.int .i64 ap,.bool lf,.slice aa am ca] 27 (b:=wc.heap.size) rfl
 have hbc9:Below wc.heap.size wc W9:=by rw[←hW9];exact Below.al (Below.refl _ _)
 have hb9:=below_via hb4 hbc9;have hs9:W9.heap.size=wc.heap.size+1:=by rw[←hW9];simp
 have y2:=hx9.cell 3 2 rfl rfl;have y3:=(hb9.cell (p:=⟨b,off+(j+1)*4+3,none⟩) hbb).trans cb3;have z0:W9.cell? ⟨bb,ob,none⟩=some (.int .i64 bp):=(hb9.cell (p:=⟨bb,ob,none⟩) hbb').trans (by simpa using hckb 0 _ rfl);have z1:W9.cell? ⟨bb,ob+1,none⟩=some (.bool lf):=(hb9.cell (p:=⟨bb,ob+1,none⟩) hbb').trans (by simpa using hckb 1 _ rfl);have z2:W9.cell? ⟨bb,ob+2,none⟩=some (.slice ab bm cb):=(hb9.cell (p:=⟨bb,ob+2,none⟩) hbb').trans (by simpa using hckb 2 _ rfl);obtain⟨W10,hW10⟩:∃x,W9.alloc (.cells #[.int .i64 bp,.bool lf,.slice ab bm cb] 27)=x:=⟨_,rfl⟩
 have hx10:Boxes W10 [(wc.heap.size+1,[.int .i64 bp,.bool lf,.slice ab bm cb]),(wc.heap.size,[.int .i64 ap,.bool lf,.slice aa am ca]),(w1.heap.size,[.int .i64 p1,.bool l1,.slice a1 m1 c1]),(w.heap.size+1,[.int .i64 0,.bool false,.slice none 0 0]),(w.heap.size,[.int .i64 p,.bool false,.slice (some ⟨b,off,none⟩) m c])]:=by
  rw[←hW10];exact hx9.alloc #[.int .i64 bp,.bool lf,.slice ab bm cb] 27 (b:=wc.heap.size+1) (by omega)
 have hbc10:Below W9.heap.size W9 W10:=by rw[←hW10];exact Below.al (Below.refl _ _)
 have hb10:=below_via hb9 hbc10;have hs10:W10.heap.size=wc.heap.size+2:=by rw[←hW10];simp;omega
 have x1:=hx10.cell 1 1 rfl rfl;have hjw:IntKind.i64.wrap ((j:Int)+1)=(j:Int)+1:=IntWalk.i64_in _ (by omega);have hj1':((j:Int)+1)<(m:Int):=by omega
 have HX10:=Hd hx10;have HB10:=Hd hb10;clear hx4 hx9 hx10 hb4 hb9 hbc9 hb10 hbc10;go_upto_region 12 with(fail)
 have hx10:=HX10.out;have hb10:=HB10.out;obtain⟨W11,hW11⟩:∃x,x=W10.alloc (.cells #[.int .i64 0,.bool lf,.slice none 0 0] 27):=⟨_,rfl⟩
 rw[←hW11];clear hW9 hW10 v3 k0 k1 k2 y2 y3 z0 z1 z2 x1;have hx11:Boxes W11 [(wc.heap.size+2,[.int .i64 0,.bool lf,.slice none 0 0]),(wc.heap.size+1,[.int .i64 bp,.bool lf,.slice ab bm cb]),(wc.heap.size,[.int .i64 ap,.bool lf,.slice aa am ca]),(w1.heap.size,[.int .i64 p1,.bool l1,.slice a1 m1 c1]),(w.heap.size+1,[.int .i64 0,.bool false,.slice none 0 0]),(w.heap.size,[.int .i64 p,.bool false,.slice (some ⟨b,off,none⟩) m c])]:=by
  rw[hW11];exact hx10.alloc #[.int .i64 0,.bool lf,.slice none 0 0] 27 (b:=wc.heap.size+2) (by omega)
 have hbc11:Below W10.heap.size W10 W11:=by rw[hW11];exact Below.al (Below.refl _ _)
 have hb11:=below_via hb10 hbc11;have hs11:W11.heap.size=wc.heap.size+3:=by rw[hW11];simp;omega
 have hF11:∀b,F b→b<W11.heap.size:=fun b hb=>by have:=hF b hb;omega
 have c0:CellsF 145 F n W11.heap.size W11 (.slice none 0 0) []:=CellsF.nil _ _ _ _ _;obtain⟨v12,w12,hr12,c12,hg12⟩:=c0.row Tryz.underlying25 info_Cw (Nat.le_refl _) hF11 (by simp) (TabR.mono (TabR.below (Nat.le_refl _) hb11 hra) (fun _ _ hy=>RcOn.below hy hb11)) (by omega);rw[List.nil_append] at c12;obtain⟨a12,d12,ev12,_,_,_,_⟩:=(c12.own hF11).sl;rw[cellsR_len,hamE] at ev12;subst ev12;have o0:=hx11.cell 0 2 rfl rfl;have o1:=hx11.cell 2 2 rfl rfl;have hx12:=hx11.grown hg12 (by intro q hq e;cases e);have hbc12:Below W11.heap.size W11 w12:=(Below.refl _ _).grown hg12 (Nat.le_refl _) (fun g hg=>by cases hg);have hb12:=below_via hb11 hbc12;have o2:=hx12.cell 0 2 rfl rfl;have o2':=hx12.frozen 0 2 rfl;have hx13:=hx12.put 2 (.slice a12 am d12) (by simp;omega);obtain⟨W13,hW13⟩:∃x,w12.setCell ⟨wc.heap.size+2,2,none⟩ (.slice a12 am d12)=x:=⟨_,rfl⟩
 have c13:CellsF 145 F n W11.heap.size W13 (.slice a12 am d12) (cellsR A):=by
  rw[←hW13];exact c12.set _ (fun e=>by have:W11.heap.size≤wc.heap.size+2:=(c12.ge e).1;omega) (fun hf=>by have:wc.heap.size+2<w.heap.size:=hF _ hf;omega)
 have hb13:Below w.heap.size w W13:=by rw[←hW13];exact hb12.setCell (by simp;omega) _
 rw[hW13] at hx13;have hx13':=hx13.sub (m:=[(wc.heap.size+2,[.int .i64 0,.bool lf,.slice a12 am d12]),(wc.heap.size+1,[.int .i64 bp,.bool lf,.slice ab bm cb]),(w1.heap.size,[.int .i64 p1,.bool l1,.slice a1 m1 c1]),(w.heap.size+1,[.int .i64 0,.bool false,.slice none 0 0]),(w.heap.size,[.int .i64 p,.bool false,.slice (some ⟨b,off,none⟩) m c])]) (by simp);have HX:=Hd hx13';have HBW:=Hd hb13;have HC:=Hd c13;have HRB:=Hd hrb;have HA:=Hd hA;have HBE:=Hd hB;have HKEY:=Hd hkey;have HCB0:=Hd cb0;have HCA0:=Hd ca0;have HAM:=Hd hamE;have HBM:=Hd hbmE;have HLF:=Hd hlf;have HLFB:=Hd hlfB;have HKIND:=Hd hkind;have HF11:=Hd hF11;clear hx10 hx11 hx12 hx13 hx13' hb10 hb11 hbc11 hb12 hbc12 hb13 c0 c12 c13 hg12 hra hrb hona honb hcka hckb ca3 cb3 cb0 ca0 hA hB hkey hamE hbmE hap hbp hlf hlfB hkind hjm hjx hjm' hjx' bna bnb hF11 n2;clear hW11;go_upto_region 13 with(at_builtin;refine wpList_append_run rfl _ _ _ _ rfl rfl rfl hr12 ?_)
 clear o0 o1 o2 o2' hr12;go_wp2_with fail
 go_loopw [11] (fun s11 wr=>∃(i:Nat) (av:Option Addr) (dv:Nat),i≤bm∧s11=.int .i64 i∧Boxes wr [(wc.heap.size+2,[.int .i64 0,.bool lf,.slice av (am+i) dv]),(wc.heap.size+1,[.int .i64 bp,.bool lf,.slice ab bm cb]),(w1.heap.size,[.int .i64 p1,.bool l1,.slice a1 m1 c1]),(w.heap.size+1,[.int .i64 0,.bool false,.slice none 0 0]),(w.heap.size,[.int .i64 p,.bool false,.slice (some ⟨b,off,none⟩) m c])] ∧
  CellsF 145 F n W11.heap.size wr (.slice av (am+i) dv) (cellsR A++(firstRc key lf (cellsR B)).take i)∧Below w.heap.size w wr) (fun s _=>bm-(intOf s).toNat)
 case atStart=>exact⟨0,a12,d12,Nat.zero_le _,rfl,HX.out,by rw[List.take_zero,List.append_nil];exact HC.out,HBW.out⟩
 case round=>
  clear HX HC HBW hW13;obtain⟨i,av,dv,hi,rfl,hx,hc,hb⟩:=hrel;have hge:∀g,(Value.slice av (am+i) dv).ownBlock=some g→W11.heap.size≤g∧g<wr.heap.size:=fun g hg=>hc.ge hg
  have hwr:=hx.lt 0 rfl
  by_cases hlt:i<bm
  ·obtain⟨eb,eo,y,pa1,pn1,pc1,ka1,kn1,kc1,rfl,hebb,hy,hyc,_,_,_,_,e0,e1,e2,e3'⟩:=RNodeOn.cell HRB.out hlt
   have hsucc:=firstRc_succ key lf (cellsR B) i hy;have l0:=(hb.cell (p:=⟨eb,eo+i*4,none⟩) hebb).trans e0;have l1':=(hb.cell (p:=⟨eb,eo+i*4+1,none⟩) hebb).trans e1;have l2:=(hb.cell (p:=⟨eb,eo+i*4+2,none⟩) hebb).trans e2;have l3:=(hb.cell (p:=⟨eb,eo+i*4+3,none⟩) hebb).trans e3';have f2:=hx.cell 1 2 rfl rfl;obtain⟨W16,hW16⟩:∃x,wr.alloc (.cells #[.string (strOf y.key),.string (strOf y.val.data),.slice pa1 pn1 pc1,.slice ka1 kn1 kc1] 145)=x:=⟨_,rfl⟩
   have hbr16:Below wr.heap.size wr W16:=by rw[←hW16];exact Below.al (Below.refl _ _)
   have hb16:=below_via hb hbr16;have hx16:Boxes W16 [(wr.heap.size,[.string (strOf y.key),.string (strOf y.val.data),.slice pa1 pn1 pc1,.slice ka1 kn1 kc1]),(wc.heap.size+2,[.int .i64 0,.bool lf,.slice av (am+i) dv]),(wc.heap.size+1,[.int .i64 bp,.bool lf,.slice (some ⟨eb,eo,none⟩) bm cb]),(w1.heap.size,[.int .i64 p1,.bool l1,.slice a1 m1 c1]),(w.heap.size+1,[.int .i64 0,.bool false,.slice none 0 0]),(w.heap.size,[.int .i64 p,.bool false,.slice (some ⟨b,off,none⟩) m c])]:=by
    rw[←hW16];exact hx.alloc #[.string (strOf y.key),.string (strOf y.val.data),.slice pa1 pn1 pc1,.slice ka1 kn1 kc1] 145 (b:=wr.heap.size) rfl
   have hs16:W16.heap.size=wr.heap.size+1:=by rw[←hW16];simp
   have c16:=hc.below hbr16;have f1:=hx16.cell 2 1 rfl rfl;have hy16:=hyc.below hb16;have hFwr:¬F wr.heap.size:=fun hf=>by have:=hF _ hf;omega
   have hl19:(cellsR A++(firstRc key lf (cellsR B)).take i).length=am+i:=by
    rw[List.length_append,List.length_take,firstRc_len,cellsR_len,cellsR_len,HAM.out,HBM.out,Nat.min_eq_left hi]
   clear hx hc hb hbr16 e0 e1 e2 e3' hyc
   by_cases hi0:i=0
   ·have hi0':((i:Int) == 0)=true:=by simp;omega
    have HI0:=Hd hi0;clear hi0;cases lf with
    | true=>
    have m0:=hx16.cell 0 0 rfl rfl;have m1':=hx16.cell 0 1 rfl rfl;have m2':=hx16.cell 0 2 rfl rfl;have m3':=hx16.cell 0 3 rfl rfl;have m4:=hx16.cell 1 2 rfl rfl;obtain⟨v19,w19,hr19,c19,hg19⟩:=c16.append Tryz.underlying25 info_Cw (by omega) HF11.out (by rw[hl19];omega) hy16;have hx19:=hx16.grown hg19 (by intro q hq e;have:=hge _ e;simp at hq;rcases hq with rfl|rfl|rfl|rfl|rfl|rfl<;>omega);have hb19:=hb16.grown hg19 (by omega) (fun k hk=>by have:=hge k hk;omega);obtain⟨a19,d19,ev19,_,_,_,_⟩:=(c19.own HF11.out).sl;rw[List.length_append,hl19,List.length_singleton,Nat.add_assoc] at ev19;subst ev19;have o2:=hx19.cell 1 2 rfl rfl;have o2':=hx19.frozen 1 2 rfl;have hx20:=(hx19.sub (m:=[(wc.heap.size+2,[.int .i64 0,.bool true,.slice av (am+i) dv]),(wc.heap.size+1,[.int .i64 bp,.bool true,.slice (some ⟨eb,eo,none⟩) bm cb]),(w1.heap.size,[.int .i64 p1,.bool l1,.slice a1 m1 c1]),(w.heap.size+1,[.int .i64 0,.bool false,.slice none 0 0]),(w.heap.size,[.int .i64 p,.bool false,.slice (some ⟨b,off,none⟩) m c])]) (by simp)).put 2 (.slice a19 (am+(i+1)) d19) (by simp;omega);have c20:=c19.set (p:=⟨wc.heap.size+2,2,none⟩) (.slice a19 (am+(i+1)) d19) (fun e=>by have:W11.heap.size≤wc.heap.size+2:=(c19.ge e).1;omega) (fun hf=>by have:wc.heap.size+2<w.heap.size:=hF _ hf;omega);have HX20:=Hd hx20;have HC20:=Hd c20;have HB20:=Hd (hb19.setCell (p:=⟨wc.heap.size+2,2,none⟩) (by simp;omega) (.slice a19 (am+(i+1)) d19));have HS:Hid ((firstRc key true (cellsR B)).take (i+1)=(firstRc key true (cellsR B)).take i++[y]):=Hd (by rw[hsucc];simp[HI0.out]);clear hx16 c16 hb16 hy16 hx19 hx20 c19 c20 hb19 hg19 hsucc hl19 hs16;exact qe02527
    | false=>
     have n2:=hx16.cell 5 2 rfl rfl;have y0:=(hb16.cell (p:=⟨b,off+(j+1)*4,none⟩) hbb).trans HCB0.out;have hfz:=hx16.frozen 0 0 rfl;have hz0:=hx16.cell 0 0 rfl rfl;obtain⟨W17,hW17⟩:∃x,W16.setCell ⟨wr.heap.size,0,none⟩ (.string (strOf key))=x:=⟨_,rfl⟩
     have hx17:=hx16.put 0 (.string (strOf key)) (by simp;omega);have c17:=c16.set (p:=⟨wr.heap.size,0,none⟩) (.string (strOf key)) (fun e=>by have:=(hge _ e).2;simp at this) hFwr;have hb17:=hb16.setCell (p:=⟨wr.heap.size,0,none⟩) (by simp;omega) (.string (strOf key));have hy17:RcOn F n (W16.setCell ⟨wr.heap.size,0,none⟩ (.string (strOf key))) [.string (strOf key),.string (strOf y.val.data),.slice pa1 pn1 pc1,.slice ka1 kn1 kc1] ⟨key,y.val,y.kid⟩:=by
      have:=hy16.agree (AgreeF.set (F:=F) (p:=⟨wr.heap.size,0,none⟩) (u:=.string (strOf key)) ⟨Nat.le_refl _,fun _ _ _=>rfl⟩ (.inl hFwr));obtain⟨_,_,_,_,_,_,e,k1,k2,k3,k4⟩:=this;cases e;exact⟨_,_,_,_,_,_,rfl,k1,k2,k3,k4⟩
     rw[hW17] at hx17 c17 hb17 hy17;have hs17:W17.heap.size=W16.heap.size:=by rw[←hW17];simp
     clear hx16 c16 hb16 hy16;have m0:=hx17.cell 0 0 rfl rfl;have m1':=hx17.cell 0 1 rfl rfl;have m2':=hx17.cell 0 2 rfl rfl;have m3':=hx17.cell 0 3 rfl rfl;have m4:=hx17.cell 1 2 rfl rfl;obtain⟨v19,w19,hr19,c19,hg19⟩:=c17.append Tryz.underlying25 info_Cw (by omega) HF11.out (by rw[hl19];omega) hy17;have hx19:=hx17.grown hg19 (by intro q hq e;have:=hge _ e;simp at hq;rcases hq with rfl|rfl|rfl|rfl|rfl|rfl<;>omega);have hb19:=hb17.grown hg19 (by omega) (fun k hk=>by have:=hge k hk;omega);obtain⟨a19,d19,ev19,_,_,_,_⟩:=(c19.own HF11.out).sl;rw[List.length_append,hl19,List.length_singleton,Nat.add_assoc] at ev19;subst ev19;have o2:=hx19.cell 1 2 rfl rfl;have o2':=hx19.frozen 1 2 rfl;have hx20:=(hx19.sub (m:=[(wc.heap.size+2,[.int .i64 0,.bool false,.slice av (am+i) dv]),(wc.heap.size+1,[.int .i64 bp,.bool false,.slice (some ⟨eb,eo,none⟩) bm cb]),(w1.heap.size,[.int .i64 p1,.bool l1,.slice a1 m1 c1]),(w.heap.size+1,[.int .i64 0,.bool false,.slice none 0 0]),(w.heap.size,[.int .i64 p,.bool false,.slice (some ⟨b,off,none⟩) m c])]) (by simp)).put 2 (.slice a19 (am+(i+1)) d19) (by simp;omega);have c20:=c19.set (p:=⟨wc.heap.size+2,2,none⟩) (.slice a19 (am+(i+1)) d19) (fun e=>by have:W11.heap.size≤wc.heap.size+2:=(c19.ge e).1;omega) (fun hf=>by have:wc.heap.size+2<w.heap.size:=hF _ hf;omega);have HX20:=Hd hx20;have HC20:=Hd c20;have HB20:=Hd (hb19.setCell (p:=⟨wc.heap.size+2,2,none⟩) (by simp;omega) (.slice a19 (am+(i+1)) d19));have HS:Hid ((firstRc key false (cellsR B)).take (i+1)=(firstRc key false (cellsR B)).take i++[⟨key,y.val,y.kid⟩]):=Hd (by rw[hsucc];simp[HI0.out]);clear hx17 c17 hb17 hy17 hx19 hx20 c19 c20 hb19 hg19 hsucc hl19 hs16 hs17;exact qe02527
   ·have hi0':((i:Int) == 0)=false:=by simp;omega
    have HI0:=Hd hi0;clear hi0;have m0:=hx16.cell 0 0 rfl rfl;have m1':=hx16.cell 0 1 rfl rfl;have m2':=hx16.cell 0 2 rfl rfl;have m3':=hx16.cell 0 3 rfl rfl;have m4:=hx16.cell 1 2 rfl rfl;obtain⟨v19,w19,hr19,c19,hg19⟩:=c16.append Tryz.underlying25 info_Cw (by omega) HF11.out (by rw[hl19];omega) hy16;have hx19:=hx16.grown hg19 (by intro q hq e;have:=hge _ e;simp at hq;rcases hq with rfl|rfl|rfl|rfl|rfl|rfl<;>omega);have hb19:=hb16.grown hg19 (by omega) (fun k hk=>by have:=hge k hk;omega);obtain⟨a19,d19,ev19,_,_,_,_⟩:=(c19.own HF11.out).sl;rw[List.length_append,hl19,List.length_singleton,Nat.add_assoc] at ev19;subst ev19;have o2:=hx19.cell 1 2 rfl rfl;have o2':=hx19.frozen 1 2 rfl;have hx20:=(hx19.sub (m:=[(wc.heap.size+2,[.int .i64 0,.bool lf,.slice av (am+i) dv]),(wc.heap.size+1,[.int .i64 bp,.bool lf,.slice (some ⟨eb,eo,none⟩) bm cb]),(w1.heap.size,[.int .i64 p1,.bool l1,.slice a1 m1 c1]),(w.heap.size+1,[.int .i64 0,.bool false,.slice none 0 0]),(w.heap.size,[.int .i64 p,.bool false,.slice (some ⟨b,off,none⟩) m c])]) (by simp)).put 2 (.slice a19 (am+(i+1)) d19) (by simp;omega);have c20:=c19.set (p:=⟨wc.heap.size+2,2,none⟩) (.slice a19 (am+(i+1)) d19) (fun e=>by have:W11.heap.size≤wc.heap.size+2:=(c19.ge e).1;omega) (fun hf=>by have:wc.heap.size+2<w.heap.size:=hF _ hf;omega);have HX20:=Hd hx20;have HC20:=Hd c20;have HB20:=Hd (hb19.setCell (p:=⟨wc.heap.size+2,2,none⟩) (by simp;omega) (.slice a19 (am+(i+1)) d19));have HS:Hid ((firstRc key lf (cellsR B)).take (i+1)=(firstRc key lf (cellsR B)).take i++[y]):=Hd (by rw[hsucc];simp[HI0.out]);clear hx16 c16 hb16 hy16 hx19 hx20 c19 c20 hb19 hg19 hsucc hl19 hs16;exact qe02527
  ·obtain rfl:i=bm:=by omega
   have hL:=HLM.out;obtain⟨q1,q2,q3,q4⟩:=join_rows (l:=l) (j:=j) (by omega) p;obtain⟨L1,hL1⟩:∃x,l.take (j+1)++l.drop (j+2)=x:=⟨_,rfl⟩
   obtain⟨L2,hL2⟩:∃x,joined l j=x:=⟨_,rfl⟩
   have hkj:kidAt L2 j=joinT key A B:=by
    rw[←hL2,←HA.out,←HBE.out,←HKEY.out];obtain⟨x1,x2,x3,x4,hx1,hx2⟩:=list_two (l:=l) (j:=j) (by omega);subst hx1 hx2;simp only[joined_right,kidAt_at,two_kid,two_at]
   rw[hL1] at q1 q2 q3;rw[hL2] at q2 q4;rw[HA.out,HBE.out,HKEY.out] at q2;obtain⟨j1,j2,j3⟩:=join_cells (key:=key) HKIND.out;rw[HLFB.out] at j1;rw[HLF.out] at j3;have nBo:RNodeOn (Fr F W11) (n+1) wr [.int .i64 0,.bool lf,.slice av (am+i) dv] (joinT key A B):=by
    rw[List.take_of_length_le (by rw[firstRc_len,cellsR_len,HBM.out];exact Nat.le_refl _),←j1] at hc;have:=(hc.own HF11.out).node (w:=W11) (Nat.le_refl _);rw[j2,j3] at this;exact this
   have hG:∀b,wr.heap.size≤b→Fr F W11 b:=fun b hb=>.inr (by omega)
   have TR:TabR 4 (RcOn (Fr F W11) (n+1) wr) wr (some ⟨b,off,none⟩) m c (cellsR (.node p l)):=TabR.mono (TabR.below (Nat.le_refl _) hb HR.out) (fun _ _ hy=>RcOn.mono (fun b hf=>Fr.old b hf) (RcOn.below hy hb));obtain⟨m',hm'⟩:∃x,m-1=x:=⟨_,rfl⟩
   have CW1:=with_to (t:=.node 0 L1) (q:=m') (l2:=[]) (a2:=none) (m2:=0) (c2:=0) (wc:=wr) (W:=wr) (k:=j+1) rfl (by show L1.length=m';omega) q1 (Below.refl _ _) hG TR (TabR.nil wr) hj1 (by omega) (by omega);rw[show((j+1:Nat):Int)=(j:Int)+1 by omega] at CW1;have n2:=hx.cell 4 2 rfl rfl;have f2:=hx.cell 1 2 rfl rfl;have hr5:¬Fr F W11 w1.heap.size:=fun hg=>by
    rcases hg with hg|hg
    ·have:=hF _ hg;omega
    ·omega
   have HX:=Hd hx;have HB:=Hd hb;have NBO:=Hd nBo;have Q2:=Hd q2;have HKJ:=Hd hkj;have HL2:=Hd hL2;have hq3:L2.length=m':=by omega
   have hq1:L1.length=m':=by omega
   have HQ3:=Hd hq3;have HQ1:=Hd hq1;have hm'9:m'≤1000:=by omega
   have hjm':j<m':=by omega
   clear hx hb hc hge q1 q2 q3 q4 j1 j2 j3 nBo TR hkj hL1 hL2 hL hi hlt hq3 hq1 hm';go_upto_region 20 with(fail)
   go_wp2_with fail;refine CW1.mono ?_;rintro e w20 ⟨a20,d20,rfl,n20,hb20⟩;clear CW1 n2 f2;obtain⟨kj,hkj⟩:∃x,keyAt l j=x:=⟨_,rfl⟩
   have q2:=Q2.out;rw[hkj] at q2;have hcj:=HCA0.out;rw[hkj] at hcj;clear hkj;have hx20:=HX.out.step hb20;have hb20w:=below_via HB.out hb20;have h20:=n20.row (show cntT (.node 0 L1)=m' from HQ1.out);have hG20:∀b,w20.heap.size≤b→Fr F W11 b:=fun b hb=>hG b (Nat.le_trans hb20.size hb)
   have nB20:=NBO.out.below hb20;have CW2:∀(W:World) (ra z:Nat),Below w20.heap.size w20 W→w20.heap.size≤ra→BoxAt W ra #[.int .i64 0,.bool lf,.slice av (am+i) dv]→BoxAt W z #[.string (strOf kj),.string ⟨#[]⟩,.slice none 0 0,.slice (some ⟨ra,0,none⟩) 1 1] →
    Calls Tryz.prog 129 #[.slice a20 m' d20,.int .i64 (j:Int),.slice (some ⟨z,0,none⟩) 1 1] W (RowTo (Fr F W11) (n+1) w20 (.node 0 L2) m'):=fun W ra z hb r1 hA hz=>
    with_one (t:=.node 0 L2) rfl HQ3.out hb hG20 h20 hjm' (by omega) q2 rfl nB20 r1 hA hz
   have hwr4:w.heap.size≠w1.heap.size:=by omega
   have hl10:=hx20.lt 0 rfl;have hlw:=hx20.lt 4 rfl;have hbw:b<w20.heap.size:=Nat.lt_of_lt_of_le hbb hb20w.size;have n2:∀W,AgreeF (fun x=>x≠w1.heap.size) w20 W→W.cell? ⟨w.heap.size,2,none⟩=some (.slice (some ⟨b,off,none⟩) m c):=fun W hW=>(hW.cell hwr4 hlw).trans (hx20.cell 4 2 rfl rfl)
   have nk:∀W,AgreeF (fun x=>x≠w1.heap.size) w20 W→W.cell? ⟨b,off+j*4,none⟩=some (.string (strOf kj)):=fun W hW=>(hW.cell (by show b≠w1.heap.size;omega) hbw).trans ((hb20w.cell (p:=⟨b,off+j*4,none⟩) hbb).trans hcj)
   have b0:∀W,AgreeF (fun x=>x≠w1.heap.size) w20 W→W.cell? ⟨wc.heap.size+2,0,none⟩=some (.int .i64 0):=fun W hW=>(hW.cell (by show wc.heap.size+2≠w1.heap.size;omega) hl10).trans (hx20.cell 0 0 rfl rfl)
   have b1:∀W,AgreeF (fun x=>x≠w1.heap.size) w20 W→W.cell? ⟨wc.heap.size+2,1,none⟩=some (.bool lf):=fun W hW=>(hW.cell (by show wc.heap.size+2≠w1.heap.size;omega) hl10).trans (hx20.cell 0 1 rfl rfl)
   have b2:∀W,AgreeF (fun x=>x≠w1.heap.size) w20 W→W.cell? ⟨wc.heap.size+2,2,none⟩=some (.slice av (am+i) dv):=fun W hW=>(hW.cell (by show wc.heap.size+2≠w1.heap.size;omega) hl10).trans (hx20.cell 0 2 rfl rfl)
   have HX20:=Hd (hx20.sub (m:=[(w1.heap.size,[.int .i64 p1,.bool l1,.slice a1 m1 c1]),(w.heap.size+1,[.int .i64 0,.bool false,.slice none 0 0])]) (by simp));have HB20:=Hd hb20w;have hA00:AgreeF (fun x=>x≠w1.heap.size) w20 w20.drew:=agr _;have hjm1:(j:Int)<(m:Int):=by omega
   clear hx20 hb20 hb20w h20 n20 nB20 q2 hcj;go_upto_region 21 with(fail)
   refine wp_region_noPanic ?_;refine wp_region_held_drew (S:=(fun W=>AgreeF (fun x=>x≠w1.heap.size) w20 W)) (by kernel_rfl) (by(repeat (with_reducible first|assumption|exact agr _|apply agal|apply agdr|apply agst))) (fun hHeld=>?_);refine tks [0,1] ?_;refine tks [2,3] ?_;refine tks [4,5] ?_;refine tks [6,7,8] ?_;refine rdy 9 (fun K hK=>?_)
   (rw[if_pos (by rfl)];go_wp2_with (fail))
   refine bkR hK (fun hHeld=>?_);clear hK K;refine tks [10] ?_;refine rdy 11 (fun K hK=>?_)
   (rw[if_pos (by rfl)];go_wp2_with (fail))
   refine bkR hK (fun hHeld=>?_);clear hK K;refine rdy 12 (fun K hK=>?_)
   (rw[if_pos (by rfl)];go_simp;(with_reducible refine(CW2 _ ?ra _ ?hb ?r1 ?hA ?hz).mono ?fin);(case hz=>((repeat (with_reducible first|assumption|exact BoxAt.here3|exact BoxAt.here2|exact BoxAt.here|apply BoxAt.dr|apply BoxAt.al));done));(case hA=>((repeat (with_reducible first|assumption|exact BoxAt.here3|exact BoxAt.here2|exact BoxAt.here|apply BoxAt.dr|apply BoxAt.al));done));(case hb=>(repeat (with_reducible first|assumption|exact Below.refl _ _|apply Below.al|apply Below.dr)));(case r1=>(with_reducible first|exact Nat.le_refl _|(simp only[World.heap_alloc_size,World.heap_drew];omega)|omega));rintro e w21 ⟨a21,d21,rfl,n21,hb21⟩;have hA21:AgreeF (fun x=>x≠w1.heap.size) w20 w21:=AgreeF.of_below hb21;have hx21:=HX20.out.step hb21;have z0:=hx21.cell 0 0 rfl rfl;have z1:=hx21.cell 0 1 rfl rfl;have z2:=hx21.cell 0 2 rfl rfl;have y0:=hx21.frozen 0 0 rfl;have y1:=hx21.frozen 0 1 rfl;have y2:=hx21.frozen 0 2 rfl;go_wp2_with (fail))
   refine bkR hK (fun hHeld=>?_);clear hK K;refine tks [13] ?_;refine rdy 14 (fun K hK=>?_)
   (rw[if_pos (by rfl)];go_wp2_with (fail))
   refine bkR hK (fun hHeld=>?_);clear hK K;refine wpAnyH_done (by kernel_rfl) ?_ _;refine NoPanic.normal ?_;have hx22:=((hx21.put 0 (.int .i64 0) (by simp;omega)).put 1 (.bool false) (by simp;omega)).put 2 (.slice a21 m' d21) (by simp;omega);have n22:=n21.put3 hr5 (.int .i64 0) (.bool false) (.slice a21 m' d21);have hb22:=(((below_via HB20.out hb21).setCell (p:=⟨w1.heap.size,0,none⟩) (show w.heap.size≤w1.heap.size by omega) (.int .i64 0)).setCell (p:=⟨w1.heap.size,1,none⟩) (show w.heap.size≤w1.heap.size by omega) (.bool false)).setCell (p:=⟨w1.heap.size,2,none⟩) (show w.heap.size≤w1.heap.size by omega) (.slice a21 m' d21);obtain⟨W22,hW22⟩:∃x,(((w21.setCell ⟨w1.heap.size,0,none⟩ (.int .i64 0)).setCell ⟨w1.heap.size,1,none⟩ (.bool false)).setCell ⟨w1.heap.size,2,none⟩ (.slice a21 m' d21))=x:=⟨_,rfl⟩
   rw[hW22] at hx22 n22 hb22 ⊢;have hs22:w1.heap.size<W22.heap.size:=hx22.lt 0 rfl;have hbj:Bnd (n+1) (kidAt L2 j):=by
    rw[HKJ.out];have:=HO.out.both j (by have:=HLM.out;omega)
    rwa [HA.out,HBE.out,HKEY.out] at this
   have CP2:=parted_any (F:=fun x=>Fr F W11 x∧x<W22.heap.size) (fun _ h=>h.2) n22.lt (by rw[HQ3.out];exact hm'9) hbj (by rw[HQ3.out];exact hjm');have x0:=hx22.cell 0 0 rfl rfl;have x1':=hx22.cell 0 1 rfl rfl;have x2:=hx22.cell 0 2 rfl rfl;have HX22:=Hd hx22;have HB22:=Hd hb22;clear hx22 hb22 n22 n21 hx21 hb21 hA21 z0 z1 z2 y0 y1 y2 n2 nk b0 b1 b2 hHeld hbj hW22;go_wp2_with fail;refine CP2.mono ?_;rintro e w23 hpt;obtain⟨a23,c23,rfl,hn23,hb23⟩:=hpt.split;clear CP2 hpt x0 x1' x2;obtain⟨T2,hT2⟩:∃T,splitR 0 L2 j=T:=⟨_,rfl⟩
   rw[hT2] at hn23 ⊢;obtain⟨B2,hB2⟩:∃B,(splitT L2 j).isSome=B:=⟨_,rfl⟩
   rw[hB2];obtain⟨p2,hp2⟩:∃x,T2.page=x:=⟨_,rfl⟩
   obtain⟨l2,hl2⟩:∃x,T2.isLeaf=x:=⟨_,rfl⟩
   obtain⟨m2,hm2'⟩:∃x,cntT T2=x:=⟨_,rfl⟩
   rw[hp2,hl2,hm2'] at hn23 ⊢;have hx23:=HX22.out.step hb23;have z0:=hx23.cell 0 0 rfl rfl;have z1:=hx23.cell 0 1 rfl rfl;have z2:=hx23.cell 0 2 rfl rfl;have y0:=hx23.frozen 0 0 rfl;have y1:=hx23.frozen 0 1 rfl;have y2:=hx23.frozen 0 2 rfl;have hx24:=((hx23.put 0 (.int .i64 p2) (by simp;omega)).put 1 (.bool l2) (by simp;omega)).put 2 (.slice a23 m2 c23) (by simp;omega);have hrG5:¬Fr (fun x=>Fr F W11 x∧x<W22.heap.size) W22 w1.heap.size:=fun hg=>by
    rcases hg with hg|hg
    ·exact hr5 hg.1
    ·omega
   have hrG4:¬Fr (fun x=>Fr F W11 x∧x<W22.heap.size) W22 (w.heap.size+1):=fun hg=>by
    rcases hg with hg|hg
    ·rcases hg.1 with hg|hg
     ·have:=hF _ hg;omega
     ·omega
    ·omega
   have n24:=hn23.put3 hrG5 (.int .i64 p2) (.bool l2) (.slice a23 m2 c23);have hb24:=(((below_via HB22.out hb23).setCell (p:=⟨w1.heap.size,0,none⟩) (show w.heap.size≤w1.heap.size by omega) (.int .i64 p2)).setCell (p:=⟨w1.heap.size,1,none⟩) (show w.heap.size≤w1.heap.size by omega) (.bool l2)).setCell (p:=⟨w1.heap.size,2,none⟩) (show w.heap.size≤w1.heap.size by omega) (.slice a23 m2 c23);have HE:=Hd (rnode_end (T:=T2) (r:=w.heap.size+1) (show w.heap.size≤w.heap.size+1 by omega) hrG4 (fun b hb=>by
    rcases hb with hb|hb
    ·rcases hb.1 with hb|hb
     ·exact .inl hb
     ·exact .inr (by omega)
    ·exact .inr (by omega)) n24 hb24)
   have hmj:mendT p l k=T2:=by
    rw[mend_join (by rw[HSN.out];rfl) (by rw[HKD.out];exact HLOW.out) (by have:=HLM.out;omega),HLM.out,HJ.out,HL2.out];exact hT2
   have u0:=hx24.cell 0 0 rfl rfl;have u1:=hx24.cell 0 1 rfl rfl;have u2:=hx24.cell 0 2 rfl rfl;have v0:=hx24.cell 1 0 rfl rfl;have v1:=hx24.cell 1 1 rfl rfl;have v2:=hx24.cell 1 2 rfl rfl;have v0':=hx24.frozen 1 0 rfl;have v1':=hx24.frozen 1 1 rfl;have v2':=hx24.frozen 1 2 rfl;have hxe:=(((hx24.sub (m:=[(w.heap.size+1,[.int .i64 0,.bool false,.slice none 0 0])]) (by simp)).put 0 (.int .i64 p2) (by simp)).put 1 (.bool l2) (by simp)).put 2 (.slice a23 m2 c23) (by simp);have t0:=hxe.cell 0 0 rfl rfl;have t1:=hxe.cell 0 1 rfl rfl;have t2:=hxe.cell 0 2 rfl rfl;have HMJ:=Hd hmj;clear hx23 hx24 hxe n24 hb24 hb23 hn23 hrG5 hrG4 hT2 hB2 hp2 hl2 hm2' hmj;go_wp2_with fail;refine bodyPost_ret (v:=.agg #[.int .i64 p2,.bool l2,.slice a23 m2 c23]) (by simp only[results,Tryz.results127];simp[go_sem,t0,t1,t2]) rfl ?_;rw[HMJ.out];exact HE.out):p:=h
theorem q489206 (h:p:=by
 clear zm;have n0:=hx2.cell 1 0 rfl rfl;have n1:=hx2.cell 1 1 rfl rfl;have n2:=hx2.cell 1 2 rfl rfl;have CW:=rway_any (H.out.below hb2).toRIn key (by rw[hml];exact hm9);rw[show(Tr.node p l).keys=keysOf l from rfl,hk,hml] at CW;have HX2:=Hd hx2;have HB2:=Hd hb2;have HR:=Hd h1;have HON:=Hd hon;have HD0:=Hd d0;have HD3:=Hd d3;have HCK:=Hd hck;have HO4:=Hd o4;have Q2:=Hd q2;have HQ3:=Hd q3;clear hx2 hb2 h1 hon d0 d1 d2 d3 hck h hfa hml hkp hkm' hkl e1 hk hput hkd hkj o3 o4 q2 q3 hL2 hT hlm o1 o2;go_enter Tryz.func88,Tryz.ntmps88;go_wp2_with fail;refine CW.mono ?_;rintro e w1 ⟨rfl,hb1⟩;have hx1:=HX2.out.step hb1;have hbw1:=below_via HB2.out hb1;have v2:=hx1.cell 1 2 rfl rfl;have v3:=(hbw1.cell (p:=⟨b,off+k*4+3,none⟩) hbb).trans HD3.out;have k0:w1.cell? ⟨bk,ok,none⟩=some (.int .i64 kp):=(hbw1.cell (p:=⟨bk,ok,none⟩) hbk).trans (by simpa using HCK.out 0 _ rfl);have k1:w1.cell? ⟨bk,ok+1,none⟩=some (.bool kl):=(hbw1.cell (p:=⟨bk,ok+1,none⟩) hbk).trans (by simpa using HCK.out 1 _ rfl);have k2:w1.cell? ⟨bk,ok+2,none⟩=some (.slice ak km ck):=(hbw1.cell (p:=⟨bk,ok+2,none⟩) hbk).trans (by simpa using HCK.out 2 _ rfl);have hs1:w.heap.size+2≤w1.heap.size:=by have:=hb1.size;omega
 have CP:=IH (fun b hb=>by have:=hF b hb;omega) (HON.out.below hbw1);have HX1:=Hd hx1;have HBW1:=Hd hbw1;clear CW hx1 hbw1 hb1 n0 n1 n2 IH hW2;go_wp2_with fail;refine CP.mono ?_;rintro e w3 hq;obtain⟨p3,l3,a3,m3,d3,rfl,hn3,hb3⟩:=hq.split;obtain⟨W4,hW4⟩:∃x,w3.alloc (.cells #[.int .i64 p3,.bool l3,.slice a3 m3 d3] 27)=x:=⟨_,rfl⟩
 have hb34:Below w3.heap.size w3 W4:=by rw[←hW4];exact Below.al (Below.refl _ _)
 have hx4:Boxes W4 [(w3.heap.size,[.int .i64 p3,.bool l3,.slice a3 m3 d3]),(w.heap.size+1,[.int .i64 0,.bool false,.slice none 0 0]),(w.heap.size,[.int .i64 p,.bool false,.slice (some ⟨b,off,none⟩) m c])]:=by
  rw[←hW4];exact(HX1.out.step hb3).alloc #[.int .i64 p3,.bool l3,.slice a3 m3 d3] 27 (b:=w3.heap.size) rfl
 have hs3:w.heap.size+2≤w3.heap.size:=Nat.le_trans hs1 hb3.size;have hs4:W4.heap.size=w3.heap.size+1:=by rw[←hW4];simp
 have hb4w:=below_via HBW1.out (below_via hb3 hb34);have nT:RNodeOn (Fr F W2) (M+1) W4 [.int .i64 p3,.bool l3,.slice a3 m3 d3] T:=(hn3.below hb34).mono (fun b hb=>by
  rcases hb with hb|hb
  ·exact .inl hb
  ·exact .inr (by omega))
 have hG:∀b,W4.heap.size≤b→Fr F W2 b:=fun b hb=>.inr (by omega)
 have TR:TabR 4 (RcOn (Fr F W2) (M+1) W4) W4 (some ⟨b,off,none⟩) m c (cellsR (.node p l)):=TabR.mono (TabR.below (Nat.le_refl _) hb4w HR.out) (fun _ _ hy=>RcOn.mono (fun b hf=>Fr.old b hf) (RcOn.below hy hb4w));have CW2:∀(W:World) (ra z:Nat),Below W4.heap.size W4 W→W4.heap.size≤ra→BoxAt W ra #[.int .i64 p3,.bool l3,.slice a3 m3 d3]→BoxAt W z #[.string (strOf kj),.string ⟨#[]⟩,.slice none 0 0,.slice (some ⟨ra,0,none⟩) 1 1] →
  Calls Tryz.prog 129 #[.slice (some ⟨b,off,none⟩) m c,.int .i64 (k:Int),.slice (some ⟨z,0,none⟩) 1 1] W (RowTo (Fr F W2) (M+1) W4 (.node 0 L2) m):=fun W ra z hb r1 hA hz=>
  with_one (t:=.node 0 L2) rfl HQ3.out hb hG TR hkm (by omega) Q2.out rfl nT r1 hA hz
 have CM:∀(W:World) (a5:Option Addr) (d5:Nat),RNodeOn (Fr F W2) (M+2) W [.int .i64 0,.bool (Tr.node 0 L2).isLeaf,.slice a5 m d5] (.node 0 L2)→Calls Tryz.prog 127 #[.agg #[.int .i64 0,.bool false,.slice a5 m d5],.int .i64 (k:Int)] W (RNodeTo (fun x=>Fr F W2 x∧x<W.heap.size) (M+2) W (mendT 0 L2 k)):=fun W a5 d5 hn=>
  rmend_any (fun _ h=>h.2) hn.lt HO4.out (by rw[HQ3.out];exact hkm)
 have hlw:=hx4.lt 2 rfl;have hl3:=hx4.lt 0 rfl;have hbw:b<W4.heap.size:=Nat.lt_of_lt_of_le hbb hb4w.size;have n2:∀W,AgreeF (fun x=>x≠w.heap.size+1) W4 W→W.cell? ⟨w.heap.size,2,none⟩=some (.slice (some ⟨b,off,none⟩) m c):=fun W hW=>(hW.cell (by show w.heap.size≠w.heap.size+1;omega) hlw).trans (hx4.cell 2 2 rfl rfl)
 have nk:∀W,AgreeF (fun x=>x≠w.heap.size+1) W4 W→W.cell? ⟨b,off+k*4,none⟩=some (.string (strOf kj)):=fun W hW=>(hW.cell (by show b≠w.heap.size+1;omega) hbw).trans ((hb4w.cell (p:=⟨b,off+k*4,none⟩) hbb).trans HD0.out)
 have b0:∀W,AgreeF (fun x=>x≠w.heap.size+1) W4 W→W.cell? ⟨w3.heap.size,0,none⟩=some (.int .i64 p3):=fun W hW=>(hW.cell (by show w3.heap.size≠w.heap.size+1;omega) hl3).trans (hx4.cell 0 0 rfl rfl)
 have b1:∀W,AgreeF (fun x=>x≠w.heap.size+1) W4 W→W.cell? ⟨w3.heap.size,1,none⟩=some (.bool l3):=fun W hW=>(hW.cell (by show w3.heap.size≠w.heap.size+1;omega) hl3).trans (hx4.cell 0 1 rfl rfl)
 have b2:∀W,AgreeF (fun x=>x≠w.heap.size+1) W4 W→W.cell? ⟨w3.heap.size,2,none⟩=some (.slice a3 m3 d3):=fun W hW=>(hW.cell (by show w3.heap.size≠w.heap.size+1;omega) hl3).trans (hx4.cell 0 2 rfl rfl)
 have HX4:=Hd (hx4.sub (m:=[(w.heap.size+1,[.int .i64 0,.bool false,.slice none 0 0])]) (by simp));have HB4:=Hd hb4w;have hA00:AgreeF (fun x=>x≠w.heap.size+1) W4 W4.drew:=agr _;have HS4:=Hd hs4;clear hx4 hb34 hb4w nT TR hn3 hb3 hq CP v2 v3 k0 k1 k2 hs4 hG;go_upto_region 4 with(fail)
 clear hW4;refine wp_region_noPanic ?_;refine wp_region_held_drew (S:=(fun W=>AgreeF (fun x=>x≠w.heap.size+1) W4 W)) (by kernel_rfl) (by(repeat (with_reducible first|assumption|exact agr _|apply agal|apply agdr|apply agst))) (fun hHeld=>?_);refine tks [0,1] ?_;refine tks [2,3] ?_;refine tks [4,5] ?_;refine tks [6,7] ?_;refine tks [8,9,15] ?_;refine rdy 10 (fun K hK=>?_)
 (rw[if_pos (by rfl)];go_wp2_with (fail))
 refine bkR hK (fun hHeld=>?_);clear hK K;refine tks [11] ?_;refine rdy 12 (fun K hK=>?_)
 (rw[if_pos (by rfl)];go_wp2_with (fail))
 refine bkR hK (fun hHeld=>?_);clear hK K;refine rdy 13 (fun K hK=>?_)
 (rw[if_pos (by rfl)];go_simp;(with_reducible refine(CW2 _ ?ra _ ?hb ?r1 ?hA ?hz).mono ?fin);(case hz=>((repeat (with_reducible first|assumption|exact BoxAt.here3|exact BoxAt.here2|exact BoxAt.here|apply BoxAt.dr|apply BoxAt.al));done));(case hA=>((repeat (with_reducible first|assumption|exact BoxAt.here3|exact BoxAt.here2|exact BoxAt.here|apply BoxAt.dr|apply BoxAt.al));done));(case hb=>(repeat (with_reducible first|assumption|exact Below.refl _ _|apply Below.al|apply Below.dr)));(case r1=>(with_reducible first|exact Nat.le_refl _|(simp only[World.heap_alloc_size,World.heap_drew];omega)|omega));rintro e w5 ⟨a5,d5,rfl,n5,hb5⟩;have hA5:AgreeF (fun x=>x≠w.heap.size+1) W4 w5:=AgreeF.of_below hb5;have CM:=CM w5 a5 d5 n5;go_wp2_with (fail))
 refine bkR hK (fun hHeld=>?_);clear hK K;refine tks [14] ?_;refine rdy 16 (fun K hK=>?_)
 (rw[if_pos (by rfl)];go_simp;(with_reducible refine CM.mono ?_);rintro e w6 hq;obtain⟨p6,l6,a6,m6,d6,rfl,n6,hb6⟩:=hq.split;have hb46:=below_via hb5 hb6;have hA6:AgreeF (fun x=>x≠w.heap.size+1) W4 w6:=AgreeF.of_below hb46;have hx6:=HX4.out.step hb46;have z0:=hx6.cell 0 0 rfl rfl;have z1:=hx6.cell 0 1 rfl rfl;have z2:=hx6.cell 0 2 rfl rfl;have y0:=hx6.frozen 0 0 rfl;have y1:=hx6.frozen 0 1 rfl;have y2:=hx6.frozen 0 2 rfl;go_wp2_with (fail))
 refine bkR hK (fun hHeld=>?_);clear hK K;refine rdy 17 (fun K hK=>?_)
 (rw[if_pos (by rfl)];go_wp2_with (fail))
 refine bkR hK (fun hHeld=>?_);clear hK K;refine wpAnyH_done (by kernel_rfl) ?_ _;refine NoPanic.normal ?_;obtain⟨t0,t1,t2,HE⟩:=rend (F:=F) (w:=w) hx6 (by omega) (fun hg=>by
  have:=HS4.out;have:=hb5.size
  rcases hg with hg|hg
  ·rcases hg.1 with hg|hg
   ·have:=hF _ hg;omega
   ·omega
  ·omega) (fun b hb=>by
  have:=HS4.out;have:=hb5.size
  rcases hb with hb|hb
  ·rcases hb.1 with hb|hb
   ·exact .inl hb
   ·exact .inr (by omega)
  ·exact .inr (by omega)) n6 (below_via HB4.out hb46)
 clear hx6 n6 hb46 hA6 hA5 n5 hb5 hq z0 z1 z2 y0 y1 y2;go_wp2_with fail;refine bodyPost_ret (v:=.agg #[.int .i64 p6,.bool l6,.slice a6 m6 d6]) (by simp only[results,Tryz.results88];simp[go_sem,t0,t1,t2]) rfl HE.out):p:=h
end
end Go.Proofs.YtpghlmcoajaiiaaGreatDoor
