/- Texts that other texts of this claim lean on, one behind the other. -/
import Derived.Test.YtpghlmcoajaiiaaGreatDoorB1
import Derived.Test.YtpghlmcoajaiiaaGreatDoorB7
import Derived.Test.YtpghlmcoajaiiaaGreatDoorB6
import Derived.Test.YtpghlmcoajaiiaaGreatDoorB8
import Derived.Deep.DeepCutAuto
import Derived.Test.YtpghlmcoajaiiaaGreatDoorB5
set_option maxHeartbeats 20000000
set_option maxRecDepth 100000
namespace Go.Proofs.YtpghlmcoajaiiaaGreatDoor
open Go.RowKit
def PagePost (T:Nat) (w:World) (lb mb da M:Nat) (d:List Rg) (r:Int) (n:Nat) (R:Except Int (List Int×Tr)) (e:Ending) (w':World):Prop:=
 Only [mb] w w'∧match R with
  | .ok (s,t)=>∃cs,e=.returned (.agg cs.toArray)∧NodeOn (fun b=>w.heap.size≤b) n w' cs t∧LdIn T w' lb mb da M d r s
  | .error x=>e=.panicked (errP x)
def leafR (p:Int):Except Int (List Int×List (List UInt8×Tv))→Except Int (List Int×Tr)
 | .error x=>.error x
 | .ok (s,L)=>.ok (s,.leaf p L)
def nodeR (p:Int):Except Int (List Int×List (List UInt8×Tr))→Except Int (List Int×Tr)
 | .error x=>.error x
 | .ok (s,L)=>.ok (s,.node p L)
theorem zero_nodeL (w:World):(zeroValue 50).run Tryz.prog w=.ok (.agg #[.int .i64 0,.bool false,.slice none 0 0,.slice none 0 0,.slice none 0 0]) w:=by kernel_rfl
theorem page_seen {T:Nat} {w:World} {lb mb da M:Nat} {d:List Rg} {r:Int} {seen:List Int} (n:Nat) (h:LdIn T w lb mb da M d r seen) (hT:T≤w.heap.size) (hl:seen.length≤1000) (p:Int) (hp:I64 p) (hm:p∈seen) :
 Calls Tryz.prog 52 #[.pointer (some ⟨lb,0,none⟩),.int .i64 p] w (PagePost T w lb mb da M d r (n+1) (loadT d r (n+1) seen p)):=by
 have hR:loadT d r (n+1) seen p=.error 11:=by unfold loadT;rw[if_pos hm]
 rw[hR];obtain⟨w1,hw1⟩:∃w1,w.alloc (.cells #[.int .i64 0,.bool false,.slice none 0 0,.slice none 0 0,.slice none 0 0] 50)=w1:=⟨_,rfl⟩
 have hb1:Below w.heap.size w w1:=by rw[←hw1];exact Below.al (Below.refl _ _)
 obtain⟨w2,hw2⟩:∃w2,w1.alloc (.cells #[.int .i64 p] 3)=w2:=⟨_,rfl⟩
 have hb2:Below w.heap.size w w2:=by rw[←hw2];exact Below.al hb1
 have hs1:=hb1.size;have hrow:Row .i64 w2 (some ⟨w1.heap.size,0,none⟩) 1 1 [p]:=by
  exact q360bd1
 have hmb:=h.lt.2;have S1:=see_any (ps:=[p]) (h.below hT hb2) (by simp;omega) (by simpa using hp) hrow (fun x ex=>by cases ex;show w1.heap.size≠mb;omega);have hsee:seeL seen [p]=none:=by unfold seeL;rw[if_pos hm]
 rw[hsee] at S1;have hz:=zero_nodeL;have HB2:=Hd hb2;clear hb1 hb2 hrow hR hsee hm h hs1 hmb;go_enter Tryz.func52,Tryz.ntmps52;go_wp2_with fail;refine S1.mono ?_;rintro e w3 ⟨ho,rfl⟩;refine⟨rfl,below_only HB2.out ho,rfl⟩
theorem page_bad1 {T:Nat} {w:World} {lb mb da M:Nat} {d:List Rg} {r:Int} {seen:List Int} (n:Nat) (h:LdIn T w lb mb da M d r seen) (hT:T≤w.heap.size) (hs:SeenOk seen) (p:Int) (hp:I64 p) (hm:p∉seen) (hE:pagedE d r p≠0) :
 Calls Tryz.prog 52 #[.pointer (some ⟨lb,0,none⟩),.int .i64 p] w (PagePost T w lb mb da M d r (n+1) (loadT d r (n+1) seen p)):=by
 have hR:loadT d r (n+1) seen p=.error (pagedE d r p):=by unfold loadT;rw[if_neg hm,if_pos hE]
 rw[hR];obtain⟨w1,hw1⟩:∃w1,w.alloc (.cells #[.int .i64 0,.bool false,.slice none 0 0,.slice none 0 0,.slice none 0 0] 50)=w1:=⟨_,rfl⟩
 have hb1:Below w.heap.size w w1:=by rw[←hw1];exact Below.al (Below.refl _ _)
 have hX1:Boxes w1 [(w.heap.size,zero5.toList)]:=by rw[←hw1];exact(Boxes.nil w).alloc #[.int .i64 0,.bool false,.slice none 0 0,.slice none 0 0,.slice none 0 0] 50 rfl
 obtain⟨w2,hw2⟩:∃w2,w1.alloc (.cells #[.int .i64 p] 3)=w2:=⟨_,rfl⟩
 have hb12:Below w1.heap.size w1 w2:=by rw[←hw2];exact Below.al (Below.refl _ _)
 have hb2:Below w.heap.size w w2:=by rw[←hw2];exact Below.al hb1
 have hs1:=hb1.size;have hrow:Row .i64 w2 (some ⟨w1.heap.size,0,none⟩) 1 1 [p]:=by
  exact q360bd1
 have hmb:=h.lt.2;have hls:=hs.len;have S1:=see_any (ps:=[p]) (h.below hT hb2) (by simp;omega) (by simpa using hp) hrow (fun x ex=>by cases ex;show w1.heap.size≠mb;omega);have hsee:seeL seen [p]=some (seen++[p]):=by unfold seeL;rw[if_neg hm];rfl
 rw[hsee] at S1;have hz:=zero_nodeL;have HB2:=Hd hb2;have HX2:=Hd (hX1.step hb12);have HS:=Hd hs;have HM:=Hd hm;have HR:=Hd hR;clear hb1 hb12 hX1 hb2 hrow hR hsee hm h hs1 hls hs;go_enter Tryz.func52,Tryz.ntmps52;go_wp2_with fail;refine S1.mono ?_;rintro e w3 ⟨ho3,rfl,hd3⟩;have hO3:=below_only HB2.out ho3;have HO3:=Hd hO3;have hs3:=hO3.size;have HX3:=Hd (HX2.out.only ho3 (by intro q hq;simp at hq;subst hq;simp;omega));obtain⟨c0,c1,_⟩:=hd3.cell;have hlt3:=hd3.lt.1;have hb0:Below w3.heap.size w3 w3.drew:=below_drewN (Below.refl _ _) 1;have hd0:=hd3.past (hb0.mono (show T≤w3.heap.size by omega));have C:=read_o hd0.one r p;have cA:∀W,Below w3.heap.size w3 W→W.cell? ⟨lb,0,none⟩=some (.pointer (some ⟨da,0,none⟩)):=fun W hW=>(hW.cell (p:=⟨lb,0,none⟩) hlt3).trans c0
 have cB:∀W,Below w3.heap.size w3 W→W.cell? ⟨lb,1,none⟩=some (.int .i64 r):=fun W hW=>(hW.cell (p:=⟨lb,1,none⟩) hlt3).trans c1
 have HD3:=Hd hd3;obtain⟨pe,hpe⟩:∃x,pagedE d r p=x:=⟨_,rfl⟩
 obtain⟨rb,hrb⟩:∃x,readB d r p=x:=⟨_,rfl⟩
 rw[hpe,hrb] at C;have HPE:=Hd hpe;have HRB:=Hd hrb;clear ho3 hO3 hd3 hd0 c0 c1 hpe hrb;go_wp2_with fail
 go_region_held3 (fun W=>Below w3.heap.size w3 W) (with_reducible assumption) (first|(go_at_call 94;refine C.mono ?_;rintro e wx ⟨vx,rfl,hox,hbx⟩;have hBx:Below w3.heap.size w3 wx:=below_then hb0 hbx))
 have HBX:=Hd hBx;have hsx:=hBx.size;obtain⟨av,cv,rfl,_⟩:=own_slice hox;have HOX:=Hd hox;clear C cA cB hox hbx hBx hb0;rw[HPE.out] at hE;go_wp2_with fail;refine(must_bad hE _).mono ?_;rintro e wy ⟨rfl,rfl⟩;refine⟨rfl,only_past HO3.out hs3 HBX.out,?_⟩;rw[HPE.out]
theorem page_bad2 {T:Nat} {w:World} {lb mb da M:Nat} {d:List Rg} {r:Int} {seen:List Int} (n:Nat) (h:LdIn T w lb mb da M d r seen) (hT:T≤w.heap.size) (hs:SeenOk seen) (p:Int) (hp:I64 p) (hm:p∉seen) (hP:pagedE d r p=0) (hE:getNE (readB d r p)≠0) :
 Calls Tryz.prog 52 #[.pointer (some ⟨lb,0,none⟩),.int .i64 p] w (PagePost T w lb mb da M d r (n+1) (loadT d r (n+1) seen p)):=by
 have hR:loadT d r (n+1) seen p=.error (getNE (readB d r p)):=by unfold loadT;rw[if_neg hm,if_neg (by omega),if_pos hE]
 rw[hR];obtain⟨w1,hw1⟩:∃w1,w.alloc (.cells #[.int .i64 0,.bool false,.slice none 0 0,.slice none 0 0,.slice none 0 0] 50)=w1:=⟨_,rfl⟩
 have hb1:Below w.heap.size w w1:=by rw[←hw1];exact Below.al (Below.refl _ _)
 have hX1:Boxes w1 [(w.heap.size,zero5.toList)]:=by rw[←hw1];exact(Boxes.nil w).alloc #[.int .i64 0,.bool false,.slice none 0 0,.slice none 0 0,.slice none 0 0] 50 rfl
 obtain⟨w2,hw2⟩:∃w2,w1.alloc (.cells #[.int .i64 p] 3)=w2:=⟨_,rfl⟩
 have hb12:Below w1.heap.size w1 w2:=by rw[←hw2];exact Below.al (Below.refl _ _)
 have hb2:Below w.heap.size w w2:=by rw[←hw2];exact Below.al hb1
 have hs1:=hb1.size;have hrow:Row .i64 w2 (some ⟨w1.heap.size,0,none⟩) 1 1 [p]:=by
  exact q360bd1
 have hmb:=h.lt.2;have hls:=hs.len;have S1:=see_any (ps:=[p]) (h.below hT hb2) (by simp;omega) (by simpa using hp) hrow (fun x ex=>by cases ex;show w1.heap.size≠mb;omega);have hsee:seeL seen [p]=some (seen++[p]):=by unfold seeL;rw[if_neg hm];rfl
 rw[hsee] at S1;have hz:=zero_nodeL;have HB2:=Hd hb2;have HX2:=Hd (hX1.step hb12);have HS:=Hd hs;have HM:=Hd hm;have HR:=Hd hR;clear hb1 hb12 hX1 hb2 hrow hR hsee hm h hs1 hls hs;go_enter Tryz.func52,Tryz.ntmps52;go_wp2_with fail;refine S1.mono ?_;rintro e w3 ⟨ho3,rfl,hd3⟩;have hO3:=below_only HB2.out ho3;have HO3:=Hd hO3;have hs3:=hO3.size;have HX3:=Hd (HX2.out.only ho3 (by intro q hq;simp at hq;subst hq;simp;omega));obtain⟨c0,c1,_⟩:=hd3.cell;have hlt3:=hd3.lt.1;have hb0:Below w3.heap.size w3 w3.drew:=below_drewN (Below.refl _ _) 1;have hd0:=hd3.past (hb0.mono (show T≤w3.heap.size by omega));have C:=read_o hd0.one r p;have cA:∀W,Below w3.heap.size w3 W→W.cell? ⟨lb,0,none⟩=some (.pointer (some ⟨da,0,none⟩)):=fun W hW=>(hW.cell (p:=⟨lb,0,none⟩) hlt3).trans c0
 have cB:∀W,Below w3.heap.size w3 W→W.cell? ⟨lb,1,none⟩=some (.int .i64 r):=fun W hW=>(hW.cell (p:=⟨lb,1,none⟩) hlt3).trans c1
 have HD3:=Hd hd3;obtain⟨pe,hpe⟩:∃x,pagedE d r p=x:=⟨_,rfl⟩
 obtain⟨rb,hrb⟩:∃x,readB d r p=x:=⟨_,rfl⟩
 rw[hpe,hrb] at C;have HPE:=Hd hpe;have HRB:=Hd hrb;clear ho3 hO3 hd3 hd0 c0 c1 hpe hrb;go_wp2_with fail
 go_region_held3 (fun W=>Below w3.heap.size w3 W) (with_reducible assumption) (first|(go_at_call 94;refine C.mono ?_;rintro e wx ⟨vx,rfl,hox,hbx⟩;have hBx:Below w3.heap.size w3 wx:=below_then hb0 hbx))
 have HBX:=Hd hBx;have hsx:=hBx.size;obtain⟨av,cv,rfl,_⟩:=own_slice hox;have HOX:=Hd hox;clear C cA cB hox hbx hBx hb0;have hpe0:=HPE.out;rw[hP] at hpe0;subst hpe0;have hd4:=HD3.out.past (HBX.out.mono (show T≤w3.heap.size by omega));obtain⟨a',c',e',hbs⟩:=Bs.of_own HOX.out;cases e';have G:=nget_any _ _ _ _ wx hbs hd4.half;obtain⟨ge,hge⟩:∃x,getNE rb=x:=⟨_,rfl⟩
 obtain⟨gf,hgf⟩:∃x,getNF rb=x:=⟨_,rfl⟩
 obtain⟨gl,hgl⟩:∃x,getNL rb=x:=⟨_,rfl⟩
 rw[hge,hgf,hgl] at G;have HGE:=Hd hge;have HGF:=Hd hgf;have HGL:=Hd hgl;have HBS:=Hd hbs;have HD4:=Hd hd4;clear hge hgf hgl hbs hd4;go_wp2_with fail;refine(must_ok _).mono ?_;rintro e wy ⟨rfl,rfl⟩;go_wp2_with fail;refine G.mono ?_;rintro e w5 ⟨vn,rfl,hon,hbn⟩;obtain⟨an,cn,rfl,hcn,hcm,_⟩:=own_slice hon;unfold maxLen at hcm;have HON:=Hd hon;have HBN:=Hd hbn;have hs5:=hbn.size;clear G hon hbn;rw[HRB.out,HGE.out] at hE;go_wp2_with fail;refine(must_bad hE _).mono ?_;rintro e wy ⟨rfl,rfl⟩;refine⟨rfl,only_past HO3.out hs3 (HBX.out.trans ((HBN.out.mono hsx).trans (Below.al (Below.refl _ _) |>.mono (by omega)))),?_⟩;show Ending.panicked (errP ge)=.panicked (errP (getNE (readB d r p)));rw[HRB.out,HGE.out]
theorem page_leaf {T:Nat} {w:World} {lb mb da M:Nat} {d:List Rg} {r:Int} {seen:List Int} (n:Nat) (h:LdIn T w lb mb da M d r seen) (hT:T≤w.heap.size) (hs:SeenOk seen) (p:Int) (hp:I64 p) (hm:p∉seen) (hP:pagedE d r p=0) (hE:getNE (readB d r p)=0) (hF:getNF (readB d r p)=true) :
 Calls Tryz.prog 52 #[.pointer (some ⟨lb,0,none⟩),.int .i64 p] w (PagePost T w lb mb da M d r (n+1) (loadT d r (n+1) seen p)):=by
 obtain⟨R0,hR0⟩:∃R0,valsL d r (seen++[p]) (getNL (readB d r p))=R0:=⟨_,rfl⟩
 have hR:loadT d r (n+1) seen p=leafR p R0:=by
  unfold loadT;rw[if_neg hm,if_neg (by omega),if_neg (by omega),if_pos hF,hR0];cases R0<;>rfl
 rw[hR];obtain⟨w1,hw1⟩:∃w1,w.alloc (.cells #[.int .i64 0,.bool false,.slice none 0 0,.slice none 0 0,.slice none 0 0] 50)=w1:=⟨_,rfl⟩
 have hb1:Below w.heap.size w w1:=by rw[←hw1];exact Below.al (Below.refl _ _)
 have hX1:Boxes w1 [(w.heap.size,zero5.toList)]:=by rw[←hw1];exact(Boxes.nil w).alloc #[.int .i64 0,.bool false,.slice none 0 0,.slice none 0 0,.slice none 0 0] 50 rfl
 obtain⟨w2,hw2⟩:∃w2,w1.alloc (.cells #[.int .i64 p] 3)=w2:=⟨_,rfl⟩
 have hb12:Below w1.heap.size w1 w2:=by rw[←hw2];exact Below.al (Below.refl _ _)
 have hb2:Below w.heap.size w w2:=by rw[←hw2];exact Below.al hb1
 have hs1:=hb1.size;have hrow:Row .i64 w2 (some ⟨w1.heap.size,0,none⟩) 1 1 [p]:=by
  exact q360bd1
 have hmb:=h.lt.2;have hls:=hs.len;have S1:=see_any (ps:=[p]) (h.below hT hb2) (by simp;omega) (by simpa using hp) hrow (fun x ex=>by cases ex;show w1.heap.size≠mb;omega);have hsee:seeL seen [p]=some (seen++[p]):=by unfold seeL;rw[if_neg hm];rfl
 rw[hsee] at S1;have hz:=zero_nodeL;have HB2:=Hd hb2;have HX2:=Hd (hX1.step hb12);have HS:=Hd hs;have HM:=Hd hm;have HR:=Hd hR;clear hb1 hb12 hX1 hb2 hrow hR hsee hm h hs1 hls hs;go_enter Tryz.func52,Tryz.ntmps52;go_wp2_with fail;refine S1.mono ?_;rintro e w3 ⟨ho3,rfl,hd3⟩;have hO3:=below_only HB2.out ho3;have HO3:=Hd hO3;have hs3:=hO3.size;have HX3:=Hd (HX2.out.only ho3 (by intro q hq;simp at hq;subst hq;simp;omega));obtain⟨c0,c1,_⟩:=hd3.cell;have hlt3:=hd3.lt.1;have hb0:Below w3.heap.size w3 w3.drew:=below_drewN (Below.refl _ _) 1;have hd0:=hd3.past (hb0.mono (show T≤w3.heap.size by omega));have C:=read_o hd0.one r p;have cA:∀W,Below w3.heap.size w3 W→W.cell? ⟨lb,0,none⟩=some (.pointer (some ⟨da,0,none⟩)):=fun W hW=>(hW.cell (p:=⟨lb,0,none⟩) hlt3).trans c0
 have cB:∀W,Below w3.heap.size w3 W→W.cell? ⟨lb,1,none⟩=some (.int .i64 r):=fun W hW=>(hW.cell (p:=⟨lb,1,none⟩) hlt3).trans c1
 have HD3:=Hd hd3;obtain⟨pe,hpe⟩:∃x,pagedE d r p=x:=⟨_,rfl⟩
 obtain⟨rb,hrb⟩:∃x,readB d r p=x:=⟨_,rfl⟩
 rw[hpe,hrb] at C;have HPE:=Hd hpe;have HRB:=Hd hrb;clear ho3 hO3 hd3 hd0 c0 c1 hpe hrb;go_wp2_with fail
 go_region_held3 (fun W=>Below w3.heap.size w3 W) (with_reducible assumption) (first|(go_at_call 94;refine C.mono ?_;rintro e wx ⟨vx,rfl,hox,hbx⟩;have hBx:Below w3.heap.size w3 wx:=below_then hb0 hbx))
 have HBX:=Hd hBx;have hsx:=hBx.size;obtain⟨av,cv,rfl,_⟩:=own_slice hox;have HOX:=Hd hox;clear C cA cB hox hbx hBx hb0;have hpe0:=HPE.out;rw[hP] at hpe0;subst hpe0;have hd4:=HD3.out.past (HBX.out.mono (show T≤w3.heap.size by omega));obtain⟨a',c',e',hbs⟩:=Bs.of_own HOX.out;cases e';have G:=nget_any _ _ _ _ wx hbs hd4.half;obtain⟨ge,hge⟩:∃x,getNE rb=x:=⟨_,rfl⟩
 obtain⟨gf,hgf⟩:∃x,getNF rb=x:=⟨_,rfl⟩
 obtain⟨gl,hgl⟩:∃x,getNL rb=x:=⟨_,rfl⟩
 rw[hge,hgf,hgl] at G;have HGE:=Hd hge;have HGF:=Hd hgf;have HGL:=Hd hgl;have HBS:=Hd hbs;have HD4:=Hd hd4;clear hge hgf hgl hbs hd4;go_wp2_with fail;refine(must_ok _).mono ?_;rintro e wy ⟨rfl,rfl⟩;go_wp2_with fail;refine G.mono ?_;rintro e w5 ⟨vn,rfl,hon,hbn⟩;obtain⟨an,cn,rfl,hcn,hcm,_⟩:=own_slice hon;unfold maxLen at hcm;have HON:=Hd hon;have HBN:=Hd hbn;have hs5:=hbn.size;clear G hon hbn;rw[HRB.out] at hE hF hR0;have hge0:=HGE.out;rw[hE] at hge0;subst hge0;have hgf0:=HGF.out;rw[hF] at hgf0;subst hgf0;rw[HGL.out] at hR0;have hN:=getN_node hE;rw[hF,HGL.out] at hN;obtain⟨hn1,hn2,hn3⟩:=nodeB_small hN;obtain⟨w6,hw6⟩:∃x,x=((w5.alloc (.cells #[.bool true,.slice an gl.length cn] 205)).alloc (.cells #[.int .i64 p,.bool true,.slice none 0 0,.slice none 0 0,.slice none 0 0] 50)):=⟨_,rfl⟩
 have hx5:Boxes w5 [(w.heap.size,zero5.toList)]:=(HX3.out.step HBX.out).step HBN.out;have hx6:Boxes w6 [(w5.heap.size+1,[.int .i64 p,.bool true,.slice none 0 0,.slice none 0 0,.slice none 0 0]),(w5.heap.size,[.bool true,.slice an gl.length cn]),(w.heap.size,zero5.toList)]:=by
  rw[hw6];exact(hx5.alloc #[.bool true,.slice an gl.length cn] 205 (b:=w5.heap.size) rfl).alloc #[.int .i64 p,.bool true,.slice none 0 0,.slice none 0 0,.slice none 0 0] 50 (b:=w5.heap.size+1) (by simp)
 have hb56:Below w5.heap.size w5 w6:=by rw[hw6];exact Below.al (Below.al (Below.refl _ _))
 have hsz6:w6.heap.size=w5.heap.size+2:=by rw[hw6];simp
 have hb36:Below w3.heap.size w3 w6:=HBX.out.trans ((HBN.out.trans (hb56.mono hs5)).mono hsx);have hmid:LMid T w w6 lb mb da M d r (seen++[p]) (w5.heap.size+1) w.heap.size (w5.heap.size+2) n p true (.slice none 0 0) (.slice none 0 0) (.slice none 0 0) [] [] [] w6:=
  ⟨hx6.sub (by intro q hq;simp at hq ⊢;rcases hq with rfl|rfl<;>simp),NodeRows.nil _ _ _ _ _ _ _,HD3.out.past (hb36.mono (by omega)),AgreeF.refl _,only_past HO3.out hs3 hb36,hT,Nat.le_refl _,by omega,by omega,by omega⟩
 have nb0:=hx6.cell 1 0 rfl rfl;obtain⟨a',c',e',hents⟩:=HON.out.ents;cases e';have hgeb:=own_ge HON.out;have HENTS:=Hd hents;have HMID:=Hd hmid;have HR0:=Hd hR0;have HN:=Hd hN;have HN2:=Hd hn2;have HN3:=Hd hn3;have HB56:=Hd hb56;have HSZ6:=Hd hsz6;have HGEB:=Hd hgeb;have HNB0:=Hd nb0;have hs53:w.heap.size<w5.heap.size:=by have:=hx5.lt 0 rfl;exact this
 have HW6:=Hd hw6;clear hR0 hN hn2 hn3 hx5 hx6 hb56 hsz6 hb36 hmid hents hgeb nb0 hw6;go_wp2_with fail;refine(must_ok _).mono ?_;rintro e wy ⟨rfl,rfl⟩;go_wp2_with fail;rw[←HW6.out]
 go_loopw [10,44] (fun _ s44 wr=>∃(i:Nat) (v1 v2 v3:Value) (s:List Int) (Li:List (List UInt8×Tv)),i≤gl.length∧s44=.int .i64 i∧Li.length=i∧SeenOk s∧afterL Li (valsL d r s (gl.drop i))=R0∧LMid T w w6 lb mb da M d r s (w5.heap.size+1) w.heap.size (w5.heap.size+2) n p true v1 v2 v3 (keysOf Li) (Li.map (·.2)) [] wr) (fun _ s _=>gl.length-(intOf s).toNat)
 case atStart=>exact⟨0,_,_,_,seen++[p],[],Nat.zero_le _,rfl,rfl,HS.out.snoc HM.out (paged_range HD3.out.dok HPE.out).1 (paged_range HD3.out.dok HPE.out).2,by rw[List.drop_zero,afterL_nil];exact HR0.out,HMID.out⟩
 case round=>
  clear HMID;obtain⟨i,v1,v2,v3,s,Li,hi,rfl,hLi,hsok,haf,hmid⟩:=hrel;obtain⟨a1,k1,a2,k2,a3,k3,rfl,rfl,rfl⟩:=hmid.rows.sl;have hlt2:=hmid.lt;have q5:=HSZ6.out;have htm:=hmid.ld.tm;have hK0:(keysOf Li).length=i:=by simp[keysOf];omega
  have hV0:(Li.map (·.2)).length=i:=by simp;omega
  have hnil:([]:List Tr).length=0:=rfl;rw[hK0,hV0,hnil] at hmid
  by_cases hlt:i<gl.length
  ·obtain⟨b,off,en,rfl,hb5,hen,k0,k1',k2',k3',k4⟩:=HENTS.out.at hlt
   have hbx:wx.heap.size≤b:=HGEB.out b rfl;have hdr:gl.drop i=en::gl.drop (i+1):=by
    have:=List.getElem?_eq_some_iff.1 hen;rw[←this.2,List.drop_eq_getElem_cons]
   rw[hdr] at haf;have henm:en∈gl:=List.mem_of_getElem? hen;obtain⟨hek,hed⟩:=HN2.out en henm;have hagr:∀(o:Nat),wr.cell? ⟨b,off+i*5+o,none⟩=w5.cell? ⟨b,off+i*5+o,none⟩:=fun o=>(hmid.ag.cell (b:=b) (o:=off+i*5+o) ⟨by show b<_;omega,by show b≠mb;omega,by show b≠_;omega⟩ (show b<w6.heap.size by omega)).trans (HB56.out.cell (p:=⟨b,off+i*5+o,none⟩) hb5)
   have j0:=(hagr 0).trans k0;have j1:=(hagr 1).trans k1';have j2:=(hagr 2).trans k2';have j3:=(hagr 3).trans k3';have j4:=(hagr 4).trans k4;simp only[Nat.add_zero] at j0;obtain⟨key,vd,vf,vs,vp⟩:=en;dsimp only at j0 j1 j2 j3 j4 hek hed;obtain⟨wb,hwb⟩:∃x,wr.alloc (.cells #[.string (strOf key),.string (strOf vd),.bool vf,.int .i64 vs,.int .i64 vp] 211)=x:=⟨_,rfl⟩
   have hbb:Below wr.heap.size wr wb:=by rw[←hwb];exact Below.al (Below.refl _ _)
   have hxb:Boxes wb [(wr.heap.size,[.string (strOf key),.string (strOf vd),.bool vf,.int .i64 vs,.int .i64 vp])]:=by rw[←hwb];exact(Boxes.nil wr).alloc #[.string (strOf key),.string (strOf vd),.bool vf,.int .i64 vs,.int .i64 vp] 211 rfl
   have hm0:=hmid.below hbb;have hwr9:=hbb.size;have hxlt:=hxb.lt 0 rfl;have x0:=hxb.cell 0 0 rfl rfl;have o2:=hm0.box.cell 0 2 rfl rfl;obtain⟨a',c',w',hrun1,hA1,f8,f9,hA2,hmidP⟩:=hm0.pushK (by rw[hK0];omega) key;rw[hK0] at hrun1 hA2 hmidP;have hkeys:keysOf Li++[key]=keysOf Li++[key]:=rfl;have hge1:(Value.slice a1 i k1).ownBlock≠some wr.heap.size:=fun e=>by have:=(hmid.rows.k.lt e).2;omega
   have hxz:Boxes (w'.setCell ⟨w5.heap.size+1,2,none⟩ (.slice a' (i+1) c')) [(wr.heap.size,[.string (strOf key),.string (strOf vd),.bool vf,.int .i64 vs,.int .i64 vp])]:=hxb.agree hA2 (by intro q hq;simp at hq;subst hq;exact⟨hge1,by show wr.heap.size≠_;omega⟩);obtain⟨wz,hwz⟩:∃x,w'.setCell ⟨w5.heap.size+1,2,none⟩ (.slice a' (i+1) c')=x:=⟨_,rfl⟩
   rw[hwz] at hmidP hxz;have hzl:=hmidP.lt;have nbz:wz.cell? ⟨w5.heap.size,0,none⟩=some (.bool true):=(hmidP.ag.cell (b:=w5.heap.size) (o:=0) ⟨by show w5.heap.size<_;omega,by show w5.heap.size≠mb;omega,by show w5.heap.size≠_;omega⟩ (show w5.heap.size<w6.heap.size by omega)).trans HNB0.out;have HP:=Hd hmidP;have HXZ:=Hd hxz;have HMID:=Hd hmid;have HAF:=Hd haf;have HLI:=Hd hLi;have HSOK:=Hd hsok;have HHEN:=Hd hen;have HHENM:=Hd henm;have q1:decide ((i:Int)<(gl.length:Int))=true:=decide_eq_true (by omega);have q2:decide (i<gl.length)=true:=decide_eq_true hlt;clear hdr hagr k0 k1' k2' k3' k4 hbb hxb hm0 hmidP hxz hmid haf hLi hsok hen henm hA1 hA2 hkeys;go_upto_region 12 with(at_builtin;refine wpList_append_run rfl _ _ _ _ rfl rfl rfl hrun1 ?_)
   clear hrun1 f8 f9 hwz hwb j0 j1 j2 j3 j4 x0 o2 q1 q2 nbz;have hT9:T≤wz.heap.size:=by omega
   have hb0:Below wz.heap.size wz wz.drew:=below_drewN (Below.refl _ _) 1;have hge2:(Value.slice a2 i k2).ownBlock≠some wr.heap.size:=fun e=>by have:=(HMID.out.rows.v.lt e).2;omega
   have hXA:∀(k:Nat) (u:Value),wz.cell? ⟨wr.heap.size,k,none⟩=some u→∀W,AgreeF (fun x=>(Value.slice a2 i k2).ownBlock≠some x∧x≠w5.heap.size+1∧x≠mb) wz W→W.cell? ⟨wr.heap.size,k,none⟩=some u:=fun k u h W hW=>(hW.cell (b:=wr.heap.size) (o:=k) ⟨hge2,by show wr.heap.size≠_;omega,by show wr.heap.size≠_;omega⟩ (by have:=HXZ.out.lt 0 rfl;exact this)).trans h
   have x1:=hXA 1 _ (HXZ.out.cell 0 1 rfl rfl);have x2:=hXA 2 _ (HXZ.out.cell 0 2 rfl rfl);have x3:=hXA 3 _ (HXZ.out.cell 0 3 rfl rfl);have x4:=hXA 4 _ (HXZ.out.cell 0 4 rfl rfl);have o3:=HP.out.box.cell 0 3 rfl rfl;have hA00:AgreeF (fun x=>(Value.slice a2 i k2).ownBlock≠some x∧x≠w5.heap.size+1∧x≠mb) wz wz.drew:=AgreeF.refl _;have CV:=value_any (HP.out.ld.past (hb0.mono hT9)) (show T≤wz.drew.heap.size from hT9) HSOK.out.len ⟨vd,vf,vs,vp⟩ (leaf_page HN.out _ HHENM.out).1;have haf:=HAF.out;cases hv:valL d r s ⟨vd,vf,vs,vp⟩ with
   | error x=>
    rw[valsL_err hv] at haf;have HEP:∀w2,Only [mb] wz.drew w2→PagePost T w lb mb da M d r (n+1) (leafR p R0) (.panicked (errP x)) w2:=fun w2 ho=>⟨HP.out.ol.trans ho,by rw[←haf];rfl⟩
    rw[hv] at CV;clear haf HAF hXA;refine wp_region_held_drew (S:=(fun W=>AgreeF (fun x=>(Value.slice a2 i k2).ownBlock≠some x∧x≠w5.heap.size+1∧x≠mb) wz W)) (by kernel_rfl) (by(repeat (with_reducible first|assumption|exact AgreeF.refl _|apply AgreeF.al|apply AgreeF.dr))) (fun hHeld=>?_);refine tks [0,2] ?_;refine tks [3,4] ?_;refine rdy2 1 5 (fun K hK=>?_) (fun K hK=>?_)
    ·(rw[if_pos (by rfl)];go_wp2_with (fail))
     refine bkA hK (fun hHeld=>?_);clear hK K;refine rdy 5 (fun K hK=>?_)
     (rw[if_pos (by rfl)];go_simp;(with_reducible refine CV.mono ?_);rintro e w2 ⟨ho2,he⟩;have he:e=.panicked (errP x):=he;subst he;exact⟨rfl,HEP _ ho2⟩)
    ·(rw[if_pos (by rfl)];go_simp;(with_reducible refine CV.mono ?_);rintro e w2 ⟨ho2,he⟩;have he:e=.panicked (errP x):=he;subst he;exact⟨rfl,HEP _ ho2⟩)
   | ok y=>
    obtain⟨s2,tv⟩:=y;rw[valsL_ok hv,afterL_app] at haf;have haf2:afterL (Li++[(key,tv)]) (valsL d r s2 (gl.drop (i+1)))=R0:=haf;have HAF2:=Hd haf2;have HV:=Hd hv;rw[hv] at CV;have PC:∀(w2:World) (e1:Value),Only [mb] wz.drew w2→TvOn (fun b=>wz.drew.heap.size≤b) w2 [.string (strOf tv.data),e1] tv→LdIn T w2 lb mb da M d r s2→∃a9 c9 w9,(Builtin.append_ #[47,47] 47 #[.slice a2 i k2,.slice (some ⟨w2.heap.size,0,none⟩) 1 1]).run Tryz.prog (w2.alloc (.cells #[.string (strOf tv.data),e1] 101))=.ok (.slice a9 (i+1) c9) w9∧w9.cell? ⟨w5.heap.size+1,3,none⟩=some (.slice a2 i k2)∧w9.frozen? ⟨w5.heap.size+1,3,none⟩=false∧w2.cell? ⟨w5.heap.size+1,3,none⟩=some (.slice a2 i k2)∧w5.heap.size+1<w2.heap.size ∧
     AgreeF (fun x=>(Value.slice a2 i k2).ownBlock≠some x∧x≠w5.heap.size+1∧x≠mb) wz w2∧AgreeF (fun x=>(Value.slice a2 i k2).ownBlock≠some x∧x≠w5.heap.size+1∧x≠mb) wz w9∧AgreeF (fun x=>(Value.slice a2 i k2).ownBlock≠some x∧x≠w5.heap.size+1∧x≠mb) wz (w9.setCell ⟨w5.heap.size+1,3,none⟩ (.slice a9 (i+1) c9))∧Hid (LMid T w w6 lb mb da M d r s2 (w5.heap.size+1) w.heap.size (w5.heap.size+2) n p true (.slice a' (i+1) c') (.slice a9 (i+1) c9) (.slice a3 0 k3) (keysOf (Li++[(key,tv)])) ((Li++[(key,tv)]).map (·.2)) [] (w9.setCell ⟨w5.heap.size+1,3,none⟩ (.slice a9 (i+1) c9))):=fun w2 e1 ho hon hl2=>by
     have hm2:=(HP.out.below hb0).turn ho hl2;have hy:TvOn (G3 (fun _=>False) (w5.heap.size+2) (.slice a' (i+1) c') (.slice a2 i k2) (.slice a3 0 k3)) w2 [.string (strOf tv.data),e1] tv:=hon.mono (fun b hb=>by
      have hb:wz.heap.size≤b:=hb;exact⟨.inr (by have:=HP.out.lt;omega),fun e=>by have:=(HP.out.rows.k.lt e).2;omega,fun e=>by have:=(HP.out.rows.v.lt e).2;omega,fun e=>by have:=(HP.out.rows.c.lt e).2;omega⟩)
     obtain⟨a9,c9,w9,hrun2,hA3,f8,f9,hA4,hmidQ⟩:=hm2.pushV (by rw[show(Li.map (·.2)).length=i by simp;exact HLI.out];have:=HLI.out;omega) hy;have e2:keysOf Li++[key]=keysOf (Li++[(key,tv)]):=by simp[keysOf]
     have e3:Li.map (·.2)++[tv]=(Li++[(key,tv)]).map (·.2):=by simp
     rw[show(Li.map (·.2)).length=i by simp;exact HLI.out] at hrun2 hA4 hmidQ;rw[e2,e3] at hmidQ;have hag:AgreeF (fun x=>(Value.slice a2 i k2).ownBlock≠some x∧x≠w5.heap.size+1∧x≠mb) wz w2:=⟨ho.size,fun b hb hlt=>ho.block hlt (by simp;exact hb.2.2)⟩
     exact⟨a9,c9,w9,hrun2,f8,f9,hm2.box.cell 0 3 rfl rfl,hm2.lt.1,hag,hag.trans (hA3.sub fun x hx=>⟨hx.1,hx.2.1⟩),hag.trans (hA4.sub fun x hx=>⟨hx.1,hx.2.1⟩),Hd hmidQ⟩
    have HSOK2:=Hd (valL_seen HV.out (leaf_page HN.out _ HHENM.out).2 HSOK.out).1;clear haf haf2 HAF hXA hv
    skip
    refine wp_region_held_drew (S:=(fun W=>AgreeF (fun x=>(Value.slice a2 i k2).ownBlock≠some x∧x≠w5.heap.size+1∧x≠mb) wz W)) (by kernel_rfl) (by(repeat (with_reducible first|assumption|exact AgreeF.refl _|apply AgreeF.al|apply AgreeF.dr))) (fun hHeld=>?_);refine tks [0,2] ?_;refine tks [3,4] ?_;refine rdy2 1 5 (fun K hK=>?_) (fun K hK=>?_)
    ·(rw[if_pos (by rfl)];go_wp2_with (fail))
     refine bkA hK (fun hHeld=>?_);clear hK K;refine rdy 5 (fun K hK=>?_)
     (rw[if_pos (by rfl)];go_simp;(with_reducible refine CV.mono ?_);rintro e w2 ⟨ho2,e1,rfl,hon2,hl2⟩;obtain⟨a9,c9,w9,hrun2,f8,f9,f7,hlt9,hA1,hA3,hA4,HQ⟩:=PC _ _ ho2 hon2 hl2;clear CV PC hon2 hl2;dsimp only)
     refine bkA hK (fun hHeld=>?_);clear hK K;refine rdy 6 (fun K hK=>?_)
     (rw[if_pos (by rfl)];go_wp2_with (fail))
     exact qdf4017
    ·(rw[if_pos (by rfl)];go_simp;(with_reducible refine CV.mono ?_);rintro e w2 ⟨ho2,e1,rfl,hon2,hl2⟩;obtain⟨a9,c9,w9,hrun2,f8,f9,f7,hlt9,hA1,hA3,hA4,HQ⟩:=PC _ _ ho2 hon2 hl2;clear CV PC hon2 hl2;dsimp only)
     refine bkA hK (fun hHeld=>?_);clear hK K;refine rdy2 1 6 (fun K hK=>?_) (fun K hK=>?_)
     ·(rw[if_pos (by rfl)];go_wp2_with (fail))
      refine bkA hK (fun hHeld=>?_);clear hK K;refine rdy 6 (fun K hK=>?_)
      (rw[if_pos (by rfl)];go_wp2_with (fail))
      exact qdf4017
     ·(rw[if_pos (by rfl)];go_wp2_with (fail))
      refine bkA hK (fun hHeld=>?_);clear hK K;refine rdy 1 (fun K hK=>?_)
      (rw[if_pos (by rfl)];go_wp2_with (fail))
      exact qdf4017
  ·have hin:i=gl.length:=by omega
   have hdr:gl.drop i=[]:=List.drop_of_length_le (by omega);rw[hdr] at haf;have haf2:R0=.ok (s,Li):=by rw[←haf];unfold valsL;simp[afterL]
   have htw:=hmid.tw;have hx:=hmid.box;have n0:=hx.cell 0 0 rfl rfl;have n1:=hx.cell 0 1 rfl rfl;have n2:=hx.cell 0 2 rfl rfl;have n3:=hx.cell 0 3 rfl rfl;have n4:=hx.cell 0 4 rfl rfl;have hrb:Boxes wr [(w.heap.size,zero5.toList)]:=hx.sub (by intro q hq;simp at hq ⊢;exact .inr hq);have hrb1:=hrb.put 0 (.int .i64 p) (by intro q hq;simp at hq);have hrb2:=hrb1.put 1 (.bool true) (by intro q hq;simp at hq);have hrb3:=hrb2.put 2 (.slice a1 i k1) (by intro q hq;simp at hq);have hrb4:=hrb3.put 3 (.slice a2 i k2) (by intro q hq;simp at hq);have hrb5:=hrb4.put 4 (.slice a3 0 k3) (by intro q hq;simp at hq);obtain⟨we,hwe⟩:∃x,x=((((wr.setCell ⟨w.heap.size,0,none⟩ (.int .i64 p)).setCell ⟨w.heap.size,1,none⟩ (.bool true)).setCell ⟨w.heap.size,2,none⟩ (.slice a1 i k1)).setCell ⟨w.heap.size,3,none⟩ (.slice a2 i k2)).setCell ⟨w.heap.size,4,none⟩ (.slice a3 0 k3):=⟨_,rfl⟩
   rw[←hwe] at hrb5;have hbw:Below w.heap.size wr we:=by
    exact q5f5823
   have hrows:NodeRows 9 101 50 (fun _=>False) n (w5.heap.size+2) we (.slice a1 i k1) (.slice a2 i k2) (.slice a3 0 k3) (keysOf Li) (Li.map (·.2)) []:=by
    rw[hwe];have hk:w.heap.size<w5.heap.size+2:=by omega
    exact((((hmid.rows.set hk id).set hk id).set hk id).set hk id).set hk id
   have HE:Hid (PagePost T w lb mb da M d r (n+1) (leafR p R0) (.returned (.agg #[.int .i64 p,.bool true,.slice a1 i k1,.slice a2 i k2,.slice a3 0 k3])) we):=Hd (by rw[haf2];exact⟨only_past hmid.ol (Nat.le_refl _) hbw,[.int .i64 p,.bool true,.slice a1 i k1,.slice a2 i k2,.slice a3 0 k3],rfl,hrows.leaf (fun b hb=>by rcases hb with hb|hb;exact hb.elim;omega) n,hmid.ld.past (hbw.mono htw)⟩);have z0:=hrb5.cell 0 0 rfl rfl;have z1:=hrb5.cell 0 1 rfl rfl;have z2:=hrb5.cell 0 2 rfl rfl;have z3:=hrb5.cell 0 3 rfl rfl;have z4:=hrb5.cell 0 4 rfl rfl;have u0:=hrb.frozen 0 0 rfl;have u1:=hrb.frozen 0 1 rfl;have u2:=hrb.frozen 0 2 rfl;have u3:=hrb.frozen 0 3 rfl;have u4:=hrb.frozen 0 4 rfl;have y0:=hrb.cell 0 0 rfl rfl;have y1:=hrb.cell 0 1 rfl rfl;have y2:=hrb.cell 0 2 rfl rfl;have y3:=hrb.cell 0 3 rfl rfl;have y4:=hrb.cell 0 4 rfl rfl;have hrb0:=hrb.lt 0 rfl;have q1:decide ((i:Int)<(gl.length:Int))=false:=decide_eq_false (by omega);have q2:decide (i<gl.length)=false:=decide_eq_false hlt;clear hin hdr haf haf2 hx hrb hrb1 hrb2 hrb3 hrb4 hrb5 hbw hrows hmid;go_wp2_with fail;rw[←hwe];refine bodyPost_ret (v:=.agg #[.int .i64 p,.bool true,.slice a1 i k1,.slice a2 i k2,.slice a3 0 k3]) (by simp[results,Tryz.results52,go_sem,z0,z1,z2,z3,z4]) rfl ?_;exact HE.out
theorem page_node {T:Nat} {w:World} {lb mb da M:Nat} {d:List Rg} {r:Int} {seen:List Int} {n:Nat} (IH:∀{w:World} {seen:List Int} {p:Int},LdIn T w lb mb da M d r seen→T≤w.heap.size→SeenOk seen→roomL seen<n→I64 p→p≠0→Calls Tryz.prog 52 #[.pointer (some ⟨lb,0,none⟩),.int .i64 p] w (PagePost T w lb mb da M d r n (loadT d r n seen p))) (h:LdIn T w lb mb da M d r seen) (hT:T≤w.heap.size) (hs:SeenOk seen) (p:Int) (hp:I64 p) (hm:p∉seen) (hroom:roomL seen<n+1) (hp0:p≠0) (hP:pagedE d r p=0) (hE:getNE (readB d r p)=0) (hF:getNF (readB d r p)=false) :
 Calls Tryz.prog 52 #[.pointer (some ⟨lb,0,none⟩),.int .i64 p] w (PagePost T w lb mb da M d r (n+1) (loadT d r (n+1) seen p)):=by
 obtain⟨R0,hR0⟩:∃R0,kidsL (loadT d r n) (seen++[p]) (getNL (readB d r p))=R0:=⟨_,rfl⟩
 have hR:loadT d r (n+1) seen p=nodeR p R0:=by
  unfold loadT;rw[if_neg hm,if_neg (by omega),if_neg (by omega),if_neg (by rw[hF];simp),hR0];cases R0<;>rfl
 have hrng:=paged_range h.dok hP;have hroom0:roomL (seen++[p])<n:=by have:=roomL_see hm (by omega) hrng.2;omega
 rw[hR];obtain⟨w1,hw1⟩:∃w1,w.alloc (.cells #[.int .i64 0,.bool false,.slice none 0 0,.slice none 0 0,.slice none 0 0] 50)=w1:=⟨_,rfl⟩
 have hb1:Below w.heap.size w w1:=by rw[←hw1];exact Below.al (Below.refl _ _)
 have hX1:Boxes w1 [(w.heap.size,zero5.toList)]:=by rw[←hw1];exact(Boxes.nil w).alloc #[.int .i64 0,.bool false,.slice none 0 0,.slice none 0 0,.slice none 0 0] 50 rfl
 obtain⟨w2,hw2⟩:∃w2,w1.alloc (.cells #[.int .i64 p] 3)=w2:=⟨_,rfl⟩
 have hb12:Below w1.heap.size w1 w2:=by rw[←hw2];exact Below.al (Below.refl _ _)
 have hb2:Below w.heap.size w w2:=by rw[←hw2];exact Below.al hb1
 have hs1:=hb1.size;have hrow:Row .i64 w2 (some ⟨w1.heap.size,0,none⟩) 1 1 [p]:=by
  exact q360bd1
 have hmb:=h.lt.2;have hls:=hs.len;have S1:=see_any (ps:=[p]) (h.below hT hb2) (by simp;omega) (by simpa using hp) hrow (fun x ex=>by cases ex;show w1.heap.size≠mb;omega);have hsee:seeL seen [p]=some (seen++[p]):=by unfold seeL;rw[if_neg hm];rfl
 rw[hsee] at S1;have hz:=zero_nodeL;have HB2:=Hd hb2;have HX2:=Hd (hX1.step hb12);have HS:=Hd hs;have HM:=Hd hm;have HR:=Hd hR;clear hb1 hb12 hX1 hb2 hrow hR hsee hm h hs1 hls hs;go_enter Tryz.func52,Tryz.ntmps52;go_wp2_with fail;refine S1.mono ?_;rintro e w3 ⟨ho3,rfl,hd3⟩;have hO3:=below_only HB2.out ho3;have HO3:=Hd hO3;have hs3:=hO3.size;have HX3:=Hd (HX2.out.only ho3 (by intro q hq;simp at hq;subst hq;simp;omega));obtain⟨c0,c1,_⟩:=hd3.cell;have hlt3:=hd3.lt.1;have hb0:Below w3.heap.size w3 w3.drew:=below_drewN (Below.refl _ _) 1;have hd0:=hd3.past (hb0.mono (show T≤w3.heap.size by omega));have C:=read_o hd0.one r p;have cA:∀W,Below w3.heap.size w3 W→W.cell? ⟨lb,0,none⟩=some (.pointer (some ⟨da,0,none⟩)):=fun W hW=>(hW.cell (p:=⟨lb,0,none⟩) hlt3).trans c0
 have cB:∀W,Below w3.heap.size w3 W→W.cell? ⟨lb,1,none⟩=some (.int .i64 r):=fun W hW=>(hW.cell (p:=⟨lb,1,none⟩) hlt3).trans c1
 have HD3:=Hd hd3;obtain⟨pe,hpe⟩:∃x,pagedE d r p=x:=⟨_,rfl⟩
 obtain⟨rb,hrb⟩:∃x,readB d r p=x:=⟨_,rfl⟩
 rw[hpe,hrb] at C;have HPE:=Hd hpe;have HRB:=Hd hrb;clear ho3 hO3 hd3 hd0 c0 c1 hpe hrb;go_wp2_with fail
 go_region_held3 (fun W=>Below w3.heap.size w3 W) (with_reducible assumption) (first|(go_at_call 94;refine C.mono ?_;rintro e wx ⟨vx,rfl,hox,hbx⟩;have hBx:Below w3.heap.size w3 wx:=below_then hb0 hbx))
 have HBX:=Hd hBx;have hsx:=hBx.size;obtain⟨av,cv,rfl,_⟩:=own_slice hox;have HOX:=Hd hox;clear C cA cB hox hbx hBx hb0;have hpe0:=HPE.out;rw[hP] at hpe0;subst hpe0;have hd4:=HD3.out.past (HBX.out.mono (show T≤w3.heap.size by omega));obtain⟨a',c',e',hbs⟩:=Bs.of_own HOX.out;cases e';have G:=nget_any _ _ _ _ wx hbs hd4.half;obtain⟨ge,hge⟩:∃x,getNE rb=x:=⟨_,rfl⟩
 obtain⟨gf,hgf⟩:∃x,getNF rb=x:=⟨_,rfl⟩
 obtain⟨gl,hgl⟩:∃x,getNL rb=x:=⟨_,rfl⟩
 rw[hge,hgf,hgl] at G;have HGE:=Hd hge;have HGF:=Hd hgf;have HGL:=Hd hgl;have HBS:=Hd hbs;have HD4:=Hd hd4;clear hge hgf hgl hbs hd4;go_wp2_with fail;refine(must_ok _).mono ?_;rintro e wy ⟨rfl,rfl⟩;go_wp2_with fail;refine G.mono ?_;rintro e w5 ⟨vn,rfl,hon,hbn⟩;obtain⟨an,cn,rfl,hcn,hcm,_⟩:=own_slice hon;unfold maxLen at hcm;have HON:=Hd hon;have HBN:=Hd hbn;have hs5:=hbn.size;clear G hon hbn;rw[HRB.out] at hE hF hR0;have hge0:=HGE.out;rw[hE] at hge0;subst hge0;have hgf0:=HGF.out;rw[hF] at hgf0;subst hgf0;rw[HGL.out] at hR0;have hN:=getN_node hE;rw[hF,HGL.out] at hN;obtain⟨hn1,hn2,hn3⟩:=nodeB_small hN;obtain⟨w6,hw6⟩:∃x,x=((w5.alloc (.cells #[.bool false,.slice an gl.length cn] 205)).alloc (.cells #[.int .i64 p,.bool false,.slice none 0 0,.slice none 0 0,.slice none 0 0] 50)):=⟨_,rfl⟩
 have hx5:Boxes w5 [(w.heap.size,zero5.toList)]:=(HX3.out.step HBX.out).step HBN.out;have hx6:Boxes w6 [(w5.heap.size+1,[.int .i64 p,.bool false,.slice none 0 0,.slice none 0 0,.slice none 0 0]),(w5.heap.size,[.bool false,.slice an gl.length cn]),(w.heap.size,zero5.toList)]:=by
  rw[hw6];exact(hx5.alloc #[.bool false,.slice an gl.length cn] 205 (b:=w5.heap.size) rfl).alloc #[.int .i64 p,.bool false,.slice none 0 0,.slice none 0 0,.slice none 0 0] 50 (b:=w5.heap.size+1) (by simp)
 have hb56:Below w5.heap.size w5 w6:=by rw[hw6];exact Below.al (Below.al (Below.refl _ _))
 have hsz6:w6.heap.size=w5.heap.size+2:=by rw[hw6];simp
 have hb36:Below w3.heap.size w3 w6:=HBX.out.trans ((HBN.out.trans (hb56.mono hs5)).mono hsx);have hmid:LMid T w w6 lb mb da M d r (seen++[p]) (w5.heap.size+1) w.heap.size (w5.heap.size+2) n p false (.slice none 0 0) (.slice none 0 0) (.slice none 0 0) [] [] [] w6:=
  ⟨hx6.sub (by intro q hq;simp at hq ⊢;rcases hq with rfl|rfl<;>simp),NodeRows.nil _ _ _ _ _ _ _,HD3.out.past (hb36.mono (by omega)),AgreeF.refl _,only_past HO3.out hs3 hb36,hT,Nat.le_refl _,by omega,by omega,by omega⟩
 have nb0:=hx6.cell 1 0 rfl rfl;obtain⟨a',c',e',hents⟩:=HON.out.ents;cases e';have hgeb:=own_ge HON.out;have HENTS:=Hd hents;have HMID:=Hd hmid;have HR0:=Hd hR0;have HN:=Hd hN;have HN2:=Hd hn2;have HN3:=Hd hn3;have HB56:=Hd hb56;have HSZ6:=Hd hsz6;have HGEB:=Hd hgeb;have HNB0:=Hd nb0;have hs53:w.heap.size<w5.heap.size:=by have:=hx5.lt 0 rfl;exact this
 have HW6:=Hd hw6;clear hR0 hN hn2 hn3 hx5 hx6 hb56 hsz6 hb36 hmid hents hgeb nb0 hw6;go_wp2_with fail;refine(must_ok _).mono ?_;rintro e wy ⟨rfl,rfl⟩;go_wp2_with fail;rw[←HW6.out]
 go_loopw [10,44] (fun _ s44 wr=>∃(i:Nat) (v1 v2 v3:Value) (s:List Int) (Li:List (List UInt8×Tr)),i≤gl.length∧s44=.int .i64 i∧Li.length=i∧SeenOk s∧roomL s<n∧afterL Li (kidsL (loadT d r n) s (gl.drop i))=R0∧LMid T w w6 lb mb da M d r s (w5.heap.size+1) w.heap.size (w5.heap.size+2) n p false v1 v2 v3 (keysOf Li) [] (Li.map (·.2)) wr) (fun _ s _=>gl.length-(intOf s).toNat)
 case atStart=>exact⟨0,_,_,_,seen++[p],[],Nat.zero_le _,rfl,rfl,HS.out.snoc HM.out (paged_range HD3.out.dok HPE.out).1 (paged_range HD3.out.dok HPE.out).2,hroom0,by rw[List.drop_zero,afterL_nil];exact HR0.out,HMID.out⟩
 case round=>
  clear HMID;obtain⟨i,v1,v2,v3,s,Li,hi,rfl,hLi,hsok,hroom,haf,hmid⟩:=hrel;obtain⟨a1,k1,a2,k2,a3,k3,rfl,rfl,rfl⟩:=hmid.rows.sl;have hlt2:=hmid.lt;have q5:=HSZ6.out;have htm:=hmid.ld.tm;have hK0:(keysOf Li).length=i:=by simp[keysOf];omega
  have hV0:(Li.map (·.2)).length=i:=by simp;omega
  have hnil:([]:List Tv).length=0:=rfl;rw[hK0,hnil,hV0] at hmid
  by_cases hlt:i<gl.length
  ·obtain⟨b,off,en,rfl,hb5,hen,k0,k1',k2',k3',k4⟩:=HENTS.out.at hlt
   have hbx:wx.heap.size≤b:=HGEB.out b rfl;have hdr:gl.drop i=en::gl.drop (i+1):=by
    have:=List.getElem?_eq_some_iff.1 hen;rw[←this.2,List.drop_eq_getElem_cons]
   rw[hdr] at haf;have henm:en∈gl:=List.mem_of_getElem? hen;obtain⟨hek,hed⟩:=HN2.out en henm;have hagr:∀(o:Nat),wr.cell? ⟨b,off+i*5+o,none⟩=w5.cell? ⟨b,off+i*5+o,none⟩:=fun o=>(hmid.ag.cell (b:=b) (o:=off+i*5+o) ⟨by show b<_;omega,by show b≠mb;omega,by show b≠_;omega⟩ (show b<w6.heap.size by omega)).trans (HB56.out.cell (p:=⟨b,off+i*5+o,none⟩) hb5)
   have j0:=(hagr 0).trans k0;have j1:=(hagr 1).trans k1';have j2:=(hagr 2).trans k2';have j3:=(hagr 3).trans k3';have j4:=(hagr 4).trans k4;simp only[Nat.add_zero] at j0;obtain⟨key,vd,vf,vs,vp⟩:=en;dsimp only at j0 j1 j2 j3 j4 hek hed;obtain⟨wb,hwb⟩:∃x,wr.alloc (.cells #[.string (strOf key),.string (strOf vd),.bool vf,.int .i64 vs,.int .i64 vp] 211)=x:=⟨_,rfl⟩
   have hbb:Below wr.heap.size wr wb:=by rw[←hwb];exact Below.al (Below.refl _ _)
   have hxb:Boxes wb [(wr.heap.size,[.string (strOf key),.string (strOf vd),.bool vf,.int .i64 vs,.int .i64 vp])]:=by rw[←hwb];exact(Boxes.nil wr).alloc #[.string (strOf key),.string (strOf vd),.bool vf,.int .i64 vs,.int .i64 vp] 211 rfl
   have hm0:=hmid.below hbb;have hwr9:=hbb.size;have hxlt:=hxb.lt 0 rfl;have x0:=hxb.cell 0 0 rfl rfl;have o2:=hm0.box.cell 0 2 rfl rfl;obtain⟨a',c',w',hrun1,hA1,f8,f9,hA2,hmidP⟩:=hm0.pushK (by rw[hK0];omega) key;rw[hK0] at hrun1 hA2 hmidP;have hkeys:keysOf Li++[key]=keysOf Li++[key]:=rfl;have hge1:(Value.slice a1 i k1).ownBlock≠some wr.heap.size:=fun e=>by have:=(hmid.rows.k.lt e).2;omega
   have hxz:Boxes (w'.setCell ⟨w5.heap.size+1,2,none⟩ (.slice a' (i+1) c')) [(wr.heap.size,[.string (strOf key),.string (strOf vd),.bool vf,.int .i64 vs,.int .i64 vp])]:=hxb.agree hA2 (by intro q hq;simp at hq;subst hq;exact⟨hge1,by show wr.heap.size≠_;omega⟩);obtain⟨wz,hwz⟩:∃x,w'.setCell ⟨w5.heap.size+1,2,none⟩ (.slice a' (i+1) c')=x:=⟨_,rfl⟩
   rw[hwz] at hmidP hxz;have hzl:=hmidP.lt;have nbz:wz.cell? ⟨w5.heap.size,0,none⟩=some (.bool false):=(hmidP.ag.cell (b:=w5.heap.size) (o:=0) ⟨by show w5.heap.size<_;omega,by show w5.heap.size≠mb;omega,by show w5.heap.size≠_;omega⟩ (show w5.heap.size<w6.heap.size by omega)).trans HNB0.out;have HP:=Hd hmidP;have HXZ:=Hd hxz;have HMID:=Hd hmid;have HAF:=Hd haf;have HLI:=Hd hLi;have HSOK:=Hd hsok;have HHEN:=Hd hen;have HHENM:=Hd henm;have q1:decide ((i:Int)<(gl.length:Int))=true:=decide_eq_true (by omega);have q2:decide (i<gl.length)=true:=decide_eq_true hlt;clear hdr hagr k0 k1' k2' k3' k4 hbb hxb hm0 hmidP hxz hmid haf hLi hsok hen henm hA1 hA2 hkeys;go_upto_region 13 with(at_builtin;refine wpList_append_run rfl _ _ _ _ rfl rfl rfl hrun1 ?_)
   clear hrun1 f8 f9 hwz hwb j0 j1 j2 j3 j4 x0 o2 q1 q2 nbz;have hT9:T≤wz.heap.size:=by omega
   have hb0:Below wz.heap.size wz wz.drew:=below_drewN (Below.refl _ _) 1;have hge2:(Value.slice a3 i k3).ownBlock≠some wr.heap.size:=fun e=>by have:=(HMID.out.rows.c.lt e).2;omega
   have hXA:∀(k:Nat) (u:Value),wz.cell? ⟨wr.heap.size,k,none⟩=some u→∀W,AgreeF (fun x=>(Value.slice a3 i k3).ownBlock≠some x∧x≠w5.heap.size+1∧x≠mb) wz W→W.cell? ⟨wr.heap.size,k,none⟩=some u:=fun k u h W hW=>(hW.cell (b:=wr.heap.size) (o:=k) ⟨hge2,by show wr.heap.size≠_;omega,by show wr.heap.size≠_;omega⟩ (by have:=HXZ.out.lt 0 rfl;exact this)).trans h
   have x1:=hXA 1 _ (HXZ.out.cell 0 1 rfl rfl);have x2:=hXA 2 _ (HXZ.out.cell 0 2 rfl rfl);have x3:=hXA 3 _ (HXZ.out.cell 0 3 rfl rfl);have x4:=hXA 4 _ (HXZ.out.cell 0 4 rfl rfl);have o3:=HP.out.box.cell 0 4 rfl rfl;have hA00:AgreeF (fun x=>(Value.slice a3 i k3).ownBlock≠some x∧x≠w5.heap.size+1∧x≠mb) wz wz.drew:=AgreeF.refl _;have CV:=IH (HP.out.ld.past (hb0.mono hT9)) (show T≤wz.drew.heap.size from hT9) HSOK.out hroom (show I64 vp by have:=HN3.out (by trivial) _ HHENM.out;dsimp only at this;unfold I64;omega) (show vp≠0 by have:=HN3.out (by trivial) _ HHENM.out;dsimp only at this;omega);have haf:=HAF.out;cases hv:loadT d r n s vp with
   | error x=>
    rw[kidsL_err hv] at haf;have HEP:∀w2,Only [mb] wz.drew w2→PagePost T w lb mb da M d r (n+1) (nodeR p R0) (.panicked (errP x)) w2:=fun w2 ho=>⟨HP.out.ol.trans ho,by rw[←haf];rfl⟩
    rw[hv] at CV;clear haf HAF hXA;refine wp_region_held_drew (S:=(fun W=>AgreeF (fun x=>(Value.slice a3 i k3).ownBlock≠some x∧x≠w5.heap.size+1∧x≠mb) wz W)) (by kernel_rfl) (by(repeat (with_reducible first|assumption|exact AgreeF.refl _|apply AgreeF.al|apply AgreeF.dr))) (fun hHeld=>?_);refine tks [0,2] ?_;refine tks [3,4,5] ?_;refine rdy2 1 6 (fun K hK=>?_) (fun K hK=>?_)
    ·(rw[if_pos (by rfl)];go_wp2_with (fail))
     refine bkA hK (fun hHeld=>?_);clear hK K;refine rdy 6 (fun K hK=>?_)
     (rw[if_pos (by rfl)];go_simp;(with_reducible refine CV.mono ?_);rintro e w2 ⟨ho2,he⟩;have he:e=.panicked (errP x):=he;subst he;exact⟨rfl,HEP _ ho2⟩)
    ·(rw[if_pos (by rfl)];go_simp;(with_reducible refine CV.mono ?_);rintro e w2 ⟨ho2,he⟩;have he:e=.panicked (errP x):=he;subst he;exact⟨rfl,HEP _ ho2⟩)
   | ok y=>
    obtain⟨s2,kid⟩:=y;rw[kidsL_ok hv,afterL_app] at haf;have haf2:afterL (Li++[(key,kid)]) (kidsL (loadT d r n) s2 (gl.drop (i+1)))=R0:=haf;have HAF2:=Hd haf2;have HV:=Hd hv;rw[hv] at CV;have PC:∀(w2:World) (x0 x1 x2 x3 x4:Value),Only [mb] wz.drew w2→NodeOn (fun b=>wz.drew.heap.size≤b) n w2 [x0,x1,x2,x3,x4] kid→LdIn T w2 lb mb da M d r s2→∃a9 c9 w9,(Builtin.append_ #[48,48] 48 #[.slice a3 i k3,.slice (some ⟨w2.heap.size,0,none⟩) 1 1]).run Tryz.prog (w2.alloc (.cells #[x0,x1,x2,x3,x4] 50))=.ok (.slice a9 (i+1) c9) w9∧w9.cell? ⟨w5.heap.size+1,4,none⟩=some (.slice a3 i k3)∧w9.frozen? ⟨w5.heap.size+1,4,none⟩=false∧w2.cell? ⟨w5.heap.size+1,4,none⟩=some (.slice a3 i k3)∧w5.heap.size+1<w2.heap.size ∧
     AgreeF (fun x=>(Value.slice a3 i k3).ownBlock≠some x∧x≠w5.heap.size+1∧x≠mb) wz w2∧AgreeF (fun x=>(Value.slice a3 i k3).ownBlock≠some x∧x≠w5.heap.size+1∧x≠mb) wz w9∧AgreeF (fun x=>(Value.slice a3 i k3).ownBlock≠some x∧x≠w5.heap.size+1∧x≠mb) wz (w9.setCell ⟨w5.heap.size+1,4,none⟩ (.slice a9 (i+1) c9))∧Hid (LMid T w w6 lb mb da M d r s2 (w5.heap.size+1) w.heap.size (w5.heap.size+2) n p false (.slice a' (i+1) c') (.slice a2 0 k2) (.slice a9 (i+1) c9) (keysOf (Li++[(key,kid)])) [] ((Li++[(key,kid)]).map (·.2)) (w9.setCell ⟨w5.heap.size+1,4,none⟩ (.slice a9 (i+1) c9))):=fun w2 x0 x1 x2 x3 x4 ho hon hl2=>by
     have hm2:=(HP.out.below hb0).turn ho hl2;have hy:NodeOn (G3 (fun _=>False) (w5.heap.size+2) (.slice a' (i+1) c') (.slice a2 0 k2) (.slice a3 i k3)) n w2 [x0,x1,x2,x3,x4] kid:=NodeOn.mono (fun b hb=>by
      have hb:wz.heap.size≤b:=hb;exact⟨.inr (by have:=HP.out.lt;omega),fun e=>by have:=(HP.out.rows.k.lt e).2;omega,fun e=>by have:=(HP.out.rows.v.lt e).2;omega,fun e=>by have:=(HP.out.rows.c.lt e).2;omega⟩) hon
     obtain⟨a9,c9,w9,hrun2,hA3,f8,f9,hA4,hmidQ⟩:=hm2.pushC (by rw[show(Li.map (·.2)).length=i by simp;exact HLI.out];have:=HLI.out;omega) hy;have e2:keysOf Li++[key]=keysOf (Li++[(key,kid)]):=by simp[keysOf]
     have e3:Li.map (·.2)++[kid]=(Li++[(key,kid)]).map (·.2):=by simp
     rw[show(Li.map (·.2)).length=i by simp;exact HLI.out] at hrun2 hA4 hmidQ;rw[e2,e3] at hmidQ;have hag:AgreeF (fun x=>(Value.slice a3 i k3).ownBlock≠some x∧x≠w5.heap.size+1∧x≠mb) wz w2:=⟨ho.size,fun b hb hlt=>ho.block hlt (by simp;exact hb.2.2)⟩
     exact⟨a9,c9,w9,hrun2,f8,f9,hm2.box.cell 0 4 rfl rfl,hm2.lt.1,hag,hag.trans (hA3.sub fun x hx=>⟨hx.1,hx.2.1⟩),hag.trans (hA4.sub fun x hx=>⟨hx.1,hx.2.1⟩),Hd hmidQ⟩
    have HSOK2:=Hd (loadT_seen HP.out.ld.dok (show vp≠0 by have:=HN3.out (by trivial) _ HHENM.out;dsimp only at this;omega) HSOK.out hv);clear haf haf2 HAF hXA hv;have hroom2:roomL s2<n:=by
     obtain⟨_,l,el⟩:=HSOK2.out;have:=roomL_mono (seen:=s) (l:=l);rw[el];omega
    skip
    refine wp_region_held_drew (S:=(fun W=>AgreeF (fun x=>(Value.slice a3 i k3).ownBlock≠some x∧x≠w5.heap.size+1∧x≠mb) wz W)) (by kernel_rfl) (by(repeat (with_reducible first|assumption|exact AgreeF.refl _|apply AgreeF.al|apply AgreeF.dr))) (fun hHeld=>?_);refine tks [0,2] ?_;refine tks [3,4,5] ?_;refine rdy2 1 6 (fun K hK=>?_) (fun K hK=>?_)
    ·(rw[if_pos (by rfl)];go_wp2_with (fail))
     refine bkA hK (fun hHeld=>?_);clear hK K;refine rdy 6 (fun K hK=>?_)
     (rw[if_pos (by rfl)];go_simp;(with_reducible refine CV.mono ?_);rintro e w2 ⟨ho2,cs2,rfl,hon2,hl2⟩;obtain⟨u1,u2,u3,u4,u5,u6,u7,u8,_,_,eu,_⟩:=NodeOn.open_pos hon2;subst eu;obtain⟨a9,c9,w9,hrun2,f8,f9,f7,hlt9,hA1,hA3,hA4,HQ⟩:=PC _ _ _ _ _ _ ho2 hon2 hl2;clear CV PC hon2 hl2;dsimp only)
     refine bkA hK (fun hHeld=>?_);clear hK K;refine rdy 7 (fun K hK=>?_)
     (rw[if_pos (by rfl)];go_wp2_with (fail))
     exact qa6eaf4
    ·(rw[if_pos (by rfl)];go_simp;(with_reducible refine CV.mono ?_);rintro e w2 ⟨ho2,cs2,rfl,hon2,hl2⟩;obtain⟨u1,u2,u3,u4,u5,u6,u7,u8,_,_,eu,_⟩:=NodeOn.open_pos hon2;subst eu;obtain⟨a9,c9,w9,hrun2,f8,f9,f7,hlt9,hA1,hA3,hA4,HQ⟩:=PC _ _ _ _ _ _ ho2 hon2 hl2;clear CV PC hon2 hl2;dsimp only)
     refine bkA hK (fun hHeld=>?_);clear hK K;refine rdy2 1 7 (fun K hK=>?_) (fun K hK=>?_)
     ·(rw[if_pos (by rfl)];go_wp2_with (fail))
      refine bkA hK (fun hHeld=>?_);clear hK K;refine rdy 7 (fun K hK=>?_)
      (rw[if_pos (by rfl)];go_wp2_with (fail))
      exact qa6eaf4
     ·(rw[if_pos (by rfl)];go_wp2_with (fail))
      refine bkA hK (fun hHeld=>?_);clear hK K;refine rdy 1 (fun K hK=>?_)
      (rw[if_pos (by rfl)];go_wp2_with (fail))
      exact qa6eaf4
  ·have hin:i=gl.length:=by omega
   have hdr:gl.drop i=[]:=List.drop_of_length_le (by omega);rw[hdr] at haf;have haf2:R0=.ok (s,Li):=by rw[←haf];unfold kidsL;simp[afterL]
   have htw:=hmid.tw;have hx:=hmid.box;have n0:=hx.cell 0 0 rfl rfl;have n1:=hx.cell 0 1 rfl rfl;have n2:=hx.cell 0 2 rfl rfl;have n3:=hx.cell 0 3 rfl rfl;have n4:=hx.cell 0 4 rfl rfl;have hrb:Boxes wr [(w.heap.size,zero5.toList)]:=hx.sub (by intro q hq;simp at hq ⊢;exact .inr hq);have hrb1:=hrb.put 0 (.int .i64 p) (by intro q hq;simp at hq);have hrb2:=hrb1.put 1 (.bool false) (by intro q hq;simp at hq);have hrb3:=hrb2.put 2 (.slice a1 i k1) (by intro q hq;simp at hq);have hrb4:=hrb3.put 3 (.slice a2 0 k2) (by intro q hq;simp at hq);have hrb5:=hrb4.put 4 (.slice a3 i k3) (by intro q hq;simp at hq);obtain⟨we,hwe⟩:∃x,x=((((wr.setCell ⟨w.heap.size,0,none⟩ (.int .i64 p)).setCell ⟨w.heap.size,1,none⟩ (.bool false)).setCell ⟨w.heap.size,2,none⟩ (.slice a1 i k1)).setCell ⟨w.heap.size,3,none⟩ (.slice a2 0 k2)).setCell ⟨w.heap.size,4,none⟩ (.slice a3 i k3):=⟨_,rfl⟩
   rw[←hwe] at hrb5;have hbw:Below w.heap.size wr we:=by
    exact q5f5823
   have hrows:NodeRows 9 101 50 (fun _=>False) n (w5.heap.size+2) we (.slice a1 i k1) (.slice a2 0 k2) (.slice a3 i k3) (keysOf Li) [] (Li.map (·.2)):=by
    rw[hwe];have hk:w.heap.size<w5.heap.size+2:=by omega
    exact((((hmid.rows.set hk id).set hk id).set hk id).set hk id).set hk id
   have HE:Hid (PagePost T w lb mb da M d r (n+1) (nodeR p R0) (.returned (.agg #[.int .i64 p,.bool false,.slice a1 i k1,.slice a2 0 k2,.slice a3 i k3])) we):=Hd (by rw[haf2];exact⟨only_past hmid.ol (Nat.le_refl _) hbw,[.int .i64 p,.bool false,.slice a1 i k1,.slice a2 0 k2,.slice a3 i k3],rfl,hrows.node (fun b hb=>by rcases hb with hb|hb;exact hb.elim;omega),hmid.ld.past (hbw.mono htw)⟩);have z0:=hrb5.cell 0 0 rfl rfl;have z1:=hrb5.cell 0 1 rfl rfl;have z2:=hrb5.cell 0 2 rfl rfl;have z3:=hrb5.cell 0 3 rfl rfl;have z4:=hrb5.cell 0 4 rfl rfl;have u0:=hrb.frozen 0 0 rfl;have u1:=hrb.frozen 0 1 rfl;have u2:=hrb.frozen 0 2 rfl;have u3:=hrb.frozen 0 3 rfl;have u4:=hrb.frozen 0 4 rfl;have y0:=hrb.cell 0 0 rfl rfl;have y1:=hrb.cell 0 1 rfl rfl;have y2:=hrb.cell 0 2 rfl rfl;have y3:=hrb.cell 0 3 rfl rfl;have y4:=hrb.cell 0 4 rfl rfl;have hrb0:=hrb.lt 0 rfl;have q1:decide ((i:Int)<(gl.length:Int))=false:=decide_eq_false (by omega);have q2:decide (i<gl.length)=false:=decide_eq_false hlt;clear hin hdr haf haf2 hx hrb hrb1 hrb2 hrb3 hrb4 hrb5 hbw hrows hmid;go_wp2_with fail;rw[←hwe];refine bodyPost_ret (v:=.agg #[.int .i64 p,.bool false,.slice a1 i k1,.slice a2 0 k2,.slice a3 i k3]) (by simp[results,Tryz.results52,go_sem,z0,z1,z2,z3,z4]) rfl ?_;exact HE.out
theorem lpage_any:∀(n:Nat) {T:Nat} {w:World} {lb mb da M:Nat} {d:List Rg} {r:Int} {seen:List Int} {p:Int},LdIn T w lb mb da M d r seen→T≤w.heap.size→SeenOk seen→roomL seen<n→I64 p→p≠0 →
 Calls Tryz.prog 52 #[.pointer (some ⟨lb,0,none⟩),.int .i64 p] w (PagePost T w lb mb da M d r n (loadT d r n seen p))
 | 0,_,_,_,_,_,_,_,_,_,_,_,_,_,h,_,_=>absurd h (Nat.not_lt_zero _)
 | n+1,_,_,_,_,_,_,d,r,seen,p,h,hT,hs,hroom,hp,hp0=>by
  by_cases hm:p∈seen
  ·exact page_seen n h hT hs.len p hp hm
  ·by_cases hP:pagedE d r p=0
   ·by_cases hE:getNE (readB d r p)=0
    ·cases hF:getNF (readB d r p) with
     | true=>exact page_leaf n h hT hs p hp hm hP hE hF
     | false=>exact page_node (fun h hT hs hr hp hp0=>lpage_any n h hT hs hr hp hp0) h hT hs p hp hm hroom hp0 hP hE hF
    ·exact page_bad2 n h hT hs p hp hm hP hE
   ·exact page_bad1 n h hT hs p hp hm hP
theorem fitsv_any (v:Tv) {w:World} {a:Option Addr} {n c:Nat} (h:Row .i64 w a n c v.pages) (hd:v.data.length≤1000) :
 Calls Tryz.prog 181 #[.agg #[.string (strOf v.data),.slice a n c]] w fun e w'=>e=.returned (.bool (!valB v))∧Below w.heap.size w w':=by
 have hn:=h.1;have hsz:=strOf_size v.data;have N:=fun W=>cneed_any (v.data.length:Int) W
 have hv:valB v=(decide (v.data.length≤400) && (n == 0 || decide (needC (v.data.length:Int)≠0))):=by unfold valB;rw[hn]
 have hc:=h.2.1;have hm:=h.2.2.1;unfold maxLen at hm;have HV:=Hd hv;clear hv hn h;obtain⟨dl,hdl⟩:∃x,v.data.length=x:=⟨_,rfl⟩
 rw[hdl] at hsz N HV hd;clear hdl
 by_cases h4:400<dl
 ·have HE:Hid (valB v=false):=Hd (by rw[HV.out];simp;omega)
  have d4:decide ((400:Int)<dl)=true:=by simp;omega
  have d4':decide (400<dl)=true:=by simp;omega
  go_enter Tryz.func181,Tryz.ntmps181;go_wp2_with fail;go_ret;exact⟨by rw[HE.out];rfl,Below.al (Below.refl _ _)⟩
 ·have d4:decide ((400:Int)<dl)=false:=by simp;omega
  have d4':decide (400<dl)=false:=by simp;omega
  by_cases h0:n=0
  ·have HE:Hid (valB v=true):=Hd (by rw[HV.out];simp;omega)
   have d0:decide ((0:Int)<n)=false:=by simp;omega
   have d0':decide (0<n)=false:=by simp;omega
   go_enter Tryz.func181,Tryz.ntmps181;go_wp2_with fail;go_ret;exact⟨by rw[HE.out];rfl,Below.al (Below.refl _ _)⟩
  ·have d0:decide ((0:Int)<n)=true:=by simp;omega
   have d0':decide (0<n)=true:=by simp;omega
   obtain⟨q,hq⟩:∃q,needC (dl:Int)=q:=⟨_,rfl⟩
   rw[hq] at N;have HE:Hid (valB v=decide (q≠0)):=Hd (by
    rw[HV.out,hq];have:(n == 0)=false:=by simpa using h0
    rw[this];simp;omega)
   clear hq h4 h0
   by_cases hq0:q=0
   ·have HZ:Hid (valB v=false):=Hd (by rw[HE.out,hq0];rfl)
    have hqq:((q:Int) == 0)=true:=by rw[hq0];rfl
    exact qcbdfaf
   ·have HZ:Hid (valB v=true):=Hd (by rw[HE.out];simpa using hq0)
    have hqq:((q:Int) == 0)=false:=by simpa using hq0
    exact qcbdfaf
theorem call_fits1 (args:Array Value) (W:World):(callFunc 181 args).run Tryz.prog W=.ok (.enter 181 args) W:=by kernel_rfl
theorem val_at {w:World} {a:Option Addr} {n c:Nat} {l:List Tv} (h:TabR 2 (IsTv w) w a n c l) {k:Nat} (hk:k<n) :
 ∃b off v pa pn pc,a=some ⟨b,off,none⟩∧b<w.heap.size∧l[k]? = some v∧w.cell? ⟨b,off+k*2,none⟩=some (.string (strOf v.data))∧w.cell? ⟨b,off+k*2+1,none⟩=some (.slice pa pn pc)∧Row .i64 w pa pn pc v.pages:=by
 exact qfd2e77
theorem fitsi_any {w:World} {a:Option Addr} {n c:Nat} {l:List Tv} (h:TabR 2 (IsTv w) w a n c l) (hd:∀v∈l,v.data.length≤1000) :
 Calls Tryz.prog 200 #[.slice a n c,.func (.func 181) #[] #[]] w fun e w'=>∃i:Int,e=.returned (.int .i64 i)∧(0≤i↔l.all valB=false)∧Below w.heap.size w w':=by
 obtain⟨e1,e2,e3⟩:=TabR.lens h;have H:=Hd h;have HD:=Hd hd;have HL:=Hd e1;have HF:=call_fits1;clear h hd e1;go_enter Tryz.func200,Tryz.ntmps200;go_wp2_with fail
 go_loopw [5,8] (fun s5 s wr=>∃i:Nat,i≤n∧s=.int .i64 i∧(l.take i).all valB=true∧Below w.heap.size w wr) (fun _ s _=>n-(intOf s).toNat)
 case atStart=>exact⟨0,Nat.zero_le _,rfl,by simp,Below.refl _ _⟩
 case round=>
  obtain⟨i,hi,rfl,hall,hb⟩:=hrel
  by_cases hlt:i<n
  ·obtain⟨b,off,v,pa,pn,pc,rfl,hbb,hy,c0,c1,hr⟩:=val_at H.out hlt
   have k0:=(hb.cell (p:=⟨b,off+i*2,none⟩) hbb).trans c0;have k1:=(hb.cell (p:=⟨b,off+i*2+1,none⟩) hbb).trans c1;have C1:=fitsv_any v (hr.below (Nat.le_refl _) hb) (HD.out v (List.mem_of_getElem? hy));have HS:Hid ((l.take (i+1)).all valB=valB v):=Hd (by
    rw[List.take_succ_eq_append_getElem (by rw[HL.out];exact hlt),List.all_append,hall];have:l[i]'(by rw[HL.out];exact hlt)=v:=(List.getElem?_eq_some_iff.1 hy).2;simp[this])
   have HB:=Hd hb;clear c0 c1 hr hall hy hb;cases hvb:valB v with
   | true=>
    rw[hvb] at C1;have HVB:=Hd hvb;clear hvb;go_wp2_with fail;refine C1.mono ?_;rintro e w2 ⟨rfl,hb2⟩;have HB2:=Hd (HB.out.trans (hb2.mono HB.out.size));clear C1 hb2;go_wp2_with fail;go_roundw
    case rel=>exact⟨i+1,hlt,by go_num,by rw[HS.out,HVB.out],HB2.out⟩
    case measure=>simp[intOf];omega
   | false=>
    rw[hvb] at C1;have HVB:=Hd hvb;clear hvb;go_wp2_with fail;refine C1.mono ?_;rintro e w2 ⟨rfl,hb2⟩;have HB2:=Hd (HB.out.trans (hb2.mono HB.out.size));clear C1 hb2;go_wp2_with fail;go_ret;refine⟨_,rfl,⟨fun _=>?_,fun _=>by omega⟩,HB2.out⟩;have h1:l.all valB=((l.take (i+1)).all valB && (l.drop (i+1)).all valB):=by rw[←List.all_append,List.take_append_drop]
    rw[h1,HS.out,HVB.out];rfl
  ·obtain rfl:i=n:=by omega
   have HA:=Hd hall;have HB:=Hd hb;clear hall hb;go_wp2_with fail;go_ret;refine⟨_,rfl,⟨fun h=>absurd h (by decide),fun h=>?_⟩,HB.out⟩;have:=HA.out;rw[List.take_of_length_le (by rw[HL.out];exact Nat.le_refl _),h] at this;cases this
theorem fitsc_any {w:World} {a:Option Addr} {n c:Nat} {l:List Tv} (h:TabR 2 (IsTv w) w a n c l) (hd:∀v∈l,v.data.length≤1000) :
 Calls Tryz.prog 180 #[.slice a n c,.func (.func 181) #[] #[]] w fun e w'=>e=.returned (.bool (!l.all valB))∧Below w.heap.size w w':=by
 have X:=fitsi_any h hd;clear h hd;obtain⟨z,hz⟩:∃z,l.all valB=z:=⟨_,rfl⟩
 rw[hz] at X ⊢;clear hz;go_enter Tryz.func180,Tryz.ntmps180;go_wp2_with fail;refine X.mono ?_;rintro e w' ⟨i,rfl,hi,hb⟩;have HI:=Hd hi;have HB:=Hd hb;clear X hi hb;go_wp2_with fail;go_ret;refine⟨?_,HB.out⟩;cases z with
 | true=>
  have:¬0≤i:=fun h=>by have:=HI.out.1 h;cases this
  simp[this]
 | false=>
  have:0≤i:=HI.out.2 rfl;simp[this]
theorem fitTo_bad {lo hi:List UInt8} {leaf:Bool} {ks:List (List UInt8)} {n i:Nat} (hi':i<n) (h:fitAt lo hi leaf ks i=false):fitTo lo hi leaf ks n=false:=by
 unfold fitTo;rw[List.all_eq_false];exact⟨i,List.mem_range.2 hi',by rw[h];decide⟩
theorem fits_any {n:Nat} {w:World} {cs:List Value} {t:Tr} (h:NodeIn (n+1) w cs t) (hb:Bnd (n+1) t) (lo hi:List UInt8) (_hlo:lo.length≤1000) (_hhi:hi.length≤1000) :
 Calls Tryz.prog 142 #[.agg cs.toArray,.agg #[.string (strOf lo),.string (strOf hi)]] w fun e w'=>e=.returned (.bool (fitT lo hi t))∧Below w.heap.size w w':=by
 obtain⟨ka,kc,va,vn,vc,ca,cn,cc,V,C,rfl,h1,h2,h3,h4⟩:=h.openK;obtain⟨_,r1,r2⟩:=h4.lens;obtain⟨lf,hlf⟩:∃x,t.isLeaf=x:=⟨_,rfl⟩
 obtain⟨m,hm⟩:∃x,cntT t=x:=⟨_,rfl⟩
 obtain⟨pg,hpg⟩:∃x,t.page=x:=⟨_,rfl⟩
 have hm9:m≤1000:=by rw[←hm];exact hb.cnt
 rw[hlf,hm] at r1 r2;have hvn:vn=if lf then m else 0:=by rw[←h2.1,r1]
 have hcn:cn=if lf then 0 else m:=by rw[←h3.1,r2]
 have hvals:∃vl:List Tv,TabR 2 (IsTv w) w va vn vc vl∧(∀v∈vl,v.data.length≤1000)∧fitT lo hi t=(fitTo lo hi lf t.keys m && vl.all valB):=by
  cases t with
  | leaf p l=>
   have:lf=true:=hlf.symm;subst this;refine⟨l.map (·.2),Raw.tab h2 h4.2.1,(fun v hv=>?_),?_⟩
   ·obtain⟨c,hc,rfl⟩:=List.mem_map.1 hv
    exact(hb.2 c hc).2
   ·have hm:l.length=m:=hm
    show(fitTo lo hi true (keysOf l) l.length && l.all fun c=>valB c.2)=(fitTo lo hi true (keysOf l) m && _);rw[hm,List.all_map];rfl
  | node p l=>
   have:lf=false:=hlf.symm;subst this;have hv0:V=[]:=h4.2.1;have hvn0:vn=0:=hvn;subst hvn0;have hm:l.length=m:=hm;refine⟨[],⟨rfl,h2.2.1,h2.2.2.1,h2.2.2.2.1,.inl rfl⟩,(fun v hv=>by cases hv),?_⟩;show fitTo lo hi false (keysOf l) l.length=(fitTo lo hi false (keysOf l) m && true);rw[hm,Bool.and_true]
 obtain⟨vl,hv1,hv2,hfit⟩:=hvals;have hB0:Below w.heap.size w ((w.alloc (.cells #[.int .i64 pg,.bool lf,.slice ka m kc,.slice va vn vc,.slice ca cn cc] 50)).alloc (.cells #[.string (strOf lo),.string (strOf hi)] 215)):=Below.al (Below.al (Below.refl _ _));have hX0:Boxes _ [(w.heap.size+1,[.string (strOf lo),.string (strOf hi)]),(w.heap.size,[.int .i64 pg,.bool lf,.slice ka m kc,.slice va vn vc,.slice ca cn cc])]:=((Boxes.nil w).alloc #[.int .i64 pg,.bool lf,.slice ka m kc,.slice va vn vc,.slice ca cn cc] 50 rfl).alloc #[.string (strOf lo),.string (strOf hi)] 215 (b:=w.heap.size+1) (by simp);obtain⟨wA,hwA⟩:∃wA,(w.alloc (.cells #[.int .i64 pg,.bool lf,.slice ka m kc,.slice va vn vc,.slice ca cn cc] 50)).alloc (.cells #[.string (strOf lo),.string (strOf hi)] 215)=wA:=⟨_,rfl⟩
 rw[hwA] at hB0 hX0;rw[hm] at h1;rw[hlf,hm,hpg];have CC:=fitsc_any (TabR.move hv1 hB0 (fun _ _ _ h=>h.below hB0)) hv2;have hK:∀i,i<m→(t.keys[i]?.getD []).length≤200:=fun i hi=>by
  cases t with
  | leaf p l=>
   have hm:l.length=m:=hm;have:=(hb.2 l[i] (List.getElem_mem (by omega))).1;simpa[Tr.keys,keysOf,show i<l.length by omega] using this
  | node p l=>
   have hm:l.length=m:=hm;have:=(hb.2 l[i] (List.getElem_mem (by omega))).1;simpa[Tr.keys,keysOf,show i<l.length by omega] using this
 have H1:=Hd h1;have HB:=Hd hB0;have HFIT:=Hd hfit;have HK:=Hd hK;have n0:=hX0.cell 1 0 rfl rfl;have n1:=hX0.cell 1 1 rfl rfl;have n2:=hX0.cell 1 2 rfl rfl;have n3:=hX0.cell 1 3 rfl rfl;have n4:=hX0.cell 1 4 rfl rfl;have s0:=hX0.cell 0 0 rfl rfl;have s1:=hX0.cell 0 1 rfl rfl;clear h h1 h2 h3 h4 hB0 hX0 hlf hm hpg r1 r2 hb hv1 hv2 hfit hK;generalize t.keys=K at *;obtain⟨FT,hFT⟩:∃x,fitT lo hi t=x:=⟨_,rfl⟩
 rw[hFT] at HFIT ⊢;clear hFT;obtain⟨VA,hVA⟩:∃x,vl.all valB=x:=⟨_,rfl⟩
 rw[hVA] at HFIT CC;clear hVA;cases lf with
 | true=>
  simp only[if_true] at hvn hcn;subst hvn hcn;go_enter Tryz.func142,Tryz.ntmps142;go_wp2_with fail
  try rw[hwA]
  clear hwA
  go_loop [5,6,7,48] (fun _ _ _ s=>∃i:Nat,i≤vn∧s=.int .i64 i∧fitTo lo hi true K i=true) (fun _ _ _ s=>vn-(intOf s).toNat)
  case atStart=>exact⟨0,Nat.zero_le _,rfl,rfl⟩
  case round=>
   obtain⟨i,hi',rfl,hall⟩:=hrel
   by_cases hlt:i<vn
   ·obtain⟨b,off,rfl,hbb,hcell⟩:=H1.out.key_at hlt
    have k0:=(HB.out.cell (p:=⟨b,off+i,none⟩) hbb).trans hcell;have hkl:=HK.out i hlt;obtain⟨k,hk⟩:∃k,K[i]?.getD []=k:=⟨_,rfl⟩
    rw[hk] at hkl k0;have hsz:=strOf_size k;have HKK:=Hd hk;have HA:=Hd hall;clear hk hcell hall;cases i with
    | zero=>
     rw[Nat.add_zero] at k0;have d0:decide ((0:Int)<(vn:Int))=true:=by simp;omega
     have d0':decide (0<vn)=true:=by simp;omega
     by_cases hk0:k=[]
     ·obtain⟨e1,e2⟩:=str_empty hk0
      exact q74289f
     obtain⟨e1,e2⟩:=str_some hk0;have HK0:=Hd hk0;clear hk0;obtain⟨kl,hkl0⟩:∃x,k.length=x:=⟨_,rfl⟩
     rw[hkl0] at hsz hkl;have HKL:=Hd hkl0;clear hkl0
     by_cases hl:16<kl
     ·have q1:decide ((16:Int)<kl)=true:=by simp;omega
      have q1':decide (16<kl)=true:=by simp;omega
      have HE:Hid (FT=false):=Hd (by rw[HFIT.out,fitTo_bad (i:=0) (by omega) (by have h9:=HKL.out;unfold fitAt;rw[HKK.out];simp;omega)];rfl);exact q993faf
     have q1:decide ((16:Int)<kl)=false:=by simp;omega
     have q1':decide (16<kl)=false:=by simp;omega
     have HL16:Hid (k.length≤16):=Hd (by have:=HKL.out;omega)
     by_cases hlo2:k<lo
     ·obtain⟨l1,l2,_,_⟩:=cmp_lt hlo2
      have HLO:=Hd hlo2;clear hlo2 l2;have HE:Hid (FT=false):=Hd (by rw[HFIT.out,fitTo_bad (i:=0) (by omega) (by unfold fitAt;rw[HKK.out];simp[HLO.out])];rfl);exact q993faf
     have l1:Op.bytesLess (strOf k).toList (strOf lo).toList=false:=by rw[strOf_toList,strOf_toList,bytes_lessT];simpa using hlo2
     have HLO:=Hd hlo2;clear hlo2
     by_cases hh:hi=[]
     ·obtain⟨e3,e4⟩:=str_empty hh
      have HH:=Hd hh;clear hh;have HT2:Hid (fitTo lo hi true K (0+1)=true):=Hd (by rw[fitTo_succ,HA.out,Bool.true_and];unfold fitAt;rw[HKK.out];simp[HK0.out,HL16.out,HLO.out,HH.out]);exact q317315
     obtain⟨e3,e4⟩:=str_some hh;have HH:=Hd hh;clear hh
     by_cases hh2:k<hi
     ·have g1:Op.bytesLess (strOf k).toList (strOf hi).toList=true:=by rw[strOf_toList,strOf_toList,bytes_lessT];simpa using hh2
      have HH2:=Hd hh2;clear hh2;have HT2:Hid (fitTo lo hi true K (0+1)=true):=Hd (by rw[fitTo_succ,HA.out,Bool.true_and];unfold fitAt;rw[HKK.out];simp[HK0.out,HL16.out,HLO.out,HH2.out]);exact q317315
     ·have g1:Op.bytesLess (strOf k).toList (strOf hi).toList=false:=by rw[strOf_toList,strOf_toList,bytes_lessT];simpa using hh2
      have HH2:=Hd hh2;clear hh2;have HE:Hid (FT=false):=Hd (by rw[HFIT.out,fitTo_bad (i:=0) (by omega) (by unfold fitAt;rw[HKK.out];simp[HH.out,HH2.out])];rfl);exact q993faf
    | succ i=>
     obtain⟨b2,off2,e2,hb2,hc2⟩:=H1.out.key_at (show i<vn by omega);cases e2;have k1:=(HB.out.cell (p:=⟨b,off+i,none⟩) hbb).trans hc2;have hkl2:=HK.out i (by omega);obtain⟨kp,hkp⟩:∃k,K[i]?.getD []=k:=⟨_,rfl⟩
     rw[hkp] at hkl2 k1;have d0:decide (((i+1:Nat):Int)<(vn:Int))=true:=by simp;omega
     have d0':decide (i+1<vn)=true:=by simp;omega
     have HKP:Hid (K[i+1-1]?.getD []=kp):=Hd hkp;clear hkp hc2
     by_cases hk0:k=[]
     ·obtain⟨e1,e2⟩:=str_empty hk0
      exact qad03ad
     obtain⟨e1,e2⟩:=str_some hk0;have HK0:=Hd hk0;clear hk0;obtain⟨kl,hkl0⟩:∃x,k.length=x:=⟨_,rfl⟩
     rw[hkl0] at hsz hkl;have HKL:=Hd hkl0;clear hkl0
     by_cases hl:16<kl
     ·have q1:decide ((16:Int)<kl)=true:=by simp;omega
      exact q1ccaf3
     have q1:decide ((16:Int)<kl)=false:=by simp;omega
     have q1':decide (16<kl)=false:=by simp;omega
     have HL16:Hid (k.length≤16):=Hd (by have:=HKL.out;omega)
     rcases ktri kp k with hp|hp|hp
     rotate_left
     ·subst hp
      exact qfca252
     ·obtain⟨p1,p2,_,_⟩:=cmp_lt hp
      exact q46d063
     obtain⟨p3,p4,p1,p2⟩:=cmp_lt hp;obtain⟨p6,p5⟩:=cmp_lt2 hp;have HP:=Hd hp;clear hp p3 p4 p6
     by_cases hlo2:k<lo
     ·obtain⟨l1,l2,_,_⟩:=cmp_lt hlo2
      exact qbad101
     have l1:Op.bytesLess (strOf k).toList (strOf lo).toList=false:=by rw[strOf_toList,strOf_toList,bytes_lessT];simpa using hlo2
     have HLO:=Hd hlo2;clear hlo2
     by_cases hh:hi=[]
     ·obtain⟨e3,e4⟩:=str_empty hh
      have HH:=Hd hh;clear hh;have HT2:Hid (fitTo lo hi true K ((i+1)+1)=true):=Hd (by rw[fitTo_succ,HA.out,Bool.true_and];unfold fitAt;rw[HKK.out,HKP.out];simp[HK0.out,HL16.out,HP.out,HLO.out,HH.out]);exact q834c9f
     obtain⟨e3,e4⟩:=str_some hh;have HH:=Hd hh;clear hh
     by_cases hh2:k<hi
     ·have g1:Op.bytesLess (strOf k).toList (strOf hi).toList=true:=by rw[strOf_toList,strOf_toList,bytes_lessT];simpa using hh2
      have HH2:=Hd hh2;clear hh2;have HT2:Hid (fitTo lo hi true K ((i+1)+1)=true):=Hd (by rw[fitTo_succ,HA.out,Bool.true_and];unfold fitAt;rw[HKK.out,HKP.out];simp[HK0.out,HL16.out,HP.out,HLO.out,HH2.out]);exact q834c9f
     ·have g1:Op.bytesLess (strOf k).toList (strOf hi).toList=false:=by rw[strOf_toList,strOf_toList,bytes_lessT];simpa using hh2
      exact q7ce93d
   ·obtain rfl:i=vn:=by omega
    exact q7a1f1a
 | false=>
  simp only[Bool.false_eq_true,if_false] at hvn hcn;subst hvn hcn;go_enter Tryz.func142,Tryz.ntmps142;go_wp2_with fail
  try rw[hwA]
  clear hwA
  go_loop [5,6,7,48] (fun _ _ _ s=>∃i:Nat,i≤cn∧s=.int .i64 i∧fitTo lo hi false K i=true) (fun _ _ _ s=>cn-(intOf s).toNat)
  case atStart=>exact⟨0,Nat.zero_le _,rfl,rfl⟩
  case round=>
   obtain⟨i,hi',rfl,hall⟩:=hrel
   by_cases hlt:i<cn
   ·obtain⟨b,off,rfl,hbb,hcell⟩:=H1.out.key_at hlt
    have k0:=(HB.out.cell (p:=⟨b,off+i,none⟩) hbb).trans hcell;have hkl:=HK.out i hlt;obtain⟨k,hk⟩:∃k,K[i]?.getD []=k:=⟨_,rfl⟩
    rw[hk] at hkl k0;have hsz:=strOf_size k;have HKK:=Hd hk;have HA:=Hd hall;clear hk hcell hall;cases i with
    | zero=>
     rw[Nat.add_zero] at k0;have d0:decide ((0:Int)<(cn:Int))=true:=by simp;omega
     have d0':decide (0<cn)=true:=by simp;omega
     by_cases hk0:k=[]
     ·obtain⟨e1,e2⟩:=str_empty hk0
      have hl0:k.length=0:=by rw[hk0];rfl
      have HK0:=Hd hk0;rw[hl0] at hsz;clear hk0 hl0 hkl
      by_cases hh:hi=[]
      ·obtain⟨e3,e4⟩:=str_empty hh
       have HH:=Hd hh;clear hh;have HT2:Hid (fitTo lo hi false K (0+1)=true):=Hd (by rw[fitTo_succ,HA.out,Bool.true_and];unfold fitAt;rw[HKK.out];simp[HK0.out,HH.out]);exact q317315
      ·obtain⟨e3,e4⟩:=str_some hh
       have hlt2:k<hi:=by rw[HK0.out];exact knil_lt hh
       have g1:Op.bytesLess [] (strOf hi).toList=true:=by rw[strOf_toList,bytes_lessT];simpa using knil_lt hh
       have HH:=Hd hlt2;clear hh hlt2;have HT2:Hid (fitTo lo hi false K (0+1)=true):=Hd (by rw[fitTo_succ,HA.out,Bool.true_and];have h9:=HH.out;rw[HK0.out] at h9;unfold fitAt;rw[HKK.out,HK0.out];simp[h9]);exact q317315
     ·obtain⟨e1,e2⟩:=str_some hk0
      exact q74289f
    | succ i=>
     obtain⟨b2,off2,e2,hb2,hc2⟩:=H1.out.key_at (show i<cn by omega);cases e2;have k1:=(HB.out.cell (p:=⟨b,off+i,none⟩) hbb).trans hc2;have hkl2:=HK.out i (by omega);obtain⟨kp,hkp⟩:∃k,K[i]?.getD []=k:=⟨_,rfl⟩
     rw[hkp] at hkl2 k1;have d0:decide (((i+1:Nat):Int)<(cn:Int))=true:=by simp;omega
     have d0':decide (i+1<cn)=true:=by simp;omega
     have HKP:Hid (K[i+1-1]?.getD []=kp):=Hd hkp;clear hkp hc2
     by_cases hk0:k=[]
     ·obtain⟨e1,e2⟩:=str_empty hk0
      exact qad03ad
     obtain⟨e1,e2⟩:=str_some hk0;have HK0:=Hd hk0;clear hk0;obtain⟨kl,hkl0⟩:∃x,k.length=x:=⟨_,rfl⟩
     rw[hkl0] at hsz hkl;have HKL:=Hd hkl0;clear hkl0
     by_cases hl:16<kl
     ·have q1:decide ((16:Int)<kl)=true:=by simp;omega
      exact q1ccaf3
     have q1:decide ((16:Int)<kl)=false:=by simp;omega
     have q1':decide (16<kl)=false:=by simp;omega
     have HL16:Hid (k.length≤16):=Hd (by have:=HKL.out;omega)
     rcases ktri kp k with hp|hp|hp
     rotate_left
     ·subst hp
      exact qfca252
     ·obtain⟨p1,p2,_,_⟩:=cmp_lt hp
      exact q46d063
     obtain⟨p3,p4,p1,p2⟩:=cmp_lt hp;obtain⟨p6,p5⟩:=cmp_lt2 hp;have HP:=Hd hp;clear hp p3 p4 p6
     by_cases hlo2:k<lo
     ·obtain⟨l1,l2,_,_⟩:=cmp_lt hlo2
      exact qbad101
     have l1:Op.bytesLess (strOf k).toList (strOf lo).toList=false:=by rw[strOf_toList,strOf_toList,bytes_lessT];simpa using hlo2
     have HLO:=Hd hlo2;clear hlo2
     by_cases hh:hi=[]
     ·obtain⟨e3,e4⟩:=str_empty hh
      have HH:=Hd hh;clear hh;have HT2:Hid (fitTo lo hi false K ((i+1)+1)=true):=Hd (by rw[fitTo_succ,HA.out,Bool.true_and];unfold fitAt;rw[HKK.out,HKP.out];simp[HK0.out,HL16.out,HP.out,HLO.out,HH.out]);exact q834c9f
     obtain⟨e3,e4⟩:=str_some hh;have HH:=Hd hh;clear hh
     by_cases hh2:k<hi
     ·have g1:Op.bytesLess (strOf k).toList (strOf hi).toList=true:=by rw[strOf_toList,strOf_toList,bytes_lessT];simpa using hh2
      have HH2:=Hd hh2;clear hh2;have HT2:Hid (fitTo lo hi false K ((i+1)+1)=true):=Hd (by rw[fitTo_succ,HA.out,Bool.true_and];unfold fitAt;rw[HKK.out,HKP.out];simp[HK0.out,HL16.out,HP.out,HLO.out,HH2.out]);exact q834c9f
     ·have g1:Op.bytesLess (strOf k).toList (strOf hi).toList=false:=by rw[strOf_toList,strOf_toList,bytes_lessT];simpa using hh2
      exact q7ce93d
   ·obtain rfl:i=cn:=by omega
    exact q7a1f1a
open Go.RowKit
def depI:Option Nat→Int
 | none => -1
 | some d=>(d:Int)
theorem depK_lt {f:Tr→List UInt8→List UInt8→Option Nat} {N:Nat} (hf:∀t lo hi d,f t lo hi=some d→d<N):∀{l:List (List UInt8×Tr)} {i far:Nat} {lo hi:List UInt8} {d:Nat},far≤N→depK f lo hi i far l=some d→d≤N
 | [],_,_,_,_,_,h1,h2=>by cases h2;exact h1
 | c::r,i,far,lo,hi,d,h1,h2=>by
  unfold depK at h2;cases hc:f c.2 (if i=0 then lo else c.1) (nextH hi r) with
  | none=>rw[hc] at h2;cases h2
  | some e=>
   rw[hc] at h2
   by_cases hb:i≠0∧e+1≠far
   ·simp only[if_pos hb] at h2;cases h2
   ·simp only[if_neg hb] at h2
    have:=hf _ _ _ _ hc;exact depK_lt hf (by omega) h2
theorem depthT_lt:∀{n:Nat} {t:Tr} {lo hi:List UInt8} {root:Bool} {d:Nat},depthT n t lo hi root=some d→d<n
 | 0,_,_,_,_,_,h=>by cases h
 | n+1,.leaf p l,lo,hi,root,d,h=>by
  unfold depthT at h
  split at h
  ·cases h;omega
  ·cases h
 | n+1,.node p l,lo,hi,root,d,h=>by
  unfold depthT at h
  split at h
  ·have:=depK_lt (N:=n) (fun t lo hi d h=>depthT_lt h) (Nat.zero_le _) h
   omega
  ·cases h
theorem depK_none {f:Tr→List UInt8→List UInt8→Option Nat} {lo hi:List UInt8} {i far:Nat} {l:List (List UInt8×Tr)} {c:List UInt8×Tr} (h:l[i]? = some c) (hf:f c.2 (if i=0 then lo else c.1) (nextH hi (l.drop (i+1)))=none):depK f lo hi i far (l.drop i)=none:=by
 obtain⟨h1,h2⟩:=List.getElem?_eq_some_iff.1 h;rw[List.drop_eq_getElem_cons h1,h2];unfold depK;rw[hf]
theorem depK_far {f:Tr→List UInt8→List UInt8→Option Nat} {lo hi:List UInt8} {i far d:Nat} {l:List (List UInt8×Tr)} {c:List UInt8×Tr} (h:l[i]? = some c) (hf:f c.2 (if i=0 then lo else c.1) (nextH hi (l.drop (i+1)))=some d) (hd:i≠0∧d+1≠far):depK f lo hi i far (l.drop i)=none:=by
 obtain⟨h1,h2⟩:=List.getElem?_eq_some_iff.1 h;rw[List.drop_eq_getElem_cons h1,h2];unfold depK;rw[hf];simp only[if_pos hd]
theorem depK_go {f:Tr→List UInt8→List UInt8→Option Nat} {lo hi:List UInt8} {i far d:Nat} {l:List (List UInt8×Tr)} {c:List UInt8×Tr} (h:l[i]? = some c) (hf:f c.2 (if i=0 then lo else c.1) (nextH hi (l.drop (i+1)))=some d) (hd:¬(i≠0∧d+1≠far)):depK f lo hi i far (l.drop i)=depK f lo hi (i+1) (d+1) (l.drop (i+1)):=by
 obtain⟨h1,h2⟩:=List.getElem?_eq_some_iff.1 h;rw[List.drop_eq_getElem_cons h1,h2]
 conv=>lhs;unfold depK
 rw[hf];simp only[if_neg hd]
theorem depthT_leaf (n:Nat) (p:Int) (l:List (List UInt8×Tv)) (lo hi:List UInt8) (root:Bool):depthT (n+1) (.leaf p l) lo hi root=if fitT lo hi (.leaf p l) && sizeB root (.leaf p l) then some 0 else none:=rfl
theorem depthT_node (n:Nat) (p:Int) (l:List (List UInt8×Tr)) (lo hi:List UInt8) (root:Bool):depthT (n+1) (.node p l) lo hi root=if fitT lo hi (.node p l) && sizeB root (.node p l) then depK (fun t lo hi=>depthT n t lo hi false) lo hi 0 0 l else none:=rfl
theorem nextH_last {hi:List UInt8} {l:List (List UInt8×Tr)} {i:Nat} (h:l.length≤i+1):nextH hi (l.drop (i+1))=hi:=by rw[List.drop_of_length_le h];rfl
theorem nextH_mid {hi:List UInt8} {l:List (List UInt8×Tr)} {i:Nat} {k:List UInt8} (hk:(keysOf l)[i+1]?.getD []=k) (h:i+1<l.length):nextH hi (l.drop (i+1))=k:=by
 rw[List.drop_eq_getElem_cons h];rw[←hk];simp[nextH,keysOf,h]
theorem depth_step {n:Nat} (IH:∀{w:World} {cs:List Value} {t:Tr},NodeIn n w cs t→Bnd n t→∀(lo hi:List UInt8),lo.length≤1000→hi.length≤1000 →
 Calls Tryz.prog 98 #[.agg cs.toArray,.agg #[.string (strOf lo),.string (strOf hi)],.bool false] w fun e w'=>e=.returned (.int .i64 (depI (depthT n t lo hi false)))∧Below w.heap.size w w')
 {w:World} {cs:List Value} {t:Tr} (h:NodeIn (n+1) w cs t) (hb:Bnd (n+1) t) (hn:n≤1000) (lo hi:List UInt8) (root:Bool) (hlo:lo.length≤1000) (hhi:hi.length≤1000) :
 Calls Tryz.prog 98 #[.agg cs.toArray,.agg #[.string (strOf lo),.string (strOf hi)],.bool root] w fun e w'=>e=.returned (.int .i64 (depI (depthT (n+1) t lo hi root)))∧Below w.heap.size w w':=by
 have hh:=h;obtain⟨ka,kc,va,vn,vc,ca,cn,cc,V,C,rfl,h1,h2,h3,h4⟩:=h.openK;obtain⟨_,_,r2⟩:=h4.lens;obtain⟨lf,hlf⟩:∃x,t.isLeaf=x:=⟨_,rfl⟩
 obtain⟨m,hm⟩:∃x,cntT t=x:=⟨_,rfl⟩
 obtain⟨pg,hpg⟩:∃x,t.page=x:=⟨_,rfl⟩
 have hm9:m≤1000:=by rw[←hm];exact hb.cnt
 rw[hlf,hm] at r2;have hcn:cn=if lf then 0 else m:=by rw[←h3.1,r2]
 rw[hlf,hm,hpg] at hh;rw[hm] at h1;have hB0:Below w.heap.size w ((w.alloc (.cells #[.int .i64 pg,.bool lf,.slice ka m kc,.slice va vn vc,.slice ca cn cc] 50)).alloc (.cells #[.string (strOf lo),.string (strOf hi)] 215)):=Below.al (Below.al (Below.refl _ _));have hX0:Boxes _ [(w.heap.size+1,[.string (strOf lo),.string (strOf hi)]),(w.heap.size,[.int .i64 pg,.bool lf,.slice ka m kc,.slice va vn vc,.slice ca cn cc])]:=((Boxes.nil w).alloc #[.int .i64 pg,.bool lf,.slice ka m kc,.slice va vn vc,.slice ca cn cc] 50 rfl).alloc #[.string (strOf lo),.string (strOf hi)] 215 (b:=w.heap.size+1) (by simp);obtain⟨wA,hwA⟩:∃wA,(w.alloc (.cells #[.int .i64 pg,.bool lf,.slice ka m kc,.slice va vn vc,.slice ca cn cc] 50)).alloc (.cells #[.string (strOf lo),.string (strOf hi)] 215)=wA:=⟨_,rfl⟩
 rw[hwA] at hB0 hX0;rw[hlf,hm,hpg];have CF:=fits_any (hh.below hB0) hb lo hi hlo hhi;have CS:=fun W (hW:Below w.heap.size w W)=>tsizes_any (hh.below hW) hb
 have hSm:=hb.small;have hsum:(decide (sumT t≤122)=decide (sumI (sizesT t)≤122))∧(lowT t=decide (sumI (sizesT t)<30)):=⟨rfl,rfl⟩
 obtain⟨R,hR⟩:∃R,depthT (n+1) t lo hi root=R:=⟨_,rfl⟩
 have hfail:(fitT lo hi t && sizeB root t)=false→R=none:=fun h=>by
  rw[←hR];cases t<;>(unfold depthT;rw[h];rfl)
 have hsz:sizeB root t=(decide ((if lf then 1 else 2)≤m) && (decide (sumI (sizesT t)≤122) && (root || !decide (sumI (sizesT t)<30)))):=by
  unfold sizeB;rw[hlf,hm];rfl
 have H1:=Hd h1;have HFAIL:=Hd hfail;have HSZ:=Hd hsz;have HB:=Hd hB0;have HX:=Hd hX0;have hkids:∃l:List (List UInt8×Tr),(lf=false→((fitT lo hi t && sizeB root t)=true→R=depK (fun t lo hi=>depthT n t lo hi false) lo hi 0 0 l)∧l.length=m∧keysOf l=t.keys∧(∀c∈l,c.1.length≤200∧Bnd n c.2)∧TabR 5 (NodeIn n w) w ca cn cc (l.map (·.2)))∧(lf=true→(fitT lo hi t && sizeB root t)=true→R=some 0):=by
  cases t with
  | leaf p l0=>exact⟨[],(fun h=>by rw[←hlf] at h;cases h),(fun _ h=>by rw[←hR,depthT_leaf,if_pos h])⟩
  | node p l0=>exact⟨l0,(fun _=>⟨(fun h=>by rw[←hR,depthT_node,if_pos h]),hm,rfl,hb.2,Raw.tab h3 h4.2.2⟩),(fun h=>by rw[←hlf] at h;cases h)⟩
 obtain⟨l,hl1,hl2⟩:=hkids;have HL1:=Hd hl1;have HL2:=Hd hl2;have HSm:=Hd hSm;clear h h1 h2 h3 h4 hB0 hX0 hlf hm hpg r2 hb hfail hsz hl1 hl2 hsum hSm hh;generalize t.keys=K at *;generalize fitT lo hi t=FT at *;generalize sizeB root t=SZ at *;obtain⟨S,hS⟩:∃S,sizesT t=S:=⟨_,rfl⟩
 rw[hS] at CS HSZ HSm;rw[hR];clear hS hR;have n0:=HX.out.cell 1 0 rfl rfl;have n1:=HX.out.cell 1 1 rfl rfl;have n2:=HX.out.cell 1 2 rfl rfl;have n3:=HX.out.cell 1 3 rfl rfl;have n4:=HX.out.cell 1 4 rfl rfl;have s0:=HX.out.cell 0 0 rfl rfl;have s1:=HX.out.cell 0 1 rfl rfl;cases lf with
 | true=>
  simp only[if_true] at hcn;replace hcn:=hcn.symm;subst hcn;replace HSZ:Hid (SZ=(decide (1≤m) && (decide (sumI S≤122) && (root || !decide (sumI S<30))))):=Hd HSZ.out;go_enter Tryz.func98,Tryz.ntmps98;go_wp2_with fail
  try rw[hwA]
  clear hwA;cases FT with
  | false=>
   exact q28d62d
  | true=>
   by_cases hle:m<1
   ·have d1:decide ((m:Int)<1)=true:=by simp;omega
    have d1':decide (m<1)=true:=by simp;omega
    exact qdddfaa
   have d1:decide ((m:Int)<1)=false:=by simp;omega
   have d1':decide (m<1)=false:=by simp;omega
   have HLE:Hid (1≤m):=Hd (by omega);clear hle;refine CF.mono ?_;rintro e w1 ⟨rfl,hb1⟩;clear CF;have HB1:=Hd (HB.out.trans (hb1.mono HB.out.size));have HX1:=Hd (HX.out.step hb1);clear n0 n1 n2 n3 n4 s0 s1 hb1;have n0:=HX1.out.cell 1 0 rfl rfl;have n1:=HX1.out.cell 1 1 rfl rfl;have n2:=HX1.out.cell 1 2 rfl rfl;have n3:=HX1.out.cell 1 3 rfl rfl;have n4:=HX1.out.cell 1 4 rfl rfl;have s0:=HX1.out.cell 0 0 rfl rfl;have s1:=HX1.out.cell 0 1 rfl rfl;go_wp2_with fail;refine(CS _ HB1.out).mono ?_;rintro e w2 ⟨v2,rfl,ho2,hb2⟩;obtain⟨sa,sc,rfl,hrow⟩:=Row.of_own ho2;clear ho2;have HB2:=Hd (HB1.out.trans (hb2.mono HB1.out.size));have HX2:=Hd (HX1.out.step hb2);clear n0 n1 n2 n3 n4 s0 s1 hb2;have n0:=HX2.out.cell 1 0 rfl rfl;have n1:=HX2.out.cell 1 1 rfl rfl;have n2:=HX2.out.cell 1 2 rfl rfl;have n3:=HX2.out.cell 1 3 rfl rfl;have n4:=HX2.out.cell 1 4 rfl rfl;have s0:=HX2.out.cell 0 0 rfl rfl;have s1:=HX2.out.cell 0 1 rfl rfl;have HROW:=Hd hrow;clear hrow;obtain⟨sm,hsm⟩:∃x,sumI S=x:=⟨_,rfl⟩
   have CSum:=sum_any _ _ _ _ _ HROW.out HSm.out;rw[hsm] at CSum HSZ;have HSM:=Hd hsm;clear hsm
   by_cases h122:sm≤122
   rotate_left
   ·have d2:decide ((122:Int)<sm)=true:=by simp;omega
    exact q02edb4
   have d2:decide ((122:Int)<sm)=false:=by simp;omega
   have H122:=Hd h122;clear h122;cases root with
   | true=>
    have HP:Hid ((true && SZ)=true):=Hd (by rw[HSZ.out];simp[H122.out];exact HLE.out);go_wp2_with fail;refine CSum.mono ?_;rintro e w3 ⟨rfl,rfl⟩;have HR:Hid (R=some 0):=Hd (HL2.out (by first|rfl|trivial) HP.out);go_wp2_with fail
    go_loop [8,44] (fun s i=>s=.int .i64 0∧i=.int .i64 0) (fun _ _=>0)
    case atStart=>exact⟨rfl,rfl⟩
    case round=>
     obtain⟨rfl,rfl⟩:=hrel;exact qd1db3c
   | false=>
    have CS2:=CS _ HB2.out;go_wp2_with fail;refine CSum.mono ?_;rintro e w3 ⟨rfl,rfl⟩;go_wp2_with fail;refine CS2.mono ?_;rintro e w3 ⟨v3,rfl,ho3,hb3⟩;obtain⟨sb,sd,rfl,hrow3⟩:=Row.of_own ho3;clear ho3 CS2;have HB3:=Hd (HB2.out.trans (hb3.mono HB2.out.size));have HX3:=Hd (HX2.out.step hb3);clear n0 n1 n2 n3 n4 s0 s1 hb3;have n0:=HX3.out.cell 1 0 rfl rfl;have n1:=HX3.out.cell 1 1 rfl rfl;have n2:=HX3.out.cell 1 2 rfl rfl;have n3:=HX3.out.cell 1 3 rfl rfl;have n4:=HX3.out.cell 1 4 rfl rfl;have s0:=HX3.out.cell 0 0 rfl rfl;have s1:=HX3.out.cell 0 1 rfl rfl;have CL:=low_any _ _ _ _ _ hrow3 HSm.out;rw[HSM.out] at CL;clear hrow3
    by_cases h30:sm<30
    ·rw[decide_eq_true h30] at CL
     exact qa5216f
    rw[decide_eq_false h30] at CL;have H30:=Hd h30;clear h30;have HP:Hid ((true && SZ)=true):=Hd (by rw[HSZ.out];have:=H30.out;have:=H122.out;have:=HLE.out;simp;omega);go_wp2_with fail;refine CL.mono ?_;rintro e w4 ⟨rfl,rfl⟩;have HR:Hid (R=some 0):=Hd (HL2.out (by first|rfl|trivial) HP.out);go_wp2_with fail
    go_loop [8,44] (fun s i=>s=.int .i64 0∧i=.int .i64 0) (fun _ _=>0)
    case atStart=>exact⟨rfl,rfl⟩
    case round=>
     obtain⟨rfl,rfl⟩:=hrel;go_wp2_with fail;go_ret;exact⟨by rw[HR.out];rfl,HB3.out⟩
 | false=>
  simp only[Bool.false_eq_true,if_false] at hcn;replace hcn:=hcn.symm;subst hcn;replace HSZ:Hid (SZ=(decide (2≤m) && (decide (sumI S≤122) && (root || !decide (sumI S<30))))):=Hd HSZ.out;go_enter Tryz.func98,Tryz.ntmps98;go_wp2_with fail
  try rw[hwA]
  clear hwA;cases FT with
  | false=>
   exact q28d62d
  | true=>
   by_cases hle:m<2
   ·have d1:decide ((m:Int)<2)=true:=by simp;omega
    have d1':decide (m<2)=true:=by simp;omega
    exact qdddfaa
   have d1:decide ((m:Int)<2)=false:=by simp;omega
   have d1':decide (m<2)=false:=by simp;omega
   have HLE:Hid (2≤m):=Hd (by omega);clear hle;refine CF.mono ?_;rintro e w1 ⟨rfl,hb1⟩;clear CF;have HB1:=Hd (HB.out.trans (hb1.mono HB.out.size));have HX1:=Hd (HX.out.step hb1);clear n0 n1 n2 n3 n4 s0 s1 hb1;have n0:=HX1.out.cell 1 0 rfl rfl;have n1:=HX1.out.cell 1 1 rfl rfl;have n2:=HX1.out.cell 1 2 rfl rfl;have n3:=HX1.out.cell 1 3 rfl rfl;have n4:=HX1.out.cell 1 4 rfl rfl;have s0:=HX1.out.cell 0 0 rfl rfl;have s1:=HX1.out.cell 0 1 rfl rfl;go_wp2_with fail;refine(CS _ HB1.out).mono ?_;rintro e w2 ⟨v2,rfl,ho2,hb2⟩;obtain⟨sa,sc,rfl,hrow⟩:=Row.of_own ho2;clear ho2;have HB2:=Hd (HB1.out.trans (hb2.mono HB1.out.size));have HX2:=Hd (HX1.out.step hb2);clear n0 n1 n2 n3 n4 s0 s1 hb2;have n0:=HX2.out.cell 1 0 rfl rfl;have n1:=HX2.out.cell 1 1 rfl rfl;have n2:=HX2.out.cell 1 2 rfl rfl;have n3:=HX2.out.cell 1 3 rfl rfl;have n4:=HX2.out.cell 1 4 rfl rfl;have s0:=HX2.out.cell 0 0 rfl rfl;have s1:=HX2.out.cell 0 1 rfl rfl;have HROW:=Hd hrow;clear hrow;obtain⟨sm,hsm⟩:∃x,sumI S=x:=⟨_,rfl⟩
   have CSum:=sum_any _ _ _ _ _ HROW.out HSm.out;rw[hsm] at CSum HSZ;have HSM:=Hd hsm;clear hsm
   by_cases h122:sm≤122
   rotate_left
   ·have d2:decide ((122:Int)<sm)=true:=by simp;omega
    exact q02edb4
   have d2:decide ((122:Int)<sm)=false:=by simp;omega
   have H122:=Hd h122;clear h122;cases root with
   | true=>
    have HP:Hid ((true && SZ)=true):=Hd (by rw[HSZ.out];simp[H122.out];exact HLE.out);go_wp2_with fail;refine CSum.mono ?_;rintro e w3 ⟨rfl,rfl⟩;obtain⟨q1,q2,q3,q4,q5⟩:=HL1.out (by first|rfl|trivial);have HQ1:=Hd (q1 HP.out);have HLL:=Hd q2;have HKL:=Hd q3;have HKS:=Hd q4;have HT:=Hd q5;have HK:Hid (∀i,i<m→(K[i]?.getD []).length≤200):=Hd (fun i hi=>by
     have:=(q4 l[i] (List.getElem_mem (by omega))).1;rw[←q3];simpa[keysOf,show i<l.length by omega] using this)
    clear q1 q2 q3 q4 q5 CS CSum;go_wp2_with fail
    go_loopw [8,44] (fun s8 s44 wr=>∃i far:Nat,i≤m∧far≤1000∧s44=.int .i64 i∧s8=.int .i64 far∧depK (fun t lo hi=>depthT n t lo hi false) lo hi i far (l.drop i)=R∧Below w.heap.size w wr∧Boxes wr [(w.heap.size+1,[.string (strOf lo),.string (strOf hi)]),(w.heap.size,[.int .i64 pg,.bool false,.slice ka m kc,.slice va vn vc,.slice ca m cc])]) (fun _ s _=>m-(intOf s).toNat)
    case atStart=>exact⟨0,0,Nat.zero_le _,Nat.zero_le _,rfl,rfl,HQ1.out.symm,HB2.out,HX2.out⟩
    case round=>
     exact q842745
   | false=>
    have CS2:=CS _ HB2.out;go_wp2_with fail;refine CSum.mono ?_;rintro e w3 ⟨rfl,rfl⟩;go_wp2_with fail;refine CS2.mono ?_;rintro e w3 ⟨v3,rfl,ho3,hb3⟩;obtain⟨sb,sd,rfl,hrow3⟩:=Row.of_own ho3;clear ho3 CS2;have HB3:=Hd (HB2.out.trans (hb3.mono HB2.out.size));have HX3:=Hd (HX2.out.step hb3);clear n0 n1 n2 n3 n4 s0 s1 hb3;have n0:=HX3.out.cell 1 0 rfl rfl;have n1:=HX3.out.cell 1 1 rfl rfl;have n2:=HX3.out.cell 1 2 rfl rfl;have n3:=HX3.out.cell 1 3 rfl rfl;have n4:=HX3.out.cell 1 4 rfl rfl;have s0:=HX3.out.cell 0 0 rfl rfl;have s1:=HX3.out.cell 0 1 rfl rfl;have CL:=low_any _ _ _ _ _ hrow3 HSm.out;rw[HSM.out] at CL;clear hrow3
    by_cases h30:sm<30
    ·rw[decide_eq_true h30] at CL
     exact qa5216f
    rw[decide_eq_false h30] at CL;have H30:=Hd h30;clear h30;have HP:Hid ((true && SZ)=true):=Hd (by rw[HSZ.out];have:=H30.out;have:=H122.out;have:=HLE.out;simp;omega);go_wp2_with fail;refine CL.mono ?_;rintro e w4 ⟨rfl,rfl⟩;obtain⟨q1,q2,q3,q4,q5⟩:=HL1.out (by first|rfl|trivial);have HQ1:=Hd (q1 HP.out);have HLL:=Hd q2;have HKL:=Hd q3;have HKS:=Hd q4;have HT:=Hd q5;have HK:Hid (∀i,i<m→(K[i]?.getD []).length≤200):=Hd (fun i hi=>by
     have:=(q4 l[i] (List.getElem_mem (by omega))).1;rw[←q3];simpa[keysOf,show i<l.length by omega] using this)
    clear q1 q2 q3 q4 q5 CS CSum;go_wp2_with fail
    go_loopw [8,44] (fun s8 s44 wr=>∃i far:Nat,i≤m∧far≤1000∧s44=.int .i64 i∧s8=.int .i64 far∧depK (fun t lo hi=>depthT n t lo hi false) lo hi i far (l.drop i)=R∧Below w.heap.size w wr∧Boxes wr [(w.heap.size+1,[.string (strOf lo),.string (strOf hi)]),(w.heap.size,[.int .i64 pg,.bool false,.slice ka m kc,.slice va vn vc,.slice ca m cc])]) (fun _ s _=>m-(intOf s).toNat)
    case atStart=>exact⟨0,0,Nat.zero_le _,Nat.zero_le _,rfl,rfl,HQ1.out.symm,HB3.out,HX3.out⟩
    case round=>
     exact q842745
theorem depth_any:∀{n:Nat} {w:World} {cs:List Value} {t:Tr},NodeIn n w cs t→Bnd n t→n≤1000→∀(lo hi:List UInt8) (root:Bool),lo.length≤1000→hi.length≤1000 →
 Calls Tryz.prog 98 #[.agg cs.toArray,.agg #[.string (strOf lo),.string (strOf hi)],.bool root] w fun e w'=>e=.returned (.int .i64 (depI (depthT n t lo hi root)))∧Below w.heap.size w w'
 | 0,_,_,_,h,_,_,_,_,_,_,_=>h.elim
 | n+1,_,_,_,h,hb,hn,lo,hi,root,hlo,hhi=>depth_step (fun h hb lo hi hlo hhi=>depth_any h hb (by omega) lo hi false hlo hhi) h hb (by omega) lo hi root hlo hhi
theorem depI_nn (o:Option Nat):decide ((0:Int)≤depI o)=o.isSome:=by
 cases o with
 | none=>rfl
 | some d=>simp[depI]
theorem tcheck_any {n:Nat} {w:World} {cs:List Value} {t:Tr} (h:NodeIn n w cs t) (hb:Bnd n t) (hn:n≤1000) :
 Calls Tryz.prog 53 #[.agg cs.toArray] w fun e w'=>e=.returned (.bool (checkT n t))∧Below w.heap.size w w':=by
 cases n with
 | zero=>exact h.elim
 | succ n=>
 have hh:=h;obtain⟨ka,kc,va,vn,vc,ca,cn,cc,V,C,rfl,h1,h2,h3,h4⟩:=h.openK;obtain⟨_,r1,r2⟩:=h4.lens;obtain⟨lf,hlf⟩:∃x,t.isLeaf=x:=⟨_,rfl⟩
 obtain⟨m,hm⟩:∃x,cntT t=x:=⟨_,rfl⟩
 obtain⟨pg,hpg⟩:∃x,t.page=x:=⟨_,rfl⟩
 have hm9:m≤1000:=by rw[←hm];exact hb.cnt
 rw[hlf,hm] at r1 r2;have hvn:vn=if lf then m else 0:=by rw[←h2.1,r1]
 have hcn:cn=if lf then 0 else m:=by rw[←h3.1,r2]
 rw[hlf,hm,hpg] at hh;have hB0:Below w.heap.size w (w.alloc (.cells #[.int .i64 pg,.bool lf,.slice ka m kc,.slice va vn vc,.slice ca cn cc] 50)):=Below.al (Below.refl _ _);have hX0:Boxes _ [(w.heap.size,[.int .i64 pg,.bool lf,.slice ka m kc,.slice va vn vc,.slice ca cn cc])]:=((Boxes.nil w).alloc #[.int .i64 pg,.bool lf,.slice ka m kc,.slice va vn vc,.slice ca cn cc] 50 rfl)
 obtain⟨wA,hwA⟩:∃wA,w.alloc (.cells #[.int .i64 pg,.bool lf,.slice ka m kc,.slice va vn vc,.slice ca cn cc] 50)=wA:=⟨_,rfl⟩
 rw[hwA] at hB0 hX0;rw[hlf,hm,hpg];have CF:=depth_any (hh.below hB0) hb hn [] [] true (by decide) (by decide);have hck:checkT (n+1) t=(emptyB t || (depthT (n+1) t [] [] true).isSome):=rfl;obtain⟨D,hD⟩:∃D,depthT (n+1) t [] [] true=D:=⟨_,rfl⟩
 rw[hD] at CF hck;have hem:emptyB t=(lf && (pg == 0 && m == 0)):=by
  rw[←hlf,←hpg,←hm];cases t with
  | leaf p l=>cases l<;>rfl
  | node p l=>rfl
 have h0:=depI_nn D;have hs0:strOf []=⟨#[]⟩:=rfl;rw[hs0] at CF;have HCK:Hid (checkT (n+1) t=(lf && (pg == 0 && m == 0) || D.isSome)):=Hd (by rw[hck,hem]);have HB:=Hd hB0;have n0:=hX0.cell 0 0 rfl rfl;have n1:=hX0.cell 0 1 rfl rfl;have n2:=hX0.cell 0 2 rfl rfl;have n3:=hX0.cell 0 3 rfl rfl;have n4:=hX0.cell 0 4 rfl rfl;generalize depI D=di at *;generalize D.isSome=ds at *;generalize checkT (n+1) t=ck at *;clear hh h h1 h2 h3 h4 hlf hm hpg r1 r2 hB0 hX0 hb hck hem hD;cases lf with
 | false=>
  simp only[Bool.false_eq_true,if_false] at hvn hcn;replace hcn:=hcn.symm;subst hvn hcn;go_enter Tryz.func53,Tryz.ntmps53;exact qceefca
 | true=>
  simp only[if_true] at hvn hcn;subst hvn hcn
  by_cases hp:pg=0
  ·subst hp
   by_cases hm0:vn=0
   ·subst hm0
    have HE:Hid (ck=true):=Hd (by rw[HCK.out];rfl);go_enter Tryz.func53,Tryz.ntmps53;exact q993faf
   ·have HE:Hid (ck=ds):=Hd (by rw[HCK.out];simp[hm0])
    have q1:((vn:Int)+vn == 0)=false:=beq_eq_false_iff_ne.2 (by omega);have q2:((vn:Int)+vn+0 == 0)=false:=beq_eq_false_iff_ne.2 (by omega);have HM0:=Hd hm0;clear hm0;go_enter Tryz.func53,Tryz.ntmps53;exact qd21dd5
  ·have HE:Hid (ck=ds):=Hd (by rw[HCK.out];simp[hp])
   have q1:(pg == 0)=false:=beq_eq_false_iff_ne.2 hp;have HP:=Hd hp;clear hp;go_enter Tryz.func53,Tryz.ntmps53;exact qd21dd5
end Go.Proofs.YtpghlmcoajaiiaaGreatDoor
