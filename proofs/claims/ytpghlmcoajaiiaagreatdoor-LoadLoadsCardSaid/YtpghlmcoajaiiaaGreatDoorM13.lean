/- Texts that other texts of this claim lean on, one behind the other. -/
import Derived.Test.YtpghlmcoajaiiaaGreatDoorM12
import Derived.Test.YtpghlmcoajaiiaaGreatDoorM1
import Derived.Test.YtpghlmcoajaiiaaGreatDoorM10
import Derived.Test.YtpghlmcoajaiiaaGreatDoorM11
import Derived.Test.YtpghlmcoajaiiaaGreatDoorM2
import Derived.Test.YtpghlmcoajaiiaaGreatDoorM3
import Derived.Test.YtpghlmcoajaiiaaGreatDoorM4
import Derived.Test.YtpghlmcoajaiiaaGreatDoorM9
import Derived.Test.YtpghlmcoajaiiaaGreatDoorM8
import Derived.Test.YtpghlmcoajaiiaaGreatDoorM5
import Derived.Deep.QuietTactic
import Derived.BigQuiet
import Derived.Test.YtpghlmcoajaiiaaGreatDoorM7
import Derived.Deep.RegionHeld3
set_option maxHeartbeats 20000000
set_option maxRecDepth 100000
namespace Go.Proofs.YtpghlmcoajaiiaaGreatDoor
open Go.RowKit
theorem GsK.lt {K:Nat→Prop} {w:World} {a:Option Addr} {len cap:Nat} {d:List Rg} (h:GsK K w a len cap d):GsK (fun k=>K k∧k<w.heap.size) w a len cap d:=by
 have up:∀W,Agree (fun k=>K k∧k<w.heap.size) w W→Agree K w W:=fun W hW=>⟨hW.1,fun k o hk ho=>hW.2 k o ⟨hk,(Array.getElem?_eq_some_iff.1 ho).1⟩ ho⟩
 obtain⟨h1,gs,h2,h3⟩:=h;exact⟨h1,gs,fun W hW=>h2 W (up W hW),fun i g x hg hx W hW=>h3 i g x hg hx W (up W hW)⟩
def Both (B:Nat) (w:World) (da M:Nat) (d:List Rg) (a:Option Addr) (n cap:Nat) (e:List Rg):Prop:=
 ∃F bs,DskIn w F da M bs d∧(∀k∈F,B≤k)∧B≤w.heap.size∧GsK (fun k=>k∉F) w a n cap e
theorem Both.one {B:Nat} {w:World} {da M:Nat} {d e:List Rg} {a:Option Addr} {n cap:Nat} (h:Both B w da M d a n cap e):One B w da M d:=by
 obtain⟨F,bs,h1,h2,h3,h4⟩:=h;exact⟨F,bs,h1,h2,h3⟩
theorem Both.gs {B:Nat} {w:World} {da M:Nat} {d e:List Rg} {a:Option Addr} {n cap:Nat} (h:Both B w da M d a n cap e):Gs w a n cap e:=by
 obtain⟨F,bs,h1,h2,h3,h4⟩:=h;exact h4.gs
theorem Both.below {B:Nat} {w w':World} {da M:Nat} {d e:List Rg} {a:Option Addr} {n cap:Nat} (h:Both B w da M d a n cap e) (hb:Below w.heap.size w w'):Both B w' da M d a n cap e:=by
 obtain⟨F,bs,h1,h2,h3,h4⟩:=h;exact⟨F,bs,h1.below hb,h2,by have:=hb.size;omega,h4.below hb⟩
theorem Both.mk {B N:Nat} {w w':World} {da M:Nat} {d e:List Rg} {a:Option Addr} {n cap:Nat} (h:One B w da M d) (hb:Below w.heap.size w w') (hN:w.heap.size≤N) (hg:GsK (From (fun _=>False) N) w' a n cap e):Both B w' da M d a n cap e:=by
 obtain⟨F,bs,h1,h2,h3⟩:=h;refine⟨F,bs,h1.below hb,h2,by have:=hb.size;omega,hg.mono fun k hk hF=>?_⟩
 rcases hk with hk|hk
 ·exact hk
 ·have:=h1.lt k hF;omega
theorem Both.opens {B:Nat} {w:World} {da M:Nat} {d e:List Rg} {a:Option Addr} {n cap:Nat} (h:Both B w da M d a n cap e):Opens B w.heap.size w da M d (fun w' M' d'=>Both B w' da M' d' a n cap e∧Below B w w'):=by
 obtain⟨F,bs,h1,h2,h3,h4⟩:=h;refine⟨F,bs,h1,fun k hk=>⟨h2 k hk,h1.lt k hk⟩,Nat.le_refl _,h3,fun w' F' bs' d' M' _ ho hd hF=>⟨⟨F',bs',hd,fun k hk=>(hF k hk).elim (h2 k) (fun h=>by omega),by have:=ho.size;omega,?_⟩,ho.below h3 h2⟩⟩;have hA:Agree (fun k=>k∉F∧k<w.heap.size) w w':=⟨ho.size,fun k o hk h5=>by rw[ho.block hk.2 hk.1];exact h5⟩
 refine(h4.lt.agree hA).mono fun k hk hk2=>?_
 rcases hF k hk2 with h5|h5
 ·exact hk.1 h5
 ·have:=hk.2;omega
theorem both_write {B:Nat} {w:World} {da M:Nat} {d e:List Rg} {a:Option Addr} {n cap:Nat} (h:Both B w da M d a n cap e) (hlen:n≤1000) (hL:∀x∈e,x.loose.length≤100000) (r p:Int) (l:List UInt8) :
 Calls Tryz.prog 14 #[.slice a n cap,.int .i64 r,.int .i64 p,.string (strOf l)] w fun e1 w'=>∃a2 n2 cap2,e1=.returned (.tuple #[.slice a2 n2 cap2,.int .i64 (writeE e r p l)])∧Both B w' da M d a2 n2 cap2 (writeD e r p l)∧Below w.heap.size w w':=by
 obtain⟨F,bs,h1,h2,h3,h4⟩:=h;refine(rwrite_any h4 hlen hL r p l).mono ?_;rintro e1 w' ⟨a2,n2,cap2,rfl,hg,hb⟩;refine⟨a2,n2,cap2,rfl,⟨F,bs,h1.below hb,h2,by have:=hb.size;omega,hg.mono fun k hk hF=>?_⟩,hb⟩
 rcases hk with hk|hk
 ·exact hk hF
 ·have:=h1.lt k hF;omega
theorem atR_len {d:List Rg} {M:Nat} (h:∀x∈d,x.loose.length≤M) {r p:Int} (hu:pagedE d r p=0):(atR d r).loose.length≤M:=by
 obtain⟨i,pn,x,rfl,rfl,hx,_⟩:=pagedE_zero hu;rw[atR_of hx];exact h x (List.mem_of_getElem? hx)
theorem write_loose {d:List Rg} {M:Nat} (h:∀x∈d,x.loose.length≤M) (r p:Int) (b:List UInt8):∀x∈writeD d r p b,x.loose.length≤M+1:=by
 intro x hx;unfold writeD at hx
 split at hx
 ·rename_i hu
  rcases List.mem_or_eq_of_mem_set hx with hx|rfl
  ·have:=h x hx;omega
  ·have:=atR_len h hu.1
   unfold wroteR
   split
   ·simp;omega
   ·rw[cntR_loose];omega
 ·have:=h x hx;omega
theorem write_length (d:List Rg) (r p:Int) (b:List UInt8):(writeD d r p b).length=d.length:=by
 unfold writeD;split<;>simp
theorem new_loose (l:List Int):∀x∈newD l,x.loose.length≤0:=by
 intro x hx;simp only[newD,List.mem_map] at hx;obtain⟨n,_,rfl⟩:=hx;exact Nat.le_refl _
def RLoadTo (w:World) (R:Except Int Tr) (e:Ending) (w':World):Prop:=
 Below w.heap.size w w'∧match R with
  | .ok t=>∃cs,e=.returned (.tuple #[.agg cs.toArray,.int .i64 0])∧RNodeOn (fun b=>w.heap.size≤b) 1000 w' cs t
  | .error x=>e=.returned (.tuple #[.agg #[.int .i64 0,.bool false,.slice none 0 0],.int .i64 x])
theorem RNodeOn.open_pos {F:Nat→Prop} {n:Nat} {w:World} {cs:List Value} {t:Tr} (h:RNodeOn F n w cs t):∃a m c,cs=[.int .i64 t.page,.bool t.isLeaf,.slice a m c]:=by
 cases n with
 | zero=>exact h.elim
 | succ n=>obtain⟨a,c,e,_⟩:=h.at;exact⟨a,_,c,e⟩
theorem rLoad_zero (w:World) (a:Option Addr) (len cap:Nat) (d:List Rg) (r:Int) :
 Calls Tryz.prog 16 #[.slice a len cap,.int .i64 r,.int .i64 0] w (RLoadTo w (loadD d r 0)):=by
 have hR:loadD d r 0=.ok (.leaf 0 []):=by unfold loadD;rw[if_pos rfl]
 rw[hR];obtain⟨w1,hw1⟩:∃w1,w.alloc (.cells #[.int .i64 0,.bool false,.slice none 0 0] 27)=w1:=⟨_,rfl⟩
 have hx1:Boxes w1 [(w.heap.size,[.int .i64 0,.bool false,.slice none 0 0])]:=by
  rw[←hw1];exact(Boxes.nil w).alloc #[.int .i64 0,.bool false,.slice none 0 0] 27 (b:=w.heap.size) rfl
 have hb1:Below w.heap.size w w1:=by rw[←hw1];exact Below.al (Below.refl _ _)
 have E:=rempty_any w1 (fun _=>False);have hz:=zero_refN;have HX1:=Hd hx1;have HB1:=Hd hb1;clear hx1 hb1 hR;go_enter Tryz.func16,Tryz.ntmps16;go_wp2_with fail;refine E.mono ?_;rintro e w2 ⟨cs,rfl,hon,hb2⟩;obtain⟨xa,xn,xc,eu⟩:=RNodeOn.open_pos hon;subst eu;have hx2:=HX1.out.step hb2;have f0:=hx2.frozen 0 0 rfl;have f1:=hx2.frozen 0 1 rfl;have f2:=hx2.frozen 0 2 rfl;have c0:=hx2.cell 0 0 rfl rfl;have c1:=hx2.cell 0 1 rfl rfl;have c2:=hx2.cell 0 2 rfl rfl;obtain⟨we,hwe⟩:∃x,x=st3 w2 w.heap.size (.int .i64 0) (.bool true) (.slice xa xn xc):=⟨_,rfl⟩
 have hx3:=st3_box hx2 (.int .i64 0) (.bool true) (.slice xa xn xc);rw[←hwe] at hx3;have z0:=hx3.cell 0 0 rfl rfl;have z1:=hx3.cell 0 1 rfl rfl;have z2:=hx3.cell 0 2 rfl rfl;have hsz:=HX1.out.lt 0 rfl;have hoe:Only [w.heap.size] w2 we:=by rw[hwe];exact st3_only _ _ _ _ _
 have HE:Hid (RLoadTo w (.ok (.leaf 0 [])) (.returned (.tuple #[.agg #[.int .i64 0,.bool true,.slice xa xn xc],.int .i64 0])) we):=Hd (by
  have hb12:=HB1.out.trans (hb2.mono HB1.out.size);refine⟨hb12.trans (hoe.below hb12.size (by simp)),[.int .i64 0,.bool true,.slice xa xn xc],rfl,?_⟩;refine RNodeOn.mono (fun b hb=>?_) ((hon.agree ⟨hoe.size,fun b hb hlt=>hoe.block hlt (fun hm=>?_)⟩).more (m:=1000) (by omega))
  ·rcases hb with hb|hb
   ·exact hb.elim
   ·have hsz:w.heap.size<w1.heap.size:=hsz
    omega
  ·have hm:b=w.heap.size:=by simpa using hm
   rcases hb with hb|hb
   ·exact hb.elim
   ·have hsz:w.heap.size<w1.heap.size:=hsz
    omega)
 clear hx2 hx3 hb2 hon hoe;go_wp2_with fail;change bodyPost Tryz.prog _ _ _ _ (st3 w2 w.heap.size (.int .i64 0) (.bool true) (.slice xa xn xc));rw[←hwe];refine bodyPost_ret (v:=.tuple #[.agg #[.int .i64 0,.bool true,.slice xa xn xc],.int .i64 0]) (by simp[results,Tryz.results16,go_sem,z0,z1,z2]) rfl ?_;exact HE.out
theorem rLoad_root {w:World} {a:Option Addr} {len cap:Nat} {d:List Rg} (h:∃K,GsK K w a len cap d) (hd:DOk d) (hlen:len≤1000) (r root:Int) (h0:root≠0) :
 Calls Tryz.prog 16 #[.slice a len cap,.int .i64 r,.int .i64 root] w (RLoadTo w (loadD d r root)):=by
 obtain⟨R,hR⟩:∃R,loadD d r root=R:=⟨_,rfl⟩
 have hR0:=hR;unfold loadD at hR0;rw[if_neg h0] at hR0;rw[hR];obtain⟨w3,hw3⟩:∃w3,(w.alloc (.cells #[.int .i64 0,.bool false,.slice none 0 0] 27)).alloc (.cells #[.slice a len cap,.int .i64 r,.slice none 0 0,.int .i64 0] 139)=w3:=⟨_,rfl⟩
 have hx3:Boxes w3 [(w.heap.size+1,[.slice a len cap,.int .i64 r,.slice none 0 0,.int .i64 0]),(w.heap.size,[.int .i64 0,.bool false,.slice none 0 0])]:=by
  rw[←hw3];exact((Boxes.nil w).alloc #[.int .i64 0,.bool false,.slice none 0 0] 27 (b:=w.heap.size) rfl).alloc #[.slice a len cap,.int .i64 r,.slice none 0 0,.int .i64 0] 139 (b:=w.heap.size+1) (by simp)
 have hb3:Below w.heap.size w w3:=by rw[←hw3];exact Below.al (Below.al (Below.refl _ _))
 have hs3:w3.heap.size=w.heap.size+2:=by rw[←hw3];simp
 have hld:RLd w3 (w.heap.size+1) a len cap d r (.slice none 0 0) [] 0:=by
  obtain⟨K,hK⟩:=h;exact⟨hx3.sub (by intro q hq;simp at hq ⊢;exact .inl hq),own_nil w3 _ 1 _,⟨_,hK.lt.below hb3,fun k hk=>by have:=hk.2;omega⟩,hlen⟩
 have P:=rload_any 1000 hd hld SeenOk.nil (by rw[roomL_nil];omega) h0;have hz:=zero_refN;have HX3:=Hd hx3;have HB3:=Hd hb3;have HR0:=Hd hR0;have HS3:=Hd hs3;have q0:(root == 0)=false:=by simpa using h0
 clear hx3 hb3 hR hR0 hs3 hld h;go_enter Tryz.func16,Tryz.ntmps16;go_wp2_with fail;refine P.mono ?_;rintro e w4 ⟨tp,tl,xa,xn,xc,v',seen',E',rfl,hld,ho,ht,hres⟩;have hs4:=ho.size;have hx4:=(HX3.out.sub (m:=[(w.heap.size,[.int .i64 0,.bool false,.slice none 0 0])]) (by intro q hq;simp at hq ⊢;exact .inr hq)).only ho (by intro q hq hm;simp at hq;subst hq;rcases RS.mem.1 hm with e|e<;>simp[Value.ownBlock] at e);have hb4:Below w.heap.size w w4:=HB3.out.trans (ho.below HB3.out.size (fun k hk=>by rcases RS.mem.1 hk with e|e;omega;simp[Value.ownBlock] at e));obtain⟨w5,hw5⟩:∃x,w4.alloc (.cells #[.int .i64 tp,.bool tl,.slice xa xn xc] 27)=x:=⟨_,rfl⟩
 have hb45:Below w4.heap.size w4 w5:=by rw[←hw5];exact Below.al (Below.refl _ _)
 have hxo:Boxes w5 [(w4.heap.size,[.int .i64 tp,.bool tl,.slice xa xn xc])]:=by rw[←hw5];exact(Boxes.nil w4).alloc #[.int .i64 tp,.bool tl,.slice xa xn xc] 27 rfl
 have hx5:=hx4.step hb45;have hld5:=hld.below hb45;have e5:=hld5.box.cell 0 3 rfl rfl;have c0:=hx5.cell 0 0 rfl rfl;have c1:=hx5.cell 0 1 rfl rfl;have c2:=hx5.cell 0 2 rfl rfl;have f0:=hx5.frozen 0 0 rfl;have f1:=hx5.frozen 0 1 rfl;have f2:=hx5.frozen 0 2 rfl;have d0:=hxo.cell 0 0 rfl rfl;have d1:=hxo.cell 0 1 rfl rfl;have d2:=hxo.cell 0 2 rfl rfl;have hb5:Below w.heap.size w w5:=hb4.trans (hb45.mono (by have:=HS3.out;omega));cases hT:loadT d r 1000 [] root with
 | error x=>
  rw[hT] at hres;obtain⟨rfl,hx⟩:=hres;have qx:(E' != 0)=true:=by simpa using hx
  have qx2:(E' == 0)=false:=by simpa using hx
  obtain⟨we,hwe⟩:∃x,x=st3 w5 w.heap.size (.int .i64 0) (.bool false) (.slice none 0 0):=⟨_,rfl⟩
  have hxe:=st3_box hx5 (.int .i64 0) (.bool false) (.slice none 0 0);rw[←hwe] at hxe;have z0:=hxe.cell 0 0 rfl rfl;have z1:=hxe.cell 0 1 rfl rfl;have z2:=hxe.cell 0 2 rfl rfl;have hoe:Only [w.heap.size] w5 we:=by rw[hwe];exact st3_only _ _ _ _ _
  have hbe:Below w.heap.size w we.drew:=Below.dr (hb5.trans (hoe.below hb5.size (by simp)));have HE:Hid (RLoadTo w R (.returned (.tuple #[.agg #[.int .i64 0,.bool false,.slice none 0 0],.int .i64 E'])) we.drew):=Hd (by
   rw[←HR0.out,hT];exact⟨hbe,rfl⟩)
  clear hxe hoe hbe hx5 hxo hx4 hb5 hb45 hb4 hld5 hld ho ht;go_wp2_with fail
  go_region
  all_goals (
   go_wp2_with fail;change bodyPost Tryz.prog _ _ _ _ (st3 w5 w.heap.size (.int .i64 0) (.bool false) (.slice none 0 0)).drew;rw[←hwe];refine bodyPost_ret (v:=.tuple #[.agg #[.int .i64 0,.bool false,.slice none 0 0],.int .i64 E']) (by simp[results,Tryz.results16,go_sem,z0,z1,z2]) rfl ?_;exact HE.out)
 | ok y=>
  obtain⟨s,t⟩:=y;rw[hT] at hres;obtain⟨rfl,rfl,hon⟩:=hres;have hon5:=hon.agree (AgreeF.of_below hb45);have C:=rcheck_any hon5 (loadT_small hT) (by omega);have HON5:=Hd hon5;have HX5:=Hd hx5;have HXO:=Hd hxo;have HB5:=Hd hb5;have HT:=Hd hT;clear hx5 hxo hx4 hb5 hb45 hb4 hld5 hld ho ht hon hon5 hT;go_wp2_with fail;refine C.mono ?_;rintro e w6 ⟨rfl,hb6⟩;have hx6:=HX5.out.step hb6;have hxo6:=HXO.out.step hb6;have hb6w:Below w.heap.size w w6:=HB5.out.trans (hb6.mono HB5.out.size);have hon6:=HON5.out.agree (AgreeF.of_below hb6);have HR1:=HR0.out;rw[HT.out] at HR1;have g0:=hxo6.cell 0 0 rfl rfl;have g1:=hxo6.cell 0 1 rfl rfl;have g2:=hxo6.cell 0 2 rfl rfl;have s0:=hx6.cell 0 0 rfl rfl;have s1:=hx6.cell 0 1 rfl rfl;have s2:=hx6.cell 0 2 rfl rfl;have v0:=hx6.frozen 0 0 rfl;have v1:=hx6.frozen 0 1 rfl;have v2:=hx6.frozen 0 2 rfl;have hs3:=HS3.out;clear c0 c1 c2 f0 f1 f2 d0 d1 d2 e5;cases hc:checkT 1000 t with
  | true=>
   have hRt:R=.ok t:=by rw[←HR1];simp[hc]
   obtain⟨we,hwe⟩:∃x,x=st3 w6 w.heap.size (.int .i64 tp) (.bool tl) (.slice xa xn xc):=⟨_,rfl⟩
   have hxe:=st3_box hx6 (.int .i64 tp) (.bool tl) (.slice xa xn xc);rw[←hwe] at hxe;have z0:=hxe.cell 0 0 rfl rfl;have z1:=hxe.cell 0 1 rfl rfl;have z2:=hxe.cell 0 2 rfl rfl;have hoe:Only [w.heap.size] w6 we:=by rw[hwe];exact st3_only _ _ _ _ _
   have hbe:Below w.heap.size w we:=(hb6w.trans (hoe.below hb6w.size (by simp)))
   have HE:Hid (RLoadTo w R (.returned (.tuple #[.agg #[.int .i64 tp,.bool tl,.slice xa xn xc],.int .i64 0])) we):=Hd (by
    rw[hRt];refine⟨hbe,[.int .i64 tp,.bool tl,.slice xa xn xc],rfl,?_⟩;exact RNodeOn.mono (fun b hb=>by have:=hb.1;omega) (hon6.agree ⟨hoe.size,fun b hb hlt=>hoe.block hlt (by have:=hb.1;simp;omega)⟩))
   clear hxe hoe hbe hx6 hxo6 hb6w hb6 HR1 hRt hon6;go_wp2_with fail;change bodyPost Tryz.prog _ _ _ _ (st3 w6 w.heap.size (.int .i64 tp) (.bool tl) (.slice xa xn xc));rw[←hwe];refine bodyPost_ret (v:=.tuple #[.agg #[.int .i64 tp,.bool tl,.slice xa xn xc],.int .i64 0]) (by simp[results,Tryz.results16,go_sem,z0,z1,z2]) rfl ?_;exact HE.out
  | false=>
   have hRt:R=.error 11:=by rw[←HR1];simp[hc]
   obtain⟨we,hwe⟩:∃x,x=st3 w6 w.heap.size (.int .i64 0) (.bool false) (.slice none 0 0):=⟨_,rfl⟩
   have hxe:=st3_box hx6 (.int .i64 0) (.bool false) (.slice none 0 0);rw[←hwe] at hxe;have z0:=hxe.cell 0 0 rfl rfl;have z1:=hxe.cell 0 1 rfl rfl;have z2:=hxe.cell 0 2 rfl rfl;have hoe:Only [w.heap.size] w6 we:=by rw[hwe];exact st3_only _ _ _ _ _
   have hbe:Below w.heap.size w we:=(hb6w.trans (hoe.below hb6w.size (by simp)))
   have HE:Hid (RLoadTo w R (.returned (.tuple #[.agg #[.int .i64 0,.bool false,.slice none 0 0],.int .i64 11])) we):=Hd (by
    rw[hRt];exact⟨hbe,rfl⟩)
   clear hxe hoe hbe hx6 hxo6 hb6w hb6 HR1 hRt hon6;go_wp2_with fail;change bodyPost Tryz.prog _ _ _ _ (st3 w6 w.heap.size (.int .i64 0) (.bool false) (.slice none 0 0));rw[←hwe];refine bodyPost_ret (v:=.tuple #[.agg #[.int .i64 0,.bool false,.slice none 0 0],.int .i64 11]) (by simp[results,Tryz.results16,go_sem,z0,z1,z2]) rfl ?_;exact HE.out
theorem rLoad_any {w:World} {a:Option Addr} {len cap:Nat} {d:List Rg} (h:∃K,GsK K w a len cap d) (hd:DOk d) (hlen:len≤1000) (r root:Int) :
 Calls Tryz.prog 16 #[.slice a len cap,.int .i64 r,.int .i64 root] w (RLoadTo w (loadD d r root)):=by
 by_cases h0:root=0
 ·subst h0;exact rLoad_zero w a len cap d r
 ·exact rLoad_root h hd hlen r root h0
open Go.RowKit
theorem sum_take_le {α:Type} (f:α→Nat) (l:List α) (i:Nat):((l.take i).map f).sum≤(l.map f).sum:=by
 induction l generalizing i with
 | nil=>simp
 | cons x r ih=>
  cases i with
  | zero=>simp
  | succ i=>simp only[List.take_succ_cons,List.map_cons,List.sum_cons];have:=ih i;omega
theorem sum_take_succ {α:Type} (f:α→Nat) {l:List α} {i:Nat} {x:α} (h:l[i]? = some x):((l.take (i+1)).map f).sum=((l.take i).map f).sum+f x:=by
 rw[List.take_succ_eq_append_of h,List.map_append,List.sum_append];simp
theorem rfresh_leaf {n:Nat} {F:Nat→Prop} {w:World} {cs:List Value} {p:Int} {l:List (List UInt8×Tv)} (h:RNodeOn F (n+1) w cs (.leaf p l)) (hB:Bare (.leaf p l)) (hb:Bnd (n+1) (.leaf p l)) (hf:freshN (n+1) (.leaf p l)≤1000000) :
 Calls Tryz.prog 43 #[.agg cs.toArray] w fun e w'=>e=.returned (.int .i64 (freshN (n+1) (.leaf p l):Nat))∧Below w.heap.size w w':=by
 have m804ac2:=trivial;exact qf6cfb1
theorem rfresh_node {n:Nat} (IH:∀{F:Nat→Prop} {w:World} {cs:List Value} {t:Tr},RNodeOn F n w cs t→Bare t→Bnd n t→freshN n t≤1000000→Calls Tryz.prog 43 #[.agg cs.toArray] w fun e w'=>e=.returned (.int .i64 (freshN n t:Nat))∧Below w.heap.size w w') {F:Nat→Prop} {w:World} {cs:List Value} {p:Int} {l:List (List UInt8×Tr)} (h:RNodeOn F (n+1) w cs (.node p l)) (hB:Bare (.node p l)) (hb:Bnd (n+1) (.node p l)) (hf:freshN (n+1) (.node p l)≤1000000) :
 Calls Tryz.prog 43 #[.agg cs.toArray] w fun e w'=>e=.returned (.int .i64 (freshN (n+1) (.node p l):Nat))∧Below w.heap.size w w':=by
 obtain⟨rfl,hv⟩:=bare_kids hB;obtain⟨a,c,rfl,h1,_⟩:=h.at;have hbl:l.length≤1000:=hb.1;have hbk:=hb.2;have m274a0f:=trivial;exact q3719f5
theorem rfresh_any:∀{n:Nat} {F:Nat→Prop} {w:World} {cs:List Value} {t:Tr},RNodeOn F n w cs t→Bare t→Bnd n t→freshN n t≤1000000→Calls Tryz.prog 43 #[.agg cs.toArray] w fun e w'=>e=.returned (.int .i64 (freshN n t:Nat))∧Below w.heap.size w w'
 | 0,_,_,_,_,h,_,_,_=>h.elim
 | _n+1,_,_,_,.leaf _p _l,h,hB,hb,hf=>rfresh_leaf h hB hb hf
 | _n+1,_,_,_,.node _p _l,h,hB,hb,hf=>rfresh_node (fun h hB hb hf=>rfresh_any h hB hb hf) h hB hb hf
open Go.RowKit
theorem append_none (W:World) (pa:Option Addr) (pc:Nat):(Builtin.append_ #[35,35] 35 #[.slice none 0 0,.slice pa 0 pc]).run Tryz.prog W=.ok (.slice none 0 0) W:=by
 cases pa<;>kernel_rfl
theorem rall_leaf {n:Nat} {F:Nat→Prop} {w:World} {cs:List Value} {p:Int} {l:List (List UInt8×Tv)} (h:RNodeOn F (n+1) w cs (.leaf p l)) (hB:Bare (.leaf p l)) (hb:Bnd (n+1) (.leaf p l)) :
 Calls Tryz.prog 167 #[.agg cs.toArray] w fun e w'=>e=.returned (.slice none 0 0)∧Below w.heap.size w w':=by
 have m206bd6:=trivial;exact qf6cfb1
theorem rall_node {n:Nat} (IH:∀{F:Nat→Prop} {w:World} {cs:List Value} {t:Tr},RNodeOn F n w cs t→Bare t→Bnd n t→Calls Tryz.prog 167 #[.agg cs.toArray] w fun e w'=>e=.returned (.slice none 0 0)∧Below w.heap.size w w') {F:Nat→Prop} {w:World} {cs:List Value} {p:Int} {l:List (List UInt8×Tr)} (h:RNodeOn F (n+1) w cs (.node p l)) (hB:Bare (.node p l)) (hb:Bnd (n+1) (.node p l)) :
 Calls Tryz.prog 167 #[.agg cs.toArray] w fun e w'=>e=.returned (.slice none 0 0)∧Below w.heap.size w w':=by
 obtain⟨rfl,hv⟩:=bare_kids hB;obtain⟨a,c,rfl,h1,_⟩:=h.at;have hbl:l.length≤1000:=hb.1;have mab3290:=trivial;exact q3719f5
theorem rall_any:∀{n:Nat} {F:Nat→Prop} {w:World} {cs:List Value} {t:Tr},RNodeOn F n w cs t→Bare t→Bnd n t→Calls Tryz.prog 167 #[.agg cs.toArray] w fun e w'=>e=.returned (.slice none 0 0)∧Below w.heap.size w w'
 | 0,_,_,_,_,h,_,_=>h.elim
 | _n+1,_,_,_,.leaf _p _l,h,hB,hb=>rall_leaf h hB hb
 | _n+1,_,_,_,.node _p _l,h,hB,hb=>rall_node (fun h hB hb=>rall_any h hB hb) h hB hb
open Go.RowKit
def Rises (l:List Int):Prop:=∀(i j:Nat) (x y:Int),i<j→l[i]? = some x→l[j]? = some y→x<y
theorem infoI:(Tryz.prog.info? 3).map (fun i=>(i.zero,i.size,i.bytes))=some (some (.int .i64 0),1,8):=by kernel_rfl
theorem sorted_any {w:World} {a:Option Addr} {n cap:Nat} {l:List Int} (h:Row .i64 w a n cap l) (hr:Rises l) (hn:n≤100000) :
 Calls Tryz.prog 131 #[.slice a n cap] w fun e w'=>∃v,e=.returned v∧w'.ownsRow w.heap.size 3 1 v n (l.map (Value.int .i64))∧Below w.heap.size w w':=by
 have hln:l.length=n:=h.1;have hcap:=h.2.2.1;have hncap:=h.2.1;unfold maxLen at hcap;have H:=Hd h;have HR:=Hd hr;have HLN:=Hd hln;obtain⟨i0,hi0,hz0,hz1,hz2⟩:=info_parts infoI;have HI:=Hd (show Tryz.prog.info? 3=some i0∧i0.zero=some (.int .i64 0)∧i0.size=1∧i0.bytes=8 from⟨hi0,hz0,hz1,hz2⟩);clear h hr hln hi0 hz0 hz1 hz2;go_enter Tryz.func131,Tryz.ntmps131;go_wp2_with fail
 go_loopw [3,4,5,6] (fun s3 s4 _ _ wr=>∃(i:Nat),i≤n∧s4=.int .i64 i∧wr.ownsRow w.heap.size 3 1 s3 i ((l.take i).map (Value.int .i64))∧Below w.heap.size w wr) (fun _ s _ _ _=>n-(intOf s).toNat)
 case atStart=>exact⟨0,Nat.zero_le _,rfl,own_nil w _ 1 _,Below.refl _ _⟩
 case round=>
  obtain⟨i,hi,rfl,hown,hbw⟩:=hrel;have iw2:IntKind.i64.wrap ((i:Int)+1)=(i:Int)+1:=by simp[IntKind.wrap,IntKind.signed,IntKind.bits];omega
  by_cases hlt:i<n
  ·obtain⟨b,off,rfl,hbl,hc⟩:=(H.out).2.2.2.2.resolve_left (by omega)
   obtain⟨x,hx⟩:∃x,l[i]? = some x:=⟨l[i]'(by have:=HLN.out;omega),by simp⟩
   have k0:=hc i hlt;rw[hx] at k0;have k0:w.cell? ⟨b,off+i,none⟩=some (.int .i64 x):=k0;obtain⟨av,cv,rfl,hic,hcm,_⟩:=own_slice hown;unfold maxLen at hcm;obtain⟨a',c',e',hrow⟩:=Row.of_own hown;cases e';have gx:∀W,Below wr.heap.size wr W→W.cell? ⟨b,off+i,none⟩=some (.int .i64 x):=fun W hW=>(hW.cell (p:=⟨b,off+i,none⟩) (Nat.lt_of_lt_of_le hbl hbw.size)).trans ((hbw.cell (p:=⟨b,off+i,none⟩) hbl).trans k0)
   have q1:decide ((i:Int)<(n:Int))=true:=decide_eq_true (by omega);have q2:decide (i<n)=true:=decide_eq_true hlt;have HOWN:=Hd hown;have HBW:=Hd hbw;have HROW:=Hd hrow;have HX:=Hd hx;have HK0:=Hd k0;clear hown hbw hrow hx k0 hc;go_wp2_with fail
   go_loopw [5] (fun s5 wx=>∃j:Nat,j≤i∧s5=.int .i64 j∧∃q,wx=wr.drewN q) (fun s _=>i-(intOf s).toNat)
   case atStart=>exact⟨0,Nat.zero_le _,rfl,0,rfl⟩
   case round=>
    obtain⟨j,hj,rfl,q,rfl⟩:=hrel;have hbx:Below wr.heap.size wr (wr.drewN q):=below_drewN (Below.refl _ _) q;have iw3:IntKind.i64.wrap ((j:Int)+1)=(j:Int)+1:=by simp[IntKind.wrap,IntKind.signed,IntKind.bits];omega
    by_cases hji:j<i
    ·obtain⟨b2,off2,rfl,hb2,hc2⟩:=HROW.out.2.2.2.2.resolve_left (by omega)
     obtain⟨y,hy⟩:∃y,l[j]? = some y:=⟨l[j]'(by have:=HLN.out;omega),by simp⟩
     have m0:=hc2 j hji;rw[List.getElem?_take_of_lt hji,hy] at m0;have m0:wr.cell? ⟨b2,off2+j,none⟩=some (.int .i64 y):=m0;have hyx:=HR.out j i y x hji hy HX.out;have g0:wr.cell? ⟨b,off+i,none⟩=some (.int .i64 x):=gx _ (Below.refl _ _);have q3:decide ((j:Int)<(i:Int))=true:=decide_eq_true (by omega);have q4:decide (j<i)=true:=decide_eq_true hji;have q5:decide (y≤x)=true:=decide_eq_true (by omega);have HBX:=Hd hbx;clear hbx hy hc2;go_wp2_with fail
     go_quiet (fail)
     go_wp2
     go_roundw
     case rel=>exact⟨j+1,by omega,by go_num,q+nq,rfl⟩
     case measure=>simp[intOf];omega
    ·have hij:j=i:=by omega
     subst hij;have q3:decide ((j:Int)<(j:Int))=false:=decide_eq_false (by omega);have q4:decide (j<j)=false:=decide_eq_false (by omega);clear hbx;go_wp2_with fail
     go_quiet (fail)
     have hbW:Below wr.heap.size wr ((wr.drewN q).drewN nq):=below_drewN (below_drewN (Below.refl _ _) q) nq;generalize (wr.drewN q).drewN nq=W at *;have hszW:=hbW.size;have hbwW:=HBW.out.trans (hbW.mono HBW.out.size);obtain⟨hi0,hz0,hz1,hz2⟩:=HI.out;obtain⟨v1,W1,hr1,ho1,hg1,hv1⟩:=run_append_row (P:=Tryz.prog) (w:=W) w.heap.size 35 3 i0 _ 8 Tryz.underlying35 hi0 hz0 hz1 hz2 rfl (own_nil W _ 1 _) (HROW.out.below (Nat.le_refl _) hbW) (by unfold maxLen;omega) (by omega) hbwW.size;simp only[List.nil_append,Nat.zero_add] at ho1;have hb1:Below w.heap.size w W1:=(hbwW).grown hg1 hbwW.size (fun k hk=>by cases hk);obtain⟨a1,c1,rfl,_⟩:=own_slice ho1;obtain⟨v2,W2,hr2,ho2,hg2,hv2⟩:=run_append_new (P:=Tryz.prog) (w:=W1) w.heap.size 35 3 i0 _ 1 8 Tryz.underlying35 hi0 hz0 hz1 hz2 rfl (by decide) ho1 #[.int .i64 x] rfl (by intro u hu;simp at hu;subst hu;rfl) (by unfold maxLen;omega) (by omega) hb1.size;have hb2:Below w.heap.size w W2:=hb1.grown hg2 hb1.size (own_ge ho1);obtain⟨a2,c2,rfl,_⟩:=own_slice ho2;obtain⟨a3,ha3,hsl⟩:=slice_from elem_intsC size_intsC av j cv j (Nat.le_refl _);simp only[Nat.sub_self] at hsl;have hr0:Row .i64 W2 a3 0 (cv-j) []:=⟨rfl,by omega,by unfold maxLen;omega,by
      have:=(Row.drop j (Nat.le_refl _) HROW.out).2.2.2.1;rw[ha3];simpa using this,.inl rfl⟩
     obtain⟨v3,W3,hr3,ho3,hg3,hv3⟩:=run_append_row (P:=Tryz.prog) (w:=W2) w.heap.size 35 3 i0 _ 8 Tryz.underlying35 hi0 hz0 hz1 hz2 rfl ho2 hr0 (by unfold maxLen;omega) (by omega) hb2.size;have hb3:Below w.heap.size w W3:=hb2.grown hg3 hb2.size (own_ge ho2);have g1:W1.cell? ⟨b,off+j,none⟩=some (.int .i64 x):=(hb1.cell (p:=⟨b,off+j,none⟩) hbl).trans HK0.out;have hfin:W3.ownsRow w.heap.size 3 1 v3 (j+1) ((l.take (j+1)).map (Value.int .i64)):=by
      have e:(l.take (j+1)).map (Value.int .i64)=(l.take j).map (Value.int .i64)++[Value.int .i64 x]:=by rw[List.take_succ_eq_append_of HX.out];simp
      rw[e];simpa using ho3
     have HFIN:=Hd hfin;have HB3:=Hd hb3;obtain⟨a4,c4,rfl,_⟩:=own_slice ho3;clear hbW hbwW ho1 hg1 hv1 hb1 ho2 hg2 hv2 hb2 ho3 hg3 hv3 hb3 hfin hi0 hz0 hz1 hz2 ha3 hr0;go_upto_region 10 with(at_builtin;refine wpList_append_run rfl _ _ _ _ rfl rfl rfl hr1 ?_)
     go_upto_region 11 with(at_builtin;refine wpList_append_run rfl _ _ _ _ rfl rfl rfl hr2 ?_)
     go_wp2_with (at_builtin;refine wpList_append_run rfl _ _ _ _ rfl rfl rfl hr3 ?_)
     exact⟨⟨j+1,hlt,by go_num,HFIN.out,HB3.out⟩,by simp[intOf];omega⟩
  ·have hin:i=n:=by omega
   subst hin;have q1:decide ((i:Int)<(i:Int))=false:=decide_eq_false (by omega);have q2:decide (i<i)=false:=decide_eq_false hlt;rw[List.take_of_length_le (by have:=HLN.out;omega)] at hown;have HOWN:=Hd hown;have HBW:=Hd hbw;clear hown hbw;go_wp2_with fail;go_ret;exact⟨_,rfl,HOWN.out,HBW.out⟩
open Go.RowKit
theorem Rises.nil:Rises []:=fun i j x y _ hi=>by simp at hi
theorem rpages_any {n:Nat} {F:Nat→Prop} {w:World} {cs:List Value} {t:Tr} (h:RNodeOn F n w cs t) (hB:Bare t) (hb:Bnd n t) :
 Calls Tryz.prog 130 #[.agg cs.toArray] w fun e w'=>∃a c,e=.returned (.slice a 0 c)∧Row .i64 w' a 0 c []∧Below w.heap.size w w':=by
 have m851152:=trivial;exact q58f2a0
theorem rmay_any {n:Nat} {F:Nat→Prop} {w:World} {cs:List Value} {t:Tr} (h:RNodeOn F n w cs t) (hB:Bare t) (hb:Bnd n t) (hn:n≤1000) (hc:checkT n t=true) {a:Option Addr} {m cap:Nat} {at_:List Int} (hat:Row .i64 w a m cap at_) (hr:Rises at_) (hm:m≤10000) (hp:∀p∈at_,2≤p∧p≤999) (hf:freshN n t≤m) :
 Calls Tryz.prog 90 #[.agg cs.toArray,.slice a m cap] w fun e w'=>e=.returned (.bool true)∧Below w.heap.size w w':=by
 have m6d5491:=trivial;exact q58f2a0
open Go.RowKit
def wcl (x:Wr):List Value:=[.int .i64 x.1,.string (strOf x.2)]
structure LyIn (F:Nat→Prop) (w:World) (sb:Nat) (vL:Value) (ws:List Wr) (la:Option Addr) (lc:Nat) (left:List Int):Prop where
 box:Boxes w [(sb,[vL,.slice la left.length lc])]
 own:w.ownsRow (sb+1) 41 2 vL ws.length (ws.flatMap wcl)
 row:Row .i64 w la left.length lc left
 lf:∀x,la=some x→F x.block
 fb:∀b,F b→b<sb
section
variable {F:Nat→Prop} {w w':World} {sb:Nat} {vL:Value} {ws:List Wr} {la:Option Addr} {lc:Nat} {left:List Int}
theorem LyIn.lt_ (h:LyIn F w sb vL ws la lc left) (x:Addr) (hx:la=some x):x.block<sb:=h.fb _ (h.lf x hx)
theorem LyIn.lt (h:LyIn F w sb vL ws la lc left):sb<w.heap.size:=h.box.lt 0 rfl
theorem LyIn.ge (h:LyIn F w sb vL ws la lc left) {k:Nat} (hk:vL.ownBlock=some k):sb+1≤k∧k<w.heap.size:=World.ownsRow.lt h.own k hk
theorem LyIn.below (h:LyIn F w sb vL ws la lc left) (hb:Below w.heap.size w w'):LyIn F w' sb vL ws la lc left:=
 ⟨h.box.step hb,own_held h.own hb,h.row.below (Nat.le_refl _) hb,h.lf,h.fb⟩
theorem LyIn.only {S:List Nat} (h:LyIn F w sb vL ws la lc left) (ho:Only S w w') (hS:∀k∈S,sb<k∧vL.ownBlock≠some k):LyIn F w' sb vL ws la lc left:=by
 refine⟨h.box.only ho (by intro q hq hk;simp at hq;subst hq;have:=(hS _ hk).1;simp at this),own_only h.own ho (fun k hk hk2=>(hS k hk2).2 hk),?_,h.lf,h.fb⟩;obtain⟨h1,h2,h3,h4,h5⟩:=h.row;have hs:=ho.size;refine⟨h1,h2,h3,h4,h5.imp id ?_⟩;rintro⟨b,off,e,hb,hc⟩;have hlt:=h.lt_ _ e;exact⟨b,off,e,by omega,fun i hi=>(show w'.cell? ⟨b,off+i,none⟩=w.cell? ⟨b,off+i,none⟩ from World.cell?_of_block (ho.block (k:=b) hb (fun hk=>by have:=(hS _ hk).1;have h9:b<sb:=hlt;omega))).trans (hc i hi)⟩
end
theorem lsome_any {F:Nat→Prop} {w:World} {sb:Nat} {vL:Value} {ws:List Wr} {la:Option Addr} {lc:Nat} {left:List Int} (h:LyIn F w sb vL ws la lc left) (n:Nat) (hn:n≤left.length) :
 Calls Tryz.prog 134 #[.pointer (some ⟨sb,0,none⟩),.int .i64 n] w fun e w'=>e=.returned (.slice la n lc)∧∃la',LyIn F w' sb vL ws la' (lc-n) (left.drop n)∧Only [sb] w w':=by
 obtain⟨a2,ha2,hsl⟩:=slice_from elem_intsC size_intsC la left.length lc n hn;have hlc:=h.row.2.1;have hlm:=h.row.2.2.1;unfold maxLen at hlm;have b1:=h.box.cell 0 1 rfl rfl;have f1:=h.box.frozen 0 1 rfl;have hd:=Row.drop n hn h.row;rw[←ha2] at hd;have hlen:(left.drop n).length=left.length-n:=by simp
 have q1:decide ((0:Int)≤(n:Int))=true:=decide_eq_true (by omega);have q2:decide ((n:Int)≤(lc:Int))=true:=decide_eq_true (by omega);have HE:Hid (∃la',LyIn F (w.setCell ⟨sb,1,none⟩ (.slice a2 (left.length-n) (lc-n))) sb vL ws la' (lc-n) (left.drop n)∧Only [sb] w (w.setCell ⟨sb,1,none⟩ (.slice a2 (left.length-n) (lc-n)))):=Hd (by
  have ho:Only [sb] w (w.setCell ⟨sb,1,none⟩ (.slice a2 (left.length-n) (lc-n))):=(Only.refl _ _).set _ _ (by simp);have hlt3:∀x,a2=some x→F x.block:=fun x ex=>by
   rw[ha2] at ex
   split at ex
   ·exact h.lf x ex
   ·obtain⟨y,hy,e⟩:=Option.map_eq_some_iff.1 ex
    rw[←e];have h9:=h.lf y hy;have e9:(y.add (n*1)).block=y.block:=by unfold Addr.add;split<;>rfl
    rw[e9];exact h9
  have hlt2:∀x,a2=some x→x.block<sb:=fun x ex=>h.fb _ (hlt3 x ex)
  refine⟨a2,⟨?_,own_set h.own ⟨sb,1,none⟩ _ (fun e=>by have:=(h.ge e).1;simp at this;omega),?_,hlt3,h.fb⟩,ho⟩
  ·rw[hlen]
   exact h.box.put 1 _ (by intro q hq;simp at hq)
  ·rw[hlen]
   exact row_at hd ho.size (fun x ex=>Below.heap_setCell _ _ _ x.block (fun e=>by have:=hlt2 x ex;have e:x.block=sb:=e;omega)))
 clear h hd hlen ha2;go_enter Tryz.func134,Tryz.ntmps134;go_wp2_with fail;go_ret;exact⟨rfl,HE.out⟩
theorem infoW:(Tryz.prog.info? 41).map (fun i=>(i.zero,i.size,i.bytes))=some (some (.agg #[.int .i64 0,.string ⟨#[]⟩]),2,24):=by kernel_rfl
theorem lwrite_any {F:Nat→Prop} {w:World} {sb:Nat} {vL:Value} {ws:List Wr} {la:Option Addr} {lc:Nat} {left:List Int} (h:LyIn F w sb vL ws la lc left) (hl:ws.length≤100000) (p:Int) (b:List UInt8) :
 Calls Tryz.prog 136 #[.pointer (some ⟨sb,0,none⟩),.int .i64 p,.string (strOf b)] w fun e w'=>e=.returned (.tuple #[])∧∃vL',LyIn F w' sb vL' (ws++[(p,b)]) la lc left∧Only (RS sb vL) w w'∧Turn w vL vL':=by
 obtain⟨i0,hi0,hz0,hz1,hz2⟩:=info_parts infoW;obtain⟨v',w1,hr1,ho1,hg1,hv1⟩:=run_append_new (P:=Tryz.prog) (w:=w) (sb+1) 28 41 i0 _ 2 24 Tryz.underlying28 hi0 hz0 hz1 hz2 rfl (by decide) h.own #[.int .i64 p,.string (strOf b)] rfl (by intro u hu;simp at hu;rcases hu with rfl|rfl<;>rfl) (by unfold maxLen;omega) (by omega) (by have:=h.lt;omega);obtain⟨av,cv,rfl,_⟩:=own_slice h.own;obtain⟨a1,c1,rfl,_⟩:=own_slice ho1;have b0:=h.box.cell 0 0 rfl rfl;have hlt:=h.lt;have hgb:∀k,(Value.slice av ws.length cv).ownBlock=some k→sb+1≤k∧k<w.heap.size:=fun k hk=>h.ge hk
 have hx1:Boxes w1 [(sb,[.slice av ws.length cv,.slice la left.length lc])]:=h.box.grown hg1 (by intro q hq e;simp at hq;subst hq;have h8:sb+1≤sb:=(hgb _ e).1;omega);have k0:=hx1.cell 0 0 rfl rfl;have u0:=hx1.frozen 0 0 rfl;have hn':(Value.slice a1 (ws.length+1) c1).ownBlock≠some sb:=fun e=>by have:=own_ge ho1 _ e;omega
 have HE:Hid (∃vL',LyIn F (w1.setCell ⟨sb,0,none⟩ (.slice a1 (ws.length+1) c1)) sb vL' (ws++[(p,b)]) la lc left∧Only (RS sb (.slice av ws.length cv)) w (w1.setCell ⟨sb,0,none⟩ (.slice a1 (ws.length+1) c1))∧Turn w (.slice av ws.length cv) vL'):=Hd (by
  have hoB:Only (RS sb (.slice av ws.length cv)) w w1:=Only.of_grown hg1 (fun k hk=>.inl (RS.mem.2 (.inr hk)));have hoE:=hoB.set ⟨sb,0,none⟩ (.slice a1 (ws.length+1) c1) (RS.mem.2 (.inl rfl));refine⟨.slice a1 (ws.length+1) c1,⟨hx1.put 0 _ (by intro q hq;simp at hq),?_,?_,h.lf,h.fb⟩,hoE,?_⟩
  ·rw[List.length_append,List.flatMap_append]
   exact own_set ho1 ⟨sb,0,none⟩ _ hn'
  ·obtain⟨h1,h2,h3,h4,h5⟩:=h.row
   have hs:=hoE.size;refine⟨h1,h2,h3,h4,h5.imp id ?_⟩;rintro⟨b,off,e,hb,hc⟩;have hlt2:=h.lt_ _ e;exact⟨b,off,e,by omega,fun i hi=>(World.cell?_of_block (hoE.block (k:=b) hb (fun hk=>by
    have h9:b<sb:=hlt2
    rcases RS.mem.1 hk with e2|e2
    ·omega
    ·have:=(hgb _ e2).1;omega))).trans (hc i hi)⟩
  ·rcases hv1 with h|h
   ·exact .inl h
   ·exact .inr fun g e=>by rw[h] at e;have:=Option.some.inj e;omega)
 clear h hx1 hn' ho1 hg1 hv1 hgb hi0 hz0 hz1 hz2;go_enter Tryz.func136,Tryz.ntmps136
 go_wp2_with (at_builtin;refine wpList_append_run rfl _ _ _ _ rfl rfl rfl hr1 ?_)
 go_end0
 exact⟨rfl,HE.out⟩
open Go.RowKit
def RPutPostC (w:World) (v:List UInt8) (at_:List Int) (e:Ending) (w':World):Prop:=
 ∃u,e=.returned (.tuple #[u,.int .i64 (putEC v at_)])∧w'.ownsRow w.heap.size 9 1 u (putLC v at_).length ((putLC v at_).map sv)∧Below w.heap.size w w'
theorem rputPostC_bad {w w':World} {v:List UInt8} {at_:List Int} (h:putOkC v at_=false) (hb:Below w.heap.size w w'):RPutPostC w v at_ (.returned (.tuple #[.slice none 0 0,.int .i64 1])) w':=by
 refine⟨.slice none 0 0,by rw[putEC,h];rfl,?_,hb⟩;rw[putLC,h];exact World.ownsRow_nil _ _ _ _
theorem strsC_single (W:World) (s:List UInt8) (t:TypeId):Strs (W.alloc (.cells #[.string (strOf s)] t)) (some ⟨W.heap.size,0,none⟩) 1 1 [s]:=by
 refine⟨rfl,Nat.le_refl _,by unfold maxLen;omega,(fun h=>by cases h),.inr ⟨W.heap.size,0,rfl,by simp,fun i y hy=>?_⟩⟩;have hi:=(List.getElem?_eq_some_iff.1 hy).1;simp at hi;subst hi;simp at hy;subst hy;refine⟨[.string (strOf s)],rfl,rfl,fun j v hj=>?_⟩
 match j,hj with
 | 0,hj=>
  cases hj;have:=World.alloc_heap_new W (.cells #[.string (strOf s)] t);simp only[World.cell?,Nat.zero_add,Nat.zero_mul,this]
  rfl
 | j+1,hj=>simp at hj
def wordUC (n:Int):List UInt8:=numF (n % 18446744073709551616) 2
theorem wordUC_eq {n:Int} (h:0≤n∧n<65536):wordUC n=wordC n:=by
 unfold wordUC numF wordC;rw[if_neg (by omega),show n % 18446744073709551616=n by omega]
 rfl
theorem wordUC_length (n:Int):(wordUC n).length=2:=by
 unfold wordUC numF;rw[if_neg (by omega)];exact beBytes_length _ _
def rpageC (v:List UInt8) (at_:List Int) (i:Nat):List UInt8:=pageOf 3 [wordUC (nextC at_ i)++partC v i]
theorem rpageC_eq {v:List UInt8} {at_:List Int} (h:aptC at_=true) (i:Nat):rpageC v at_ i=pageC v at_ i:=by
 unfold rpageC pageC cellC;rw[wordUC_eq (nextC_lt h i)]
def aptCAt (at_:List Int) (i:Nat):Bool:=pgC (atC at_ i) && !(at_.take i).contains (atC at_ i)
theorem info_strC:(Tryz.prog.info? 9).map (fun i=>(i.zero,i.size,i.bytes))=some (some (.string ⟨#[]⟩),1,16):=by kernel_rfl
theorem crput_any {w:World} {a:Option Addr} {n cap:Nat} {at_:List Int} (h:Row .i64 w a n cap at_) (v:List UInt8) (hv:v.length≤100000) (hn9:n≤1000) :
 Calls Tryz.prog 168 #[.string (strOf v),.slice a n cap] w (RPutPostC w v at_):=by
 obtain⟨k0,hk,hx0,hx1,hx2⟩:=info_parts info_strC;have C:Calls Tryz.prog 89 #[.int .i64 (v.length:Int)] w fun e w'=>e=.returned (.int .i64 (needC (v.length:Int):Int))∧w=w':=crneed_any _ w
 obtain⟨e1,hc1,hcm1⟩:=h.lensC;have hsz:=strOf_size v;have hn4:=needC_le v.length;have hpos:=needC_pos (n:=(v.length:Int));have H1:=Hd h;have E1:=Hd e1;have HD:Hid (putOkC v at_=(decide (needC v.length≠0) && (decide (n=needC v.length) && aptC at_))):=Hd (by rw[putOkC,e1]);have hfit:needC (v.length:Int)≠0→119*(needC (v.length:Int)-1)<v.length∧v.length≤119*needC (v.length:Int):=fun h=>needC_fit h
 clear h e1;generalize needC (v.length:Int)=q at *
 by_cases h0:q=0
 ·have HB:Hid (putOkC v at_=false):=Hd (by rw[HD.out,h0];simp)
  have d0:((q:Int) == 0)=true:=by rw[beq_iff_eq];omega
  have d1:(q == 0)=true:=by simpa using h0
  exact qf7016b
 have d0:((q:Int) == 0)=false:=by rw[beq_eq_false_iff_ne];omega
 have d1:(q == 0)=false:=by simpa using h0
 by_cases hnq:¬n=q
 ·have HB:Hid (putOkC v at_=false):=Hd (by rw[HD.out];simp[hnq])
  have d2:((n:Int) != q)=true:=by rw[bne_iff_ne];omega
  have d3:((n:Int) == q)=false:=by rw[beq_eq_false_iff_ne];omega
  exact qf7016b
 obtain rfl:=Decidable.not_not.1 hnq;clear hnq;have hf:=hfit h0;have hp:=hpos h0;have d2:((n:Int) != n)=false:=by simp
 have d3:((n:Int) == n)=true:=by simp
 have HD2:Hid (putOkC v at_=aptC at_):=Hd (by rw[HD.out];simp[h0]);clear HD hfit hpos;go_enter Tryz.func168,Tryz.ntmps168;go_wp2_with fail;refine C.mono ?_;rintro e w' ⟨rfl,rfl⟩;clear C;go_wp2_with fail
 go_loopw [7,8] (fun s7 s wr=>∃(i:Nat),i≤n∧s=.int .i64 i∧wr.ownsRow w.heap.size 9 1 s7 i (((List.range i).map (rpageC v at_)).map sv)∧Below w.heap.size w wr∧∀j,j<i→aptCAt at_ j=true) (fun _ s _=>n-(intOf s).toNat)
 case atStart=>exact⟨0,Nat.zero_le _,rfl,World.ownsRow_nil _ _ _ _,Below.refl _ _,fun j hj=>by omega⟩
 case round=>
  obtain⟨i,hi',rfl,hout,hb,hall⟩:=hrel
  by_cases hlt:i<n
  ·obtain⟨b1,o1,hadr,hbl,hcell⟩:=H1.out.cellC hlt
   subst hadr;have c1:wr.cell? ⟨b1,o1+i,none⟩=_:=(hb.cell (p:=⟨b1,o1+i,none⟩) hbl).trans (hcell i hlt);have HAD:=Hd (show aptCAt at_ i=(pgC (atC at_ i) && !(at_.take i).contains (atC at_ i)) from rfl);have HF:Hid (aptCAt at_ i=false→aptC at_=false):=Hd (fun e=>by
    rw[aptC,List.all_eq_false];exact⟨i,by rw[List.mem_range,E1.out];exact hlt,by unfold aptCAt at e;rw[e];simp⟩)
   have HT:Hid (aptCAt at_ i=true→∀j,j<i+1→aptCAt at_ j=true):=Hd (fun e j hj=>by
    by_cases hji:j=i
    ·subst hji;exact e
    ·exact hall j (by omega))
   have HB:=Hd hb;have HO:=Hd hout;have HBAD:Hid (∀W,Below w.heap.size w W→aptCAt at_ i=false→RPutPostC w v at_ (.returned (.tuple #[.slice none 0 0,.int .i64 1])) W):=Hd (fun W hW h=>rputPostC_bad (by rw[HD2.out,HF.out h]) hW);have hrow1:=(H1.out.below (Nat.le_refl _) hb).take i (Nat.le_of_lt hlt);obtain⟨x,hx⟩:∃x,atC at_ i=x:=⟨_,rfl⟩
   rw[hx] at c1 HAD;obtain⟨t1,ht1⟩:∃t,decide (x∈at_.take i)=t:=⟨_,rfl⟩
   have hH1:∀k,Calls Tryz.prog 186 #[.slice (some ⟨b1,o1,none⟩) i cap,.int .i64 x] (wr.drewN k) fun e w'=>e=.returned (.bool t1)∧wr.drewN k=w':=fun k=>by
    have:=chas_any (hrow1.drewN k) x
    rwa [ht1] at this
   have HAE:Hid (aptCAt at_ i=(pgC x && !t1)):=Hd (by
    rw[HAD.out,←ht1]
    congr 2
    rw[Bool.eq_iff_iff];simp)
   have hsl:∀W,(Instr.slice 35 (.slice (some ⟨b1,o1,none⟩) n cap) none (some (.int .i64 (i:Int))) none).run Tryz.prog W=.ok (.slice (some ⟨b1,o1,none⟩) i cap) W:=fun W=>by
    rw[run_slice_h W 35 _ n cap elem_intsC .i64 (i:Int) (by omega) (by omega),size_intsC];simp[sliced];intro _;exact add_none b1 o1 0
   have HCELL:=Hd hcell;clear hout hb hall ht1 hx HAD HF hcell
   by_cases h2:x<2
   ·have d2:decide (x<2)=true:=by simpa using h2
    exact qca3992
   have d4:decide (x<2)=false:=by simpa using h2
   by_cases h9:999<x
   ·have d9:decide (999<x)=true:=by simpa using h9
    exact qca3992
   have d9:decide (999<x)=false:=by simpa using h9
   have HPG:Hid (pgC x=true):=Hd (by simp[pgC];omega);cases t1
   ·have HE:Hid (aptCAt at_ i=true):=Hd (by rw[HAE.out,HPG.out];rfl)
    clear HAE;go_wp2_with fail
    go_quiet (first|(go_at_call 186;(with_reducible exact quiet_same (hH1 _))))
    have hpl:=partC_length (v:=v) (i:=i);obtain⟨f,hf2⟩:∃f,119*i=f:=⟨_,rfl⟩
    obtain⟨m,hm⟩:∃m,min 119 (v.length-f)=m:=⟨_,rfl⟩
    have hmi:min ((v.length:Int)-119*(i:Int)) 119=(m:Int):=by omega
    have P:∀W,Calls Tryz.prog 185 #[.int .i64 (v.length:Int),.int .i64 (i:Int)] W fun e w'=>e=.returned (.int .i64 (m:Int))∧W=w':=fun W=>by
     have:=cpart_any v.length i (by omega) (by omega) W
     rwa [hmi] at this
    have hfi:119*(i:Int)=(f:Int):=by omega
    have hfm:f+m≤v.length:=by omega
    have hex:(strOf v).extract f (f+m)=strOf (partC v i):=by
     rw[strOf_extract,partC,hf2,show f+m-f=m by omega]
     congr 1
     by_cases h9:m=119
     ·rw[h9]
     ·rw[List.take_of_length_le (by simp;omega),List.take_of_length_le (by simp;omega)]
    have hml:(partC v i).length=m:=by rw[hpl,hf2];exact hm
    have HRS:=Hd (show(List.range (i+1)).map (rpageC v at_)=(List.range i).map (rpageC v at_)++[rpageC v at_ i] by simp[List.range_succ]);have HPGE:=Hd (show rpageC v at_ i=pageOf 3 [wordUC (nextC at_ i)++partC v i] from rfl);have hfit3:fits 3 [wordUC (nextC at_ i)++partC v i]=true:=by
     have:=partC_le v i;simp[fits,lens_one,wordUC_length];omega
    have HFI:=Hd hfit3;have hm9:m≤119:=by omega
    clear hf2 hm hmi hpl hfit3
    by_cases hnx:i+1<n
    ·have d5:decide ((i:Int)+1<n)=true:=by simp;omega
     have HNX0:=Hd (show nextC at_ i=atC at_ (i+1) by rw[nextC,if_pos (by rw[E1.out];exact hnx)]);have c2:wr.cell? ⟨b1,o1+(i+1),none⟩=_:=(HB.out.cell (p:=⟨b1,o1+(i+1),none⟩) hbl).trans (HCELL.out (i+1) hnx);obtain⟨nx,hnxe⟩:∃nx,atC at_ (i+1)=nx:=⟨_,rfl⟩
     rw[hnxe] at c2;have HNX:=Hd (HNX0.out.trans hnxe);clear hnxe HNX0;go_wp2_with fail;refine(refNum_any (nx % 18446744073709551616) 2 (wr.drewN nq) (by omega)).mono ?_;rintro e w3 ⟨rfl,hb3⟩;have HB3:Hid (Below w.heap.size w w3):=Hd (below_then (below_drewN HB.out nq) hb3);have HO3:Hid (w3.ownsRow w.heap.size 9 1 u7 i (((List.range i).map (rpageC v at_)).map sv)):=Hd (own_below (show(wr.drewN nq).ownsRow w.heap.size 9 1 u7 i (((List.range i).map (rpageC v at_)).map sv) from HO.out) (Nat.le_refl _) hb3);rw[show numF (nx % 18446744073709551616) 2=wordUC nx from rfl];clear hb3;have hap:=strOf_append (wordUC nx) (partC v i);have hbn:(strOf (wordUC nx)).size+(strOf (partC v i)).size≤9223372036854775807:=by rw[strOf_size,strOf_size,wordUC_length,hml];omega
     have hcl:(wordUC nx++partC v i).length=2+m:=by rw[List.length_append,wordUC_length,hml]
     rw[HNX.out] at HFI HPGE;generalize wordUC nx=U at *;exact q779872
    ·have d5:decide ((i:Int)+1<n)=false:=by simp;omega
     have HNX:=Hd (show nextC at_ i=0 by rw[nextC,if_neg (by rw[E1.out];exact hnx)]);go_wp2_with fail;refine(refNum_any (0) 2 (wr.drewN nq) (by omega)).mono ?_;rintro e w3 ⟨rfl,hb3⟩;have HB3:Hid (Below w.heap.size w w3):=Hd (below_then (below_drewN HB.out nq) hb3);have HO3:Hid (w3.ownsRow w.heap.size 9 1 u7 i (((List.range i).map (rpageC v at_)).map sv)):=Hd (own_below (show(wr.drewN nq).ownsRow w.heap.size 9 1 u7 i (((List.range i).map (rpageC v at_)).map sv) from HO.out) (Nat.le_refl _) hb3);rw[show numF (0) 2=wordUC 0 from rfl];clear hb3;have hap:=strOf_append (wordUC 0) (partC v i);have hbn:(strOf (wordUC 0)).size+(strOf (partC v i)).size≤9223372036854775807:=by rw[strOf_size,strOf_size,wordUC_length,hml];omega
     have hcl:(wordUC 0++partC v i).length=2+m:=by rw[List.length_append,wordUC_length,hml]
     rw[HNX.out] at HFI HPGE;generalize wordUC 0=U at *;exact q779872
   ·have HE:Hid (aptCAt at_ i=false):=Hd (by rw[HAE.out,HPG.out];rfl)
    clear HAE;go_wp2_with fail
    go_quiet (first|(go_at_call 186;(with_reducible exact quiet_same (hH1 _))))
    go_wp2_with fail
    go_ret2
    exact HBAD.out _ (below_drewN HB.out nq) HE.out
  ·obtain rfl:i=n:=by omega
   have HA:Hid (putOkC v at_=true):=Hd (by
    rw[HD2.out,aptC,List.all_eq_true];intro j hj;rw[List.mem_range,E1.out] at hj;exact hall j hj)
   have HE:Hid (RPutPostC w v at_ (.returned (.tuple #[u7,.int .i64 0])) wr):=Hd ⟨_,by rw[putEC,HA.out];rfl,by
    have hap:aptC at_=true:=by rw[←HD2.out];exact HA.out
    rw[putLC,HA.out,if_pos rfl,E1.out,List.length_map,List.length_range,←List.map_congr_left (fun j _=>rpageC_eq hap j)];exact hout,hb⟩
   clear hout hall;go_wp2_with fail
   go_ret2
   exact HE.out
open Go.RowKit
def wvL (d:List UInt8) (left:List Int):List Wr:=if needC d.length=0 then [] else (left.take (needC d.length)).zip (putLC d (left.take (needC d.length)))
def pvL (d:List UInt8) (left:List Int):List Int:=if needC d.length=0 then [] else left.take (needC d.length)
def LValPost (F:Nat→Prop) (w:World) (sb:Nat) (vL:Value) (ws:List Wr) (left:List Int) (d:List UInt8) (e:Ending) (w':World):Prop:=
 ∃(pa:Option Addr) (pn pc:Nat) (vL':Value) (la':Option Addr) (lc':Nat),e=.returned (.agg #[.string (strOf d),.slice pa pn pc])∧LyIn F w' sb vL' (ws++wvL d left) la' lc' (left.drop (needC d.length))∧Only (RS sb vL) w w'∧Turn w vL vL'∧Row .i64 w' pa pn pc (pvL d left)∧Fa F pa pn
theorem lvalue_any {F:Nat→Prop} {w:World} {sb:Nat} {vL:Value} {ws:List Wr} {la:Option Addr} {lc:Nat} {left:List Int} (h:LyIn F w sb vL ws la lc left) (hl:ws.length≤50000) (d:List UInt8) (hd:d.length≤100000) (pa:Option Addr) (pc:Nat) (hpa:Row .i64 w pa 0 pc []) (hn:needC d.length≤left.length) :
 Calls Tryz.prog 132 #[.pointer (some ⟨sb,0,none⟩),.agg #[.string (strOf d),.slice pa 0 pc]] w (LValPost F w sb vL ws left d):=by
 obtain⟨w1,hw1⟩:∃w1,(w.alloc (.cells #[.string (strOf d),.slice pa 0 pc] 142)).alloc (.cells #[.string ⟨#[]⟩,.slice none 0 0] 142)=w1:=⟨_,rfl⟩
 have hx1:Boxes w1 [(w.heap.size+1,[.string ⟨#[]⟩,.slice none 0 0]),(w.heap.size,[.string (strOf d),.slice pa 0 pc])]:=by
  rw[←hw1];exact((Boxes.nil w).alloc #[.string (strOf d),.slice pa 0 pc] 142 (b:=w.heap.size) rfl).alloc #[.string ⟨#[]⟩,.slice none 0 0] 142 (b:=w.heap.size+1) (by simp)
 have hb1:Below w.heap.size w w1:=by rw[←hw1];exact Below.al (Below.al (Below.refl _ _))
 have HS1:=Hd (show w1.heap.size=w.heap.size+2 by rw[←hw1];simp);have hd1:=h.below hb1;have hsb:=h.lt;have hz:=zero_refV;have v0:=hx1.cell 1 0 rfl rfl;have v1:=hx1.cell 1 1 rfl rfl;have hsz:=strOf_size d;obtain⟨N,hN⟩:∃x,needC d.length=x:=⟨_,rfl⟩
 have C:=fun W=>crneed_any (d.length:Int) W
 rw[hN] at C hn
 by_cases hN0:N=0
 ·subst hN0
  have hx2:=(hx1.put 0 (.string (strOf d)) (by intro q hq;simp at hq;subst hq;simp)).put 1 (.slice pa 0 pc) (by intro q hq;simp at hq;subst hq;simp);have z0:=hx2.cell 0 0 rfl rfl;have z1:=hx2.cell 0 1 rfl rfl;have k0:=hx1.cell 0 0 rfl rfl;have k1:=hx1.cell 0 1 rfl rfl;have f0:=hx1.frozen 0 0 rfl;have f1:=hx1.frozen 0 1 rfl;have HE:Hid (LValPost F w sb vL ws left d (.returned (.agg #[.string (strOf d),.slice pa 0 pc])) ((w1.setCell ⟨w.heap.size+1,0,none⟩ (.string (strOf d))).setCell ⟨w.heap.size+1,1,none⟩ (.slice pa 0 pc))):=Hd (by
   have hb2:Below w.heap.size w ((w1.setCell ⟨w.heap.size+1,0,none⟩ (.string (strOf d))).setCell ⟨w.heap.size+1,1,none⟩ (.slice pa 0 pc)):=(hb1.setCell (by show w.heap.size≤w.heap.size+1;omega) _).setCell (by show w.heap.size≤w.heap.size+1;omega) _;refine⟨pa,0,pc,vL,la,lc,rfl,?_,Only.of_below hb2,Turn.refl _ _,?_,.inl rfl⟩
   ·unfold wvL
    rw[if_pos hN,hN,List.append_nil,List.drop_zero];exact h.below hb2
   ·unfold pvL
    rw[if_pos hN];exact hpa.below (Nat.le_refl _) hb2)
  clear hd1 hx1 hx2 h hb1 hN hpa;go_enter Tryz.func132,Tryz.ntmps132;go_wp2_with fail;refine(C _).mono ?_;rintro e wx ⟨rfl,rfl⟩;go_wp2_with fail;refine bodyPost_ret (v:=.agg #[.string (strOf d),.slice pa 0 pc]) (by simp[results,Tryz.results132,go_sem,z0,z1]) rfl ?_;exact HE.out
 ·have q0:((N:Int) == 0)=false:=by simp;exact hN0
  have q0':(N == 0)=false:=by simp;exact hN0
  have hN4:N≤4:=by rw[←hN];exact needC_le _
  have S1:=lsome_any hd1 N hn;have HX1:=Hd hx1;have HB1:=Hd hb1;have HN:=Hd hN;have HVB:=Hd (show ∀k,vL.ownBlock=some k→sb+1≤k∧k<w.heap.size from fun k hk=>h.ge hk);have HFB:=Hd (show ∀b,F b→b<sb from h.fb);have HLA:=Hd (show Row .i64 w la left.length lc left∧∀x,la=some x→F x.block from⟨h.row,h.lf⟩);clear hd1 hx1 hb1 h hN hpa;go_enter Tryz.func132,Tryz.ntmps132;go_wp2_with fail;refine(C _).mono ?_;rintro e wx ⟨rfl,rfl⟩;go_wp2_with fail;refine S1.mono ?_;rintro e w2 ⟨rfl,la2,hy2,ho2⟩;have hs1:=HS1.out;have hs2:=ho2.size;have hrow1:Row .i64 w1 la N lc (left.take N):=(HLA.out.1.take N hn).below (Nat.le_refl _) HB1.out;have hrow2:Row .i64 w2 la N lc (left.take N):=row_only hrow1 ho2 (fun x ex=>by have:=HFB.out _ (HLA.out.2 x ex);omega);have P:=crput_any hrow2 d hd (by omega);have hx2:=HX1.out.only ho2 (by intro q hq;simp at hq;rcases hq with rfl|rfl<;>simp<;>omega);have v2:=hx2.cell 1 0 rfl rfl;obtain⟨B,hB⟩:∃x,putLC d (left.take N)=x:=⟨_,rfl⟩
  have hBl:B.length≤N:=by
   rw[←hB];unfold putLC
   split
   ·simp
    omega
   ·simp
  unfold RPutPostC at P;rw[hB] at P;have HBP:=Hd hB;have HY2:=Hd hy2;have HX2:=Hd hx2;have HROW2:=Hd hrow2;have HO2:=Hd ho2;clear hB hy2 hx2 hrow1 hrow2 ho2 S1;go_wp2_with fail;refine P.mono ?_;rintro e w3 ⟨u,rfl,hou,hb3⟩;obtain⟨ua,uc,rfl,huc,hum,_⟩:=own_slice hou;unfold maxLen at hum;have hs3:=hb3.size;have HOU:=Hd hou;have hgu:=own_ge hou;have HGU:=Hd hgu;have HX3:=Hd (HX2.out.step hb3);have HROW3:=Hd (HROW2.out.below (Nat.le_refl _) hb3);have HS:=Hd (show LyIn F w3 sb vL (ws++((left.take N).zip B).take 0) la2 (lc-N) (left.drop N) by rw[List.take_zero,List.append_nil];exact HY2.out.below hb3);have HB3:=Hd hb3;have hlcm:lc≤9223372036854775807:=by have:=HROW2.out.2.2.1;unfold maxLen at this;omega
  have hNlc:N≤lc:=HROW2.out.2.1;clear P hou hb3 hgu;go_wp2_with fail
  go_loopw [9] (fun s9 wr=>∃(i:Nat) (vi:Value),i≤B.length∧s9=.int .i64 i∧LyIn F wr sb vi (ws++((left.take N).zip B).take i) la2 (lc-N) (left.drop N)∧Only (RS sb vL) w3 wr∧Turn w3 vL vi) (fun s _=>B.length-(intOf s).toNat)
  case atStart=>exact⟨0,vL,Nat.zero_le _,rfl,HS.out,Only.refl _ _,Turn.refl _ _⟩
  case round=>
   clear HS;obtain⟨i,vi,hi,rfl,hy,ho,ht⟩:=hrel;have iw2:IntKind.i64.wrap ((i:Int)+1)=(i:Int)+1:=by simp[IntKind.wrap,IntKind.signed,IntKind.bits];omega
   have hsr:=ho.size
   by_cases hlt:i<B.length
   ·obtain⟨b,off,rfl,hbl,hc⟩:=HROW3.out.2.2.2.2.resolve_left (by omega)
    have hbF:b<sb:=HFB.out _ (HLA.out.2 _ rfl);obtain⟨x,hx⟩:∃x,(left.take N)[i]? = some x:=⟨_,List.getElem?_eq_getElem (by have:=HROW3.out.1;omega)⟩
    have k0:=hc i (by omega);rw[hx] at k0;have k0:w3.cell? ⟨b,off+i,none⟩=some (.int .i64 x):=k0;obtain⟨y,hyy⟩:∃y,B[i]? = some y:=⟨B[i],by simp⟩
    obtain⟨au,cu,e9,_,_,_,hcc⟩:=own_cells1 HOU.out;cases e9;obtain⟨g,rfl,hg,kb⟩:=hcc i (sv y) (by simp[hyy]);have hg2:w2.heap.size≤g:=HGU.out g rfl;have hnr:∀k,(k<sb∨w2.heap.size≤k)→k∉RS sb vL:=fun k hk hm=>by
     rcases RS.mem.1 hm with e|e
     ·omega
     ·have:=HVB.out k e;omega
    have m0:wr.cell? ⟨b,off+i,none⟩=some (.int .i64 x):=(World.cell?_of_block (ho.block (k:=b) hbl (hnr b (.inl hbF)))).trans k0;have m1:wr.cell? ⟨g,i,none⟩=some (.string (strOf y)):=(World.cell?_of_block (ho.block (k:=g) hg (hnr g (.inr hg2)))).trans kb;have htk:((left.take N).zip B).take (i+1)=((left.take N).zip B).take i++[(x,y)]:=List.take_succ_eq_append_of ((List.getElem?_zip_eq_some (z:=(x,y))).2 ⟨hx,hyy⟩);have hzl:(((left.take N).zip B).take i).length≤4:=by simp;omega
    have hb0:Below wr.heap.size wr wr.drew:=below_drewN (Below.refl _ _) 1;have C9:=lwrite_any (hy.below hb0) (by rw[List.length_append];omega) x y;have hnv:∀k,(k<sb∨(w2.heap.size≤k∧k<w3.heap.size))→k∉RS sb vi:=fun k hk hm=>by
     rcases RS.mem.1 hm with e|e
     ·omega
     ·have h7:=(hy.ge e).1
      rcases ht with t|t
      ·have:=HVB.out k (t ▸ e);omega
      ·have:=t k e;omega
    have cA:∀W:World,(W.cell? ⟨b,off+i,none⟩=some (.int .i64 x)∧W.cell? ⟨g,i,none⟩=some (.string (strOf y)))→W.cell? ⟨b,off+i,none⟩=some (.int .i64 x):=fun W h=>h.1
    have cB:∀W:World,(W.cell? ⟨b,off+i,none⟩=some (.int .i64 x)∧W.cell? ⟨g,i,none⟩=some (.string (strOf y)))→W.cell? ⟨g,i,none⟩=some (.string (strOf y)):=fun W h=>h.2
    have h00:wr.drew.cell? ⟨b,off+i,none⟩=some (.int .i64 x)∧wr.drew.cell? ⟨g,i,none⟩=some (.string (strOf y)):=⟨m0,m1⟩
    have hiN:i<N:=by omega
    have q1:decide ((i:Int)<(B.length:Int))=true:=decide_eq_true (by omega);have q2:decide (i<B.length)=true:=decide_eq_true hlt;have q3:decide ((i:Int)<(N:Int))=true:=decide_eq_true (by omega);have q4:decide (i<N)=true:=decide_eq_true hiN;have HO:=Hd ho;have HT:=Hd ht;have HTK:=Hd htk;have HNV:=Hd hnv;have HBL:=Hd (show b<wr.heap.size∧g<wr.heap.size from⟨by omega,by omega⟩);have HGW:=Hd (show w2.heap.size≤g∧g<w3.heap.size from⟨hg2,hg⟩);clear hy ho ht hc hx hyy kb hcc hnr htk hzl hnv hb0 m0 m1 k0;go_wp2_with fail
    go_region_held3 (fun W:World=>W.cell? ⟨b,off+i,none⟩=some (.int .i64 x)∧W.cell? ⟨g,i,none⟩=some (.string (strOf y))) (with_reducible assumption) (first|(go_at_call 136;refine C9.mono ?_;rintro e wx ⟨rfl,v4,hy4,ho4,ht4⟩;have hSx:wx.cell? ⟨b,off+i,none⟩=some (.int .i64 x)∧wx.cell? ⟨g,i,none⟩=some (.string (strOf y)):=⟨(World.cell?_of_block (ho4.block (k:=b) (by have:=HBL.out;simpa using this.1) (HNV.out b (.inl hbF)))).trans h00.1,(World.cell?_of_block (ho4.block (k:=g) (by have:=HBL.out;simpa using this.2) (HNV.out g (.inr HGW.out)))).trans h00.2⟩))
    have HY4:=Hd (show LyIn F wx sb v4 (ws++((left.take N).zip B).take (i+1)) la2 (lc-N) (left.drop N) by rw[HTK.out,←List.append_assoc];exact hy4);have HO4:=Hd (show Only (RS sb vL) w3 wx from only_next HO.out HT.out ho4);have HT4:=Hd (show Turn w3 vL v4 from HT.out.trans ht4 HO.out.size);clear C9 cA cB h00 hy4 ho4 ht4 hSx;go_wp2_with fail;go_roundw
    case rel=>exact⟨i+1,v4,hlt,by go_num,HY4.out,HO4.out,HT4.out⟩
    case measure=>simp[intOf];omega
   ·have hin:i=B.length:=by omega
    subst hin;have q1:decide ((B.length:Int)<(B.length:Int))=false:=decide_eq_false (by omega);have q2:decide (B.length<B.length)=false:=decide_eq_false hlt;have hbk:∀q∈[(w.heap.size+1,[Value.string ⟨#[]⟩,Value.slice none 0 0]),(w.heap.size,[.string (strOf d),.slice pa 0 pc])],q.1∉RS sb vL:=by
     intro q hq hm;have hq2:w.heap.size≤q.1:=by simp at hq;rcases hq with rfl|rfl<;>simp
     rcases RS.mem.1 hm with e|e
     ·omega
     ·have:=HVB.out _ e;omega
    have hx4:=HX3.out.only ho hbk;have f0:=hx4.frozen 0 0 rfl;have f1:=hx4.frozen 0 1 rfl;have k0:=hx4.cell 0 0 rfl rfl;have k1:=hx4.cell 0 1 rfl rfl;have v4:=hx4.cell 1 0 rfl rfl;have hx5:=(hx4.put 0 (.string (strOf d)) (by intro q hq;simp at hq;subst hq;simp)).put 1 (.slice la N lc) (by intro q hq;simp at hq;subst hq;simp);have z0:=hx5.cell 0 0 rfl rfl;have z1:=hx5.cell 0 1 rfl rfl;have HE:Hid (LValPost F w sb vL ws left d (.returned (.agg #[.string (strOf d),.slice la N lc])) ((wr.setCell ⟨w.heap.size+1,0,none⟩ (.string (strOf d))).setCell ⟨w.heap.size+1,1,none⟩ (.slice la N lc))):=Hd (by
     obtain⟨we,hwe⟩:∃x,x=((wr.setCell ⟨w.heap.size+1,0,none⟩ (.string (strOf d))).setCell ⟨w.heap.size+1,1,none⟩ (.slice la N lc)):=⟨_,rfl⟩
     rw[←hwe];have ho5:Only [w.heap.size+1] wr we:=by rw[hwe];exact((Only.refl _ _).set _ _ (by simp)).set _ _ (by simp)
     have hvi:∀k,vi.ownBlock=some k→k<w.heap.size∨w3.heap.size≤k:=fun k hk=>by
      rcases ht with t|t
      ·exact .inl (HVB.out k (t ▸ hk)).2
      ·exact .inr (t k hk)
     have hyE:=hy.only ho5 (fun k hk=>by
      have hk:k=w.heap.size+1:=by simpa using hk
      subst hk;exact⟨by omega,fun e=>by rcases hvi _ e with e|e<;>omega⟩)
     have hoA:Only (RS sb vL) w wr:=(((Only.of_below HB1.out).trans (HO2.out.mono (fun k hk=>by simp at hk;exact RS.mem.2 (.inl hk)))).trans (Only.of_below HB3.out)).trans ho;have hNN:=HN.out;have hyE2:LyIn F we sb vi (ws++wvL d left) la2 (lc-N) (left.drop (needC d.length)):=by
      unfold wvL;rw[hNN,if_neg hN0,HBP.out];rw[List.take_of_length_le (by simp;omega)] at hyE;exact hyE
     refine⟨la,N,lc,vi,la2,lc-N,rfl,hyE2,hoA.then ho5 (fun k hk=>.inr (by simp at hk;omega)),ht.from (by omega),?_,.inr fun b off e=>HLA.out.2 _ e⟩;unfold pvL;rw[hNN,if_neg hN0];have hr4:Row .i64 wr la N lc (left.take N):=by
      obtain⟨h1,h2,h3,h4,h5⟩:=HROW3.out;refine⟨h1,h2,h3,h4,h5.imp id ?_⟩;rintro⟨b,off,e,hb,hc⟩;have hbF:b<sb:=HFB.out _ (HLA.out.2 _ e);exact⟨b,off,e,by omega,fun i hi=>(World.cell?_of_block (ho.block (k:=b) hb (fun hm=>by rcases RS.mem.1 hm with e|e;omega;have:=HVB.out b e;omega))).trans (hc i hi)⟩
     exact row_at hr4 ho5.size (fun x ex=>by
      have hbF:x.block<sb:=HFB.out _ (HLA.out.2 _ ex);rw[hwe];exact(Below.heap_setCell _ _ _ x.block (fun e=>by have:x.block=w.heap.size+1:=e;omega)).trans (Below.heap_setCell _ _ _ x.block (fun e=>by have:x.block=w.heap.size+1:=e;omega))))
    clear hx4 hx5 hy ho ht hbk;go_wp2_with fail;refine bodyPost_ret (v:=.agg #[.string (strOf d),.slice la N lc]) (by simp[results,Tryz.results132,go_sem,z0,z1]) rfl ?_;exact HE.out
open Go.RowKit
theorem rcell_near (w:World) (key d:List UInt8) (pa:Option Addr) (pc:Nat) (ka:Option Addr) (kn kc:Nat) :
 Calls Tryz.prog 133 #[.bool true,.agg #[.string (strOf key),.string (strOf d),.slice pa 0 pc,.slice ka kn kc]] w fun e w'=>e=.returned (.agg #[.string (strOf key),.string (strOf d),.bool false,.int .i64 0,.int .i64 0])∧Below w.heap.size w w':=by
 obtain⟨w2,hw2⟩:∃x,(w.alloc (.cells #[.string (strOf key),.string (strOf d),.slice pa 0 pc,.slice ka kn kc] 145)).alloc (.cells #[.string ⟨#[]⟩,.string ⟨#[]⟩,.bool false,.int .i64 0,.int .i64 0] 226)=x:=⟨_,rfl⟩
 have hb2:Below w.heap.size w w2:=by rw[←hw2];exact Below.al (Below.al (Below.refl _ _))
 have hx2:Boxes w2 [(w.heap.size+1,#[.string ⟨#[]⟩,.string ⟨#[]⟩,.bool false,.int .i64 0,.int .i64 0].toList),(w.heap.size,#[.string (strOf key),.string (strOf d),.slice pa 0 pc,.slice ka kn kc].toList)]:=by
  rw[←hw2];exact((Boxes.nil w).alloc #[.string (strOf key),.string (strOf d),.slice pa 0 pc,.slice ka kn kc] 145 (b:=w.heap.size) rfl).alloc #[.string ⟨#[]⟩,.string ⟨#[]⟩,.bool false,.int .i64 0,.int .i64 0] 226 (b:=w.heap.size+1) (by simp)
 have ma3ab6a:=trivial;exact q7660cc
theorem rcell_far (w:World) (key d:List UInt8) (pa:Option Addr) (pn pc:Nat) (pages:List Int) (ph:Int) (hph:pages.headD 0=ph) (hp:Row .i64 w pa pn pc pages) (h0:0<pn) (ka:Option Addr) (kn kc:Nat) :
 Calls Tryz.prog 133 #[.bool true,.agg #[.string (strOf key),.string (strOf d),.slice pa pn pc,.slice ka kn kc]] w fun e w'=>e=.returned (.agg #[.string (strOf key),.string (strOf []),.bool true,.int .i64 (d.length:Int),.int .i64 ph])∧Below w.heap.size w w':=by
 obtain⟨w2,hw2⟩:∃x,(w.alloc (.cells #[.string (strOf key),.string (strOf d),.slice pa pn pc,.slice ka kn kc] 145)).alloc (.cells #[.string ⟨#[]⟩,.string ⟨#[]⟩,.bool false,.int .i64 0,.int .i64 0] 226)=x:=⟨_,rfl⟩
 have hb2:Below w.heap.size w w2:=by rw[←hw2];exact Below.al (Below.al (Below.refl _ _))
 have hx2:Boxes w2 [(w.heap.size+1,#[.string ⟨#[]⟩,.string ⟨#[]⟩,.bool false,.int .i64 0,.int .i64 0].toList),(w.heap.size,#[.string (strOf key),.string (strOf d),.slice pa pn pc,.slice ka kn kc].toList)]:=by
  rw[←hw2];exact((Boxes.nil w).alloc #[.string (strOf key),.string (strOf d),.slice pa pn pc,.slice ka kn kc] 145 (b:=w.heap.size) rfl).alloc #[.string ⟨#[]⟩,.string ⟨#[]⟩,.bool false,.int .i64 0,.int .i64 0] 226 (b:=w.heap.size+1) (by simp)
 have mc62d7c:=trivial;exact q7660cc
theorem rcell_kid (w:World) (key d:List UInt8) (pa:Option Addr) (pn pc:Nat) (kb ko:Nat) (page:Int) (hk:kb<w.heap.size∧w.cell? ⟨kb,ko,none⟩=some (.int .i64 page)) (kn kc:Nat) (h0:0<kn) :
 Calls Tryz.prog 133 #[.bool false,.agg #[.string (strOf key),.string (strOf d),.slice pa pn pc,.slice (some ⟨kb,ko,none⟩) kn kc]] w fun e w'=>e=.returned (.agg #[.string (strOf key),.string (strOf []),.bool false,.int .i64 0,.int .i64 page])∧Below w.heap.size w w':=by
 obtain⟨w2,hw2⟩:∃x,(w.alloc (.cells #[.string (strOf key),.string (strOf d),.slice pa pn pc,.slice (some ⟨kb,ko,none⟩) kn kc] 145)).alloc (.cells #[.string ⟨#[]⟩,.string ⟨#[]⟩,.bool false,.int .i64 0,.int .i64 0] 226)=x:=⟨_,rfl⟩
 have hb2:Below w.heap.size w w2:=by rw[←hw2];exact Below.al (Below.al (Below.refl _ _))
 have hx2:Boxes w2 [(w.heap.size+1,#[.string ⟨#[]⟩,.string ⟨#[]⟩,.bool false,.int .i64 0,.int .i64 0].toList),(w.heap.size,#[.string (strOf key),.string (strOf d),.slice pa pn pc,.slice (some ⟨kb,ko,none⟩) kn kc].toList)]:=by
  rw[←hw2];exact((Boxes.nil w).alloc #[.string (strOf key),.string (strOf d),.slice pa pn pc,.slice (some ⟨kb,ko,none⟩) kn kc] 145 (b:=w.heap.size) rfl).alloc #[.string ⟨#[]⟩,.string ⟨#[]⟩,.bool false,.int .i64 0,.int .i64 0] 226 (b:=w.heap.size+1) (by simp)
 have m74bf1b:=trivial;exact q7660cc
open Go.RowKit
theorem rnput_any (leaf:Bool) (a:Option Addr) (len cap:Nat) (l:List En) (w:World) (h:NEnts w a len cap l) (hlen:len≤65536) (hd:SmE l) :
 Calls Tryz.prog 135 #[.agg #[.bool leaf,.slice a len cap]] w (StrPost w (putN leaf l) (putNE leaf l)):=by
 have hB:=below_one w (.cells #[.bool leaf,.slice a len cap] 221);have BX:=(Boxes.nil w).alloc #[.bool leaf,.slice a len cap] 221 rfl;have h1:=h.below (Nat.le_refl _) hB;have CK:=rcheckN_any leaf a len cap l _ h1 hlen hd;cases hn:nodeB leaf l with
 | false=>
  rw[hn] at CK;have hp:putN leaf l=[]:=by rw[putN,hn];rfl
  have he:putNE leaf l=1:=by rw[putNE,hn];rfl
  rw[hp,he];clear hp he hn;go_enter Tryz.func135,Tryz.ntmps135;go_wp2_with fail;refine CK.mono ?_;rintro e w1 ⟨rfl,hb1⟩;have hb:=below_then hB hb1;go_wp2_with fail
  go_ret2
  exact⟨rfl,hb⟩
 | true=>
  rw[hn] at CK;obtain⟨q1,q2⟩:=pack_node hn;have hlens:=cellsN_lens leaf 1000000 l (fun e he=>(hd e he).2);have hll:=h.len;rw[hll] at hlens;have CE:∀W,Below w.heap.size w W→Calls Tryz.prog 170 #[.agg #[.bool leaf,.slice a len cap]] W (OwnStrs W (cellsN leaf l)):=fun W hW=>rcells_any leaf a len cap l W (h.below (Nat.le_refl _) hW) hlen hd
  have PK:∀W a2 n2 c2,Strs W a2 n2 c2 (cellsN leaf l)→Calls Tryz.prog 169 #[.int .u8 (kindN leaf).toNat,.slice a2 n2 c2] W (StrPost W (putN leaf l) (putNE leaf l)):=fun W a2 n2 c2 h2=>by
   have hk2:n2=len:=by have:=h2.1;rw[cellsN_length,hll] at this;exact this.symm
   subst hk2;have:=rpack_any (kindN leaf) a2 n2 c2 (cellsN leaf l) W h2 (by omega)
   rwa [q1,q2] at this
  clear q1 q2 hlens hn hd hll h1;generalize putN leaf l=pn at *;generalize putNE leaf l=pe at *;generalize cellsN leaf l=cl at *;cases leaf
  all_goals
   have PK:∀W a2 n2 c2,Strs W a2 n2 c2 cl→Calls Tryz.prog 169 #[.int .u8 _,.slice a2 n2 c2] W (StrPost W pn pe):=PK;simp only[kindN,if_true,Bool.false_eq_true,if_false] at PK;go_enter Tryz.func135,Tryz.ntmps135;go_wp2_with fail;refine CK.mono ?_;rintro e w1 ⟨rfl,hb1⟩;have hb:=below_then hB hb1;have BX:=BX.step hb1;have d0:=BX.cell 0 0 rfl rfl;have d1:=BX.cell 0 1 rfl rfl;clear CK hb1 hB;go_wp2_with fail;refine(CE _ hb).mono ?_;rintro e w3 ⟨v3,rfl,ho3,hb3⟩;obtain⟨a3,k3,rfl,hs3⟩:=Strs.of_own ho3;have hb:=below_then hb hb3;clear d0 d1;go_wp2_with fail;refine(PK _ _ _ _ hs3).mono ?_;rintro e w4 ⟨rfl,hb4⟩;have hb:=below_then hb hb4;go_wp2_with fail
   go_ret2
   exact⟨rfl,hb⟩
open Go.RowKit
def LG (F:Nat→Prop) (B:Nat) (vL vC vE:Value) (b:Nat):Prop:=F b∨(B≤b∧vL.ownBlock≠some b∧vC.ownBlock≠some b∧vE.ownBlock≠some b)
structure LM (F:Nat→Prop) (w wB:World) (sb:Nat) (vL0 vb:Value) (ob mb rb n:Nat) (lf:Bool) (vL:Value) (ws:List Wr) (la:Option Addr) (lc:Nat) (left:List Int) (vC:Value) (LL:List (Cl 4)) (ys:List Rc) (vE:Value) (es:List En) (wr:World):Prop where
 box:Boxes wr [(ob,[.int .i64 0,.bool lf,vC]),(mb,[.bool lf,vE]),(rb,[.int .i64 0,.bool false,.slice none 0 0])]
 ly:LyIn F wr sb vL ws la lc left
 rc:wr.ownsRow wB.heap.size 145 4 vC LL.length (flatC LL)
 re:wr.ownsRow wB.heap.size 226 5 vE es.length (es.flatMap ecells)
 dc:∀g,vC.ownBlock=some g→vL.ownBlock≠some g
 de:∀g,vE.ownBlock=some g→vL.ownBlock≠some g
 dce:∀g,vC.ownBlock=some g→vE.ownBlock≠some g
 tl:Tells (RcOn (LG F wB.heap.size vL vC vE) n wr) LL ys
 ol:Only (RS sb vL0) w wr
 tu:Turn w vL0 vL
 tb:Turn wB vb vL
 ag:AgreeF (fun b=>b≠sb∧b≠ob∧b≠mb∧vb.ownBlock≠some b) wB wr
 bv:∀g,vb.ownBlock=some g→g≠ob∧g≠mb∧g≠rb∧g<wB.heap.size
 so:sb<w.heap.size
 ro:w.heap.size≤rb
 oo:rb<ob
 om:ob<mb
 on:mb<wB.heap.size
section
variable {F:Nat→Prop} {w wB wr w':World} {sb:Nat} {vL0 vb:Value} {ob mb rb n:Nat} {lf:Bool} {vL:Value} {ws:List Wr} {la:Option Addr} {lc:Nat} {left:List Int} {vC:Value} {LL:List (Cl 4)} {ys:List Rc} {vE:Value} {es:List En}
theorem LM.lt (h:LM F w wB sb vL0 vb ob mb rb n lf vL ws la lc left vC LL ys vE es wr):ob<wr.heap.size∧wB.heap.size≤wr.heap.size:=⟨h.box.lt 0 rfl,h.ag.1⟩
theorem LM.lgc (h:LM F w wB sb vL0 vb ob mb rb n lf vL ws la lc left vC LL ys vE es wr) {g:Nat} (hg:vC.ownBlock=some g):wB.heap.size≤g∧g<wr.heap.size:=World.ownsRow.lt h.rc g hg
theorem LM.lge (h:LM F w wB sb vL0 vb ob mb rb n lf vL ws la lc left vC LL ys vE es wr) {g:Nat} (hg:vE.ownBlock=some g):wB.heap.size≤g∧g<wr.heap.size:=World.ownsRow.lt h.re g hg
theorem LM.vne (h:LM F w wB sb vL0 vb ob mb rb n lf vL ws la lc left vC LL ys vE es wr) {g:Nat} (hg:vL.ownBlock=some g):g≠ob∧g≠mb∧g≠rb∧g<wr.heap.size:=by
 have h2:=(h.ly.ge hg).2;have:=h.on;have:=h.oo;have:=h.om
 rcases h.tb with t|t
 ·have:=h.bv g (t ▸ hg);exact⟨this.1,this.2.1,this.2.2.1,h2⟩
 ·have:=t g hg;exact⟨by omega,by omega,by omega,h2⟩
theorem LM.turn {vL':Value} {ws':List Wr} {la':Option Addr} {lc':Nat} {left':List Int} (h:LM F w wB sb vL0 vb ob mb rb n lf vL ws la lc left vC LL ys vE es wr) (hd:LyIn F w' sb vL' ws' la' lc' left') (ho:Only (RS sb vL) wr w') (ht:Turn wr vL vL'):LM F w wB sb vL0 vb ob mb rb n lf vL' ws' la' lc' left' vC LL ys vE es w':=by
 have hlt:=h.lt;have hsb:=h.so;have hro:=h.ro;have hoo:=h.oo;have hom:=h.om;have hon:=h.on;have hne:∀g,wB.heap.size≤g→vL.ownBlock≠some g→g∉RS sb vL:=fun g hg h2 hm=>by
  rcases RS.mem.1 hm with e|e
  ·omega
  ·exact h2 e
 refine⟨h.box.only ho (by
  intro q hq hm
  rcases RS.mem.1 hm with e|e
  ·simp at hq;rcases hq with rfl|rfl|rfl<;>simp at e<;>omega
  ·have:=h.vne e;simp at hq;rcases hq with rfl|rfl|rfl<;>simp at this),hd,own_only h.rc ho (fun k hk=>hne k (h.lgc hk).1 (h.dc k hk)),own_only h.re ho (fun k hk=>hne k (h.lge hk).1 (h.de k hk)),fun g hg e=>?_,fun g hg e=>?_,h.dce,?_,only_next h.ol h.tu ho,h.tu.trans ht h.ol.size,h.tb.trans ht h.ag.1,⟨Nat.le_trans h.ag.1 ho.size,fun b hb hlt2=>?_⟩,h.bv,h.so,h.ro,h.oo,h.om,h.on⟩
 ·rcases ht with t|t
  ·exact h.dc g hg (t ▸ e)
  ·have:=t g e;have:=(h.lgc hg).2;omega
 ·rcases ht with t|t
  ·exact h.de g hg (t ▸ e)
  ·have:=t g e;have:=(h.lge hg).2;omega
 ·refine h.tl.mono (fun _ _ _ hc=>rcMove hc ⟨ho.size,fun b hb hlt2=>ho.block hlt2 (fun hm=>?_)⟩ (fun b hb hlt2=>?_))
  ·rcases hb with hb|hb
   ·have:=h.ly.fb b hb
    rcases RS.mem.1 hm with e|e
    ·omega
    ·have:=(h.ly.ge e).1;omega
   ·exact hne b hb.1 hb.2.1 hm
  ·refine hb.imp id fun hb=>⟨hb.1,fun e=>?_,hb.2.2⟩
   rcases ht with t|t
   ·exact hb.2.1 (t ▸ e)
   ·have:=t b e;omega
 ·refine(ho.block (by have:=h.ag.1;omega) (fun hm=>?_)).trans (h.ag.2 b hb hlt2)
  rcases RS.mem.1 hm with e|e
  ·exact hb.1 e
  ·rcases h.tb with t|t
   ·exact hb.2.2.2 (t ▸ e)
   ·have:=t b e;omega
theorem LM.below (h:LM F w wB sb vL0 vb ob mb rb n lf vL ws la lc left vC LL ys vE es wr) (hb:Below wr.heap.size wr w'):LM F w wB sb vL0 vb ob mb rb n lf vL ws la lc left vC LL ys vE es w':=
 h.turn (h.ly.below hb) (Only.of_below hb) (Turn.refl _ _)
theorem LM.pushC (h:LM F w wB sb vL0 vb ob mb rb n lf vL ws la lc left vC LL ys vE es wr) (hl:LL.length≤1000) {x0 x1 x2 x3:Value} {y:Rc} (hone:∀u∈[x0,x1,x2,x3],u.oneCell'=true) (hy:RcOn (LG F wB.heap.size vL vC vE) n wr [x0,x1,x2,x3] y) :
 ∃a' c' w' LL',(Builtin.append_ #[25,25] 25 #[vC,.slice (some ⟨wr.heap.size,0,none⟩) 1 1]).run Tryz.prog (wr.alloc (.cells #[x0,x1,x2,x3] 145))=.ok (.slice a' (LL.length+1) c') w' ∧
  w'.cell? ⟨ob,2,none⟩=some vC∧w'.frozen? ⟨ob,2,none⟩=false∧LL'.length=LL.length+1∧LM F w wB sb vL0 vb ob mb rb n lf vL ws la lc left (.slice a' (LL.length+1) c') LL' (ys++[y]) vE es (w'.setCell ⟨ob,2,none⟩ (.slice a' (LL.length+1) c'))∧Only (ob::vC.ownBlock.toList) wr (w'.setCell ⟨ob,2,none⟩ (.slice a' (LL.length+1) c')):=by
 have hlt:=h.lt;have hsb:=h.so;have hro:=h.ro;have hoo:=h.oo;have hom:=h.om;have hon:=h.on;obtain⟨i,z,i1,i2,i3,i4,i5⟩:=info_Cr;obtain⟨v',w',hr,ho,hg,hv⟩:=run_append_new (P:=Tryz.prog) wB.heap.size 25 145 i z 4 80 Tryz.underlying25 i1 i2 i3 i4 i5 (by decide) h.rc #[x0,x1,x2,x3] rfl (by simpa using hone) (by unfold maxLen;omega) (by omega) hlt.2;obtain⟨a',c',rfl,_⟩:=own_slice ho;have hbx:=h.box.grown hg (by intro q hq e;have:=(h.lgc e).1;simp at hq;rcases hq with rfl|rfl|rfl<;>simp at this<;>omega);have hvt:Turn wr vC (.slice a' (LL.length+1) c'):=by
  exact qc0a764
 have hge:=own_ge ho;have hag:AgreeF (fun b=>vC.ownBlock≠some b∧b≠ob) wr (w'.setCell ⟨ob,2,none⟩ (.slice a' (LL.length+1) c')):=AgreeF.set ⟨hg.size,fun b hb hlt=>hg.block b hlt (fun e=>hb.1 e.symm)⟩ (.inl fun h=>h.2 rfl);have hoS:Only (ob::vC.ownBlock.toList) wr (w'.setCell ⟨ob,2,none⟩ (.slice a' (LL.length+1) c')):=(Only.of_grown hg (fun k hk=>.inl (by rw[hk];simp))).set _ _ (by simp);have hmS:∀k∈ob::vC.ownBlock.toList,k=ob∨vC.ownBlock=some k:=fun k hk=>by
  cases hvl:vC.ownBlock with
  | none=>rw[hvl] at hk;simp at hk;exact .inl hk
  | some g=>rw[hvl] at hk;simp at hk;rcases hk with rfl|rfl;exact .inl rfl;exact .inr rfl
 obtain⟨cc,hcc⟩:∃cc:Cl 4,cc.1=[x0,x1,x2,x3]:=⟨⟨_,rfl,hone⟩,rfl⟩
 have hfl:flatC (LL++[cc])=flatC LL++[x0,x1,x2,x3]:=by rw[flatC_append,←hcc];exact congrArg (flatC LL++·) (List.append_nil _)
 have hG:∀b,LG F wB.heap.size vL vC vE b→b<wr.heap.size→LG F wB.heap.size vL (.slice a' (LL.length+1) c') vE b:=fun b hb hlt2=>hb.imp id fun hb=>⟨hb.1,hb.2.1,fun e=>by
  rcases hvt with t|t
  ·exact hb.2.2.1 (t ▸ e)
  ·have:=t b e;omega,hb.2.2.2⟩
 have hA:AgreeF (LG F wB.heap.size vL vC vE) wr (w'.setCell ⟨ob,2,none⟩ (.slice a' (LL.length+1) c')):=hag.sub (fun b hb=>by
  rcases hb with hb|hb
  ·have:=h.ly.fb b hb;exact⟨fun e=>by have:=(h.lgc e).1;omega,by omega⟩
  ·exact⟨hb.2.2.1,by have:=hb.1;omega⟩)
 refine⟨a',c',w',LL++[cc],hr,hbx.cell 0 2 rfl rfl,hbx.frozen 0 2 rfl,by simp,⟨hbx.put 2 _ (by intro q hq;simp at hq;rcases hq with rfl|rfl<;>simp<;>omega),h.ly.only hoS (fun k hk=>?_),?_,own_only h.re hoS (fun k hk hm=>?_),fun g hg2 e=>?_,h.de,fun g hg2 e=>?_,?_,h.ol.then hoS (fun k hk=>.inr ?_),h.tu,h.tb,⟨Nat.le_trans h.ag.1 hag.1,fun b hb hlt2=>(hag.2 b ⟨fun e=>by have:=(h.lgc e).1;omega,hb.2.1⟩ (by omega)).trans (h.ag.2 b hb hlt2)⟩,h.bv,h.so,h.ro,h.oo,h.om,h.on⟩,hoS⟩
 ·rcases hmS k hk with rfl|hk
  ·exact⟨by omega,fun e=>(h.vne e).1 rfl⟩
  ·exact⟨by have:=(h.lgc hk).1;omega,h.dc k hk⟩
 ·rw[hfl,List.length_append]
  exact own_set ho ⟨ob,2,none⟩ _ (fun e=>by have:=hge _ e;simp at this;omega)
 ·rcases hmS k hm with rfl|hm
  ·have:=(h.lge hk).1;omega
  ·exact h.dce k hm hk
 ·rcases hvt with t|t
  ·exact h.dc g (t ▸ hg2) e
  ·have:=t g hg2;have:=(h.vne e).2.2.2;omega
 ·rcases hvt with t|t
  ·exact h.dce g (t ▸ hg2) e
  ·have:=t g hg2;have:=(h.lge e).2;omega
 ·exact(h.tl.mono (fun _ _ _ hc=>rcMove hc hA hG)).append (Tells.one (by rw[hcc];exact rcMove hy hA hG))
 ·rcases hmS k hk with rfl|hk
  ·omega
  ·have:=(h.lgc hk).1;omega
end
open Go.RowKit
section
variable {F:Nat→Prop} {w wB wr w':World} {sb:Nat} {vL0 vb:Value} {ob mb rb n:Nat} {lf:Bool} {vL:Value} {ws:List Wr} {la:Option Addr} {lc:Nat} {left:List Int} {vC:Value} {LL:List (Cl 4)} {ys:List Rc} {vE:Value} {es:List En}
theorem LM.pushE (h:LM F w wB sb vL0 vb ob mb rb n lf vL ws la lc left vC LL ys vE es wr) (hl:es.length≤1000) (e1:En) :
 ∃a' c' w',(Builtin.append_ #[219,219] 219 #[vE,.slice (some ⟨wr.heap.size,0,none⟩) 1 1]).run Tryz.prog (wr.alloc (.cells (ecells e1).toArray 226))=.ok (.slice a' (es.length+1) c') w' ∧
  w'.cell? ⟨mb,1,none⟩=some vE∧w'.frozen? ⟨mb,1,none⟩=false∧AgreeF (fun x=>vE.ownBlock≠some x∧x≠mb) wr w'∧AgreeF (fun x=>vE.ownBlock≠some x∧x≠mb) wr (w'.setCell ⟨mb,1,none⟩ (.slice a' (es.length+1) c'))∧LM F w wB sb vL0 vb ob mb rb n lf vL ws la lc left vC LL ys (.slice a' (es.length+1) c') (es++[e1]) (w'.setCell ⟨mb,1,none⟩ (.slice a' (es.length+1) c')):=by
 have hlt:=h.lt;have hsb:=h.so;have hro:=h.ro;have hoo:=h.oo;have hom:=h.om;have hon:=h.on;obtain⟨i,i1,i2,i3,i4⟩:=info_parts info_re;obtain⟨v',w',hr,ho,hg,hv⟩:=run_append_new (P:=Tryz.prog) wB.heap.size 219 226 i _ 5 56 Tryz.underlying219 i1 i2 i3 i4 rfl (by decide) h.re (ecells e1).toArray rfl (by intro u hu;simp[ecells,vcells] at hu;rcases hu with rfl|rfl|rfl|rfl|rfl<;>rfl) (by unfold maxLen;omega) (by omega) hlt.2;obtain⟨a',c',rfl,_⟩:=own_slice ho;have hbx:=h.box.grown hg (by intro q hq e;have:=(h.lge e).1;simp at hq;rcases hq with rfl|rfl|rfl<;>simp at this<;>omega);have hvt:Turn wr vE (.slice a' (es.length+1) c'):=by
  exact qc0a764
 have hge:=own_ge ho;have hag:AgreeF (fun b=>vE.ownBlock≠some b∧b≠mb) wr (w'.setCell ⟨mb,1,none⟩ (.slice a' (es.length+1) c')):=AgreeF.set ⟨hg.size,fun b hb hlt=>hg.block b hlt (fun e=>hb.1 e.symm)⟩ (.inl fun h=>h.2 rfl);have hoS:Only (mb::vE.ownBlock.toList) wr (w'.setCell ⟨mb,1,none⟩ (.slice a' (es.length+1) c')):=(Only.of_grown hg (fun k hk=>.inl (by rw[hk];simp))).set _ _ (by simp);have hmS:∀k∈mb::vE.ownBlock.toList,k=mb∨vE.ownBlock=some k:=fun k hk=>by
  cases hvl:vE.ownBlock with
  | none=>rw[hvl] at hk;simp at hk;exact .inl hk
  | some g=>rw[hvl] at hk;simp at hk;rcases hk with rfl|rfl;exact .inl rfl;exact .inr rfl
 have hG:∀b,LG F wB.heap.size vL vC vE b→b<wr.heap.size→LG F wB.heap.size vL vC (.slice a' (es.length+1) c') b:=fun b hb hlt2=>hb.imp id fun hb=>⟨hb.1,hb.2.1,hb.2.2.1,fun e=>by
  rcases hvt with t|t
  ·exact hb.2.2.2 (t ▸ e)
  ·have:=t b e;omega⟩
 have hA:AgreeF (LG F wB.heap.size vL vC vE) wr (w'.setCell ⟨mb,1,none⟩ (.slice a' (es.length+1) c')):=hag.sub (fun b hb=>by
  rcases hb with hb|hb
  ·have:=h.ly.fb b hb;exact⟨fun e=>by have:=(h.lge e).1;omega,by omega⟩
  ·exact⟨hb.2.2.2,by have:=hb.1;omega⟩)
 have hbm:Boxes w' [(mb,[.bool lf,vE]),(ob,[.int .i64 0,.bool lf,vC]),(rb,[.int .i64 0,.bool false,.slice none 0 0])]:=hbx.sub (by intro q hq;simp at hq ⊢;rcases hq with rfl|rfl|rfl<;>simp);refine⟨a',c',w',hr,hbm.cell 0 1 rfl rfl,hbm.frozen 0 1 rfl,⟨hg.size,fun b hb hlt=>hg.block b hlt (fun e=>hb.1 e.symm)⟩,hag,⟨(hbm.put 1 (.slice a' (es.length+1) c') (by intro q hq;simp at hq;rcases hq with rfl|rfl<;>simp<;>omega)).sub (by intro q hq;simp at hq ⊢;rcases hq with rfl|rfl|rfl<;>simp),h.ly.only hoS (fun k hk=>?_),own_only h.rc hoS (fun k hk hm=>?_),?_,h.dc,fun g hg2 e=>?_,fun g hg2 e=>?_,?_,h.ol.then hoS (fun k hk=>.inr ?_),h.tu,h.tb,⟨Nat.le_trans h.ag.1 hag.1,fun b hb hlt2=>(hag.2 b ⟨fun e=>by have:=(h.lge e).1;omega,hb.2.2.1⟩ (by omega)).trans (h.ag.2 b hb hlt2)⟩,h.bv,h.so,h.ro,h.oo,h.om,h.on⟩⟩
 ·rcases hmS k hk with rfl|hk
  ·exact⟨by omega,fun e=>(h.vne e).2.1 rfl⟩
  ·exact⟨by have:=(h.lge hk).1;omega,h.de k hk⟩
 ·rcases hmS k hm with rfl|hm
  ·have:=(h.lgc hk).1;omega
  ·exact h.dce k hk hm
 ·rw[List.length_append,List.flatMap_append]
  have e9:es.flatMap ecells++List.flatMap ecells [e1]=es.flatMap ecells++(ecells e1).toArray.toList:=by simp
  rw[e9];exact own_set ho ⟨mb,1,none⟩ _ (fun e=>by have:=hge _ e;simp at this;omega)
 ·rcases hvt with t|t
  ·exact h.de g (t ▸ hg2) e
  ·have:=t g hg2;have:=(h.vne e).2.2.2;omega
 ·rcases hvt with t|t
  ·exact h.dce g hg2 (t ▸ e)
  ·have:=t g e;have:=(h.lgc hg2).2;omega
 ·exact h.tl.mono (fun _ _ _ hc=>rcMove hc hA hG)
 ·rcases hmS k hk with rfl|hk
  ·omega
  ·have:=(h.lge hk).1;omega
theorem LM.node {t:Tr} {G:Nat→Prop} (h:LM F w wB sb vL0 vb ob mb rb n lf vL ws la lc left vC LL (cellsR t) vE es wr) (ha:AgreeF (fun b=>F b∨(wB.heap.size≤b∧vL.ownBlock≠some b)) wr w') (hG:∀b,(F b∨(wB.heap.size≤b∧vL.ownBlock≠some b))→b<wr.heap.size→G b):RNodeOn G (n+1) w' [.int .i64 t.page,.bool t.isLeaf,vC] t:=by
 have ht:=h.tl;have hlen:LL.length=(cellsR t).length:=ht.1;obtain⟨a',c',rfl,hr⟩:=Raw.of_own h.rc rfl;have hT:=(hr.tab ht)
 have hfa:Fa (fun b=>(F b∨(wB.heap.size≤b∧vL.ownBlock≠some b))∧b<wr.heap.size) a' LL.length:=by
  rcases Nat.eq_zero_or_pos LL.length with h0|h0
  ·exact .inl h0
  ·refine .inr fun b off e=>?_
   subst e;exact⟨.inr ⟨(h.lgc rfl).1,h.dc b rfl⟩,(h.lgc rfl).2⟩
 have hT2:=TabR.agree (F:=fun b=>(F b∨(wB.heap.size≤b∧vL.ownBlock≠some b))∧b<wr.heap.size) hT hfa (ha.sub fun b hb=>hb.1) (R':=RcOn G n w') (fun cs y _ hc=>rcMove hc (ha.sub fun b hb=>hb.imp id fun hb=>⟨hb.1,hb.2.1⟩) (fun b hb hlt=>hG b (hb.imp id fun hb=>⟨hb.1,hb.2.1⟩) hlt));rw[hlen,cellsR_len] at hT2 hfa ⊢;exact RNodeOn.mk hT2 (hfa.mono fun b hb=>hG b hb.1 hb.2)
end
open Go.RowKit
def LayPost (F:Nat→Prop) (w:World) (sb:Nat) (vL:Value) (ws:List Wr) (n:Nat) (R:Tr×List Wr×List Int) (e:Ending) (w':World):Prop:=
 ∃(p:Int) (lf:Bool) (xa:Option Addr) (xn xc:Nat) (vL':Value) (la':Option Addr) (lc':Nat),e=.returned (.agg #[.int .i64 p,.bool lf,.slice xa xn xc])∧LyIn F w' sb vL' (ws++R.2.1) la' lc' R.2.2∧Only (RS sb vL) w w'∧Turn w vL vL'∧RNodeOn (fun b=>F b∨(w.heap.size≤b∧vL'.ownBlock≠some b)) n w' [.int .i64 p,.bool lf,.slice xa xn xc] R.1
theorem row_fa {k:IntKind} {F:Nat→Prop} {S:List Nat} {w w':World} {a:Option Addr} {n c:Nat} {l:List Int} (h:Row k w a n c l) (hf:Fa F a n) (ho:Only S w w') (hS:∀b,F b→b∉S):Row k w' a n c l:=by
 obtain⟨h1,h2,h3,h4,h5⟩:=h;refine⟨h1,h2,h3,h4,?_⟩
 rcases h5 with h5|⟨b,off,e,hb,hc⟩
 ·exact .inl h5
 ·rcases hf with hf|hf
  ·exact .inl hf
  ·have:=ho.size
   exact .inr ⟨b,off,e,by omega,fun i hi=>(show w'.cell? ⟨b,off+i,none⟩=w.cell? ⟨b,off+i,none⟩ from World.cell?_of_block (ho.block (k:=b) hb (hS b (hf b off e)))).trans (hc i hi)⟩
theorem rcell_val (w:World) (key d:List UInt8) (pa:Option Addr) (pn pc:Nat) (pages:List Int) (hp:Row .i64 w pa pn pc pages) (ka:Option Addr) (kn kc:Nat) :
 Calls Tryz.prog 133 #[.bool true,.agg #[.string (strOf key),.string (strOf d),.slice pa pn pc,.slice ka kn kc]] w fun e w'=>e=.returned (.agg (ecells (entV (key,⟨d,pages⟩))).toArray)∧Below w.heap.size w w':=by
 rcases Nat.eq_zero_or_pos pn with h0|h0
 ·subst h0
  have hpg:pages=[]:=List.eq_nil_of_length_eq_zero hp.1;subst hpg;exact rcell_near w key d pa pc ka kn kc
 ·have hpg:pages≠[]:=fun e=>by have h9:=hp.1;rw[e] at h9;simp at h9;omega
  have:=rcell_far w key d pa pn pc pages _ rfl hp h0 ka kn kc;unfold entV;rw[if_neg hpg];exact this
theorem layVs_step {c:List UInt8×Tv} {r:List (List UInt8×Tv)} {s:List Int} (hc:c.2.pages=[]) :
 layVs (c::r) s=((c.1,⟨c.2.data,pvL c.2.data s⟩)::(layVs r (s.drop (needC c.2.data.length))).1,wvL c.2.data s++(layVs r (s.drop (needC c.2.data.length))).2.1,(layVs r (s.drop (needC c.2.data.length))).2.2):=by
 obtain⟨k,d,pg⟩:=c;have hpg:pg=[]:=hc;subst hpg;rw[layVs];unfold pvL wvL
 split
 ·rename_i h
  rw[h,List.drop_zero]
  rfl
 ·rfl
theorem entV_small {c:List UInt8×Tv} (h1:c.1.length≤200) (h2:c.2.data.length≤1000):(entV c).key.length≤200∧(entV c).v.data.length≤1000:=by
 unfold entV
 split
 ·exact⟨h1,h2⟩
 ·exact⟨h1,by simp⟩
theorem layVs_mem:∀{l:List (List UInt8×Tv)} {s:List Int},∀c∈(layVs l s).1,∃c'∈l,c.1=c'.1∧c.2.data=c'.2.data
 | [],s,c,h=>by simp[layVs] at h
 | x::r,s,c,h=>by
  unfold layVs at h
  split at h
  ·rcases List.mem_cons.1 h with e|h
   ·subst e;exact⟨c,by simp,rfl,rfl⟩
   ·obtain⟨c',h1,h2⟩:=layVs_mem c h;exact⟨c',List.mem_cons_of_mem _ h1,h2⟩
  ·rcases List.mem_cons.1 h with e|h
   ·subst e;exact⟨x,by simp,rfl,rfl⟩
   ·obtain⟨c',h1,h2⟩:=layVs_mem c h;exact⟨c',List.mem_cons_of_mem _ h1,h2⟩
theorem layKs_step (f:Tr→List Int→Tr×List Wr×List Int) (c:List UInt8×Tr) (r:List (List UInt8×Tr)) (s:List Int):layKs f (c::r) s=((c.1,(f c.2 s).1)::(layKs f r (f c.2 s).2.2).1,(f c.2 s).2.1++(layKs f r (f c.2 s).2.2).2.1,(layKs f r (f c.2 s).2.2).2.2):=rfl
theorem layKs_mem {f:Tr→List Int→Tr×List Wr×List Int}:∀{l:List (List UInt8×Tr)} {s:List Int},∀c∈(layKs f l s).1,∃c'∈l,c.1=c'.1
 | [],s,c,h=>by simp[layKs] at h
 | x::r,s,c,h=>by
  unfold layKs at h
  rcases List.mem_cons.1 h with e|h
  ·subst e;exact⟨x,by simp,rfl⟩
  ·obtain⟨c',h1,h2⟩:=layKs_mem c h;exact⟨c',List.mem_cons_of_mem _ h1,h2⟩
theorem layVs_many:∀(l:List (List UInt8×Tv)) (s:List Int),(layVs l s).2.1.length≤(l.map fun c=>needC c.2.data.length).sum
 | [],s=>by simp[layVs]
 | c::r,s=>by
  unfold layVs;simp only[List.map_cons,List.sum_cons]
  split
  ·have:=layVs_many r s;simp only;omega
  ·have:=layVs_many r (s.drop (needC c.2.data.length))
   simp only[List.length_append,List.length_zip,List.length_take];omega
theorem layKs_many {f:Tr→List Int→Tr×List Wr×List Int} {g:Tr→Nat} (hf:∀t s,(f t s).2.1.length≤g t):∀(l:List (List UInt8×Tr)) (s:List Int),(layKs f l s).2.1.length≤(l.map fun c=>g c.2).sum
 | [],s=>by simp[layKs]
 | c::r,s=>by
  unfold layKs;simp only[List.map_cons,List.sum_cons,List.length_append];have:=hf c.2 s;have:=layKs_many hf r (f c.2 s).2.2;omega
theorem layT_many:∀(n:Nat) (t:Tr) (s:List Int),(layT n t s).2.1.length≤freshN n t
 | 0,t,s=>by simp[layT]
 | n+1,.leaf p l,s=>by
  unfold layT freshN
  split
  ·simp
  ·have:=layVs_many l s;simp only[List.length_append,List.length_singleton];omega
 | n+1,.node p l,s=>by
  unfold layT freshN;have:=layKs_many (fun t s=>layT_many n t s) l s;simp only[List.length_append,List.length_singleton];omega
open Go.RowKit
theorem lay_leaf {n:Nat} {F G:Nat→Prop} {w:World} {sb:Nat} {vL:Value} {ws:List Wr} {la:Option Addr} {lc:Nat} {left:List Int} {cs:List Value} {l:List (List UInt8×Tv)} (hy:LyIn F w sb vL ws la lc left) (h:RNodeOn G (n+1) w cs (.leaf 0 l)) (hG:∀b,G b→b<w.heap.size∧b≠sb∧vL.ownBlock≠some b) (hB:Bare (.leaf 0 l)) (hb:Bnd (n+1) (.leaf 0 l)) (hf:freshN (n+1) (.leaf 0 l)≤left.length) (hws:ws.length+freshN (n+1) (.leaf 0 l)≤40000) (hl0:l≠[]) :
 Calls Tryz.prog 91 #[.pointer (some ⟨sb,0,none⟩),.agg cs.toArray] w (LayPost F w sb vL ws (n+1) (layT (n+1) (.leaf 0 l) left)):=by
 obtain⟨_,hv⟩:=bare_vals hB;obtain⟨a,c,rfl,h1,hfa⟩:=h.at;have hbl:l.length≤1000:=hb.1;have hbk:=hb.2;have hcn:cntT (.leaf 0 l)=l.length:=rfl;rw[hcn] at h1 hfa;obtain⟨wB,hwB⟩:∃x,x=(((w.alloc (.cells #[.int .i64 0,.bool true,.slice a l.length c] 27)).alloc (.cells #[.int .i64 0,.bool false,.slice none 0 0] 27)).alloc (.cells #[.int .i64 0,.bool true,.slice none 0 0] 27)).alloc (.cells #[.bool true,.slice none 0 0] 221):=⟨_,rfl⟩
 have hbB:Below w.heap.size w wB:=by rw[hwB];exact Below.al (Below.al (Below.al (Below.al (Below.refl _ _))))
 have hsB:wB.heap.size=w.heap.size+4:=by rw[hwB];simp
 have hxB:Boxes wB [(w.heap.size+1+1+1,[.bool true,.slice none 0 0]),(w.heap.size+1+1,[.int .i64 0,.bool true,.slice none 0 0]),(w.heap.size+1,[.int .i64 0,.bool false,.slice none 0 0]),(w.heap.size,[.int .i64 0,.bool true,.slice a l.length c])]:=by
  rw[hwB];exact((((Boxes.nil w).alloc #[.int .i64 0,.bool true,.slice a l.length c] 27 (b:=w.heap.size) rfl).alloc #[.int .i64 0,.bool false,.slice none 0 0] 27 (b:=w.heap.size+1) (by simp)).alloc #[.int .i64 0,.bool true,.slice none 0 0] 27 (b:=w.heap.size+1+1) (by simp)).alloc #[.bool true,.slice none 0 0] 221 (b:=w.heap.size+1+1+1) (by simp)
 have hsb:=hy.lt;have hvg:∀g,vL.ownBlock=some g→sb+1≤g∧g<w.heap.size:=fun g hg=>hy.ge hg
 have hLM:LM F w wB sb vL vL (w.heap.size+1+1) (w.heap.size+1+1+1) (w.heap.size+1) n true vL ws la lc left (.slice none 0 0) [] [] (.slice none 0 0) [] wB:=
  ⟨hxB.sub (by intro q hq;simp at hq ⊢;rcases hq with rfl|rfl|rfl<;>simp),hy.below hbB,own_nil wB _ 4 _,own_nil wB _ 5 _,fun g hg=>(by cases hg),fun g hg=>(by cases hg),fun g hg=>(by cases hg),Tells.nil,Only.of_below hbB,Turn.refl _ _,Turn.refl _ _,AgreeF.refl _,fun g hg=>by have:=(hvg g hg).2;omega,hsb,by omega,by omega,by omega,by omega⟩
 have m5a1aa4:=trivial;exact q9f992a
theorem lay_node {n:Nat} {F G:Nat→Prop} {sb:Nat} (IH:∀{w:World} {vL:Value} {ws:List Wr} {la:Option Addr} {lc:Nat} {left:List Int} {cs:List Value} {t:Tr},LyIn F w sb vL ws la lc left→RNodeOn G n w cs t→(∀b,G b→b<w.heap.size∧b≠sb∧vL.ownBlock≠some b)→Bare t→Bnd n t→freshN n t≤left.length→ws.length+freshN n t≤40000→Calls Tryz.prog 91 #[.pointer (some ⟨sb,0,none⟩),.agg cs.toArray] w (LayPost F w sb vL ws n (layT n t left))) {w:World} {vL:Value} {ws:List Wr} {la:Option Addr} {lc:Nat} {left:List Int} {cs:List Value} {l:List (List UInt8×Tr)} (hy:LyIn F w sb vL ws la lc left) (h:RNodeOn G (n+1) w cs (.node 0 l)) (hG:∀b,G b→b<w.heap.size∧b≠sb∧vL.ownBlock≠some b) (hB:Bare (.node 0 l)) (hb:Bnd (n+1) (.node 0 l)) (hf:freshN (n+1) (.node 0 l)≤left.length) (hws:ws.length+freshN (n+1) (.node 0 l)≤40000) :
 Calls Tryz.prog 91 #[.pointer (some ⟨sb,0,none⟩),.agg cs.toArray] w (LayPost F w sb vL ws (n+1) (layT (n+1) (.node 0 l) left)):=by
 obtain⟨_,hv⟩:=bare_kids hB;obtain⟨a,c,rfl,h1,hfa⟩:=h.at;have hbl:l.length≤1000:=hb.1;have hbk:=hb.2;have hcn:cntT (.node 0 l)=l.length:=rfl;rw[hcn] at h1 hfa;obtain⟨wB,hwB⟩:∃x,x=(((w.alloc (.cells #[.int .i64 0,.bool false,.slice a l.length c] 27)).alloc (.cells #[.int .i64 0,.bool false,.slice none 0 0] 27)).alloc (.cells #[.int .i64 0,.bool false,.slice none 0 0] 27)).alloc (.cells #[.bool false,.slice none 0 0] 221):=⟨_,rfl⟩
 have hbB:Below w.heap.size w wB:=by rw[hwB];exact Below.al (Below.al (Below.al (Below.al (Below.refl _ _))))
 have hsB:wB.heap.size=w.heap.size+4:=by rw[hwB];simp
 have hxB:Boxes wB [(w.heap.size+1+1+1,[.bool false,.slice none 0 0]),(w.heap.size+1+1,[.int .i64 0,.bool false,.slice none 0 0]),(w.heap.size+1,[.int .i64 0,.bool false,.slice none 0 0]),(w.heap.size,[.int .i64 0,.bool false,.slice a l.length c])]:=by
  rw[hwB];exact((((Boxes.nil w).alloc #[.int .i64 0,.bool false,.slice a l.length c] 27 (b:=w.heap.size) rfl).alloc #[.int .i64 0,.bool false,.slice none 0 0] 27 (b:=w.heap.size+1) (by simp)).alloc #[.int .i64 0,.bool false,.slice none 0 0] 27 (b:=w.heap.size+1+1) (by simp)).alloc #[.bool false,.slice none 0 0] 221 (b:=w.heap.size+1+1+1) (by simp)
 have hsb:=hy.lt;have hvg:∀g,vL.ownBlock=some g→sb+1≤g∧g<w.heap.size:=fun g hg=>hy.ge hg
 have hLM:LM F w wB sb vL vL (w.heap.size+1+1) (w.heap.size+1+1+1) (w.heap.size+1) n false vL ws la lc left (.slice none 0 0) [] [] (.slice none 0 0) [] wB:=
  ⟨hxB.sub (by intro q hq;simp at hq ⊢;rcases hq with rfl|rfl|rfl<;>simp),hy.below hbB,own_nil wB _ 4 _,own_nil wB _ 5 _,fun g hg=>(by cases hg),fun g hg=>(by cases hg),fun g hg=>(by cases hg),Tells.nil,Only.of_below hbB,Turn.refl _ _,Turn.refl _ _,AgreeF.refl _,fun g hg=>by have:=(hvg g hg).2;omega,hsb,by omega,by omega,by omega,by omega⟩
 have m1da0d8:=trivial;exact q9f992a
theorem lay_empty {n:Nat} {F G:Nat→Prop} {w:World} {sb:Nat} {vL:Value} {ws:List Wr} {la:Option Addr} {lc:Nat} {left:List Int} {cs:List Value} (hy:LyIn F w sb vL ws la lc left) (h:RNodeOn G (n+1) w cs (.leaf 0 [])) :
 Calls Tryz.prog 91 #[.pointer (some ⟨sb,0,none⟩),.agg cs.toArray] w (LayPost F w sb vL ws (n+1) (layT (n+1) (.leaf 0 []) left)):=by
 obtain⟨a,c,rfl,h1,_⟩:=h.at;have hcn:cntT (.leaf 0 [])=0:=rfl;rw[hcn] at h1;obtain⟨wB,hwB⟩:∃x,(w.alloc (.cells #[.int .i64 0,.bool true,.slice a 0 c] 27)).alloc (.cells #[.int .i64 0,.bool false,.slice none 0 0] 27)=x:=⟨_,rfl⟩
 have hbB:Below w.heap.size w wB:=by rw[←hwB];exact Below.al (Below.al (Below.refl _ _))
 have hxB:Boxes wB [(w.heap.size+1,[.int .i64 0,.bool false,.slice none 0 0]),(w.heap.size,[.int .i64 0,.bool true,.slice a 0 c])]:=by
  rw[←hwB];exact((Boxes.nil w).alloc #[.int .i64 0,.bool true,.slice a 0 c] 27 (b:=w.heap.size) rfl).alloc #[.int .i64 0,.bool false,.slice none 0 0] 27 (b:=w.heap.size+1) (by simp)
 have c0:=hxB.cell 1 0 rfl rfl;have c1:=hxB.cell 1 1 rfl rfl;have c2:=hxB.cell 1 2 rfl rfl;have m0:=hxB.cell 0 0 rfl rfl;have m1:=hxB.cell 0 1 rfl rfl;have m2:=hxB.cell 0 2 rfl rfl;have u0:=hxB.frozen 0 0 rfl;have u1:=hxB.frozen 0 1 rfl;have u2:=hxB.frozen 0 2 rfl;have hxr:Boxes wB [(w.heap.size+1,[.int .i64 0,.bool false,.slice none 0 0])]:=hxB.sub (by intro q hq;simp at hq ⊢;exact .inl hq);obtain⟨we,hwe⟩:∃x,x=st3 wB (w.heap.size+1) (.int .i64 0) (.bool true) (.slice a 0 c):=⟨_,rfl⟩
 have hxe:=st3_box hxr (.int .i64 0) (.bool true) (.slice a 0 c);rw[←hwe] at hxe;have z0:=hxe.cell 0 0 rfl rfl;have z1:=hxe.cell 0 1 rfl rfl;have z2:=hxe.cell 0 2 rfl rfl;have HE:Hid (LayPost F w sb vL ws (n+1) (layT (n+1) (.leaf 0 []) left) (.returned (.agg #[.int .i64 0,.bool true,.slice a 0 c])) we):=Hd (by
  have hoe:Only [w.heap.size+1] wB we:=by rw[hwe];exact st3_only _ _ _ _ _
  have hbe:Below w.heap.size w we:=hbB.trans (hoe.below hbB.size (by simp));refine⟨0,true,a,0,c,vL,la,lc,rfl,?_,Only.of_below hbe,Turn.refl _ _,?_⟩
  ·show LyIn F we sb vL (ws++[]) la lc left
   rw[List.append_nil];exact hy.below hbe
  ·exact RNodeOn.mk (t:=.leaf 0 []) ⟨rfl,h1.2.1,h1.2.2.1,h1.2.2.2.1,.inl rfl⟩ (.inl rfl))
 have hz:=zero_refN;show Calls _ _ #[.pointer (some ⟨sb,0,none⟩),.agg #[.int .i64 0,.bool true,.slice a 0 c]] _ _;clear h h1 hbB hxB hxr hxe hy hcn;go_enter Tryz.func91,Tryz.ntmps91;go_wp2_with fail;change bodyPost Tryz.prog _ _ _ _ (st3 wB (w.heap.size+1) (.int .i64 0) (.bool true) (.slice a 0 c));rw[←hwe];refine bodyPost_ret (v:=.agg #[.int .i64 0,.bool true,.slice a 0 c]) (by simp[results,Tryz.results91,go_sem,z0,z1,z2]) rfl ?_;exact HE.out
theorem lay_any:∀(n:Nat) {F G:Nat→Prop} {w:World} {sb:Nat} {vL:Value} {ws:List Wr} {la:Option Addr} {lc:Nat} {left:List Int} {cs:List Value} {t:Tr},LyIn F w sb vL ws la lc left→RNodeOn G n w cs t→(∀b,G b→b<w.heap.size∧b≠sb∧vL.ownBlock≠some b)→Bare t→Bnd n t→freshN n t≤left.length→ws.length+freshN n t≤40000→Calls Tryz.prog 91 #[.pointer (some ⟨sb,0,none⟩),.agg cs.toArray] w (LayPost F w sb vL ws n (layT n t left))
 | 0,_,_,_,_,_,_,_,_,_,_,_,_,h,_,_,_,_,_=>h.elim
 | n+1,_,_,_,_,_,_,_,_,_,_,.leaf p l,hy,h,hG,hB,hb,hf,hws=>by
  obtain⟨rfl,_⟩:=bare_vals hB
  by_cases hl0:l=[]
  ·subst hl0;exact lay_empty hy h
  ·exact lay_leaf hy h hG hB hb hf hws hl0
 | n+1,_,_,_,_,_,_,_,_,_,_,.node p l,hy,h,hG,hB,hb,hf,hws=>by
  obtain⟨rfl,_⟩:=bare_kids hB;exact lay_node (fun hy h hG hB hb hf hws=>lay_any n hy h hG hB hb hf hws) hy h hG hB hb hf hws
end Go.Proofs.YtpghlmcoajaiiaaGreatDoor
