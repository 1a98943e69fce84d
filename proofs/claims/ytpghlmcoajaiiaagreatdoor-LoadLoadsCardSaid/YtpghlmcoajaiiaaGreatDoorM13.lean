/- Texts that other texts of this claim lean on, one behind the other. -/
import Derived.Test.YtpghlmcoajaiiaaGreatDoorM2
import Derived.Test.YtpghlmcoajaiiaaGreatDoorM3
import Derived.Test.YtpghlmcoajaiiaaGreatDoorM4
import Derived.Test.YtpghlmcoajaiiaaGreatDoorM1
import Derived.Test.YtpghlmcoajaiiaaGreatDoorM12
import Derived.Test.YtpghlmcoajaiiaaGreatDoorM10
import Derived.Test.YtpghlmcoajaiiaaGreatDoorM8
import Derived.Test.YtpghlmcoajaiiaaGreatDoorM11
import Derived.Test.YtpghlmcoajaiiaaGreatDoorM9
import Derived.Test.YtpghlmcoajaiiaaGreatDoorM7
import Derived.Deep.DeepCutAuto
import Derived.Deep.CutBlock
import Derived.Deep.QuietTactic
import Derived.BigQuiet
import Derived.Deep.RegionHeld3
import Derived.Test.YtpghlmcoajaiiaaGreatDoorM6
import Derived.Test.YtpghlmcoajaiiaaGreatDoorM5
set_option maxHeartbeats 20000000
set_option maxRecDepth 100000
namespace Go.Proofs.YtpghlmcoajaiiaaGreatDoor
open Go.RowKit
def RLoadPost (w:World) (sb:Nat) (a:Option Addr) (len cap:Nat) (d:List Rg) (r:Int) (v:Value) (n:Nat) (R:Except Int (List Int×Tr)) (e:Ending) (w':World):Prop:=
 ∃(p:Int) (lf:Bool) (xa:Option Addr) (xn xc:Nat) (v':Value) (seen':List Int) (E':Int),e=.returned (.agg #[.int .i64 p,.bool lf,.slice xa xn xc])∧RLd w' sb a len cap d r v' seen' E'∧Only (RS sb v) w w'∧Turn w v v'∧match R with
  | .ok (s,t)=>E'=0∧seen'=s∧RNodeOn (fun b=>w.heap.size≤b∧v'.ownBlock≠some b) n w' [.int .i64 p,.bool lf,.slice xa xn xc] t
  | .error x=>E'=x∧x≠0
theorem zero_refN (w:World):(zeroValue 27).run Tryz.prog w=.ok (.agg #[.int .i64 0,.bool false,.slice none 0 0]) w:=by kernel_rfl
theorem zero_refC (w:World):(zeroValue 145).run Tryz.prog w=.ok (.agg #[.string ⟨#[]⟩,.string ⟨#[]⟩,.slice none 0 0,.slice none 0 0]) w:=by kernel_rfl
theorem readB_len (d:List Rg) (r p:Int):(readB d r p).length≤128:=by
 unfold readB
 split
 ·have:=(seen (atR d r) p.toNat).2;omega
 ·simp
def st3 (w:World) (b:Nat) (y0 y1 y2:Value):World:=((w.setCell ⟨b,0,none⟩ y0).setCell ⟨b,1,none⟩ y1).setCell ⟨b,2,none⟩ y2
theorem st3_box {w:World} {b:Nat} {x0 x1 x2:Value} (h:Boxes w [(b,[x0,x1,x2])]) (y0 y1 y2:Value):Boxes (st3 w b y0 y1 y2) [(b,[y0,y1,y2])]:=
 ((h.put 0 y0 (by intro q hq;simp at hq)).put 1 y1 (by intro q hq;simp at hq)).put 2 y2 (by intro q hq;simp at hq)
theorem st3_only (w:World) (b:Nat) (y0 y1 y2:Value):Only [b] w (st3 w b y0 y1 y2):=(((Only.refl _ _).set _ _ (by simp)).set _ _ (by simp)).set _ _ (by simp)
theorem rload_left {w wq:World} {sb:Nat} {a:Option Addr} {len cap:Nat} {d:List Rg} {r:Int} {v vq:Value} {sq:List Int} {Eq:Int} (hd:RLd wq sb a len cap d r vq sq Eq) (ho:Only (RS sb v) w wq) (hs:sb<w.heap.size) (hv:vq.ownBlock≠some w.heap.size) (y0 y1 y2:Value) :
 RLd (st3 wq w.heap.size y0 y1 y2) sb a len cap d r vq sq Eq∧Only (RS sb v) w (st3 wq w.heap.size y0 y1 y2):=
 ⟨hd.only (st3_only _ _ _ _ _) (fun k hk=>by simp at hk;subst hk;exact⟨hs,hv⟩),ho.then (st3_only _ _ _ _ _) (fun k hk=>by simp at hk;subst hk;exact .inr (Nat.le_refl _))⟩
theorem turn_ne {w w1:World} {v v1:Value} (ht:Turn w1 v v1) (hv:∀k,v.ownBlock=some k→k<w.heap.size) {b:Nat} (h0:w.heap.size≤b) (h1:b<w1.heap.size):v1.ownBlock≠some b:=fun e=>by
 rcases ht with t|t
 ·have:=hv b (t ▸ e);omega
 ·have:=t b e;omega
theorem rload_seen {w:World} {sb:Nat} {a:Option Addr} {len cap:Nat} {d:List Rg} {r:Int} {v:Value} {seen:List Int} (n:Nat) (h:RLd w sb a len cap d r v seen 0) (hs:SeenOk seen) (p:Int) (hm:p∈seen) :
 Calls Tryz.prog 54 #[.pointer (some ⟨sb,0,none⟩),.int .i64 p] w (RLoadPost w sb a len cap d r v (n+1) (loadT d r (n+1) seen p)):=by
 obtain⟨RF,hRF⟩:∃RF,loadT d r (n+1) seen p=RF:=⟨_,rfl⟩
 obtain⟨w1,hw1⟩:∃x,x=(w.alloc (.cells #[.int .i64 0,.bool false,.slice none 0 0] 27)).alloc (.cells #[.int .i64 p,.bool false,.slice none 0 0] 27):=⟨_,rfl⟩
 have hb1:Below w.heap.size w w1:=by rw[hw1];exact Below.al (Below.al (Below.refl _ _))
 have hx1:Boxes w1 [(w.heap.size+1,[.int .i64 p,.bool false,.slice none 0 0]),(w.heap.size,[.int .i64 0,.bool false,.slice none 0 0])]:=by
  exact qe40f05
 have hs1:w1.heap.size=w.heap.size+2:=by rw[hw1];simp
 have hvb:∀k,v.ownBlock=some k→k<w.heap.size:=fun k hk=>(h.ge hk).2
 have hsb:=h.lt;have S1:=rsee_any (h.below hb1) (by have:=hs.len;omega) p;have hz:=zero_refN;have HW1:=Hd hw1;have HB1:=Hd hb1;have HX1:=Hd hx1;have HS1:=Hd hs1;have HVB:=Hd hvb;have HSK:=Hd hs;rw[hRF];have HRF:=Hd hRF;clear hw1 hb1 hx1 hs1 hvb hs hRF h;go_enter Tryz.func54,Tryz.ntmps54;go_wp2_with fail;rw[←HW1.out];refine S1.mono ?_;rintro e w2 ⟨rfl,v2,hd2,ho2,ht2⟩;have hs1:=HS1.out;have hs12b:=ho2.size;have hnb:∀b,w.heap.size≤b→b<w1.heap.size→b∉RS sb v:=fun b h0 _ hm=>by
  exact q79e41f
 have hx2:=HX1.out.only ho2 (by intro q hq;simp at hq;rcases hq with rfl|rfl;exact hnb _ (by simp) (by simp;omega);exact hnb _ (by simp) (by simp;omega));have hO2:Only (RS sb v) w w2:=(Only.of_below HB1.out).trans ho2;have hT2:Turn w v v2:=ht2.from HB1.out.size
 have hv2:∀b,w.heap.size≤b→b<w1.heap.size→v2.ownBlock≠some b:=fun b h0 h1=>turn_ne ht2 HVB.out h0 h1
 have hR0:RF=.error 11:=by rw[←HRF.out];unfold loadT;rw[if_pos hm]
 rw[if_pos ⟨rfl,hm⟩] at hd2;obtain⟨wq,rfl⟩:∃x,x=w2:=⟨_,rfl⟩
 have hdq:=hd2;have hxq:=hx2;have hoq:=hO2;have htq:=hT2;have hvq:=hv2 w.heap.size (Nat.le_refl _) (by omega);have b3:=hdq.box.cell 0 3 rfl rfl;have f3:=hdq.box.frozen 0 3 rfl;have n0:=hxq.cell 0 0 rfl rfl;have n1:=hxq.cell 0 1 rfl rfl;have n2:=hxq.cell 0 2 rfl rfl;have m0:=hxq.cell 1 0 rfl rfl;have m1:=hxq.cell 1 1 rfl rfl;have m2:=hxq.cell 1 2 rfl rfl;have u0:=hxq.frozen 1 0 rfl;have u1:=hxq.frozen 1 1 rfl;have u2:=hxq.frozen 1 2 rfl;have hxr:Boxes wq [(w.heap.size,[.int .i64 0,.bool false,.slice none 0 0])]:=hxq.sub (by intro q hq;simp at hq ⊢;exact .inr hq);obtain⟨we,hwe⟩:∃x,x=st3 wq w.heap.size (.int .i64 p) (.bool false) (.slice none 0 0):=⟨_,rfl⟩
 have hxe:=st3_box hxr (.int .i64 p) (.bool false) (.slice none 0 0);rw[←hwe] at hxe;have z0:=hxe.cell 0 0 rfl rfl;have z1:=hxe.cell 0 1 rfl rfl;have z2:=hxe.cell 0 2 rfl rfl;have HE:Hid (RLoadPost w sb a len cap d r v (n+1) RF (.returned (.agg #[.int .i64 p,.bool false,.slice none 0 0])) we):=Hd (by
  obtain⟨g1,g2⟩:=rload_left hdq hoq hsb hvq (.int .i64 p) (.bool false) (.slice none 0 0);rw[←hwe] at g1 g2;exact⟨p,false,none,0,0,_,_,_,rfl,g1,g2,htq,by rw[hR0];exact⟨rfl,by omega⟩⟩)
 clear hdq hxq hoq htq hvq hd2 hx2 hO2 hT2 hv2 ho2 ht2 hnb hxr hxe;exact q857964
theorem rload_bad {w:World} {sb:Nat} {a:Option Addr} {len cap:Nat} {d:List Rg} {r:Int} {v:Value} {seen:List Int} (n:Nat) (h:RLd w sb a len cap d r v seen 0) (hs:SeenOk seen) (p:Int) (hm:p∉seen) (hP:pagedE d r p≠0) :
 Calls Tryz.prog 54 #[.pointer (some ⟨sb,0,none⟩),.int .i64 p] w (RLoadPost w sb a len cap d r v (n+1) (loadT d r (n+1) seen p)):=by
 have zm:=Mk.i 45596;exact qe2d857
theorem rload_leaf {w:World} {sb:Nat} {a:Option Addr} {len cap:Nat} {d:List Rg} {r:Int} {v:Value} {seen:List Int} (n:Nat) (hd:DOk d) (h:RLd w sb a len cap d r v seen 0) (hs:SeenOk seen) (p:Int) (hm:p∉seen) (hP:pagedE d r p=0) (hF:getNF (readB d r p)=true) :
 Calls Tryz.prog 54 #[.pointer (some ⟨sb,0,none⟩),.int .i64 p] w (RLoadPost w sb a len cap d r v (n+1) (loadT d r (n+1) seen p)):=by
 obtain⟨R0,hR0⟩:∃R0,valsL d r (seen++[p]) (getNL (readB d r p))=R0:=⟨_,rfl⟩
 have zm:=Mk.i 991274;exact qe2d857
theorem rload_node {w:World} {sb:Nat} {a:Option Addr} {len cap:Nat} {d:List Rg} {r:Int} {v:Value} {seen:List Int} {n:Nat} (hd:DOk d) (IH:∀{w:World} {v:Value} {seen:List Int} {p:Int},RLd w sb a len cap d r v seen 0→SeenOk seen→roomL seen<n→p≠0→Calls Tryz.prog 54 #[.pointer (some ⟨sb,0,none⟩),.int .i64 p] w (RLoadPost w sb a len cap d r v n (loadT d r n seen p))) (h:RLd w sb a len cap d r v seen 0) (hs:SeenOk seen) (p:Int) (hm:p∉seen) (hroom:roomL seen<n+1) (hp0:p≠0) (hP:pagedE d r p=0) (hF:getNF (readB d r p)=false) :
 Calls Tryz.prog 54 #[.pointer (some ⟨sb,0,none⟩),.int .i64 p] w (RLoadPost w sb a len cap d r v (n+1) (loadT d r (n+1) seen p)):=by
 obtain⟨R0,hR0⟩:∃R0,kidsL (loadT d r n) (seen++[p]) (getNL (readB d r p))=R0:=⟨_,rfl⟩
 have zm:=Mk.i 445272;exact qe2d857
theorem rload_any:∀(n:Nat) {w:World} {sb:Nat} {a:Option Addr} {len cap:Nat} {d:List Rg} {r:Int} {v:Value} {seen:List Int} {p:Int},DOk d→RLd w sb a len cap d r v seen 0→SeenOk seen→roomL seen<n→p≠0 →
 Calls Tryz.prog 54 #[.pointer (some ⟨sb,0,none⟩),.int .i64 p] w (RLoadPost w sb a len cap d r v n (loadT d r n seen p))
 | 0,_,_,_,_,_,_,_,_,_,_,_,_,_,h,_=>absurd h (Nat.not_lt_zero _)
 | n+1,_,_,_,_,_,d,r,_,seen,p,hd,h,hs,hroom,hp0=>by
  by_cases hm:p∈seen
  ·exact rload_seen n h hs p hm
  ·by_cases hP:pagedE d r p=0
   ·cases hF:getNF (readB d r p) with
    | true=>exact rload_leaf n hd h hs p hm hP hF
    | false=>exact rload_node hd (fun h hs hr hp0=>rload_any n hd h hs hr hp0) h hs p hm hroom hp0 hP hF
   ·exact rload_bad n h hs p hm hP
end Go.Proofs.YtpghlmcoajaiiaaGreatDoor
