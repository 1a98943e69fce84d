/- Texts that other texts of this claim lean on, one behind the other. -/
import Derived.Test.YtpghlmcoajaiiaaGreatDoorB1
import Derived.Test.YtpghlmcoajaiiaaGreatDoorB9
import Derived.Test.YtpghlmcoajaiiaaGreatDoorB6
import Derived.Defers
import Derived.Recover
import Derived.Deep.QuietTactic
import Derived.BigQuiet
import Derived.RegionTactic
import Derived.Deep.RegionHeld3
import Derived.Test.YtpghlmcoajaiiaaGreatDoorB7
import Derived.Test.YtpghlmcoajaiiaaGreatDoorB5
import Derived.Test.YtpghlmcoajaiiaaGreatDoorB3
import Derived.Test.YtpghlmcoajaiiaaGreatDoorB4
import Derived.Deep.DeepCutAuto
import Derived.Deep.CutBlock
set_option maxHeartbeats 20000000
set_option maxRecDepth 100000
namespace Go.Proofs.YtpghlmcoajaiiaaGreatDoor
open Go.RowKit
def loadD (d:List Rg) (r root:Int):Except Int Tr:=
 if root=0 then .ok (.leaf 0 [])
 else match loadT d r 1000 [] root with
  | .error x=>.error x
  | .ok (_,t)=>if checkT 1000 t then .ok t else .error 11
def LoadPost (w:World) (R:Except Int Tr) (e:Ending) (w':World):Prop:=
 Below w.heap.size w w'∧match R with
  | .ok t=>∃cs,e=.returned (.tuple #[.agg cs.toArray,.int .i64 0])∧NodeOn (fun b=>w.heap.size≤b) 1000 w' cs t
  | .error x=>e=.returned (.tuple #[.agg #[.int .i64 0,.bool false,.slice none 0 0,.slice none 0 0,.slice none 0 0],.int .i64 x])
theorem recover_idle (p q:Addr) (w:World) :
 CallsD Tryz.prog 51 #[.pointer (some p),.pointer (some q)] .returning w fun e u' w'=>e=.returned (.tuple #[])∧u'=.returning∧w'=w:=by
 refine callsD_of_wpS Tryz.func51 rfl fun c₀ cs hu=>?_
 apply wpS_seq;apply wpS_region;simp[wpOpsS,go_sem,recoverD,hu,Tryz.ntmps51,Exit.thenS];apply wpS_of_wp
 go_wp2_with (fail)
 cases c₀
 simp_all [bodyPostS,results,Tryz.results51]
theorem recover_caught (b e:Nat) (x y:Int) (older:List PanicEntry) (w:World) {a0 a1 a2 a3 a4:Value} (hb:Boxes w [(b,[a0,a1,a2,a3,a4]),(e,[.int .i64 y])]) (hne:b≠e) :
 CallsD Tryz.prog 51 #[.pointer (some ⟨b,0,none⟩),.pointer (some ⟨e,0,none⟩)] (.panicking ({ v:=.iface 32 (.int .i64 x),recovered:=false }::older)) w fun en u' w'=>
  en=.returned (.tuple #[])∧u'=.panicking ({ v:=.iface 32 (.int .i64 x),recovered:=true }::older)∧w'=((set5 w b (.int .i64 0) (.bool false) (.slice none 0 0) (.slice none 0 0) (.slice none 0 0)).setCell ⟨e,0,none⟩ (.int .i64 x)).drew:=by
 refine callsD_of_wpS Tryz.func51 rfl fun c₀ cs hu=>?_
 apply wpS_seq;apply wpS_region;simp[wpOpsS,go_sem,recoverD,hu,Tryz.ntmps51,Exit.thenS];have ta:∀W:World,(Instr.typeAssert (.iface 32 (.int .i64 x)) 20 32 false).run Tryz.prog W=.ok (.int .i64 x) W:=fun W=>by kernel_rfl
 have hz:=zero_nodeL;have c0:=hb.cell 0 0 rfl rfl;have f0:=hb.frozen 0 0 rfl;have c1:=hb.cell 0 1 rfl rfl;have f1:=hb.frozen 0 1 rfl;have c2:=hb.cell 0 2 rfl rfl;have f2:=hb.frozen 0 2 rfl;have c3:=hb.cell 0 3 rfl rfl;have f3:=hb.frozen 0 3 rfl;have c4:=hb.cell 0 4 rfl rfl;have f4:=hb.frozen 0 4 rfl;have e0:=hb.cell 1 0 rfl rfl;have fe:=hb.frozen 1 0 rfl;have hne2:e≠b:=fun h=>hne h.symm
 clear hb;apply wpS_of_wp
 go_wp2_with (fail)
 ·go_region
  all_goals (show bodyPostS Tryz.prog _ _ _ _ Exit.normal _ _ _;cases c₀;simp_all [bodyPostS,results,Tryz.results51,set5])
theorem load_set {w:World} {b e:Nat} {x0 x1 x2 x3 x4 x:Value} (h:Boxes w [(e,[x]),(b,[x0,x1,x2,x3,x4])]) (hne:b≠e) (y0 y1 y2 y3 y4:Value) (y:Int):Boxes ((set5 w b y0 y1 y2 y3 y4).setCell ⟨e,0,none⟩ (.int .i64 y)) [(b,[y0,y1,y2,y3,y4]),(e,[.int .i64 y])]:=by
 have h1:Boxes w [(b,[x0,x1,x2,x3,x4]),(e,[x])]:=h.sub (by intro q hq;simp at hq ⊢;rcases hq with rfl|rfl<;>simp);have h2:=set5_box h1 (by intro q hq;simp at hq;subst hq;exact fun h=>hne h.symm) y0 y1 y2 y3 y4;have h3:Boxes (set5 w b y0 y1 y2 y3 y4) [(e,[x]),(b,[y0,y1,y2,y3,y4])]:=h2.sub (by intro q hq;simp at hq ⊢;rcases hq with rfl|rfl<;>simp);exact(h3.put 0 (.int .i64 y) (by intro q hq;simp at hq;subst hq;exact hne)).sub (by intro q hq;simp at hq ⊢;rcases hq with rfl|rfl<;>simp)
theorem agree_res {F:Nat→Prop} {w:World} {b e:Nat} (hb:¬F b) (he:¬F e) {y0 y1 y2 y3 y4 y:Value}:AgreeF F w ((set5 w b y0 y1 y2 y3 y4).setCell ⟨e,0,none⟩ y):=by
 unfold set5;exact(((((AgreeF.refl w).set (.inl hb)).set (.inl hb)).set (.inl hb)).set (.inl hb)).set (.inl hb) |>.set (.inl he)
theorem loadT_small {d:List Rg} {r:Int} {n:Nat} {seen s:List Int} {p:Int} {t:Tr} (h:loadT d r n seen p=.ok (s,t)):Bnd n t:=(loadT_bnd h).1
theorem load_zero (w:World) (da:Nat) (d:List Rg) (r:Int) :
 Calls Tryz.prog 15 #[.pointer (some ⟨da,0,none⟩),.int .i64 r,.int .i64 0] w (LoadPost w (loadD d r 0)):=by
 have hR:loadD d r 0=.ok (.leaf 0 []):=by unfold loadD;rw[if_pos rfl]
 rw[hR];obtain⟨w1,hw1⟩:∃w1,(w.alloc (.cells #[.int .i64 0,.bool false,.slice none 0 0,.slice none 0 0,.slice none 0 0] 50)).alloc (.cells #[.int .i64 0] 32)=w1:=⟨_,rfl⟩
 have hx1:Boxes w1 [(w.heap.size+1,[.int .i64 0]),(w.heap.size,[.int .i64 0,.bool false,.slice none 0 0,.slice none 0 0,.slice none 0 0])]:=by
  exact q6716c5
 have hb1:Below w.heap.size w w1:=by rw[←hw1];exact Below.al (Below.al (Below.refl _ _))
 have E:=tempty_any w1 (fun _=>False);have hz:=zero_nodeL;have HX1:=Hd hx1;have HB1:=Hd hb1;clear hx1 hb1 hR
 go_enter_defers Tryz.func15,Tryz.ntmps15
 go_wp2_with fail;refine E.mono ?_;rintro e w2 ⟨cs,rfl,hon,hb2⟩;obtain⟨ka,kc,va,vn,vc,ca,cn,cc,_,_,eu,_⟩:=NodeOn.open_pos hon;subst eu;have hx2:=HX1.out.step hb2;have f0:=hx2.frozen 1 0 rfl;have f1:=hx2.frozen 1 1 rfl;have f2:=hx2.frozen 1 2 rfl;have f3:=hx2.frozen 1 3 rfl;have f4:=hx2.frozen 1 4 rfl;have fe:=hx2.frozen 0 0 rfl;have c0:=hx2.cell 1 0 rfl rfl;have c1:=hx2.cell 1 1 rfl rfl;have c2:=hx2.cell 1 2 rfl rfl;have c3:=hx2.cell 1 3 rfl rfl;have c4:=hx2.cell 1 4 rfl rfl;have ce:=hx2.cell 0 0 rfl rfl;have hx3:=load_set hx2 (by omega) (.int .i64 0) (.bool true) (.slice ka 0 kc) (.slice va vn vc) (.slice ca cn cc) 0;obtain⟨we,hwe⟩:∃x,x=(set5 w2 w.heap.size (.int .i64 0) (.bool true) (.slice ka 0 kc) (.slice va vn vc) (.slice ca cn cc)).setCell ⟨w.heap.size+1,0,none⟩ (.int .i64 0):=⟨_,rfl⟩
 rw[←hwe] at hx3;have z0:=hx3.cell 0 0 rfl rfl;have z1:=hx3.cell 0 1 rfl rfl;have z2:=hx3.cell 0 2 rfl rfl;have z3:=hx3.cell 0 3 rfl rfl;have z4:=hx3.cell 0 4 rfl rfl;have ze:=hx3.cell 1 0 rfl rfl;have hbe:Below w.heap.size w we:=by
  have h1:=HB1.out.trans (hb2.mono HB1.out.size);rw[hwe];exact(set5_below h1 (Nat.le_refl _) _ _ _ _ _).setCell (Nat.le_succ _) _
 have HE:Hid (LoadPost w (.ok (.leaf 0 [])) (.returned (.tuple #[.agg #[.int .i64 0,.bool true,.slice ka 0 kc,.slice va vn vc,.slice ca cn cc],.int .i64 0])) we):=Hd ⟨hbe,[.int .i64 0,.bool true,.slice ka 0 kc,.slice va vn vc,.slice ca cn cc],rfl,by
  have hag:AgreeF (Fr (fun _=>False) w1) w2 we:=by
   rw[hwe];have hsz:=HX1.out.lt 0 rfl;exact agree_res (by rintro(h|h);exact h;have h:w1.heap.size≤w.heap.size:=h;have hsz:w.heap.size+1<w1.heap.size:=hsz;omega) (by rintro(h|h);exact h;have h:w1.heap.size≤w.heap.size+1:=h;have hsz:w.heap.size+1<w1.heap.size:=hsz;omega)
  exact NodeOn.mono (n:=1000) (fun b hb=>by rcases hb with hb|hb;exact hb.elim;have hb:w1.heap.size≤b:=hb;have hsz:w.heap.size+1<w1.heap.size:=HX1.out.lt 0 rfl;omega) (hon.agree hag)⟩
 clear hx2 hx3 hbe hb2 hon;go_wp2_with fail;change bodyPostD Tryz.prog _ _ Exit.ret _ ((set5 w2 w.heap.size (.int .i64 0) (.bool true) (.slice ka 0 kc) (.slice va vn vc) (.slice ca cn cc)).setCell ⟨w.heap.size+1,0,none⟩ (.int .i64 0));rw[←hwe];exact⟨.tuple #[.agg #[.int .i64 0,.bool true,.slice ka 0 kc,.slice va vn vc,.slice ca cn cc],.int .i64 0],by simp[results,Tryz.results15,go_sem,z0,z1,z2,z3,z4,ze],HE.out⟩
theorem load_root {w:World} {B da M:Nat} {d:List Rg} (h:One B w da M d) (hh:Half w) (r root:Int) (hr:I64 root) (h0:root≠0) :
 Calls Tryz.prog 15 #[.pointer (some ⟨da,0,none⟩),.int .i64 r,.int .i64 root] w (LoadPost w (loadD d r root)):=by
 obtain⟨R,hR⟩:∃R,loadD d r root=R:=⟨_,rfl⟩
 have hR0:=hR;unfold loadD at hR0;rw[if_neg h0] at hR0;rw[hR];obtain⟨w1,hw1⟩:∃w1,(w.alloc (.cells #[.int .i64 0,.bool false,.slice none 0 0,.slice none 0 0,.slice none 0 0] 50)).alloc (.cells #[.int .i64 0] 32)=w1:=⟨_,rfl⟩
 have hx1:Boxes w1 [(w.heap.size+1,[.int .i64 0]),(w.heap.size,[.int .i64 0,.bool false,.slice none 0 0,.slice none 0 0,.slice none 0 0])]:=by
  exact q6716c5
 have hb1:Below w.heap.size w w1:=by rw[←hw1];exact Below.al (Below.al (Below.refl _ _))
 have hs1:w1.heap.size=w.heap.size+2:=by rw[←hw1];simp
 obtain⟨w3,hw3⟩:∃w3,(w1.alloc (.map #[] 0)).alloc (.cells #[.pointer (some ⟨da,0,none⟩),.int .i64 r,.map (some w1.heap.size)] 134)=w3:=⟨_,rfl⟩
 have hb13:Below w1.heap.size w1 w3:=by rw[←hw3];exact Below.al (Below.al (Below.refl _ _))
 have hs3:w3.heap.size=w.heap.size+4:=by rw[←hw3];simp;omega
 have hld:LdIn w3.heap.size w3 (w1.heap.size+1) w1.heap.size da M d r []:=by
  have hbw:Below w.heap.size w w3:=hb1.trans (hb13.mono (by omega));obtain⟨F,bs,k1,k2,k3⟩:=h;refine⟨?_,?_,⟨F,bs,k1.below hbw,fun hF=>?_,fun k hk=>?_⟩,by omega,hh.below (Nat.le_refl _) hbw,?_,by omega,by omega,?_⟩
  ·rw[←hw3]
   have:=World.alloc_heap_new (w1.alloc (.map #[] 0)) (.cells #[.pointer (some ⟨da,0,none⟩),.int .i64 r,.map (some w1.heap.size)] 134);simpa using this
  ·have:=CtMap.made w1
   rw[←hw3];exact this.kept ((Below.al (Below.refl (w1.alloc (.map #[] 0)).heap.size (w1.alloc (.map #[] 0)))).block w1.heap.size (by simp))
  ·have:=k1.lt _ hF;omega
  ·have:=k1.lt _ hk;omega
  ·have:=hh.1;omega
  ·have:=hh.1;omega
 have P:=lpage_any 1000 hld (Nat.le_refl _) SeenOk.nil (by rw[roomL_nil];omega) hr h0;have hz:=zero_nodeL;have hmm:=@run_makeMap Tryz.prog;have hmf:∀(fn:Fn) (first cap:Array Value) (w:World),(Instr.makeFunc fn first cap).run Tryz.prog w=.ok (.func fn first cap) w:=fun _ _ _ _=>rfl
 have HX1:=Hd hx1;have HX3:=Hd (hx1.step hb13);have HB1:=Hd hb1;have HB13:=Hd hb13;have HR0:=Hd hR0;have HS1:=Hd hs1;have HS3:=Hd hs3;have q0:(root == 0)=false:=by simpa using h0
 clear hx1 hb1 hR hR0 hb13 hs1 hs3 hld h hh
 go_enter_defers Tryz.func15,Tryz.ntmps15
 go_wp2_with fail;refine P.mono ?_;rintro e w4 ⟨ho,hres⟩;have hs4:=ho.size;have hs1:=HS1.out;have hs3:=HS3.out;have hx4:=HX3.out.only ho (by intro q hq;simp at hq;rcases hq with rfl|rfl<;>simp<;>omega);have hb4:Below w.heap.size w w4:=by
  have h3:=HB1.out.trans (HB13.out.mono (show w.heap.size≤w1.heap.size by omega));exact h3.trans (ho.below (by omega) (by simp;omega))
 cases hT:loadT d r 1000 [] root with
 | error x=>
  rw[hT] at hres;have hres:e=.panicked (errP x):=hres;subst hres;have hR0:=HR0.out;rw[hT] at hR0;subst hR0;refine leaves_cons (f:=51) (args := #[.pointer (some ⟨w.heap.size,0,none⟩),.pointer (some ⟨w.heap.size+1,0,none⟩)]) (by simp) (by simp[go_sem]) ?_;have hx4c:Boxes w4 [(w.heap.size,[.int .i64 0,.bool false,.slice none 0 0,.slice none 0 0,.slice none 0 0]),(w.heap.size+1,[.int .i64 0])]:=hx4.sub (by intro q hq;simp at hq ⊢;rcases hq with rfl|rfl<;>simp);refine(recover_caught w.heap.size (w.heap.size+1) x 0 [] w4 hx4c (by omega)).mono ?_;rintro e u' w'' ⟨rfl,rfl,rfl⟩;have hx5:=load_set hx4 (by omega) (.int .i64 0) (.bool false) (.slice none 0 0) (.slice none 0 0) (.slice none 0 0) x;obtain⟨we,hwe⟩:∃y,y=(set5 w4 w.heap.size (.int .i64 0) (.bool false) (.slice none 0 0) (.slice none 0 0) (.slice none 0 0)).setCell ⟨w.heap.size+1,0,none⟩ (.int .i64 x):=⟨_,rfl⟩
  rw[←hwe] at hx5 ⊢;have z0:=hx5.cell 0 0 rfl rfl;have z1:=hx5.cell 0 1 rfl rfl;have z2:=hx5.cell 0 2 rfl rfl;have z3:=hx5.cell 0 3 rfl rfl;have z4:=hx5.cell 0 4 rfl rfl;have ze:=hx5.cell 1 0 rfl rfl;have hbe:Below w.heap.size w we.drew:=by
   rw[hwe];exact Below.dr ((set5_below hb4 (Nat.le_refl _) _ _ _ _ _).setCell (Nat.le_succ _) _)
  refine⟨.tuple #[.agg #[.int .i64 0,.bool false,.slice none 0 0,.slice none 0 0,.slice none 0 0],.int .i64 x],by simp[results,Tryz.results15,go_sem,z0,z1,z2,z3,z4,ze],?_⟩;exact⟨hbe,rfl⟩
 | ok y=>
  obtain⟨s,t⟩:=y;rw[hT] at hres;obtain⟨cs,rfl,hon,hld⟩:=hres;obtain⟨ka,kc,va,vn,vc,ca,cn,cc,_,_,eu,_⟩:=NodeOn.open_pos hon;subst eu;obtain⟨w5,hw5⟩:∃x,x=set5 w4 w.heap.size (.int .i64 t.page) (.bool t.isLeaf) (.slice ka (cntT t) kc) (.slice va vn vc) (.slice ca cn cc):=⟨_,rfl⟩
  have hx4r:Boxes w4 [(w.heap.size,[.int .i64 0,.bool false,.slice none 0 0,.slice none 0 0,.slice none 0 0]),(w.heap.size+1,[.int .i64 0])]:=hx4.sub (by intro q hq;simp at hq ⊢;rcases hq with rfl|rfl<;>simp);have hx5:Boxes w5 [(w.heap.size,[.int .i64 t.page,.bool t.isLeaf,.slice ka (cntT t) kc,.slice va vn vc,.slice ca cn cc]),(w.heap.size+1,[.int .i64 0])]:=by rw[hw5];exact set5_box hx4r (by intro q hq;simp at hq;subst hq;simp) _ _ _ _ _
  have hb45:Below w.heap.size w4 w5:=by rw[hw5];exact set5_below (Below.refl _ _) (Nat.le_refl _) _ _ _ _ _
  have hag5:AgreeF (fun b=>w3.heap.size≤b) w4 w5:=by
   rw[hw5];unfold set5;have hnb:¬(w3.heap.size≤w.heap.size):=by omega
   exact((((AgreeF.refl w4).set (.inl hnb)).set (.inl hnb)).set (.inl hnb)).set (.inl hnb) |>.set (.inl hnb)
  have hon5:=hon.agree hag5;have C:=tcheck_any hon5.toIn (loadT_small hT) (by omega);have f0:=hx4r.frozen 0 0 rfl;have f1:=hx4r.frozen 0 1 rfl;have f2:=hx4r.frozen 0 2 rfl;have f3:=hx4r.frozen 0 3 rfl;have f4:=hx4r.frozen 0 4 rfl;have c0:=hx4r.cell 0 0 rfl rfl;have c1:=hx4r.cell 0 1 rfl rfl;have c2:=hx4r.cell 0 2 rfl rfl;have c3:=hx4r.cell 0 3 rfl rfl;have c4:=hx4r.cell 0 4 rfl rfl;have d0:=hx5.cell 0 0 rfl rfl;have d1:=hx5.cell 0 1 rfl rfl;have d2:=hx5.cell 0 2 rfl rfl;have d3:=hx5.cell 0 3 rfl rfl;have d4:=hx5.cell 0 4 rfl rfl;unfold set5 at hw5;have hw5':=hw5.symm;have HON5:=Hd hon5;have HX5:=Hd hx5;have HB4:=Hd hb4;have HB45:=Hd hb45;have HT:=Hd hT;generalize t.page=tp at *;generalize t.isLeaf=tl at *;generalize cntT t=tn at *;clear hw5 hx4 hx4r hx5 hb4 hb45 hag5 hon hon5 hT hld ho P;go_wp2_with fail;refine C.mono ?_;rintro e w6 ⟨rfl,hb6⟩;have hx6:=HX5.out.step hb6;have hx6b:Boxes w6 [(w.heap.size+1,[.int .i64 0]),(w.heap.size,[.int .i64 tp,.bool tl,.slice ka tn kc,.slice va vn vc,.slice ca cn cc])]:=hx6.sub (by intro q hq;simp at hq ⊢;rcases hq with rfl|rfl<;>simp);have hb56:Below w.heap.size w w6:=(HB4.out.trans HB45.out).trans (hb6.mono (HB4.out.trans HB45.out).size);have HB56:=Hd hb56;have HR1:=HR0.out;rw[HT.out] at HR1;cases hc:checkT 1000 t with
  | true=>
   have hRt:R=.ok t:=by rw[←HR1];simp[hc]
   have g0:=hx6.frozen 0 0 rfl;have g1:=hx6.frozen 0 1 rfl;have g2:=hx6.frozen 0 2 rfl;have g3:=hx6.frozen 0 3 rfl;have g4:=hx6.frozen 0 4 rfl;have ge:=hx6.frozen 1 0 rfl;have b0:=hx6.cell 0 0 rfl rfl;have b1:=hx6.cell 0 1 rfl rfl;have b2:=hx6.cell 0 2 rfl rfl;have b3:=hx6.cell 0 3 rfl rfl;have b4:=hx6.cell 0 4 rfl rfl;have be:=hx6.cell 1 0 rfl rfl;have hx7:=load_set hx6b (by omega) (.int .i64 tp) (.bool tl) (.slice ka tn kc) (.slice va vn vc) (.slice ca cn cc) 0;obtain⟨we,hwe⟩:∃y,y=(set5 w6 w.heap.size (.int .i64 tp) (.bool tl) (.slice ka tn kc) (.slice va vn vc) (.slice ca cn cc)).setCell ⟨w.heap.size+1,0,none⟩ (.int .i64 0):=⟨_,rfl⟩
   rw[←hwe] at hx7;have HX7:=Hd hx7;have HE:Hid (LoadPost w R (.returned (.tuple #[.agg #[.int .i64 tp,.bool tl,.slice ka tn kc,.slice va vn vc,.slice ca cn cc],.int .i64 0])) we):=Hd (by
    rw[hRt];refine⟨?_,[.int .i64 tp,.bool tl,.slice ka tn kc,.slice va vn vc,.slice ca cn cc],rfl,?_⟩
    ·rw[hwe];exact(set5_below hb56 (Nat.le_refl _) _ _ _ _ _).setCell (Nat.le_succ _) _
    ·have h1:NodeOn (fun b=>w3.heap.size≤b) 1000 w6 _ t:=HON5.out.agree (AgreeF.of_below hb6)
     refine NodeOn.mono (fun b hb=>?_) (h1.agree (by rw[hwe];exact agree_res (show ¬(w3.heap.size≤w.heap.size) by omega) (show ¬(w3.heap.size≤w.heap.size+1) by omega)));have hb:w3.heap.size≤b:=hb;omega)
   clear hx6 hx6b hb56 hx7 hb6 HR1 hRt c0 c1 c2 c3 c4 d0 d1 d2 d3 d4 f0 f1 f2 f3 f4;go_wp2_with fail;change bodyPostD Tryz.prog _ _ Exit.ret _ ((set5 w6 w.heap.size (.int .i64 tp) (.bool tl) (.slice ka tn kc) (.slice va vn vc) (.slice ca cn cc)).setCell ⟨w.heap.size+1,0,none⟩ (.int .i64 0));rw[←hwe];refine leaves_cons (f:=51) (args := #[.pointer (some ⟨w.heap.size,0,none⟩),.pointer (some ⟨w.heap.size+1,0,none⟩)]) (by simp) (by simp[go_sem]) ?_;refine(recover_idle ⟨w.heap.size,0,none⟩ ⟨w.heap.size+1,0,none⟩ we).mono ?_;rintro e u' w'' ⟨rfl,rfl,rfl⟩;have z0:=HX7.out.cell 0 0 rfl rfl;have z1:=HX7.out.cell 0 1 rfl rfl;have z2:=HX7.out.cell 0 2 rfl rfl;have z3:=HX7.out.cell 0 3 rfl rfl;have z4:=HX7.out.cell 0 4 rfl rfl;have ze:=HX7.out.cell 1 0 rfl rfl;exact⟨.tuple #[.agg #[.int .i64 tp,.bool tl,.slice ka tn kc,.slice va vn vc,.slice ca cn cc],.int .i64 0],by simp[results,Tryz.results15,go_sem,z0,z1,z2,z3,z4,ze],HE.out⟩
  | false=>
   have hRt:R=.error 11:=by rw[←HR1];simp[hc]
   subst hRt;have HX6:=Hd hx6;have HX6B:=Hd hx6b;clear hx6 hx6b hb56 hb6 HR1 c0 c1 c2 c3 c4 d0 d1 d2 d3 d4 f0 f1 f2 f3 f4;go_wp2_with fail;refine leaves_cons (f:=51) (args := #[.pointer (some ⟨w.heap.size,0,none⟩),.pointer (some ⟨w.heap.size+1,0,none⟩)]) (by simp) (by simp[go_sem]) ?_;refine(recover_caught w.heap.size (w.heap.size+1) 11 0 [] w6 HX6.out (by omega)).mono ?_;rintro e u' w'' ⟨rfl,rfl,rfl⟩;have hx5:=load_set HX6B.out (by omega) (.int .i64 0) (.bool false) (.slice none 0 0) (.slice none 0 0) (.slice none 0 0) 11;obtain⟨we,hwe⟩:∃y,y=(set5 w6 w.heap.size (.int .i64 0) (.bool false) (.slice none 0 0) (.slice none 0 0) (.slice none 0 0)).setCell ⟨w.heap.size+1,0,none⟩ (.int .i64 11):=⟨_,rfl⟩
   rw[←hwe] at hx5 ⊢;have z0:=hx5.cell 0 0 rfl rfl;have z1:=hx5.cell 0 1 rfl rfl;have z2:=hx5.cell 0 2 rfl rfl;have z3:=hx5.cell 0 3 rfl rfl;have z4:=hx5.cell 0 4 rfl rfl;have ze:=hx5.cell 1 0 rfl rfl;have hbe:Below w.heap.size w we.drew:=by
    rw[hwe];exact Below.dr ((set5_below HB56.out (Nat.le_refl _) _ _ _ _ _).setCell (Nat.le_succ _) _)
   exact⟨.tuple #[.agg #[.int .i64 0,.bool false,.slice none 0 0,.slice none 0 0,.slice none 0 0],.int .i64 11],by simp[results,Tryz.results15,go_sem,z0,z1,z2,z3,z4,ze],hbe,rfl⟩
theorem load_any {w:World} {B da M:Nat} {d:List Rg} (h:One B w da M d) (hh:Half w) (r root:Int) (hr:I64 root) :
 Calls Tryz.prog 15 #[.pointer (some ⟨da,0,none⟩),.int .i64 r,.int .i64 root] w (LoadPost w (loadD d r root)):=by
 by_cases h0:root=0
 ·subst h0;exact load_zero w da d r
 ·exact load_root h hh r root hr h0
theorem layVs_same:∀{l:List (List UInt8×Tv)} {s:List Int},(∀c∈l,c.2.pages=[])→(layVs l s).1.map (fun e=>(e.1,e.2.data))=l.map (fun e=>(e.1,e.2.data))∧∀e∈(layVs l s).1,e.2.pages≠[]→16<e.2.data.length
 | [],s,_=>by simp[layVs]
 | c::r9,s,hp=>by
  obtain⟨e,e1,e2,h1,h2,h3⟩:=layVs_cons (r:=r9) (s:=s) (hp c (by simp));obtain⟨i1,i2⟩:=layVs_same (l:=r9) (s:=s.drop (needC c.2.data.length)) (fun c hc=>hp c (List.mem_cons_of_mem _ hc));rw[h1];refine⟨by simp only[List.map_cons,i1,e1,e2],fun x hx hne=>?_⟩
  rcases List.mem_cons.1 hx with rfl|hx
  ·rcases h3 with⟨_,rfl,_⟩|⟨h0,rfl,_⟩
   ·exact absurd (hp x (by simp)) hne
   ·have:=needC_pos h0
    show 16<c.2.data.length;omega
  ·exact i2 x hx hne
theorem keysOf_same {l m:List (List UInt8×Tv)} (h:l.map (fun e=>(e.1,e.2.data))=m.map (fun e=>(e.1,e.2.data))):keysOf l=keysOf m:=by
 have:=congrArg (List.map Prod.fst) h;simpa[keysOf,List.map_map,Function.comp_def] using this
theorem sizes_same {l m:List (List UInt8×Tv)} (h:l.map (fun e=>(e.1,e.2.data))=m.map (fun e=>(e.1,e.2.data))) (p q:Int):sizesT (.leaf p l)=sizesT (.leaf q m):=by
 have:=congrArg (List.map (fun x:List UInt8×List UInt8=>((3+(if x.2.length≤16 then x.2.length else 4)+x.1.length:Nat):Int))) h;simpa[sizesT,vSz,List.map_map,Function.comp_def] using this
theorem leafOk_lay {lo hi:List UInt8} {l:List (List UInt8×Tv)} {s:List Int} (h:LeafOk lo hi l) (hp:∀c∈l,c.2.pages=[]):LeafOk lo hi (layVs l s).1:=by
 obtain⟨h1,h2⟩:=layVs_same (s:=s) hp;refine⟨by rw[keysOf_same h1];exact h.1,fun e he=>?_⟩;have hm:(e.1,e.2.data)∈l.map (fun e=>(e.1,e.2.data)):=by rw[←h1];exact List.mem_map.2 ⟨e,he,rfl⟩
 obtain⟨c,hc,hce⟩:=List.mem_map.1 hm
 injection hce with q1 q2
 obtain⟨g1,g2,g3,g4⟩:=h.2 c hc;rw[q1] at g1 g2 g3;exact⟨g1,g2,g3,by rw[←q2];exact g4.1,h2 e he⟩
theorem layKs_keys {f:Tr→List Int→Tr×List Wr×List Int}:∀{l:List (List UInt8×Tr)} {s:List Int},keysOf (layKs f l s).1=keysOf l
 | [],s=>by simp[layKs,keysOf]
 | c::r,s=>by
  rw[layKs_cons];have:=layKs_keys (f:=f) (l:=r) (s:=(f c.2 s).2.2);unfold keysOf at this ⊢;simp only[List.map_cons,this]
theorem layKs_kids {P:List UInt8→List UInt8→Tr→Prop} {f:Tr→List Int→Tr×List Wr×List Int}:∀{l:List (List UInt8×Tr)} {lo hi:List UInt8} {s:List Int},KidsP P lo hi l→(∀c∈l,∀lo hi s,P lo hi c.2→P lo hi (f c.2 s).1)→KidsP P lo hi (layKs f l s).1
 | [c],lo,hi,s,h,hf=>by
  rw[layKs_cons,layKs];exact hf c (by simp) _ _ _ h
 | c::d::r,lo,hi,s,h,hf=>by
  have ih:=layKs_kids (l:=d::r) (s:=(f c.2 s).2.2) h.2.2.2.2 (fun c hc=>hf c (List.mem_cons_of_mem _ hc));rw[layKs_cons];rw[layKs_cons] at ih ⊢;exact⟨hf c (by simp) _ _ _ h.1,h.2.1,h.2.2.1,h.2.2.2.1,ih⟩
theorem sizes_keys {l m:List (List UInt8×Tr)} (h:keysOf l=keysOf m) (p q:Int):sizesT (.node p l)=sizesT (.node q m):=by
 have:=congrArg (List.map (fun x:List UInt8=>((4+x.length:Nat):Int))) h;simpa[sizesT,keysOf,List.map_map,Function.comp_def] using this
theorem lay_shape:∀{n:Nat} {lo hi:List UInt8} {t:Tr} {s:List Int},Shape n lo hi t→Bare t→Shape n lo hi (layT n t s).1∧sizesT (layT n t s).1=sizesT t
 | 0,_,_,_,_,h,_=>h.elim
 | n+1,lo,hi,.leaf p l,s,h,hb=>by
  rw[layT]
  split
  ·exact⟨h,rfl⟩
  ·obtain⟨_,hp⟩:=bare_vals hb
   exact⟨⟨h.1,leafOk_lay h.2 hp⟩,sizes_same (layVs_same hp).1 _ _⟩
 | n+1,lo,hi,.node p l,s,h,hb=>by
  rw[layT];obtain⟨h1,h0⟩:=h;have hk:=layKs_keys (f:=layT n) (l:=l) (s:=s);refine⟨⟨layKs_kids h1 (fun c hc lo hi s hP=>?_),?_⟩,sizes_keys hk _ _⟩
  ·obtain⟨g1,g2⟩:=lay_shape (s:=s) hP.1 ((bare_kids hb).2 c hc)
   refine⟨g1,?_,?_⟩
   ·unfold sumT;rw[g2];exact hP.2.1
   ·unfold sumT;rw[g2];exact hP.2.2
  ·have e:∀(L:List (List UInt8×Tr)),keyAt L 0=(keysOf L)[0]?.getD []:=fun L=>by cases L<;>rfl
   rw[e,hk,←e];exact h0
theorem fresh_zero {n:Nat} {t:Tr} (h:Whole n t) (h0:freshN n t=0):t=.leaf t.page []:=by
 cases n with
 | zero=>exact h.1.1.elim
 | succ n=>
  cases t with
  | leaf p l=>
   rw[freshN] at h0
   split at h0
   ·rename_i e;rw[e];rfl
   ·omega
  | node p l=>rw[freshN] at h0;omega
theorem lay_check {n:Nat} {t:Tr} {s:List Int} (h:Whole n t) (hb:Bare t) (hn:n≤1000) (h0:freshN n t≠0):checkT 1000 (layT n t s).1=true:=by
 obtain⟨⟨h1,h2,h3⟩,_⟩:=h;obtain⟨g1,g2⟩:=lay_shape (s:=s) h1 hb;refine check_ok (n:=n) ⟨g1,by unfold sumT;rw[g2];exact h2,fun p l e=>?_⟩ hn (.inr ?_)
 ·cases n with
  | zero=>exact h1.elim
  | succ n=>
   cases t with
   | leaf q m=>
    rw[layT] at e
    split at e<;>cases e
   | node q m=>
    rw[layT] at e
    injection e with e1 e2
    have hk:=congrArg List.length (layKs_keys (f:=layT n) (l:=m) (s:=s));rw[e2] at hk;simp only[keysOf,List.length_map] at hk;rw[hk];exact h3 q m rfl
 ·cases n with
  | zero=>exact h1.elim
  | succ n=>
   cases t with
   | leaf q m=>
    have hne:m≠[]:=fun e=>by rw[freshN,if_pos e] at h0;exact h0 rfl
    rw[layT,if_neg hne];have hk:=congrArg List.length (layVs_same (s:=s) (bare_vals hb).2).1;simp only[List.length_map] at hk;have:=List.length_pos_iff.2 hne;show 0<(layVs m s).1.length;omega
   | node q m=>
    rw[layT];have hk:=congrArg List.length (layKs_keys (f:=layT n) (l:=m) (s:=s));simp only[keysOf,List.length_map] at hk;have:=h3 q m rfl;show 0<(layKs (layT n) m s).1.length;omega
theorem fits_whole {n:Nat} {t:Tr} (h:Whole n t) (hb:Bare t) (h0:freshN n t≠0):Fits n t:=⟨⟨_,_,h.1.1⟩,hb,h.1.2.1,h0,h.1.2.2⟩
theorem loadD_back {d:List Rg} {r N:Nat} {f:Nat→List UInt8} (hd:RegAt d r N f) {n:Nat} (hn:n≤1000) {t:Tr} (h:Whole n t) (hb:Bare t) {s:List Int} (hs:Spots N s) (hl:freshN n t≤s.length) (hw:Stand f (layT n t s).2.1):loadD d r (layT n t s).1.page=.ok (layT n t s).1:=by
 by_cases h0:freshN n t=0
 ·have ht:=fresh_zero h h0
  have hp0:t.page=0:=hb.page0;rw[hp0] at ht;subst ht;have:(layT n (.leaf 0 []) s).1=.leaf 0 []:=by
   cases n with
   | zero=>rfl
   | succ n=>rw[layT,if_pos rfl]
  rw[this];unfold loadD;exact if_pos rfl
 ·obtain⟨p,e1,e2,e3,e4⟩:=layT_page (fits_whole h hb h0) hs hl
  have:=pgC_lt e3;obtain⟨s2,g1,g2⟩:=load_back hd n 1000 hn t (fits_whole h hb h0) s [] hs hl hw (fun p hp=>by simp);unfold loadD;rw[g1,if_neg (by rw[e1];omega)];show(if checkT 1000 (layT n t s).1 then _ else _)=_;rw[lay_check h hb hn h0,if_pos rfl]
open Go.RowKit
theorem putN_len {leaf:Bool} {l:List En} (h:nodeB leaf l=true):(putN leaf l).length=128:=by
 rw[putN,if_pos h];exact pageOf_length _ _ (by
  have:=fits_node h;unfold fits at this;simp at this;simpa using this.2)
theorem putLC_all {v:List UInt8} {at_:List Int} (hok:putOkC v at_=true):(putLC v at_).length=at_.length∧∀b∈putLC v at_,b.length=128:=by
 rw[putLC,hok,if_pos rfl];refine⟨by simp,fun b hb=>?_⟩;obtain⟨k,_,rfl⟩:=List.mem_map.1 hb;exact pageC_len v at_ k
theorem Spots.ok {N:Nat} {s:List Int} (hs:Spots N s) {v:List UInt8} (hn:needC v.length≠0) (hl:needC v.length≤s.length):putOkC v (s.take (needC v.length))=true:=by
 unfold putOkC;rw[(hs.take _).apt];simp[hn];omega
theorem layVs_writes {N:Nat}:∀{l:List (List UInt8×Tv)} {s:List Int},(∀c∈l,c.2.pages=[])→Spots N s→(l.map fun c=>needC c.2.data.length).sum≤s.length→(layVs l s).2.1.map (·.1)=s.take (l.map fun c=>needC c.2.data.length).sum∧∀x∈(layVs l s).2.1,x.2.length=128
 | [],s,_,_,_=>by simp[layVs]
 | c::r9,s,hp,hs,hl=>by
  simp only[List.map_cons,List.sum_cons] at hl ⊢;obtain⟨e,e1,e2,h1,h2,h3⟩:=layVs_cons (r:=r9) (s:=s) (hp c (by simp));obtain⟨i1,i2⟩:=layVs_writes (l:=r9) (s:=s.drop (needC c.2.data.length)) (fun c hc=>hp c (List.mem_cons_of_mem _ hc)) (hs.drop _) (by rw[List.length_drop];omega)
  rcases h3 with⟨h0,_,h3⟩|⟨h0,_,h3⟩
  ·rw[h3,h0,Nat.zero_add]
   rw[h0,List.drop_zero] at i1 i2;exact⟨i1,i2⟩
  ·have hok:=hs.ok h0 (by omega)
   obtain⟨q1,q2⟩:=putLC_all hok;rw[h3,List.map_append,i1,List.take_add];refine⟨?_,fun x hx=>?_⟩
   ·congr 1
    exact List.map_fst_zip (by omega)
   ·rcases List.mem_append.1 hx with hx|hx
    ·exact q2 _ (List.of_mem_zip hx).2
    ·exact i2 x hx
theorem layKs_writes {N n:Nat} (IH:∀t,Fits n t→∀s,Spots N s→freshN n t≤s.length→(layT n t s).2.1.map (·.1)=s.take (freshN n t)∧∀x∈(layT n t s).2.1,x.2.length=128):∀{l:List (List UInt8×Tr)} {s:List Int},(∀c∈l,Fits n c.2)→Spots N s→(l.map fun c=>freshN n c.2).sum≤s.length→(layKs (layT n) l s).2.1.map (·.1)=s.take (l.map fun c=>freshN n c.2).sum∧∀x∈(layKs (layT n) l s).2.1,x.2.length=128
 | [],s,_,_,_=>by simp[layKs]
 | c::r9,s,hp,hs,hl=>by
  simp only[List.map_cons,List.sum_cons] at hl ⊢;have hlf:(layT n c.2 s).2.2=s.drop (freshN n c.2):=layT_left n c.2 s;rw[layKs_cons,hlf];obtain⟨g1,g2⟩:=IH c.2 (hp c (by simp)) s hs (by omega);obtain⟨i1,i2⟩:=layKs_writes IH (l:=r9) (s:=s.drop (freshN n c.2)) (fun c hc=>hp c (List.mem_cons_of_mem _ hc)) (hs.drop _) (by rw[List.length_drop];omega);refine⟨?_,fun x hx=>?_⟩
  ·show((layT n c.2 s).2.1++(layKs (layT n) r9 (s.drop (freshN n c.2))).2.1).map (·.1)=_
   rw[List.map_append,g1,i1,List.take_add]
  ·rcases List.mem_append.1 hx with hx|hx
   ·exact g2 x hx
   ·exact i2 x hx
theorem drop_take {s:List Int} {k:Nat} (h:1+k≤s.length):s.take k++[(s.drop k).headD 0]=s.take (1+k):=by
 have e:s.drop k=s[k]'(by omega)::s.drop (k+1):=List.drop_eq_getElem_cons (by omega);have e2:s.take (1+k)=s.take k++[s[k]'(by omega)]:=by rw[Nat.add_comm];exact List.take_succ_eq_append_getElem (by omega)
 rw[e,e2]
 rfl
theorem layT_writes {N:Nat}:∀(n:Nat) (t:Tr),Fits n t→∀s,Spots N s→freshN n t≤s.length→(layT n t s).2.1.map (·.1)=s.take (freshN n t)∧∀x∈(layT n t s).2.1,x.2.length=128
 | 0,t,h,_,_,_=>by obtain⟨⟨_,_,h1⟩,_⟩:=h;exact h1.elim
 | n+1,.leaf p l,h,s,hs,hl=>by
  obtain⟨⟨lo,hi,hn0,hlo⟩,hb,hsum,h0,_⟩:=h;have hne:l≠[]:=fun e=>by rw[freshN,if_pos e] at h0;exact h0 rfl
  obtain⟨_,hbv⟩:=bare_vals hb;rw[freshN,if_neg hne] at hl ⊢;rw[layT,if_neg hne];obtain⟨i1,i2⟩:=layVs_writes hbv hs (by omega);have hnb:=leaf_nodeB hlo hbv hs (by omega) hne hsum;refine⟨?_,fun x hx=>?_⟩
  ·show((layVs l s).2.1++[((layVs l s).2.2.headD 0,_)]).map (fun x:Wr=>x.1)=_
   rw[List.map_append,i1,layVs_left];exact drop_take hl
  ·rcases List.mem_append.1 hx with hx|hx
   ·exact i2 x hx
   ·rw[List.mem_singleton.1 hx]
    exact putN_len hnb
 | n+1,.node p l,h,s,hs,hl=>by
  have hks:=fits_kids h;rw[freshN] at hl ⊢;rw[layT];obtain⟨i1,i2⟩:=layKs_writes (fun t h s hs hl=>layT_writes n t h s hs hl) hks hs (by omega);have hnb:=node_nodeB h hs (by omega);refine⟨?_,fun x hx=>?_⟩
  ·show((layKs (layT n) l s).2.1++[((layKs (layT n) l s).2.2.headD 0,_)]).map (fun x:Wr=>x.1)=_
   rw[List.map_append,i1,layKs_left (fun t s=>layT_left n t s)];exact drop_take hl
  ·rcases List.mem_append.1 hx with hx|hx
   ·exact i2 x hx
   ·rw[List.mem_singleton.1 hx]
    exact putN_len hnb
theorem whole_writes {N n:Nat} {t:Tr} (h:Whole n t) (hb:Bare t) {s:List Int} (hs:Spots N s) (hl:freshN n t≤s.length):(layT n t s).2.1.map (·.1)=s.take (freshN n t)∧∀x∈(layT n t s).2.1,x.2.length=128:=by
 by_cases h0:freshN n t=0
 ·have ht:=fresh_zero h h0
  have hp0:t.page=0:=hb.page0;rw[hp0] at ht;subst ht;cases n with
  | zero=>exact h.1.1.elim
  | succ n=>rw[layT,if_pos rfl,h0];simp
 ·exact layT_writes n t (fits_whole h hb h0) s hs hl
def Wrtn (g:Nat→List UInt8) (N:Nat) (W:List Wr) (i:Nat) (d:List Rg):Prop:=∃f,RegAt d 0 N f∧Stand f (W.take i)∧∀p,(∀x∈W.take i,x.1.toNat≠p)→f p=g p
theorem Wrtn.start {d:List Rg} {N:Nat} {g:Nat→List UInt8} (h:RegAt d 0 N g) (W:List Wr):Wrtn g N W 0 d:=⟨g,h,fun x hx=>by simp at hx,fun p _=>rfl⟩
theorem Wrtn.step {g:Nat→List UInt8} {d:List Rg} {N i:Nat} {W:List Wr} (h:Wrtn g N W i d) (hn:(W.map (·.1)).Nodup) (hp:∀x∈W,0≤x.1∧x.1<N) {x:Wr} (hx:W[i]? = some x) (hb:x.2.length=128):writeE d 0 x.1 x.2=0∧Wrtn g N W (i+1) (writeD d 0 x.1 x.2):=by
 obtain⟨f,h1,h2,h3⟩:=h;have hxm:=List.mem_of_getElem? hx;have hpx:=hp x hxm;obtain⟨e,g1,_⟩:=h1.write (p:=x.1) hpx hb;obtain⟨hi,hxe⟩:=List.getElem?_eq_some_iff.1 hx;have ht:W.take (i+1)=W.take i++[x]:=by rw[List.take_succ_eq_append_getElem hi,hxe]
 have hother:∀y∈W.take i,y.1.toNat≠x.1.toNat:=fun y hy he=>by
  have hym:=List.mem_of_mem_take hy;have:=hp y hym;have he2:y.1=x.1:=by omega
  obtain⟨j,hj,hje⟩:=List.getElem_of_mem hy;rw[List.length_take] at hj;rw[List.getElem_take] at hje;have h9:=List.pairwise_iff_getElem.1 hn j i (by simp;omega) (by simpa using hi) (by omega);simp only[List.getElem_map] at h9;exact h9 (by rw[hje,hxe];exact he2)
 refine⟨e,_,g1,fun y hy=>?_,fun p hp9=>?_⟩
 ·rw[ht] at hy
  unfold upd
  rcases List.mem_append.1 hy with hy|hy
  ·rw[if_neg (hother y hy)]
   exact h2 y hy
  ·rw[List.mem_singleton.1 hy,if_pos rfl]
 ·rw[ht] at hp9
  unfold upd;rw[if_neg (fun e=>hp9 x (List.mem_append_right _ (by simp)) e.symm)];exact h3 p (fun y hy=>hp9 y (List.mem_append_left _ hy))
theorem atZ_spots {fr m N:Nat} (h:2+fr+m≤N) (hN:N≤1000):Spots N ((List.range m).map fun(k:Nat)=>((2:Int)+(fr:Int)+(k:Int))):=by
 refine⟨?_,fun p hp=>?_⟩
 ·rw[List.nodup_iff_pairwise_ne,List.pairwise_map]
  exact List.nodup_range.imp (fun h e=>h (by omega))
 ·obtain⟨k,hk,rfl⟩:=List.mem_map.1 hp
  have:=List.mem_range.1 hk;unfold pgC;simp;omega
open Go.RowKit
theorem CellsOwn.row {P:Program} {E t:TypeId} (ht:P.underlying t=some (.slice E)) (hi:RowInfo P E 4 80) {F:Nat→Prop} {n B:Nat} {w:World} {v:Value} {l:List Rc} (h:CellsOwn E F n B w v l) (hB:B≤w.heap.size) (hl:l.length≤100000) {a:Option Addr} {m c:Nat} {l2:List Rc} (hr:TabR 4 (RcOn (Gp F B v) n w) w a m c l2) (hm:m≤100000) :
 ∃v' w',(Builtin.append_ #[t,t] t #[v,.slice a m c]).run P w=.ok v' w'∧CellsOwn E F n B w' v' (l++l2)∧w.grownBy w' v.ownBlock:=by
 obtain⟨L,h1,h2⟩:=h;obtain⟨L2,r1,r2⟩:=TabR.raw hr (fun _ _ h=>h.one);obtain⟨i,z,i1,i2,i3,i4,i5⟩:=hi;have hlm:l2.length=m:=by rw[←r2.1];exact r1.1
 obtain⟨v',w',hr,ho,hg,hv⟩:=run_append_raw (P:=P) B t E i z 4 80 ht i1 i2 i3 i4 i5 (by decide) h1 r1 (by unfold maxLen;omega) (by omega) hB;refine⟨v',w',hr,⟨L++L2,?_,?_⟩,hg⟩
 ·rw[List.length_append,hlm];exact ho
 ·have hag:AgreeF (fun b=>v.ownBlock≠some b) w w':=⟨hg.size,fun b hb hlt=>hg.block b hlt (fun e=>hb e.symm)⟩
  have step:∀{cs:List Value} {y:Rc},RcOn (Gp F B v) n w cs y→RcOn (Gp F B v') n w' cs y:=fun h=>
   (h.lt.agree (hag.sub (fun b hb=>hb.1.2))).mono (fun b hb=>⟨hb.1.1,fun e=>by
    rcases hv with hv|hv
    ·rw[hv] at e;exact hb.1.2 e
    ·rw[hv] at e;have:=Option.some.inj e;have:=hb.2;omega⟩)
  exact(h2.mono (fun _ _ _ h=>step h)).append (r2.mono (fun _ _ _ h=>step h))
theorem RcOn.gp {E:TypeId} {F:Nat→Prop} {n B:Nat} {w:World} {v:Value} {l:List Rc} (h:CellsOwn E F n B w v l) (hF:∀b,F b→b<B) {cs:List Value} {y:Rc} {W:World} (hy:RcOn F n W cs y):RcOn (Gp F B v) n W cs y:=
 hy.mono (fun b hb=>⟨.inl hb,fun e=>by have:=(h.block e).1;have:=hF b hb;omega⟩)
def CellsTo (F:Nat→Prop) (n:Nat) (w:World) (l:List Rc) (e:Ending) (w':World):Prop:=∃v,e=.returned v∧CellsOwn 145 F n w.heap.size w' v l∧Below w.heap.size w w'
theorem info_Cw:RowInfo Tryz.prog 145 4 80:=row_info (by kernel_rfl)
theorem elem_Cw:Tryz.prog.underlying 25=some (.slice (Tryz.prog.elem 25)):=by kernel_rfl
theorem size_Cw (w:World):(sizeOf (Tryz.prog.elem 25)).run Tryz.prog w=.ok 4 w:=by kernel_rfl
theorem with_any {F:Nat→Prop} {n:Nat} {w:World} {a:Option Addr} {m c:Nat} {l:List Rc} {a2:Option Addr} {m2 c2:Nat} {l2:List Rc} (hF:∀b,F b→b<w.heap.size) (h:TabR 4 (RcOn F n w) w a m c l) (g:TabR 4 (RcOn F n w) w a2 m2 c2 l2) {k:Nat} (hk:k<m) (hm:m≤2000) (hm2:m2≤2000) :
 Calls Tryz.prog 129 #[.slice a m c,.int .i64 (k:Int),.slice a2 m2 c2] w (CellsTo F n w (l.take k++l2++l.drop (k+1))):=by
 obtain⟨e1,e2,e3⟩:=h.lens;obtain⟨g1,g2,g3⟩:=g.lens;have c0:CellsOwn 145 F n w.heap.size w (.slice none 0 0) []:=CellsOwn.nil _ _ _ _ _;obtain⟨v1,w1,hr1,c1,hg1⟩:=c0.row Tryz.underlying25 info_Cw (Nat.le_refl _) (by simp) (TabR.mono (TabR.tk h (show k≤m by omega)) (fun _ _ h=>RcOn.gp c0 hF h)) (by omega);have hb1:Below w.heap.size w w1:=(Below.refl _ _).grown hg1 (Nat.le_refl _) (fun g hg=>by cases hg);have r2:TabR 4 (RcOn (Gp F w.heap.size v1) n w1) w1 a2 m2 c2 l2:=TabR.mono (TabR.below (Nat.le_refl _) hb1 g) (fun cs y hy=>RcOn.gp c1 hF (RcOn.below hy hb1));have l1:([]++l.take k).length≤100000:=by simp;omega
 obtain⟨v2,w2,hr2,c2',hg2⟩:=c1.row Tryz.underlying25 info_Cw hb1.size l1 r2 (by omega);have hb2:Below w.heap.size w w2:=hb1.grown hg2 hb1.size (fun g hg=>(c1.block hg).1);obtain⟨a3,ha3,hsl⟩:=slice_from elem_Cw size_Cw a m c (k+1) (by omega);have hrow:TabR 4 (RcOn F n w) w a3 (m-(k+1)) (c-(k+1)) (l.drop (k+1)):=by rw[ha3];exact TabR.dp h (show k+1≤m by omega)
 have r3:TabR 4 (RcOn (Gp F w.heap.size v2) n w2) w2 a3 (m-(k+1)) (c-(k+1)) (l.drop (k+1)):=TabR.mono (TabR.below (Nat.le_refl _) hb2 hrow) (fun cs y hy=>RcOn.gp c2' hF (RcOn.below hy hb2));have l3:([]++l.take k++l2).length≤100000:=by simp;omega
 obtain⟨v3,w3,hr3,c3,hg3⟩:=c2'.row Tryz.underlying25 info_Cw hb2.size l3 r3 (by omega);have hb3:Below w.heap.size w w3:=hb2.grown hg3 hb2.size (fun g hg=>(c2'.block hg).1);have HE:Hid (CellsTo F n w (l.take k++l2++l.drop (k+1)) (.returned v3) w3):=Hd ⟨v3,rfl,by simpa using c3,hb3⟩;have hkc:k≤c:=by omega
 rw[show((k+1:Nat):Int)=(k:Int)+1 by omega] at hsl;clear c0 c1 c2' c3 r2 r3 l1 l3 hb1 hb2 hb3 hg1 hg2 hg3 ha3 hrow h g hF e1 g1;go_enter Tryz.func129,Tryz.ntmps129;go_upto_region 3 with(at_builtin;refine wpList_append_run rfl _ _ _ _ rfl rfl rfl hr1 ?_)
 go_upto_region 4 with(at_builtin;refine wpList_append_run rfl _ _ _ _ rfl rfl rfl hr2 ?_)
 go_wp2_with (at_builtin;refine wpList_append_run rfl _ _ _ _ rfl rfl rfl hr3 ?_)
 go_ret;exact HE.out
open Go.RowKit
def CellsF (E:TypeId) (F:Nat→Prop) (n B:Nat) (w:World) (v:Value) (l:List Rc):Prop:=∃L:List (Cl 4),w.ownsRow B E 4 v l.length (flatC L)∧Tells (RcOn F n w) L l
theorem CellsF.nil (E:TypeId) (F:Nat→Prop) (n B:Nat) (w:World):CellsF E F n B w (.slice none 0 0) []:=⟨[],own_nil w E 4 B,Tells.nil⟩
theorem CellsF.below {E:TypeId} {F:Nat→Prop} {n B:Nat} {w w':World} {v:Value} {l:List Rc} (h:CellsF E F n B w v l) (hb:Below w.heap.size w w'):CellsF E F n B w' v l:=by
 obtain⟨L,h1,h2⟩:=h;exact⟨L,own_held h1 hb,h2.mono (fun _ _ _ h=>h.below hb)⟩
theorem CellsF.set {E:TypeId} {F:Nat→Prop} {n B:Nat} {w:World} {v:Value} {l:List Rc} (h:CellsF E F n B w v l) {p:Addr} (u:Value) (hp:v.ownBlock≠some p.block) (hF:¬F p.block):CellsF E F n B (w.setCell p u) v l:=by
 obtain⟨L,h1,h2⟩:=h;exact⟨L,own_set h1 p u hp,h2.mono (fun _ _ _ h=>h.agree (AgreeF.set ⟨Nat.le_refl _,fun _ _ _=>rfl⟩ (.inl hF)))⟩
theorem CellsF.ge {E:TypeId} {F:Nat→Prop} {n B:Nat} {w:World} {v:Value} {l:List Rc} (h:CellsF E F n B w v l) {b:Nat} (hb:v.ownBlock=some b):B≤b∧b<w.heap.size:=by
 exact qbb2c82
theorem CellsF.own {E:TypeId} {F:Nat→Prop} {n B:Nat} {w:World} {v:Value} {l:List Rc} (h:CellsF E F n B w v l) (hF:∀b,F b→b<B):CellsOwn E F n B w v l:=by
 have hge:=fun b hb=>(h.ge (b:=b) hb).1
 obtain⟨L,h1,h2⟩:=h;exact⟨L,h1,h2.mono (fun _ _ _ h=>h.mono (fun b hb=>⟨.inl hb,fun e=>by have:=hge b e;have:=hF b hb;omega⟩))⟩
theorem CellsF.row {P:Program} {E t:TypeId} (ht:P.underlying t=some (.slice E)) (hi:RowInfo P E 4 80) {F:Nat→Prop} {n B:Nat} {w:World} {v:Value} {l:List Rc} (h:CellsF E F n B w v l) (hB:B≤w.heap.size) (hF:∀b,F b→b<B) (hl:l.length≤100000) {a:Option Addr} {m c:Nat} {l2:List Rc} (hr:TabR 4 (RcOn F n w) w a m c l2) (hm:m≤100000) :
 ∃v' w',(Builtin.append_ #[t,t] t #[v,.slice a m c]).run P w=.ok v' w'∧CellsF E F n B w' v' (l++l2)∧w.grownBy w' v.ownBlock:=by
 have hge:=fun b hb=>(h.ge (b:=b) hb).1
 obtain⟨L,h1,h2⟩:=h;obtain⟨L2,r1,r2⟩:=TabR.raw hr (fun _ _ h=>h.one);obtain⟨i,z,i1,i2,i3,i4,i5⟩:=hi;have hlm:l2.length=m:=by rw[←r2.1];exact r1.1
 obtain⟨v',w',hr,ho,hg,hv⟩:=run_append_raw (P:=P) B t E i z 4 80 ht i1 i2 i3 i4 i5 (by decide) h1 r1 (by unfold maxLen;omega) (by omega) hB;refine⟨v',w',hr,⟨L++L2,?_,?_⟩,hg⟩
 ·rw[List.length_append,hlm];exact ho
 ·have hag:AgreeF F w w':=⟨hg.size,fun b hb hlt=>hg.block b hlt (fun e=>by have:=hge b e.symm;have:=hF b hb;omega)⟩
  exact(h2.mono (fun _ _ _ h=>h.agree hag)).append (r2.mono (fun _ _ _ h=>h.agree hag))
theorem CellsF.key0 {E:TypeId} {F:Nat→Prop} {n B:Nat} {w:World} {g m c:Nat} {y:Rc} {r:List Rc} (h:CellsF E F n B w (.slice (some ⟨g,0,none⟩) m c) (y::r)) (hF:¬F g) (key:List UInt8) :
 CellsF E F n B (w.setCell ⟨g,0,none⟩ (.string (strOf key))) (.slice (some ⟨g,0,none⟩) m c) (⟨key,y.val,y.kid⟩::r):=by
 obtain⟨L,h1,h2⟩:=h;have hag:AgreeF F w (w.setCell ⟨g,0,none⟩ (.string (strOf key))):=AgreeF.set ⟨Nat.le_refl _,fun _ _ _=>rfl⟩ (.inl hF);cases L with
 | nil=>have:=h2.1;simp at this
 | cons x L'=>
  have hx:RcOn F n w x.1 y:=h2.2 0 x y rfl rfl;obtain⟨pa,pn,pc,ka,kn,kc,ex,k1,k2,k3,k4⟩:=hx;have hx':RcOn F n w [.string (strOf key),.string (strOf y.val.data),.slice pa pn pc,.slice ka kn kc] ⟨key,y.val,y.kid⟩:=⟨pa,pn,pc,ka,kn,kc,rfl,k1,k2,k3,k4⟩
  have hlen:(y::r).length=m:=by
   rcases h1.2 with⟨e,_⟩|⟨g',cap,cur,e,_⟩
   ·cases e
   ·cases e;rfl
  have g0:=own_put (by rw[hlen] at h1;exact h1) 0 (.string (strOf key)) (by rw[←hlen];simp);refine⟨⟨_,hx'.len,hx'.one⟩::L',?_,Tells.cons (hx'.agree hag) ?_⟩
  ·have e1:flatC (x::L')=x.1++flatC L':=rfl
   have e2:flatC ((⟨[.string (strOf key),.string (strOf y.val.data),.slice pa pn pc,.slice ka kn kc],hx'.len,hx'.one⟩:Cl 4)::L')=[.string (strOf key),.string (strOf y.val.data),.slice pa pn pc,.slice ka kn kc]++flatC L':=rfl;rw[e2];rw[e1,ex] at g0;rw[show(⟨key,y.val,y.kid⟩::r:List Rc).length=m by rw[←hlen];rfl];exact g0
  ·refine⟨by have:=h2.1;simpa using this,fun i a b ha hb=>?_⟩
   exact(h2.2 (i+1) a b (by simpa using ha) (by simpa using hb)).agree hag
theorem cells_part (A:Nat) (kid:Tr):cellsR (partT A kid).1=(cellsR kid).take A∧(partT A kid).1.page=0∧(partT A kid).1.isLeaf=kid.isLeaf∧(partT A kid).2.1.page=0∧(partT A kid).2.1.isLeaf=kid.isLeaf:=by
 cases kid<;>simp[partT,cellsR,Tr.page,Tr.isLeaf]
theorem cells_part_leaf (A:Nat) (p:Int) (l:List (List UInt8×Tv)):cellsR (partT A (.leaf p l)).2.1=(cellsR (.leaf p l)).drop A:=by simp[partT,cellsR]
theorem cells_part_node (A:Nat) (p:Int) (l:List (List UInt8×Tr)) {y:Rc} {r:List Rc} (h:(cellsR (.node p l)).drop A=y::r):cellsR (partT A (.node p l)).2.1=⟨[],y.val,y.kid⟩::r:=by
 simp only[partT,cellsR] at h ⊢;rw[←List.map_drop] at h;cases hd:l.drop A with
 | nil=>rw[hd] at h;cases h
 | cons c q=>
  rw[hd] at h;cases h
  rfl
theorem part_key (A:Nat) (kid:Tr) {y:Rc} {r:List Rc} (h:(cellsR kid).drop A=y::r):(partT A kid).2.2=y.key:=by
 have hk:(cellsR kid)[A]? = some y:=by
  have:=congrArg (fun l=>l[0]?) h;simpa[List.getElem?_drop] using this
 cases kid with
 | leaf p l=>
  rw[cellsR_leaf] at hk;obtain⟨c,h1,h2⟩:=Option.map_eq_some_iff.1 hk;subst h2;simp[partT,keyAt,h1]
 | node p l=>
  rw[cellsR_node] at hk;obtain⟨c,h1,h2⟩:=Option.map_eq_some_iff.1 hk;subst h2;simp[partT,keyAt,h1]
open Go.RowKit
theorem agr {F:Nat→Prop} (w:World):AgreeF F w w:=⟨Nat.le_refl _,fun _ _ _=>rfl⟩
theorem agal {F:Nat→Prop} {a w:World} {o:Obj} (h:AgreeF F a w):AgreeF F a (w.alloc o):=h.trans (.of_below (Below.al (Below.refl _ _)))
theorem agdr {F:Nat→Prop} {a w:World} (h:AgreeF F a w):AgreeF F a w.drew:=h
theorem agst {r:Nat} {a w:World} {i:Nat} {u:Value} (h:AgreeF (fun b=>b≠r) a w):AgreeF (fun b=>b≠r) a (w.setCell ⟨r,i,none⟩ u):=h.set (.inl fun h=>h rfl)
theorem one_kid {G:Nat→Prop} {n:Nat} {W:World} {b:Nat} {x0 x1 x2:Value} {t:Tr} (hx:BoxAt W b #[x0,x1,x2]) (h:RNodeOn G n W [x0,x1,x2] t):TabR 3 (RNodeOn G n W) W (some ⟨b,0,none⟩) 1 1 [t]:=by
 have hr:=raw_box (w:=W) (b:=b) (L:=[(⟨[x0,x1,x2],rfl,h.one⟩:Cl 3)]) hx (by show 1≤1000;omega);exact Raw.tab hr (Tells.one h)
theorem cell_kid {G:Nat→Prop} {n:Nat} {W:World} {b:Nat} {x0 x1 x2:Value} {t:Tr} (key:List UInt8) (hx:BoxAt W b #[x0,x1,x2]) (h:RNodeOn G n W [x0,x1,x2] t) (hb:G b) :
 RcOn G n W [.string (strOf key),.string (strOf []),.slice none 0 0,.slice (some ⟨b,0,none⟩) 1 1] ⟨key,⟨[],[]⟩,some t⟩:=
 ⟨none,0,0,some ⟨b,0,none⟩,1,1,rfl,⟨rfl,Nat.le_refl _,by unfold maxLen;omega,fun _=>rfl,.inl rfl⟩,.inl rfl,one_kid hx h,.inr fun b' off e=>by cases e;exact hb⟩
theorem two_cells {G:Nat→Prop} {n:Nat} {W:World} {z:Nat} {u0 u1 u2 u3 v0 v1 v2 v3:Value} {y y':Rc} (hz:BoxAt W z #[u0,u1,u2,u3,v0,v1,v2,v3]) (h:RcOn G n W [u0,u1,u2,u3] y) (g:RcOn G n W [v0,v1,v2,v3] y') :
 TabR 4 (RcOn G n W) W (some ⟨z,0,none⟩) 2 2 [y,y']:=by
 have hr:=raw_box (w:=W) (b:=z) (L:=[(⟨[u0,u1,u2,u3],rfl,h.one⟩:Cl 4),⟨[v0,v1,v2,v3],rfl,g.one⟩]) hz (by show 2≤1000;omega);exact Raw.tab hr (Tells.cons h (Tells.one g))
theorem one_cell {G:Nat→Prop} {n:Nat} {W:World} {z:Nat} {u0 u1 u2 u3:Value} {y:Rc} (hz:BoxAt W z #[u0,u1,u2,u3]) (h:RcOn G n W [u0,u1,u2,u3] y) :
 TabR 4 (RcOn G n W) W (some ⟨z,0,none⟩) 1 1 [y]:=by
 have hr:=raw_box (w:=W) (b:=z) (L:=[(⟨[u0,u1,u2,u3],rfl,h.one⟩:Cl 4)]) hz (by show 1≤1000;omega);exact Raw.tab hr (Tells.one h)
theorem split_cells {l:List (List UInt8×Tr)} {k A:Nat} {kid:Tr} {xk:List UInt8} (hx:l[k]? = some (xk,kid)) (hA:atF (sizesT kid)=(A:Int)) (h0:0<A) (p:Int) :
 ∃m,splitT l k=some m∧cellsR (.node 0 m)=(cellsR (.node p l)).take k++[⟨xk,⟨[],[]⟩,some (partT A kid).1⟩,⟨(partT A kid).2.2,⟨[],[]⟩,some (partT A kid).2.1⟩]++(cellsR (.node p l)).drop (k+1):=by
 have hkey:keyAt l k=xk:=by unfold keyAt;rw[hx];rfl
 have hkd:kidAt l k=kid:=by unfold kidAt;rw[hx];rfl
 refine⟨l.take k++((xk,(partT A kid).1)::((partT A kid).2.2,(partT A kid).2.1)::l.drop (k+1)),?_,?_⟩
 ·unfold splitT
  rw[hkd,hkey,hA,if_neg (by omega),Int.toNat_natCast]
 ·simp[cellsR,List.map_take,List.map_drop]
def RowTo (G:Nat→Prop) (n:Nat) (wc:World) (t:Tr) (m:Nat) (e:Ending) (w':World):Prop:=
 ∃a d,e=.returned (.slice a m d)∧RNodeOn G (n+1) w' [.int .i64 0,.bool t.isLeaf,.slice a m d] t∧Below wc.heap.size wc w'
theorem row_to {G:Nat→Prop} {n:Nat} {wc W w':World} {e:Ending} {t:Tr} {m:Nat} {cs:List Rc} (hp:t.page=0) (hm:cntT t=m) (hl:cellsR t=cs) (hb:Below wc.heap.size wc W) (hG:∀b,W.heap.size≤b→G b)
 (h:CellsTo (fun x=>G x∧x<W.heap.size) n W cs e w'):RowTo G n wc t m e w':=by
 subst hl hm;obtain⟨v,rfl,h1,h2⟩:=h;obtain⟨a,d,rfl,_,_,k1,k2⟩:=h1.sl;rw[cellsR_len] at k1 k2 ⊢;refine⟨a,d,rfl,?_,below_via hb h2⟩;have:=RNodeOn.mk (t:=t) (F:=G) (TabR.mono k1 (fun _ _ h=>h.mono (fun b hb=>by
  rcases hb.1 with hb|hb
  ·exact hb.1
  ·exact hG b hb))) (k2.mono hG)
 rw[hp] at this;exact this
theorem with_to {G:Nat→Prop} {n:Nat} {wc W:World} {a:Option Addr} {m c:Nat} {L:List Rc} {a2:Option Addr} {m2 c2 k:Nat} {l2:List Rc} {t:Tr} {q:Nat} (hp:t.page=0) (hq:cntT t=q) (hl:cellsR t=L.take k++l2++L.drop (k+1)) (hb:Below wc.heap.size wc W) (hG:∀b,wc.heap.size≤b→G b)
 (h:TabR 4 (RcOn G n W) W a m c L) (g:TabR 4 (RcOn G n W) W a2 m2 c2 l2) (hk:k<m) (hm:m≤2000) (hm2:m2≤2000) :
 Calls Tryz.prog 129 #[.slice a m c,.int .i64 (k:Int),.slice a2 m2 c2] W (RowTo G n wc t q):=
 (with_any (fun _ h=>h.2) (TabR.mono h (fun _ _ hy=>RcOn.lt hy)) (TabR.mono g (fun _ _ hy=>RcOn.lt hy)) hk hm hm2).mono fun _ _ h=>row_to hp hq hl hb (fun b h=>hG b (Nat.le_trans hb.size h)) h
theorem with_two {G:Nat→Prop} {n:Nat} {wc W:World} {a:Option Addr} {m c k:Nat} {L:List Rc} {t:Tr} {q:Nat} (hp:t.page=0) (hq:cntT t=q) (hb:Below wc.heap.size wc W) (hG:∀b,wc.heap.size≤b→G b) (h:TabR 4 (RcOn G n wc) wc a m c L) (hk:k<m) (hm:m≤2000) {ra rb z:Nat} {xk key:List UInt8} {TA TB:Tr} {x0 x1 x2 y0 y1 y2:Value} {v0:_}
 (hl:cellsR t=L.take k++[⟨xk,⟨[],[]⟩,some TA⟩,⟨key,⟨[],[]⟩,some TB⟩]++L.drop (k+1)) (hv:v0=strOf []) (g1:RNodeOn G n wc [x0,x1,x2] TA) (g2:RNodeOn G n wc [y0,y1,y2] TB) (r1:wc.heap.size≤ra) (r2:wc.heap.size≤rb)
 (hA:BoxAt W ra #[x0,x1,x2]) (hB:BoxAt W rb #[y0,y1,y2]) (hz:BoxAt W z #[.string (strOf xk),.string v0,.slice none 0 0,.slice (some ⟨ra,0,none⟩) 1 1,.string (strOf key),.string v0,.slice none 0 0,.slice (some ⟨rb,0,none⟩) 1 1]) :
 Calls Tryz.prog 129 #[.slice a m c,.int .i64 (k:Int),.slice (some ⟨z,0,none⟩) 2 2] W (RowTo G n wc t q):=by
 subst hv;exact with_to hp hq hl hb hG (TabR.mono (TabR.below (Nat.le_refl _) hb h) (fun _ _ hy=>RcOn.below hy hb)) (two_cells hz (cell_kid xk hA (g1.below hb) (hG _ r1)) (cell_kid key hB (g2.below hb) (hG _ r2))) hk hm (by omega)
theorem with_one {G:Nat→Prop} {n:Nat} {wc W:World} {a:Option Addr} {m c k:Nat} {L:List Rc} {t:Tr} {q:Nat} (hp:t.page=0) (hq:cntT t=q) (hb:Below wc.heap.size wc W) (hG:∀b,wc.heap.size≤b→G b) (h:TabR 4 (RcOn G n wc) wc a m c L) (hk:k<m) (hm:m≤2000) {ra z:Nat} {xk:List UInt8} {TA:Tr} {x0 x1 x2:Value} {v0:_}
 (hl:cellsR t=L.take k++[⟨xk,⟨[],[]⟩,some TA⟩]++L.drop (k+1)) (hv:v0=strOf []) (g1:RNodeOn G n wc [x0,x1,x2] TA) (r1:wc.heap.size≤ra)
 (hA:BoxAt W ra #[x0,x1,x2]) (hz:BoxAt W z #[.string (strOf xk),.string v0,.slice none 0 0,.slice (some ⟨ra,0,none⟩) 1 1]) :
 Calls Tryz.prog 129 #[.slice a m c,.int .i64 (k:Int),.slice (some ⟨z,0,none⟩) 1 1] W (RowTo G n wc t q):=by
 subst hv;exact with_to hp hq hl hb hG (TabR.mono (TabR.below (Nat.le_refl _) hb h) (fun _ _ hy=>RcOn.below hy hb)) (one_cell hz (cell_kid xk hA (g1.below hb) (hG _ r1))) hk hm (by omega)
theorem RNodeOn.put3 {G:Nat→Prop} {n:Nat} {W:World} {cs:List Value} {t:Tr} (h:RNodeOn G n W cs t) {r:Nat} (hr:¬G r) (u0 u1 u2:Value):RNodeOn G n (((W.setCell ⟨r,0,none⟩ u0).setCell ⟨r,1,none⟩ u1).setCell ⟨r,2,none⟩ u2) cs t:=
 h.agree (((AgreeF.set (AgreeF.set (AgreeF.set ⟨Nat.le_refl _,fun _ _ _=>rfl⟩ (.inl hr)) (.inl hr)) (.inl hr))))
open Go.RowKit
def firstRc (key:List UInt8) (lf:Bool):List Rc→List Rc
 | []=>[]
 | y::r=>if lf then y::r else ⟨key,y.val,y.kid⟩::r
theorem firstRc_len (key:List UInt8) (lf:Bool) (L:List Rc):(firstRc key lf L).length=L.length:=by
 cases L with
 | nil=>rfl
 | cons y r=>cases lf<;>rfl
theorem firstRc_at (key:List UInt8) (lf:Bool) (L:List Rc) (i:Nat) {y:Rc} (h:L[i]? = some y):(firstRc key lf L)[i]? = some (if i=0∧lf=false then ⟨key,y.val,y.kid⟩ else y):=by
 cases L with
 | nil=>simp at h
 | cons x r=>
  cases i with
  | zero=>simp at h;subst h;cases lf<;>simp[firstRc]
  | succ i=>simp at h;cases lf<;>simp[firstRc,h]
theorem firstRc_succ (key:List UInt8) (lf:Bool) (L:List Rc) (i:Nat) {y:Rc} (h:L[i]? = some y):(firstRc key lf L).take (i+1)=(firstRc key lf L).take i++[if i=0∧lf=false then ⟨key,y.val,y.kid⟩ else y]:=by
 rw[List.take_add_one,firstRc_at key lf L i h];rfl
theorem join_cells {key:List UInt8} {a b:Tr} (h:a.isLeaf=b.isLeaf):cellsR (joinT key a b)=cellsR a++firstRc key b.isLeaf (cellsR b)∧(joinT key a b).page=0∧(joinT key a b).isLeaf=a.isLeaf:=by
 cases a with
 | leaf p l=>
  cases b with
  | leaf q m=>exact⟨by cases m<;>simp[joinT,cellsR,firstRc,Tr.isLeaf],rfl,rfl⟩
  | node q m=>cases h
 | node p l=>
  cases b with
  | leaf q m=>cases h
  | node q m=>exact⟨by cases m<;>simp[joinT,cellsR,firstRc,Tr.isLeaf,firstK],rfl,rfl⟩
theorem join_rows {l:List (List UInt8×Tr)} {j:Nat} (hj:j+1<l.length) (p:Int) :
 cellsR (.node 0 (l.take (j+1)++l.drop (j+2)))=(cellsR (.node p l)).take (j+1)++[]++(cellsR (.node p l)).drop (j+1+1) ∧
 cellsR (.node 0 (joined l j))=(cellsR (.node 0 (l.take (j+1)++l.drop (j+2)))).take j++[⟨keyAt l j,⟨[],[]⟩,some (joinT (keyAt l (j+1)) (kidAt l j) (kidAt l (j+1)))⟩]++(cellsR (.node 0 (l.take (j+1)++l.drop (j+2)))).drop (j+1) ∧
 (l.take (j+1)++l.drop (j+2)).length+1=l.length∧(joined l j).length+1=l.length:=by
 have h1:(l.take (j+1)).length=j+1:=by simp;omega
 have h2:(l.take (j+1)++l.drop (j+2)).take j=l.take j:=by rw[List.take_append_of_le_length (by omega),List.take_take,Nat.min_eq_left (by omega)]
 have h3:(l.take (j+1)++l.drop (j+2)).drop (j+1)=l.drop (j+2):=by rw[List.drop_append_of_le_length (by omega),List.drop_eq_nil_of_le (by omega),List.nil_append]
 refine⟨by simp[cellsR,List.map_take,List.map_drop],?_,by simp;omega,by unfold joined;simp;omega⟩;simp only[cellsR];rw[←List.map_take,←List.map_drop,h2,h3];simp[joined]
theorem CellsF.append {P:Program} {E t:TypeId} (ht:P.underlying t=some (.slice E)) (hi:RowInfo P E 4 80) {F:Nat→Prop} {n B:Nat} {w:World} {v:Value} {l:List Rc} (h:CellsF E F n B w v l) (hB:B≤w.heap.size) (hF:∀b,F b→b<B) (hl:l.length≤100000) {cs:List Value} {y:Rc} (hy:RcOn F n w cs y) :
 ∃v' w',(Builtin.append_ #[t,t] t #[v,.slice (some ⟨w.heap.size,0,none⟩) 1 1]).run P (w.alloc (.cells cs.toArray E))=.ok v' w'∧CellsF E F n B w' v' (l++[y])∧w.grownBy w' v.ownBlock:=by
 have hge:=fun b hb=>(h.ge (b:=b) hb).1
 obtain⟨L,h1,h2⟩:=h;obtain⟨i,z,i1,i2,i3,i4,i5⟩:=hi;obtain⟨v',w',hr,ho,hg,hv⟩:=run_append_new (P:=P) B t E i z 4 80 ht i1 i2 i3 i4 i5 (by decide) h1 cs.toArray (by simpa using hy.len) (by simpa using hy.one) (by unfold maxLen;omega) (by omega) hB;refine⟨v',w',hr,⟨L++[⟨cs,hy.len,hy.one⟩],?_,?_⟩,hg⟩
 ·have e:flatC (L++[⟨cs,hy.len,hy.one⟩])=flatC L++cs:=by rw[flatC_append];exact congrArg (flatC L++·) (List.append_nil cs)
  rw[e,List.length_append];exact ho
 ·have hag:AgreeF F w w':=⟨hg.size,fun b hb hlt=>hg.block b hlt (fun e=>by have:=hge b e.symm;have:=hF b hb;omega)⟩
  exact(h2.mono (fun _ _ _ h=>h.agree hag)).append (Tells.one (hy.agree hag))
theorem rnode_end {F G:Nat→Prop} {n:Nat} {w w':World} {T:Tr} {r:Nat} {p:Int} {lf:Bool} {a:Option Addr} {m d:Nat} (hr:w.heap.size≤r) (hG:¬G r) (hGF:∀b,G b→Fr F w b) (h:RNodeOn G n w' [.int .i64 p,.bool lf,.slice a m d] T) (hb:Below w.heap.size w w') :
 RNodeTo F n w T (.returned (.agg #[.int .i64 p,.bool lf,.slice a m d])) (((w'.setCell ⟨r,0,none⟩ (.int .i64 p)).setCell ⟨r,1,none⟩ (.bool lf)).setCell ⟨r,2,none⟩ (.slice a m d)):=
 ⟨[.int .i64 p,.bool lf,.slice a m d],rfl,(h.put3 hG _ _ _).mono hGF,((hb.setCell (by simpa using hr) _).setCell (by simpa using hr) _).setCell (by simpa using hr) _⟩
theorem rend {F G:Nat→Prop} {n:Nat} {w w':World} {T:Tr} {r:Nat} {p:Int} {lf:Bool} {a:Option Addr} {m d:Nat} {x0 x1 x2:Value} (hx:Boxes w' [(r,[x0,x1,x2])]) (hr:w.heap.size≤r) (hG:¬G r) (hGF:∀b,G b→Fr F w b) (h:RNodeOn G n w' [.int .i64 p,.bool lf,.slice a m d] T) (hb:Below w.heap.size w w') :
 (((w'.setCell ⟨r,0,none⟩ (.int .i64 p)).setCell ⟨r,1,none⟩ (.bool lf)).setCell ⟨r,2,none⟩ (.slice a m d)).cell? ⟨r,0,none⟩=some (.int .i64 p) ∧
 (((w'.setCell ⟨r,0,none⟩ (.int .i64 p)).setCell ⟨r,1,none⟩ (.bool lf)).setCell ⟨r,2,none⟩ (.slice a m d)).cell? ⟨r,1,none⟩=some (.bool lf) ∧
 (((w'.setCell ⟨r,0,none⟩ (.int .i64 p)).setCell ⟨r,1,none⟩ (.bool lf)).setCell ⟨r,2,none⟩ (.slice a m d)).cell? ⟨r,2,none⟩=some (.slice a m d) ∧
 Hid (RNodeTo F n w T (.returned (.agg #[.int .i64 p,.bool lf,.slice a m d])) (((w'.setCell ⟨r,0,none⟩ (.int .i64 p)).setCell ⟨r,1,none⟩ (.bool lf)).setCell ⟨r,2,none⟩ (.slice a m d))):=by
 have hxe:=((hx.put 0 (.int .i64 p) (by simp)).put 1 (.bool lf) (by simp)).put 2 (.slice a m d) (by simp);exact⟨hxe.cell 0 0 rfl rfl,hxe.cell 0 1 rfl rfl,hxe.cell 0 2 rfl rfl,Hd (rnode_end hr hG hGF h hb)⟩
theorem RNodeTo.split {F:Nat→Prop} {n:Nat} {w w':World} {t:Tr} {e:Ending} (h:RNodeTo F n w t e w'):∃p l a m d,e=.returned (.agg #[.int .i64 p,.bool l,.slice a m d])∧RNodeOn (Fr F w) n w' [.int .i64 p,.bool l,.slice a m d] t∧Below w.heap.size w w':=by
 obtain⟨cs,rfl,h1,h2⟩:=h;cases n with
 | zero=>exact h1.elim
 | succ n=>
  obtain⟨a,c,rfl,_⟩:=h1.at;exact⟨_,_,_,_,_,rfl,h1,h2⟩
theorem RNodeOn.row {G:Nat→Prop} {n:Nat} {w:World} {x y:Value} {a:Option Addr} {m d:Nat} {t:Tr} (h:RNodeOn G (n+1) w [x,y,.slice a m d] t) (hm:cntT t=m):TabR 4 (RcOn G n w) w a m d (cellsR t):=by
 obtain⟨a',d',e,h1,_⟩:=h.at;simp only[List.cons.injEq,Value.slice.injEq,and_true] at e;obtain⟨_,_,rfl,_,rfl⟩:=e;rw[hm] at h1;exact h1
theorem RNodeOn.kid {F:Nat→Prop} {n:Nat} {w:World} {a:Option Addr} {m c:Nat} {p:Int} {l:List (List UInt8×Tr)} (h:TabR 4 (RcOn F n w) w a m c (cellsR (.node p l))) {k:Nat} (hk:k<m) :
 ∃b off bk ok kcs pa pn pc kc,a=some ⟨b,off,none⟩∧b<w.heap.size∧bk<w.heap.size∧RNodeOn F n w kcs (kidAt l k)∧w.cell? ⟨b,off+k*4,none⟩=some (.string (strOf (keyAt l k)))∧w.cell? ⟨b,off+k*4+1,none⟩=some (.string (strOf []))∧w.cell? ⟨b,off+k*4+2,none⟩=some (.slice pa pn pc) ∧
  w.cell? ⟨b,off+k*4+3,none⟩=some (.slice (some ⟨bk,ok,none⟩) 1 kc)∧(∀j v,kcs[j]? = some v→w.cell? ⟨bk,ok+j,none⟩=some v)∧1≤kc∧kc≤9223372036854775807:=by
 obtain⟨b,off,y,pa,pn,pc,ka,kn,kc,rfl,hbb,hy,_,_,_,hkid,hfk,c0,c1,c2,c3⟩:=RNodeOn.cell h hk;rw[cellsR_node] at hy;obtain⟨x,hx1,hx2⟩:=Option.map_eq_some_iff.1 hy;subst hx2;have s1:=hkid.lens;obtain rfl:kn=1:=s1.1.symm;obtain⟨bk,ok,kd,kcs,rfl,hbk,hyk,_,hon,hck⟩:=TabR.at hkid (show 0<1 by omega);cases hyk;have hkey:keyAt l k=x.1:=by unfold keyAt;rw[hx1];rfl
 have hkd:kidAt l k=x.2:=by unfold kidAt;rw[hx1];rfl
 refine⟨b,off,bk,ok,kcs,pa,pn,pc,kc,rfl,hbb,hbk,by rw[hkd];exact hon,by rw[hkey];exact c0,c1,c2,c3,fun j v hv=>by simpa using hck j v hv,s1.2.1,s1.2.2⟩
open Go.RowKit
theorem IsLcAt {w:World} {a:Option Addr} {n c:Nat} {l:List (List UInt8×Tv)} (h:TabR 4 (IsLc w) w a n c l) {k:Nat} (hk:k<n) :
 ∃b off y,a=some ⟨b,off,none⟩∧b<w.heap.size∧l[k]? = some y∧w.cell? ⟨b,off+k*4,none⟩=some (.string (strOf y.1))∧w.cell? ⟨b,off+k*4+1,none⟩=some (.string (strOf y.2.data)):=by
 obtain⟨b,off,y,cs,e1,e2,e3,_,⟨pa,pn,pc,ka,kc,rfl,_⟩,e6⟩:=TabR.at h hk;exact⟨b,off,y,e1,e2,e3,e6 0 _ rfl,e6 1 _ rfl⟩
theorem IsNcAt {n:Nat} {w:World} {a:Option Addr} {m c:Nat} {l:List (List UInt8×Tr)} (h:TabR 4 (IsNc n w) w a m c l) {k:Nat} (hk:k<m) :
 ∃b off y,a=some ⟨b,off,none⟩∧b<w.heap.size∧l[k]? = some y∧w.cell? ⟨b,off+k*4,none⟩=some (.string (strOf y.1)):=by
 obtain⟨b,off,y,cs,e1,e2,e3,_,⟨pa,pc,ka,kc,rfl,_⟩,e6⟩:=TabR.at h hk;exact⟨b,off,y,e1,e2,e3,e6 0 _ rfl⟩
theorem RIn.node {n:Nat} {w:World} {cs:List Value} {p:Int} {l:List (List UInt8×Tr)} (h:RIn (n+1) w cs (.node p l)):∃a m c,cs=[.int .i64 p,.bool false,.slice a m c]∧TabR 4 (IsNc n w) w a m c l:=h
theorem RIn.leaf {n:Nat} {w:World} {cs:List Value} {p:Int} {l:List (List UInt8×Tv)} (h:RIn (n+1) w cs (.leaf p l)):∃a m c,cs=[.int .i64 p,.bool true,.slice a m c]∧TabR 4 (IsLc w) w a m c l:=h
theorem RIn.any {n:Nat} {w:World} {cs:List Value} {t:Tr} (h:RIn (n+1) w cs t):∃a c,cs=[.int .i64 t.page,.bool t.isLeaf,.slice a (cntT t) c]∧cntT t≤c∧c≤9223372036854775807∧t.keys.length=cntT t ∧
 ∀k,k<cntT t→∃b off,a=some ⟨b,off,none⟩∧b<w.heap.size∧w.cell? ⟨b,off+k*4,none⟩=some (.string (strOf (t.keys[k]?.getD []))):=by
 cases t with
 | leaf p l=>
  obtain⟨a,m,c,rfl,h1⟩:=h.leaf;obtain⟨e1,e2,e3⟩:=h1.lens;subst e1;refine⟨a,c,rfl,e2,e3,by simp[Tr.keys,keysOf,cntT],fun k hk=>?_⟩;obtain⟨b,off,y,f1,f2,f3,f4,_⟩:=IsLcAt h1 hk;exact⟨b,off,f1,f2,by rw[f4];simp[Tr.keys,keysOf,f3]⟩
 | node p l=>
  obtain⟨a,m,c,rfl,h1⟩:=h.node;obtain⟨e1,e2,e3⟩:=h1.lens;subst e1;refine⟨a,c,rfl,e2,e3,by simp[Tr.keys,keysOf,cntT],fun k hk=>?_⟩;obtain⟨b,off,y,f1,f2,f3,f4⟩:=IsNcAt h1 hk;exact⟨b,off,f1,f2,by rw[f4];simp[Tr.keys,keysOf,f3]⟩
theorem wayD_step (ks:List (List UInt8)) (key:List UInt8) (n:Nat):wayD ks key (n+1)=if key<ks[n+1]?.getD [] then wayD ks key n else n+1:=rfl
theorem rway_any {n:Nat} {w:World} {cs:List Value} {t:Tr} (h:RIn n w cs t) (key:List UInt8) (hc:cntT t≤1000) :
 Calls Tryz.prog 128 #[.agg cs.toArray,.string (strOf key)] w fun e w'=>e=.returned (.int .i64 (wayF t.keys key:Int))∧Below w.heap.size w w':=by
 cases n with
 | zero=>exact h.elim
 | succ n=>
 obtain⟨a,c,rfl,h2,h3,h4,h5⟩:=h.any;have HC:=Hd h5;have HL:=Hd h4;have hA:Below w.heap.size w (w.alloc (.cells #[.int .i64 t.page,.bool t.isLeaf,.slice a (cntT t) c] 27)):=(Below.refl _ _).alloc (Nat.le_refl _) _;have HBX:=Hd ((Boxes.nil w).alloc #[.int .i64 t.page,.bool t.isLeaf,.slice a (cntT t) c] 27 rfl);have HW:Hid (wayF t.keys key=wayD t.keys key (cntT t-1)):=Hd (by unfold wayF;rw[h4]);generalize t.keys=K at *;generalize cntT t=m at *;generalize t.page=pg at *;generalize t.isLeaf=lf at *;obtain⟨R,hR⟩:∃R,wayF K key=R:=⟨_,rfl⟩
 rw[hR] at HW ⊢;obtain⟨wA,hwA⟩:∃wA,w.alloc (.cells #[.int .i64 pg,.bool lf,.slice a m c] 27)=wA:=⟨_,rfl⟩
 rw[hwA] at hA HBX;have HA:=Hd hA;have f2:=HBX.out.cell 0 2 rfl rfl;clear h h4 h5 hR hA;go_enter Tryz.func128,Tryz.ntmps128;go_wp2_with fail;clear hwA
 go_loop [5] (fun s=>(m=0∧s=.int .i64 (-1))∨(0<m∧∃i:Nat,i<m∧s=.int .i64 i∧R=wayD K key i)) (fun s=>(intOf s).toNat)
 case atStart=>
  by_cases h0:m=0
  ·exact .inl ⟨h0,by rw[h0];rfl⟩
  ·exact .inr ⟨by omega,m-1,by omega,by congr 1;omega,HW.out⟩
 case round=>
  rcases hrel with⟨rfl,rfl⟩|⟨hm,i,hi,rfl,hr⟩
  ·go_wp2_with fail
   go_ret;exact⟨ret_int (by rw[HW.out];rfl),HA.out⟩
  ·cases i with
   | zero=>
    have HR:=Hd hr;clear hr;go_wp2_with fail;go_ret;exact⟨ret_int (by rw[HR.out]<;>rfl),HA.out⟩
   | succ i=>
    have d0:decide ((0:Int)<((i+1:Nat):Int))=true:=by simp<;>omega
    obtain⟨b,off,rfl,hb,hcell⟩:=HC.out (i+1) hi;have c1:=(HA.out.cell (p:=⟨b,off+(i+1)*4,none⟩) hb).trans hcell;rw[wayD_step] at hr;generalize K[i+1]?.getD []=k at *;clear hcell
    rcases ktri key k with hlt|rfl|hlt
    ·rw[if_pos hlt] at hr
     obtain⟨_,e3,e1,e2⟩:=cmp_lt hlt;clear e3;have HR:=Hd hr;clear hr hlt;go_wp2_with fail
     go_round
     case rel=>exact .inr ⟨hm,i,by omega,by first|rfl|(congr 1;omega),HR.out⟩
     case measure=>simp[intOf]<;>omega
    ·rw[if_neg (klt_irrefl _)] at hr
     obtain⟨e1,e2⟩:=cmp_eq key;have HR:=Hd hr;clear hr;go_wp2_with fail;go_ret;exact⟨ret_int (by rw[HR.out];go_num),HA.out⟩
    ·rw[if_neg (klt_asymm hlt)] at hr
     obtain⟨e1,e2,e3,e4⟩:=cmp_lt hlt;clear e3 e4;have HR:=Hd hr;clear hr hlt;go_wp2_with fail;go_ret;exact⟨ret_int (by rw[HR.out];go_num),HA.out⟩
open Go.RowKit
theorem TabR.unmap {α β:Type} {sz:Nat} {R:List Value→β→Prop} {f:α→β} {w:World} {a:Option Addr} {n c:Nat} {l:List α} (h:TabR sz R w a n c (l.map f)):TabR sz (fun cs y=>R cs (f y)) w a n c l:=by
 obtain⟨h1,h2,h3,hn,h4⟩:=h;refine⟨by simpa using h1,h2,h3,hn,?_⟩
 rcases h4 with h4|⟨b,off,h5,h6,h7⟩
 ·exact .inl h4
 ·exact .inr ⟨b,off,h5,h6,fun i y hy=>h7 i (f y) (by rw[List.getElem?_map,hy];rfl)⟩
theorem RNodeOn.toRIn {F:Nat→Prop}:∀{n:Nat} {w:World} {cs:List Value} {t:Tr},RNodeOn F n w cs t→RIn n w cs t
 | 0,_,_,_,h=>h.elim
 | n+1,w,cs,.leaf p l,h=>by
  obtain⟨a,c,e,h1,_⟩:=h.at;refine⟨a,_,c,e,TabR.mono (TabR.unmap h1) (fun cs y hy=>?_)⟩;obtain⟨pa,pn,pc,ka,kn,kc,e,k1,_,k2,_⟩:=hy;obtain rfl:kn=0:=k2.1.symm;exact⟨pa,pn,pc,ka,kc,e,k1,unit_any k2⟩
 | n+1,w,cs,.node p l,h=>by
  obtain⟨a,c,e,h1,_⟩:=h.at;refine⟨a,_,c,e,TabR.mono (TabR.unmap h1) (fun cs y hy=>?_)⟩;obtain⟨pa,pn,pc,ka,kn,kc,e,k1,_,k2,_⟩:=hy;obtain rfl:kn=1:=k2.1.symm;obtain rfl:pn=0:=k1.1.symm;exact⟨pa,pc,ka,kc,e,k1,TabR.mono k2 (fun _ _ h=>h.toRIn)⟩
theorem set_cells {l:List (List UInt8×Tr)} {k:Nat} (hk:k<l.length) (p:Int) (key:List UInt8) (T:Tr) :
 cellsR (.node 0 (l.set k (key,T)))=(cellsR (.node p l)).take k++[⟨key,⟨[],[]⟩,some T⟩]++(cellsR (.node p l)).drop (k+1):=by
 obtain⟨a,c,b,rfl,rfl⟩:=list_at hk;rw[List.set_append_right _ _ (Nat.le_refl _),Nat.sub_self,List.set_cons_zero];simp[cellsR,List.drop_append]
open Go.RowKit
theorem rsizes_node {n:Nat} {F:Nat→Prop} {w:World} {cs:List Value} {p:Int} {l:List (List UInt8×Tr)} (h:RNodeOn F (n+1) w cs (.node p l)) (hb:Bnd (n+1) (.node p l)) :
 Calls Tryz.prog 126 #[.agg cs.toArray] w (SizesPost w (sizesT (.node p l))):=by
 obtain⟨a,c,rfl,h1,_⟩:=h.at;obtain⟨g1,g2⟩:=hb;obtain⟨e1,e2,e3⟩:=h1.lens;obtain⟨kn,hkn'⟩:∃x,cntT (.node p l)=x:=⟨_,rfl⟩
 have hkl:l.length=kn:=hkn';rw[hkn'] at h1 e1 e2 ⊢;have hsl:(sizesT (.node p l)).length=kn:=by rw[sizes_len_node,hkl]
 have HS:Hid (∀(i:Nat) (x:List UInt8×Tr),l[i]? = some x→(sizesT (.node p l))[i]?.getD 0=4+(x.1.length:Int)∧x.1.length≤200):=Hd (fun i x hx=>by
  have:=(g2 x (List.mem_of_getElem? hx)).1;simp[sizesT,hx,this])
 have HV:=Hd h1;have HSL:=Hd hsl;have hkn:kn≤1000:=by omega
 obtain⟨i0,hi0,hz0,hz1,hz2⟩:=info_parts info_intT;show Calls _ _ #[.agg #[.int .i64 p,.bool false,.slice a kn c]] _ _;have hA:Below w.heap.size w (w.alloc (.cells #[.int .i64 p,.bool false,.slice a kn c] 27)):=(Below.refl _ _).alloc (Nat.le_refl _) _;have HBX:=Hd ((Boxes.nil w).alloc #[.int .i64 p,.bool false,.slice a kn c] 27 (b:=w.heap.size) rfl);generalize sizesT (.node p l)=S at *;clear h h1 g1 g2 e1 hkl hsl hkn';go_enter Tryz.func126,Tryz.ntmps126;go_wp2_with fail
 go_loopw [3,4] (fun s3 s4 wr=>∃i:Nat,i≤kn∧s4=.int .i64 i∧wr.ownsRow w.heap.size 3 1 s3 i ((S.take i).map (Value.int .i64))∧Below w.heap.size w wr∧Boxes wr [(w.heap.size,[.int .i64 p,.bool false,.slice a kn c])]∧s3.ownBlock≠some w.heap.size) (fun _ s _=>kn-(intOf s).toNat)
 case atStart=>exact⟨0,Nat.zero_le _,rfl,World.ownsRow_nil _ _ _ _,hA,HBX.out,by simp[Value.ownBlock]⟩
 case round=>
  clear HBX hA;obtain⟨i,hi,rfl,hown,hb,hbx,hnb⟩:=hrel;have f1:=hbx.cell 0 1 rfl rfl;have f2:=hbx.cell 0 2 rfl rfl
  by_cases hlt:i<kn
  rotate_left
  ·obtain rfl:i=kn:=by omega
   exact q075758
  obtain⟨b,off,y,pa,pn,pc,ka,kn',kc,rfl,hbb,hy,_,_,_,_,_,c0,c1,_,_⟩:=RNodeOn.cell HV.out hlt;have hst:=Hd (tk_succ S i (by rw[HSL.out];exact hlt));rw[cellsR_node] at hy;obtain⟨x,hx1,hx2⟩:=Option.map_eq_some_iff.1 hy;subst hx2;obtain⟨q1,q2⟩:=HS.out i x hx1;obtain⟨k,kid⟩:=x;have v0:=(hb.cell (p:=⟨b,off+i*4,none⟩) hbb).trans c0;have hsz:=strOf_size k;obtain⟨m,hm⟩:∃m,k.length=m:=⟨_,rfl⟩
  dsimp only at *;rw[hm] at q1 q2 hsz;clear hm hx1 hy c0 c1;obtain⟨v8,w8,hr8,ho8,hg8,hv8⟩:=run_append_new (P:=Tryz.prog) (w:=wr) w.heap.size 35 3 i0 _ 1 8 Tryz.underlying35 hi0 hz0 hz1 hz2 rfl (by decide) hown #[.int .i64 (4+(m:Int))] rfl (by intro u hu;simp at hu;subst hu;rfl) (by unfold maxLen;omega) (by omega) hb.size;have HB8:=Hd (hb.grown hg8 hb.size (own_ge hown));have HX8:=Hd (hbx.grown hg8 (by intro p hp;simp at hp;subst hp;exact hnb));have HN8:Hid (v8.ownBlock≠some w.heap.size):=Hd (by
   exact q298025)
  have HO8:Hid (w8.ownsRow w.heap.size 3 1 v8 (i+1) ((S.take (i+1)).map (Value.int .i64))):=Hd (by
   rw[hst.out,q1,List.map_append];exact ho8)
  clear ho8 hg8 hv8;clear hown hb hbx hnb q1 hst;exact qc8f5eb
theorem rsizes_leaf {n:Nat} {F:Nat→Prop} {w:World} {cs:List Value} {p:Int} {l:List (List UInt8×Tv)} (h:RNodeOn F (n+1) w cs (.leaf p l)) (hb:Bnd (n+1) (.leaf p l)) :
 Calls Tryz.prog 126 #[.agg cs.toArray] w (SizesPost w (sizesT (.leaf p l))):=by
 obtain⟨a,c,rfl,h1,_⟩:=h.at;obtain⟨g1,g2⟩:=hb;obtain⟨e1,e2,e3⟩:=h1.lens;obtain⟨kn,hkn'⟩:∃x,cntT (.leaf p l)=x:=⟨_,rfl⟩
 have hkl:l.length=kn:=hkn';rw[hkn'] at h1 e1 e2 ⊢;have hsl:(sizesT (.leaf p l)).length=kn:=by rw[sizes_len_leaf,hkl]
 have HS:Hid (∀(i:Nat) (x:List UInt8×Tv),l[i]? = some x→(sizesT (.leaf p l))[i]?.getD 0=3+(vSz x.2:Int)+(x.1.length:Int)∧x.1.length≤200∧x.2.data.length≤1000):=Hd (fun i x hx=>by
  have:=g2 x (List.mem_of_getElem? hx);simp[sizesT,hx,this])
 have HV:=Hd h1;have HSL:=Hd hsl;have hkn:kn≤1000:=by omega
 obtain⟨i0,hi0,hz0,hz1,hz2⟩:=info_parts info_intT;show Calls _ _ #[.agg #[.int .i64 p,.bool true,.slice a kn c]] _ _;have hA:Below w.heap.size w (w.alloc (.cells #[.int .i64 p,.bool true,.slice a kn c] 27)):=(Below.refl _ _).alloc (Nat.le_refl _) _;have HBX:=Hd ((Boxes.nil w).alloc #[.int .i64 p,.bool true,.slice a kn c] 27 (b:=w.heap.size) rfl);generalize sizesT (.leaf p l)=S at *;clear h h1 g1 g2 e1 hkl hsl hkn';go_enter Tryz.func126,Tryz.ntmps126;go_wp2_with fail
 go_loopw [3,4] (fun s3 s4 wr=>∃i:Nat,i≤kn∧s4=.int .i64 i∧wr.ownsRow w.heap.size 3 1 s3 i ((S.take i).map (Value.int .i64))∧Below w.heap.size w wr∧Boxes wr [(w.heap.size,[.int .i64 p,.bool true,.slice a kn c])]∧s3.ownBlock≠some w.heap.size) (fun _ s _=>kn-(intOf s).toNat)
 case atStart=>exact⟨0,Nat.zero_le _,rfl,World.ownsRow_nil _ _ _ _,hA,HBX.out,by simp[Value.ownBlock]⟩
 case round=>
  clear HBX hA;obtain⟨i,hi,rfl,hown,hb,hbx,hnb⟩:=hrel;have f1:=hbx.cell 0 1 rfl rfl;have f2:=hbx.cell 0 2 rfl rfl
  by_cases hlt:i<kn
  rotate_left
  ·obtain rfl:i=kn:=by omega
   exact q075758
  obtain⟨b,off,y,pa,pn,pc,ka,kn',kc,rfl,hbb,hy,_,_,_,_,_,c0,c1,_,_⟩:=RNodeOn.cell HV.out hlt;have hst:=Hd (tk_succ S i (by rw[HSL.out];exact hlt));rw[cellsR_leaf] at hy;obtain⟨x,hx1,hx2⟩:=Option.map_eq_some_iff.1 hy;subst hx2;obtain⟨q1,q2,q3⟩:=HS.out i x hx1;obtain⟨k,tv⟩:=x;dsimp only at *;have v0:=(hb.cell (p:=⟨b,off+i*4,none⟩) hbb).trans c0;have v1:=(hb.cell (p:=⟨b,off+i*4+1,none⟩) hbb).trans c1;have hsz:=strOf_size k;have hsz2:=strOf_size tv.data;obtain⟨m,hm⟩:∃m,k.length=m:=⟨_,rfl⟩
  obtain⟨dl,hdl⟩:∃dl,tv.data.length=dl:=⟨_,rfl⟩
  have N:=fun W=>crneed_any (dl:Int) W
  have hvs:vSz tv=if dl≤16 then dl else 4:=by unfold vSz;rw[hdl]
  rw[hm] at q1 q2 hsz;rw[hdl] at hsz2 q3;clear hm hdl hx1 hy c0 c1;have HVS:=Hd hvs;have HQ1:=Hd q1;clear hvs q1;go_upto_region 7 with(fail)
  go_cut [5] (fun s5 wq=>s5=.int .i64 (3+(m:Int)+(dl:Int))∧∃j,wq=wr.drewN j)
  case first=>
   go_quiet (fail)
   go_wp2
   go_meet;exact⟨rfl,_,rfl⟩
  case rest=>
  obtain⟨rfl,j,rfl⟩:=hcut;have hvs:=HVS.out;have q1:=HQ1.out;have hbj:Below w.heap.size w (wr.drewN j):=below_drewN hb j;have hownj:=own_held hown (below_drewN (Below.refl _ _) j);have hbxj:=hbx.step (below_drewN (Below.refl _ _) j);have g1:=hbxj.cell 0 1 rfl rfl;have g2:=hbxj.cell 0 2 rfl rfl;have y0:=(hbj.cell (p:=⟨b,off+i*4,none⟩) hbb)
  have y1:=(hbj.cell (p:=⟨b,off+i*4+1,none⟩) hbb)
  have z0:(wr.drewN j).cell? ⟨b,off+i*4,none⟩=some (.string (strOf k)):=v0;have z1:(wr.drewN j).cell? ⟨b,off+i*4+1,none⟩=some (.string (strOf tv.data)):=v1;clear y0 y1 HVS HQ1 hown hb hbx
  by_cases hd:dl≤16
  ·rw[if_pos hd] at hvs
   rw[hvs] at q1;rw[show needC (dl:Int)=0 by unfold needC;rw[if_pos (.inl (by omega))]] at N;have d4:decide ((400:Int)<dl)=false:=by simp;omega
   have d4':decide (400<dl)=false:=by simp;omega
   obtain⟨v8,w8,hr8,ho8,hg8,hv8⟩:=run_append_new (P:=Tryz.prog) (w:=wr.drewN j) w.heap.size 35 3 i0 _ 1 8 Tryz.underlying35 hi0 hz0 hz1 hz2 rfl (by decide) hownj #[.int .i64 (3+(m:Int)+(dl:Int))] rfl (by intro u hu;simp at hu;subst hu;rfl) (by unfold maxLen;omega) (by omega) hbj.size;have HB8:=Hd (hbj.grown hg8 hbj.size (own_ge hownj));have HX8:=Hd (hbxj.grown hg8 (by intro p hp;simp at hp;subst hp;exact hnb));have HN8:Hid (v8.ownBlock≠some w.heap.size):=Hd (by
    rcases hv8 with h|h
    ·rw[h];exact hnb
    ·rw[h];intro e;have:=hbj.size;have:=Option.some.inj e;omega)
   have HO8:Hid (w8.ownsRow w.heap.size 3 1 v8 (i+1) ((S.take (i+1)).map (Value.int .i64))):=Hd (by
    rw[hst.out,q1,List.map_append,show(3:Int)+(dl:Int)+(m:Int)=3+(m:Int)+(dl:Int) by omega];exact ho8)
   clear ho8 hg8 hv8;clear hownj hbj hbxj hnb q1 hst hvs;go_wp2_with fail;refine(N _).mono ?_;rintro e w2 ⟨rfl,rfl⟩;exact qc8f5eb
  ·rw[if_neg hd] at hvs
   rw[hvs] at q1;obtain⟨v8,w8,hr8,ho8,hg8,hv8⟩:=run_append_new (P:=Tryz.prog) (w:=wr.drewN j) w.heap.size 35 3 i0 _ 1 8 Tryz.underlying35 hi0 hz0 hz1 hz2 rfl (by decide) hownj #[.int .i64 (7+(m:Int))] rfl (by intro u hu;simp at hu;subst hu;rfl) (by unfold maxLen;omega) (by omega) hbj.size;have HB8:=Hd (hbj.grown hg8 hbj.size (own_ge hownj));have HX8:=Hd (hbxj.grown hg8 (by intro p hp;simp at hp;subst hp;exact hnb));have HN8:Hid (v8.ownBlock≠some w.heap.size):=Hd (by
    rcases hv8 with h|h
    ·rw[h];exact hnb
    ·rw[h];intro e;have:=hbj.size;have:=Option.some.inj e;omega)
   have HO8:Hid (w8.ownsRow w.heap.size 3 1 v8 (i+1) ((S.take (i+1)).map (Value.int .i64))):=Hd (by
    rw[hst.out,q1,List.map_append,show(3:Int)+((4:Nat):Int)+(m:Int)=7+(m:Int) by omega];exact ho8)
   clear ho8 hg8 hv8;clear hownj hbj hbxj hnb q1 hst;exact qe53638
theorem rsizes_any {n:Nat} {F:Nat→Prop} {w:World} {cs:List Value} {t:Tr} (h:RNodeOn F n w cs t) (hb:Bnd n t):Calls Tryz.prog 126 #[.agg cs.toArray] w (SizesPost w (sizesT t)):=by
 cases n with
 | zero=>exact h.elim
 | succ n=>
  cases t with
  | leaf p l=>exact rsizes_leaf h hb
  | node p l=>exact rsizes_node h hb
open Go.RowKit
theorem refAt_any (a:Option Addr) (len cap:Nat) (l:List Int) (w:World) (hr:Row .i64 w a len cap l) (hs:Small l) :
 Calls Tryz.prog 125 #[.slice a len cap] w fun e w'=>e=.returned (.int .i64 (atF l))∧w=w':=by
 have hbd:=hs.bd;have hll:=Hd hr.1;have hl1:=hs.1;have hlc:=hr.2.1;have hm:=hr.2.2.1;unfold maxLen at hm;have hlen:l.length≤len∧len≤l.length:=by rw[hr.1];omega
 by_cases hle:sumI l≤122
 ·have hat:Hid (atF l=0):=Hd (by simp[atF,hle])
  exact q3c7e12
 ·by_cases hl2:len<2
  ·have hat:Hid (atF l=0):=Hd (by
    have e:l.length-1=0:=by omega
    simp[atF,hle,e,bestTo_zero])
   exact q3c7e12
  ·have hat:Hid (atF l=(bestTo l (len-1)).2):=Hd (by rw[←hr.1];simp[atF,hle])
   go_enter Tryz.func125,Tryz.ntmps125
   go_wp2_with (go_at_call 150;refine(refSum_any _ _ _ _ _ hr hs).mono ?_;rintro e w' ⟨rfl,rfl⟩)
   go_loop [3,4] (fun at' kk=>∃k m:Nat,2≤k∧k≤len∧kk=.int .i64 k∧at'=.int .i64 m∧1≤m∧m<k∧bestTo l (k-1)=(worse l m,(m:Int))) (fun _ k=>len-(intOf k).toNat)
   case atStart=>
    obtain⟨m,h1,h2,e⟩:=bestTo_pos hs 0;obtain rfl:m=1:=by omega
    exact⟨2,1,by omega,by omega,rfl,rfl,h1,by omega,e⟩
   case round=>
    obtain⟨k,m,hk2,hk,rfl,rfl,hm1,hm2,hb⟩:=hrel;have hst:bestTo l (k+1-1)=better (worse l m,(m:Int)) ((k:Int),worse l k):=by
     obtain⟨n,rfl⟩:∃n,k=n+1:=⟨k-1,by omega⟩
     have:=bestTo_succ l n;simp only[Nat.add_sub_cancel] at hb ⊢;rw[this,hb];simp
    have HB:=Hd hb;have HS:=Hd hst;clear hb hst
    by_cases hlt:k<len
    ·by_cases hw:worse l k<worse l m
     ·go_wp2_with fail
      refine(worse_any _ _ _ k _ _ hr hs (by omega)).mono ?_;rintro e w' ⟨rfl,rfl⟩;go_wp2_with fail;refine(worse_any _ _ _ m _ _ hr hs (by omega)).mono ?_;rintro e w' ⟨rfl,rfl⟩
      go_wp2
      go_round
      case rel=>exact⟨k+1,k,by omega,by omega,by go_num,rfl,by omega,by omega,by rw[HS.out,better,if_pos hw]⟩
      case measure=>simp[intOf];omega
     ·go_wp2_with fail
      refine(worse_any _ _ _ k _ _ hr hs (by omega)).mono ?_;rintro e w' ⟨rfl,rfl⟩;go_wp2_with fail;refine(worse_any _ _ _ m _ _ hr hs (by omega)).mono ?_;rintro e w' ⟨rfl,rfl⟩
      go_wp2
      go_round
      case rel=>exact⟨k+1,m,by omega,by omega,by go_num,rfl,by omega,by omega,by rw[HS.out,better,if_neg (by simpa using hw)]⟩
      case measure=>simp[intOf];omega
    ·obtain rfl:k=len:=by omega
     go_wp2
     go_ret;exact⟨ret_int (by rw[hat.out,HB.out]),rfl⟩
end Go.Proofs.YtpghlmcoajaiiaaGreatDoor
