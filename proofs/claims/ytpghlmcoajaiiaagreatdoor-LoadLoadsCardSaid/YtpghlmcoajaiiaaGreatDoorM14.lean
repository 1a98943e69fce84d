/- Texts that other texts of this claim lean on, one behind the other. -/
import Derived.Test.YtpghlmcoajaiiaaGreatDoorM1
import Derived.Test.YtpghlmcoajaiiaaGreatDoorM13
import Derived.Test.YtpghlmcoajaiiaaGreatDoorM2
import Derived.Test.YtpghlmcoajaiiaaGreatDoorM3
import Derived.Test.YtpghlmcoajaiiaaGreatDoorM4
import Derived.Test.YtpghlmcoajaiiaaGreatDoorM11
import Derived.Test.YtpghlmcoajaiiaaGreatDoorM9
import Derived.Test.YtpghlmcoajaiiaaGreatDoorM10
import Derived.Test.YtpghlmcoajaiiaaGreatDoorM8
import Derived.Test.YtpghlmcoajaiiaaGreatDoorM12
import Derived.Deep.DeepCutAuto
import Derived.Deep.RegionHeld3
import Derived.Deep.CutBlock
import Derived.Deep.QuietTactic
import Derived.BigQuiet
import Derived.Test.YtpghlmcoajaiiaaGreatDoorM5
import Derived.ChangeArms
import Derived.OpenShut
set_option maxHeartbeats 20000000
set_option maxRecDepth 100000
namespace Go.Proofs.YtpghlmcoajaiiaaGreatDoor
open Go.RowKit
def LayTo (F:Nat→Prop) (w:World) (n:Nat) (R:Tr×List Wr×List Int) (e:Ending) (w':World):Prop:=
 ∃(p:Int) (lf:Bool) (xa:Option Addr) (xn xc:Nat) (vW vX:Value),e=.returned (.tuple #[.agg #[.int .i64 p,.bool lf,.slice xa xn xc],vW,vX,.bool true])∧RNodeOn (fun b=>F b∨w.heap.size≤b) n w' [.int .i64 p,.bool lf,.slice xa xn xc] R.1∧w'.ownsRow w.heap.size 41 2 vW R.2.1.length (R.2.1.flatMap wcl)∧Below w.heap.size w w'
theorem Lay_any {n:Nat} {F G:Nat→Prop} {w:World} {cs:List Value} {t:Tr} (h:RNodeOn G n w cs t) (hG:∀b,G b→b<w.heap.size) (hB:Bare t) (hb:Bnd n t) (hn:n≤1000) (hc:checkT n t=true) {a:Option Addr} {m cap:Nat} {at_:List Int} (hat:Row .i64 w a m cap at_) (hab:∀x,a=some x→F x.block) (hF:∀b,F b→b<w.heap.size) (hr:Rises at_) (hm:m≤10000) (hp:∀p∈at_,2≤p∧p≤999) (hf:freshN n t≤m) :
 Calls Tryz.prog 44 #[.agg cs.toArray,.slice a m cap] w (LayTo F w n (layT n t at_)):=by
 obtain⟨xa,xn,xc,rfl⟩:=RNodeOn.open_pos h;have hlm:at_.length=m:=hat.1;obtain⟨tp,htp⟩:∃x,t.page=x:=⟨_,rfl⟩
 obtain⟨tl,htl⟩:∃x,t.isLeaf=x:=⟨_,rfl⟩
 rw[htp,htl] at h ⊢;obtain⟨w1,hw1⟩:∃x,(w.alloc (.cells #[.int .i64 tp,.bool tl,.slice xa xn xc] 27)).alloc (.cells #[.int .i64 0,.bool false,.slice none 0 0] 27)=x:=⟨_,rfl⟩
 have hb1:Below w.heap.size w w1:=by rw[←hw1];exact Below.al (Below.al (Below.refl _ _))
 have hx1:Boxes w1 [(w.heap.size+1,[.int .i64 0,.bool false,.slice none 0 0]),(w.heap.size,[.int .i64 tp,.bool tl,.slice xa xn xc])]:=by
  rw[←hw1];exact((Boxes.nil w).alloc #[.int .i64 tp,.bool tl,.slice xa xn xc] 27 (b:=w.heap.size) rfl).alloc #[.int .i64 0,.bool false,.slice none 0 0] 27 (b:=w.heap.size+1) (by simp)
 have hs1:w1.heap.size=w.heap.size+2:=by rw[←hw1];simp
 have CM:=rmay_any (h.agree (AgreeF.of_below hb1)) hB hb hn hc (hat.below (Nat.le_refl _) hb1) hr hm hp hf;have c0:=hx1.cell 1 0 rfl rfl;have c1:=hx1.cell 1 1 rfl rfl;have c2:=hx1.cell 1 2 rfl rfl;have hz:=zero_refN;have HX1:=Hd hx1;have HB1:=Hd hb1;have HS1:=Hd hs1;have H:=Hd h;have HBR:=Hd hB;have HBD:=Hd hb;have HAT:=Hd hat;have HLM:=Hd hlm;have HG:=Hd hG;have HF:=Hd (And.intro hab hF);have HFR:=Hd hf;clear hx1 hb1 hs1 h hB hb hat hlm hG hab hF hf hr hp hc htp htl;go_enter Tryz.func44,Tryz.ntmps44;go_wp2_with fail;refine CM.mono ?_;rintro e w2 ⟨rfl,hb2⟩;have hx2:=HX1.out.step hb2;obtain⟨w3,hw3⟩:∃x,w2.alloc (.cells #[.slice none 0 0,.slice a m cap] 197)=x:=⟨_,rfl⟩
 have hb23:Below w2.heap.size w2 w3:=by rw[←hw3];exact Below.al (Below.refl _ _)
 have hxs:Boxes w3 [(w2.heap.size,[.slice none 0 0,.slice a m cap])]:=by rw[←hw3];exact(Boxes.nil w2).alloc #[.slice none 0 0,.slice a m cap] 197 rfl
 have hs3:w3.heap.size=w2.heap.size+1:=by rw[←hw3];simp
 have hx3:=hx2.step hb23;have hs2:=hb2.size;have hs1:=HS1.out;have hb3:Below w.heap.size w w3:=(HB1.out.trans (hb2.mono HB1.out.size)).trans (hb23.mono (by omega));have hly:LyIn F w3 w2.heap.size (.slice none 0 0) [] a cap at_:=
  ⟨by rw[HLM.out];exact hxs,own_nil w3 _ 2 _,by rw[HLM.out];exact HAT.out.below (Nat.le_refl _) hb3,HF.out.1,fun b hb=>by have:=HF.out.2 b hb;omega⟩
 have CL:=lay_any n hly (H.out.agree (AgreeF.of_below hb3)) (fun b hb=>⟨by have:=HG.out b hb;omega,by have:=HG.out b hb;omega,by simp[Value.ownBlock]⟩) HBR.out HBD.out (by rw[HLM.out];exact HFR.out) (by have:=HFR.out;simp;omega);have d0:=hx3.cell 1 0 rfl rfl;have d1:=hx3.cell 1 1 rfl rfl;have d2:=hx3.cell 1 2 rfl rfl;have HX3:=Hd hx3;have HB3:=Hd hb3;have HS3:=Hd hs3;clear hx2 hx3 hxs hb23 hb2 hb3 hly hs3 CM;go_wp2_with fail;refine CL.mono ?_;rintro e w4 ⟨p,lf,ya,yn,yc,vL',la',lc',rfl,hy4,ho4,ht4,hn4⟩;obtain⟨R,hR⟩:∃x,layT n t at_=x:=⟨_,rfl⟩
 rw[hR,List.nil_append] at hy4;rw[hR] at hn4;have hs4:=ho4.size;have hs3:=HS3.out;have hx4:=(HX3.out.sub (m:=[(w.heap.size+1,[.int .i64 0,.bool false,.slice none 0 0])]) (by intro q hq;simp at hq ⊢;exact .inl hq)).only ho4 (by
  intro q hq hm9;simp at hq;subst hq
  rcases RS.mem.1 hm9 with e|e
  ·simp at e;omega
  ·simp[Value.ownBlock] at e)
 have hb4:Below w.heap.size w w4:=HB3.out.trans (ho4.below HB3.out.size (fun k hk=>by
  rcases RS.mem.1 hk with e|e
  ·omega
  ·simp[Value.ownBlock] at e))
 obtain⟨w5,hw5⟩:∃x,w4.alloc (.cells #[.int .i64 p,.bool lf,.slice ya yn yc] 27)=x:=⟨_,rfl⟩
 have hb45:Below w4.heap.size w4 w5:=by rw[←hw5];exact Below.al (Below.refl _ _)
 have hxo:Boxes w5 [(w4.heap.size,[.int .i64 p,.bool lf,.slice ya yn yc])]:=by rw[←hw5];exact(Boxes.nil w4).alloc #[.int .i64 p,.bool lf,.slice ya yn yc] 27 rfl
 have hx5:=hx4.step hb45;have hy5:=hy4.below hb45;obtain⟨aW,cW,rfl,_⟩:=own_slice hy5.own;have s0:=hy5.box.cell 0 0 rfl rfl;have s1:=hy5.box.cell 0 1 rfl rfl;have o0:=hxo.cell 0 0 rfl rfl;have o1:=hxo.cell 0 1 rfl rfl;have o2:=hxo.cell 0 2 rfl rfl;have m0:=hx5.cell 0 0 rfl rfl;have m1:=hx5.cell 0 1 rfl rfl;have m2:=hx5.cell 0 2 rfl rfl;have u0:=hx5.frozen 0 0 rfl;have u1:=hx5.frozen 0 1 rfl;have u2:=hx5.frozen 0 2 rfl;obtain⟨we,hwe⟩:∃x,x=st3 w5 (w.heap.size+1) (.int .i64 p) (.bool lf) (.slice ya yn yc):=⟨_,rfl⟩
 have hxe:=st3_box hx5 (.int .i64 p) (.bool lf) (.slice ya yn yc);rw[←hwe] at hxe;have z0:=hxe.cell 0 0 rfl rfl;have z1:=hxe.cell 0 1 rfl rfl;have z2:=hxe.cell 0 2 rfl rfl;have HE:Hid (LayTo F w n (layT n t at_) (.returned (.tuple #[.agg #[.int .i64 p,.bool lf,.slice ya yn yc],.slice aW R.2.1.length cW,.slice la' R.2.2.length lc',.bool true])) we.drew):=Hd (by
  rw[hR];have hoe:Only [w.heap.size+1] w5 we:=by rw[hwe];exact st3_only _ _ _ _ _
  have hbe:Below w.heap.size w we.drew:=Below.dr ((hb4.trans (hb45.mono hb4.size)).trans (hoe.below (by have:=hb45.size;omega) (by simp)));have hown:we.drew.ownsRow w.heap.size 41 2 (.slice aW R.2.1.length cW) R.2.1.length (R.2.1.flatMap wcl):=by
   have h9:=own_only hy5.own hoe (fun k hk hm9=>by have:=(hy5.ge hk).1;simp at hm9;omega);have h8:=own_base h9 (show w.heap.size≤w2.heap.size+1 by omega);exact h8
  refine⟨p,lf,ya,yn,yc,_,_,rfl,?_,hown,hbe⟩;refine RNodeOn.mono (fun b hb=>?_) ((hn4.agree (AgreeF.of_below hb45)).agree (w':=we.drew) ⟨hoe.size,fun b hb hlt9=>hoe.block hlt9 (fun hm9=>?_)⟩)
  ·rcases hb with hb|hb
   ·exact .inl hb
   ·exact .inr (by omega)
  ·simp at hm9
   rcases hb with hb|hb
   ·have:=HF.out.2 b hb;omega
   ·omega)
 clear hxe hx5 hxo hx4 hb4 hb45 hy4 hy5 ho4 ht4 hn4 hR CL;go_wp2_with fail
 go_region
 all_goals (
  go_wp2_with fail;change bodyPost Tryz.prog _ _ _ _ (st3 w5 (w.heap.size+1) (.int .i64 p) (.bool lf) (.slice ya yn yc)).drew;rw[←hwe];refine bodyPost_ret (v:=.tuple #[.agg #[.int .i64 p,.bool lf,.slice ya yn yc],.slice aW R.2.1.length cW,.slice la' R.2.2.length lc',.bool true]) (by simp[results,Tryz.results44,go_sem,z0,z1,z2]) rfl ?_;exact HE.out)
def pzC (y:Pz):List Value:=[.string (strOf y.key),.int .i64 y.size]
def IsPz (cs:List Value) (y:Pz):Prop:=cs=pzC y
def Pzs (w:World) (a:Option Addr) (n c:Nat) (l:List Pz):Prop:=TabR 2 IsPz w a n c l
theorem Pzs.at {w:World} {a:Option Addr} {n c:Nat} {l:List Pz} (h:Pzs w a n c l) {k:Nat} (hk:k<n) :
 ∃b off y,a=some ⟨b,off,none⟩∧b<w.heap.size∧l[k]? = some y∧w.cell? ⟨b,off+k*2,none⟩=some (.string (strOf y.key))∧w.cell? ⟨b,off+k*2+1,none⟩=some (.int .i64 y.size):=by
 obtain⟨b,off,y,cs,e1,e2,e3,_,e5,e6⟩:=TabR.at h hk;obtain rfl:cs=pzC y:=e5;exact⟨b,off,y,e1,e2,e3,e6 0 _ rfl,e6 1 _ rfl⟩
def okZ (y:Pz):Bool:=(y.key != []) && (decide (y.key.length≤16) && (decide (0≤y.size) && decide (y.size≤400)))
def smallZ (l:List Pz):Bool:=l.all okZ && decide (l.length≤60)
def atZ (fr m:Nat):List Int:=(List.range m).map fun(k:Nat)=>((2:Int)+(fr:Int)+(k:Int))
theorem atZ_len (fr m:Nat):(atZ fr m).length=m:=by simp[atZ]
theorem atZ_succ (fr m:Nat):atZ fr (m+1)=atZ fr m++[(2:Int)+(fr:Int)+(m:Int)]:=by simp[atZ,List.range_succ]
theorem atZ_mem {fr m:Nat} {p:Int} (h:p∈atZ fr m):2+(fr:Int)≤p∧p<2+fr+m:=by
 unfold atZ at h;obtain⟨k,hk,rfl⟩:=List.mem_map.1 h;have:=List.mem_range.1 hk;omega
theorem atZ_rises (fr m:Nat):Rises (atZ fr m):=by
 intro i j x y hij hx hy;have h1:∀(q:Nat) (z:Int),(atZ fr m)[q]? = some z→z=2+(fr:Int)+(q:Int):=fun q z hz=>by
  unfold atZ at hz;rw[List.getElem?_map] at hz;obtain⟨k,hk,rfl⟩:=Option.map_eq_some_iff.1 hz;obtain⟨hq,e⟩:=List.getElem?_eq_some_iff.1 hk;rw[List.getElem_range] at e;rw[e]
 rw[h1 i x hx,h1 j y hy];omega
def LaidTo (w:World) (l:List Pz) (fr:Nat) (e:Ending) (w':World):Prop:=Below w.heap.size w w' ∧
 ((smallZ l=false∧∃p lf a m d vW,e=.returned (.tuple #[.agg #[.int .i64 p,.bool lf,.slice a m d],vW,.bool false])) ∨
 (smallZ l=true∧∃N T,LaidR l N T∧∃R,layT N T (atZ fr (freshN N T))=R∧∃p lf a m d aW cW,e=.returned (.tuple #[.agg #[.int .i64 p,.bool lf,.slice a m d],.slice aW R.2.1.length cW,.bool true])∧RNodeOn (fun x=>w.heap.size<x) N w' [.int .i64 p,.bool lf,.slice a m d] R.1∧w'.ownsRow (w.heap.size+1) 41 2 (.slice aW R.2.1.length cW) R.2.1.length (R.2.1.flatMap wcl)))
theorem info_b20:(Tryz.prog.info? 5).map (fun i=>(i.zero,i.size,i.bytes))=some (some (.int .u8 0),1,1):=by kernel_rfl
theorem make_fill20 (n:Nat) (hn:n≤400) (w:World):∃w1,(Instr.makeSlice 42 (.int .i64 (n:Int)) (.int .i64 (n:Int))).run Tryz.prog w=.ok (.slice (some ⟨w.heap.size,0,none⟩) n n) w1∧Below w.heap.size w w1∧(convert 42 9 (.slice (some ⟨w.heap.size,0,none⟩) n n)).run Tryz.prog w1=.ok (.string (strOf (fillT 0 n))) w1:=by
 obtain⟨i0,hi,hz0,hz1,hz2⟩:=info_parts info_b20;obtain⟨w1,hm,ho1,hg1⟩:=run_makeSlice_full (P:=Tryz.prog) (w:=w) w.heap.size 42 5 i0 _ 1 Tryz.underlying42 hi hz0 hz1 .i64 .i64 n (by omega) (by rw[hz2];omega) (by unfold maxLen;omega) (Nat.le_refl _);refine⟨w1,hm,(Below.refl _ _).grown hg1 (Nat.le_refl _) (fun j e=>by cases e),?_⟩;have ho:w1.ownsRow w.heap.size 5 1 (.slice (some ⟨w.heap.size,0,none⟩) n n) n ((toI (fillT 0 n)).map (Value.int .u8)):=by
  have hmade:(madeCells (Value.int .u8 0).cells (n*1)).toList=List.replicate n (.int .u8 0):=by rw[Nat.mul_one];exact made_list (.int .u8 0) n
  rw[hmade] at ho1;have e:((toI (fillT 0 n)).map (Value.int .u8))=List.replicate n (.int .u8 0):=by simp[toI,fillT]
  rw[e];exact ho1
 exact conv_string Tryz.underlying42 Tryz.underlying5 Tryz.underlying9 (Bs.own ho)
theorem LaidR.nextN {l:List Pz} {i m:Nat} {t:Tr} (h:LaidR (l.take i) m t) {k:List UInt8} {sn:Nat} (hy:l[i]? = some ⟨k,(sn:Int)⟩) (ho:okZ ⟨k,(sn:Int)⟩=true):∃m',m'≤m+1∧LaidR (l.take (i+1)) m' (putW m t k ⟨fillT 0 sn,[]⟩):=by
 have hp:(⟨k,(sn:Int)⟩:Pz).ok:=by
  unfold okZ at ho;simp at ho;exact⟨ho.1,ho.2.1,by simp,by simpa using ho.2.2⟩
 obtain⟨m',h1,h2⟩:=h.more hp;rw[List.take_succ_eq_append_of hy];exact⟨m',h1,h2⟩
theorem laid_any {w:World} {a:Option Addr} {n c:Nat} {l:List Pz} (h:Pzs w a n c l) {fr:Nat} (hfr:fr≤255):Calls Tryz.prog 10 #[.slice a n c,.int .u8 (fr:Int)] w (LaidTo w l fr):=by
 obtain⟨e1,e2,e3⟩:=TabR.lens h;have HP:=Hd h;have HL:=Hd e1;obtain⟨W0,hW0⟩:∃x,w.alloc (.cells #[.int .i64 0,.bool false,.slice none 0 0] 27)=x:=⟨_,rfl⟩
 have hb0:Below w.heap.size w W0:=by rw[←hW0];exact Below.al (Below.refl _ _)
 have hx0:Boxes W0 [(w.heap.size,[.int .i64 0,.bool false,.slice none 0 0])]:=by
  rw[←hW0];exact(Boxes.nil w).alloc #[.int .i64 0,.bool false,.slice none 0 0] 27 (b:=w.heap.size) rfl
 have hs0:W0.heap.size=w.heap.size+1:=by rw[←hW0];simp
 have E2:=rempty_any W0 (fun _=>False);have HB0:=Hd hb0;have HX0:=Hd hx0;have HS0:=Hd hs0;clear h e1 hb0 hx0 hs0;go_enter Tryz.func10,Tryz.ntmps10;go_wp2_with fail;refine E2.mono ?_;rintro e w1 ⟨cs,rfl,hn5,hb5⟩;obtain⟨y1,j1,ecs,hn5⟩:=rempty_on (F:=fun x=>w1.heap.size+1≤x) hn5;subst ecs;have hs1:w.heap.size<w1.heap.size:=by have:=HS0.out;have:=hb5.size;omega
 have hb5a:Below w1.heap.size w1 (w1.alloc (.cells #[.int .i64 0,.bool true,.slice y1 0 j1] 27)):=Below.al (Below.refl _ _);have hbW:=below_via hb5 hb5a;have HR:Hid (RBox (w1.heap.size+1) w1.heap.size (w1.alloc (.cells #[.int .i64 0,.bool true,.slice y1 0 j1] 27)) 1 (.leaf 0 [])):=Lib.hid
  ⟨_,_,_,_,_,(Boxes.nil w1).alloc #[.int .i64 0,.bool true,.slice y1 0 j1] 27 (b:=w1.heap.size) rfl,hn5.below hb5a⟩
 have HZ:=Hd (HX0.out.step hbW);have HBEL:=Hd (below_via HB0.out hbW);clear E2 hn5 hb5 hb5a hbW hW0;go_wp2_with fail
 go_loopw [8] (fun s8 wr=>∃(i N:Nat) (t:Tr),i≤n∧s8=.int .i64 i∧RBox (w1.heap.size+1) w1.heap.size wr N t∧Hid (LaidR (l.take i) N t)∧Boxes wr [(w.heap.size,[.int .i64 0,.bool false,.slice none 0 0])]∧Hid ((l.take i).all okZ=true)∧(i=0∨n≤60)∧Below w.heap.size w wr) (fun s _=>n-(intOf s).toNat)
 case atStart=>exact⟨0,1,_,Nat.zero_le _,rfl,HR.out,Hd .nil,HZ.out,Hd rfl,.inl rfl,HBEL.out⟩
 case round=>
  clear HR HZ HBEL;obtain⟨i,N,t,hi,rfl,hrb,HLR,hz0,hall,h120,hb⟩:=hrel;obtain⟨p,lf,a1,n1,c1,hx,hr⟩:=hrb;have f0:=hx.cell 0 0 rfl rfl;have f1:=hx.cell 0 1 rfl rfl;have f2:=hx.cell 0 2 rfl rfl;have hsz5:w1.heap.size+1≤wr.heap.size:=hx.lt 0 rfl
  by_cases hlt:i<n
  ·obtain⟨bl,ol,y,rfl,hbl,hy,c0,c1'⟩:=HP.out.at hlt
   have hlt':(i:Int)<(n:Int):=by omega
   have hbl2:=Nat.lt_of_lt_of_le hbl hb.size;have HGOOD:Hid (okZ y=true→(l.take (i+1)).all okZ=true):=Hd (fun hp=>all_next hy hp hall.out);have HBAD:Hid (okZ y=false∨60<n→smallZ l=false):=Hd (fun hp=>by
    rcases hp with hp|hp
    ·unfold smallZ;rw[all_bad hy hp];rfl
    ·unfold smallZ
     rw[show decide (l.length≤60)=false by simp;have:=HL.out;omega,Bool.and_false])
   have HY:=Hd hy;obtain⟨k,sz⟩:=y;dsimp only at *;have v0:=(hb.cell (p:=⟨bl,ol+i*2,none⟩) hbl).trans c0;have v1:=(hb.cell (p:=⟨bl,ol+i*2+1,none⟩) hbl).trans c1';have hszk:=strOf_size k;obtain⟨m,hm⟩:∃m,k.length=m:=⟨_,rfl⟩
   rw[hm] at hszk;have HM:=Hd hm;clear hm hy
   by_cases kb:k=[]
   ·have g1:=str_empty kb
    have hs:=HBAD.out (by left;unfold okZ;simp[kb]);exact qf1843d
   have g1:=str_some kb
   by_cases k16:¬m≤16
   ·have d1:decide ((16:Int)<m)=true:=by simp;omega
    have d1':decide (16<m)=true:=by simp;omega
    have hs:=HBAD.out (by left;unfold okZ;simp[HM.out,k16]);exact qf1843d
   have k16:m≤16:=by omega
   have d1:decide ((16:Int)<m)=false:=by simp;omega
   have d1':decide (16<m)=false:=by simp;omega
   by_cases s0:sz<0
   ·have d3:decide (sz<0)=true:=by simp;omega
    have hs:=HBAD.out (by left;unfold okZ;simp;intros;omega);exact qf1843d
   have d3:decide (sz<0)=false:=by simp;omega
   by_cases s4:¬sz≤400
   ·have d4:decide ((400:Int)<sz)=true:=by simp;omega
    have hs:=HBAD.out (by left;unfold okZ;simp;intros;omega);exact qf1843d
   have s4:sz≤400:=by omega
   have d4:decide ((400:Int)<sz)=false:=by simp;omega
   by_cases n12:¬n≤60
   ·have d5:decide ((60:Int)<n)=true:=by simp;omega
    have d5':decide (60<n)=true:=by simp;omega
    have hs:=HBAD.out (by right;omega);exact qf1843d
   have n12:n≤60:=by omega
   have d5:decide ((60:Int)<n)=false:=by simp;omega
   have d5':decide (60<n)=false:=by simp;omega
   obtain⟨sn,rfl⟩:∃sn:Nat,sz=(sn:Int):=⟨sz.toNat,by omega⟩
   have hsn:sn≤400:=by omega
   have hokz:okZ ⟨k,(sn:Int)⟩=true:=by unfold okZ;simp[kb,HM.out,k16];omega
   have hall':=HGOOD.out hokz;have HALL:=Hd hall';have hyk:keyOk k:=⟨kb,by rw[HM.out];exact k16⟩
   obtain⟨M,hM,hLM⟩:=HLR.out.nextN HY.out hokz;clear hall' HGOOD HBAD hall hokz HY;obtain⟨T,hT⟩:∃T,putW N t k ⟨fillT 0 sn,[]⟩=T:=⟨_,rfl⟩
   rw[hT] at hLM;have HLM:=Hd hLM;have hw:=HLR.out.whole;obtain⟨w6,hmk,hb6,hcv⟩:=make_fill20 sn hsn wr.drew;have hB6:Below wr.heap.size wr w6:=below_via (Below.dr (Below.refl _ _)) hb6;have hA6:AgreeF (fun x=>x≠w1.heap.size) wr w6:=AgreeF.of_below hB6;have CRc:∀W,Below wr.heap.size wr W→Calls Tryz.prog 42 #[.agg #[.int .i64 p,.bool lf,.slice a1 n1 c1],.string (strOf k),.string (strOf (fillT 0 sn))] W (RGo (fun x=>w1.heap.size+1≤x) M W T):=fun W hW=>by
    have:=rPut_whole (F:=fun x=>w1.heap.size+1≤x∧x<wr.heap.size) (fun b h=>Nat.lt_of_lt_of_le h.2 hW.size) (hr.lt.below hW) hw k (fillT 0 sn) hyk (by rw[fillT_len];exact hsn);rw[hT] at this;exact this.mono fun e w' h=>h.go (fun b hb=>fr_le (fun b h=>h.1) hsz5 hW.size hb) HLM.out.whole.1.1
   have l0:∀W,AgreeF (fun x=>x≠w1.heap.size) wr W→W.cell? ⟨bl,ol+i*2,none⟩=some (.string (strOf k)):=fun W hW=>(hW.cell (by show bl≠w1.heap.size;omega) hbl2).trans v0
   have l1:∀W,AgreeF (fun x=>x≠w1.heap.size) wr W→W.cell? ⟨bl,ol+i*2+1,none⟩=some (.int .i64 (sn:Int)):=fun W hW=>(hW.cell (by show bl≠w1.heap.size;omega) hbl2).trans v1
   have hx6:=hx.step hB6;have m0:=hx6.cell 0 0 rfl rfl;have m1:=hx6.cell 0 1 rfl rfl;have m2:=hx6.cell 0 2 rfl rfl;have HX:=Hd hx;have HZ:=Hd hz0;have HB:=Hd hb;clear hx hr hz0 hb hw hyk kb hT hx6 s0 hLM HLR;go_upto_region 7 with(fail)
   clear v0 v1;refine wp_region_noPanic ?_;refine wp_region_held_drew (S:=(fun W=>AgreeF (fun x=>x≠w1.heap.size) wr W)) (by kernel_rfl) (by(repeat (with_reducible first|assumption|exact AgreeF.refl _|apply AgreeF.al|apply AgreeF.dr|apply AgreeF.st))) (fun hHeld=>?_);refine tks [1,2] ?_;refine tks [3,4] ?_;refine tks [5,6] ?_;refine tks [7,8] ?_;refine tks [9,10] ?_;refine rdy2 0 11 (fun K hK=>?_) (fun K hK=>?_)
   ·(rw[if_pos (by rfl)];go_wp2_with (fail))
    refine bkA hK (fun hHeld=>?_);clear hK K;refine rdy 11 (fun K hK=>?_);refine step_make_run rfl _ _ _ rfl rfl rfl hmk ?_;refine bkA hK (fun hHeld=>?_);clear hK K;refine rdy 12 (fun K hK=>?_);refine step_convert_run rfl _ _ _ rfl rfl hcv ?_;exact qa3ab36
   ·refine step_make_run rfl _ _ _ rfl rfl rfl hmk ?_
    refine bkA hK (fun hHeld=>?_);clear hK K;refine rdy2 0 12 (fun K hK=>?_) (fun K hK=>?_)
    ·(rw[if_pos (by rfl)];go_wp2_with (fail))
     refine bkA hK (fun hHeld=>?_);clear hK K;refine rdy 12 (fun K hK=>?_);refine step_convert_run rfl _ _ _ rfl rfl hcv ?_;exact qa3ab36
    ·refine step_convert_run rfl _ _ _ rfl rfl hcv ?_
     refine bkA hK (fun hHeld=>?_);clear hK K;refine rdy 0 (fun K hK=>?_)
     (rw[if_pos (by rfl)];go_wp2_with (fail))
     exact qa3ab36
  ·obtain rfl:i=n:=by omega
   obtain⟨wA,hwA⟩:∃x,x=wr:=⟨_,rfl⟩
   subst hwA;have hlt':decide ((i:Int)<(i:Int))=false:=by simp
   have hs:smallZ l=true:=by
    unfold smallZ;rw[all_whole (by rw[HL.out];exact Nat.le_refl _) hall.out,HL.out,Bool.true_and];simp;omega
   have hlr:=HLR.out;rw[List.take_of_length_le (by rw[HL.out];exact Nat.le_refl _)] at hlr;have hl60:l.length≤60:=by unfold smallZ at hs;simp at hs;exact hs.2
   have hfn:=hlr.fresh;have hnn:=hlr.ents.2;have CF0:∀W,Below wA.heap.size wA W→Calls Tryz.prog 43 #[.agg #[.int .i64 p,.bool lf,.slice a1 n1 c1]] W fun e w'=>e=.returned (.int .i64 (freshN N t:Nat))∧Below W.heap.size W w':=fun W hW=>
    rfresh_any (hr.below hW) hlr.bare hlr.whole.bnd (by omega)
   have CL0:∀W,Below wA.heap.size wA W→∀a9 c9,Row .i64 W a9 (freshN N t) c9 (atZ fr (freshN N t))→(∀x,a9=some x→wA.heap.size≤x.block∧x.block<W.heap.size)→Calls Tryz.prog 44 #[.agg #[.int .i64 p,.bool lf,.slice a1 n1 c1],.slice a9 (freshN N t) c9] W (LayTo (fun b=>wA.heap.size≤b∧b<W.heap.size) W N (layT N t (atZ fr (freshN N t)))):=fun W hW a9 c9 hrow hin=>
    Lay_any (F:=fun b=>wA.heap.size≤b∧b<W.heap.size) (G:=fun x=>w1.heap.size+1≤x∧x<wA.heap.size) (hr.lt.below hW) (fun b hb=>Nat.lt_of_lt_of_le hb.2 hW.size) hlr.bare hlr.whole.bnd (by omega) (whole_check hlr.whole) hrow hin (fun b hb=>hb.2) (atZ_rises _ _) (by omega) (fun p hp=>by have:=atZ_mem hp;omega) (Nat.le_refl _)
   obtain⟨f,hf⟩:∃f,freshN N t=f:=⟨_,rfl⟩
   rw[hf] at CF0 CL0 hfn;have HF:=Hd hf;have HLR2:=Hd hlr;have HS:=Hd hs;have HX:=Hd hx;have HZ:=Hd hz0;have HB:=Hd hb;have hf3:f≤360:=by omega
   have HII:=Hd infoI;clear hs hlr hr hx hz0 hb hall HLR hl60 hfn hf;go_wp2_with fail
   go_loopw [9,10] (fun s9 s10 wx=>∃k:Nat,k≤f∧s10=.int .i64 k∧wx.ownsRow wA.heap.size 3 1 s9 k ((atZ fr k).map (Value.int .i64))∧Below wA.heap.size wA wx) (fun _ s _=>f-(intOf s).toNat)
   case atStart=>exact⟨0,Nat.zero_le _,rfl,own_nil _ _ _ _,Below.refl _ _⟩
   case round=>
    obtain⟨k,hk,rfl,hown,hbx⟩:=hrel;have hx4:=HX.out.step hbx;have g0:=hx4.cell 0 0 rfl rfl;have g1:=hx4.cell 0 1 rfl rfl;have g2:=hx4.cell 0 2 rfl rfl;clear hx4 f0 f1 f2;go_wp2_with fail;refine(CF0 _ hbx).mono ?_;rintro e w6 ⟨rfl,hb6⟩;have hbx6:=below_via hbx hb6;have hown6:=own_below hown (Nat.le_refl _) hb6
    by_cases hkf:k<f
    ·have hkf':decide ((k:Int)<(f:Int))=true:=by simp;omega
     obtain⟨i0,hi0,hz0,hz1,hz2⟩:=info_parts HII.out;obtain⟨u,hu⟩:∃u,(2:Int)+(fr:Int)+(k:Int)=u:=⟨_,rfl⟩
     have hun:=atZ_succ fr k;rw[hu] at hun;have HUN:=Hd hun;have HSZ:=Hd hbx6.size;have hB1:=Hd (hbx6.alloc hbx6.size (.cells #[.int .i64 u] 3));have hown1:=hown6.alloc (.cells #[.int .i64 u] 3);have hcl:(w6.alloc (.cells #[.int .i64 u] 3)).cell? ⟨w6.heap.size,0,none⟩=some (.int .i64 u):=by
      simp only[World.cell?,World.alloc_heap_new];rfl
     have HG:=Hd (own_ge hown6);clear hun hown hown6 hbx hbx6 hb6 g0 g1 g2
     go_wp2_with (at_builtin;refine wpList_append_one rfl _ _ 35 rfl wA.heap.size 3 i0 _ 8 Tryz.underlying35 hi0 hz0 hz1 hz2 rfl _ k _ rfl hown1 w6.heap.size rfl (.int .i64 u) hcl rfl (by unfold maxLen;omega) (by omega) (by have:=HSZ.out;simp;omega) ?_)
     intro v2 w2 hown2 hg;have HBB:=Hd (hB1.out.grown hg (by have:=HSZ.out;simp;omega) (fun j e=>HG.out j e));clear hg;go_wp2_with fail;go_roundw
     case rel=>exact⟨k+1,by omega,by go_num,by rw[HUN.out,List.map_append];exact hown2,HBB.out⟩
     case measure=>simp[intOf];omega
    ·obtain rfl:k=f:=by omega
     have hkf':decide ((k:Int)<(k:Int))=false:=by simp
     obtain⟨a9,c9,rfl,hrow⟩:=Row.of_own hown6;have hin:∀x,a9=some x→wA.heap.size≤x.block∧x.block<w6.heap.size:=fun x hx9=>by
      subst hx9;exact⟨own_ge hown6 _ rfl,own_lt hown6 _ rfl⟩
     have CL:=CL0 w6 hbx6 a9 c9 hrow hin;have hx6:=HX.out.step hbx6;have q0:=hx6.cell 0 0 rfl rfl;have q1:=hx6.cell 0 1 rfl rfl;have q2:=hx6.cell 0 2 rfl rfl;have hz6:=HZ.out.step hbx6;have HZ6:=Hd hz6;have HB6:=Hd (below_via HB.out hbx6);have HS6:=Hd hbx6.size;obtain⟨R,hR⟩:∃x,layT N t (atZ fr k)=x:=⟨_,rfl⟩
     rw[hR] at CL;have HR:=Hd hR;clear hR hin hrow hown hown6 hbx hbx6 hb6 hx6 hz6 CL0 CF0 g0 g1 g2;go_wp2_with fail;refine CL.mono ?_;rintro e w9 ⟨p9,l9,a9',n9,c9',vW,vX,rfl,hn9,ho9,hb9⟩;obtain⟨aW,cW,rfl,_⟩:=own_slice ho9;have hs6:=HS6.out;obtain⟨w5,hw5⟩:∃x,w9.alloc (.cells #[.int .i64 p9,.bool l9,.slice a9' n9 c9'] 27)=x:=⟨_,rfl⟩
     have hb45:Below w9.heap.size w9 w5:=by rw[←hw5];exact Below.al (Below.refl _ _)
     have hxo:Boxes w5 [(w9.heap.size,[.int .i64 p9,.bool l9,.slice a9' n9 c9'])]:=by rw[←hw5];exact(Boxes.nil w9).alloc #[.int .i64 p9,.bool l9,.slice a9' n9 c9'] 27 rfl
     have hb96:Below w6.heap.size w6 w5:=below_via hb9 hb45;have hx5:=HZ6.out.step hb96;have hb5:Below w.heap.size w w5:=below_via HB6.out hb96;have o0:=hxo.cell 0 0 rfl rfl;have o1:=hxo.cell 0 1 rfl rfl;have o2:=hxo.cell 0 2 rfl rfl;have m0:=hx5.cell 0 0 rfl rfl;have m1:=hx5.cell 0 1 rfl rfl;have m2:=hx5.cell 0 2 rfl rfl;have u0:=hx5.frozen 0 0 rfl;have u1:=hx5.frozen 0 1 rfl;have u2:=hx5.frozen 0 2 rfl;obtain⟨we,hwe⟩:∃x,x=st3 w5 w.heap.size (.int .i64 p9) (.bool l9) (.slice a9' n9 c9'):=⟨_,rfl⟩
     have hxe:=st3_box hx5 (.int .i64 p9) (.bool l9) (.slice a9' n9 c9');rw[←hwe] at hxe;have z0:=hxe.cell 0 0 rfl rfl;have z1:=hxe.cell 0 1 rfl rfl;have z2:=hxe.cell 0 2 rfl rfl;have HE:Hid (LaidTo w l fr (.returned (.tuple #[.agg #[.int .i64 p9,.bool l9,.slice a9' n9 c9'],.slice aW R.2.1.length cW,.bool true])) we):=Hd (by
      have hoe:Only [w.heap.size] w5 we:=by rw[hwe];exact st3_only _ _ _ _ _
      have hbe:Below w.heap.size w we:=hb5.trans (hoe.below (by have:=hb5.size;omega) (by simp));refine⟨hbe,.inr ⟨HS.out,N,t,HLR2.out,R,by rw[HF.out];exact HR.out,p9,l9,a9',n9,c9',aW,cW,rfl,?_,?_⟩⟩
      ·refine RNodeOn.mono (fun b hb=>?_) ((hn9.agree (AgreeF.of_below hb45)).agree (w':=we) ⟨hoe.size,fun b hb hlt9=>hoe.block hlt9 (fun hm9=>?_)⟩)
       ·rcases hb with hb|hb
        ·omega
        ·omega
       ·simp at hm9
        rcases hb with hb|hb<;>omega
      ·have h9:=own_only (own_below ho9 (Nat.le_refl _) hb45) hoe (fun k hk hm9=>by have:=own_ge ho9 k hk;simp at hm9;omega)
       exact own_base h9 (show w.heap.size+1≤w6.heap.size by omega))
     clear hxe hx5 hxo hb5 hb45 hb96 hn9 ho9 hb9 CL;go_wp2_with fail;change bodyPost Tryz.prog _ _ _ _ (st3 w5 w.heap.size (.int .i64 p9) (.bool l9) (.slice a9' n9 c9'));rw[←hwe];refine bodyPost_ret (v:=.tuple #[.agg #[.int .i64 p9,.bool l9,.slice a9' n9 c9'],.slice aW R.2.1.length cW,.bool true]) (by simp[results,Tryz.results10,go_sem,z0,z1,z2]) rfl ?_;exact HE.out
open Go.RowKit
theorem zerosL_sum:(crcOf (List.replicate 124 0) == 0)=false:=by kernel_rfl
theorem zerosL_unp:unpE (List.replicate 128 0)=12:=by
 have h:=zerosL_sum;unfold unpE;rw[if_neg (by simp)];have e1:(List.replicate 128 (0:UInt8)).take 4=List.replicate 4 0:=by simp
 have e2:(List.replicate 128 (0:UInt8)).drop 4=List.replicate 124 0:=by simp
 rw[e1,e2,if_pos];intro e;have hz:beVal (List.replicate 4 0)=0:=by decide
 rw[hz] at e;rw[←e] at h;simp at h
theorem load_sum {d:List Rg} {r N:Nat} {f:Nat→List UInt8} (hd:RegAt d r N f) {p:Int} (hp:1≤p∧p<N) (hz:unpE (f p.toNat)=12):loadD d r p=.error 12:=by
 have hpd:pagedE d r p=0:=by rw[hd.paged,if_pos ⟨by omega,hp.2⟩]
 have hrd:readB d r p=f p.toNat:=hd.read ⟨by omega,hp.2⟩;have hg:getNE (f p.toNat)=12:=by
  unfold getNE;rw[if_pos (by rw[hz];decide),hz]
 have:loadT d r (999+1) [] p=.error 12:=by
  rw[loadT,if_neg (by simp),if_neg (by rw[hpd];decide),hrd,if_pos (by rw[hg];decide),hg]
 unfold loadD;rw[if_neg (by omega),show(1000:Nat)=999+1 from rfl,this]
theorem LaidR.nil_inv {m:Nat} {t:Tr} (h:LaidR [] m t):m=1∧t=.leaf 0 []:=by
 generalize hL:([]:List Pz)=L at h;cases h with
 | nil=>exact⟨rfl,rfl⟩
 | put=>simp at hL
theorem LaidR.one_inv {p:Pz} {m:Nat} {t:Tr} (h:LaidR [p] m t):t=putW 1 (.leaf 0 []) p.key p.val∧Whole m t:=by
 generalize hL:[p]=L at h;cases h with
 | nil=>cases hL
 | @put l m0 m' t0 p' h0 hok hm hw he=>
  have:l=[]∧p'=p:=by
   cases l with
   | nil=>simp at hL;exact⟨rfl,hL.symm⟩
   | cons=>simp at hL
  obtain⟨rfl,rfl⟩:=this;obtain⟨rfl,rfl⟩:=h0.nil_inv;exact⟨rfl,hw⟩
def aP:Pz:=⟨[107],30⟩
def aD:List UInt8:=List.replicate 30 0
def aT:Tr:=.leaf 0 [([107],⟨aD,[]⟩)]
def aL:Tr:=.leaf 3 [([107],⟨aD,[2]⟩)]
theorem aw_tree:putW 1 (.leaf 0 []) aP.key aP.val=aT:=by kernel_rfl
theorem aw_fresh:freshN 1 aT=2:=by kernel_rfl
theorem aw_lay:(layT 1 aT (atZ 0 2)).1=aL:=by kernel_rfl
theorem aw_small:smallZ [aP]=true:=by kernel_rfl
theorem aw_spots:Spots 9 (atZ 0 2):=atZ_spots (fr:=0) (by omega) (by omega)
theorem aw_laid {N:Nat} {T:Tr} (h:LaidR [aP] N T):N=1∧T=aT∧Whole 1 aT∧Bare aT:=by
 have hb:=h.bare;obtain⟨h1,h2⟩:=h.one_inv;rw[aw_tree] at h1;subst h1;cases N with
 | zero=>exact h2.1.1.elim
 | succ n=>
  have:n=0:=h2.1.1.1;subst this;exact⟨rfl,rfl,h2,hb⟩
theorem aw_writes (hw:Whole 1 aT) (hb:Bare aT):(layT 1 aT (atZ 0 2)).2.1.map (·.1)=[2,3]∧∀x∈(layT 1 aT (atZ 0 2)).2.1,x.2.length=128:=by
 have h:=whole_writes hw hb aw_spots (by rw[aw_fresh,atZ_len];omega);rw[aw_fresh] at h;exact⟨h.1.trans (by decide),h.2⟩
theorem aw_loads (hw:Whole 1 aT) (hb:Bare aT) {d:List Rg} (h:Wrtn zeros 9 (layT 1 aT (atZ 0 2)).2.1 2 d):loadD d 0 3=.ok aL∧loadD d 0 7=.error 12∧loadD d 0 0=.ok (.leaf 0 []):=by
 obtain⟨w1,w2⟩:=aw_writes hw hb;have hl:=congrArg List.length w1;simp only[List.length_map] at hl;obtain⟨f,h1,h2,h3⟩:=h;rw[List.take_of_length_le (by rw[hl];exact Nat.le_refl _)] at h2 h3;refine⟨?_,load_sum h1 (by omega) ?_,?_⟩
 ·have:=loadD_back h1 (n:=1) (by omega) hw hb aw_spots (by rw[aw_fresh,atZ_len];omega) h2
  rw[aw_lay] at this;exact this
 ·show unpE (f 7)=12
  rw[h3 7 (fun x hx e=>by
   have:x.1∈[(2:Int),3]:=by rw[←w1];exact List.mem_map.2 ⟨x,hx,rfl⟩
   simp at this;omega)]
  exact zerosL_unp
 ·unfold loadD
  exact if_pos rfl
open Go.RowKit
theorem empty_on2 {F G:Nat→Prop} {w:World} {cs:List Value} (h:NodeOn G 1 w cs (.leaf 0 [])):∃a1 c1 a2 c2 a3 c3,cs=[.int .i64 0,.bool true,.slice a1 0 c1,.slice a2 0 c2,.slice a3 0 c3]∧NodeOn F 1 w cs (.leaf 0 []):=by
 obtain⟨ka,kn,kc,va,vn,vc,ca,cc,e,h1,_,h2,_,h3⟩:=h;obtain rfl:kn=0:=h1.1.symm;obtain rfl:vn=0:=h2.1.symm;exact⟨ka,kc,va,vc,ca,cc,e,ka,0,kc,va,0,vc,ca,cc,e,h1,Fa.zero _ _,unit_any (α:=Tv) h2,Fa.zero _ _,h3⟩
open Go.RowKit
theorem aw_one20 (W:World) (n:Int):Row .i64 (W.alloc (.cells #[.int .i64 n] 3)) (some ⟨W.heap.size,0,none⟩) 1 1 [n]:=Row.made .i64 W 3 [n] rfl (by unfold maxLen;simp)
theorem aw_row (w:World):Pzs (w.alloc (.cells #[.string ⟨#[107]⟩,.int .i64 30] 99)) (some ⟨w.heap.size,0,none⟩) 1 1 [aP]:=by
 refine⟨rfl,Nat.le_refl _,by unfold maxLen;omega,fun h=>(by cases h),.inr ⟨_,0,rfl,by simp,fun i y hy=>?_⟩⟩
 match i,hy with
 | 0,hy=>
  cases hy;refine⟨pzC aP,rfl,rfl,fun j v hj=>?_⟩
  match j,hj with
  | 0,hj=>cases hj;simp only[World.cell?,World.alloc_heap_new];rfl
  | 1,hj=>cases hj;simp only[World.cell?,World.alloc_heap_new];rfl
  | j+2,hj=>simp[pzC] at hj
 | i+1,hy=>simp at hy
theorem One.opens_at {B:Nat} {w w1:World} {da M:Nat} {d:List Rg} (h:One B w da M d) (hb:Below w.heap.size w w1):Opens B w.heap.size w1 da M d (fun w' M' d'=>One B w' da M' d'∧Below B w1 w'):=by
 obtain⟨F,bs,h1,h2,h3⟩:=h;have hs:=hb.size;refine⟨F,bs,h1.below hb,fun k hk=>⟨h2 k hk,h1.lt k hk⟩,hs,by omega,fun w' F' bs' d' M' _ ho hd hF=>⟨⟨F',bs',hd,fun k hk=>(hF k hk).elim (h2 k) (fun h=>by omega),by have:=ho.size;omega⟩,ho.below (by omega) h2⟩⟩
def Wrs (w:World) (a:Option Addr) (n c:Nat) (W:List Wr):Prop:=TabR 2 (fun cs y=>cs=wcl y) w a n c W
theorem Wrs.at {w:World} {a:Option Addr} {n c:Nat} {l:List Wr} (h:Wrs w a n c l) {k:Nat} (hk:k<n) :
 ∃b off y,a=some ⟨b,off,none⟩∧b<w.heap.size∧l[k]? = some y∧w.cell? ⟨b,off+k*2,none⟩=some (.int .i64 y.1)∧w.cell? ⟨b,off+k*2+1,none⟩=some (.string (strOf y.2)):=by
 obtain⟨b,off,y,cs,e1,e2,e3,_,e5,e6⟩:=TabR.at h hk;obtain rfl:cs=wcl y:=e5;exact⟨b,off,y,e1,e2,e3,e6 0 _ rfl,e6 1 _ rfl⟩
theorem Wrs.own {w:World} {base:Nat} {e:TypeId} {a:Option Addr} {c:Nat} {l:List Wr} (h:w.ownsRow base e 2 (.slice a l.length c) l.length (l.flatMap wcl)):Wrs w a l.length c l:=by
 obtain⟨a',c',e,hr⟩:=TabR.of_own (R:=fun cs y=>cs=wcl y) wcl (fun y=>rfl) (fun y=>rfl) h;cases e;exact hr
theorem aw_open {F:Nat→Prop} {w:World} {cs:List Value} (h:NodeOn F 1000 w cs aL):∃ka kc va vc ca cc,cs=[.int .i64 3,.bool true,.slice ka 1 kc,.slice va 1 vc,.slice ca 0 cc]∧∃b off,va=some ⟨b,off,none⟩∧b<w.heap.size∧w.cell? ⟨b,off,none⟩=some (.string (strOf aD))∧1≤vc∧vc≤maxLen:=by
 have h:NodeOn F (999+1) w cs aL:=h;obtain⟨ka,kn,kc,va,vn,vc,ca,cc,rfl,h1,_,h2,_,h3⟩:=h;have hk:kn=1:=by have:=(TabR.lens h1).1;simpa[keysOf] using this.symm
 have hv:vn=1:=by have:=(TabR.lens h2).1;simpa using this.symm
 subst hk hv;refine⟨ka,kc,va,vc,ca,cc,rfl,?_⟩;obtain⟨b,off,y,tcs,e1,e2,e3,_,e5,e6⟩:=TabR.at h2 (show 0<1 by omega);simp at e3;subst e3;obtain⟨pa,pn,pc,rfl,_⟩:=e5;have:=e6 0 _ rfl;exact⟨b,off,e1,e2,by simpa using this,(TabR.lens h2).2.1,(TabR.lens h2).2.2⟩
theorem awake20_any (w:World) (hh:Half w):Calls Tryz.prog 9 #[] w fun e w'=>e=.returned (.bool true)∧Below w.heap.size w w':=by
 have L:=laid_any (aw_row w) (fr:=0) (by omega);have hb0:Below w.heap.size w (w.alloc (.cells #[.string ⟨#[107]⟩,.int .i64 30] 99)):=Below.al (Below.refl _ _);go_enter Tryz.func9,Tryz.ntmps9;go_wp2_with fail;refine L.mono ?_;rintro e w1 ⟨hb1,hr⟩
 rcases hr with⟨hs,_⟩|⟨_,N,T,hlr,R,hR,p,lf,a,m,c,aW,cW,rfl,hn,ho⟩
 ·rw[aw_small] at hs;cases hs
 obtain⟨rfl,rfl,hwh,hbr⟩:=aw_laid hlr;rw[aw_fresh] at hR;obtain⟨q1,q2⟩:=aw_writes hwh hbr;obtain⟨w2,hw2⟩:∃x,w1.alloc (.cells #[.int .i64 p,.bool lf,.slice a m c] 27)=x:=⟨_,rfl⟩
 have hRl:R.1=aL:=by rw[←hR];exact aw_lay
 rw[hRl] at hn;have hp3:p=3:=by
  obtain⟨xa,xn,xc,e⟩:=RNodeOn.open_pos hn
  injection e with e _
  injection e
 subst hp3;rw[hR] at q1 q2;have hlen:R.2.1.length=2:=by have:=congrArg List.length q1;simpa using this
 have hb12:Below w1.heap.size w1 w2:=by rw[←hw2];exact Below.al (Below.refl _ _)
 have hWR:=(Wrs.own ho)
 have hWR2:Wrs w2 aW R.2.1.length cW R.2.1:=TabR.below (Nat.le_refl _) hb12 hWR;have hcW:=(TabR.lens hWR).2;unfold maxLen at hcW;rw[hlen] at hWR2 hcW ⊢;have hx2:Boxes w2 [(w1.heap.size,[.int .i64 3,.bool lf,.slice a m c])]:=by rw[←hw2];exact(Boxes.nil w1).alloc #[.int .i64 3,.bool lf,.slice a m c] 27 rfl
 have hbw2:Below w.heap.size w w2:=below_via (below_via hb0 hb1) hb12;have HP:=Hd hWR2;have HX:=Hd hx2;have HB2:=Hd hbw2;have HQ:=Hd (And.intro q1 q2);have HWB:=Hd (And.intro hwh hbr);have HRR:=Hd hR;have HLEN:=Hd hlen;have D:=new_ok (aw_one20 w2 9) (by decide);have hsz2:(w2.alloc (.cells #[.int .i64 9] 3)).heap.size=w2.heap.size+1:=by simp
 clear L hb0 hb1 hlr hR q1 q2 hRl hn hb12 hWR hWR2 hx2 hbw2 hwh hbr ho hlen;go_wp2_with fail;refine D.mono ?_;rintro e w3 ⟨db,rfl,hd3,hb3⟩;rw[hsz2] at hd3;have hw3:Below w2.heap.size w2 w3:=below_then ((Below.refl _ _).alloc (Nat.le_refl _) _) hb3;have HD3:=Hd hd3;have HW3:=Hd hw3;clear D hb3 hsz2 hd3 hw3;go_wp2_with fail
 go_loopw [6] (fun s6 wr=>∃(i:Nat) (d:List Rg),i≤2∧s6=.int .i64 i∧One (w2.heap.size+1) wr db i d∧Wrtn zeros 9 R.2.1 i d∧Below w2.heap.size w2 wr) (fun s _=>2-(intOf s).toNat)
 case atStart=>exact⟨0,_,Nat.zero_le _,rfl,HD3.out,Wrtn.start (RegAt.new (l:=[9]) (r:=0) rfl) _,HW3.out⟩
 case round=>
  clear HD3 HW3;obtain⟨i,d,hi,rfl,hd,hwr,hb⟩:=hrel
  by_cases hlt:i<2
  ·obtain⟨bl,ol,y,rfl,hbl,hy,c0,c1⟩:=HP.out.at hlt
   have hlt':(i:Int)<2:=by omega
   have hym:=List.mem_of_getElem? hy;have hy128:=HQ.out.2 y hym;have hstep:=hwr.step (by rw[HQ.out.1];decide) (fun x hx=>by
    have:x.1∈[(2:Int),3]:=by rw[←HQ.out.1];exact List.mem_map.2 ⟨x,hx,rfl⟩
    simp at this;omega) hy hy128
   have m2076d5:=trivial;exact q2a6c41
  ·obtain rfl:i=2:=by omega
   have hlt':decide ((2:Int)<2)=false:=by decide
   have hcp:=HX.out.step hb;have f0:=hcp.cell 0 0 rfl rfl;obtain⟨l1,l2,l3⟩:=aw_loads HWB.out.1 HWB.out.2 (d:=d) (by rw[HRR.out];exact hwr);have hbw:=below_then HB2.out hb;have G1:=load_any hd (hh.below (Nat.le_refl _) hbw) 0 3 (by unfold I64;omega);rw[l1] at G1;have HD:=Hd hd;have HBW:=Hd hbw;have HL2:=Hd l2;have HL3:=Hd l3;clear hd hbw hwr hb hcp l1 l2 l3;go_wp2_with fail;refine G1.mono ?_;rintro e w4 ⟨hb4,cs,rfl,hn4⟩;obtain⟨ka,kc,va,vc,ca,cc,rfl,bv,ov,rfl,hbv,hcv,hvc1,hvc2⟩:=aw_open hn4;obtain⟨w5,hw5⟩:∃x,w4.alloc (.cells #[.int .i64 3,.bool true,.slice ka 1 kc,.slice (some ⟨bv,ov,none⟩) 1 vc,.slice ca 0 cc] 50)=x:=⟨_,rfl⟩
   have hb45:Below w4.heap.size w4 w5:=by rw[←hw5];exact Below.al (Below.refl _ _)
   have hx5:Boxes w5 [(w4.heap.size,[.int .i64 3,.bool true,.slice ka 1 kc,.slice (some ⟨bv,ov,none⟩) 1 vc,.slice ca 0 cc])]:=by rw[←hw5];exact(Boxes.nil w4).alloc #[.int .i64 3,.bool true,.slice ka 1 kc,.slice (some ⟨bv,ov,none⟩) 1 vc,.slice ca 0 cc] 50 rfl
   have hcv5:=(hb45.cell (p:=⟨bv,ov,none⟩) hbv).trans hcv;have hbv5:=Nat.lt_of_lt_of_le hbv hb45.size;have hd5:=(HD.out.below hb4).below hb45;have hbw5:=below_then (below_then HBW.out hb4) hb45;have G2:=load_any hd5 (hh.below (Nat.le_refl _) hbw5) 0 7 (by unfold I64;omega);rw[HL2.out] at G2;have HX5:=Hd hx5;have HCV:=Hd hcv5;have HD5:=Hd hd5;have HB5:=Hd hbw5;clear hn4 hb4 hcv hbv hb45 hx5 hcv5 hd5 hbw5 G1 HD HBW;go_wp2_with fail;refine G2.mono ?_;rintro e w6 ⟨hb6,rfl⟩;obtain⟨w7,hw7⟩:∃x,w6.alloc (.cells #[.int .i64 0,.bool false,.slice none 0 0,.slice none 0 0,.slice none 0 0] 50)=x:=⟨_,rfl⟩
   have hb67:Below w6.heap.size w6 w7:=by rw[←hw7];exact Below.al (Below.refl _ _)
   have hb57:=below_via hb6 hb67;have hd7:=HD5.out.below hb57;have hbw7:=below_then HB5.out hb57;have G3:=load_any hd7 (hh.below (Nat.le_refl _) hbw7) 0 0 (by unfold I64;omega);rw[HL3.out] at G3;have HX7:=Hd (HX5.out.step hb57);have HC7:=Hd ((hb57.cell (p:=⟨bv,ov,none⟩) hbv5).trans HCV.out);have hbv7:=Nat.lt_of_lt_of_le hbv5 hb57.size;have HB7:=Hd hbw7;have HW7:=Hd hw7;clear hb6 hb67 hb57 hd7 hbw7 G2 HX5 HCV HD5 HB5 hw7;go_wp2_with fail;rw[HW7.out];refine G3.mono ?_;rintro e w8 ⟨hb8,cs,rfl,hn8⟩;obtain⟨e1,e2,e3,e4,e5,e6,rfl,_⟩:=empty_on2 (F:=fun _=>True) (NodeOn.less (m:=1) (lo:=[]) (hi:=[]) hn8 ⟨rfl,by simp[keysOf],fun c hc=>by cases hc⟩);obtain⟨w9,hw9⟩:∃x,w8.alloc (.cells #[.int .i64 0,.bool true,.slice e1 0 e2,.slice e3 0 e4,.slice e5 0 e6] 50)=x:=⟨_,rfl⟩
   have hb89:Below w8.heap.size w8 w9:=by rw[←hw9];exact Below.al (Below.refl _ _)
   have hx9:Boxes w9 [(w8.heap.size,[.int .i64 0,.bool true,.slice e1 0 e2,.slice e3 0 e4,.slice e5 0 e6])]:=by rw[←hw9];exact(Boxes.nil w8).alloc #[.int .i64 0,.bool true,.slice e1 0 e2,.slice e3 0 e4,.slice e5 0 e6] 50 rfl
   have hb79:=below_via hb8 hb89;have hxx:=HX7.out.step hb79;have m0:=hxx.cell 0 0 rfl rfl;have m2:=hxx.cell 0 2 rfl rfl;have m3:=hxx.cell 0 3 rfl rfl;have n1:=hx9.cell 0 1 rfl rfl;have n2:=hx9.cell 0 2 rfl rfl;have cv:=(hb79.cell (p:=⟨bv,ov,none⟩) hbv7).trans HC7.out;have hd30:(strOf aD).size=30:=by rw[strOf_size];rfl
   have HF:=Hd (below_then HB7.out hb79);unfold maxLen at hvc2;clear hn8 hb8 hb89 hx9 hb79 hxx G3 HX7 HC7 HB7;go_wp2_with fail;go_ret;exact⟨rfl,HF.out⟩
open Go.RowKit
theorem info_Cc:RowInfo Tryz.prog 145 4 80:=row_info (by kernel_rfl)
open Go.RowKit
theorem plain20_leaf {n:Nat} {F:Nat→Prop} {w:World} {cs:List Value} {p:Int} {l:List (List UInt8×Tv)} (hF:∀b,F b→b<w.heap.size) (h:NodeOn F (n+1) w cs (.leaf p l)) (hm:l.length≤1000) :
 Calls Tryz.prog 18 #[.agg cs.toArray] w (RNodeTo F (n+1) w (.leaf p l)):=by
 obtain⟨ka,kn,kc,va,vn,vc,ca,cc,rfl,h1,f1,h2,f2,h3⟩:=h;obtain⟨e1,e2,e3⟩:=h1.lens;obtain⟨e4,e5,e6⟩:=h2.lens;have hkl:(keysOf l).length=l.length:=by simp[keysOf]
 obtain rfl:kn=vn:=by rw[List.length_map] at e4;omega
 have hcl:(cellsR (.leaf p l)).length=kn:=by rw[cellsR_len];show l.length=kn;omega
 have hkn:kn≤1000:=by omega
 have HH1:=Hd h1;have HV:=Hd h2;have hB0:Below w.heap.size w (((w.alloc (.cells #[.int .i64 p,.bool true,.slice ka kn kc,.slice va kn vc,.slice ca 0 cc] 50)).alloc (.cells #[.int .i64 0,.bool false,.slice none 0 0] 27)).alloc (.cells #[.int .i64 p,.bool true,.slice none 0 0] 27)):=Below.al (Below.al (Below.al (Below.refl _ _)));have HX0:Hid (Boxes _ [(w.heap.size+1+1,[.int .i64 p,.bool true,.slice none 0 0]),(w.heap.size+1,[.int .i64 0,.bool false,.slice none 0 0]),(w.heap.size,[.int .i64 p,.bool true,.slice ka kn kc,.slice va kn vc,.slice ca 0 cc])]):=Hd ((((Boxes.nil w).alloc #[.int .i64 p,.bool true,.slice ka kn kc,.slice va kn vc,.slice ca 0 cc] 50 (b:=w.heap.size) rfl).alloc #[.int .i64 0,.bool false,.slice none 0 0] 27 (b:=w.heap.size+1) (by simp)).alloc #[.int .i64 p,.bool true,.slice none 0 0] 27 (b:=w.heap.size+1+1) (by simp));have HB0:=Hd hB0;have HCL:=Hd hcl;clear h1 f1 h2 h3 hB0 e1 e4 hcl hkl e5 e6;go_enter Tryz.func18,Tryz.ntmps18;go_wp2_with fail
 go_loopw [4,5] (fun s4 _ wr=>∃(i:Nat) (v:Value),i≤kn∧s4=.int .i64 i∧Boxes wr [(w.heap.size+1+1,[.int .i64 p,.bool true,v]),(w.heap.size+1,[.int .i64 0,.bool false,.slice none 0 0]),(w.heap.size,[.int .i64 p,.bool true,.slice ka kn kc,.slice va kn vc,.slice ca 0 cc])]∧CellsOwn 145 F n (w.heap.size+3) wr v ((cellsR (.leaf p l)).take i)∧Below w.heap.size w wr) (fun s _ _=>kn-(intOf s).toNat)
 case atStart=>exact⟨0,_,Nat.zero_le _,rfl,HX0.out,CellsOwn.nil _ _ _ _ _,HB0.out⟩
 case round=>
  have m5a5905:=trivial;exact q3e75f7
theorem plain20_node {n:Nat} (IH:∀{F:Nat→Prop} {w:World} {cs:List Value} {t:Tr},(∀b,F b→b<w.heap.size)→NodeOn F n w cs t→Bnd n t→Calls Tryz.prog 18 #[.agg cs.toArray] w (RNodeTo F n w t)) {F:Nat→Prop} {w:World} {cs:List Value} {p:Int} {l:List (List UInt8×Tr)} (hF:∀b,F b→b<w.heap.size) (h:NodeOn F (n+1) w cs (.node p l)) (hm:l.length≤1000) (hbk:∀c∈l,Bnd n c.2) :
 Calls Tryz.prog 18 #[.agg cs.toArray] w (RNodeTo F (n+1) w (.node p l)):=by
 obtain⟨ka,kn,kc,va,vc,ca,cn,cc,rfl,h1,f1,h2,h3,f3⟩:=h;obtain⟨e1,e2,e3⟩:=h1.lens;obtain⟨e4,e5,e6⟩:=h3.lens;have hkl:(keysOf l).length=l.length:=by simp[keysOf]
 obtain rfl:kn=cn:=by rw[List.length_map] at e4;omega
 have hcl:(cellsR (.node p l)).length=kn:=by rw[cellsR_len];show l.length=kn;omega
 have hkn:kn≤1000:=by omega
 have HH1:=Hd h1;have HV:=Hd h3;have hB0:Below w.heap.size w (((w.alloc (.cells #[.int .i64 p,.bool false,.slice ka kn kc,.slice va 0 vc,.slice ca kn cc] 50)).alloc (.cells #[.int .i64 0,.bool false,.slice none 0 0] 27)).alloc (.cells #[.int .i64 p,.bool false,.slice none 0 0] 27)):=Below.al (Below.al (Below.al (Below.refl _ _)));have HX0:Hid (Boxes _ [(w.heap.size+1+1,[.int .i64 p,.bool false,.slice none 0 0]),(w.heap.size+1,[.int .i64 0,.bool false,.slice none 0 0]),(w.heap.size,[.int .i64 p,.bool false,.slice ka kn kc,.slice va 0 vc,.slice ca kn cc])]):=Hd ((((Boxes.nil w).alloc #[.int .i64 p,.bool false,.slice ka kn kc,.slice va 0 vc,.slice ca kn cc] 50 (b:=w.heap.size) rfl).alloc #[.int .i64 0,.bool false,.slice none 0 0] 27 (b:=w.heap.size+1) (by simp)).alloc #[.int .i64 p,.bool false,.slice none 0 0] 27 (b:=w.heap.size+1+1) (by simp));have HB0:=Hd hB0;have HCL:=Hd hcl;clear h1 f1 h2 h3 hB0 e1 e4 hcl hkl;go_enter Tryz.func18,Tryz.ntmps18;go_wp2_with fail
 go_loopw [4,5] (fun s4 _ wr=>∃(i:Nat) (v:Value),i≤kn∧s4=.int .i64 i∧Boxes wr [(w.heap.size+1+1,[.int .i64 p,.bool false,v]),(w.heap.size+1,[.int .i64 0,.bool false,.slice none 0 0]),(w.heap.size,[.int .i64 p,.bool false,.slice ka kn kc,.slice va 0 vc,.slice ca kn cc])]∧CellsOwn 145 F n (w.heap.size+3) wr v ((cellsR (.node p l)).take i)∧Below w.heap.size w wr) (fun s _ _=>kn-(intOf s).toNat)
 case atStart=>exact⟨0,_,Nat.zero_le _,rfl,HX0.out,CellsOwn.nil _ _ _ _ _,HB0.out⟩
 case round=>
  have m77b14d:=trivial;exact q3e75f7
theorem plain20_any:∀{n:Nat} {F:Nat→Prop} {w:World} {cs:List Value} {t:Tr},(∀b,F b→b<w.heap.size)→NodeOn F n w cs t→Bnd n t→Calls Tryz.prog 18 #[.agg cs.toArray] w (RNodeTo F n w t)
 | 0,_,_,_,_,_,h,_=>h.elim
 | _n+1,_,_,_,.leaf _p _l,hF,h,hb=>plain20_leaf hF h hb.1
 | _n+1,_,_,_,.node _p _l,hF,h,hb=>plain20_node (fun hF h hb=>plain20_any hF h hb) hF h hb.1 (fun c hc=>(hb.2 c hc).2)
open Go.RowKit
def SameTo (w:World) (e:Ending) (w':World):Prop:=e=.returned (.bool true)∧Below w.heap.size w w'
theorem Row.cellS {w:World} {a:Option Addr} {len cap:Nat} {l:List Int} (h:Row .i64 w a len cap l) {k:Nat} (hk:k<len) :
 ∃b off,a=some ⟨b,off,none⟩∧b<w.heap.size∧w.cell? ⟨b,off+k,none⟩=some (.int .i64 (l[k]?.getD 0)):=by
 rcases h.2.2.2.2 with h0|⟨b,off,h1,h2,h3⟩
 ·omega
 ·exact⟨b,off,h1,h2,h3 k hk⟩
theorem Row.lensS {k:IntKind} {w:World} {a:Option Addr} {len cap:Nat} {l:List Int} (h:Row k w a len cap l):l.length=len∧len≤cap∧cap≤9223372036854775807:=⟨h.1,h.2.1,by have:=h.2.2.1;unfold maxLen at this;omega⟩
theorem same_step {n:Nat} (IH:∀{F G:Nat→Prop} {w:World} {cs ds:List Value} {t:Tr},RNodeOn F n w cs t→RNodeOn G n w ds t→Calls Tryz.prog 17 #[.agg cs.toArray,.agg ds.toArray] w (SameTo w))
 {F G:Nat→Prop} {w:World} {cs ds:List Value} {t:Tr} (hf:RNodeOn F (n+1) w cs t) (hg:RNodeOn G (n+1) w ds t) :
 Calls Tryz.prog 17 #[.agg cs.toArray,.agg ds.toArray] w (SameTo w):=by
 obtain⟨a,c,rfl,h1,_⟩:=hf.at;obtain⟨d,g,rfl,g1,_⟩:=hg.at;obtain⟨e1,e2,e3⟩:=h1.lens;obtain⟨e4,e5,e6⟩:=g1.lens;generalize cntT t=m at *;generalize cellsR t=L at *;generalize t.page=p at *;generalize t.isLeaf=lf at *;have H1:=Hd h1;have G1:=Hd g1;have hB0:Below w.heap.size w ((w.alloc (.cells #[.int .i64 p,.bool lf,.slice a m c] 27)).alloc (.cells #[.int .i64 p,.bool lf,.slice d m g] 27)):=Below.al (Below.al (Below.refl _ _));have HX0:=Hd (((Boxes.nil w).alloc #[.int .i64 p,.bool lf,.slice a m c] 27 (b:=w.heap.size) rfl).alloc #[.int .i64 p,.bool lf,.slice d m g] 27 (b:=w.heap.size+1) (by simp));have HB0:=Hd hB0;have hpp:(p != p)=false:=by simp
 have hll:(lf != lf)=false:=by simp
 have hmm:((m:Int) != (m:Int))=false:=by simp
 clear h1 g1 hB0 hf hg e1 e4;go_enter Tryz.func17,Tryz.ntmps17;go_wp2_with fail
 go_loopw [5] (fun s5 wr=>∃(i:Nat),i≤m∧s5=.int .i64 i∧Boxes wr [(w.heap.size+1,[.int .i64 p,.bool lf,.slice d m g]),(w.heap.size,[.int .i64 p,.bool lf,.slice a m c])]∧Below w.heap.size w wr) (fun s _=>m-(intOf s).toNat)
 case atStart=>exact⟨0,Nat.zero_le _,rfl,HX0.out,HB0.out⟩
 case round=>
  obtain⟨i,hi,rfl,hx,hb⟩:=hrel;clear HX0 HB0 hpp hll hmm;have n2:=hx.cell 1 2 rfl rfl;have o2:=hx.cell 0 2 rfl rfl
  by_cases hlt:i<m
  rotate_left
  ·obtain rfl:i=m:=by omega
   have HE:=Hd hb;clear hx hb;go_wp2_with fail;go_ret;exact⟨rfl,HE.out⟩
  obtain⟨b,off,y,pa,pn,pc,ka,kn,kc,rfl,hbb,hy,_,hrow,_,hkid,_,c0,c1,c2,c3⟩:=RNodeOn.cell H1.out hlt;obtain⟨b',off',y',qa,qn,qc,la,ln,lc,rfl,hbb',hy',_,hrow',_,hkid',_,c0',c1',c2',c3'⟩:=RNodeOn.cell G1.out hlt;rw[hy] at hy';cases hy';obtain⟨r1,r2,r3⟩:=hrow.lensS;obtain⟨r4,r5,r6⟩:=hrow'.lensS;obtain⟨s1,s2,s3⟩:=hkid.lens;obtain⟨s4,s5,s6⟩:=hkid'.lens;obtain rfl:pn=qn:=by omega
  obtain rfl:kn=ln:=by omega
  obtain⟨yk,yv,yo⟩:=y;obtain⟨yd,yp⟩:=yv;dsimp only at *;have m23815f:=trivial;exact q7273b9
theorem same_any:∀{n:Nat} {F G:Nat→Prop} {w:World} {cs ds:List Value} {t:Tr},RNodeOn F n w cs t→RNodeOn G n w ds t→Calls Tryz.prog 17 #[.agg cs.toArray,.agg ds.toArray] w (SameTo w)
 | 0,_,_,_,_,_,_,h,_=>h.elim
 | _n+1,_,_,_,_,_,_,h,g=>same_step (fun h g=>same_any h g) h g
open Go.RowKit
open Go.RowKit
theorem NodeOn.words {F:Nat→Prop} {n:Nat} {w:World} {cs:List Value} {t:Tr} (h:NodeOn F n w cs t) :
 ∃a1 c1 a2 n2 c2 a3 n3 c3,cs=[.int .i64 t.page,.bool t.isLeaf,.slice a1 (cntT t) c1,.slice a2 n2 c2,.slice a3 n3 c3]∧cntT t≤c1∧c1≤9223372036854775807:=by
 obtain⟨ka,kc,va,vn,vc,ca,cn,cc,V,C,e,h1,_⟩:=h.open_pos;exact⟨ka,kc,va,vn,vc,ca,cn,cc,e,h1.lens.2.1,h1.lens.2.2⟩
end Go.Proofs.YtpghlmcoajaiiaaGreatDoor
namespace Go.Proofs.YtpghlmcoajaiiaaGreatDoor
open Go.RowKit Go.Deep Go.WideShapes Go.ChangeShapes
theorem bs_of_frame {w:World} {a:Option Addr} {len cap:Nat} {z:List Int}
 (h:(a=none∧len=0∧cap=0∧z=[])∨∃x,a=some x∧len≤cap∧cap≤maxLen∧z.length=cap∧(∀i,i<z.length→w.cell? (x.add i)=some (.int .u8 (z.getD i 0)))∧∀n∈z,(Lit.int .u8 n).wf=true) :
 ∃l,Bs w a len cap l:=by
 have h:=Row.of_frame h;refine⟨ofI (z.take len),?_⟩;show Row .u8 w a len cap (toI (ofI (z.take len)));rw[toI_ofI _ h.2];exact h.1
section
variable {H:Type} {enc:TypeId×Value→H} {P:Program} {w:World} {base:Nat}
theorem read_bs {t e:TypeId} (ht:P.underlying t=some (.slice e)) (he:P.underlying e=some (.int .u8)) (hc:P.cellsOf e=1) :
 ∀n cs x,cs.length=1→DataW.trod enc P w 0 (fun _=>true) true n t cs=some x→∃y,IsBs w cs y:=by
 intro n cs x hlen h
 rcases open_ints ht he hc h with⟨rfl,_⟩|⟨x,l,c,zs,rfl,_,hl,hm,hz,_,hcell,hwz⟩
 ·obtain⟨y,hy⟩:=bs_of_frame (w:=w) (a:=none) (len:=0) (cap:=0) (z:=[]) (.inl ⟨rfl,rfl,rfl,rfl⟩)
  exact⟨y,_,_,_,rfl,hy⟩
 ·obtain⟨y,hy⟩:=bs_of_frame (w:=w) (a:=some x) (len:=l) (cap:=c) (z:=zs) (.inr ⟨_,rfl,hl,hm,by simpa using hz,hcell,hwz⟩)
  exact⟨y,_,_,_,rfl,hy⟩
end
end Go.Proofs.YtpghlmcoajaiiaaGreatDoor
namespace Go.Proofs.YtpghlmcoajaiiaaGreatDoor
open Go.RowKit Go.Deep Go.WideShapes Go.ChangeShapes
structure Wrt where
 page:Int
 a:Option Addr
 n:Nat
 cap:Nat
 b:List UInt8
def IsWrt (w:World) (cs:List Value) (y:Wrt):Prop:=cs=[.int .i64 y.page,.slice y.a y.n y.cap]∧Bs w y.a y.n y.cap y.b
def Wrts (w:World) (a:Option Addr) (len cap:Nat) (l:List Wrt):Prop:=TabR 2 (IsWrt w) w a len cap l
section
variable {H:Type} {enc:TypeId×Value→H} {P:Program} {w:World} {base:Nat}
theorem rd_wrt {t e:TypeId} {f0 f1:Field} (ht:P.underlying t=some (.struct #[f0,f1])) (o0:f0.offset=0) (o1:f1.offset=1) (c0:P.cellsOf f0.type=1) (c1:P.cellsOf f1.type=1)
 (u0:P.underlying f0.type=some (.int .i64)) (u1:P.underlying f1.type=some (.slice e)) (ue:P.underlying e=some (.int .u8)) (ce:P.cellsOf e=1) :
 ∀n cs x,cs.length=2→DataW.trod enc P w 0 (fun _=>true) true n t cs=some x→∃y:Wrt,IsWrt w cs y:=by
 intro n cs x hlen h;obtain⟨xs,k,_,_,_,hxl,hf⟩:=DataW.trod_struct ht h
 match xs,hxl,cs,hlen with
 | [y0,y1],_,[v0,v1],_=>
  have g0:=hf 0 f0 rfl;have g1:=hf 1 f1 rfl;simp[o0,o1,c0,c1] at g0 g1;obtain⟨n0,e0,_,_⟩:=DataW.trod_int u0 g0;obtain⟨y,a,len,cap,e1,hb⟩:=read_bs u1 ue ce _ _ _ (by simp) g1;simp at e0 e1;exact⟨⟨n0,a,len,cap,y⟩,by rw[e0,e1],hb⟩
theorem open_wrts_of {t e s:TypeId} {f0 f1:Field} (ht:P.underlying t=some (.slice e)) (he:P.underlying e=some (.struct #[f0,f1])) (hc:P.cellsOf e=2) (o0:f0.offset=0) (o1:f1.offset=1)
 (c0:P.cellsOf f0.type=1) (c1:P.cellsOf f1.type=1) (u0:P.underlying f0.type=some (.int .i64)) (u1:P.underlying f1.type=some (.slice s)) (us:P.underlying s=some (.int .u8)) (cs:P.cellsOf s=1)
 {v:Value} {d:DataW H} {p:List MemPlace} (hv:Value.okWide P w .any base t v) (h:DataW.Trod enc P w 0 (fun _=>true) true t v d p) :
 ∃a len cap l,v=.slice a len cap∧Wrts w a len cap l:=
 open_tab ht hc (by decide) (IsWrt w) (rd_wrt he o0 o1 c0 c1 u0 u1 us cs) hv h
end
theorem open_wrts {H:Type} {enc:TypeId×Value→H} {w:World} {base:Nat} {v:Value} {d:DataW H} {p:List MemPlace} (hv:Value.okWide Tryz.prog w .any base 23 v) (h:DataW.Trod enc Tryz.prog w 0 (fun _=>true) true 23 v d p) :
 ∃a len cap l,v=.slice a len cap∧Wrts w a len cap l:=
 open_wrts_of Tryz.underlying23 Tryz.underlying45 (by kernel_rfl) (by rfl) (by rfl) (by kernel_rfl) (by kernel_rfl) Tryz.underlying3 Tryz.underlying42 Tryz.underlying5 (by kernel_rfl) hv h
theorem Wrts.below {w w':World} {a:Option Addr} {len cap:Nat} {l:List Wrt} {B:Nat} (h:Wrts w a len cap l) (hB:w.heap.size≤B) (hb:Below B w w'):Wrts w' a len cap l:=
 (TabR.below hB hb h).mono fun _ _ hy=>⟨hy.1,hy.2.below hB hb⟩
theorem Wrts.at {w:World} {a:Option Addr} {len cap:Nat} {l:List Wrt} (h:Wrts w a len cap l) {k:Nat} (hk:k<len) :
 ∃b off y,a=some ⟨b,off,none⟩∧b<w.heap.size∧l[k]? = some y∧w.cell? ⟨b,off+k*2,none⟩=some (.int .i64 y.page)∧w.cell? ⟨b,off+k*2+1,none⟩=some (.slice y.a y.n y.cap)∧Bs w y.a y.n y.cap y.b:=by
 obtain⟨b,off,y,cs,e1,e2,e3,_,e5,e6⟩:=TabR.at h hk;obtain⟨rfl,h9⟩:=e5;exact⟨b,off,y,e1,e2,e3,by simpa using e6 0 _ rfl,e6 1 _ rfl,h9⟩
end Go.Proofs.YtpghlmcoajaiiaaGreatDoor
namespace Go.Proofs.YtpghlmcoajaiiaaGreatDoor
open Go.RowKit
def codeD:Except Int Tr→Int
 | .ok _=>0
 | .error x=>x
theorem valsL_ne {d:List Rg} {r:Int}:∀{l:List En} {seen:List Int} {x:Int},valsL d r seen l=.error x→x≠0
 | [],_,_,h=>by cases h
 | e::l,seen,x,h=>by
  unfold valsL at h
  split at h
  ·rename_i y hv
   cases h;unfold valL at hv
   split at hv
   ·cases hv
   ·split at hv
    ·cases hv;assumption
    ·split at hv
     ·cases hv;decide
     ·cases hv
  ·split at h
   ·rename_i y hv
    cases h;exact valsL_ne hv
   ·cases h
theorem kidsL_ne {f:List Int→Int→Except Int (List Int×Tr)} (hf:∀seen p x,f seen p=.error x→x≠0):∀{l:List En} {seen:List Int} {x:Int},kidsL f seen l=.error x→x≠0
 | [],_,_,h=>by cases h
 | e::l,seen,x,h=>by
  unfold kidsL at h
  split at h
  ·rename_i y hv
   cases h;exact hf _ _ _ hv
  ·split at h
   ·rename_i y hv
    cases h;exact kidsL_ne hf hv
   ·cases h
theorem loadT_ne {d:List Rg} {r:Int}:∀{n:Nat} {seen:List Int} {p x:Int},loadT d r n seen p=.error x→x≠0
 | 0,_,_,_,h=>by cases h;decide
 | n+1,seen,p,x,h=>by
  unfold loadT at h
  split at h
  ·cases h;decide
  ·split at h
   ·cases h;assumption
   ·split at h
    ·cases h;assumption
    ·split at h
     ·split at h
      ·rename_i y hv
       cases h;exact valsL_ne hv
      ·cases h
     ·split at h
      ·rename_i y hv
       cases h;exact kidsL_ne (fun _ _ _ h=>loadT_ne h) hv
      ·cases h
theorem loadD_ne {d:List Rg} {r root x:Int} (h:loadD d r root=.error x):x≠0:=by
 unfold loadD at h
 split at h
 ·cases h
 ·split at h
  ·rename_i y hv
   cases h;exact loadT_ne hv
  ·split at h
   ·cases h
   ·cases h;decide
theorem loadD_bnd {d:List Rg} {r root:Int} {t:Tr} (h:loadD d r root=.ok t):Bnd 1000 t:=by
 unfold loadD at h
 split at h
 ·cases h
  exact⟨by simp,fun c hc=>by cases hc⟩
 ·split at h
  ·cases h
  ·rename_i hv
   split at h
   ·cases h
    exact(loadT_bnd hv).1
   ·cases h
def LoadC (w:World) (R:Except Int Tr) (e:Ending) (w':World):Prop:=
 Below w.heap.size w w'∧∃p lf ka kn kc va vn vc ca cn cc,e=.returned (.tuple #[.agg #[.int .i64 p,.bool lf,.slice ka kn kc,.slice va vn vc,.slice ca cn cc],.int .i64 (codeD R)])∧∀t,R=.ok t→NodeOn (fun b=>w.heap.size≤b) 1000 w' [.int .i64 p,.bool lf,.slice ka kn kc,.slice va vn vc,.slice ca cn cc] t
theorem LoadPost.code {w:World} {R:Except Int Tr} {e:Ending} {w':World} (h:LoadPost w R e w'):LoadC w R e w':=by
 obtain⟨hb,h⟩:=h;cases R with
 | ok t=>
  obtain⟨cs,rfl,hn⟩:=h;obtain⟨a1,c1,a2,n2,c2,a3,n3,c3,rfl,_⟩:=hn.words;exact⟨hb,_,_,_,_,_,_,_,_,_,_,_,rfl,fun t e=>by cases e;exact hn⟩
 | error x=>exact⟨hb,_,_,_,_,_,_,_,_,_,_,_,h,fun t e=>by cases e⟩
def RLoadC (w:World) (R:Except Int Tr) (e:Ending) (w':World):Prop:=
 Below w.heap.size w w'∧∃p lf ka kn kc,e=.returned (.tuple #[.agg #[.int .i64 p,.bool lf,.slice ka kn kc],.int .i64 (codeD R)])∧∀t,R=.ok t→RNodeOn (fun b=>w.heap.size≤b) 1000 w' [.int .i64 p,.bool lf,.slice ka kn kc] t
theorem RLoadTo.code {w:World} {R:Except Int Tr} {e:Ending} {w':World} (h:RLoadTo w R e w'):RLoadC w R e w':=by
 obtain⟨hb,h⟩:=h;cases R with
 | ok t=>
  obtain⟨cs,rfl,hn⟩:=h;obtain⟨a,m,c,rfl⟩:=RNodeOn.open_pos hn;exact⟨hb,_,_,_,_,_,rfl,fun t e=>by cases e;exact hn⟩
 | error x=>exact⟨hb,_,_,_,_,_,h,fun t e=>by cases e⟩
theorem lay_page {N n:Nat} {t:Tr} (h:Whole n t) (hb:Bare t) {s:List Int} (hs:Spots N s) (hl:freshN n t≤s.length):0≤(layT n t s).1.page∧(layT n t s).1.page≤999:=by
 by_cases h0:freshN n t=0
 ·have ht:=fresh_zero h h0
  have hp0:t.page=0:=hb.page0;rw[hp0] at ht;subst ht;cases n with
  | zero=>exact h.1.1.elim
  | succ n=>
   rw[layT,if_pos rfl];show(0:Int)≤0∧(0:Int)≤999;omega
 ·obtain⟨p,e1,e2,e3,e4⟩:=layT_page (fits_whole h hb h0) hs hl
  have:=pgC_lt e3;rw[e1];omega
theorem Both.gsk {B:Nat} {w:World} {da M:Nat} {d e:List Rg} {a:Option Addr} {n cap:Nat} (h:Both B w da M d a n cap e):∃K,GsK K w a n cap e:=by
 obtain⟨F,bs,h1,h2,h3,h4⟩:=h;exact⟨_,h4⟩
theorem DOk.new:DOk (newD [1000]):=fun x hx=>by
 simp only[newD,List.mem_map] at hx;obtain⟨n,hn,rfl⟩:=hx;simp at hn;subst hn;exact Nat.le_refl _
theorem DOk.write {d:List Rg} (h:DOk d) (r p:Int) (b:List UInt8):DOk (writeD d r p b):=fun x hx=>by
 unfold writeD at hx
 split at hx
 ·rename_i hu
  rcases List.mem_or_eq_of_mem_set hx with hx|rfl
  ·exact h x hx
  ·obtain⟨i,pn,y,rfl,rfl,hy,_⟩:=pagedE_zero hu.1
   rw[atR_of hy];have:=h y (List.mem_of_getElem? hy);have e1:(cntR y).size=y.size:=by unfold cntR;split<;>(try split)<;>rfl
   unfold wroteR
   split
   ·show(cntR y).size≤1000
    omega
   ·omega
 ·exact h x hx
theorem Both.opens_at {B:Nat} {w w1:World} {da M:Nat} {d e:List Rg} {a:Option Addr} {n cap:Nat} (h:Both B w da M d a n cap e) (hb:Below w.heap.size w w1):Opens B w.heap.size w1 da M d (fun w' M' d'=>Both B w' da M' d' a n cap e∧Below B w w'):=h.opens.below hb
theorem lLoads (a:Option Addr) (n c:Nat) (l:List Pz) (a2:Option Addr) (n2 c2:Nat) (l2:List Wrt) (root:Int) (w:World) (h1:Pzs w a n c l) (h2:Wrts w a2 n2 c2 l2) (hr:I64 root) (hh:Half w) :
 Calls Tryz.prog 3 #[.slice a n c,.slice a2 n2 c2,.int .i64 root] w fun e w'=>e=.returned (.bool true)∧Below w.heap.size w w':=by
 have A:=awake20_any w hh;have hc2:=(TabR.lens h2).2;unfold maxLen at hc2;have H1:=Hd h1;have H2:=Hd h2;clear h1 h2;go_enter Tryz.func3,Tryz.ntmps3;go_wp2_with fail;refine A.mono ?_;rintro e w0 ⟨rfl,hb0⟩;have L:=laid_any (TabR.below (Nat.le_refl _) hb0 H1.out:Pzs w0 a n c l) (fr:=0) (by omega);have HB0:=Hd hb0;clear A hb0;go_wp2_with fail;refine L.mono ?_;rintro e w1 ⟨hb1,hres⟩;have HB1:=Hd (below_then HB0.out hb1);clear L
 rcases hres with⟨hs,p,lf,a9,m9,c9,vW,rfl⟩|⟨hs,N,T,hlr,R,hR,p,lf,a9,m9,c9,aW,cW,rfl,hn,ho⟩
 ·have HB2:=Hd (below_then HB1.out (show Below w1.heap.size w1 (w1.alloc (.cells #[.int .i64 p,.bool lf,.slice a9 m9 c9] 27)) from Below.al (Below.refl _ _)))
  clear hs hb1;go_wp2_with fail;go_ret;exact⟨rfl,HB2.out⟩
 by_cases hn2:20<n2
 ·have d1:decide ((20:Int)<n2)=true:=by simp;omega
  have d1':decide (20<n2)=true:=by simp;omega
  have HB2:=Hd (below_then HB1.out (show Below w1.heap.size w1 (w1.alloc (.cells #[.int .i64 p,.bool lf,.slice a9 m9 c9] 27)) from Below.al (Below.refl _ _)));clear hs hb1 hlr hR hn ho;go_wp2_with fail;go_ret;exact⟨rfl,HB2.out⟩
 have d1:decide ((20:Int)<n2)=false:=by simp;omega
 have d1':decide (20<n2)=false:=by simp;omega
 have hl60:l.length≤60:=by unfold smallZ at hs;simp at hs;exact hs.2
 have hsp:Spots 1000 (atZ 0 (freshN N T)):=atZ_spots (fr:=0) (by have:=hlr.fresh;omega) (by omega);obtain⟨q1,q2⟩:=whole_writes hlr.whole hlr.bare hsp (by rw[atZ_len];exact Nat.le_refl _);rw[hR] at q1 q2;have hRn:R.2.1.length≤360:=by
  have h5:=congrArg List.length q1;have h6:=hlr.fresh;simp only[List.length_map,List.length_take,atZ_len] at h5;omega
 obtain⟨w2,hw2⟩:∃x,w1.alloc (.cells #[.int .i64 p,.bool lf,.slice a9 m9 c9] 27)=x:=⟨_,rfl⟩
 have hpI:I64 p:=by
  obtain⟨xa,xn,xc,e⟩:=RNodeOn.open_pos hn;have hp9:=lay_page (N:=1000) hlr.whole hlr.bare hsp (by rw[atZ_len];exact Nat.le_refl _);rw[hR] at hp9;have hpe:p=R.1.page:=by
   injection e with e _
   injection e
  rw[hpe];unfold I64;omega
 have hb12:Below w1.heap.size w1 w2:=by rw[←hw2];exact Below.al (Below.refl _ _)
 have hWR:=(Wrs.own ho)
 have hWR2:Wrs w2 aW R.2.1.length cW R.2.1:=TabR.below (Nat.le_refl _) hb12 hWR;have hcW:=(TabR.lens hWR).2;unfold maxLen at hcW;have hx2:Boxes w2 [(w1.heap.size,[.int .i64 p,.bool lf,.slice a9 m9 c9])]:=by rw[←hw2];exact(Boxes.nil w1).alloc #[.int .i64 p,.bool lf,.slice a9 m9 c9] 27 rfl
 have hbw2:Below w.heap.size w w2:=below_then HB1.out hb12;have hM:Wrts w2 a2 n2 c2 l2:=H2.out.below (Nat.le_refl _) hbw2;have HP:=Hd hWR2;have HM:=Hd hM;have HX:=Hd hx2;have HB2:=Hd hbw2;have HQ:=Hd q2;have HPI:=Hd hpI;have D:=new_ok (aw_one20 w2 1000) (by decide);have hA2:Below w2.heap.size w2 (w2.alloc (.cells #[.int .i64 1000] 3)):=(Below.refl _ _).alloc (Nat.le_refl _) _;have hsz2:(w2.alloc (.cells #[.int .i64 1000] 3)).heap.size=w2.heap.size+1:=by simp
 clear hs hb1 hlr hR hn ho q1 q2 hl60 hsp hpI hb12 hWR hWR2 hx2 hbw2 hM H1 H2 HB0 HB1;go_wp2_with fail;refine D.mono ?_;rintro e w3 ⟨db,rfl,hd3,hb3⟩;rw[hsz2] at hd3;have hw3:Below w2.heap.size w2 w3:=below_then hA2 hb3;have RN:=rnew_any (aw_one20 w3 1000) (by decide);have hA3:Below w3.heap.size w3 (w3.alloc (.cells #[.int .i64 1000] 3)):=(Below.refl _ _).alloc (Nat.le_refl _) _;have hN3:w3.heap.size≤(w3.alloc (.cells #[.int .i64 1000] 3)).heap.size:=by simp
 clear D hb3 hsz2 hA2;go_wp2_with fail;refine RN.mono ?_;rintro e w4 ⟨hb4,hp4⟩;rw[if_pos (by decide)] at hp4;obtain⟨a4,c4,rfl,hg4⟩:=hp4;have hb34:=below_then hA3 hb4;have hB4:Both (w2.heap.size+1) w4 db 0 (newD [1000]) a4 1 c4 (newD [1000]):=Both.mk hd3 hb34 hN3 hg4;have HD3:=Hd hB4;have HW3:=Hd (below_then hw3 hb34);clear RN hb4 hg4 hb34 hB4 hd3 hA3 hN3 hw3;go_wp2_with fail
 go_loopw [13,15] (fun s13 s15 wr=>∃(i:Nat) (d:List Rg) (a8:Option Addr) (c8:Nat),i≤R.2.1.length∧s15=.int .i64 i∧s13=.slice a8 1 c8∧Both (w2.heap.size+1) wr db i d a8 1 c8 d∧(∀x∈d,x.loose.length≤i)∧DOk d∧Below w2.heap.size w2 wr) (fun _ s _=>R.2.1.length-(intOf s).toNat)
 case atStart=>exact⟨0,_,a4,c4,Nat.zero_le _,rfl,rfl,HD3.out,new_loose _,DOk.new,HW3.out⟩
 case round=>
  clear HD3 HW3;obtain⟨i,d,a8,c8,hi,rfl,rfl,hd,hlo,hok,hb⟩:=hrel;have hdl:=hd.gs.1
  by_cases hlt:i<R.2.1.length
  ·obtain⟨bl,ol,y,rfl,hbl,hy,c0,c1⟩:=HP.out.at hlt
   have hlt':(i:Int)<(R.2.1.length:Int):=by omega
   have hy128:=HQ.out y (List.mem_of_getElem? hy);have mc2353c:=trivial;exact q2a6c41
  ·obtain rfl:i=R.2.1.length:=by omega
   have hlt':decide ((R.2.1.length:Int)<(R.2.1.length:Int))=false:=by simp
   have HD:=Hd hd;have HLO:=Hd hlo;have HOK:=Hd hok;have HBX:=Hd hb;clear hd hlo hok hb hdl;go_wp2_with fail
   go_loopw [13,16] (fun s13 s16 wr=>∃(i:Nat) (d:List Rg) (a8:Option Addr) (c8:Nat),i≤n2∧s16=.int .i64 i∧s13=.slice a8 1 c8∧Both (w2.heap.size+1) wr db (R.2.1.length+i) d a8 1 c8 d∧(∀x∈d,x.loose.length≤R.2.1.length+i)∧DOk d∧Below w2.heap.size w2 wr) (fun _ s _=>n2-(intOf s).toNat)
   case atStart=>exact⟨0,_,a8,c8,Nat.zero_le _,rfl,rfl,HD.out,HLO.out,HOK.out,HBX.out⟩
   case round=>
    clear HD HLO HOK HBX;obtain⟨i,d,a8,c8,hi,rfl,rfl,hd,hlo,hok,hb⟩:=hrel;have hdl:=hd.gs.1
    by_cases hlt:i<n2
    ·obtain⟨b9,o9,y,e9,hb9,hy,k0,k1,hbs⟩:=HM.out.at hlt
     subst e9;have hop:=(hd.below (w':=wr.drew) (below_drewN (Below.refl _ _) 1)).opens;have C:=write_o2 hop ((hbs.below (Nat.le_refl _) hb).below (Nat.le_refl _) (below_drewN (Below.refl _ _) 1)) (fun hn g off e=>.inl (by
      obtain⟨g',off',e',hg',_⟩:=hbs.cell (k:=0) (by omega);rw[e] at e';cases e';omega)) (by omega) 0 y.page
     have cA:∀W,Below w2.heap.size w2 W→W.cell? ⟨b9,o9+i*2,none⟩=some (.int .i64 y.page):=fun W hW=>(hW.cell (p:=⟨b9,o9+i*2,none⟩) hb9).trans k0
     have cB:∀W,Below w2.heap.size w2 W→W.cell? ⟨b9,o9+i*2+1,none⟩=some (.slice y.a y.n y.cap):=fun W hW=>(hW.cell (p:=⟨b9,o9+i*2+1,none⟩) hb9).trans k1
     have cV:∀W,Below w2.heap.size w2 W→(convert 42 9 (.slice y.a y.n y.cap)).run Tryz.prog W=.ok (.string (strOf y.b)) W:=fun W hW=>conv_string Tryz.underlying42 Tryz.underlying5 Tryz.underlying9 (hbs.below (Nat.le_refl _) hW)
     have HLO:=Hd hlo;have HOK:=Hd hok;have HDL:=Hd hdl;have hb0:Below w2.heap.size w2 wr.drew:=hb.drew;have hyc:=hbs.2.1;clear hd hb k0 k1 hbs hop hlo hy hdl hok;go_wp2_with fail
     go_region_held3 (fun W=>Below w2.heap.size w2 W) (with_reducible assumption) (first|(go_at_call 13;refine C.mono ?_;rintro e wx ⟨rfl,hdx,hbx⟩;have hBx:Below w2.heap.size w2 wx:=hb0.trans (hbx.mono (by omega))))
     all_goals
      have hd2:Both (w2.heap.size+1) wx.drew db (R.2.1.length+i+1) (writeD d 0 y.page y.b) a8 1 c8 d:=hdx.below (below_drewN (Below.refl _ _) 1);have C2:=both_write hd2 (by omega) (fun x hx=>by have:=HLO.out x hx;omega) 0 y.page y.b;have hb1:Below w2.heap.size w2 wx.drew:=hBx.drew;clear hdx hbx hb0 C hd2;go_wp2_with fail
      go_region_held3 (fun W=>Below w2.heap.size w2 W) (with_reducible assumption) (first|(go_at_call 14;refine C2.mono ?_;rintro e wy ⟨a9,n9,c9,rfl,hdy,hby⟩;have hBy:Below w2.heap.size w2 wy:=below_then hb1 hby))
     all_goals
      have hn9:n9=1:=by have h2:=hdy.gs.1;rw[write_length] at h2;have h3:=HDL.out;omega
      subst hn9;have HDY:=Hd hdy;have HLY:=Hd (write_loose HLO.out 0 y.page y.b);have HOY:=Hd (HOK.out.write 0 y.page y.b);have HBY:=Hd hBy;clear cA cB cV hdy hBy hby hb1 C2;exact qd75aca
    ·obtain rfl:i=n2:=by omega
     have hcp:=HX.out.step hb;have f0:=hcp.cell 0 0 rfl rfl;have HBW:=Hd (below_then HB2.out hb);have HD:=Hd hd;have HOK:=Hd hok;obtain⟨q,hq⟩:∃x,(if root=1 then p else root)=x:=⟨_,rfl⟩
     have HQ2:=Hd hq;clear hd hlo hok hb hdl hcp hq
     go_upto_if 120 with(fail)
     go_cut [2] (fun s wx=>s=.int .i64 q∧wr=wx)
     case first=>
      by_cases hr1:root=1
      ·obtain rfl:p=q:=by rw[←HQ2.out,if_pos hr1]
       subst hr1;exact qb98405
      ·obtain rfl:root=q:=by rw[←HQ2.out,if_neg hr1]
       have d9:decide (root=1)=false:=by simp[hr1]
       have d9':(root == 1)=false:=by simp[hr1]
       exact qb98405
     case rest=>
     obtain⟨rfl,rfl⟩:=hcut;have hqI:I64 q:=by
      rw[←HQ2.out]
      split
      ·exact HPI.out
      ·exact hr
     obtain⟨R0,hR0⟩:∃x,loadD d 0 q=x:=⟨_,rfl⟩
     obtain⟨R1,hR1⟩:∃x,loadD d 1 q=x:=⟨_,rfl⟩
     have G1:=(load_any HD.out.one (hh.below (Nat.le_refl _) HBW.out) 0 q hqI).mono fun e w' h=>h.code
     rw[hR0] at G1;have HR0:=Hd hR0;have HR1:=Hd hR1;obtain⟨E0,hE0⟩:∃x,codeD R0=x:=⟨_,rfl⟩
     obtain⟨E1,hE1⟩:∃x,codeD R1=x:=⟨_,rfl⟩
     have HE0:=Hd hE0;have HE1:=Hd hE1;clear hR0 hR1 hE0 hE1;go_wp2_with fail;refine G1.mono ?_;rintro e w5 ⟨hb5,p5,l5,ka5,kn5,kc5,va5,vn5,vc5,ca5,cn5,cc5,rfl,hn5⟩;rw[HE0.out];obtain⟨w6,hw6⟩:∃x,w5.alloc (.cells #[.int .i64 p5,.bool l5,.slice ka5 kn5 kc5,.slice va5 vn5 vc5,.slice ca5 cn5 cc5] 50)=x:=⟨_,rfl⟩
     have hbaw6:Below w5.heap.size w5 w6:=by rw[←hw6];exact Below.al (Below.refl _ _)
     have hx6:Boxes w6 [(w5.heap.size,[.int .i64 p5,.bool l5,.slice ka5 kn5 kc5,.slice va5 vn5 vc5,.slice ca5 cn5 cc5])]:=by rw[←hw6];exact(Boxes.nil w5).alloc #[.int .i64 p5,.bool l5,.slice ka5 kn5 kc5,.slice va5 vn5 vc5,.slice ca5 cn5 cc5] 50 rfl
     have hB6:=below_via hb5 hbaw6;have RL1:=(rLoad_any (HD.out.below hB6).gsk HOK.out (by omega) 0 q).mono fun e w' h=>h.code
     rw[HR0.out] at RL1;have HX6:=Hd hx6;have HB6:=Hd hB6;have HN5:=Hd (fun t e=>(hn5 t e).below hbaw6);clear G1 hb5 hx6 hB6 hbaw6 hn5;go_wp2_with fail;refine RL1.mono ?_;rintro e w7 ⟨hb7,p7,l7,ka7,kn7,kc7,rfl,hn7⟩;rw[HE0.out];obtain⟨w8,hw8⟩:∃x,w7.alloc (.cells #[.int .i64 p7,.bool l7,.slice ka7 kn7 kc7] 27)=x:=⟨_,rfl⟩
     have hbaw8:Below w7.heap.size w7 w8:=by rw[←hw8];exact Below.al (Below.refl _ _)
     have hx8:Boxes w8 [(w7.heap.size,[.int .i64 p7,.bool l7,.slice ka7 kn7 kc7])]:=by rw[←hw8];exact(Boxes.nil w7).alloc #[.int .i64 p7,.bool l7,.slice ka7 kn7 kc7] 27 rfl
     have hB78:=below_via hb7 hbaw8;have hB8:=below_via HB6.out hB78;have G2:=(load_any (HD.out.below hB8).one (hh.below (Nat.le_refl _) (below_then HBW.out hB8)) 1 q hqI).mono fun e w' h=>h.code
     rw[HR1.out] at G2;have HX68:=Hd (HX6.out.step hB78);have HX8:=Hd hx8;have HB8:=Hd hB8;have HN58:=Hd (fun t e=>(HN5.out t e).below hB78);have HN7:=Hd (fun t e=>(hn7 t e).below hbaw8);clear RL1 hb7 hx8 hB8 hB78 hbaw8 hn7 HX6 HB6 HN5;go_wp2_with fail;refine G2.mono ?_;rintro e w9 ⟨hb9,p9,l9,ka9,kn9,kc9,va9,vn9,vc9,ca9,cn9,cc9,rfl,_⟩;rw[HE1.out];obtain⟨w10,hw10⟩:∃x,w9.alloc (.cells #[.int .i64 p9,.bool l9,.slice ka9 kn9 kc9,.slice va9 vn9 vc9,.slice ca9 cn9 cc9] 50)=x:=⟨_,rfl⟩
     have hbaw10:Below w9.heap.size w9 w10:=by rw[←hw10];exact Below.al (Below.refl _ _)
     have hx10:Boxes w10 [(w9.heap.size,[.int .i64 p9,.bool l9,.slice ka9 kn9 kc9,.slice va9 vn9 vc9,.slice ca9 cn9 cc9])]:=by rw[←hw10];exact(Boxes.nil w9).alloc #[.int .i64 p9,.bool l9,.slice ka9 kn9 kc9,.slice va9 vn9 vc9,.slice ca9 cn9 cc9] 50 rfl
     have hB9:=below_via hb9 hbaw10;have hB10:=below_via HB8.out hB9;have RL2:=(rLoad_any (HD.out.below hB10).gsk HOK.out (by omega) 1 q).mono fun e w' h=>h.code
     rw[HR1.out] at RL2;have HX610:=Hd (HX68.out.step hB9);have HX810:=Hd (HX8.out.step hB9);have HB10:=Hd hB10;have HN510:=Hd (fun t e=>(HN58.out t e).below hB9);have HN710:=Hd (fun t e=>(HN7.out t e).below hB9);clear G2 hb9 hx10 hB9 hB10 hbaw10 HX68 HX8 HB8 HN58 HN7;go_wp2_with fail;refine RL2.mono ?_;rintro e w11 ⟨hb11,p11,l11,ka11,kn11,kc11,rfl,_⟩;rw[HE1.out];obtain⟨w12,hw12⟩:∃x,w11.alloc (.cells #[.int .i64 p11,.bool l11,.slice ka11 kn11 kc11] 27)=x:=⟨_,rfl⟩
     have hbaw12:Below w11.heap.size w11 w12:=by rw[←hw12];exact Below.al (Below.refl _ _)
     have hx12:Boxes w12 [(w11.heap.size,[.int .i64 p11,.bool l11,.slice ka11 kn11 kc11])]:=by rw[←hw12];exact(Boxes.nil w11).alloc #[.int .i64 p11,.bool l11,.slice ka11 kn11 kc11] 27 rfl
     have hB11:=below_via hb11 hbaw12;have HB12:=Hd (below_then HBW.out (below_via HB10.out hB11));have hxa:=HX610.out.step hB11;have hxb:=HX810.out.step hB11;have hna:=fun t e=>(HN510.out t e).below hB11
     have hnb:=fun t e=>(HN710.out t e).below hB11
     have a0:∀W,Below w12.heap.size w12 W→W.cell? ⟨w5.heap.size,0,none⟩=some (.int .i64 p5):=fun W hW=>(hxa.step hW).cell 0 0 rfl rfl
     have a1:∀W,Below w12.heap.size w12 W→W.cell? ⟨w5.heap.size,1,none⟩=some (.bool l5):=fun W hW=>(hxa.step hW).cell 0 1 rfl rfl
     have a2:∀W,Below w12.heap.size w12 W→W.cell? ⟨w5.heap.size,2,none⟩=some (.slice ka5 kn5 kc5):=fun W hW=>(hxa.step hW).cell 0 2 rfl rfl
     have a3:∀W,Below w12.heap.size w12 W→W.cell? ⟨w5.heap.size,3,none⟩=some (.slice va5 vn5 vc5):=fun W hW=>(hxa.step hW).cell 0 3 rfl rfl
     have a4:∀W,Below w12.heap.size w12 W→W.cell? ⟨w5.heap.size,4,none⟩=some (.slice ca5 cn5 cc5):=fun W hW=>(hxa.step hW).cell 0 4 rfl rfl
     have b0:∀W,Below w12.heap.size w12 W→W.cell? ⟨w7.heap.size,0,none⟩=some (.int .i64 p7):=fun W hW=>(hxb.step hW).cell 0 0 rfl rfl
     have b1:∀W,Below w12.heap.size w12 W→W.cell? ⟨w7.heap.size,1,none⟩=some (.bool l7):=fun W hW=>(hxb.step hW).cell 0 1 rfl rfl
     have b2:∀W,Below w12.heap.size w12 W→W.cell? ⟨w7.heap.size,2,none⟩=some (.slice ka7 kn7 kc7):=fun W hW=>(hxb.step hW).cell 0 2 rfl rfl
     have e1:(E1 == E1)=true:=by simp
     clear RL2 hb11 hx12 hB11 hbaw12 HX610 HX810 HB10 HN510 HN710 hxa hxb;cases R0 with
     | error x=>
      have hx0:x≠0:=loadD_ne HR0.out;obtain rfl:x=E0:=HE0.out;have x1:(x == 0)=false:=by simp[hx0]
      have x2:(x != 0)=true:=by simp[hx0]
      clear hna hnb hx0;have mbe4cde:=trivial;exact qbecf1c
     | ok t=>
      obtain rfl:0=E0:=HE0.out;have hn5:=hna t rfl;have hn12:=hnb t rfl;have hbt:=loadD_bnd HR0.out;have CP:∀W,Below w12.heap.size w12 W→Calls Tryz.prog 18 #[.agg #[.int .i64 p5,.bool l5,.slice ka5 kn5 kc5,.slice va5 vn5 vc5,.slice ca5 cn5 cc5]] W (RNodeTo (fun b=>wr.heap.size≤b∧b<w12.heap.size) 1000 W t):=fun W hW=>plain20_any (fun b hb=>Nat.lt_of_lt_of_le hb.2 hW.size) (hn5.lt.below hW) hbt
      clear hna hnb;have m002532:=trivial;exact qbecf1c
end Go.Proofs.YtpghlmcoajaiiaaGreatDoor
namespace Go.Proofs.YtpghlmcoajaiiaaGreatDoor
open Go.RowKit Go.Deep Go.WideShapes Go.ChangeShapes
section
variable {H:Type} {enc:TypeId×Value→H} {P:Program} {w:World} {base:Nat}
theorem rd_pz {t:TypeId} {f0 f1:Field} (ht:P.underlying t=some (.struct #[f0,f1])) (o0:f0.offset=0) (o1:f1.offset=1)
 (c0:P.cellsOf f0.type=1) (c1:P.cellsOf f1.type=1) (u0:P.underlying f0.type=some .string) (u1:P.underlying f1.type=some (.int .i64)) :
 ∀n cs x,cs.length=2→DataW.trod enc P w 0 (fun _=>true) true n t cs=some x→∃y:Pz,IsPz cs y:=by
 intro n cs x hlen h;obtain⟨xs,k,_,_,_,hxl,hf⟩:=DataW.trod_struct ht h
 match xs,hxl,cs,hlen with
 | [y0,y1],_,[v0,v1],_=>
  have g0:=hf 0 f0 rfl;have g1:=hf 1 f1 rfl;simp[o0,o1,c0,c1] at g0 g1;obtain⟨s,e0,_,_⟩:=DataW.trod_string u0 g0;obtain⟨n1,e1,_,_⟩:=DataW.trod_int u1 g1;simp at e0 e1;refine⟨⟨s.data.toList,n1⟩,?_⟩;show _=pzC _;rw[e0,e1]
  rfl
end
theorem open_pzs {H:Type} {enc:TypeId×Value→H} {w:World} {base:Nat} {v:Value} {d:DataW H} {p:List MemPlace} (hv:Value.okWide Tryz.prog w .any base 22 v) (h:DataW.Trod enc Tryz.prog w 0 (fun _=>true) true 22 v d p) :
 ∃a len cap l,v=.slice a len cap∧Pzs w a len cap l:=
 open_tab Tryz.underlying22 (show Tryz.prog.cellsOf 99=2 by kernel_rfl) (by decide) IsPz (rd_pz Tryz.underlying99 rfl rfl (by kernel_rfl) (by kernel_rfl) Tryz.underlying9 Tryz.underlying3) hv h
end Go.Proofs.YtpghlmcoajaiiaaGreatDoor
