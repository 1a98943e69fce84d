/- Texts that other texts of this claim lean on, one behind the other. -/
import Derived.Test.YtpghlmcoajaiiaaGreatDoorM1
import Derived.Test.YtpghlmcoajaiiaaGreatDoorM11
import Derived.Test.YtpghlmcoajaiiaaGreatDoorM6
import Derived.Test.YtpghlmcoajaiiaaGreatDoorM2
import Derived.Test.YtpghlmcoajaiiaaGreatDoorM3
import Derived.Test.YtpghlmcoajaiiaaGreatDoorM4
import Derived.Test.YtpghlmcoajaiiaaGreatDoorM5
import Derived.Test.YtpghlmcoajaiiaaGreatDoorM8
import Derived.Test.YtpghlmcoajaiiaaGreatDoorM10
import Derived.Test.YtpghlmcoajaiiaaGreatDoorM9
import Derived.Lib.ConvBytes
set_option maxHeartbeats 20000000
set_option maxRecDepth 100000
namespace Go.Proofs.YtpghlmcoajaiiaaGreatDoor
open Go.RowKit
theorem info_G:(Tryz.prog.info? 117).map (fun i=>(i.zero,i.size,i.bytes))=some (some (.agg #[.slice none 0 0,.slice none 0 0,.int .i64 0,.bool false]),4,64):=by kernel_rfl
theorem tab_set {w:World} {base:Nat} {e:TypeId} {g n cap:Nat} {l:List C4} (h:w.ownsRow base e 4 (.slice (some ⟨g,0,none⟩) n cap) n (l.flatMap (·.1))) (hl:l.length=n) {i:Nat} (hi:i<n) (y:C4) :
 (∃z:C4,∀j v,z.1[j]? = some v→w.cell? ⟨g,i*4+j,none⟩=some v)∧w.grownBy (w.setCells g (i*4) y.1) (some g)∧TabR 4 (fun cs (y:C4)=>cs=y.1) (w.setCells g (i*4) y.1) (some ⟨g,0,none⟩) n cap (l.set i y):=by
 have hf:∀z:C4,z.1.length=4:=fun z=>z.2.1
 obtain⟨a',cap',e1,ht⟩:=TabR.of_own (fun z:C4=>z.1) hf (R:=fun cs (z:C4)=>cs=z.1) (fun _=>rfl) (by rw[hl];exact h);rw[hl] at e1 ht;cases e1;have hfro:∀j,w.frozen? ⟨g,j,none⟩=false:=fun j=>h.frozenAt j
 obtain⟨h1,h2,h3,hn,h4⟩:=ht;obtain⟨b,off,e2,hb,hcells⟩:=h4.resolve_left (by omega);cases e2;have cell:∀(k:Nat) (z:C4),l[k]? = some z→∀j v,z.1[j]? = some v→w.cell? ⟨g,k*4+j,none⟩=some v:=by
  intro k z hz j v hv;obtain⟨cs,_,c2,c3⟩:=hcells k z hz;have:=c3 j v (by rw[c2];exact hv);simpa using this
 obtain⟨z,hz⟩:∃z,l[i]? = some z:=⟨_,List.getElem?_eq_getElem (by omega)⟩
 have hsome:∀j,j<y.1.length→(w.cell? ⟨g,i*4+0+j,none⟩).isSome=true:=by
  intro j hj;have hj':j<z.1.length:=by rw[hf];rw[hf] at hj;exact hj
  rw[Nat.add_zero,cell i z hz j _ (List.getElem?_eq_getElem hj')];rfl
 have hbel:w.grownBy (w.setCells g (i*4) y.1) (some g):=by
  have:∀(vs:List Value) (o:Nat) (w0:World),w0.grownBy (w0.setCells g o vs) (some g):=by
   intro vs
   induction vs with
   | nil=>intro o w0;exact grown_refl _ _
   | cons v vs ih=>intro o w0;exact grown_trans (grown_setCell w0 ⟨g,o,none⟩ v) (ih (o+1) _)
  exact this _ _ _
 refine⟨⟨z,cell i z hz⟩,hbel,by simpa using h1,h2,h3,(fun e=>by cases e),.inr ⟨g,0,rfl,Nat.lt_of_lt_of_le hb hbel.size,fun k u hu=>?_⟩⟩;have hk:k<n:=by have:=(List.getElem?_eq_some_iff.1 hu).1;simp at this;omega
 refine⟨u.1,hf u,rfl,fun j v hv=>?_⟩;have hj:j<4:=by rw[←hf u];exact(List.getElem?_eq_some_iff.1 hv).1
 rw[Nat.zero_add]
 by_cases e:k=i
 ·subst e
  rw[List.getElem?_set_self (by omega)] at hu;cases hu;have:=World.rangeAt_setCells_same w g (k*4) y.1 (fun j hj=>⟨by have:=hsome j hj;simpa using this,hfro _⟩);exact this j v hv
 ·rw[List.getElem?_set_ne (fun h=>e h.symm)] at hu
  rw[World.cell?_setCells_out g y.1 (i*4) w ⟨g,k*4+j,none⟩ (fun _ _=>by
   have:=hf y;show k*4+j<i*4∨i*4+y.1.length≤k*4+j;omega)]
  exact cell k u hu j v hv
def GsPost (K:Nat→Prop) (w:World) (d:List Rg) (e:Ending) (w':World):Prop:=∃a n cap,e=.returned (.slice a n cap)∧GsK (From K w.heap.size) w' a n cap d∧Below w.heap.size w w'
theorem withG_any {K:Nat→Prop} {w:World} {a:Option Addr} {len cap:Nat} {d:List Rg} (h:GsK K w a len cap d) (hlen:len≤1000) (i:Nat) (hi:i<len) (g:C4) (x:Rg) (hx:∀W,Agree K w W→IsG W g.1 x) :
 Calls Tryz.prog 49 #[.slice a len cap,.int .i64 (i:Int),.agg g.1.toArray] w (GsPost K w (d.set i x)):=by
 obtain⟨hdl,gs,htK,hg⟩:=h;have ht:=htK w (Agree.refl _ _);have hb0:Below w.heap.size w (w.alloc (.cells g.1.toArray 117)):=(Below.refl _ _).alloc (Nat.le_refl _) _;obtain⟨i0,hi0,hz0,hz1,hz2⟩:=info_parts info_G;have ht0:=TabR.below (Nat.le_refl _) hb0 ht;obtain⟨v',w2,hr9,ho9,hg9,_⟩:=run_append_tab (P:=Tryz.prog) (w:=w.alloc (.cells g.1.toArray 117)) w.heap.size 36 117 i0 _ 4 64 Tryz.underlying36 hi0 hz0 hz1 hz2 rfl (by decide) (World.ownsRow_nil _ _ _ _) (fun cs (y:C4)=>cs=y.1) (fun y:C4=>y.1) (fun _ _ h=>h) (fun y=>y.2.1) (fun y=>y.2.2) ht0 (by unfold maxLen;omega) (by omega) (by simp);simp only[Nat.zero_add,List.nil_append] at ho9;obtain⟨a',c',rfl,hc1,hc2,hc3⟩:=own_slice ho9;obtain⟨gb,rfl⟩:=hc3 (by omega);have hgs:gs.length=len:=ht.1;obtain⟨⟨z,hz⟩,hg3,ht3⟩:=tab_set ho9 hgs hi g;have hfro:=fun j=>ho9.frozenAt j
 obtain⟨w3,hw3⟩:∃w3,w3=w2.setCells gb (i*4) g.1:=⟨_,rfl⟩
 rw[←hw3] at hg3 ht3;have hge:=own_ge ho9 gb rfl;have hb2:Below w.heap.size w w2:=hb0.grown hg9 (by simp) (fun k hk=>by cases hk);have hb3:Below w.heap.size w w3:=hb2.grown hg3 hb2.size (fun k hk=>by cases hk;exact hge);have hbx:w2.rangeAt w.heap.size 0 g.1:=fun j v hv=>by
  rw[World.cell?_of_block (hg9.block w.heap.size (by simp) (fun e=>by cases e))];simp only[World.cell?,World.alloc_heap_new w (.cells g.1.toArray 117)];simpa using hv
 have END:GsPost K w (d.set i x) (.returned (.slice (some ⟨gb,0,none⟩) len c')) w3:=by
  refine⟨_,len,c',rfl,?_,hb3⟩;refine⟨by simp[hdl],_,ht3.agreeK (fun b off e=>by cases e;exact .inr hge),fun j u y hu hy W hW=>?_⟩
  by_cases e:j=i
  ·subst e
   rw[List.getElem?_set_self (by omega)] at hu hy;cases hu;cases hy;exact hx W (Agree.step hb3 hW)
  ·rw[List.getElem?_set_ne (fun h=>e h.symm)] at hu hy
   exact hg j u y hu hy W (Agree.step hb3 hW)
 have END:=Hd END;have q1:decide ((i:Int)<len)=true:=by simp;omega
 have q2:decide (i<len)=true:=by simpa using hi
 unfold maxLen at hc2;clear ht ht0 htK hg hgs ho9 hg9 hg3 ht3 hb0 hb2 hb3 hge hx hdl hi0 hz0 hz1 hz2 hc3;obtain⟨gl,gl1,gl2⟩:=g;obtain⟨zl,zl1,zl2⟩:=z
 match gl,gl1,zl,zl1 with
 | [g0,g1,g2,g3],_,[z0,z1,z2,z3],_=>
  have r0:∀a m W,(store a g0 m).run Tryz.prog W=stored Tryz.prog W a g0 m:=fun a m W=>run_store Tryz.prog W a g0 m (gl2 g0 (by simp))
  have r1:∀a m W,(store a g1 m).run Tryz.prog W=stored Tryz.prog W a g1 m:=fun a m W=>run_store Tryz.prog W a g1 m (gl2 g1 (by simp))
  have r2:∀a m W,(store a g2 m).run Tryz.prog W=stored Tryz.prog W a g2 m:=fun a m W=>run_store Tryz.prog W a g2 m (gl2 g2 (by simp))
  have r3:∀a m W,(store a g3 m).run Tryz.prog W=stored Tryz.prog W a g3 m:=fun a m W=>run_store Tryz.prog W a g3 m (gl2 g3 (by simp))
  have b0:=hbx 0 g0 rfl;have b1:=hbx 1 g1 rfl;have b2:=hbx 2 g2 rfl;have b3:=hbx 3 g3 rfl;have d0:=hz 0 z0 rfl;have d1:=hz 1 z1 rfl;have d2:=hz 2 z2 rfl;have d3:=hz 3 z3 rfl;have f0:=hfro (i*4);have f1:=hfro (i*4+1);have f2:=hfro (i*4+2);have f3:=hfro (i*4+3);simp only[Nat.zero_add,Nat.add_zero] at b0 b1 b2 b3 d0 d1 d2 d3;have HW3:Hid (w3=(((w2.setCell ⟨gb,i*4,none⟩ g0).setCell ⟨gb,i*4+1,none⟩ g1).setCell ⟨gb,i*4+2,none⟩ g2).setCell ⟨gb,i*4+3,none⟩ g3):=Hd hw3;clear hbx hz hfro hw3;go_enter Tryz.func49,Tryz.ntmps49
  go_wp2_with (at_builtin;refine wpList_append_run rfl _ _ _ _ rfl rfl rfl hr9 ?_)
  go_ret;rw[←HW3.out];exact END.out
theorem from_up {K:Nat→Prop} {w w1:World} (hb:Below w.heap.size w w1):∀k,From K w1.heap.size k→From K w.heap.size k:=fun _ hk=>hk.imp id (fun h=>Nat.le_trans hb.size h)
theorem from_up2 {K:Nat→Prop} {w w1:World} (hb:Below w.heap.size w w1):∀k,From (From K w.heap.size) w1.heap.size k→From K w.heap.size k:=fun _ hk=>hk.elim id (fun h=>.inr (Nat.le_trans hb.size h))
def gcells (pa:Option Addr) (pc:Nat) (la:Option Addr) (lc:Nat) (x:Rg):C4:=⟨[.slice pa x.size pc,.slice la x.loose.length lc,.int .i64 x.left,.bool x.down],rfl,by
 intro v hv;simp only[List.mem_cons,List.not_mem_nil,or_false] at hv
 rcases hv with rfl|rfl|rfl|rfl<;>rfl⟩
theorem with_rg {K:Nat→Prop} {w:World} {a:Option Addr} {len cap:Nat} {d:List Rg} (h:GsK K w a len cap d) (hlen:len≤1000) (i:Nat) (hi:i<len) (x:Rg) {pa:Option Addr} {pc:Nat} {la:Option Addr} {lc:Nat} (hp:∀W,Agree K w W→Txs W pa x.size pc (pagesL x)) (hl:∀W,Agree K w W→Ls W la x.loose.length lc x.loose) (hs:x.size≤1000) (hs2:∀p∈x.loose,p.1<x.size) (h1 : -1≤x.left) (h2:x.left≤9223372036854775807) :
 Calls Tryz.prog 49 #[.slice a len cap,.int .i64 (i:Int),.agg #[.slice pa x.size pc,.slice la x.loose.length lc,.int .i64 x.left,.bool x.down]] w (GsPost K w (d.set i x)):=
 withG_any h hlen i hi (gcells pa pc la lc x) x (fun W hW=>⟨pa,pc,la,lc,rfl,hp W hW,hl W hW,hs,hs2,h1,h2⟩)
open Go.RowKit
theorem Ls.at {w:World} {a:Option Addr} {len cap:Nat} {l:List (Nat×P128)} (h:Ls w a len cap l) {k:Nat} (hk:k<len) :
 ∃b off y,a=some ⟨b,off,none⟩∧b<w.heap.size∧l[k]? = some y∧w.cell? ⟨b,off+k*2,none⟩=some (.int .i64 (y.1:Int))∧w.cell? ⟨b,off+k*2+1,none⟩=some (.string (strOf y.2.1)):=by
 obtain⟨b,off,y,cs,e1,e2,e3,_,e5,e6⟩:=TabR.at h hk;have e7:cs=lcells y:=e5;subst e7;exact⟨b,off,y,e1,e2,e3,by simpa using e6 0 _ rfl,e6 1 _ rfl⟩
def RReadPost (w:World) (l:List UInt8) (er:Int) (e:Ending) (w':World):Prop:=e=.returned (.tuple #[.string (strOf l),.int .i64 er])∧Below w.heap.size w w'
theorem rread_any {w:World} {a:Option Addr} {len cap:Nat} {d:List Rg} (h:Gs w a len cap d) (hlen:len≤1000) (r p:Int) :
 Calls Tryz.prog 100 #[.slice a len cap,.int .i64 r,.int .i64 p] w (RReadPost w (readB d r p) (pagedE d r p)):=by
 have U:=rup_any h (by omega) r p true;have hre:refE d r p true=pagedE d r p:=rfl;rw[hre] at U
 by_cases hu:pagedE d r p=0
 ·obtain⟨i,pn,x,rfl,rfl,hx,hdn,hpn⟩:=pagedE_zero hu
  have hi:i<len:=by have:=(List.getElem?_eq_some_iff.1 hx).1;have:=h.1;omega
  obtain⟨b,off,pa,pc,la,lc,rfl,hb,c0,c1,c2,c3,g2,g3,g4,g5,g6,g7⟩:=h.at hx;have e1:readB d i pn=(seen x pn).1:=by rw[readB,if_pos hu,atR_of hx,Int.toNat_natCast]
  rw[hu] at U;rw[hu,e1];have q1:decide ((i:Int)<len)=true:=by simp;omega
  have hbb:Below w.heap.size w (w.alloc (.cells #[.slice pa x.size pc,.slice la x.loose.length lc,.int .i64 x.left,.bool x.down] 117)):=(Below.refl _ _).alloc (Nat.le_refl _) _;have G3:=Hd (show Ls (w.alloc (.cells #[.slice pa x.size pc,.slice la x.loose.length lc,.int .i64 x.left,.bool x.down] 117)) la x.loose.length lc x.loose from TabR.below (Nat.le_refl _) hbb g3);have G2:=Hd (show Txs (w.alloc (.cells #[.slice pa x.size pc,.slice la x.loose.length lc,.int .i64 x.left,.bool x.down] 117)) pa x.size pc (pagesL x) from TabR.below (Nat.le_refl _) hbb g2);have hll:x.loose.length≤9223372036854775807:=by have:=g3.2.1;have:=g3.2.2.1;unfold maxLen at this;omega
  have HPN:=Hd hpn;have HBB:=Hd hbb;have HS:=Hd (show lastW pn (x.pages pn) (x.loose.take x.loose.length)=seen x pn by rw[List.take_length];rfl);clear h hx hu hdn e1 g2 g3 g5 hre hbb;go_enter Tryz.func100,Tryz.ntmps100;go_wp2_with fail;refine U.mono ?_;rintro e w9 ⟨rfl,rfl⟩;clear U;go_wp2_with fail
  go_loop [10] (fun v=>∃j:Nat,j≤x.loose.length∧v=.int .i64 ((j:Int)-1)∧lastW pn (x.pages pn) (x.loose.take j)=seen x pn) (fun v=>(intOf v+1).toNat)
  case atStart=>exact⟨x.loose.length,Nat.le_refl _,rfl,HS.out⟩
  case round=>
   obtain⟨j,hj,rfl,hlw⟩:=hrel;cases j with
   | zero=>
    obtain⟨b9,o9,s9,rfl,_,hs9,hc9⟩:=G2.out.at HPN.out;have hse:s9=(seen x pn).1:=by
     rw[←hlw];simp only[pagesL,List.getElem?_map] at hs9;rw[List.getElem?_range HPN.out] at hs9;simp at hs9;rw[←hs9];rfl
    have HSE:=Hd hse;have q2:decide ((0:Int)≤((0:Nat):Int)-1)=false:=by decide
    have q3:=Hd HPN.out;have q4:pn<x.size:=HPN.out;clear hlw hs9 hse;go_wp2_with fail
    go_ret2
    have END:RReadPost w (seen x pn).1 0 (.returned (.tuple #[.string (strOf s9),.int .i64 0])) _:=⟨by rw[HSE.out],HBB.out⟩
    exact END
   | succ m=>
    obtain⟨b9,o9,y,rfl,_,hy,d0,d1⟩:=G3.out.at (k:=m) (by omega);have hlt:=lastW_take pn (x.pages pn) x.loose m y hy;rw[hlw] at hlt;have em:(((m+1:Nat):Int)-1)=(m:Int):=by omega
    by_cases hyp:y.1=pn
    ·rw[if_pos hyp] at hlt
     have HLT:=Hd hlt;have q2:((y.1:Int) == (pn:Int))=true:=by simp[hyp]
     have q3:(y.1 == pn)=true:=by simp[hyp]
     rw[em];clear hlw hlt hyp hy em;go_wp2_with fail
     go_ret2
     have END:RReadPost w (seen x pn).1 0 (.returned (.tuple #[.string (strOf y.2.1),.int .i64 0])) _:=⟨by rw[HLT.out],HBB.out⟩
     exact END
    ·rw[if_neg hyp] at hlt
     have HLT:=Hd hlt;have q2:((y.1:Int) == (pn:Int))=false:=by simp;omega
     have q3:(y.1 == pn)=false:=by simp[hyp]
     rw[em];clear hlw hlt hyp hy em;go_wp2_with fail
     go_round
     case rel=>exact⟨m,by omega,rfl,HLT.out.symm⟩
     case measure=>simp[intOf]
 ·have e1:readB d r p=[]:=by rw[readB,if_neg hu]
  rw[e1];have q0:(pagedE d r p == 0)=false:=by simpa using hu
  generalize pagedE d r p=er at *;clear hu e1 h hre;go_enter Tryz.func100,Tryz.ntmps100;go_wp2_with fail;refine U.mono ?_;rintro e w0 ⟨rfl,rfl⟩;go_wp2_with fail
  go_ret2
  exact⟨rfl,Below.refl _ _⟩
open Go.RowKit
def Rt (w:World) (t:Nat) (s:TSt):Prop:=w.heap[t]? = some (.cells #[.string (strOf s.l),.int .i64 s.e] 157 (0,0))
theorem Rt.lt {w:World} {t:Nat} {s:TSt} (h:Rt w t s):t<w.heap.size:=(Array.getElem?_eq_some_iff.1 h).1
theorem Rt.grown {w w':World} {t:Nat} {s:TSt} {row:Option Nat} (h:Rt w t s) (hg:w.grownBy w' row) (hne:row≠some t):Rt w' t s:=(hg.block t h.lt (fun e=>hne e.symm)).trans h
theorem Rt.below {w w':World} {t:Nat} {s:TSt} {B:Nat} (hB:w.heap.size≤B) (hb:Below B w w') (h:Rt w t s):Rt w' t s:=(hb.block t (Nat.lt_of_lt_of_le h.lt hB)).trans h
theorem Rt.err {w:World} {t:Nat} {s:TSt} (h:Rt w t s):w.cell? ⟨t,1,none⟩=some (.int .i64 s.e):=by
 have h':w.heap[t]? = _:=h;simp[World.cell?,h']
def RtPost (w:World) (t:Nat) (v:Value) (s':TSt) (e:Ending) (w':World):Prop:=
 e=.returned v∧w.grownBy w' (some t)∧Rt w' t s'
theorem rSome_any (t:Nat) (s:TSt) (n:Nat) (w:World) (h:Rt w t s) (hreach:s.l.length≤140737488351232) :
 Calls Tryz.prog 110 #[.pointer (some ⟨t,0,none⟩),.int .i64 n] w (RtPost w t (.string (strOf (takeF s n).1)) (takeF s n).2):=by
 obtain⟨l,er⟩:=s;have hblk:w.heap[t]? = some (.cells #[.string (strOf l),.int .i64 er] 157 (0,0)):=h;have hc0:w.cell? ⟨t,0,none⟩=some (.string (strOf l)):=by simp[World.cell?,hblk]
 have hc1:w.cell? ⟨t,1,none⟩=some (.int .i64 er):=by simp[World.cell?,hblk]
 have hf0:w.frozen? ⟨t,0,none⟩=false:=by simp[World.frozen?,hblk]
 have hf1:w.frozen? ⟨t,1,none⟩=false:=by simp[World.frozen?,hblk]
 have hsz:=strOf_size l;dsimp only at hreach
 by_cases he:er=0
 ·subst he
  by_cases hlt:l.length<n
  ·have hts:takeF ⟨l,0⟩ n=([],⟨l,10⟩):=by simp[takeF,hlt]
   rw[hts];have hnew:Rt (w.setCell ⟨t,1,none⟩ (.int .i64 10)) t ⟨l,10⟩:=heap_setCell_at 1 (.int .i64 10) hblk;have hgr:=grown_setCell w ⟨t,1,none⟩ (.int .i64 10);clear hts hblk h;go_enter Tryz.func110,Tryz.ntmps110
   go_wp2
   go_ret;exact⟨rfl,hgr,hnew⟩
  ·have hts:takeF ⟨l,0⟩ n=(l.take n,⟨l.drop n,0⟩):=by simp[takeF,hlt]
   rw[hts];have hx0:(strOf l).extract 0 n=strOf (l.take n):=by rw[strOf_extract];simp
   have hx1:(strOf l).extract n l.length=strOf (l.drop n):=by rw[strOf_extract,List.take_of_length_le (by simp)]
   have hgr:=grown_setCell w ⟨t,0,none⟩ (.string (strOf (l.drop n)));have hnew:Rt (w.setCell ⟨t,0,none⟩ (.string (strOf (l.drop n)))) t ⟨l.drop n,0⟩:=heap_setCell_at 0 (.string (strOf (l.drop n))) hblk;clear hts hblk h;go_enter Tryz.func110,Tryz.ntmps110
   go_wp2
   go_ret;exact⟨rfl,hgr,hnew⟩
 ·have hts:takeF ⟨l,er⟩ n=([],⟨l,er⟩):=by simp[takeF,he]
  rw[hts];have hne:(er == 0)=false:=by simpa using he
  have hne':(er != 0)=true:=by simpa using he
  clear he hts hblk;go_enter Tryz.func110,Tryz.ntmps110
  go_wp2
  go_ret;exact⟨rfl,grown_below (Below.refl _ _) _,h⟩
theorem rNum_any (t:Nat) (s:TSt) (size:Int) (w:World) (h:Rt w t s) (hreach:s.l.length≤140737488351232) :
 Calls Tryz.prog 60 #[.pointer (some ⟨t,0,none⟩),.int .i64 size] w (RtPost w t (.int .u64 ((tNum s size).1:Int)) (tNum s size).2):=by
 obtain⟨l,er⟩:=s;have hblk:w.heap[t]? = some (.cells #[.string (strOf l),.int .i64 er] 157 (0,0)):=h;have hc1:w.cell? ⟨t,1,none⟩=some (.int .i64 er):=by simp[World.cell?,hblk]
 have hf1:w.frozen? ⟨t,1,none⟩=false:=by simp[World.frozen?,hblk]
 dsimp only at hreach
 by_cases he:er=0
 ·subst he
  by_cases hsz:size<1∨8<size
  ·have hr:tNum ⟨l,0⟩ size=(0,⟨l,1⟩):=by simp[tNum,hsz]
   rw[hr];have hnew:Rt (w.setCell ⟨t,1,none⟩ (.int .i64 1)) t ⟨l,1⟩:=heap_setCell_at 1 (.int .i64 1) hblk;have hgr:=grown_setCell w ⟨t,1,none⟩ (.int .i64 1);clear hr hblk h
   rcases hsz with hsz|hsz
   ·go_enter Tryz.func60,Tryz.ntmps60
    go_wp2
    go_ret;exact⟨rfl,hgr,hnew⟩
   ·have hsz':¬size<1:=by omega
    go_enter Tryz.func60,Tryz.ntmps60
    go_wp2
    go_ret;exact⟨rfl,hgr,hnew⟩
  ·obtain⟨n,rfl⟩:=Int.eq_ofNat_of_zero_le (show 0≤size by omega)
   have hr:tNum ⟨l,0⟩ (n:Int)=(beVal (takeF ⟨l,0⟩ n).1,(takeF ⟨l,0⟩ n).2):=by simp only[tNum];rw[if_neg (fun h=>hsz h.2)];rfl
   rw[hr];have hs1:¬(n:Int)<1:=by omega
   have hs2:¬(8:Int)<(n:Int):=by omega
   have hcall:=rSome_any t ⟨l,0⟩ n w h hreach;have hle:=takeF_le ⟨l,0⟩ n;obtain⟨b,s1,hs⟩:∃b s1,takeF ⟨l,0⟩ n=(b,s1):=⟨_,_,rfl⟩
   rw[hs] at hcall hle ⊢;dsimp only at hcall hle ⊢;clear hr hblk h hsz hs;have hbs:=strOf_size b;go_enter Tryz.func60,Tryz.ntmps60;go_wp2_with fail;refine hcall.mono ?_;rintro e w1 ⟨rfl,hgr,hnew⟩
   go_wp2
   go_loop [6,7] (fun x i=>∃k:Nat,k≤b.length∧i=.int .i64 k∧x=.int .u64 (beVal (b.take k))) (fun _ i=>b.length-(intOf i).toNat)
   case atStart=>exact⟨0,Nat.zero_le _,rfl,rfl⟩
   case round=>
    obtain⟨k,hk,rfl,rfl⟩:=hrel
    by_cases hlt:k<b.length
    ·have hst:=beVal_step b k hlt
     have hbd:beVal (b.take k)<72057594037927936:=by
      have h1:=beVal_lt (b.take k);have h2:(b.take k).length≤7:=by simp;omega
      have h3:256 ^ (b.take k).length≤256 ^ 7:=Nat.pow_le_pow_right (by decide) h2;omega
     have hcb:(b[k]?.getD 0).toNat<256:=(b[k]?.getD 0).toNat_lt;have hget:=strOf_get b k hlt;generalize b[k]?.getD 0=x at *;generalize beVal (b.take k)=y at *;have H:=Hd hst;clear hst;exact q931089
    ·obtain rfl:k=b.length:=by omega
     rw[List.take_length]
     go_wp2
     go_ret;exact⟨rfl,hgr,hnew⟩
 ·have hr:tNum ⟨l,er⟩ size=(0,⟨l,er⟩):=by simp[tNum,takeF,he,beVal_nil]
  rw[hr];have hne:(er == 0)=false:=by simpa using he
  have hne':(er != 0)=true:=by simpa using he
  clear he hr hblk;go_enter Tryz.func60,Tryz.ntmps60
  go_wp2
  go_ret;exact⟨rfl,grown_below (Below.refl _ _) _,h⟩
theorem rText_any (t:Nat) (s:TSt) (w:World) (h:Rt w t s) (hreach:s.l.length≤140737488351232) :
 Calls Tryz.prog 61 #[.pointer (some ⟨t,0,none⟩)] w (RtPost w t (.string (strOf (tText s).1)) (tText s).2):=by
 have hlt:=tNum_lt s 1;have hlen:=tNum_len s 1;have hcall:=rNum_any t s 1 w h hreach;obtain⟨n,s1,hs⟩:∃n s1,tNum s 1=(n,s1):=⟨_,_,rfl⟩
 have hr:tText s=takeF s1 n:=by simp[tText,hs]
 have hs':tNum s ((1:Nat):Int)=(n,s1):=hs;rw[hs] at hcall hlen;rw[hs'] at hlt;rw[hr];dsimp only at hlt hlen hcall;clear hr hs hs';go_enter Tryz.func61,Tryz.ntmps61;go_wp2_with fail;refine hcall.mono ?_;rintro e w1 ⟨rfl,hgr,hnew⟩;go_wp2_with fail;refine(rSome_any t s1 n w1 hnew (by omega)).mono ?_;rintro e w2 ⟨rfl,hgr2,hnew2⟩
 go_wp2
 go_ret;exact⟨rfl,grown_trans hgr hgr2,hnew2⟩
theorem rRest_any (t:Nat) (s:TSt) (w:World) (h:Rt w t s) (hreach:s.l.length≤140737488351232) :
 Calls Tryz.prog 182 #[.pointer (some ⟨t,0,none⟩)] w (RtPost w t (.string (strOf (tRest s).1)) (tRest s).2):=by
 have hcall:=rSome_any t s s.l.length w h hreach;have hblk:w.heap[t]? = some (.cells #[.string (strOf s.l),.int .i64 s.e] 157 (0,0)):=h;have hc0:w.cell? ⟨t,0,none⟩=some (.string (strOf s.l)):=by simp[World.cell?,hblk]
 have hsz:=strOf_size s.l;clear hblk;go_enter Tryz.func182,Tryz.ntmps182;go_wp2_with fail;refine hcall.mono ?_;rintro e w2 ⟨rfl,hgr2,hnew2⟩
 go_wp2
 go_ret;exact⟨rfl,hgr2,hnew2⟩
theorem rDone_any (t:Nat) (s:TSt) (w:World) (h:Rt w t s) :
 Calls Tryz.prog 62 #[.pointer (some ⟨t,0,none⟩)] w fun e w'=>e=.returned (.int .i64 (tDone s))∧w=w':=by
 obtain⟨l,er⟩:=s;have hblk:w.heap[t]? = some (.cells #[.string (strOf l),.int .i64 er] 157 (0,0)):=h;have hc0:w.cell? ⟨t,0,none⟩=some (.string (strOf l)):=by simp[World.cell?,hblk]
 have hc1:w.cell? ⟨t,1,none⟩=some (.int .i64 er):=by simp[World.cell?,hblk]
 clear hblk h
 by_cases he:er=0
 ·subst he
  by_cases h0:l=[]
  ·subst h0
   have hem:(!(strOf []).toList.isEmpty)=false:=by rw[strOf_toList];rfl
   go_enter Tryz.func62,Tryz.ntmps62;exact q72c811
  ·have HD:=Hd (show tDone ⟨l,0⟩=11 by simp[tDone,h0])
   have hem:(!(strOf l).toList.isEmpty)=true:=by rw[strOf_toList];simp[h0]
   clear h0;go_enter Tryz.func62,Tryz.ntmps62
   go_wp2
   go_ret;exact⟨ret_int HD.out.symm,rfl⟩
 ·have HD:=Hd (show tDone ⟨l,er⟩=er by simp[tDone,he])
  have hne:(er == 0)=false:=by simpa using he
  clear he;go_enter Tryz.func62,Tryz.ntmps62
  go_wp2
  go_ret;exact⟨ret_int HD.out.symm,rfl⟩
open Go.RowKit
theorem pageOf_five (kind:UInt8) (c:List (List UInt8)):(pageOf kind c)[5]? = some (UInt8.ofNat c.length):=by
 rw[pageOf,List.getElem?_append_right (by rw[beBytes_length];omega),beBytes_length];rfl
theorem unpB_big (l:List UInt8) (h:122<numS l):unpB l=false:=by
 rw[unpB,Nat.min_eq_right (by omega)];have:pageOf (kindS l) (cutS l 122)≠l:=by
  intro e;have h5:=pageOf_five (kindS l) (cutS l 122);rw[e,cutS_length] at h5;rw[numS,h5] at h;simp at h
 rw[beq_eq_false_iff_ne.2 this];simp
theorem unpB_slot (l:List UInt8) (k:Nat) (h:okSC l (k+1)=false) (hk:k<min (numS l) 122):unpB l=false:=by
 rw[unpB,okS_mono l h hk,Bool.false_and]
def RUnpPost (w:World) (k:UInt8) (l:List (List UInt8)) (er:Int) (e:Ending) (w':World):Prop:=
 ∃v,e=.returned (.tuple #[.int .u8 (k.toNat:Int),v,.int .i64 er])∧w'.ownsRow w.heap.size 9 1 v l.length (l.map sv)∧Below w.heap.size w w'
def RUnpOk (w:World) (l:List UInt8) (e:Ending) (w':World):Prop:=if unpB l then RUnpPost w (kindS l) (cutS l (min (numS l) 122)) 0 e w' else RUnpPost w 0 [] 11 e w'
theorem runpack_len (l:List UInt8) (w:World) (hl:l.length≠128) (_hb:l.length≤140737488351232) :
 Calls Tryz.prog 146 #[.string (strOf l)] w fun e w'=>e=.returned (.tuple #[.int .u8 0,.slice none 0 0,.int .i64 1])∧w=w':=by
 have hsz:=strOf_size l;generalize l.length=n at *;have hne:((n:Int) != 128)=true:=by simp;omega
 have hne2:((n:Int) == 128)=false:=by simp;omega
 go_enter Tryz.func146,Tryz.ntmps146
 go_wp2
 go_ret3
 exact⟨rfl,rfl⟩
theorem runpack_sum (l:List UInt8) (w:World) (hl:l.length=128) (hs:beVal (l.take 4)≠crcOf (l.drop 4)) :
 Calls Tryz.prog 146 #[.string (strOf l)] w (RUnpPost w 0 [] 12):=by
 have zm:=Mk.i 457068;exact q8393ed
theorem runpack_ok (l:List UInt8) (w:World) (hl:l.length=128) (hs:beVal (l.take 4)=crcOf (l.drop 4)) :
 Calls Tryz.prog 146 #[.string (strOf l)] w (RUnpOk w l):=by
 have zm:=Mk.i 69654;exact q8393ed
theorem runpack_any (l:List UInt8) (w:World) (hl:l.length≤140737488351232) :
 Calls Tryz.prog 146 #[.string (strOf l)] w (RUnpPost w (unpK l) (unpL l) (unpE l)):=by
 by_cases h1:l.length=128
 ·by_cases h2:beVal (l.take 4)=crcOf (l.drop 4)
  ·refine(runpack_ok l w h1 h2).mono ?_
   intro e w' hp;unfold RUnpOk at hp;have hE:unpE l=if unpB l then 0 else 11:=by rw[unpE,if_neg (by omega),if_neg (by simpa using h2)]
   by_cases hB:unpB l=true
   ·rw[if_pos hB] at hp
    rw[if_pos hB] at hE;rw[unpK,unpL,hE];exact hp
   ·rw[if_neg hB] at hp
    rw[if_neg hB] at hE;rw[unpK,unpL,hE];exact hp
  ·refine(runpack_sum l w h1 h2).mono ?_
   intro e w' hp;have hE:unpE l=12:=by rw[unpE,if_neg (by omega),if_pos h2]
   rw[unpK,unpL,hE];exact hp
 ·refine(runpack_len l w h1 hl).mono ?_
  rintro e w' ⟨rfl,rfl⟩;have hE:unpE l=1:=by rw[unpE,if_pos h1]
  rw[unpK,unpL,hE];exact⟨_,rfl,World.ownsRow_nil _ _ _ _,Below.refl _ _⟩
open Go.RowKit
theorem tNumC_two (l:List UInt8) (h:2≤l.length):tNum ⟨l,0⟩ 2=(beVal (l.take 2),⟨l.drop 2,0⟩):=by
 rw[tNum,if_neg (by simp)];simp[takeF,show ¬l.length<2 by omega]
theorem beValC_take2 (l:List UInt8):beVal (l.take 2)<65536:=by
 have:=beVal_lt (l.take 2);have h:(l.take 2).length≤2:=by simp;omega
 have h3:(256:Nat) ^ (l.take 2).length≤256 ^ 2:=Nat.pow_le_pow_right (by omega) h;omega
theorem readBC_len (d:List Rg) (r p:Int):(readB d r p).length≤128:=by
 unfold readB
 split
 ·exact Nat.le_of_eq (seen _ _).2
 ·simp
theorem upE_ne (d:List Rg) (r:Int):upE d r≠10:=by unfold upE;split<;>(try split)<;>simp
theorem pagedE_ne (d:List Rg) (r p:Int):pagedE d r p≠10:=by
 have:=upE_ne d r;unfold pagedE
 split
 ·split<;>simp
 ·exact this
theorem unpE_ne (b:List UInt8):unpE b≠10:=by unfold unpE;split<;>(try split)<;>(try split)<;>simp
structure GRelY (w:World) (d:List Rg) (r:Int) (n sz:Nat) (R:List UInt8×List Int×Int) (i:Nat) (s:List UInt8) (at_:List Int) (first:Int) (v:Value) (wr:World):Prop where
 le:i≤n
 al:at_.length=i
 sl:s.length≤119*i
 fin:if i<n then getFC (rdC d r) (4-i) s (at_++[first]) ((sz:Int)-119*i)=R else R=(s,at_,0)
 own:wr.ownsRow w.heap.size 3 1 v i (at_.map (Value.int .i64))
 bl:Below w.heap.size w wr
theorem getFC_round {d:List Rg} {r:Int} {n sz i:Nat} {s:List UInt8} {at_:List Int} {first:Int} {R:List UInt8×List Int×Int} (hn:n=needC (sz:Int)) (hi:i<n) (h:getFC (rdC d r) (4-i) s (at_++[first]) ((sz:Int)-119*i)=R) :
 ∃m:Nat,min ((sz:Int)-119*i) 119=m∧m≤119∧(i+1<n→m=119) ∧
 (pagedE d r first≠0→R=([],[],pagedE d r first)) ∧
 (pagedE d r first=0→unpE (readB d r first)≠0→R=([],[],unpE (readB d r first))) ∧
 (pagedE d r first=0→unpE (readB d r first)=0→(unpK (readB d r first)≠3∨(unpL (readB d r first)).length≠1∨((unpL (readB d r first))[0]?.getD []).length≠2+m)→R=([],[],11)) ∧
 (pagedE d r first=0→unpE (readB d r first)=0→unpK (readB d r first)=3→(unpL (readB d r first)).length=1→((unpL (readB d r first))[0]?.getD []).length=2+m →
  ∀C,(unpL (readB d r first))[0]?.getD []=C→∀N:Nat,beVal (C.take 2)=N →
  (i+1=n→N=0→R=(s++C.drop 2,at_++[first],0))∧(i+1=n→N≠0→R=([],[],11)) ∧
  (i+1<n→(pgC N=false∨(N:Int)∈at_++[first])→R=([],[],11)) ∧
  (i+1<n→pgC N=true→(N:Int)∉at_++[first]→getFC (rdC d r) (4-(i+1)) (s++C.drop 2) (at_++[first]++[(N:Int)]) ((sz:Int)-119*(i+1:Nat))=R)):=by
 have h0:needC (sz:Int)≠0:=by omega
 have hf:=needC_fit h0;have hp:=needC_pos h0;have h4:=needC_le (sz:Int);rw[←hn] at hf h4;obtain⟨m,hm⟩:∃m:Nat,min (sz-119*i) 119=m:=⟨_,rfl⟩
 have hmi:min ((sz:Int)-119*i) 119=(m:Int):=by omega
 obtain⟨k,hk⟩:∃k,4-i=k+1:=⟨3-i,by omega⟩
 have hk2:4-(i+1)=k:=by omega
 rw[hk,getFC,List.getLastD_concat] at h
 try simp only at h
 rw[hmi] at h;refine⟨m,hmi,by omega,by omega,fun hP=>?_,fun hP hU=>?_,fun hP hU hc=>?_,fun hP hU hK hL hC C eC N eN=>?_⟩
 ·have e1:(rdC d r first).1=pagedE d r first:=by show oneFEC d r first=_;rw[oneFEC,if_pos hP]
  rw[e1,if_neg (by rintro(h1|⟨h1,_⟩);exact pagedE_ne _ _ _ h1;exact hP h1),if_pos hP] at h;exact h.symm
 ·have e1:(rdC d r first).1=unpE (readB d r first):=by show oneFEC d r first=_;rw[oneFEC,if_neg (by rw[hP];simp),oneEC,if_pos hU]
  rw[e1,if_neg (by rintro(h1|⟨h1,_⟩);exact unpE_ne _ h1;exact hU h1),if_pos hU] at h;exact h.symm
 ·by_cases hc1:unpK (readB d r first)≠3∨(unpL (readB d r first)).length≠1
  ·have e1:(rdC d r first).1=11:=by show oneFEC d r first=_;rw[oneFEC,if_neg (by rw[hP];simp),oneEC,if_neg (by rw[hU];simp),if_pos hc1]
   rw[e1,if_neg (by rintro(h1|⟨h1,_⟩)<;>exact absurd h1 (by decide)),if_pos (by decide)] at h;exact h.symm
  ·by_cases hc2:((unpL (readB d r first))[0]?.getD []).length<2
   ·have e1:(rdC d r first).1=10:=by show oneFEC d r first=_;rw[oneFEC,if_neg (by rw[hP];simp),oneEC,if_neg (by rw[hU];simp),if_neg hc1,if_pos hc2]
    rw[e1,if_pos (.inl rfl)] at h;exact h.symm
   ·have e0:oneEC (readB d r first)=0:=by rw[oneEC,if_neg (by rw[hU];simp),if_neg hc1,if_neg hc2]
    have e1:(rdC d r first).1=0:=by show oneFEC d r first=_;rw[oneFEC,if_neg (by rw[hP];simp),e0]
    have e2:(rdC d r first).2.2=((unpL (readB d r first))[0]?.getD []).drop 2:=by show oneFPC d r first=_;rw[oneFPC,if_neg (by rw[hP];simp),onePC,if_pos e0]
    rw[e1,e2,if_pos (.inr ⟨rfl,by rw[List.length_drop];rcases hc with h1|h1|h1;exact absurd (.inl h1) hc1;exact absurd (.inr h1) hc1;omega⟩)] at h;exact h.symm
 ·rw[eC] at hC
  have e0:oneEC (readB d r first)=0:=by rw[oneEC,if_neg (by rw[hU];simp),if_neg (by rw[hK,hL];simp),eC,if_neg (by omega)]
  have e1:(rdC d r first).1=0:=by show oneFEC d r first=_;rw[oneFEC,if_neg (by rw[hP];simp),e0]
  have e2:(rdC d r first).2.2=C.drop 2:=by show oneFPC d r first=_;rw[oneFPC,if_neg (by rw[hP];simp),onePC,if_pos e0,eC]
  have e3:(rdC d r first).2.1=(N:Int):=by show oneFNC d r first=_;rw[oneFNC,if_neg (by rw[hP];simp),oneNC,if_pos e0,eC,eN]
  have hdl:(C.drop 2).length=m:=by rw[List.length_drop];omega
  rw[e1,e2,e3,hdl,if_neg (by rintro(h1|⟨_,h1⟩);exact absurd h1 (by decide);exact h1 rfl),if_neg (by simp)] at h;refine⟨fun h1 h2=>?_,fun h1 h2=>?_,fun h1 h2=>?_,fun h1 h2 h3=>?_⟩
  ·rw[if_pos ⟨by omega,by omega⟩] at h;exact h.symm
  ·rw[if_neg (by omega),if_pos (.inl (by omega))] at h;exact h.symm
  ·rw[if_neg (by omega),if_pos (.inr h2)] at h;exact h.symm
  ·rw[if_neg (by omega),if_neg (by rintro(h4|h4|h4);omega;rw[h2] at h4;cases h4;exact h3 h4)] at h
   rw[hk2,←h]
   congr 1
   omega
theorem crget_any {w:World} {a:Option Addr} {len cap:Nat} {d:List Rg} (h:Gs w a len cap d) (hlen:len≤1000) (r first size:Int) :
 Calls Tryz.prog 149 #[.slice a len cap,.int .i64 r,.int .i64 first,.int .i64 size] w (GetPostC w (getDC d r first size)):=by
 have C:=crneed_any size w
 by_cases h0:needC size=0
 ·have HR:Hid (getDC d r first size=([],[],1)):=Hd (by unfold getDC getC;rw[if_pos h0])
  rw[h0] at C;clear h0;go_enter Tryz.func149,Tryz.ntmps149;go_wp2_with fail;refine C.mono ?_;rintro e w1 ⟨rfl,rfl⟩;go_wp2_with fail
  go_ret3
  rw[HR.out];exact getPostC_bad (Below.refl _ _)
 have hsz:=needC_pos h0;obtain⟨sz,rfl⟩:=Int.eq_ofNat_of_zero_le (show 0≤size by omega);obtain⟨R,hR⟩:∃R,getDC d r first (sz:Int)=R:=⟨_,rfl⟩
 have hR0:=hR;unfold getDC getC at hR0;rw[if_neg h0] at hR0;obtain⟨n,hn⟩:∃n,needC (sz:Int)=n:=⟨_,rfl⟩
 have hn4:=needC_le (sz:Int);rw[hn] at C hn4 h0;have HN:=Hd hn.symm;have HS:=Hd (show GRelY w d r n sz R 0 [] [] first (.slice none 0 0) w from⟨Nat.zero_le _,rfl,by simp,by rw[if_pos (by omega)];simpa using hR0,World.ownsRow_nil _ _ _ _,Below.refl _ _⟩);rw[hR];have q0:((n:Int) == 0)=false:=by rw[beq_eq_false_iff_ne];omega
 have q0':(n == 0)=false:=by simpa using h0
 have HG:=Hd h;have HLEN:=Hd hlen;clear hR hR0 hn h hlen;go_enter Tryz.func149,Tryz.ntmps149;go_wp2_with fail;refine C.mono ?_;rintro e w1 ⟨rfl,rfl⟩;clear C;go_wp2_with fail
 go_loopw [2,12,13,14] (fun s2 s12 s13 s14 wr=>∃(i:Nat) (s:List UInt8) (at_:List Int) (first:Int),s14=.int .i64 i∧s2=.int .i64 first∧s12=.string (strOf s)∧GRelY w d r n sz R i s at_ first s13 wr) (fun _ _ _ s14 _=>n-(intOf s14).toNat)
 case atStart=>exact⟨0,[],[],first,rfl,rfl,rfl,HS.out⟩
 case round=>
  clear HS;obtain⟨i,s,at_,first,rfl,rfl,rfl,hrel⟩:=hrel;have hle:=hrel.le;have hsl:=hrel.sl
  by_cases hi:i<n
  ·have hfin:=hrel.fin
   rw[if_pos hi] at hfin;obtain⟨m,hmi,hm9,hm1,F1,F2,F3,F4⟩:=getFC_round HN.out hi hfin;have HREL:=Hd hrel;obtain⟨aa,ca,hea,hca,hcam,_⟩:=own_slice hrel.own;subst hea;unfold maxLen at hcam;have hrd:=rread_any (HG.out.below (Nat.le_refl _) hrel.bl) HLEN.out r first
   have HB3:Hid (∀w3,Below wr.heap.size wr w3→Below w.heap.size w w3):=Hd fun w3 h3=>below_then hrel.bl h3
   have hrl:=readBC_len d r first
   have hun:=runpack_any (readB d r first);clear hrel hfin
   by_cases hP:pagedE d r first=0
   ·have F2:=F2 hP
    replace F3:=F3 hP;replace F4:=F4 hP;rw[hP] at hrd;clear F1 hP;generalize readB d r first=b at *
    by_cases hU:unpE b=0
    ·rw[hU] at hun
     have HF3:=Hd (F3 hU);have HF4:=Hd (F4 hU);have hL128:=unpLC_len b 0;clear F2 F3 F4 hU;generalize unpK b=K at *;generalize unpL b=L at *;obtain⟨C,hC⟩:∃C,L[0]?.getD []=C:=⟨_,rfl⟩
     rw[hC] at HF3 HF4 hL128;have HC:=Hd hC;have HBAD:Hid (∀w3,Below w.heap.size w w3→(K≠3∨L.length≠1∨C.length≠2+m)→GetPostC w R (.returned (.tuple #[.string ⟨#[]⟩,.slice none 0 0,.int .i64 11])) w3):=Hd (fun w3 h3 h4=>by
      rw[HF3.out h4];exact getPostC_bad h3)
     go_wp2_with fail;refine hrd.mono ?_;rintro e w3 ⟨rfl,hb3⟩;clear hrd;have hb3':=HB3.out w3 hb3;go_wp2_with fail;refine(hun w3 (by omega)).mono ?_;rintro e w4 ⟨v4,rfl,ho4,hb4⟩;clear hun;obtain⟨av,cv,rfl,hss⟩:=Strs.of_own ho4;have HB4:=Hd (below_then hb3' hb4);have HB34:=Hd (below_then hb3 hb4);have hls:=hss.2.1;have hls2:=hss.2.2.1;unfold maxLen at hls2;have HGE:=Hd (show ∀k,(Value.slice av L.length cv).ownBlock=some k→wr.heap.size≤k from fun k e=>Nat.le_trans hb3.size (own_ge ho4 k e));clear hb3 hb4 hb3' ho4
     by_cases hk:K=3
     ·by_cases hl:L.length=1
      ·rw[hl] at hss hls ⊢
       obtain⟨bb,off,rfl,hbb,hc0⟩:=hss.at (k:=0) (by omega);rw[hC,Nat.add_zero] at hc0;subst hk;have hsz:=strOf_size C;have PA:∀W,Calls Tryz.prog 185 #[.int .i64 (sz:Int),.int .i64 (i:Int)] W fun e w'=>e=.returned (.int .i64 (m:Int))∧W=w':=fun W=>by
        have:=cpart_any sz i (by omega) (by omega) W
        rwa [hmi] at this
       have HL1:=Hd hl;clear hC hl hmi
       by_cases hcl:C.length=2+m
       ·have HF5:=Hd (HF4.out rfl HL1.out hcl C rfl _ rfl)
        have hx0:=beValC_take2 C;have HCL:=Hd hcl;rw[hcl] at hsz;have hnum:=fun W t (hr:Rt W t ⟨C,0⟩)=>rNum_any t ⟨C,0⟩ 2 W hr (by simp only;omega)
        rw[tNumC_two C (by omega)] at hnum;have z0:((2+m:Nat) != 2+m)=false:=by simp
        have hdr:(strOf C).extract 2 (2+m)=strOf (C.drop 2):=by
         rw[strOf_extract,List.take_of_length_le (by simp;omega)]
        have hdl:(C.drop 2).length=m:=by rw[List.length_drop];omega
        have hap:=strOf_append s (C.drop 2);have hbn:(strOf s).size+(strOf (C.drop 2)).size≤9223372036854775807:=by rw[strOf_size,strOf_size,hdl];omega
        obtain⟨N,hN⟩:∃N,beVal (C.take 2)=N:=⟨_,rfl⟩
        rw[hN] at HF5 hx0 hnum;have HNN:=Hd hN;obtain⟨i0,hi0,hz0,hz1,hz2⟩:=info_parts info_i64C;have HDL:=Hd hdl;have z4:((2:Int)+(m:Int) != 2+(m:Int))=false:=by simp
        have z5:((2:Int)+(m:Int) == 2+(m:Int))=true:=by simp
        clear hcl hN HF3 HF4 hdl;generalize C.drop 2=D at *;go_wp2_with fail
        go_quiet (first|(go_at_call 185;(with_reducible exact quiet_same (PA _))))
        have ho4:=own_below HREL.out.own (Nat.le_refl _) HB34.out;have hb4q:Below w.heap.size w (w4.drewN nq):=below_drewN HB4.out nq;have hb34q:Below wr.heap.size wr (w4.drewN nq):=below_drewN HB34.out nq;obtain⟨v5,w5,hr5,ho5,hg5,hv5⟩:=run_append_new (P:=Tryz.prog) (w:=w4.drewN nq) w.heap.size 35 3 i0 _ 1 8 Tryz.underlying35 hi0 hz0 hz1 hz2 rfl (by decide) (show(w4.drewN nq).ownsRow w.heap.size 3 1 (.slice aa i ca) i (at_.map (Value.int .i64)) from ho4) #[.int .i64 first] rfl (by intro u hu;simp at hu;subst hu;rfl) (by unfold maxLen;omega) (by omega) hb4q.size;have hb5:=hb4q.grown hg5 hb4q.size (own_ge ho4);have c5:w5.cell? ⟨bb,off,none⟩=some (.string (strOf C)):=by
         have c4:(w4.drewN nq).cell? ⟨bb,off,none⟩=some (.string (strOf C)):=hc0;have hbq:bb<(w4.drewN nq).heap.size:=hbb;refine(World.cell?_of_block (hg5.block bb hbq (fun e=>?_))).trans c4;have:=HGE.out bb rfl;have:=own_lt HREL.out.own bb e.symm;omega
        have ho5':w5.ownsRow w.heap.size 3 1 v5 (i+1) ((at_++[first]).map (Value.int .i64)):=by
         rw[List.map_append];exact ho5
        obtain⟨a5,k5,rfl,row5⟩:=Row.of_own ho5';have HO5:=Hd ho5';have HB5:=Hd hb5;have HA5:=Hd (show Below w.heap.size w (w5.alloc (.cells #[.string (strOf C),.int .i64 0] 157)) from hb5.alloc hb5.size _);have HL5:=Hd hb5.size;clear ho4 hb4q hb34q hg5 hv5 ho5 ho5' hb5 hc0 hss
        go_wp2_with (at_builtin;refine wpList_append_run rfl _ _ _ _ rfl rfl rfl hr5 ?_)
        refine(hnum _ _ (World.alloc_heap_new w5 _)).mono ?_;rintro e w6 ⟨rfl,hg6,_⟩;have hb6:Below w.heap.size w w6:=HA5.out.grown hg6 HA5.out.size (fun k e=>by cases e;exact HL5.out);have ho6:w6.ownsRow w.heap.size 3 1 (.slice a5 (i+1) k5) (i+1) ((at_++[first]).map (Value.int .i64)):=(own_below HO5.out (Nat.le_refl _) ((Below.refl _ _).alloc (Nat.le_refl _) _)).kept hg6 (by
         right;intro e
         have:=own_lt HO5.out _ e;omega)
        have hrow6:=Row.of_own ho6;obtain⟨a6,k6,e6,row6⟩:=hrow6;cases e6;have HB6:=Hd hb6;have HO6:=Hd ho6;have hm6:=row6.lensC;have hw6:IntKind.i64.wrap (N:Int)=(N:Int):=by simp[IntKind.wrap,IntKind.signed,IntKind.bits];omega
        have HASK:=Hd (fun k=>chas_any (row6.drewN k) (N:Int));clear hnum hg6 hb6 ho6 row6 c5 hr5;have hsd:(s++D).length≤119*(i+1):=by rw[List.length_append,HDL.out];omega
        have HSD:=Hd hsd;clear hsd
        by_cases hlast:i+1=n
        ·have e1:((i:Int)+1 == n)=true:=by rw[beq_iff_eq];omega
         have e2:decide ((i:Int)+1<n)=false:=by simp;omega
         by_cases hN0:N=0
         ·subst hN0
          have HE:Hid (GRelY w d r n sz R (i+1) (s++D) (at_++[first]) 0 (.slice a5 (i+1) k5) w6):=Hd ⟨by omega,by rw[List.length_append,HREL.out.al];rfl,HSD.out,by rw[if_neg (by omega)];exact HF5.out.1 hlast rfl,HO6.out,HB6.out⟩;clear hlast;go_wp2_with fail;go_roundw
          case rel=>exact⟨i+1,_,_,0,by go_num,rfl,rfl,HE.out⟩
          case measure=>simp[intOf];omega
         ·have e3:((N:Int) != 0)=true:=by rw[bne_iff_ne];omega
          have e4:((N:Int) == 0)=false:=by rw[beq_eq_false_iff_ne];omega
          have HBD:=Hd (show GetPostC w R (.returned (.tuple #[.string ⟨#[]⟩,.slice none 0 0,.int .i64 11])) w6 from by rw[HF5.out.2.1 hlast hN0];exact getPostC_bad HB6.out);clear hlast hN0;go_wp2_with fail
          go_ret3
          exact HBD.out
        ·have hlt1:i+1<n:=by omega
         have e1:((i:Int)+1 == n)=false:=by rw[beq_eq_false_iff_ne];omega
         have e2:decide ((i:Int)+1<n)=true:=by simp;omega
         have HLT1:=Hd hlt1;have HBDF:Hid (∀W,Below w.heap.size w W→(pgC N=false∨(N:Int)∈at_++[first])→GetPostC w R (.returned (.tuple #[.string ⟨#[]⟩,.slice none 0 0,.int .i64 11])) W):=Hd (fun W hW hx=>by
          rw[HF5.out.2.2.1 HLT1.out hx];exact getPostC_bad hW)
         clear hlast hlt1
         by_cases h2:N<2
         ·have e3:decide ((N:Int)<2)=true:=by simp;omega
          have e3':decide (N<2)=true:=by simp;omega
          have HBD:=Hd (HBDF.out w6 HB6.out (.inl (by simp[pgC];omega)));clear HBDF;go_wp2_with fail
          go_ret3
          exact HBD.out
         ·have e3:decide ((N:Int)<2)=false:=by simp;omega
          have e3':decide (N<2)=false:=by simp;omega
          by_cases h9:999<N
          ·have e4:decide ((999:Int)<N)=true:=by simp;omega
           have e4':decide (999<N)=true:=by simp;omega
           have HBD:=Hd (HBDF.out w6 HB6.out (.inl (by simp[pgC];omega)));clear HBDF;go_wp2_with fail
           go_ret3
           exact HBD.out
          ·have e4:decide ((999:Int)<N)=false:=by simp;omega
           have e4':decide (999<N)=false:=by simp;omega
           have hpg:pgC (N:Int)=true:=by simp[pgC];omega
           by_cases hm:(N:Int)∈at_++[first]
           ·have dm:decide ((N:Int)∈at_++[first])=true:=by simpa using hm
            have HBD:=Hd (HBDF.out w6 HB6.out (.inr hm));have hask:=HASK.out 0;rw[dm] at hask;clear HBDF hm dm hpg;go_wp2_with fail;refine hask.mono ?_;rintro e w7 ⟨rfl,rfl⟩;go_wp2_with fail
            go_ret3
            exact HBD.out
           ·have dm:decide ((N:Int)∈at_++[first])=false:=by simpa using hm
            have HE:Hid (GRelY w d r n sz R (i+1) (s++D) (at_++[first]) (N:Int) (.slice a5 (i+1) k5) w6):=Hd ⟨by have:=HLT1.out;omega,by rw[List.length_append,HREL.out.al];rfl,HSD.out,by rw[if_pos HLT1.out];exact HF5.out.2.2.2 HLT1.out hpg hm,HO6.out,HB6.out⟩;have hask:=HASK.out 0;rw[dm] at hask;clear HBDF hm dm hpg;go_wp2_with fail;refine hask.mono ?_;rintro e w7 ⟨rfl,rfl⟩;go_wp2_with fail;go_roundw
            case rel=>exact⟨i+1,_,_,_,by go_num,rfl,rfl,HE.out⟩
            case measure=>simp[intOf];omega
       ·have z0:((C.length:Int) != 2+(m:Int))=true:=by rw[bne_iff_ne];omega
        have z1:((C.length:Int) == 2+(m:Int))=false:=by rw[beq_eq_false_iff_ne];omega
        have HW:=Hd (fun k=>HBAD.out (w4.drewN k) (below_drewN HB4.out k) (.inr (.inr hcl)));have hcl8:C.length≤128:=hL128;clear HF3 HF4 HBAD hss hcl;go_wp2_with fail
        go_quiet (first|(go_at_call 185;(with_reducible exact quiet_same (PA _))))
        go_wp2_with fail
        go_ret3
        exact HW.out nq
      ·have z0:((L.length:Int) != 1)=true:=by rw[bne_iff_ne];omega
       have z1:((L.length:Int) == 1)=false:=by rw[beq_eq_false_iff_ne];omega
       have z2:(L.length == 1)=false:=by simpa using hl
       have HW:=Hd (fun k=>HBAD.out (w4.drewN k) (below_drewN HB4.out k) (.inr (.inl hl)));clear HF3 HF4 HBAD hss hl hC;subst hk;go_wp2_with fail
       go_quiet (fail)
       go_wp2_with fail
       go_ret3
       exact HW.out nq
     ·have z0:((K.toNat:Int) == 3)=false:=by
       rw[beq_eq_false_iff_ne];intro e;exact hk (UInt8.toNat_inj.1 (by show K.toNat=3;omega))
      have z1:((K.toNat:Int) != 3)=true:=by rw[bne_iff_ne];exact beq_eq_false_iff_ne.1 z0
      have HW:=Hd (fun k=>HBAD.out (w4.drewN k) (below_drewN HB4.out k) (.inl hk));clear HF3 HF4 HBAD hss hk hC;go_wp2_with fail
      go_quiet (fail)
      go_wp2_with fail
      go_ret3
      exact HW.out nq
    ·have HE:Hid (∀w3,Below w.heap.size w w3→GetPostC w R (.returned (.tuple #[.string ⟨#[]⟩,.slice none 0 0,.int .i64 (unpE b)])) w3):=Hd (fun w3 h3=>by
      rw[F2 hU];exact getPostC_bad h3)
     have hb1:=neqC_true hU;have hb2:(unpE b == 0)=false:=by simpa using hU
     clear F2 F3 F4 hU;generalize unpE b=er at *;go_wp2_with fail;refine hrd.mono ?_;rintro e w3 ⟨rfl,hb3⟩;have hb3':=HB3.out w3 hb3;clear hrd;go_wp2_with fail;refine(hun w3 (by omega)).mono ?_;rintro e w4 ⟨v4,rfl,ho4,hb4⟩;have HW:=Hd (HE.out w4 (below_then hb3' hb4));clear hun hb3 hb3' hb4 ho4 HE;go_wp2_with fail
     go_ret3
     exact HW.out
   ·have HE:Hid (∀w3,Below w.heap.size w w3→GetPostC w R (.returned (.tuple #[.string ⟨#[]⟩,.slice none 0 0,.int .i64 (pagedE d r first)])) w3):=Hd (fun w3 h3=>by
     rw[F1 hP];exact getPostC_bad h3)
    have hb:=neqC_true hP;have hb2:(pagedE d r first == 0)=false:=by simpa using hP
    generalize pagedE d r first=er at *
    clear hP F1 F2 F3 F4;go_wp2_with fail;refine hrd.mono ?_;rintro e w3 ⟨rfl,hb3⟩;clear hrd;have HW:=Hd (HE.out w3 (HB3.out w3 hb3));clear hb3;go_wp2_with fail
    go_ret3
    exact HW.out
  ·obtain rfl:i=n:=by omega
   have hfin:=hrel.fin;rw[if_neg hi] at hfin;have HE:Hid (GetPostC w R (.returned (.tuple #[.string (strOf s),u13,.int .i64 0])) wr):=Hd (by
    rw[hfin];exact⟨_,rfl,by rw[hrel.al];exact hrel.own,hrel.bl⟩)
   clear hrel hfin;go_wp2_with fail
   go_ret3
   exact HE.out
open Go.RowKit
theorem getFC_err (rd:Int→Int×Int×List UInt8):∀(n:Nat) (s:List UInt8) (at_:List Int) (left:Int),(getFC rd n s at_ left).2.2≠0→(getFC rd n s at_ left).2.1=[]
 | 0,s,at_,left,_=>by unfold getFC;rfl
 | n+1,s,at_,left,h=>by
  unfold getFC at h ⊢;dsimp only at h ⊢
  split
  ·rfl
  ·rename_i h1
   rw[if_neg h1] at h
   split
   ·rfl
   ·rename_i h2
    rw[if_neg h2] at h
    split
    ·rename_i h3
     rw[if_pos h3] at h;exact absurd rfl h
    ·rename_i h3
     rw[if_neg h3] at h
     split
     ·rfl
     ·rename_i h4
      rw[if_neg h4] at h;exact getFC_err rd n _ _ _ h
theorem getDC_err {d:List Rg} {r first size:Int} (h:(getDC d r first size).2.2≠0):(getDC d r first size).2.1=[]:=by
 unfold getDC getC at h ⊢
 split
 ·rfl
 ·rename_i h1
  rw[if_neg h1] at h;exact getFC_err _ _ _ _ _ h
theorem seeL_snoc (seen l:List Int) (p:Int):seeL seen (l++[p])=match seeL seen l with
 | none=>none
 | some s=>if p∈s then none else some (s++[p]):=by
 induction l generalizing seen with
 | nil=>
  show seeL seen [p]=if p∈seen then none else some (seen++[p])
  unfold seeL
  split<;>rfl
 | cons q r ih=>
  rw[List.cons_append];unfold seeL
  split
  ·rfl
  ·exact ih _
def seeE (seen l:List Int):Int:=if (seeL seen l).isSome then 0 else 11
theorem seeE_snoc (seen l:List Int) (p:Int):seeE seen (l++[p])=if seeE seen l=0∧p∈seen++l then 11 else seeE seen l:=by
 unfold seeE;rw[seeL_snoc];cases h:seeL seen l with
 | none=>simp
 | some s=>
  rw[seeL_app h]
  by_cases hp:p∈seen++l
  ·simp[hp]
  ·simp[hp]
theorem zero_refV (w:World):(zeroValue 142).run Tryz.prog w=.ok (.agg #[.string ⟨#[]⟩,.slice none 0 0]) w:=by kernel_rfl
theorem Turn.refl (w:World) (v:Value):Turn w v v:=.inl rfl
theorem Turn.trans {w w1:World} {v v1 v2:Value} (h:Turn w v v1) (k:Turn w1 v1 v2) (hs:w.heap.size≤w1.heap.size):Turn w v v2:=by
 rcases k with k|k
 ·rcases h with h|h
  ·exact .inl (k.trans h)
  ·exact .inr fun g e=>h g (k ▸ e)
 ·exact .inr fun g e=>Nat.le_trans hs (k g e)
theorem Turn.from {w w1:World} {v v1:Value} (h:Turn w1 v v1) (hs:w.heap.size≤w1.heap.size):Turn w v v1:=(Turn.refl w v).trans h hs
theorem only_next {sb:Nat} {v v1:Value} {w w1 w2:World} (h:Only (RS sb v) w w1) (t:Turn w v v1) (k:Only (RS sb v1) w1 w2):Only (RS sb v) w w2:=
 h.then k (fun i hi=>by
  rcases RS.mem.1 hi with rfl|hi
  ·exact .inl (RS.mem.2 (.inl rfl))
  ·rcases t with t|t
   ·exact .inl (RS.mem.2 (.inr (t ▸ hi)))
   ·exact .inr (t i hi))
def RLeafPost (w:World) (sb:Nat) (a:Option Addr) (len cap:Nat) (d:List Rg) (r:Int) (v:Value) (R:Except Int (List Int×Tv)) (e:Ending) (w':World):Prop:=
 ∃(S:ByteArray) (pa:Option Addr) (pn pc:Nat) (v':Value) (seen':List Int) (E':Int),e=.returned (.agg #[.string S,.slice pa pn pc])∧RLd w' sb a len cap d r v' seen' E'∧Only (RS sb v) w w'∧Turn w v v'∧match R with
  | .ok (s,x)=>E'=0∧seen'=s∧TvOn (fun b=>w.heap.size≤b∧v'.ownBlock≠some b) w' [.string S,.slice pa pn pc] x
  | .error x=>E'=x∧x≠0
theorem rleaf_any {w:World} {sb:Nat} {a:Option Addr} {len cap:Nat} {d:List Rg} {r:Int} {v:Value} {seen:List Int} (h:RLd w sb a len cap d r v seen 0) (hl:seen.length≤1000) (x:Vv) :
 Calls Tryz.prog 102 #[.pointer (some ⟨sb,0,none⟩),.agg #[.string (strOf x.data),.bool x.far,.int .i64 x.size,.int .i64 x.page]] w (RLeafPost w sb a len cap d r v (valL d r seen x)):=by
 obtain⟨vd,vf,vs,vp⟩:=x;obtain⟨w1,hw1⟩:∃w1,(w.alloc (.cells #[.string (strOf vd),.bool vf,.int .i64 vs,.int .i64 vp] 224)).alloc (.cells #[.string ⟨#[]⟩,.slice none 0 0] 142)=w1:=⟨_,rfl⟩
 have hx1:Boxes w1 [(w.heap.size+1,[.string ⟨#[]⟩,.slice none 0 0]),(w.heap.size,[.string (strOf vd),.bool vf,.int .i64 vs,.int .i64 vp])]:=by
  rw[←hw1];exact((Boxes.nil w).alloc #[.string (strOf vd),.bool vf,.int .i64 vs,.int .i64 vp] 224 (b:=w.heap.size) rfl).alloc #[.string ⟨#[]⟩,.slice none 0 0] 142 (b:=w.heap.size+1) (by simp)
 have hb1:Below w.heap.size w w1:=by rw[←hw1];exact Below.al (Below.al (Below.refl _ _))
 have HS1:=Hd (show w1.heap.size=w.heap.size+2 by rw[←hw1];simp);have hd1:=h.below hb1;have hsb:=h.lt;have hz:=zero_refV;have HVB:=Hd (show ∀k,v.ownBlock=some k→k<w.heap.size from fun k hk=>(h.ge hk).2);cases vf with
 | false=>
  have zm:=Mk.i 31015;exact q720e2e
 | true=>
  have c0:=hd1.box.cell 0 0 rfl rfl;have c1:=hd1.box.cell 0 1 rfl rfl;have c3:=hd1.box.cell 0 3 rfl rfl;have hlt1:=hd1.lt;have hx0:=hx1.lt 1 rfl;have o2:=hx1.cell 1 2 rfl rfl;have o3:=hx1.cell 1 3 rfl rfl;have v1:=hx1.cell 1 1 rfl rfl;have cA:∀W,Below w1.heap.size w1 W→W.cell? ⟨sb,0,none⟩=some (.slice a len cap):=fun W hW=>(hW.cell (p:=⟨sb,0,none⟩) hlt1).trans c0
  have cB:∀W,Below w1.heap.size w1 W→W.cell? ⟨sb,1,none⟩=some (.int .i64 r):=fun W hW=>(hW.cell (p:=⟨sb,1,none⟩) hlt1).trans c1
  have zm:=Mk.i 177910;exact qe36c20
open Go.RowKit
def RG (B:Nat) (vi vL:Value) (b:Nat):Prop:=B≤b∧vi.ownBlock≠some b∧vL.ownBlock≠some b
structure RM (w wB:World) (sb:Nat) (a:Option Addr) (len cap:Nat) (d:List Rg) (r:Int) (v0 vb:Value) (ob rb n:Nat) (p:Int) (lf:Bool) (vi:Value) (s:List Int) (E:Int) (vL:Value) (LL:List (Cl 4)) (ys:List Rc) (wr:World):Prop where
 box:Boxes wr [(ob,[.int .i64 p,.bool lf,vL]),(rb,[.int .i64 0,.bool false,.slice none 0 0])]
 ld:RLd wr sb a len cap d r vi s E
 row:wr.ownsRow wB.heap.size 145 4 vL LL.length (flatC LL)
 dv:∀g,vL.ownBlock=some g→vi.ownBlock≠some g
 tl:E=0→Tells (RcOn (RG wB.heap.size vi vL) n wr) LL ys
 ol:Only (RS sb v0) w wr
 tu:Turn w v0 vi
 tb:Turn wB vb vi
 ag:AgreeF (fun b=>b≠sb∧b≠ob∧vb.ownBlock≠some b) wB wr
 bv:∀g,vb.ownBlock=some g→g≠ob∧g≠rb∧g<wB.heap.size
 so:sb<w.heap.size
 ro:w.heap.size≤rb
 oo:rb<ob
 on:ob<wB.heap.size
section
variable {w wB wr w':World} {sb:Nat} {a:Option Addr} {len cap:Nat} {d:List Rg} {r:Int} {v0 vb:Value} {ob rb n:Nat} {p:Int} {lf:Bool} {vi:Value} {s:List Int} {E:Int} {vL:Value} {LL:List (Cl 4)} {ys:List Rc}
theorem RM.lt (h:RM w wB sb a len cap d r v0 vb ob rb n p lf vi s E vL LL ys wr):ob<wr.heap.size∧wB.heap.size≤wr.heap.size:=⟨h.box.lt 0 rfl,h.ag.1⟩
theorem RM.lge (h:RM w wB sb a len cap d r v0 vb ob rb n p lf vi s E vL LL ys wr) {g:Nat} (hg:vL.ownBlock=some g):wB.heap.size≤g∧g<wr.heap.size:=World.ownsRow.lt h.row g hg
theorem RM.vne (h:RM w wB sb a len cap d r v0 vb ob rb n p lf vi s E vL LL ys wr) {g:Nat} (hg:vi.ownBlock=some g):g≠ob∧g≠rb∧g<wr.heap.size:=by
 have h2:=(h.ld.ge hg).2;have:=h.on;have:=h.oo
 rcases h.tb with t|t
 ·have:=h.bv g (t ▸ hg);exact⟨this.1,this.2.1,h2⟩
 ·have:=t g hg;exact⟨by omega,by omega,h2⟩
theorem rcMove {F G:Nat→Prop} {n:Nat} {w w':World} {cs:List Value} {y:Rc} (h:RcOn F n w cs y) (ha:AgreeF F w w') (hG:∀b,F b→b<w.heap.size→G b):RcOn G n w' cs y:=
 (h.lt.agree ⟨ha.1,fun b hb hlt=>ha.2 b hb.1 hlt⟩).mono (fun b hb=>hG b hb.1 hb.2)
theorem RM.turn {v':Value} {s':List Int} {E':Int} (h:RM w wB sb a len cap d r v0 vb ob rb n p lf vi s 0 vL LL ys wr) (hd:RLd w' sb a len cap d r v' s' E') (ho:Only (RS sb vi) wr w') (ht:Turn wr vi v'):RM w wB sb a len cap d r v0 vb ob rb n p lf v' s' E' vL LL ys w':=by
 have hlt:=h.lt;have hsb:=h.so;have hro:=h.ro;have hoo:=h.oo;have hon:=h.on;refine⟨h.box.only ho (by
  intro q hq hm
  rcases RS.mem.1 hm with e|e
  ·simp at hq;rcases hq with rfl|rfl<;>simp at e<;>omega
  ·have:=h.vne e;simp at hq;rcases hq with rfl|rfl<;>simp at this),hd,own_only h.row ho (fun k hk hm=>by
  rcases RS.mem.1 hm with e|e
  ·have:=(h.lge hk).1;omega
  ·exact h.dv k hk e),fun g hg e=>?_,fun _=>?_,only_next h.ol h.tu ho,h.tu.trans ht h.ol.size,h.tb.trans ht h.ag.1,⟨Nat.le_trans h.ag.1 ho.size,fun b hb hlt2=>?_⟩,h.bv,h.so,h.ro,h.oo,h.on⟩
 ·rcases ht with t|t
  ·exact h.dv g hg (t ▸ e)
  ·have:=t g e;have:=(h.lge hg).2;omega
 ·refine(h.tl rfl).mono (fun _ _ _ hc=>rcMove hc ⟨ho.size,fun b hb hlt2=>ho.block hlt2 (fun hm=>?_)⟩ (fun b hb hlt2=>⟨hb.1,fun e=>?_,hb.2.2⟩))
  ·rcases RS.mem.1 hm with e|e
   ·have:=hb.1;omega
   ·exact hb.2.1 e
  ·rcases ht with t|t
   ·exact hb.2.1 (t ▸ e)
   ·have:=t b e;omega
 ·refine(ho.block (by have:=h.ag.1;omega) (fun hm=>?_)).trans (h.ag.2 b hb hlt2)
  rcases RS.mem.1 hm with e|e
  ·exact hb.1 e
  ·rcases h.tb with t|t
   ·exact hb.2.2 (t ▸ e)
   ·have:=t b e;omega
theorem info_Cr:RowInfo Tryz.prog 145 4 80:=row_info (by kernel_rfl)
theorem RM.push (h:RM w wB sb a len cap d r v0 vb ob rb n p lf vi s E vL LL ys wr) (hl:LL.length≤1000) {x0 x1 x2 x3:Value} {y:Rc} (hone:∀u∈[x0,x1,x2,x3],u.oneCell'=true) (hy:E=0→RcOn (RG wB.heap.size vi vL) n wr [x0,x1,x2,x3] y) :
 ∃a' c' w' LL',(Builtin.append_ #[25,25] 25 #[vL,.slice (some ⟨wr.heap.size,0,none⟩) 1 1]).run Tryz.prog (wr.alloc (.cells #[x0,x1,x2,x3] 145))=.ok (.slice a' (LL.length+1) c') w' ∧
  w'.cell? ⟨ob,2,none⟩=some vL∧w'.frozen? ⟨ob,2,none⟩=false∧LL'.length=LL.length+1∧RM w wB sb a len cap d r v0 vb ob rb n p lf vi s E (.slice a' (LL.length+1) c') LL' (ys++[y]) (w'.setCell ⟨ob,2,none⟩ (.slice a' (LL.length+1) c')):=by
 have hlt:=h.lt;have hsb:=h.so;have hro:=h.ro;have hoo:=h.oo;have hon:=h.on;obtain⟨i,z,i1,i2,i3,i4,i5⟩:=info_Cr;obtain⟨v',w',hr,ho,hg,hv⟩:=run_append_new (P:=Tryz.prog) wB.heap.size 25 145 i z 4 80 Tryz.underlying25 i1 i2 i3 i4 i5 (by decide) h.row #[x0,x1,x2,x3] rfl (by simpa using hone) (by unfold maxLen;omega) (by omega) hlt.2;obtain⟨a',c',rfl,_⟩:=own_slice ho;have hbx:=h.box.grown hg (by intro q hq e;have:=(h.lge e).1;simp at hq;rcases hq with rfl|rfl<;>simp at this<;>omega);have hvt:Turn wr vL (.slice a' (LL.length+1) c'):=by
  exact qc0a764
 have hge:=own_ge ho;have hag:AgreeF (fun b=>vL.ownBlock≠some b∧b≠ob) wr (w'.setCell ⟨ob,2,none⟩ (.slice a' (LL.length+1) c')):=AgreeF.set ⟨hg.size,fun b hb hlt=>hg.block b hlt (fun e=>hb.1 e.symm)⟩ (.inl fun h=>h.2 rfl);have hoS:Only (ob::vL.ownBlock.toList) wr (w'.setCell ⟨ob,2,none⟩ (.slice a' (LL.length+1) c')):=(Only.of_grown hg (fun k hk=>.inl (by rw[hk];simp))).set _ _ (by simp);have hmS:∀k∈ob::vL.ownBlock.toList,k=ob∨vL.ownBlock=some k:=fun k hk=>by
  cases hvl:vL.ownBlock with
  | none=>rw[hvl] at hk;simp at hk;exact .inl hk
  | some g=>rw[hvl] at hk;simp at hk;rcases hk with rfl|rfl;exact .inl rfl;exact .inr rfl
 obtain⟨cc,hcc⟩:∃cc:Cl 4,cc.1=[x0,x1,x2,x3]:=⟨⟨_,rfl,hone⟩,rfl⟩
 have hfl:flatC (LL++[cc])=flatC LL++[x0,x1,x2,x3]:=by rw[flatC_append,←hcc];exact congrArg (flatC LL++·) (List.append_nil _)
 refine⟨a',c',w',LL++[cc],hr,hbx.cell 0 2 rfl rfl,hbx.frozen 0 2 rfl,by simp,⟨hbx.put 2 _ (by intro q hq;simp at hq;subst hq;simp;omega),h.ld.only hoS (fun k hk=>?_),?_,fun g hg2 e=>?_,fun hE=>?_,h.ol.then hoS (fun k hk=>.inr ?_),h.tu,h.tb,⟨Nat.le_trans h.ag.1 hag.1,fun b hb hlt2=>(hag.2 b ⟨fun e=>by have:=(h.lge e).1;omega,hb.2.1⟩ (by omega)).trans (h.ag.2 b hb hlt2)⟩,h.bv,h.so,h.ro,h.oo,h.on⟩⟩
 ·rcases hmS k hk with rfl|hk
  ·exact⟨by omega,fun e=>(h.vne e).1 rfl⟩
  ·exact⟨by have:=(h.lge hk).1;omega,h.dv k hk⟩
 ·rw[hfl,List.length_append]
  exact own_set ho ⟨ob,2,none⟩ _ (fun e=>by have:=hge _ e;simp at this;omega)
 ·rcases hvt with t|t
  ·exact h.dv g (t ▸ hg2) e
  ·have:=t g hg2;have:=(h.vne e).2.2;omega
 ·have hG:∀b,RG wB.heap.size vi vL b→b<wr.heap.size→RG wB.heap.size vi (.slice a' (LL.length+1) c') b:=fun b hb hlt2=>⟨hb.1,hb.2.1,fun e=>by
   rcases hvt with t|t
   ·exact hb.2.2 (t ▸ e)
   ·have:=t b e;omega⟩
  have hA:AgreeF (RG wB.heap.size vi vL) wr (w'.setCell ⟨ob,2,none⟩ (.slice a' (LL.length+1) c')):=hag.sub (fun b hb=>⟨hb.2.2,by have:=hb.1;omega⟩);exact((h.tl hE).mono (fun _ _ _ hc=>rcMove hc hA hG)).append (Tells.one (by rw[hcc];exact rcMove (hy hE) hA hG))
 ·rcases hmS k hk with rfl|hk
  ·omega
  ·have:=(h.lge hk).1;omega
theorem RM.node {t:Tr} {G:Nat→Prop} (h:RM w wB sb a len cap d r v0 vb ob rb n p lf vi s 0 vL LL (cellsR t) wr) (ha:AgreeF (RG wB.heap.size vi (.slice none 0 0)) wr w') (hG:∀b,RG wB.heap.size vi (.slice none 0 0) b→G b):RNodeOn G (n+1) w' [.int .i64 t.page,.bool t.isLeaf,vL] t:=by
 have ht:=h.tl rfl;have hlen:LL.length=(cellsR t).length:=ht.1;obtain⟨a',c',rfl,hr⟩:=Raw.of_own h.row rfl;have hT:=(hr.tab ht)
 have hfa:Fa (RG wB.heap.size vi (.slice none 0 0)) a' LL.length:=by
  rcases Nat.eq_zero_or_pos LL.length with h0|h0
  ·exact .inl h0
  ·refine .inr fun b off e=>?_
   subst e;exact⟨(h.lge rfl).1,h.dv b rfl,by simp[Value.ownBlock]⟩
 have hT2:=TabR.agree hT hfa ha (R':=RcOn (RG wB.heap.size vi (.slice none 0 0)) n w') (fun cs y _ hc=>rcMove hc (ha.sub fun b hb=>⟨hb.1,hb.2.1,by simp[Value.ownBlock]⟩) (fun b hb _=>⟨hb.1,hb.2.1,by simp[Value.ownBlock]⟩));rw[hlen,cellsR_len] at hT2 hfa ⊢;exact RNodeOn.mk (TabR.mono hT2 (fun _ _ hc=>hc.mono hG)) (hfa.mono hG)
end
open Go.RowKit
open Go.RowKit
theorem str_bytes {P:Program} (w:World) {src dst e:TypeId} (hs:P.underlying src=some .string) (hd:P.underlying dst=some (.slice e)) (he:P.underlying e=some (.int .u8)) (l:List UInt8) (hl:l.length≤140737488351232) :
 ∃c w',(convert src dst (.string (strOf l))).run P w=.ok (.slice (some ⟨w.heap.size,0,none⟩) l.length c) w'∧Bs w' (some ⟨w.heap.size,0,none⟩) l.length c l∧Below w.heap.size w w':=by
 have h:=Lib.run_convert_string_bytes (P:=P) w src dst e (strOf l) hs hd he;rw[strOf_size] at h;refine⟨_,_,h,⟨by rw[toI_length],grownCap_ge w _ 0 e,grownCap_le_maxLen w _ 0 e (by unfold maxLen;omega),(fun h=>by cases h),.inr ⟨_,0,rfl,by rw[Lib.bytesWorld_size];omega,fun i hi=>?_⟩⟩,?_⟩
 ·have:=Lib.bytesWorld_cell w e (strOf l) i (by rw[strOf_size];exact hi)
  rw[Nat.zero_add,this,strOf_list,toI_get,List.getD_eq_getElem?_getD]
 ·have e1:(Lib.bytesWorld w e (strOf l)).os=w.os∧(Lib.bytesWorld w e (strOf l)).tape=w.tape∧(Lib.bytesWorld w e (strOf l)).output=w.output:=by
   unfold Lib.bytesWorld World.freeze
   split<;>exact⟨rfl,rfl,rfl⟩
  exact⟨e1.1,e1.2.1,e1.2.2,by rw[Lib.bytesWorld_size];omega,fun k hk=>Lib.bytesWorld_at_old w e _ k hk⟩
open Go.RowKit
theorem u8_eq (a b:UInt8):((a.toNat:Int) == (b.toNat:Int))=(a == b):=by
 by_cases h:a=b
 ·subst h;simp
 ·have:a.toNat≠b.toNat:=fun e=>h (UInt8.toNat_inj.1 e)
  rw[beq_eq_false_iff_ne.2 h,beq_eq_false_iff_ne.2 (show(a.toNat:Int)≠(b.toNat:Int) by omega)]
theorem str_add {P:Program} (a b:List UInt8) (h:a.length+b.length≤9223372036854775807) (W:World):(Op.stringOp .add (strOf a) (strOf b)).run P W=.ok (.string (strOf (a++b))) W:=by
 rw[run_string_add_sum W _ _ (by rw[strOf_size,strOf_size];exact h),strOf_append]
open Go.RowKit
def fineB (v:Vv):Bool:=
 if v.far then v.data == [] && (decide (16<v.size) && (decide (v.size≤400) && pageB v.page))
 else decide (v.data.length≤16) && (v.size == 0 && v.page == 0)
theorem mayL_fine (e:En):mayL e=(keyB e.key && fineB e.v):=by
 unfold mayL fineB;split<;>rfl
theorem rfine_any (v:Vv) (w:World) :
 Calls Tryz.prog 183 #[vv v] w fun e w'=>e=.returned (.bool (fineB v))∧Below w.heap.size w w':=by
 obtain⟨d,f,s,p⟩:=v;have hst:=strOf_toList;have hsz:=strOf_size d;unfold vv;cases f
 all_goals
  go_enter Tryz.func183,Tryz.ntmps183
  go_wp2
  all_goals
   go_ret;exact ret_b (by simp[fineB,pageB, *]<;>omega) (below_one w _)
theorem append_strs {w:World} {base:Nat} {v:Value} {n:Nat} {l:List (List UInt8)} (h:w.ownsRow base 9 1 v n (l.map sv)) (c:List UInt8) (hn:n≤65536) (hbase:base≤w.heap.size) :
 ∃v' w',(Builtin.append_ #[46,46] 46 #[v,.slice (some ⟨w.heap.size,0,none⟩) 1 1]).run Tryz.prog (w.alloc (.cells #[.string (strOf c)] 9))=.ok v' w'∧w'.ownsRow base 9 1 v' (n+1) ((l++[c]).map sv)∧w.grownBy w' v.ownBlock:=by
 obtain⟨i0,hi,hz0,hz1,hz2⟩:=info_parts info_str;obtain⟨v',w',hr,ho,hg,_⟩:=run_append_new (P:=Tryz.prog) base 46 9 i0 _ 1 16 Tryz.underlying46 hi hz0 hz1 hz2 rfl (by decide) h #[.string (strOf c)] rfl (fun u hu=>by simp at hu;subst hu;rfl) (by unfold maxLen;omega) (by omega) hbase;exact⟨v',w',hr,by rw[List.map_append];exact ho,hg⟩
theorem cellsN_snoc1 (leaf:Bool) (l:List En) (k:Nat) (e:En) (h:l[k]? = some e):cellsN leaf (l.take (k+1))=cellsN leaf (l.take k)++[cellN leaf e]:=cellsN_snoc leaf l k e h
theorem rcells_any (leaf:Bool) (a:Option Addr) (len cap:Nat) (l:List En) (w:World) (h:NEnts w a len cap l) (hlen:len≤65536) (hd:SmE l) :
 Calls Tryz.prog 170 #[.agg #[.bool leaf,.slice a len cap]] w (OwnStrs w (cellsN leaf l)):=by
 have hB:=below_one w (.cells #[.bool leaf,.slice a len cap] 221);have BX:=(Boxes.nil w).alloc #[.bool leaf,.slice a len cap] 221 rfl;have h1:=h.below (Nat.le_refl _) hB;have hll:=Hd h1.len;have HI:=Hd hd;clear hd h1;have HB:=Hd hB;have HX:=Hd BX;clear hB BX;go_enter Tryz.func170,Tryz.ntmps170;go_wp2_with fail
 go_loopw [3,4] (fun o i wr=>∃(k:Nat) (v:Value),k≤len∧i=.int .i64 k∧v=o∧wr.ownsRow (w.heap.size+1) 9 1 v k ((cellsN leaf (l.take k)).map sv)∧Boxes wr [(w.heap.size,[.bool leaf,.slice a len cap])]∧Below w.heap.size w wr) (fun _ i _=>len-(intOf i).toNat)
 case atStart=>exact⟨0,_,Nat.zero_le _,rfl,rfl,World.ownsRow_nil _ _ _ _,HX.out,HB.out⟩
 case round=>
  obtain⟨k,v,hk,rfl,rfl,hown,BX,hbw⟩:=hrel;have d0:=BX.cell 0 0 rfl rfl;have d1:=BX.cell 0 1 rfl rfl
  by_cases hlt:k<len
  ·obtain⟨b,off,e,rfl,hbb,hy,e0,e1,e2,e3,e4⟩:=(h.below (Nat.le_refl _) hbw).at hlt
   obtain⟨hl1,hl2⟩:=HI.out e (List.mem_of_getElem? hy);have hnb:v.ownBlock≠some w.heap.size:=fun e9=>by have:=own_ge hown _ e9;omega
   have hwl:=BX.lt 0 rfl;have hov:∀j,v.ownBlock=some j→w.heap.size≤j:=fun j hj=>by have:=own_ge hown j hj;omega
   have hb6:=below_one wr (.cells #[.string (strOf e.v.data),.bool e.v.far,.int .i64 e.v.size,.int .i64 e.v.page] 224);have B6:=BX.alloc #[.string (strOf e.v.data),.bool e.v.far,.int .i64 e.v.size,.int .i64 e.v.page] 224 rfl;have hq1:=(hb6.cell (p:=⟨b,off+k*5,none⟩) hbb).trans e0;have T1:=fun W=>refText_any e.key W (by omega)
   have d2:=B6.cell 1 1 rfl rfl;have d3:=B6.cell 1 0 rfl rfl;have hbl:=Hd hbw;have hbx:=B6.lt 0 rfl;have HBX:=Hd BX;clear BX;cases leaf with
   | false=>
    have hw:=wrap_u64N e.v.page;have N2:∀W,Calls Tryz.prog 67 #[.int .u64 (u64N e.v.page:Int),.int .i64 2] W (RetStr W (two e.v.page)):=fun W=>refNum_ok (u64N e.v.page) 2 W (u64N_lt _) (by decide) (by decide)
    have ha:∀W,(Op.stringOp .add (strOf (textF e.key)) (strOf (two e.v.page))).run Tryz.prog W=.ok (.string (strOf (cellN false e))) W:=fun W=>str_add (P:=Tryz.prog) _ _ (by rw[textF_length,two_length];omega) W
    go_wp2_with fail;refine(T1 _).mono ?_;rintro en w7 ⟨rfl,hb7⟩;have B7:=B6.step hb7;have d4:=B7.cell 1 0 rfl rfl;have d5:=B7.cell 0 3 rfl rfl;have hE:=below_then hb6 hb7;clear hb7 d2 d3 d0 d1 hq1 e0 e1 e2 e3 e4;go_wp2_with fail;refine(N2 _).mono ?_;rintro en w8 ⟨rfl,hb8⟩;have hE:=below_then hE hb8;clear hb8 d4 d5 B6 B7;have BX:=HBX.out;have hbw:=hbl.out;have hx:=append_strs (own_below hown (Nat.le_refl _) hE) (cellN false e) (by omega) (Nat.le_trans hwl hE.size);obtain⟨v9,wz,hr9,ho9,hg9⟩:=hx;have hbe:=below_then hbw hE;have hz9:=hbe.grown hg9 hbe.size hov;have B9:=(BX.step hE).grown hg9 (fun p hp=>by simp at hp;subst hp;exact hnb);rw[←cellsN_snoc1 false l k e hy] at ho9;exact q426cc0
   | true=>
    cases hf:e.v.far with
    | false=>
    have ha1:∀W,(Op.stringOp .add ⟨#[0]⟩ (strOf e.v.data)).run Tryz.prog W=.ok (.string (strOf ([0]++e.v.data))) W:=fun W=>str_add (P:=Tryz.prog) [0] e.v.data (by simp;omega) W
    have ha:∀W,(Op.stringOp .add (strOf (textF e.key)) (strOf ([0]++e.v.data))).run Tryz.prog W=.ok (.string (strOf (cellN true e))) W:=fun W=>by
     have:=str_add (P:=Tryz.prog) (textF e.key) ([0]++e.v.data) (by rw[textF_length];simp;omega) W
     rwa [show textF e.key++([0]++e.v.data)=cellN true e from by simp[cellN,encV,encL,hf]] at this
    generalize hs3:[0]++e.v.data=s3 at *;clear hs3;simp only[hf] at B6 hb6 hq1 e2;go_wp2_with fail;refine(T1 _).mono ?_;rintro en w7 ⟨rfl,hb7⟩;have B7:=B6.step hb7;have d4:=B7.cell 1 0 rfl rfl;have d5:=B7.cell 0 0 rfl rfl;have d6:=B7.cell 0 1 rfl rfl;have hE:=below_then hb6 hb7;clear hb7 d2 d3 d0 d1 hq1 e0 e1 e2 e3 e4 B6 B7;exact qe30b5b
    | true=>
    have hw:=wrap_u64N e.v.page;have hw2:=wrap_u64N e.v.size;have N1:∀W,Calls Tryz.prog 67 #[.int .u64 (u64N e.v.size:Int),.int .i64 2] W (RetStr W (two e.v.size)):=fun W=>refNum_ok (u64N e.v.size) 2 W (u64N_lt _) (by decide) (by decide)
    have N2:∀W,Calls Tryz.prog 67 #[.int .u64 (u64N e.v.page:Int),.int .i64 2] W (RetStr W (two e.v.page)):=fun W=>refNum_ok (u64N e.v.page) 2 W (u64N_lt _) (by decide) (by decide)
    have ha1:∀W,(Op.stringOp .add ⟨#[1]⟩ (strOf (two e.v.size))).run Tryz.prog W=.ok (.string (strOf ([1]++two e.v.size))) W:=fun W=>str_add (P:=Tryz.prog) [1] (two e.v.size) (by simp[two_length]) W
    have ha2:∀W,(Op.stringOp .add (strOf ([1]++two e.v.size)) (strOf (two e.v.page))).run Tryz.prog W=.ok (.string (strOf ([1]++two e.v.size++two e.v.page))) W:=fun W=>str_add (P:=Tryz.prog) ([1]++two e.v.size) (two e.v.page) (by simp[two_length]) W
    have ha:∀W,(Op.stringOp .add (strOf (textF e.key)) (strOf ([1]++two e.v.size++two e.v.page))).run Tryz.prog W=.ok (.string (strOf (cellN true e))) W:=fun W=>by
     have:=str_add (P:=Tryz.prog) (textF e.key) ([1]++two e.v.size++two e.v.page) (by rw[textF_length];simp[two_length];omega) W
     rwa [show textF e.key++([1]++two e.v.size++two e.v.page)=cellN true e from by simp[cellN,encV,encL,hf]] at this
    simp only[hf] at B6 hb6 hq1 e2;generalize [1]++two e.v.size++two e.v.page=s3 at *;generalize [1]++two e.v.size=s2 at *;generalize hs1:two e.v.size=s1 at *;generalize hsp:two e.v.page=sp at *;clear hs1 hsp;go_wp2_with fail;refine(T1 _).mono ?_;rintro en w7 ⟨rfl,hb7⟩;have B7:=B6.step hb7;have d4:=B7.cell 1 0 rfl rfl;have d6:=B7.cell 0 1 rfl rfl;have hE:=below_then hb6 hb7;clear hb7 d2 d3 d0 d1 hq1 e0 e1 e2 e3 e4 B6;have c2:∀W,Below w7.heap.size w7 W→W.cell? ⟨wr.heap.size,2,none⟩=some (.int .i64 e.v.size):=fun W hW=>(B7.step hW).cell 0 2 rfl rfl
    have c3:∀W,Below w7.heap.size w7 W→W.cell? ⟨wr.heap.size,3,none⟩=some (.int .i64 e.v.page):=fun W hW=>(B7.step hW).cell 0 3 rfl rfl
    have hC:Below w7.heap.size w7 w7.drew:=(Below.refl _ _).drew;go_wp2_with fail
    go_region_held3 (fun W=>Below w7.heap.size w7 W) (first|with_reducible assumption) (first|(go_at_call 67;(with_reducible refine(N1 _).mono ?_);rintro en w8 ⟨rfl,hb8⟩;have hC8:=hC.trans (hb8.mono hC.size))|(go_at_call 67;(with_reducible refine(N2 _).mono ?_);rintro en w9 ⟨rfl,hb9⟩;have hC9:=hC8.trans (hb9.mono hC8.size)))
    have hE:=below_then hE hC9;clear hC hC8 hC9 c2 c3 d4 d6 B7;exact qe30b5b
  ·obtain rfl:k=len:=by omega
   go_wp2_with fail;go_ret;rw[List.take_of_length_le (by rw[hll.out];exact Nat.le_refl _)] at hown;exact⟨v,rfl,by rw[cellsN_length,hll.out];exact own_baseC hown (by omega),hbw⟩
open Go.RowKit
def keyOkN (leaf:Bool) (i:Nat) (k:List UInt8):Bool:=if leaf then keyB k else firstB i k
def valOkN (leaf:Bool) (v:Vv):Bool:=if leaf then fineB v else pageB v.page && v == ⟨[],false,0,v.page⟩
theorem mayN_parts (leaf:Bool) (i:Nat) (e:En):mayN leaf i e=(keyOkN leaf i e.key && valOkN leaf e.v):=by
 cases leaf
 ·rfl
 ·exact mayL_fine e
theorem vneq_page (v:Vv) (w:World) :
 (binOp .neq 224 (.agg #[.string (strOf v.data),.bool v.far,.int .i64 v.size,.int .i64 v.page]) (.agg #[.string ⟨#[]⟩,.bool false,.int .i64 0,.int .i64 v.page])).run Tryz.prog w=.ok (.bool (v != ⟨[],false,0,v.page⟩)) w:=by
 obtain⟨a,b,c,d⟩:=v;have hn:(ByteArray.mk #[]).toList=[]:=strOf_toList []
 by_cases h1:a=[]<;>by_cases h2:b=false<;>by_cases h3:c=0<;>simp[go_sem,strOf_toList,h1,h2,h3,bne,hn]
theorem rcheckN_any (leaf:Bool) (a:Option Addr) (len cap:Nat) (l:List En) (w:World) (h:NEnts w a len cap l) (hlen:len≤65536) (hd:SmE l) :
 Calls Tryz.prog 148 #[.agg #[.bool leaf,.slice a len cap]] w fun e w'=>e=.returned (.bool (nodeB leaf l))∧Below w.heap.size w w':=by
 have hB:=below_one w (.cells #[.bool leaf,.slice a len cap] 221);have BX:=(Boxes.nil w).alloc #[.bool leaf,.slice a len cap] 221 rfl;have h1:=h.below (Nat.le_refl _) hB;have hll:=Hd h1.len;have HI:=Hd hd;clear hd h1;have HB:=Hd hB;have HX:=Hd BX;clear hB BX;go_enter Tryz.func148,Tryz.ntmps148;go_wp2_with fail
 go_loopw [3] (fun i wr=>∃(k:Nat),k≤len∧i=.int .i64 k∧upN leaf l k=true∧Boxes wr [(w.heap.size,[.bool leaf,.slice a len cap])]∧Below w.heap.size w wr) (fun i _=>len-(intOf i).toNat)
 case atStart=>exact⟨0,Nat.zero_le _,rfl,rfl,HX.out,HB.out⟩
 case round=>
  obtain⟨k,hk,rfl,hup,BX,hbw⟩:=hrel;have d0:=BX.cell 0 0 rfl rfl;have d1:=BX.cell 0 1 rfl rfl
  by_cases hlt:k<len
  ·obtain⟨b,off,e,rfl,hbb,hy,e0,e1,e2,e3,e4⟩:=(h.below (Nat.le_refl _) hbw).at hlt
   obtain⟨hl1,hl2⟩:=HI.out e (List.mem_of_getElem? hy);have hb6:=below_one wr (.cells #[.string (strOf e.v.data),.bool e.v.far,.int .i64 e.v.size,.int .i64 e.v.page] 224);have B6:=BX.alloc #[.string (strOf e.v.data),.bool e.v.far,.int .i64 e.v.size,.int .i64 e.v.page] 224 rfl;have hbw6:=below_then hbw hb6;have d2:=B6.cell 1 1 rfl rfl;have d3:=B6.cell 1 0 rfl rfl;have hgd:l[k]?.getD ⟨[],Vv.zero⟩=e:=by rw[hy];rfl
   have hst:stepN leaf l k=((keyOkN leaf k e.key && valOkN leaf e.v) && !(decide (0<k) && kle e.key (l[k-1]?.getD ⟨[],Vv.zero⟩).key)):=by rw[stepN,hgd,mayN_parts]
   have hus:upN leaf l (k+1)=stepN leaf l k:=by rw[upN_succ,hup,Bool.true_and]
   have hns:stepN leaf l k=false→nodeB leaf l=false:=nodeB_step (by rw[hll.out];exact hlt);have HST:=Hd hst;have HUS:=Hd hus;have HNS:=Hd hns;have F:∀W,Calls Tryz.prog 183 #[.agg #[.string (strOf e.v.data),.bool e.v.far,.int .i64 e.v.size,.int .i64 e.v.page]] W fun en w'=>en=.returned (.bool (fineB e.v))∧Below W.heap.size W w':=fun W=>rfine_any e.v W
   have hss:=strOf_toList;have hsz:=strOf_size e.key;clear hst hus hns hgd;cases leaf with
   | true=>
    by_cases hk0:k=0
    ·subst hk0
     simp only[Nat.zero_mul,Nat.add_zero] at e0 e1 e2 e3 e4
     by_cases hkn:e.key=[]
     ·have hkb:keyB e.key=false:=by rw[hkn];rfl
      have HF:Hid (nodeB true l=false):=Hd (HNS.out (by rw[HST.out];simp[keyOkN,hkb]));simp only[hkn] at e0 hsz;exact q0ddb2b
     ·have hkn2:(e.key == [])=false:=by simpa using hkn
      by_cases hk16:16<e.key.length
      ·have q16:decide ((16:Int)<(e.key.length:Int))=true:=by simp;omega
       exact q15d91b
      ·have q16:decide ((16:Int)<(e.key.length:Int))=false:=by simp;omega
       have hkb:keyB e.key=true:=by simp[keyB,hkn];omega
       cases hfn:fineB e.v with
       | false=>
        rw[hfn] at F;have HF:Hid (nodeB true l=false):=Hd (HNS.out (by rw[HST.out];simp[valOkN,hfn]));exact qbe6c73
       | true=>
        rw[hfn] at F;have HU:Hid (upN true l (0+1)=true):=Hd (by rw[HUS.out,HST.out];simp[hkb,keyOkN,valOkN,hfn]);have zm:=Mk.i 637744;exact q37c2ba
    ·obtain⟨p,hp1,hp2⟩:∃p,p+1=k∧p<len:=⟨k-1,by omega,by omega⟩
     have zm:=Mk.i 887719;exact q9be21f
   | false=>
    by_cases hk0:k=0
    ·subst hk0
     simp only[Nat.zero_mul,Nat.add_zero] at e0 e1 e2 e3 e4
     by_cases hkn:e.key=[]
     ·have hfb:firstB 0 e.key=true:=by rw[hkn];rfl
      simp only[hkn] at e0 hsz
      by_cases hp1:e.v.page<2
      ·have q1:decide (e.v.page<2)=true:=by simpa using hp1
       exact q4419a1
      ·have q1:decide (e.v.page<2)=false:=by simpa using hp1
       by_cases hp2:999<e.v.page
       ·have q2:decide (999<e.v.page)=true:=by simpa using hp2
        exact q4419a1
       ·have q2:decide (999<e.v.page)=false:=by simpa using hp2
        have hpb:pageB e.v.page=true:=by simp[pageB];omega
        have hv:=fun W=>vneq_page e.v W
        have hvq:(e.v == ⟨[],false,0,e.v.page⟩) = !(e.v != ⟨[],false,0,e.v.page⟩):=by simp[bne]
        generalize (e.v != ⟨[],false,0,e.v.page⟩)=vb at *;cases vb with
        | true=>
         have HF:Hid (nodeB false l=false):=Hd (HNS.out (by rw[HST.out];simp[valOkN,hvq]));exact qbe6c73
        | false=>
         have HU:Hid (upN false l (0+1)=true):=Hd (by rw[HUS.out,HST.out];simp[hfb,keyOkN,valOkN,hpb,hvq]);have zm:=Mk.i 527007;exact q37c2ba
     ·have hkn2:(e.key == [])=false:=by simpa using hkn
      have hfb:firstB 0 e.key=false:=hkn2;have HF:Hid (nodeB false l=false):=Hd (HNS.out (by rw[HST.out];simp[keyOkN,hfb]));exact q0ddb2b
    ·obtain⟨p,hp1,hp2⟩:∃p,p+1=k∧p<len:=⟨k-1,by omega,by omega⟩
     have zm:=Mk.i 10772;exact q9be21f
  ·obtain rfl:k=len:=by omega
   have hup2:upN leaf l l.length=true:=by rw[hll.out];exact hup
   have hsm:=HI.out;have hr:=h.below (Nat.le_refl _) hbw;have hlens:=cellsN_lens leaf 1000000 l (fun e he=>(hsm e he).2);rw[hll.out] at hlens;have CE:=rcells_any leaf a k cap l wr hr hlen hsm;have CS:∀W a2 n2 c2,n2=(cellsN leaf l).length→Strs W a2 n2 c2 (cellsN leaf l)→Calls Tryz.prog 184 #[.slice a2 n2 c2] W fun e w'=>e=.returned (.int .i64 ((k+lens (cellsN leaf l):Nat):Int))∧W=w':=fun W a2 n2 c2 h1 h2=>by
    have hk2:n2=k:=by rw[h1,cellsN_length,hll.out]
    subst hk2;exact rsize_any a2 n2 c2 (cellsN leaf l) W h2 (by omega)
   have hN:nodeB leaf l=(decide (leastN leaf≤k) && decide (k+lens (cellsN leaf l)≤122)):=by rw[nodeB,hup2,hll.out];rfl
   have HN:=Hd hN;have HCS:=Hd CS;have HBX:=Hd BX;have hcl:=cellsN_length leaf l;rw[hll.out] at hcl;have HCL:=Hd hcl;generalize hls:lens (cellsN leaf l)=ls at *;clear hls hN hup hup2 hsm hlens hr CS BX hcl;go_wp2_with fail;refine CE.mono ?_;rintro e w7 ⟨v7,rfl,ho7,hb7⟩;obtain⟨a7,c7,rfl,hs7⟩:=Strs.of_own ho7;have hb8:=below_then hbw hb7;have B7:=HBX.out.step hb7;have d4:=B7.cell 0 0 rfl rfl;have d5:=B7.cell 0 1 rfl rfl;clear d0 d1 CE hb7 ho7 B7;go_wp2_with fail;refine(HCS.out _ _ _ _ rfl hs7).mono ?_;rintro e w9 ⟨rfl,rfl⟩;clear hs7
   by_cases h122:k+ls≤122
   ·have q1:decide (((k+ls:Nat):Int)≤122)=true:=by simp;omega
    have q2:decide ((k:Int)+(ls:Int)≤122)=true:=by simp;omega
    have q3:(k:Int)+(ls:Int)≤122:=by omega
    have hT:decide (k+ls≤122)=true:=by simpa using h122
    cases leaf with
    | false=>
     by_cases h1:1<k
     ·have r1:decide ((1:Int)<(k:Int))=true:=by simp;omega
      have HF:Hid (nodeB false l=true):=Hd (by rw[HN.out,hT];simp[leastN];omega);exact q432908
     ·have r1:decide ((1:Int)<(k:Int))=false:=by simp;omega
      have HF:Hid (nodeB false l=false):=Hd (by rw[HN.out,hT];simp[leastN];omega);exact q432908
    | true=>
     by_cases h1:1<k
     ·have r1:decide ((1:Int)<(k:Int))=true:=by simp;omega
      have HF:Hid (nodeB true l=true):=Hd (by rw[HN.out,hT];simp[leastN];omega);exact q432908
     ·have r1:decide ((1:Int)<(k:Int))=false:=by simp;omega
      have HF:Hid (nodeB true l=((k:Int) == 1)):=Hd (by
       rw[HN.out,hT,Bool.and_true]
       by_cases h2:k=1
       ·subst h2;rfl
       ·have:k=0:=by omega
        subst this;rfl)
      exact q432908
   ·have q1:decide (((k+ls:Nat):Int)≤122)=false:=by simp;omega
    have q2:decide ((k:Int)+(ls:Int)≤122)=false:=by simp;omega
    have hT:decide (k+ls≤122)=false:=by simpa using h122
    have HF:Hid (nodeB leaf l=false):=Hd (by rw[HN.out,hT,Bool.and_false]);exact q432908
open Go.RowKit
def OneOf (o:Option En) (x:En) (is:Bool):Prop:=match o with|some y=>is=true∧x=y|none=>is=false
def OnePost (w:World) (o:Option En) (e:Ending) (w':World):Prop:=∃(x:En) (is:Bool),e=.returned (.tuple #[ev x,.bool is])∧OneOf o x is∧Below w.heap.size w w'
theorem Rt.new {w:World} (l:List UInt8):Rt (w.alloc (.cells #[.string (strOf l),.int .i64 0] 157)) w.heap.size ⟨l,0⟩:=World.alloc_heap_new w _
theorem Rt.boxed {w w':World} {t b:Nat} {s:TSt} (h:Rt w t s) (hg:w.grownBy w' (some b)) (hne:t≠b):Rt w' t s:=h.grown hg (fun e=>hne (by cases e;rfl))
theorem box_five {w:World} {b:Nat} {x0 x1 x2 x3 x4:Value} {B:Nat} {w0:World} (h:Boxes w [(b,[x0,x1,x2,x3,x4])]) (hb:Below B w0 w) (hB:B≤b) (y0 y1 y2 y3 y4:Value) :
 ∃w',w'=((((w.setCell ⟨b,0,none⟩ y0).setCell ⟨b,1,none⟩ y1).setCell ⟨b,2,none⟩ y2).setCell ⟨b,3,none⟩ y3).setCell ⟨b,4,none⟩ y4∧Boxes w' [(b,[y0,y1,y2,y3,y4])]∧Below B w0 w':=
 ⟨_,rfl,(((((h.put 0 y0 (by simp)).put 1 y1 (by simp)).put 2 y2 (by simp)).put 3 y3 (by simp)).put 4 y4 (by simp)),((((hb.setCell hB _).setCell hB _).setCell hB _).setCell hB _).setCell hB _⟩
theorem one_branch (c:List UInt8) (w:World) (hl:c.length≤1000000) :
 Calls Tryz.prog 147 #[.bool false,.string (strOf c)] w (OnePost w (decE false c)):=by
 have zm:=Mk.i 96204;exact q38a107
theorem tDone_rest (s:TSt):tDone (tRest s).2=(tRest s).2.e:=by
 unfold tRest takeF tDone
 by_cases h:s.e=0
 ·simp[h]
 ·simp[h]
theorem one_far (c:List UInt8) (w:World) (hl:c.length≤1000000) (h1:(tNum (tText ⟨c,0⟩).2 1).1=1) :
 Calls Tryz.prog 147 #[.bool true,.string (strOf c)] w (OnePost w (decE true c)):=by
 have zm:=Mk.i 229483;exact q38a107
theorem one_near (c:List UInt8) (w:World) (hl:c.length≤1000000) (h1:(tNum (tText ⟨c,0⟩).2 1).1≠1) :
 Calls Tryz.prog 147 #[.bool true,.string (strOf c)] w (OnePost w (decE true c)):=by
 have zm:=Mk.i 555335;exact q38a107
theorem one_any (leaf:Bool) (c:List UInt8) (w:World) (hl:c.length≤1000000) :
 Calls Tryz.prog 147 #[.bool leaf,.string (strOf c)] w (OnePost w (decE leaf c)):=by
 cases leaf
 ·exact one_branch c w hl
 ·by_cases h1:(tNum (tText ⟨c,0⟩).2 1).1=1
  ·exact one_far c w hl h1
  ·exact one_near c w hl h1
open Go.RowKit
def OwnRe (w:World) (base:Nat) (v:Value) (l:List En):Prop:=w.ownsRow base 226 5 v l.length (l.flatMap ecells)
theorem OwnRe.nil (w:World) (base:Nat):OwnRe w base (.slice none 0 0) []:=World.ownsRow_nil _ _ _ _
theorem OwnRe.below {w w':World} {base:Nat} {v:Value} {l:List En} {B:Nat} (h:OwnRe w base v l) (hB:w.heap.size≤B) (hb:Below B w w'):OwnRe w' base v l:=own_below h hB hb
theorem OwnRe.ents {w:World} {base:Nat} {v:Value} {l:List En} (h:OwnRe w base v l):∃a cap,v=.slice a l.length cap∧NEnts w a l.length cap l:=
 TabR.of_own ecells (fun _=>rfl) (fun _=>rfl) h
theorem info_re:(Tryz.prog.info? 226).map (fun i=>(i.zero,i.size,i.bytes))=some (some (.agg #[.string ⟨#[]⟩,.string ⟨#[]⟩,.bool false,.int .i64 0,.int .i64 0]),5,56):=by kernel_rfl
theorem append_re {w:World} {base:Nat} {v:Value} {l:List En} (h:OwnRe w base v l) (e:En) (hl:l.length≤65536) (hbase:base≤w.heap.size) :
 ∃v' w',(Builtin.append_ #[219,219] 219 #[v,.slice (some ⟨w.heap.size,0,none⟩) 1 1]).run Tryz.prog (w.alloc (.cells #[.string (strOf e.key),.string (strOf e.v.data),.bool e.v.far,.int .i64 e.v.size,.int .i64 e.v.page] 226))=.ok v' w'∧OwnRe w' base v' (l++[e])∧w.grownBy w' v.ownBlock:=by
 obtain⟨i0,hi,hz0,hz1,hz2⟩:=info_parts info_re;obtain⟨v',w',hr,ho,hg,_⟩:=run_append_new (P:=Tryz.prog) base 219 226 i0 _ 5 56 Tryz.underlying219 hi hz0 hz1 hz2 rfl (by decide) h #[.string (strOf e.key),.string (strOf e.v.data),.bool e.v.far,.int .i64 e.v.size,.int .i64 e.v.page] rfl (fun u hu=>by simp at hu;rcases hu with rfl|rfl|rfl|rfl|rfl<;>rfl) (by unfold maxLen;omega) (by omega) hbase;refine⟨v',w',hr,?_,hg⟩;unfold OwnRe;rw[List.flatMap_append,List.length_append];simpa[ecells,vcells] using ho
def RGetNPost (w:World) (leaf:Bool) (l:List En) (er:Int) (e:Ending) (w':World):Prop:=
 ∃v,e=.returned (.tuple #[.agg #[.bool leaf,v],.int .i64 er])∧OwnRe w' w.heap.size v l∧Below w.heap.size w w'
theorem rgetpost_none {w w':World} {e:Ending} {er:Int} (he:e=.returned (.tuple #[.agg #[.bool false,.slice none 0 0],.int .i64 er])) (hb:Below w.heap.size w w'):RGetNPost w false [] er e w':=⟨_,he,OwnRe.nil _ _,hb⟩
theorem rnget_err (b:List UInt8) (w:World) (hl:b.length≤140737488351232) (hE:unpE b≠0) :
 Calls Tryz.prog 101 #[.string (strOf b)] w (RGetNPost w false [] (unpE b)):=by
 have hB:=below_one w (.cells #[.bool false,.slice none 0 0] 221);have BX:=(Boxes.nil w).alloc #[.bool false,.slice none 0 0] 221 rfl;have hun:=runpack_any b (w.alloc (.cells #[.bool false,.slice none 0 0] 221)) hl;have hne:((unpE b:Int) != 0)=true:=by simpa using hE
 have hne2:((unpE b:Int) == 0)=false:=by simpa using hE
 generalize unpE b=er at *;generalize unpK b=k at *;generalize unpL b=l at *;clear hE;go_enter Tryz.func101,Tryz.ntmps101;go_wp2_with fail;refine hun.mono ?_;rintro e w1 ⟨v1,rfl,_,hb1⟩;have BX:=BX.step hb1;have g0:=BX.cell 0 0 rfl rfl;have g1:=BX.cell 0 1 rfl rfl;have f0:=BX.frozen 0 0 rfl;have f1:=BX.frozen 0 1 rfl;go_wp2_with fail;refine bodyPost_ret (v:=.tuple #[.agg #[.bool false,.slice none 0 0],.int .i64 er]) (by simp[results,Tryz.results101,go_sem,g0,g1]) rfl (rgetpost_none rfl ?_);exact(((below_then hB hb1).setCell (Nat.le_refl _) _).setCell (Nat.le_refl _) _)
def OneBox (wr:World) (o:Option En) (p q:Value) (wx:World):Prop:=∃(pe:Nat) (x:En) (is:Bool),p=.pointer (some ⟨pe,0,none⟩)∧q=.bool is∧OneOf o x is∧Boxes wx [(pe,[.string (strOf x.key),.string (strOf x.v.data),.bool x.v.far,.int .i64 x.v.size,.int .i64 x.v.page])]∧wr.heap.size≤pe∧Below wr.heap.size wr wx
theorem rnget_form (b:List UInt8) (w:World) (hl:b.length≤140737488351232) (hE:unpE b=0) :
 Calls Tryz.prog 101 #[.string (strOf b)] w (RGetNPost w (getNF b) (getNL b) (getNE b)):=by
 have hB:=below_one w (.cells #[.bool false,.slice none 0 0] 221);have BX:=(Boxes.nil w).alloc #[.bool false,.slice none 0 0] 221 rfl;have hun:=runpack_any b (w.alloc (.cells #[.bool false,.slice none 0 0] 221)) hl;have hmany:=unp_many b;have hcl:=unp_cell b hE;have hlk:(((unpK b).toNat:Int) == 1)=leafK b:=u8_eq (unpK b) 1;have hgE:getNE b=if decide ((unpK b).toNat≤2) && (match decL (leafK b) (unpL b) with|some l=>nodeB (leafK b) l|none=>false) then 0 else 11:=by
  rw[getNE,if_neg (by rw[hE];simp),getNB,entN];rfl
 have hgL:getNL b=if getNE b=0 then (decL (leafK b) (unpL b)).getD [] else []:=by rw[getNL,entN]
 have hgF:getNF b=if getNE b=0 then leafK b else false:=by rw[getNF]
 rw[hE] at hun;have hkl:=(unpK b).toNat_lt;unfold RUnpPost at hun;generalize unpL b=cl at *;generalize getNE b=gE at *;generalize getNL b=gL at *;generalize getNF b=gF at *;generalize leafK b=leaf at *;generalize (unpK b).toNat=kd at *;have HE:=Hd hgE;have HL:=Hd hgL;have HF:=Hd hgF;have HC:=Hd hcl;clear hE hgE hgL hgF hcl;go_enter Tryz.func101,Tryz.ntmps101;go_wp2_with fail;refine hun.mono ?_;rintro e w1 ⟨v1,rfl,hob,hb1⟩;obtain⟨ac,cc,rfl,hbs⟩:=Strs.of_own hob;have BX:=BX.step hb1;have hb:=below_then hB hb1;have hlt1:=BX.lt 0 rfl;have BY:=BX.alloc #[.bool leaf,.slice none 0 0] 221 rfl;have hb4:=below_one w1 (.cells #[.bool leaf,.slice none 0 0] 221);have HBS:=Hd hbs;have HB:=Hd hb;clear hob hun hb1 BX hbs hb;go_wp2_with fail
 go_loopw [8] (fun i wr=>∃(k:Nat) (v:Value) (es:List En),k≤cl.length∧i=.int .i64 k∧DecTo leaf cl k es∧Boxes wr [(w1.heap.size,[.bool leaf,v]),(w.heap.size,[.bool false,.slice none 0 0])]∧OwnRe wr (w1.heap.size+1) v es∧Below w1.heap.size w1 wr) (fun i _=>cl.length-(intOf i).toNat)
 case atStart=>exact⟨0,_,[],Nat.zero_le _,rfl,rfl,BY,OwnRe.nil _ _,hb4⟩
 case round=>
  obtain⟨k,v,es,hk,rfl,hdt,BY,hown,hbw⟩:=hrel;have hsz:=hbw.size;have HDT:=Hd hdt;have hes:=hdt.len;clear hdt
  by_cases hlt:k<cl.length
  ·obtain⟨b5,off5,rfl,hbb5,hcell5⟩:=(HBS.out.below (Nat.le_refl _) hbw).at hlt
   obtain⟨c,hc⟩:∃c,cl[k]? = some c:=⟨_,List.getElem?_eq_getElem hlt⟩
   rw[hc,Option.getD_some] at hcell5;have h5:c.length≤128:=HC.out c (List.mem_of_getElem? hc);have HCK:=Hd hc;have TO:=fun W=>one_any leaf c W (by omega)
   have BY0:=Hd BY;have HO0:=Hd hown;clear hc hown;obtain⟨o,ho⟩:∃o,decE leaf c=o:=⟨_,rfl⟩
   rw[ho] at TO;have HO2:=Hd ho;clear ho;go_wp2_with fail;have c0:∀W,Below wr.heap.size wr W→W.cell? ⟨w1.heap.size,0,none⟩=some (.bool leaf):=fun W hW=>(BY0.out.step hW).cell 0 0 rfl rfl
   have c5:∀W,Below wr.heap.size wr W→W.cell? ⟨b5,off5+k,none⟩=some (.string (strOf c)):=fun W hW=>(hW.cell (p:=⟨b5,off5+k,none⟩) hbb5).trans hcell5
   have hC:Below wr.heap.size wr wr.drew:=(Below.refl _ _).drew;have hCa:Below wr.heap.size wr (wr.alloc (.cells #[.string ⟨#[]⟩,.string ⟨#[]⟩,.bool false,.int .i64 0,.int .i64 0] 226)).drew:=(below_one _ _).drew;have BA:Boxes (wr.alloc (.cells #[.string ⟨#[]⟩,.string ⟨#[]⟩,.bool false,.int .i64 0,.int .i64 0] 226)).drew [(wr.heap.size,[.string ⟨#[]⟩,.string ⟨#[]⟩,.bool false,.int .i64 0,.int .i64 0])]:=((Boxes.nil wr).alloc #[.string ⟨#[]⟩,.string ⟨#[]⟩,.bool false,.int .i64 0,.int .i64 0] 226 rfl).drew;clear BY hcell5;go_upto_region 8 with(fail)
   go_cut [9,10] (fun p q wx=>OneBox wr o p q wx)
   case first=>
    go_region_held3 (fun W=>Below wr.heap.size wr W) (first|with_reducible assumption|(with_reducible exact hC5.alloc hC5.size _)|(with_reducible exact((((hC5.setCell (Nat.le_refl _) _).setCell (Nat.le_refl _) _).setCell (Nat.le_refl _) _).setCell (Nat.le_refl _) _).setCell (Nat.le_refl _) _)) (first|(go_at_call 147;(with_reducible refine(TO _).mono ?_);rintro e w5 ⟨x,is,rfl,hof,hb5⟩;unfold ev;have hC5:=hC.trans (hb5.mono hC.size))|(go_at_call 147;(with_reducible refine(TO _).mono ?_);rintro e w5 ⟨x,is,rfl,hof,hb5⟩;unfold ev;have hC5:=hCa.trans (hb5.mono hCa.size);have BE:=BA.step hb5;have b0:=BE.cell 0 0 rfl rfl;have b1:=BE.cell 0 1 rfl rfl;have b2:=BE.cell 0 2 rfl rfl;have b3:=BE.cell 0 3 rfl rfl;have b4:=BE.cell 0 4 rfl rfl;have d0:=BE.frozen 0 0 rfl;have d1:=BE.frozen 0 1 rfl;have d2:=BE.frozen 0 2 rfl;have d3:=BE.frozen 0 3 rfl;have d4:=BE.frozen 0 4 rfl))
    ·go_wp2_with fail
     go_meet;exact⟨_,x,is,rfl,rfl,hof,(Boxes.nil w5).alloc #[.string (strOf x.key),.string (strOf x.v.data),.bool x.v.far,.int .i64 x.v.size,.int .i64 x.v.page] 226 rfl,hC5.size,hC5.alloc hC5.size _⟩
    ·go_wp2_with fail
     go_meet;obtain⟨_,rfl,BZ,hb9⟩:=box_five BE hC5 (Nat.le_refl _) (.string (strOf x.key)) (.string (strOf x.v.data)) (.bool x.v.far) (.int .i64 x.v.size) (.int .i64 x.v.page);exact⟨_,x,is,rfl,rfl,hof,BZ,Nat.le_refl _,hb9⟩
   case rest=>
   unfold OneBox at hcut;obtain⟨pe,x,is,rfl,rfl,hof,BE,hpe,hb5⟩:=hcut;clear c0 c5 hC hCa BA;have hnb:=BY0.out.lt 0 rfl;have hz5:=hb5.size;have BY5:=BY0.out.step hb5;have hown5:=HO0.out.below (Nat.le_refl _) hb5;have hbw5:=below_then hbw hb5;cases o with
   | none=>
    have:is=false:=hof;subst this;have hN:decL leaf cl=none:=decL_none HCK.out HO2.out;have hE:gE=11:=by rw[HE.out,hN];simp
    have hL:gL=[]:=by rw[HL.out,if_neg (by rw[hE];decide)]
    have hF:gF=false:=by rw[HF.out,if_neg (by rw[hE];decide)]
    clear hN;subst hE hL hF;have f0:=BY5.frozen 1 0 rfl;have f1:=BY5.frozen 1 1 rfl;have g0:=BY5.cell 1 0 rfl rfl;have g1:=BY5.cell 1 1 rfl rfl;go_wp2_with fail;refine bodyPost_ret (v:=.tuple #[.agg #[.bool false,.slice none 0 0],.int .i64 11]) (by simp[results,Tryz.results101,go_sem,g0,g1]) rfl (rgetpost_none rfl ?_);exact((((below_then HB.out hbw5).setCell (Nat.le_refl _) _).setCell (Nat.le_refl _) _))
   | some y=>
    obtain⟨rfl,rfl⟩:=hof;have HDT2:=Hd (HDT.out.step HCK.out HO2.out);have hsz5:=hbw5.size;have e0:=BE.cell 0 0 rfl rfl;have e1:=BE.cell 0 1 rfl rfl;have e2:=BE.cell 0 2 rfl rfl;have e3:=BE.cell 0 3 rfl rfl;have e4:=BE.cell 0 4 rfl rfl;have n1:=BY5.cell 0 1 rfl rfl;obtain⟨v9,w9,hr9,ho9,hg9⟩:=append_re hown5 x (by omega) (by omega);obtain⟨a9,k9,rfl,hk91,hk92,hk93⟩:=own_slice ho9;rw[show(es++[x]:List En).length=es.length+1 from by simp] at ho9 hr9;have hne1:v.ownBlock≠some w1.heap.size:=fun e=>by have:=own_ge hown5 _ e;omega
    have BW:=BY5.grown hg9 (fun p hp=>by
     simp at hp
     rcases hp with rfl|rfl
     ·exact hne1
     ·intro e;have:=own_ge hown5 _ e;omega)
    have f1:=BW.frozen 0 1 rfl;have m1:=BW.cell 0 1 rfl rfl;have hbw9:Below w1.heap.size w1 w9:=hbw5.grown hg9 hsz5 (fun k e=>by have:=own_ge hown5 _ e;omega);have HB9:=Hd hbw9;have HO9:=Hd ho9;clear hbw9 ho9 hk91 hk92 hk93
    go_wp2_with (at_builtin;refine wpList_append_run rfl _ _ _ _ rfl rfl rfl hr9 ?_)
    go_roundw
    case rel=>
     have hne9:Value.ownBlock (.slice a9 (es.length+1) k9)≠some w1.heap.size:=fun e=>by have:=own_ge HO9.out _ e;omega
     exact⟨k+1,_,_,by omega,by go_num,HDT2.out,BW.put 1 _ (fun p hp=>by simp at hp;subst hp;simp;omega),own_set HO9.out ⟨w1.heap.size,1,none⟩ (.slice a9 (es.length+1) k9) hne9,HB9.out.setCell (Nat.le_refl _) _⟩
    case measure=>simp[intOf];omega
  ·obtain rfl:k=cl.length:=by omega
   have hdl:decL leaf cl=some es:=by have:=HDT.out;unfold DecTo at this;rwa [List.take_length] at this
   have hes16:SmE es:=fun e he=>by have:=decL_small hdl HC.out e he;omega
   obtain⟨av,kv,rfl,hen⟩:=hown.ents;have CK:=rcheckN_any leaf av es.length kv es wr hen (by omega) hes16;have hE:gE=if decide (kd≤2) && nodeB leaf es then 0 else 11:=by rw[HE.out,hdl]
   have e0:=BY.cell 0 0 rfl rfl;have e1:=BY.cell 0 1 rfl rfl;have HO:=Hd hown;clear hown hen;have hbb:=below_then HB.out hbw;cases hn:nodeB leaf es with
   | true=>
    rw[hn] at CK hE
    by_cases hk2:kd≤2
    ·have hE0:gE=0:=by rw[hE,decide_eq_true hk2];rfl
     have hL:gL=es:=by rw[HL.out,if_pos hE0,hdl];rfl
     have hF:gF=leaf:=by rw[HF.out,if_pos hE0]
     have zm:=Mk.i 731151;exact qc8892e
    ·have hE0:gE=11:=by rw[hE,decide_eq_false hk2];rfl
     have zm:=Mk.i 6454;exact qec5b5c
   | false=>
    rw[hn] at CK hE;have hE0:gE=11:=by rw[hE,Bool.and_false];rfl
    have zm:=Mk.i 627806;exact qec5b5c
theorem rnget_any (b:List UInt8) (w:World) (hl:b.length≤140737488351232) :
 Calls Tryz.prog 101 #[.string (strOf b)] w (RGetNPost w (getNF b) (getNL b) (getNE b)):=by
 by_cases hE:unpE b=0
 ·exact rnget_form b w hl hE
 ·have hE2:getNE b=unpE b:=by rw[getNE,if_pos hE]
  have hL2:getNL b=[]:=by rw[getNL,hE2,if_neg hE]
  have hF2:getNF b=false:=by rw[getNF,hE2,if_neg hE]
  rw[hE2,hL2,hF2];exact rnget_err b w hl hE
end Go.Proofs.YtpghlmcoajaiiaaGreatDoor
