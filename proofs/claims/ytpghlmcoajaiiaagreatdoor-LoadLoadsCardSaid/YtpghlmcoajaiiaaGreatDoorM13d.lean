/- What follows of it. -/
import Derived.Test.YtpghlmcoajaiiaaGreatDoorM13c
set_option maxHeartbeats 20000000
set_option maxRecDepth 100000
namespace Go.Proofs.YtpghlmcoajaiiaaGreatDoor
open Go.RowKit
theorem rnode_any:∀{n:Nat} {w:World} {cs:List Value} {t:Tr} {F:Nat→Prop},RNodeOn F n w cs t→Bnd n t→n≤1000→∀(lo hi:List UInt8) (root:Bool),lo.length≤1000→hi.length≤1000 →
 Calls Tryz.prog 103 #[.agg cs.toArray,.string (strOf lo),.string (strOf hi),.bool root] w fun e w'=>e=.returned (.int .i64 (depI (depthT n t lo hi root)))∧Below w.heap.size w w'
 | 0,_,_,_,_,h,_,_,_,_,_,_,_=>h.elim
 | _n+1,_,_,.leaf _p _l,_,h,hb,hn,lo,hi,root,hlo,hhi=>rnode_leaf h hb (by omega) lo hi root hlo hhi
 | _n+1,_,_,.node _p _l,_,h,hb,hn,lo,hi,root,hlo,hhi=>rnode_branch (fun h hb lo hi hlo hhi=>rnode_any h hb (by omega) lo hi false hlo hhi) h hb (by omega) lo hi root hlo hhi
theorem rcheck_any {n:Nat} {F:Nat→Prop} {w:World} {cs:List Value} {t:Tr} (h:RNodeOn F n w cs t) (hb:Bnd n t) (hn:n≤1000) :
 Calls Tryz.prog 55 #[.agg cs.toArray] w fun e w'=>e=.returned (.bool (checkT n t))∧Below w.heap.size w w':=by
 cases n with
 | zero=>exact h.elim
 | succ n=>
 have hh:=h;obtain⟨a,c,rfl,h1,_⟩:=h.at;obtain⟨lf,hlf⟩:∃x,t.isLeaf=x:=⟨_,rfl⟩
 obtain⟨m,hm⟩:∃x,cntT t=x:=⟨_,rfl⟩
 obtain⟨pg,hpg⟩:∃x,t.page=x:=⟨_,rfl⟩
 have hm9:m≤1000:=by rw[←hm];exact hb.cnt
 rw[hlf,hm,hpg] at hh;have hB0:Below w.heap.size w (w.alloc (.cells #[.int .i64 pg,.bool lf,.slice a m c] 27)):=Below.al (Below.refl _ _);have hX0:Boxes _ [(w.heap.size,[.int .i64 pg,.bool lf,.slice a m c])]:=((Boxes.nil w).alloc #[.int .i64 pg,.bool lf,.slice a m c] 27 rfl)
 obtain⟨wA,hwA⟩:∃wA,w.alloc (.cells #[.int .i64 pg,.bool lf,.slice a m c] 27)=wA:=⟨_,rfl⟩
 rw[hwA] at hB0 hX0;rw[hlf,hm,hpg];have CF:=rnode_any (hh.below hB0) hb hn [] [] true (by decide) (by decide);have zm:=Mk.i 491466;exact qa8e0cc
open Go.RowKit
theorem info_L:(Tryz.prog.info? 128).map (fun i=>(i.zero,i.size,i.bytes))=some (some (.agg #[.int .i64 0,.string ByteArray.empty]),2,24):=by kernel_rfl
theorem lcells_one (y:Nat×P128):∀u∈lcells y,u.oneCell'=true:=by
 intro u hu;simp only[lcells,List.mem_cons,List.not_mem_nil,or_false] at hu
 rcases hu with rfl|rfl<;>rfl
def RPost (K:Nat→Prop) (w:World) (d:List Rg) (er:Int) (e:Ending) (w':World):Prop:=∃a n cap,e=.returned (.tuple #[.slice a n cap,.int .i64 er])∧GsK (From K w.heap.size) w' a n cap d∧Below w.heap.size w w'
theorem cntR_left (x:Rg) (h1 : -1≤x.left) (h2:x.left≤9223372036854775807) : -1≤(cntR x).left∧(cntR x).left≤9223372036854775807:=by
 unfold cntR;split
 ·exact⟨h1,h2⟩
 ·split
  ·simp only;omega
  ·exact⟨h1,h2⟩
theorem with_rg2 {K:Nat→Prop} {w:World} {a:Option Addr} {len cap:Nat} {d:List Rg} (h:GsK K w a len cap d) (hlen:len≤1000) (i:Nat) (hi:i<len) (x:Rg) {pa:Option Addr} {pc:Nat} {la:Option Addr} {lc:Nat} {n m:Nat} {cl:Int} {cd:Bool} (hn:x.size=n) (hm:x.loose.length=m) (hcl:x.left=cl) (hcd:x.down=cd) (hp:∀W,Agree K w W→Txs W pa n pc (pagesL x)) (hl:∀W,Agree K w W→Ls W la m lc x.loose) (hs:n≤1000) (hs2:∀p∈x.loose,p.1<n) (h1 : -1≤cl) (h2:cl≤9223372036854775807) :
 Calls Tryz.prog 49 #[.slice a len cap,.int .i64 (i:Int),.agg #[.slice pa n pc,.slice la m lc,.int .i64 cl,.bool cd]] w (GsPost K w (d.set i x)):=by
 subst hn hm hcl hcd;exact with_rg h hlen i hi x hp hl hs hs2 h1 h2
theorem rwrite_any {K:Nat→Prop} {w:World} {a:Option Addr} {len cap:Nat} {d:List Rg} (h:GsK K w a len cap d) (hlen:len≤1000) (hL:∀x∈d,x.loose.length≤100000) (r p:Int) (l:List UInt8) :
 Calls Tryz.prog 14 #[.slice a len cap,.int .i64 r,.int .i64 p,.string (strOf l)] w (RPost K w (writeD d r p l) (writeE d r p l)):=by
 have U:=rup_any h.gs (by omega) r p true;have hre:refE d r p true=pagedE d r p:=rfl;rw[hre] at U;have z1:=strOf_size l;have hst:=strOf_toList l
 by_cases hu:pagedE d r p=0
 ·rw[hu] at U
  by_cases hl:l.length=128
  ·obtain⟨i,pn,x,rfl,rfl,hx,hdn,hpn⟩:=pagedE_zero hu
   have hi:i<len:=by have:=(List.getElem?_eq_some_iff.1 hx).1;have:=h.1;omega
   have hLx:=hL x (List.mem_of_getElem? hx);obtain⟨b,off,pa,pc,la,lc,rfl,hb,c0,c1,c2,c3,g2,g3,g4,g5,g6,g7⟩:=h.at hx;have hE:writeE d i pn l=cntE x:=by rw[writeE,if_pos hu,if_pos hl,atR_of hx]
   have hD:writeD d i pn l=d.set i (wroteR x pn (toP l)):=by rw[writeD,if_pos ⟨hu,hl⟩,atR_of hx,Int.toNat_natCast,Int.toNat_natCast]
   have q1:decide ((i:Int)<len)=true:=by simp;omega
   have q2:((l.length:Int) == 128)=true:=by simp;omega
   have q3:(l.length == 128)=true:=by simp;omega
   have C:=counts_rg (w:=w) pa pc la lc x g6 g7;rw[hE,hD];have HL:=Hd hl
   rcases cntE_or x with hc|hc
   ·have hwr:wroteR x pn (toP l)={ cntR x with loose:=x.loose++[(pn,toP l)] }:=by unfold wroteR;rw[if_pos hc]
    rw[hc,hwr];have hcl:=cntR_left x g6 g7;have C:Calls Tryz.prog 48 #[.agg #[.slice pa x.size pc,.slice la x.loose.length lc,.int .i64 x.left,.bool x.down]] w fun e w'=>e=.returned (.tuple #[.agg #[.slice pa x.size pc,.slice la x.loose.length lc,.int .i64 (cntR x).left,.bool (cntR x).down],.int .i64 0])∧Below w.heap.size w w':=C.mono fun e w' ⟨h1,h2⟩=>⟨by rw[h1,hc],h2⟩
    have hnew:lcells (pn,toP l)=[.int .i64 (pn:Int),.string (strOf l)]:=by simp only[lcells,toP_val hl]
    have KEY:∀w1,Below w.heap.size w w1→∃a1 c1 w2 a2 c2 w3,(Builtin.append_ #[115,115] 115 #[.slice none 0 0,.slice la x.loose.length lc]).run Tryz.prog (w1.alloc (.cells #[.slice pa x.size pc,.slice la x.loose.length lc,.int .i64 (cntR x).left,.bool (cntR x).down] 117))=.ok (.slice a1 x.loose.length c1) w2 ∧
     (Builtin.append_ #[115,115] 115 #[.slice a1 x.loose.length c1,.slice (some ⟨w2.heap.size,0,none⟩) 1 1]).run Tryz.prog (w2.alloc (.cells #[.int .i64 (pn:Int),.string (strOf l)] 128))=.ok (.slice a2 (x.loose.length+1) c2) w3 ∧
     w3.cell? ⟨w1.heap.size,0,none⟩=some (.slice pa x.size pc)∧w3.cell? ⟨w1.heap.size,1,none⟩=some (.slice la x.loose.length lc)∧w3.cell? ⟨w1.heap.size,2,none⟩=some (.int .i64 (cntR x).left)∧w3.cell? ⟨w1.heap.size,3,none⟩=some (.bool (cntR x).down)∧w2.cell? ⟨w1.heap.size,1,none⟩=some (.slice la x.loose.length lc)∧w3.frozen? ⟨w1.heap.size,1,none⟩=false ∧
     Below w.heap.size w (w3.setCell ⟨w1.heap.size,1,none⟩ (.slice a2 (x.loose.length+1) c2)) ∧
     Calls Tryz.prog 49 #[.slice (some ⟨b,off,none⟩) len cap,.int .i64 (i:Int),.agg #[.slice pa x.size pc,.slice a2 (x.loose.length+1) c2,.int .i64 (cntR x).left,.bool (cntR x).down]] (w3.setCell ⟨w1.heap.size,1,none⟩ (.slice a2 (x.loose.length+1) c2)) (GsPost (From K w.heap.size) (w3.setCell ⟨w1.heap.size,1,none⟩ (.slice a2 (x.loose.length+1) c2)) (d.set i { cntR x with loose:=x.loose++[(pn,toP l)] })):=by
     intro w1 hb1;have hbx:Below w.heap.size w (w1.alloc (.cells #[.slice pa x.size pc,.slice la x.loose.length lc,.int .i64 (cntR x).left,.bool (cntR x).down] 117)):=hb1.alloc hb1.size _;have HX:Boxes (w1.alloc (.cells #[.slice pa x.size pc,.slice la x.loose.length lc,.int .i64 (cntR x).left,.bool (cntR x).down] 117)) [(w1.heap.size,[.slice pa x.size pc,.slice la x.loose.length lc,.int .i64 (cntR x).left,.bool (cntR x).down])]:=(Boxes.nil w1).alloc _ _ rfl;generalize hwb:w1.alloc (.cells #[.slice pa x.size pc,.slice la x.loose.length lc,.int .i64 (cntR x).left,.bool (cntR x).down] 117)=wb at *;have hszb:wb.heap.size=w1.heap.size+1:=by rw[←hwb];simp
     obtain⟨i0,hi0,hz0,hz1,hz2⟩:=info_parts info_L;obtain⟨v1,w2,hr1,ho1,hg1,_⟩:=run_append_tab (P:=Tryz.prog) (w:=wb) wb.heap.size 115 128 i0 _ 2 24 Tryz.underlying115 hi0 hz0 hz1 hz2 rfl (by decide) (World.ownsRow_nil _ _ _ _) (fun cs y=>cs=lcells y) lcells (fun _ _ h=>h) lcells_length lcells_one (TabR.below (Nat.le_refl _) hbx (g3 w (Agree.refl _ _))) (by unfold maxLen;omega) (by omega) (Nat.le_refl _);simp only[Nat.zero_add,List.nil_append] at ho1;obtain⟨a1,c1,rfl,_⟩:=own_slice ho1;have hg1s:=hg1.size;obtain⟨v2,w3,hr2,ho2,hg2,_⟩:=run_append_new (P:=Tryz.prog) (w:=w2) wb.heap.size 115 128 i0 _ 2 24 Tryz.underlying115 hi0 hz0 hz1 hz2 rfl (by decide) ho1 #[.int .i64 (pn:Int),.string (strOf l)] rfl (by intro u hu;simp at hu;rcases hu with rfl|rfl<;>rfl) (by unfold maxLen;omega) (by omega) hg1s;obtain⟨a2,c2,rfl,_⟩:=own_slice ho2;have hge1:=own_ge ho1;have hge2:=own_ge ho2;have hge3:∀b off,a2=some ⟨b,off,none⟩→w1.heap.size+1≤b:=fun b off e=>by have:=hge2 b (by rw[e];rfl);omega
     have HX2:=HX.grown hg1 (fun p hp e=>by cases e);have HX3:=HX2.grown hg2 (fun p hp e=>by simp at hp;subst hp;have:=hge1 _ e;simp only at this;omega);have hbs:=hb1.size;have hb3:Below w.heap.size w w3:=(hbx.grown hg1 hbx.size (fun k hk=>by cases hk)).grown hg2 (by omega) (fun k hk=>by have:=hge1 k hk;omega);have hb4:Below w.heap.size w (w3.setCell ⟨w1.heap.size,1,none⟩ (.slice a2 (x.loose.length+1) c2)):=hb3.setCell hbs _;refine⟨a1,c1,w2,a2,c2,w3,hr1,hr2,HX3.cell 0 0 rfl rfl,HX3.cell 0 1 rfl rfl,HX3.cell 0 2 rfl rfl,HX3.cell 0 3 rfl rfl,HX2.cell 0 1 rfl rfl,HX3.frozen 0 1 rfl,hb4,?_⟩;have ho3:=own_set ho2 ⟨w1.heap.size,1,none⟩ (.slice a2 (x.loose.length+1) c2) (fun e=>by have:=hge2 _ e;simp only at this;omega);have hxs:x.loose.flatMap lcells ++ #[Value.int .i64 (pn:Int),.string (strOf l)].toList=(x.loose++[(pn,toP l)]).flatMap lcells:=by
      rw[List.flatMap_append];simp[hnew]
     rw[hxs] at ho3;have hln:(x.loose++[(pn,toP l)]).length=x.loose.length+1:=by simp
     obtain⟨a5,c5,e5,htl⟩:=TabR.of_own lcells lcells_length (R:=fun cs y=>cs=lcells y) (fun _=>rfl) (l:=x.loose++[(pn,toP l)]) (by rw[hln];exact ho3);rw[hln] at e5;simp only[Value.slice.injEq] at e5;obtain⟨rfl,_,rfl⟩:=e5;have e1:(cntR x).size=x.size:=wrote_size x;have e3:pagesL { cntR x with loose:=x.loose++[(pn,toP l)] }=pagesL x:=by
      have:(cntR x).pages=x.pages:=by unfold cntR;split<;>(try split)<;>rfl
      unfold pagesL;simp only[e1,this]
     refine with_rg2 ((h.below hb4).mono fun _ hk=>.inl hk) hlen i hi { cntR x with loose:=x.loose++[(pn,toP l)] } e1 hln rfl rfl (fun W hW=>by rw[e3];exact g2 W (Agree.step hb4 hW)) (fun W hW=>by have ht9:=htl;rw[hln] at ht9;exact TabR.agreeK ht9 (fun b off e=>.inr (by have:=hge3 b off e;omega)) W hW) g4 (fun q hq=>?_) hcl.1 hcl.2
     rcases List.mem_append.1 hq with hq|hq
     ·exact g5 q hq
     ·simp at hq;subst hq;exact hpn
    have HK:=Hd KEY;clear h hx hu hdn g2 g3 g5 hre hE hD hwr hc hcl KEY hL hl hpn hnew;generalize hcl:(cntR x).left=cl at *;generalize hcd:(cntR x).down=cd at *;clear hcl hcd;go_enter Tryz.func14,Tryz.ntmps14;go_wp2_with fail;refine U.mono ?_;rintro e w9 ⟨rfl,rfl⟩;clear U;go_wp2_with fail;refine C.mono ?_;rintro e w1 ⟨rfl,hb1⟩;obtain⟨a1,c1',w2,a2,c2',w3,hr1,hr2,k0,k1,k2,k3,k4,kf,hb4,W4⟩:=HK.out w1 hb1;have HB4:=Hd hb4;clear C hb1 hb4;go_upto_region 10 with(at_builtin;refine wpList_append_run rfl _ _ _ _ rfl rfl rfl hr1 ?_)
    go_upto_region 11 with(at_builtin;refine wpList_append_run rfl _ _ _ _ rfl rfl rfl hr2 ?_)
    go_wp2_with fail;refine W4.mono ?_;rintro e w5 ⟨a3,n3,c3',rfl,hg3,hb3⟩;have END:=Hd (show RPost K w (d.set i { cntR x with loose:=x.loose++[(pn,toP l)] }) 0 (.returned (.tuple #[.slice a3 n3 c3',.int .i64 0])) w5 from⟨a3,n3,c3',rfl,hg3.mono (from_up2 HB4.out),below_then HB4.out hb3⟩);clear W4 hg3 hb3;go_wp2_with fail
    go_ret2
    exact END.out
   ·have hwr:wroteR x pn (toP l)=cntR x:=by unfold wroteR;rw[if_neg (by omega)]
    rw[hc,hwr];have hcl:=cntR_left x g6 g7;have C:Calls Tryz.prog 48 #[.agg #[.slice pa x.size pc,.slice la x.loose.length lc,.int .i64 x.left,.bool x.down]] w fun e w'=>e=.returned (.tuple #[.agg #[.slice pa x.size pc,.slice la x.loose.length lc,.int .i64 (cntR x).left,.bool (cntR x).down],.int .i64 3])∧Below w.heap.size w w':=C.mono fun e w' ⟨h1,h2⟩=>⟨by rw[h1,hc],h2⟩
    have W:∀w1,Below w.heap.size w w1→Calls Tryz.prog 49 #[.slice (some ⟨b,off,none⟩) len cap,.int .i64 (i:Int),.agg #[.slice pa x.size pc,.slice la x.loose.length lc,.int .i64 (cntR x).left,.bool (cntR x).down]] w1 (GsPost K w1 (d.set i (cntR x))):=by
     intro w1 hb1;have e1:(cntR x).size=x.size:=wrote_size x;have e2:(cntR x).loose=x.loose:=cntR_loose x;have e3:pagesL (cntR x)=pagesL x:=by
      have:(cntR x).pages=x.pages:=by unfold cntR;split<;>(try split)<;>rfl
      unfold pagesL;rw[e1,this]
     have:=with_rg (h.below hb1) hlen i hi (cntR x) (pa:=pa) (pc:=pc) (la:=la) (lc:=lc) (fun W hW=>by rw[e1,e3];exact g2 W ((agree_below hb1).trans hW)) (fun W hW=>by rw[e2];exact g3 W ((agree_below hb1).trans hW)) (by rw[e1];exact g4) (by rw[e1,e2];exact g5) hcl.1 hcl.2
     rwa [e1,e2] at this
    have HW:=Hd W;clear h hx hu hdn g2 g3 g5 hre hE hD hwr hc hcl W hL hl hpn;generalize (cntR x).left=cl at *;generalize (cntR x).down=cd at *;go_enter Tryz.func14,Tryz.ntmps14;go_wp2_with fail;refine U.mono ?_;rintro e w9 ⟨rfl,rfl⟩;clear U;go_wp2_with fail;refine C.mono ?_;rintro e w1 ⟨rfl,hb1⟩;have hb2:Below w.heap.size w (w1.alloc (.cells #[.slice pa x.size pc,.slice la x.loose.length lc,.int .i64 cl,.bool cd] 117)):=hb1.alloc hb1.size _;have W2:=HW.out _ hb2;have HB2:=Hd hb2;clear C hb1 hb2;go_wp2_with fail;refine W2.mono ?_;rintro e w3 ⟨a3,n3,c3',rfl,hg3,hb3⟩;have END:=Hd (show RPost K w (d.set i (cntR x)) 3 (.returned (.tuple #[.slice a3 n3 c3',.int .i64 3])) w3 from⟨a3,n3,c3',rfl,hg3.mono (from_up HB2.out),below_then HB2.out hb3⟩);clear W2 hg3 hb3;go_wp2_with fail
    go_ret2
    exact END.out
  ·have hE:writeE d r p l=1:=by rw[writeE,if_pos hu,if_neg hl]
   have hD:writeD d r p l=d:=by rw[writeD,if_neg (fun h=>hl h.2)]
   rw[hE,hD];have q2:((l.length:Int) == 128)=false:=by simp;omega
   have q3:(l.length == 128)=false:=by simp;omega
   have END:=Hd (show RPost K w d 1 (.returned (.tuple #[.slice a len cap,.int .i64 1])) w from⟨a,len,cap,rfl,h.mono (fun _ hk=>.inl hk),Below.refl _ _⟩);clear h hu hE hD hre hl hL;go_enter Tryz.func14,Tryz.ntmps14;exact qcffa51
 ·have hE:writeE d r p l=pagedE d r p:=by rw[writeE,if_neg hu]
  have hD:writeD d r p l=d:=by rw[writeD,if_neg (fun h=>hu h.1)]
  rw[hE,hD];have q0:(pagedE d r p == 0)=false:=by simpa using hu
  generalize pagedE d r p=er at *;have END:=Hd (show RPost K w d er (.returned (.tuple #[.slice a len cap,.int .i64 er])) w from⟨a,len,cap,rfl,h.mono (fun _ hk=>.inl hk),Below.refl _ _⟩);clear hu h hre hE hD hL;go_enter Tryz.func14,Tryz.ntmps14;exact qcffa51
open Go.RowKit
def IsGo (B:Nat) (w:World) (g:List Value) (x:Rg):Prop:=∃pa pc,g=[.slice pa x.size pc,.slice none 0 0,.int .i64 x.left,.bool x.down]∧w.ownsRow B 9 1 (.slice pa x.size pc) x.size ((pagesL x).map strV)∧x.loose=[]∧x.size≤1000 ∧ -1≤x.left∧x.left≤9223372036854775807
theorem IsGo.isG {B:Nat} {w:World} {g:List Value} {x:Rg} (h:IsGo B w g x):IsG w g x:=by
 obtain⟨pa,pc,h1,h2,h3,h4,h5⟩:=h;obtain⟨a,cap,e,ht⟩:=txs_own2 (ks:=pagesL x) (by rw[pagesL_length];exact h2);rw[pagesL_length] at e ht;cases e;refine⟨pa,pc,none,0,by rw[h1,h3];rfl,ht,?_,h4,by rw[h3];simp,h5⟩;rw[h3];exact⟨rfl,Nat.le_refl _,by unfold maxLen;simp,fun _=>rfl,.inl rfl⟩
theorem own_apart_types {w:World} {b1 b2:Nat} {e1 e2:TypeId} {s1 s2:Nat} {v1 v2:Value} {n1 n2:Nat} {xs ys:List Value} (h1:w.ownsRow b1 e1 s1 v1 n1 xs) (h2:w.ownsRow b2 e2 s2 v2 n2 ys) (hne:e1≠e2):∀k,v1.ownBlock=some k→v2.ownBlock≠some k:=by
 intro k hk hk2
 rcases h1.2 with⟨e,_⟩|⟨g,cap,cur,e,_,hg,_⟩
 ·rw[e] at hk;cases hk
 ·rcases h2.2 with⟨e',_⟩|⟨g',cap',cur',e',_,hg',_⟩
  ·rw[e'] at hk2;cases hk2
  ·rw[e] at hk;rw[e'] at hk2
   cases hk;cases hk2;rw[hg] at hg';simp only[Option.some.injEq,Obj.cells.injEq] at hg';exact hne hg'.2.1
theorem own_grown {w w':World} {base:Nat} {e:TypeId} {size:Nat} {v:Value} {n:Nat} {xs:List Value} {row:Option Nat} (h:w.ownsRow base e size v n xs) (hg:w.grownBy w' row) (hne:∀k,v.ownBlock=some k→row≠some k):w'.ownsRow base e size v n xs:=by
 refine⟨h.1,h.2.imp id fun⟨g,cap,cur,e1,hg1,hh,r⟩=>⟨g,cap,cur,e1,hg1,?_,r⟩⟩;subst e1;rw[hg.block g (Array.getElem?_eq_some_iff.1 hh).1 (fun e=>hne g rfl e.symm)];exact hh
def GOwn (B:Nat) (wr:World) (v:Value) (dd:List Rg):Prop:=∃gs:List C4,gs.length=dd.length∧wr.ownsRow B 117 4 v dd.length (gs.flatMap (·.1))∧∀(i:Nat) (g:C4) (x:Rg),gs[i]? = some g→dd[i]? = some x→IsGo B wr g.1 x
theorem GOwn.nil (B:Nat) (w:World):GOwn B w (.slice none 0 0) []:=⟨[],rfl,World.ownsRow_nil _ _ _ _,fun i g x h=>by simp at h⟩
theorem GOwn.below {B:Nat} {w w':World} {v:Value} {dd:List Rg} (h:GOwn B w v dd) (hb:Below w.heap.size w w'):GOwn B w' v dd:=by
 obtain⟨gs,h1,h2,h3⟩:=h;refine⟨gs,h1,own_step h2 hb,fun i g x hg hx=>?_⟩;obtain⟨pa,pc,e1,e2,e3⟩:=h3 i g x hg hx;exact⟨pa,pc,e1,own_step e2 hb,e3⟩
theorem GOwn.gs {B:Nat} {w:World} {v:Value} {dd:List Rg} (h:GOwn B w v dd):∃a cap,v=.slice a dd.length cap∧Gs w a dd.length cap dd:=by
 obtain⟨gs,h1,h2,h3⟩:=h;obtain⟨a,cap,e,ht⟩:=TabR.of_own (fun z:C4=>z.1) (fun z=>z.2.1) (R:=fun cs (z:C4)=>cs=z.1) (fun _=>rfl) (l:=gs) (by rw[h1];exact h2);rw[h1] at e ht;exact⟨a,cap,e,rfl,gs,ht,fun i g x hg hx=>(h3 i g x hg hx).isG⟩
theorem own_agreeK {w W:World} {B:Nat} {e:TypeId} {size:Nat} {v:Value} {n:Nat} {xs:List Value} (h:w.ownsRow B e size v n xs) (hA:Agree (From (fun _=>False) B) w W):W.ownsRow B e size v n xs:=
 ⟨h.1,h.2.imp id fun⟨g,cap,cur,e1,hg1,hh,r⟩=>⟨g,cap,cur,e1,hg1,hA.2 g _ (.inr hg1) hh,r⟩⟩
theorem GOwn.gsK {B:Nat} {w:World} {v:Value} {dd:List Rg} (h:GOwn B w v dd):∃a cap,v=.slice a dd.length cap∧GsK (From (fun _=>False) B) w a dd.length cap dd:=by
 obtain⟨gs,h1,h2,h3⟩:=h;obtain⟨a,cap,e,_⟩:=TabR.of_own (fun z:C4=>z.1) (fun z=>z.2.1) (R:=fun cs (z:C4)=>cs=z.1) (fun _=>rfl) (l:=gs) (by rw[h1];exact h2);rw[h1] at e;refine⟨a,cap,e,rfl,gs,fun W hW=>?_,fun i g x hg hx W hW=>?_⟩
 ·obtain⟨a',cap',e',ht⟩:=TabR.of_own (fun z:C4=>z.1) (fun z=>z.2.1) (R:=fun cs (z:C4)=>cs=z.1) (fun _=>rfl) (l:=gs) (by rw[h1];exact own_agreeK h2 hW)
  rw[h1] at e' ht;rw[e] at e';cases e';exact ht
 ·obtain⟨pa,pc,k1,k2,k3⟩:=h3 i g x hg hx
  exact IsGo.isG (B:=B) ⟨pa,pc,k1,own_agreeK k2 hW,k3⟩
theorem GOwn.push {w:World} {B:Nat} {v:Value} {dd:List Rg} (h:GOwn B w v dd) (hdd:dd.length≤1000) (hB:B≤w.heap.size) (g:C4) (x:Rg) (hg:IsGo B w g.1 x) :
 ∃v' w',(Builtin.append_ #[36,36] 36 #[v,.slice (some ⟨w.heap.size,0,none⟩) 1 1]).run Tryz.prog (w.alloc (.cells g.1.toArray 117))=.ok v' w'∧GOwn B w' v' (dd++[x])∧w.grownBy w' v.ownBlock∧∀k,v.ownBlock=some k→B≤k:=by
 obtain⟨gs,h1,h2,h3⟩:=h;obtain⟨i0,hi0,hz0,hz1,hz2⟩:=info_parts info_G;obtain⟨v',w',hr,ho,hgr,_⟩:=run_append_new (P:=Tryz.prog) (w:=w) B 36 117 i0 _ 4 64 Tryz.underlying36 hi0 hz0 hz1 hz2 rfl (by decide) h2 g.1.toArray (by simp[g.2.1]) (fun u hu=>g.2.2 u (by simpa using hu)) (by unfold maxLen;omega) (by omega) hB;have hge:=own_ge h2;have keep:∀(g:List Value) (x:Rg),IsGo B w g x→IsGo B w' g x:=by
  rintro g x ⟨pa,pc,e1,e2,e3⟩;exact⟨pa,pc,e1,own_grown e2 hgr (own_apart_types e2 h2 (by decide)),e3⟩
 refine⟨v',w',hr,⟨gs++[g],by simp[h1],?_,fun i g' x' hg' hx'=>?_⟩,hgr,hge⟩
 ·rw[List.flatMap_append,List.length_append]
  simpa using ho
 ·by_cases hi:i<gs.length
  ·rw[List.getElem?_append_left hi] at hg'
   rw[List.getElem?_append_left (by omega)] at hx';exact keep _ _ (h3 i g' x' hg' hx')
  ·have hil:i=gs.length:=by
    have:=(List.getElem?_eq_some_iff.1 hg').1;simp at this;omega
   subst hil;rw[List.getElem?_append_right (Nat.le_refl _),Nat.sub_self] at hg';rw[h1,List.getElem?_append_right (Nat.le_refl _),Nat.sub_self] at hx';simp at hg' hx';subst hg' hx';exact keep _ _ hg
open Go.RowKit
def RNewPost (w:World) (l:List Int) (e:Ending) (w':World):Prop:=
 Below w.heap.size w w'∧(if newOk l then ∃a cap,e=.returned (.tuple #[.slice a l.length cap,.int .i64 0])∧GsK (From (fun _=>False) w.heap.size) w' a l.length cap (newD l) else e=.returned (.tuple #[.slice none 0 0,.int .i64 1]))
theorem rnewPost_bad {w w':World} {l:List Int} (h:newOk l=false) (hb:Below w.heap.size w w'):RNewPost w l (.returned (.tuple #[.slice none 0 0,.int .i64 1])) w':=⟨hb,by rw[h];rfl⟩
def zstr:Value:=strV (List.replicate 128 0)
def NewIn (gb:Nat) (w0:World) (k:Nat) (wx:World):Prop:=∃v,wx.heap[gb]? = some (.cells #[v,.slice none 0 0,.int .i64 (-1),.bool false] 117 (0,0))∧wx.ownsRow (gb+1) 9 1 v k (List.replicate k zstr)∧Below gb w0 wx∧gb<wx.heap.size
theorem pagesL_new (n:Nat):(pagesL (Rg.new n)).map strV=List.replicate n zstr:=by
 unfold pagesL Rg.new;rw[List.map_map];apply List.ext_getElem
 ·simp
 ·intro i h1 h2
  simp[zstr,zpage]
theorem info_u8N:(Tryz.prog.info? 5).map (fun i=>(i.zero,i.size,i.bytes))=some (some (.int .u8 0),1,1):=by kernel_rfl
theorem new_page {gb k:Nat} {w0 wx:World} (hk:k≤1000) (h:NewIn gb w0 k wx):∃a c w1 a9 c9 w9,wx.cell? ⟨gb,0,none⟩=some (.slice a k c)∧w1.cell? ⟨gb,0,none⟩=some (.slice a k c)∧(w1.alloc (.cells #[zstr] 9)).cell? ⟨gb,0,none⟩=some (.slice a k c) ∧
 (Instr.makeSlice 42 (.int .i64 128) (.int .i64 128)).run Tryz.prog wx.drew=.ok (.slice (some ⟨wx.heap.size,0,none⟩) 128 128) w1 ∧
 (convert 42 9 (.slice (some ⟨wx.heap.size,0,none⟩) 128 128)).run Tryz.prog w1=.ok zstr w1 ∧
 (Builtin.append_ #[46,46] 46 #[.slice a k c,.slice (some ⟨w1.heap.size,0,none⟩) 1 1]).run Tryz.prog (w1.alloc (.cells #[zstr] 9))=.ok (.slice a9 (k+1) c9) w9 ∧
 w9.cell? ⟨gb,0,none⟩=some (.slice a k c)∧w9.frozen? ⟨gb,0,none⟩=false∧NewIn gb w0 (k+1) (w9.setCell ⟨gb,0,none⟩ (.slice a9 (k+1) c9)):=by
 obtain⟨v,h1,h2,h3,h4⟩:=h;obtain⟨i0,hi,hz0,hz1,hz2⟩:=info_parts info_u8N;obtain⟨k0,hk0,hx0,hx1,hx2⟩:=info_parts info_str2;have hd:wx.drew.heap=wx.heap:=rfl;obtain⟨w1,hm,ho1,hg1⟩:=run_makeSlice_full (P:=Tryz.prog) (w:=wx.drew) wx.heap.size 42 5 i0 _ 1 Tryz.underlying42 hi hz0 hz1 .i64 .i64 128 (by omega) (by rw[hz2];omega) (by unfold maxLen;omega) (Nat.le_refl _);have hb1:Below wx.heap.size wx w1:=((Below.refl wx.heap.size wx).drew).grown hg1 (Nat.le_refl _) (fun j e=>by cases e);have hbs:Bs w1 (some ⟨wx.heap.size,0,none⟩) 128 128 (List.replicate 128 0):=by
  have ho:w1.ownsRow wx.heap.size 5 1 (.slice (some ⟨wx.heap.size,0,none⟩) 128 128) 128 ((toI (List.replicate 128 0)).map (Value.int .u8)):=by
   have hmade:(madeCells (Value.int .u8 0).cells (128*1)).toList=List.replicate 128 (.int .u8 0):=made_list (.int .u8 0) 128;rw[hmade] at ho1;have e:((toI (List.replicate 128 0)).map (Value.int .u8))=List.replicate 128 (.int .u8 0):=by simp[toI]
   rw[e];exact ho1
  obtain⟨a',c',e,hb⟩:=Bs.of_own ho;cases e;exact hb
 have hcv:=conv_string Tryz.underlying42 Tryz.underlying5 Tryz.underlying9 hbs;have h2':=own_step h2 hb1;have hs1:=hb1.size;obtain⟨v9,w9,hr9,ho9,hg9,_⟩:=run_append_new (P:=Tryz.prog) (w:=w1) (gb+1) 46 9 k0 _ 1 16 Tryz.underlying46 hk0 hx0 hx1 hx2 rfl (by decide) h2' #[zstr] rfl (by intro u hu;simp at hu;subst hu;rfl) (by unfold maxLen;omega) (by omega) (by omega);obtain⟨a,c,rfl,_⟩:=own_slice h2;obtain⟨a9,c9,rfl,_⟩:=own_slice ho9;have hge:=own_ge h2';have e1:w1.heap[gb]? = some (.cells #[.slice a k c,.slice none 0 0,.int .i64 (-1),.bool false] 117 (0,0)):=(hb1.block gb h4).trans h1;have e9:w9.heap[gb]? = some (.cells #[.slice a k c,.slice none 0 0,.int .i64 (-1),.bool false] 117 (0,0)):=(hg9.block gb (by omega) (fun e=>by have:=hge gb e.symm;omega)).trans e1;have c1:w1.cell? ⟨gb,0,none⟩=some (.slice a k c):=by simp[World.cell?,e1]
 have hb9:Below gb wx w9:=(hb1.mono (Nat.le_of_lt h4)).grown hg9 (by omega) (fun j e=>by have:=hge j e;omega);refine⟨a,c,w1,a9,c9,w9,by simp[World.cell?,h1],c1,(World.cell?_alloc_some w1 ⟨gb,0,none⟩ _ (by rw[c1];rfl)).trans c1,hm,hcv,hr9,by simp[World.cell?,e9],by simp[World.frozen?,e9],.slice a9 (k+1) c9,?_,?_,(h3.trans hb9).setCell (Nat.le_refl _) _,?_⟩
 ·rw[heap_setCell_at 0 _ e9];rfl
 ·have h5:=own_set ho9 ⟨gb,0,none⟩ (.slice a9 (k+1) c9) (fun e=>by have:=own_ge ho9 _ e;simp at this;omega)
  rw[List.replicate_succ'];exact h5
 ·have:=hg9.size
  simp[World.setCell];omega
theorem rnew_any {w:World} {a:Option Addr} {len cap:Nat} {l:List Int} (h:Row .i64 w a len cap l) (hlen:len≤1000) :
 Calls Tryz.prog 12 #[.slice a len cap] w (RNewPost w l):=by
 have hl:=h.1;have HROW:=Hd h;have HL:=Hd hl;obtain⟨_,_,_,_,hcells⟩:=h;have HC:=Hd hcells;clear hl hcells;go_enter Tryz.func12,Tryz.ntmps12;go_wp2_with fail
 go_loopw [4,5] (fun s4 s wr=>∃(i:Nat),i≤len∧s=.int .i64 i∧GOwn w.heap.size wr s4 (newD (l.take i))∧Below w.heap.size w wr∧(l.take i).all (fun n=>decide (1≤n) && decide (n≤1000))=true) (fun _ s _=>len-(intOf s).toNat)
 case atStart=>exact⟨0,Nat.zero_le _,rfl,GOwn.nil _ _,Below.refl _ _,rfl⟩
 case round=>
  obtain⟨i,hi,rfl,hown,hb,hall⟩:=hrel;obtain⟨wB,rfl⟩:∃wB,wB=wr:=⟨_,rfl⟩
  by_cases hlt:i<len
  ·obtain⟨b,off,rfl,hbl,hc⟩:=HC.out.resolve_left (by omega)
   have hkl:i<l.length:=by have:=HL.out;omega
   obtain⟨n,hn⟩:∃n,l[i]? = some n:=⟨_,List.getElem?_eq_getElem hkl⟩
   have hts:l.take (i+1)=l.take i++[n]:=by rw[List.take_succ_eq_append_getElem hkl,(List.getElem?_eq_some_iff.1 hn).2]
   have c1:wB.cell? ⟨b,off+i,none⟩=some (.int .i64 n):=by
    rw[hb.cell (p:=⟨b,off+i,none⟩) hbl,hc i hlt,hn];rfl
   have cN:∀W,Below w.heap.size w W→W.cell? ⟨b,off+i,none⟩=some (.int .i64 n):=fun W hW=>by
    rw[hW.cell (p:=⟨b,off+i,none⟩) hbl,hc i hlt,hn];rfl
   by_cases hgood:1≤n∧n≤1000
   ·obtain⟨m,rfl⟩:=Int.eq_ofNat_of_zero_le (show 0≤n by omega)
    have e0:decide ((m:Int)<1)=false:=by simp;omega
    have e1:decide ((1000:Int)<m)=false:=by simp;omega
    have e2:decide (m<1)=false:=by simp;omega
    have e3:decide (1000<m)=false:=by simp;omega
    have hm1:m≤1000:=by omega
    have HALL:Hid ((l.take (i+1)).all (fun n=>decide (1≤n) && decide (n≤1000))=true):=Hd (by rw[hts,List.all_append,hall];simp;omega);have HND:Hid (newD (l.take (i+1))=newD (l.take i)++[Rg.new m]):=Hd (by rw[hts];simp[newD]);have HNL:Hid ((newD (l.take i)).length≤1000):=Hd (by have:=HL.out;simp[newD];omega);have hs0:=hb.size;have hbA:Below w.heap.size w (wB.alloc (.cells #[.slice none 0 0,.slice none 0 0,.int .i64 (-1),.bool false] 117)):=hb.alloc hs0 _;have hin:NewIn wB.heap.size wB 0 (wB.alloc (.cells #[.slice none 0 0,.slice none 0 0,.int .i64 (-1),.bool false] 117)):=⟨_,World.alloc_heap_new wB _,World.ownsRow_nil _ _ _ _,(Below.refl _ _).alloc (Nat.le_refl _) _,by simp⟩
    have HIN:=Hd hin;have HB:=Hd hb;have HO:=Hd hown;clear hin hbA hall hts hn hgood hkl hc hown hb;go_wp2_with fail
    go_loopw [7] (fun s7 wx=>∃(k:Nat),k≤m∧s7=.int .i64 k∧NewIn wB.heap.size wB k wx) (fun s _=>m-(intOf s).toNat)
    case atStart=>exact⟨0,Nat.zero_le _,rfl,HIN.out⟩
    case round=>
     clear HIN;obtain⟨k,hk,rfl,hin⟩:=hrel;have hbB:Below wB.heap.size wB wr:=by obtain⟨_,_,_,h3,_⟩:=hin;exact h3
     have hbx:Below w.heap.size w wr:=below_then HB.out hbB
     by_cases hltk:k<m
     ·have d4:decide ((k:Int)<m)=true:=by simp;omega
      obtain⟨a4,c4,w1,a9,c9,w9,f0,f1,f2,hmk,hcv,hr9,f3,f4,hin2⟩:=new_page (by omega) hin;have cx:=cN _ hbx;have f0d:wr.drew.cell? ⟨wB.heap.size,0,none⟩=some (.slice a4 k c4):=f0;have ld0:(Instr.loadAt 46 (.pointer (some ⟨wB.heap.size,0,none⟩))).run Tryz.prog wr.drew=.ok (.slice a4 k c4) wr.drew:=by go_simp
      have ld1:(Instr.loadAt 46 (.pointer (some ⟨wB.heap.size,0,none⟩))).run Tryz.prog w1=.ok (.slice a4 k c4) w1:=by go_simp
      have ld2:(Instr.loadAt 46 (.pointer (some ⟨wB.heap.size,0,none⟩))).run Tryz.prog (w1.alloc (.cells #[zstr] 9))=.ok (.slice a4 k c4) (w1.alloc (.cells #[zstr] 9)):=by go_simp
      have bs1:(Instr.buildSlice 46 1 #[(0,zstr)]).run Tryz.prog w1=.ok (.slice (some ⟨w1.heap.size,0,none⟩) 1 1) (w1.alloc (.cells #[zstr] 9)):=by unfold zstr strV;go_simp
      have st1:(Instr.storeAt 46 (.pointer (some ⟨wB.heap.size,0,none⟩)) (.slice a9 (k+1) c9)).run Tryz.prog w9=.ok () (w9.setCell ⟨wB.heap.size,0,none⟩ (.slice a9 (k+1) c9)):=by go_simp
      have HIN2:=Hd hin2;clear hin hin2 hbx hbB;go_wp2_with fail;refine wp_region_noPanic ?_;refine wp_region_held_drew (S:=(fun _=>True)) (by kernel_rfl) (by trivial) (fun hHeld=>?_);refine tks [0] ?_;refine rdy2 1 2 (fun K hK=>?_) (fun K hK=>?_)
      ·refine step_load_run rfl _ _ rfl rfl (by first|exact ld0|exact ld1|exact ld2) ?_
       refine bkw hK (by trivial) (fun hHeld=>?_);clear hK K;refine rdy 2 (fun K hK=>?_);refine step_make_run rfl _ _ _ rfl rfl rfl hmk ?_;exact q5ccb74
      ·refine step_make_run rfl _ _ _ rfl rfl rfl hmk ?_
       refine bkw hK (by trivial) (fun hHeld=>?_);clear hK K;refine rdy2 1 3 (fun K hK=>?_) (fun K hK=>?_)
       ·refine step_load_run rfl _ _ rfl rfl (by first|exact ld0|exact ld1|exact ld2) ?_
        exact q5ccb74
       ·refine step_convert_run rfl _ _ _ rfl rfl hcv ?_
        refine bkw hK (by trivial) (fun hHeld=>?_);clear hK K;refine rdy2 1 4 (fun K hK=>?_) (fun K hK=>?_)
        ·refine step_load_run rfl _ _ rfl rfl (by first|exact ld0|exact ld1|exact ld2) ?_
         refine bkw hK (by trivial) (fun hHeld=>?_);clear hK K;refine rdy 4 (fun K hK=>?_);refine step_buildSlice_one rfl _ _ rfl rfl bs1 ?_;exact q299ef4
        ·refine step_buildSlice_one rfl _ _ rfl rfl bs1 ?_
         refine bkw hK (by trivial) (fun hHeld=>?_);clear hK K;refine rdy 1 (fun K hK=>?_);refine step_load_run rfl _ _ rfl rfl (by first|exact ld0|exact ld1|exact ld2) ?_;exact q299ef4
     ·obtain rfl:k=m:=by omega
      have d4:decide ((k:Int)<k)=false:=by simp
      obtain⟨v,h1,h2,h3,h4⟩:=hin;obtain⟨a4,c4,rfl,_⟩:=own_slice h2;have cx:=cN _ hbx;have k0:wr.cell? ⟨wB.heap.size,0,none⟩=some (.slice a4 k c4):=by simp[World.cell?,h1]
      have k1:wr.cell? ⟨wB.heap.size,1,none⟩=some (.slice none 0 0):=by simp[World.cell?,h1]
      have k2:wr.cell? ⟨wB.heap.size,2,none⟩=some (.int .i64 (-1)):=by simp[World.cell?,h1]
      have k3:wr.cell? ⟨wB.heap.size,3,none⟩=some (.bool false):=by simp[World.cell?,h1]
      have hgo:IsGo w.heap.size wr [.slice a4 k c4,.slice none 0 0,.int .i64 (-1),.bool false] (Rg.new k):=by
       refine⟨a4,c4,rfl,?_,rfl,hm1,by show(-1:Int) ≤ -1;omega,by show(-1:Int)≤_;omega⟩;rw[pagesL_new];exact⟨h2.1,h2.2.imp id fun⟨g,cap,cur,e,hg,r⟩=>⟨g,cap,cur,e,by omega,r⟩⟩
      have hG:=HO.out.below hbB;obtain⟨v9,w9,hr9,hG9,hg9,hge9⟩:=hG.push HNL.out hbx.size (⟨[.slice a4 k c4,.slice none 0 0,.int .i64 (-1),.bool false],rfl,by
       intro u hu;simp only[List.mem_cons,List.not_mem_nil,or_false] at hu
       rcases hu with rfl|rfl|rfl|rfl<;>rfl⟩:C4) (Rg.new k) hgo
      rw[←HND.out] at hG9;obtain⟨a8,c8,e8,_⟩:=hG.gs;have hr9:(Builtin.append_ #[36,36] 36 #[u4,.slice (some ⟨wr.heap.size,0,none⟩) 1 1]).run Tryz.prog (wr.alloc (.cells #[.slice a4 k c4,.slice none 0 0,.int .i64 (-1),.bool false] 117))=.ok v9 w9:=hr9;have HG9:=Hd hG9;have HB9:=Hd (hbx.grown hg9 hbx.size hge9);clear h1 h2 h3 h4 hgo hG hg9 hge9 hG9 hbx hbB e8
      go_wp2_with (at_builtin;refine wpList_append_run rfl _ _ _ _ rfl rfl rfl hr9 ?_)
      go_roundw
      case rel=>exact⟨i+1,hlt,by go_num,HG9.out,HB9.out,HALL.out⟩
      case measure=>simp[intOf];omega
   ·have hbad:newOk l=false:=by
     exact qbf2ac7
    have HBD:=Hd (rnewPost_bad hbad hb)
    by_cases g1:n<1
    ·have e0:decide (n<1)=true:=by simpa using g1
     clear hown hb hall hts hn hgood hkl hc hbad;go_wp2_with fail
     go_ret2
     exact HBD.out
    ·have e0:decide (n<1)=false:=by simpa using g1
     have e1:decide (1000<n)=true:=by simp;omega
     clear hown hb hall hts hn hgood hkl hc hbad;go_wp2_with fail
     go_ret2
     exact HBD.out
  ·obtain rfl:i=len:=by omega
   have htl:l.take i=l:=List.take_of_length_le (by rw[HL.out];exact Nat.le_refl _);rw[htl] at hown hall
   by_cases h1:i<1
   ·have d0:decide (i<1)=true:=by simpa using h1
    have d0':decide ((i:Int)<1)=true:=by simp;omega
    have HBD:=Hd (rnewPost_bad (w:=w) (w':=wB) (l:=l) (by unfold newOk;have:=HL.out;rw[show decide (1≤l.length)=false from decide_eq_false (by omega)];rfl) hb);clear hown hb hall htl;go_wp2_with fail
    go_ret2
    exact HBD.out
   ·have d0:decide (i<1)=false:=by simpa using h1
    have d0':decide ((i:Int)<1)=false:=by simp;omega
    by_cases h64:64<i
    ·have d1:decide (64<i)=true:=by simpa using h64
     have d1':decide ((64:Int)<i)=true:=by simp;omega
     have HBD:=Hd (rnewPost_bad (w:=w) (w':=wB) (l:=l) (by unfold newOk;have:=HL.out;rw[show decide (l.length≤64)=false from decide_eq_false (by omega)];simp) hb);clear hown hb hall htl;go_wp2_with fail
     go_ret2
     exact HBD.out
    ·have d1:decide (64<i)=false:=by simpa using h64
     have d1':decide ((64:Int)<i)=false:=by simp;omega
     obtain⟨ax,cx,ex,hgs⟩:=hown.gsK;have hnl:(newD l).length=i:=by rw[←HL.out];simp[newD]
     rw[hnl] at ex hgs;subst ex;have END:RNewPost w l (.returned (.tuple #[.slice ax i cx,.int .i64 0])) wB:=by
      refine⟨hb,?_⟩;rw[if_pos (by unfold newOk;have:=HL.out;rw[hall];simp;omega)];exact⟨ax,cx,by rw[HL.out],by rw[HL.out];exact hgs⟩
     have END:=Hd END;clear hown hb hall htl hgs hnl;go_wp2_with fail
     go_ret2
     exact END.out
open Go.RowKit
theorem GsK.lt {K:Nat→Prop} {w:World} {a:Option Addr} {len cap:Nat} {d:List Rg} (h:GsK K w a len cap d):GsK (fun k=>K k∧k<w.heap.size) w a len cap d:=by
 have up:∀W,Agree (fun k=>K k∧k<w.heap.size) w W→Agree K w W:=fun W hW=>⟨hW.1,fun k o hk ho=>hW.2 k o ⟨hk,(Array.getElem?_eq_some_iff.1 ho).1⟩ ho⟩
 obtain⟨h1,gs,h2,h3⟩:=h;exact⟨h1,gs,fun W hW=>h2 W (up W hW),fun i g x hg hx W hW=>h3 i g x hg hx W (up W hW)⟩
def Both (B:Nat) (w:World) (da M:Nat) (d:List Rg) (a:Option Addr) (n cap:Nat) (e:List Rg):Prop:=
 ∃F bs,DskIn w F da M bs d∧(∀k∈F,B≤k)∧B≤w.heap.size∧GsK (fun k=>k∉F) w a n cap e
theorem Both.one {B:Nat} {w:World} {da M:Nat} {d e:List Rg} {a:Option Addr} {n cap:Nat} (h:Both B w da M d a n cap e):One B w da M d:=by
 obtain⟨F,bs,h1,h2,h3,h4⟩:=h;exact⟨F,bs,h1,h2,h3⟩
theorem Both.gs {B:Nat} {w:World} {da M:Nat} {d e:List Rg} {a:Option Addr} {n cap:Nat} (h:Both B w da M d a n cap e):Gs w a n cap e:=by
 obtain⟨F,bs,h1,h2,h3,h4⟩:=h;exact h4.gs
theorem Both.below {B:Nat} {w w':World} {da M:Nat} {d e:List Rg} {a:Option Addr} {n cap:Nat} (h:Both B w da M d a n cap e) (hb:Below w.heap.size w w'):Both B w' da M d a n cap e:=by
 obtain⟨F,bs,h1,h2,h3,h4⟩:=h;exact⟨F,bs,h1.below hb,h2,by have:=hb.size;omega,h4.below hb⟩
theorem Both.mk {B N:Nat} {w w':World} {da M:Nat} {d e:List Rg} {a:Option Addr} {n cap:Nat} (h:One B w da M d) (hb:Below w.heap.size w w') (hN:w.heap.size≤N) (hg:GsK (From (fun _=>False) N) w' a n cap e):Both B w' da M d a n cap e:=by
 obtain⟨F,bs,h1,h2,h3⟩:=h;refine⟨F,bs,h1.below hb,h2,by have:=hb.size;omega,hg.mono fun k hk hF=>?_⟩
 rcases hk with hk|hk
 ·exact hk
 ·have:=h1.lt k hF;omega
theorem Both.opens {B:Nat} {w:World} {da M:Nat} {d e:List Rg} {a:Option Addr} {n cap:Nat} (h:Both B w da M d a n cap e):Opens B w.heap.size w da M d (fun w' M' d'=>Both B w' da M' d' a n cap e∧Below B w w'):=by
 obtain⟨F,bs,h1,h2,h3,h4⟩:=h;refine⟨F,bs,h1,fun k hk=>⟨h2 k hk,h1.lt k hk⟩,Nat.le_refl _,h3,fun w' F' bs' d' M' _ ho hd hF=>⟨⟨F',bs',hd,fun k hk=>(hF k hk).elim (h2 k) (fun h=>by omega),by have:=ho.size;omega,?_⟩,ho.below h3 h2⟩⟩;have hA:Agree (fun k=>k∉F∧k<w.heap.size) w w':=⟨ho.size,fun k o hk h5=>by rw[ho.block hk.2 hk.1];exact h5⟩
 refine(h4.lt.agree hA).mono fun k hk hk2=>?_
 rcases hF k hk2 with h5|h5
 ·exact hk.1 h5
 ·have:=hk.2;omega
theorem both_write {B:Nat} {w:World} {da M:Nat} {d e:List Rg} {a:Option Addr} {n cap:Nat} (h:Both B w da M d a n cap e) (hlen:n≤1000) (hL:∀x∈e,x.loose.length≤100000) (r p:Int) (l:List UInt8) :
 Calls Tryz.prog 14 #[.slice a n cap,.int .i64 r,.int .i64 p,.string (strOf l)] w fun e1 w'=>∃a2 n2 cap2,e1=.returned (.tuple #[.slice a2 n2 cap2,.int .i64 (writeE e r p l)])∧Both B w' da M d a2 n2 cap2 (writeD e r p l)∧Below w.heap.size w w':=by
 obtain⟨F,bs,h1,h2,h3,h4⟩:=h;refine(rwrite_any h4 hlen hL r p l).mono ?_;rintro e1 w' ⟨a2,n2,cap2,rfl,hg,hb⟩;refine⟨a2,n2,cap2,rfl,⟨F,bs,h1.below hb,h2,by have:=hb.size;omega,hg.mono fun k hk hF=>?_⟩,hb⟩
 rcases hk with hk|hk
 ·exact hk hF
 ·have:=h1.lt k hF;omega
theorem atR_len {d:List Rg} {M:Nat} (h:∀x∈d,x.loose.length≤M) {r p:Int} (hu:pagedE d r p=0):(atR d r).loose.length≤M:=by
 obtain⟨i,pn,x,rfl,rfl,hx,_⟩:=pagedE_zero hu;rw[atR_of hx];exact h x (List.mem_of_getElem? hx)
theorem write_loose {d:List Rg} {M:Nat} (h:∀x∈d,x.loose.length≤M) (r p:Int) (b:List UInt8):∀x∈writeD d r p b,x.loose.length≤M+1:=by
 intro x hx;unfold writeD at hx
 split at hx
 ·rename_i hu
  rcases List.mem_or_eq_of_mem_set hx with hx|rfl
  ·have:=h x hx;omega
  ·have:=atR_len h hu.1
   unfold wroteR
   split
   ·simp;omega
   ·rw[cntR_loose];omega
 ·have:=h x hx;omega
theorem write_length (d:List Rg) (r p:Int) (b:List UInt8):(writeD d r p b).length=d.length:=by
 unfold writeD;split<;>simp
theorem new_loose (l:List Int):∀x∈newD l,x.loose.length≤0:=by
 intro x hx;simp only[newD,List.mem_map] at hx;obtain⟨n,_,rfl⟩:=hx;exact Nat.le_refl _
open Go.RowKit
def RLoadTo (w:World) (R:Except Int Tr) (e:Ending) (w':World):Prop:=
 Below w.heap.size w w'∧match R with
  | .ok t=>∃cs,e=.returned (.tuple #[.agg cs.toArray,.int .i64 0])∧RNodeOn (fun b=>w.heap.size≤b) 1000 w' cs t
  | .error x=>e=.returned (.tuple #[.agg #[.int .i64 0,.bool false,.slice none 0 0],.int .i64 x])
theorem RNodeOn.open_pos {F:Nat→Prop} {n:Nat} {w:World} {cs:List Value} {t:Tr} (h:RNodeOn F n w cs t):∃a m c,cs=[.int .i64 t.page,.bool t.isLeaf,.slice a m c]:=by
 cases n with
 | zero=>exact h.elim
 | succ n=>obtain⟨a,c,e,_⟩:=h.at;exact⟨a,_,c,e⟩
theorem rLoad_zero (w:World) (a:Option Addr) (len cap:Nat) (d:List Rg) (r:Int) :
 Calls Tryz.prog 16 #[.slice a len cap,.int .i64 r,.int .i64 0] w (RLoadTo w (loadD d r 0)):=by
 have hR:loadD d r 0=.ok (.leaf 0 []):=by unfold loadD;rw[if_pos rfl]
 rw[hR];obtain⟨w1,hw1⟩:∃w1,w.alloc (.cells #[.int .i64 0,.bool false,.slice none 0 0] 27)=w1:=⟨_,rfl⟩
 have hx1:Boxes w1 [(w.heap.size,[.int .i64 0,.bool false,.slice none 0 0])]:=by
  rw[←hw1];exact(Boxes.nil w).alloc #[.int .i64 0,.bool false,.slice none 0 0] 27 (b:=w.heap.size) rfl
 have hb1:Below w.heap.size w w1:=by rw[←hw1];exact Below.al (Below.refl _ _)
 have E:=rempty_any w1 (fun _=>False);have hz:=zero_refN;have HX1:=Hd hx1;have HB1:=Hd hb1;clear hx1 hb1 hR;go_enter Tryz.func16,Tryz.ntmps16;go_wp2_with fail;refine E.mono ?_;rintro e w2 ⟨cs,rfl,hon,hb2⟩;obtain⟨xa,xn,xc,eu⟩:=RNodeOn.open_pos hon;subst eu;have hx2:=HX1.out.step hb2;have f0:=hx2.frozen 0 0 rfl;have f1:=hx2.frozen 0 1 rfl;have f2:=hx2.frozen 0 2 rfl;have c0:=hx2.cell 0 0 rfl rfl;have c1:=hx2.cell 0 1 rfl rfl;have c2:=hx2.cell 0 2 rfl rfl;obtain⟨we,hwe⟩:∃x,x=st3 w2 w.heap.size (.int .i64 0) (.bool true) (.slice xa xn xc):=⟨_,rfl⟩
 have hx3:=st3_box hx2 (.int .i64 0) (.bool true) (.slice xa xn xc);rw[←hwe] at hx3;have z0:=hx3.cell 0 0 rfl rfl;have z1:=hx3.cell 0 1 rfl rfl;have z2:=hx3.cell 0 2 rfl rfl;have hsz:=HX1.out.lt 0 rfl;have hoe:Only [w.heap.size] w2 we:=by rw[hwe];exact st3_only _ _ _ _ _
 have HE:Hid (RLoadTo w (.ok (.leaf 0 [])) (.returned (.tuple #[.agg #[.int .i64 0,.bool true,.slice xa xn xc],.int .i64 0])) we):=Hd (by
  have hb12:=HB1.out.trans (hb2.mono HB1.out.size);refine⟨hb12.trans (hoe.below hb12.size (by simp)),[.int .i64 0,.bool true,.slice xa xn xc],rfl,?_⟩;refine RNodeOn.mono (fun b hb=>?_) ((hon.agree ⟨hoe.size,fun b hb hlt=>hoe.block hlt (fun hm=>?_)⟩).more (m:=1000) (by omega))
  ·rcases hb with hb|hb
   ·exact hb.elim
   ·have hsz:w.heap.size<w1.heap.size:=hsz
    omega
  ·have hm:b=w.heap.size:=by simpa using hm
   rcases hb with hb|hb
   ·exact hb.elim
   ·have hsz:w.heap.size<w1.heap.size:=hsz
    omega)
 clear hx2 hx3 hb2 hon hoe;go_wp2_with fail;change bodyPost Tryz.prog _ _ _ _ (st3 w2 w.heap.size (.int .i64 0) (.bool true) (.slice xa xn xc));rw[←hwe];refine bodyPost_ret (v:=.tuple #[.agg #[.int .i64 0,.bool true,.slice xa xn xc],.int .i64 0]) (by simp[results,Tryz.results16,go_sem,z0,z1,z2]) rfl ?_;exact HE.out
theorem rLoad_root {w:World} {a:Option Addr} {len cap:Nat} {d:List Rg} (h:∃K,GsK K w a len cap d) (hd:DOk d) (hlen:len≤1000) (r root:Int) (h0:root≠0) :
 Calls Tryz.prog 16 #[.slice a len cap,.int .i64 r,.int .i64 root] w (RLoadTo w (loadD d r root)):=by
 obtain⟨R,hR⟩:∃R,loadD d r root=R:=⟨_,rfl⟩
 have hR0:=hR;unfold loadD at hR0;rw[if_neg h0] at hR0;rw[hR];obtain⟨w3,hw3⟩:∃w3,(w.alloc (.cells #[.int .i64 0,.bool false,.slice none 0 0] 27)).alloc (.cells #[.slice a len cap,.int .i64 r,.slice none 0 0,.int .i64 0] 139)=w3:=⟨_,rfl⟩
 have hx3:Boxes w3 [(w.heap.size+1,[.slice a len cap,.int .i64 r,.slice none 0 0,.int .i64 0]),(w.heap.size,[.int .i64 0,.bool false,.slice none 0 0])]:=by
  rw[←hw3];exact((Boxes.nil w).alloc #[.int .i64 0,.bool false,.slice none 0 0] 27 (b:=w.heap.size) rfl).alloc #[.slice a len cap,.int .i64 r,.slice none 0 0,.int .i64 0] 139 (b:=w.heap.size+1) (by simp)
 have hb3:Below w.heap.size w w3:=by rw[←hw3];exact Below.al (Below.al (Below.refl _ _))
 have hs3:w3.heap.size=w.heap.size+2:=by rw[←hw3];simp
 have hld:RLd w3 (w.heap.size+1) a len cap d r (.slice none 0 0) [] 0:=by
  obtain⟨K,hK⟩:=h;exact⟨hx3.sub (by intro q hq;simp at hq ⊢;exact .inl hq),own_nil w3 _ 1 _,⟨_,hK.lt.below hb3,fun k hk=>by have:=hk.2;omega⟩,hlen⟩
 have P:=rload_any 1000 hd hld SeenOk.nil (by rw[roomL_nil];omega) h0;have hz:=zero_refN;have HX3:=Hd hx3;have HB3:=Hd hb3;have HR0:=Hd hR0;have HS3:=Hd hs3;have q0:(root == 0)=false:=by simpa using h0
 clear hx3 hb3 hR hR0 hs3 hld h;go_enter Tryz.func16,Tryz.ntmps16;go_wp2_with fail;refine P.mono ?_;rintro e w4 ⟨tp,tl,xa,xn,xc,v',seen',E',rfl,hld,ho,ht,hres⟩;have hs4:=ho.size;have hx4:=(HX3.out.sub (m:=[(w.heap.size,[.int .i64 0,.bool false,.slice none 0 0])]) (by intro q hq;simp at hq ⊢;exact .inr hq)).only ho (by intro q hq hm;simp at hq;subst hq;rcases RS.mem.1 hm with e|e<;>simp[Value.ownBlock] at e);have hb4:Below w.heap.size w w4:=HB3.out.trans (ho.below HB3.out.size (fun k hk=>by rcases RS.mem.1 hk with e|e;omega;simp[Value.ownBlock] at e));obtain⟨w5,hw5⟩:∃x,w4.alloc (.cells #[.int .i64 tp,.bool tl,.slice xa xn xc] 27)=x:=⟨_,rfl⟩
 have hb45:Below w4.heap.size w4 w5:=by rw[←hw5];exact Below.al (Below.refl _ _)
 have hxo:Boxes w5 [(w4.heap.size,[.int .i64 tp,.bool tl,.slice xa xn xc])]:=by rw[←hw5];exact(Boxes.nil w4).alloc #[.int .i64 tp,.bool tl,.slice xa xn xc] 27 rfl
 have hx5:=hx4.step hb45;have hld5:=hld.below hb45;have e5:=hld5.box.cell 0 3 rfl rfl;have c0:=hx5.cell 0 0 rfl rfl;have c1:=hx5.cell 0 1 rfl rfl;have c2:=hx5.cell 0 2 rfl rfl;have f0:=hx5.frozen 0 0 rfl;have f1:=hx5.frozen 0 1 rfl;have f2:=hx5.frozen 0 2 rfl;have d0:=hxo.cell 0 0 rfl rfl;have d1:=hxo.cell 0 1 rfl rfl;have d2:=hxo.cell 0 2 rfl rfl;have hb5:Below w.heap.size w w5:=hb4.trans (hb45.mono (by have:=HS3.out;omega));cases hT:loadT d r 1000 [] root with
 | error x=>
  rw[hT] at hres;obtain⟨rfl,hx⟩:=hres;have qx:(E' != 0)=true:=by simpa using hx
  have qx2:(E' == 0)=false:=by simpa using hx
  obtain⟨we,hwe⟩:∃x,x=st3 w5 w.heap.size (.int .i64 0) (.bool false) (.slice none 0 0):=⟨_,rfl⟩
  have hxe:=st3_box hx5 (.int .i64 0) (.bool false) (.slice none 0 0);rw[←hwe] at hxe;have z0:=hxe.cell 0 0 rfl rfl;have z1:=hxe.cell 0 1 rfl rfl;have z2:=hxe.cell 0 2 rfl rfl;have hoe:Only [w.heap.size] w5 we:=by rw[hwe];exact st3_only _ _ _ _ _
  have hbe:Below w.heap.size w we.drew:=Below.dr (hb5.trans (hoe.below hb5.size (by simp)));have HE:Hid (RLoadTo w R (.returned (.tuple #[.agg #[.int .i64 0,.bool false,.slice none 0 0],.int .i64 E'])) we.drew):=Hd (by
   rw[←HR0.out,hT];exact⟨hbe,rfl⟩)
  clear hxe hoe hbe hx5 hxo hx4 hb5 hb45 hb4 hld5 hld ho ht;go_wp2_with fail
  go_region
  all_goals (
   go_wp2_with fail;change bodyPost Tryz.prog _ _ _ _ (st3 w5 w.heap.size (.int .i64 0) (.bool false) (.slice none 0 0)).drew;rw[←hwe];refine bodyPost_ret (v:=.tuple #[.agg #[.int .i64 0,.bool false,.slice none 0 0],.int .i64 E']) (by simp[results,Tryz.results16,go_sem,z0,z1,z2]) rfl ?_;exact HE.out)
 | ok y=>
  obtain⟨s,t⟩:=y;rw[hT] at hres;obtain⟨rfl,rfl,hon⟩:=hres;have hon5:=hon.agree (AgreeF.of_below hb45);have C:=rcheck_any hon5 (loadT_small hT) (by omega);have HON5:=Hd hon5;have HX5:=Hd hx5;have HXO:=Hd hxo;have HB5:=Hd hb5;have HT:=Hd hT;clear hx5 hxo hx4 hb5 hb45 hb4 hld5 hld ho ht hon hon5 hT;go_wp2_with fail;refine C.mono ?_;rintro e w6 ⟨rfl,hb6⟩;have hx6:=HX5.out.step hb6;have hxo6:=HXO.out.step hb6;have hb6w:Below w.heap.size w w6:=HB5.out.trans (hb6.mono HB5.out.size);have hon6:=HON5.out.agree (AgreeF.of_below hb6);have HR1:=HR0.out;rw[HT.out] at HR1;have g0:=hxo6.cell 0 0 rfl rfl;have g1:=hxo6.cell 0 1 rfl rfl;have g2:=hxo6.cell 0 2 rfl rfl;have s0:=hx6.cell 0 0 rfl rfl;have s1:=hx6.cell 0 1 rfl rfl;have s2:=hx6.cell 0 2 rfl rfl;have v0:=hx6.frozen 0 0 rfl;have v1:=hx6.frozen 0 1 rfl;have v2:=hx6.frozen 0 2 rfl;have hs3:=HS3.out;clear c0 c1 c2 f0 f1 f2 d0 d1 d2 e5;cases hc:checkT 1000 t with
  | true=>
   have hRt:R=.ok t:=by rw[←HR1];simp[hc]
   obtain⟨we,hwe⟩:∃x,x=st3 w6 w.heap.size (.int .i64 tp) (.bool tl) (.slice xa xn xc):=⟨_,rfl⟩
   have hxe:=st3_box hx6 (.int .i64 tp) (.bool tl) (.slice xa xn xc);rw[←hwe] at hxe;have z0:=hxe.cell 0 0 rfl rfl;have z1:=hxe.cell 0 1 rfl rfl;have z2:=hxe.cell 0 2 rfl rfl;have hoe:Only [w.heap.size] w6 we:=by rw[hwe];exact st3_only _ _ _ _ _
   have hbe:Below w.heap.size w we:=(hb6w.trans (hoe.below hb6w.size (by simp)))
   have HE:Hid (RLoadTo w R (.returned (.tuple #[.agg #[.int .i64 tp,.bool tl,.slice xa xn xc],.int .i64 0])) we):=Hd (by
    rw[hRt];refine⟨hbe,[.int .i64 tp,.bool tl,.slice xa xn xc],rfl,?_⟩;exact RNodeOn.mono (fun b hb=>by have:=hb.1;omega) (hon6.agree ⟨hoe.size,fun b hb hlt=>hoe.block hlt (by have:=hb.1;simp;omega)⟩))
   clear hxe hoe hbe hx6 hxo6 hb6w hb6 HR1 hRt hon6;go_wp2_with fail;change bodyPost Tryz.prog _ _ _ _ (st3 w6 w.heap.size (.int .i64 tp) (.bool tl) (.slice xa xn xc));rw[←hwe];refine bodyPost_ret (v:=.tuple #[.agg #[.int .i64 tp,.bool tl,.slice xa xn xc],.int .i64 0]) (by simp[results,Tryz.results16,go_sem,z0,z1,z2]) rfl ?_;exact HE.out
  | false=>
   have hRt:R=.error 11:=by rw[←HR1];simp[hc]
   obtain⟨we,hwe⟩:∃x,x=st3 w6 w.heap.size (.int .i64 0) (.bool false) (.slice none 0 0):=⟨_,rfl⟩
   have hxe:=st3_box hx6 (.int .i64 0) (.bool false) (.slice none 0 0);rw[←hwe] at hxe;have z0:=hxe.cell 0 0 rfl rfl;have z1:=hxe.cell 0 1 rfl rfl;have z2:=hxe.cell 0 2 rfl rfl;have hoe:Only [w.heap.size] w6 we:=by rw[hwe];exact st3_only _ _ _ _ _
   have hbe:Below w.heap.size w we:=(hb6w.trans (hoe.below hb6w.size (by simp)))
   have HE:Hid (RLoadTo w R (.returned (.tuple #[.agg #[.int .i64 0,.bool false,.slice none 0 0],.int .i64 11])) we):=Hd (by
    rw[hRt];exact⟨hbe,rfl⟩)
   clear hxe hoe hbe hx6 hxo6 hb6w hb6 HR1 hRt hon6;go_wp2_with fail;change bodyPost Tryz.prog _ _ _ _ (st3 w6 w.heap.size (.int .i64 0) (.bool false) (.slice none 0 0));rw[←hwe];refine bodyPost_ret (v:=.tuple #[.agg #[.int .i64 0,.bool false,.slice none 0 0],.int .i64 11]) (by simp[results,Tryz.results16,go_sem,z0,z1,z2]) rfl ?_;exact HE.out
theorem rLoad_any {w:World} {a:Option Addr} {len cap:Nat} {d:List Rg} (h:∃K,GsK K w a len cap d) (hd:DOk d) (hlen:len≤1000) (r root:Int) :
 Calls Tryz.prog 16 #[.slice a len cap,.int .i64 r,.int .i64 root] w (RLoadTo w (loadD d r root)):=by
 by_cases h0:root=0
 ·subst h0;exact rLoad_zero w a len cap d r
 ·exact rLoad_root h hd hlen r root h0
open Go.RowKit
theorem sum_take_le {α:Type} (f:α→Nat) (l:List α) (i:Nat):((l.take i).map f).sum≤(l.map f).sum:=by
 induction l generalizing i with
 | nil=>simp
 | cons x r ih=>
  cases i with
  | zero=>simp
  | succ i=>simp only[List.take_succ_cons,List.map_cons,List.sum_cons];have:=ih i;omega
theorem sum_take_succ {α:Type} (f:α→Nat) {l:List α} {i:Nat} {x:α} (h:l[i]? = some x):((l.take (i+1)).map f).sum=((l.take i).map f).sum+f x:=by
 rw[List.take_succ_eq_append_of h,List.map_append,List.sum_append];simp
theorem rfresh_leaf {n:Nat} {F:Nat→Prop} {w:World} {cs:List Value} {p:Int} {l:List (List UInt8×Tv)} (h:RNodeOn F (n+1) w cs (.leaf p l)) (hB:Bare (.leaf p l)) (hb:Bnd (n+1) (.leaf p l)) (hf:freshN (n+1) (.leaf p l)≤1000000) :
 Calls Tryz.prog 43 #[.agg cs.toArray] w fun e w'=>e=.returned (.int .i64 (freshN (n+1) (.leaf p l):Nat))∧Below w.heap.size w w':=by
 have zm:=Mk.i 407746;exact qf6cfb1
theorem rfresh_node {n:Nat} (IH:∀{F:Nat→Prop} {w:World} {cs:List Value} {t:Tr},RNodeOn F n w cs t→Bare t→Bnd n t→freshN n t≤1000000→Calls Tryz.prog 43 #[.agg cs.toArray] w fun e w'=>e=.returned (.int .i64 (freshN n t:Nat))∧Below w.heap.size w w') {F:Nat→Prop} {w:World} {cs:List Value} {p:Int} {l:List (List UInt8×Tr)} (h:RNodeOn F (n+1) w cs (.node p l)) (hB:Bare (.node p l)) (hb:Bnd (n+1) (.node p l)) (hf:freshN (n+1) (.node p l)≤1000000) :
 Calls Tryz.prog 43 #[.agg cs.toArray] w fun e w'=>e=.returned (.int .i64 (freshN (n+1) (.node p l):Nat))∧Below w.heap.size w w':=by
 obtain⟨rfl,hv⟩:=bare_kids hB;obtain⟨a,c,rfl,h1,_⟩:=h.at;have hbl:l.length≤1000:=hb.1;have hbk:=hb.2;have zm:=Mk.i 516624;exact q3719f5
theorem rfresh_any:∀{n:Nat} {F:Nat→Prop} {w:World} {cs:List Value} {t:Tr},RNodeOn F n w cs t→Bare t→Bnd n t→freshN n t≤1000000→Calls Tryz.prog 43 #[.agg cs.toArray] w fun e w'=>e=.returned (.int .i64 (freshN n t:Nat))∧Below w.heap.size w w'
 | 0,_,_,_,_,h,_,_,_=>h.elim
 | _n+1,_,_,_,.leaf _p _l,h,hB,hb,hf=>rfresh_leaf h hB hb hf
 | _n+1,_,_,_,.node _p _l,h,hB,hb,hf=>rfresh_node (fun h hB hb hf=>rfresh_any h hB hb hf) h hB hb hf
open Go.RowKit
theorem append_none (W:World) (pa:Option Addr) (pc:Nat):(Builtin.append_ #[35,35] 35 #[.slice none 0 0,.slice pa 0 pc]).run Tryz.prog W=.ok (.slice none 0 0) W:=by
 cases pa<;>kernel_rfl
theorem rall_leaf {n:Nat} {F:Nat→Prop} {w:World} {cs:List Value} {p:Int} {l:List (List UInt8×Tv)} (h:RNodeOn F (n+1) w cs (.leaf p l)) (hB:Bare (.leaf p l)) (hb:Bnd (n+1) (.leaf p l)) :
 Calls Tryz.prog 167 #[.agg cs.toArray] w fun e w'=>e=.returned (.slice none 0 0)∧Below w.heap.size w w':=by
 have zm:=Mk.i 124758;exact qf6cfb1
theorem rall_node {n:Nat} (IH:∀{F:Nat→Prop} {w:World} {cs:List Value} {t:Tr},RNodeOn F n w cs t→Bare t→Bnd n t→Calls Tryz.prog 167 #[.agg cs.toArray] w fun e w'=>e=.returned (.slice none 0 0)∧Below w.heap.size w w') {F:Nat→Prop} {w:World} {cs:List Value} {p:Int} {l:List (List UInt8×Tr)} (h:RNodeOn F (n+1) w cs (.node p l)) (hB:Bare (.node p l)) (hb:Bnd (n+1) (.node p l)) :
 Calls Tryz.prog 167 #[.agg cs.toArray] w fun e w'=>e=.returned (.slice none 0 0)∧Below w.heap.size w w':=by
 obtain⟨rfl,hv⟩:=bare_kids hB;obtain⟨a,c,rfl,h1,_⟩:=h.at;have hbl:l.length≤1000:=hb.1;have zm:=Mk.i 385147;exact q3719f5
theorem rall_any:∀{n:Nat} {F:Nat→Prop} {w:World} {cs:List Value} {t:Tr},RNodeOn F n w cs t→Bare t→Bnd n t→Calls Tryz.prog 167 #[.agg cs.toArray] w fun e w'=>e=.returned (.slice none 0 0)∧Below w.heap.size w w'
 | 0,_,_,_,_,h,_,_=>h.elim
 | _n+1,_,_,_,.leaf _p _l,h,hB,hb=>rall_leaf h hB hb
 | _n+1,_,_,_,.node _p _l,h,hB,hb=>rall_node (fun h hB hb=>rall_any h hB hb) h hB hb
open Go.RowKit
def Rises (l:List Int):Prop:=∀(i j:Nat) (x y:Int),i<j→l[i]? = some x→l[j]? = some y→x<y
theorem infoI:(Tryz.prog.info? 3).map (fun i=>(i.zero,i.size,i.bytes))=some (some (.int .i64 0),1,8):=by kernel_rfl
theorem sorted_any {w:World} {a:Option Addr} {n cap:Nat} {l:List Int} (h:Row .i64 w a n cap l) (hr:Rises l) (hn:n≤100000) :
 Calls Tryz.prog 131 #[.slice a n cap] w fun e w'=>∃v,e=.returned v∧w'.ownsRow w.heap.size 3 1 v n (l.map (Value.int .i64))∧Below w.heap.size w w':=by
 have hln:l.length=n:=h.1;have hcap:=h.2.2.1;have hncap:=h.2.1;unfold maxLen at hcap;have H:=Hd h;have HR:=Hd hr;have HLN:=Hd hln;obtain⟨i0,hi0,hz0,hz1,hz2⟩:=info_parts infoI;have HI:=Hd (show Tryz.prog.info? 3=some i0∧i0.zero=some (.int .i64 0)∧i0.size=1∧i0.bytes=8 from⟨hi0,hz0,hz1,hz2⟩);clear h hr hln hi0 hz0 hz1 hz2;go_enter Tryz.func131,Tryz.ntmps131;go_wp2_with fail
 go_loopw [3,4,5,6] (fun s3 s4 _ _ wr=>∃(i:Nat),i≤n∧s4=.int .i64 i∧wr.ownsRow w.heap.size 3 1 s3 i ((l.take i).map (Value.int .i64))∧Below w.heap.size w wr) (fun _ s _ _ _=>n-(intOf s).toNat)
 case atStart=>exact⟨0,Nat.zero_le _,rfl,own_nil w _ 1 _,Below.refl _ _⟩
 case round=>
  obtain⟨i,hi,rfl,hown,hbw⟩:=hrel;have iw2:IntKind.i64.wrap ((i:Int)+1)=(i:Int)+1:=by simp[IntKind.wrap,IntKind.signed,IntKind.bits];omega
  by_cases hlt:i<n
  ·obtain⟨b,off,rfl,hbl,hc⟩:=(H.out).2.2.2.2.resolve_left (by omega)
   obtain⟨x,hx⟩:∃x,l[i]? = some x:=⟨l[i]'(by have:=HLN.out;omega),by simp⟩
   have k0:=hc i hlt;rw[hx] at k0;have k0:w.cell? ⟨b,off+i,none⟩=some (.int .i64 x):=k0;obtain⟨av,cv,rfl,hic,hcm,_⟩:=own_slice hown;unfold maxLen at hcm;obtain⟨a',c',e',hrow⟩:=Row.of_own hown;cases e';have gx:∀W,Below wr.heap.size wr W→W.cell? ⟨b,off+i,none⟩=some (.int .i64 x):=fun W hW=>(hW.cell (p:=⟨b,off+i,none⟩) (Nat.lt_of_lt_of_le hbl hbw.size)).trans ((hbw.cell (p:=⟨b,off+i,none⟩) hbl).trans k0)
   have q1:decide ((i:Int)<(n:Int))=true:=decide_eq_true (by omega);have q2:decide (i<n)=true:=decide_eq_true hlt;have HOWN:=Hd hown;have HBW:=Hd hbw;have HROW:=Hd hrow;have HX:=Hd hx;have HK0:=Hd k0;clear hown hbw hrow hx k0 hc;go_wp2_with fail
   go_loopw [5] (fun s5 wx=>∃j:Nat,j≤i∧s5=.int .i64 j∧∃q,wx=wr.drewN q) (fun s _=>i-(intOf s).toNat)
   case atStart=>exact⟨0,Nat.zero_le _,rfl,0,rfl⟩
   case round=>
    obtain⟨j,hj,rfl,q,rfl⟩:=hrel;have hbx:Below wr.heap.size wr (wr.drewN q):=below_drewN (Below.refl _ _) q;have iw3:IntKind.i64.wrap ((j:Int)+1)=(j:Int)+1:=by simp[IntKind.wrap,IntKind.signed,IntKind.bits];omega
    by_cases hji:j<i
    ·obtain⟨b2,off2,rfl,hb2,hc2⟩:=HROW.out.2.2.2.2.resolve_left (by omega)
     obtain⟨y,hy⟩:∃y,l[j]? = some y:=⟨l[j]'(by have:=HLN.out;omega),by simp⟩
     have m0:=hc2 j hji;rw[List.getElem?_take_of_lt hji,hy] at m0;have m0:wr.cell? ⟨b2,off2+j,none⟩=some (.int .i64 y):=m0;have hyx:=HR.out j i y x hji hy HX.out;have g0:wr.cell? ⟨b,off+i,none⟩=some (.int .i64 x):=gx _ (Below.refl _ _);have q3:decide ((j:Int)<(i:Int))=true:=decide_eq_true (by omega);have q4:decide (j<i)=true:=decide_eq_true hji;have q5:decide (y≤x)=true:=decide_eq_true (by omega);have HBX:=Hd hbx;clear hbx hy hc2;go_wp2_with fail
     go_quiet (fail)
     go_wp2
     go_roundw
     case rel=>exact⟨j+1,by omega,by go_num,q+nq,rfl⟩
     case measure=>simp[intOf];omega
    ·have hij:j=i:=by omega
     subst hij;have q3:decide ((j:Int)<(j:Int))=false:=decide_eq_false (by omega);have q4:decide (j<j)=false:=decide_eq_false (by omega);clear hbx;go_wp2_with fail
     go_quiet (fail)
     have hbW:Below wr.heap.size wr ((wr.drewN q).drewN nq):=below_drewN (below_drewN (Below.refl _ _) q) nq;generalize (wr.drewN q).drewN nq=W at *;have hszW:=hbW.size;have hbwW:=HBW.out.trans (hbW.mono HBW.out.size);obtain⟨hi0,hz0,hz1,hz2⟩:=HI.out;obtain⟨v1,W1,hr1,ho1,hg1,hv1⟩:=run_append_row (P:=Tryz.prog) (w:=W) w.heap.size 35 3 i0 _ 8 Tryz.underlying35 hi0 hz0 hz1 hz2 rfl (own_nil W _ 1 _) (HROW.out.below (Nat.le_refl _) hbW) (by unfold maxLen;omega) (by omega) hbwW.size;simp only[List.nil_append,Nat.zero_add] at ho1;have hb1:Below w.heap.size w W1:=(hbwW).grown hg1 hbwW.size (fun k hk=>by cases hk);obtain⟨a1,c1,rfl,_⟩:=own_slice ho1;obtain⟨v2,W2,hr2,ho2,hg2,hv2⟩:=run_append_new (P:=Tryz.prog) (w:=W1) w.heap.size 35 3 i0 _ 1 8 Tryz.underlying35 hi0 hz0 hz1 hz2 rfl (by decide) ho1 #[.int .i64 x] rfl (by intro u hu;simp at hu;subst hu;rfl) (by unfold maxLen;omega) (by omega) hb1.size;have hb2:Below w.heap.size w W2:=hb1.grown hg2 hb1.size (own_ge ho1);obtain⟨a2,c2,rfl,_⟩:=own_slice ho2;obtain⟨a3,ha3,hsl⟩:=slice_from elem_intsC size_intsC av j cv j (Nat.le_refl _);simp only[Nat.sub_self] at hsl;have hr0:Row .i64 W2 a3 0 (cv-j) []:=⟨rfl,by omega,by unfold maxLen;omega,by
      have:=(Row.drop j (Nat.le_refl _) HROW.out).2.2.2.1;rw[ha3];simpa using this,.inl rfl⟩
     obtain⟨v3,W3,hr3,ho3,hg3,hv3⟩:=run_append_row (P:=Tryz.prog) (w:=W2) w.heap.size 35 3 i0 _ 8 Tryz.underlying35 hi0 hz0 hz1 hz2 rfl ho2 hr0 (by unfold maxLen;omega) (by omega) hb2.size;have hb3:Below w.heap.size w W3:=hb2.grown hg3 hb2.size (own_ge ho2);have g1:W1.cell? ⟨b,off+j,none⟩=some (.int .i64 x):=(hb1.cell (p:=⟨b,off+j,none⟩) hbl).trans HK0.out;have hfin:W3.ownsRow w.heap.size 3 1 v3 (j+1) ((l.take (j+1)).map (Value.int .i64)):=by
      have e:(l.take (j+1)).map (Value.int .i64)=(l.take j).map (Value.int .i64)++[Value.int .i64 x]:=by rw[List.take_succ_eq_append_of HX.out];simp
      rw[e];simpa using ho3
     have HFIN:=Hd hfin;have HB3:=Hd hb3;obtain⟨a4,c4,rfl,_⟩:=own_slice ho3;clear hbW hbwW ho1 hg1 hv1 hb1 ho2 hg2 hv2 hb2 ho3 hg3 hv3 hb3 hfin hi0 hz0 hz1 hz2 ha3 hr0;go_upto_region 10 with(at_builtin;refine wpList_append_run rfl _ _ _ _ rfl rfl rfl hr1 ?_)
     go_upto_region 11 with(at_builtin;refine wpList_append_run rfl _ _ _ _ rfl rfl rfl hr2 ?_)
     go_wp2_with (at_builtin;refine wpList_append_run rfl _ _ _ _ rfl rfl rfl hr3 ?_)
     exact⟨⟨j+1,hlt,by go_num,HFIN.out,HB3.out⟩,by simp[intOf];omega⟩
  ·have hin:i=n:=by omega
   subst hin;have q1:decide ((i:Int)<(i:Int))=false:=decide_eq_false (by omega);have q2:decide (i<i)=false:=decide_eq_false hlt;rw[List.take_of_length_le (by have:=HLN.out;omega)] at hown;have HOWN:=Hd hown;have HBW:=Hd hbw;clear hown hbw;go_wp2_with fail;go_ret;exact⟨_,rfl,HOWN.out,HBW.out⟩
open Go.RowKit
theorem Rises.nil:Rises []:=fun i j x y _ hi=>by simp at hi
theorem rpages_any {n:Nat} {F:Nat→Prop} {w:World} {cs:List Value} {t:Tr} (h:RNodeOn F n w cs t) (hB:Bare t) (hb:Bnd n t) :
 Calls Tryz.prog 130 #[.agg cs.toArray] w fun e w'=>∃a c,e=.returned (.slice a 0 c)∧Row .i64 w' a 0 c []∧Below w.heap.size w w':=by
 have zm:=Mk.i 720722;exact q58f2a0
theorem rmay_any {n:Nat} {F:Nat→Prop} {w:World} {cs:List Value} {t:Tr} (h:RNodeOn F n w cs t) (hB:Bare t) (hb:Bnd n t) (hn:n≤1000) (hc:checkT n t=true) {a:Option Addr} {m cap:Nat} {at_:List Int} (hat:Row .i64 w a m cap at_) (hr:Rises at_) (hm:m≤10000) (hp:∀p∈at_,2≤p∧p≤999) (hf:freshN n t≤m) :
 Calls Tryz.prog 90 #[.agg cs.toArray,.slice a m cap] w fun e w'=>e=.returned (.bool true)∧Below w.heap.size w w':=by
 have zm:=Mk.i 165073;exact q58f2a0
open Go.RowKit
def wcl (x:Wr):List Value:=[.int .i64 x.1,.string (strOf x.2)]
structure LyIn (F:Nat→Prop) (w:World) (sb:Nat) (vL:Value) (ws:List Wr) (la:Option Addr) (lc:Nat) (left:List Int):Prop where
 box:Boxes w [(sb,[vL,.slice la left.length lc])]
 own:w.ownsRow (sb+1) 41 2 vL ws.length (ws.flatMap wcl)
 row:Row .i64 w la left.length lc left
 lf:∀x,la=some x→F x.block
 fb:∀b,F b→b<sb
section
variable {F:Nat→Prop} {w w':World} {sb:Nat} {vL:Value} {ws:List Wr} {la:Option Addr} {lc:Nat} {left:List Int}
theorem LyIn.lt_ (h:LyIn F w sb vL ws la lc left) (x:Addr) (hx:la=some x):x.block<sb:=h.fb _ (h.lf x hx)
theorem LyIn.lt (h:LyIn F w sb vL ws la lc left):sb<w.heap.size:=h.box.lt 0 rfl
theorem LyIn.ge (h:LyIn F w sb vL ws la lc left) {k:Nat} (hk:vL.ownBlock=some k):sb+1≤k∧k<w.heap.size:=World.ownsRow.lt h.own k hk
theorem LyIn.below (h:LyIn F w sb vL ws la lc left) (hb:Below w.heap.size w w'):LyIn F w' sb vL ws la lc left:=
 ⟨h.box.step hb,own_held h.own hb,h.row.below (Nat.le_refl _) hb,h.lf,h.fb⟩
theorem LyIn.only {S:List Nat} (h:LyIn F w sb vL ws la lc left) (ho:Only S w w') (hS:∀k∈S,sb<k∧vL.ownBlock≠some k):LyIn F w' sb vL ws la lc left:=by
 refine⟨h.box.only ho (by intro q hq hk;simp at hq;subst hq;have:=(hS _ hk).1;simp at this),own_only h.own ho (fun k hk hk2=>(hS k hk2).2 hk),?_,h.lf,h.fb⟩;obtain⟨h1,h2,h3,h4,h5⟩:=h.row;have hs:=ho.size;refine⟨h1,h2,h3,h4,h5.imp id ?_⟩;rintro⟨b,off,e,hb,hc⟩;have hlt:=h.lt_ _ e;exact⟨b,off,e,by omega,fun i hi=>(show w'.cell? ⟨b,off+i,none⟩=w.cell? ⟨b,off+i,none⟩ from World.cell?_of_block (ho.block (k:=b) hb (fun hk=>by have:=(hS _ hk).1;have h9:b<sb:=hlt;omega))).trans (hc i hi)⟩
end
theorem lsome_any {F:Nat→Prop} {w:World} {sb:Nat} {vL:Value} {ws:List Wr} {la:Option Addr} {lc:Nat} {left:List Int} (h:LyIn F w sb vL ws la lc left) (n:Nat) (hn:n≤left.length) :
 Calls Tryz.prog 134 #[.pointer (some ⟨sb,0,none⟩),.int .i64 n] w fun e w'=>e=.returned (.slice la n lc)∧∃la',LyIn F w' sb vL ws la' (lc-n) (left.drop n)∧Only [sb] w w':=by
 obtain⟨a2,ha2,hsl⟩:=slice_from elem_intsC size_intsC la left.length lc n hn;have hlc:=h.row.2.1;have hlm:=h.row.2.2.1;unfold maxLen at hlm;have b1:=h.box.cell 0 1 rfl rfl;have f1:=h.box.frozen 0 1 rfl;have hd:=Row.drop n hn h.row;rw[←ha2] at hd;have hlen:(left.drop n).length=left.length-n:=by simp
 have q1:decide ((0:Int)≤(n:Int))=true:=decide_eq_true (by omega);have q2:decide ((n:Int)≤(lc:Int))=true:=decide_eq_true (by omega);have HE:Hid (∃la',LyIn F (w.setCell ⟨sb,1,none⟩ (.slice a2 (left.length-n) (lc-n))) sb vL ws la' (lc-n) (left.drop n)∧Only [sb] w (w.setCell ⟨sb,1,none⟩ (.slice a2 (left.length-n) (lc-n)))):=Hd (by
  have ho:Only [sb] w (w.setCell ⟨sb,1,none⟩ (.slice a2 (left.length-n) (lc-n))):=(Only.refl _ _).set _ _ (by simp);have hlt3:∀x,a2=some x→F x.block:=fun x ex=>by
   rw[ha2] at ex
   split at ex
   ·exact h.lf x ex
   ·obtain⟨y,hy,e⟩:=Option.map_eq_some_iff.1 ex
    rw[←e];have h9:=h.lf y hy;have e9:(y.add (n*1)).block=y.block:=by unfold Addr.add;split<;>rfl
    rw[e9];exact h9
  have hlt2:∀x,a2=some x→x.block<sb:=fun x ex=>h.fb _ (hlt3 x ex)
  refine⟨a2,⟨?_,own_set h.own ⟨sb,1,none⟩ _ (fun e=>by have:=(h.ge e).1;simp at this;omega),?_,hlt3,h.fb⟩,ho⟩
  ·rw[hlen]
   exact h.box.put 1 _ (by intro q hq;simp at hq)
  ·rw[hlen]
   exact row_at hd ho.size (fun x ex=>Below.heap_setCell _ _ _ x.block (fun e=>by have:=hlt2 x ex;have e:x.block=sb:=e;omega)))
 clear h hd hlen ha2;go_enter Tryz.func134,Tryz.ntmps134;go_wp2_with fail;go_ret;exact⟨rfl,HE.out⟩
theorem infoW:(Tryz.prog.info? 41).map (fun i=>(i.zero,i.size,i.bytes))=some (some (.agg #[.int .i64 0,.string ⟨#[]⟩]),2,24):=by kernel_rfl
theorem lwrite_any {F:Nat→Prop} {w:World} {sb:Nat} {vL:Value} {ws:List Wr} {la:Option Addr} {lc:Nat} {left:List Int} (h:LyIn F w sb vL ws la lc left) (hl:ws.length≤100000) (p:Int) (b:List UInt8) :
 Calls Tryz.prog 136 #[.pointer (some ⟨sb,0,none⟩),.int .i64 p,.string (strOf b)] w fun e w'=>e=.returned (.tuple #[])∧∃vL',LyIn F w' sb vL' (ws++[(p,b)]) la lc left∧Only (RS sb vL) w w'∧Turn w vL vL':=by
 obtain⟨i0,hi0,hz0,hz1,hz2⟩:=info_parts infoW;obtain⟨v',w1,hr1,ho1,hg1,hv1⟩:=run_append_new (P:=Tryz.prog) (w:=w) (sb+1) 28 41 i0 _ 2 24 Tryz.underlying28 hi0 hz0 hz1 hz2 rfl (by decide) h.own #[.int .i64 p,.string (strOf b)] rfl (by intro u hu;simp at hu;rcases hu with rfl|rfl<;>rfl) (by unfold maxLen;omega) (by omega) (by have:=h.lt;omega);obtain⟨av,cv,rfl,_⟩:=own_slice h.own;obtain⟨a1,c1,rfl,_⟩:=own_slice ho1;have b0:=h.box.cell 0 0 rfl rfl;have hlt:=h.lt;have hgb:∀k,(Value.slice av ws.length cv).ownBlock=some k→sb+1≤k∧k<w.heap.size:=fun k hk=>h.ge hk
 have hx1:Boxes w1 [(sb,[.slice av ws.length cv,.slice la left.length lc])]:=h.box.grown hg1 (by intro q hq e;simp at hq;subst hq;have h8:sb+1≤sb:=(hgb _ e).1;omega);have k0:=hx1.cell 0 0 rfl rfl;have u0:=hx1.frozen 0 0 rfl;have hn':(Value.slice a1 (ws.length+1) c1).ownBlock≠some sb:=fun e=>by have:=own_ge ho1 _ e;omega
 have HE:Hid (∃vL',LyIn F (w1.setCell ⟨sb,0,none⟩ (.slice a1 (ws.length+1) c1)) sb vL' (ws++[(p,b)]) la lc left∧Only (RS sb (.slice av ws.length cv)) w (w1.setCell ⟨sb,0,none⟩ (.slice a1 (ws.length+1) c1))∧Turn w (.slice av ws.length cv) vL'):=Hd (by
  have hoB:Only (RS sb (.slice av ws.length cv)) w w1:=Only.of_grown hg1 (fun k hk=>.inl (RS.mem.2 (.inr hk)));have hoE:=hoB.set ⟨sb,0,none⟩ (.slice a1 (ws.length+1) c1) (RS.mem.2 (.inl rfl));refine⟨.slice a1 (ws.length+1) c1,⟨hx1.put 0 _ (by intro q hq;simp at hq),?_,?_,h.lf,h.fb⟩,hoE,?_⟩
  ·rw[List.length_append,List.flatMap_append]
   exact own_set ho1 ⟨sb,0,none⟩ _ hn'
  ·obtain⟨h1,h2,h3,h4,h5⟩:=h.row
   have hs:=hoE.size;refine⟨h1,h2,h3,h4,h5.imp id ?_⟩;rintro⟨b,off,e,hb,hc⟩;have hlt2:=h.lt_ _ e;exact⟨b,off,e,by omega,fun i hi=>(World.cell?_of_block (hoE.block (k:=b) hb (fun hk=>by
    have h9:b<sb:=hlt2
    rcases RS.mem.1 hk with e2|e2
    ·omega
    ·have:=(hgb _ e2).1;omega))).trans (hc i hi)⟩
  ·rcases hv1 with h|h
   ·exact .inl h
   ·exact .inr fun g e=>by rw[h] at e;have:=Option.some.inj e;omega)
 clear h hx1 hn' ho1 hg1 hv1 hgb hi0 hz0 hz1 hz2;go_enter Tryz.func136,Tryz.ntmps136
 go_wp2_with (at_builtin;refine wpList_append_run rfl _ _ _ _ rfl rfl rfl hr1 ?_)
 go_end0
 exact⟨rfl,HE.out⟩
open Go.RowKit
def RPutPostC (w:World) (v:List UInt8) (at_:List Int) (e:Ending) (w':World):Prop:=
 ∃u,e=.returned (.tuple #[u,.int .i64 (putEC v at_)])∧w'.ownsRow w.heap.size 9 1 u (putLC v at_).length ((putLC v at_).map sv)∧Below w.heap.size w w'
theorem rputPostC_bad {w w':World} {v:List UInt8} {at_:List Int} (h:putOkC v at_=false) (hb:Below w.heap.size w w'):RPutPostC w v at_ (.returned (.tuple #[.slice none 0 0,.int .i64 1])) w':=by
 refine⟨.slice none 0 0,by rw[putEC,h];rfl,?_,hb⟩;rw[putLC,h];exact World.ownsRow_nil _ _ _ _
theorem strsC_single (W:World) (s:List UInt8) (t:TypeId):Strs (W.alloc (.cells #[.string (strOf s)] t)) (some ⟨W.heap.size,0,none⟩) 1 1 [s]:=by
 refine⟨rfl,Nat.le_refl _,by unfold maxLen;omega,(fun h=>by cases h),.inr ⟨W.heap.size,0,rfl,by simp,fun i y hy=>?_⟩⟩;have hi:=(List.getElem?_eq_some_iff.1 hy).1;simp at hi;subst hi;simp at hy;subst hy;refine⟨[.string (strOf s)],rfl,rfl,fun j v hj=>?_⟩
 match j,hj with
 | 0,hj=>
  cases hj;have:=World.alloc_heap_new W (.cells #[.string (strOf s)] t);simp only[World.cell?,Nat.zero_add,Nat.zero_mul,this]
  rfl
 | j+1,hj=>simp at hj
def wordUC (n:Int):List UInt8:=numF (n % 18446744073709551616) 2
theorem wordUC_eq {n:Int} (h:0≤n∧n<65536):wordUC n=wordC n:=by
 unfold wordUC numF wordC;rw[if_neg (by omega),show n % 18446744073709551616=n by omega]
 rfl
theorem wordUC_length (n:Int):(wordUC n).length=2:=by
 unfold wordUC numF;rw[if_neg (by omega)];exact beBytes_length _ _
def rpageC (v:List UInt8) (at_:List Int) (i:Nat):List UInt8:=pageOf 3 [wordUC (nextC at_ i)++partC v i]
theorem rpageC_eq {v:List UInt8} {at_:List Int} (h:aptC at_=true) (i:Nat):rpageC v at_ i=pageC v at_ i:=by
 unfold rpageC pageC cellC;rw[wordUC_eq (nextC_lt h i)]
def aptCAt (at_:List Int) (i:Nat):Bool:=pgC (atC at_ i) && !(at_.take i).contains (atC at_ i)
theorem info_strC:(Tryz.prog.info? 9).map (fun i=>(i.zero,i.size,i.bytes))=some (some (.string ⟨#[]⟩),1,16):=by kernel_rfl
theorem crput_any {w:World} {a:Option Addr} {n cap:Nat} {at_:List Int} (h:Row .i64 w a n cap at_) (v:List UInt8) (hv:v.length≤100000) (hn9:n≤1000) :
 Calls Tryz.prog 168 #[.string (strOf v),.slice a n cap] w (RPutPostC w v at_):=by
 obtain⟨k0,hk,hx0,hx1,hx2⟩:=info_parts info_strC;have C:Calls Tryz.prog 89 #[.int .i64 (v.length:Int)] w fun e w'=>e=.returned (.int .i64 (needC (v.length:Int):Int))∧w=w':=crneed_any _ w
 obtain⟨e1,hc1,hcm1⟩:=h.lensC;have hsz:=strOf_size v;have hn4:=needC_le v.length;have hpos:=needC_pos (n:=(v.length:Int));have H1:=Hd h;have E1:=Hd e1;have HD:Hid (putOkC v at_=(decide (needC v.length≠0) && (decide (n=needC v.length) && aptC at_))):=Hd (by rw[putOkC,e1]);have hfit:needC (v.length:Int)≠0→119*(needC (v.length:Int)-1)<v.length∧v.length≤119*needC (v.length:Int):=fun h=>needC_fit h
 clear h e1;generalize needC (v.length:Int)=q at *
 by_cases h0:q=0
 ·have HB:Hid (putOkC v at_=false):=Hd (by rw[HD.out,h0];simp)
  have d0:((q:Int) == 0)=true:=by rw[beq_iff_eq];omega
  have d1:(q == 0)=true:=by simpa using h0
  exact qf7016b
 have d0:((q:Int) == 0)=false:=by rw[beq_eq_false_iff_ne];omega
 have d1:(q == 0)=false:=by simpa using h0
 by_cases hnq:¬n=q
 ·have HB:Hid (putOkC v at_=false):=Hd (by rw[HD.out];simp[hnq])
  have d2:((n:Int) != q)=true:=by rw[bne_iff_ne];omega
  have d3:((n:Int) == q)=false:=by rw[beq_eq_false_iff_ne];omega
  exact qf7016b
 obtain rfl:=Decidable.not_not.1 hnq;clear hnq;have hf:=hfit h0;have hp:=hpos h0;have d2:((n:Int) != n)=false:=by simp
 have d3:((n:Int) == n)=true:=by simp
 have HD2:Hid (putOkC v at_=aptC at_):=Hd (by rw[HD.out];simp[h0]);clear HD hfit hpos;go_enter Tryz.func168,Tryz.ntmps168;go_wp2_with fail;refine C.mono ?_;rintro e w' ⟨rfl,rfl⟩;clear C;go_wp2_with fail
 go_loopw [7,8] (fun s7 s wr=>∃(i:Nat),i≤n∧s=.int .i64 i∧wr.ownsRow w.heap.size 9 1 s7 i (((List.range i).map (rpageC v at_)).map sv)∧Below w.heap.size w wr∧∀j,j<i→aptCAt at_ j=true) (fun _ s _=>n-(intOf s).toNat)
 case atStart=>exact⟨0,Nat.zero_le _,rfl,World.ownsRow_nil _ _ _ _,Below.refl _ _,fun j hj=>by omega⟩
 case round=>
  obtain⟨i,hi',rfl,hout,hb,hall⟩:=hrel
  by_cases hlt:i<n
  ·obtain⟨b1,o1,hadr,hbl,hcell⟩:=H1.out.cellC hlt
   subst hadr;have c1:wr.cell? ⟨b1,o1+i,none⟩=_:=(hb.cell (p:=⟨b1,o1+i,none⟩) hbl).trans (hcell i hlt);have HAD:=Hd (show aptCAt at_ i=(pgC (atC at_ i) && !(at_.take i).contains (atC at_ i)) from rfl);have HF:Hid (aptCAt at_ i=false→aptC at_=false):=Hd (fun e=>by
    rw[aptC,List.all_eq_false];exact⟨i,by rw[List.mem_range,E1.out];exact hlt,by unfold aptCAt at e;rw[e];simp⟩)
   have HT:Hid (aptCAt at_ i=true→∀j,j<i+1→aptCAt at_ j=true):=Hd (fun e j hj=>by
    by_cases hji:j=i
    ·subst hji;exact e
    ·exact hall j (by omega))
   have HB:=Hd hb;have HO:=Hd hout;have HBAD:Hid (∀W,Below w.heap.size w W→aptCAt at_ i=false→RPutPostC w v at_ (.returned (.tuple #[.slice none 0 0,.int .i64 1])) W):=Hd (fun W hW h=>rputPostC_bad (by rw[HD2.out,HF.out h]) hW);have hrow1:=(H1.out.below (Nat.le_refl _) hb).take i (Nat.le_of_lt hlt);obtain⟨x,hx⟩:∃x,atC at_ i=x:=⟨_,rfl⟩
   rw[hx] at c1 HAD;obtain⟨t1,ht1⟩:∃t,decide (x∈at_.take i)=t:=⟨_,rfl⟩
   have hH1:∀k,Calls Tryz.prog 186 #[.slice (some ⟨b1,o1,none⟩) i cap,.int .i64 x] (wr.drewN k) fun e w'=>e=.returned (.bool t1)∧wr.drewN k=w':=fun k=>by
    have:=chas_any (hrow1.drewN k) x
    rwa [ht1] at this
   have HAE:Hid (aptCAt at_ i=(pgC x && !t1)):=Hd (by
    rw[HAD.out,←ht1]
    congr 2
    rw[Bool.eq_iff_iff];simp)
   have hsl:∀W,(Instr.slice 35 (.slice (some ⟨b1,o1,none⟩) n cap) none (some (.int .i64 (i:Int))) none).run Tryz.prog W=.ok (.slice (some ⟨b1,o1,none⟩) i cap) W:=fun W=>by
    rw[run_slice_h W 35 _ n cap elem_intsC .i64 (i:Int) (by omega) (by omega),size_intsC];simp[sliced];intro _;exact add_none b1 o1 0
   have HCELL:=Hd hcell;clear hout hb hall ht1 hx HAD HF hcell
   by_cases h2:x<2
   ·have d2:decide (x<2)=true:=by simpa using h2
    exact qca3992
   have d4:decide (x<2)=false:=by simpa using h2
   by_cases h9:999<x
   ·have d9:decide (999<x)=true:=by simpa using h9
    exact qca3992
   have d9:decide (999<x)=false:=by simpa using h9
   have HPG:Hid (pgC x=true):=Hd (by simp[pgC];omega);cases t1
   ·have HE:Hid (aptCAt at_ i=true):=Hd (by rw[HAE.out,HPG.out];rfl)
    clear HAE;go_wp2_with fail
    go_quiet (first|(go_at_call 186;(with_reducible exact quiet_same (hH1 _))))
    have hpl:=partC_length (v:=v) (i:=i);obtain⟨f,hf2⟩:∃f,119*i=f:=⟨_,rfl⟩
    obtain⟨m,hm⟩:∃m,min 119 (v.length-f)=m:=⟨_,rfl⟩
    have hmi:min ((v.length:Int)-119*(i:Int)) 119=(m:Int):=by omega
    have P:∀W,Calls Tryz.prog 185 #[.int .i64 (v.length:Int),.int .i64 (i:Int)] W fun e w'=>e=.returned (.int .i64 (m:Int))∧W=w':=fun W=>by
     have:=cpart_any v.length i (by omega) (by omega) W
     rwa [hmi] at this
    have hfi:119*(i:Int)=(f:Int):=by omega
    have hfm:f+m≤v.length:=by omega
    have hex:(strOf v).extract f (f+m)=strOf (partC v i):=by
     rw[strOf_extract,partC,hf2,show f+m-f=m by omega]
     congr 1
     by_cases h9:m=119
     ·rw[h9]
     ·rw[List.take_of_length_le (by simp;omega),List.take_of_length_le (by simp;omega)]
    have hml:(partC v i).length=m:=by rw[hpl,hf2];exact hm
    have HRS:=Hd (show(List.range (i+1)).map (rpageC v at_)=(List.range i).map (rpageC v at_)++[rpageC v at_ i] by simp[List.range_succ]);have HPGE:=Hd (show rpageC v at_ i=pageOf 3 [wordUC (nextC at_ i)++partC v i] from rfl);have hfit3:fits 3 [wordUC (nextC at_ i)++partC v i]=true:=by
     have:=partC_le v i;simp[fits,lens_one,wordUC_length];omega
    have HFI:=Hd hfit3;have hm9:m≤119:=by omega
    clear hf2 hm hmi hpl hfit3
    by_cases hnx:i+1<n
    ·have d5:decide ((i:Int)+1<n)=true:=by simp;omega
     have HNX0:=Hd (show nextC at_ i=atC at_ (i+1) by rw[nextC,if_pos (by rw[E1.out];exact hnx)]);have c2:wr.cell? ⟨b1,o1+(i+1),none⟩=_:=(HB.out.cell (p:=⟨b1,o1+(i+1),none⟩) hbl).trans (HCELL.out (i+1) hnx);obtain⟨nx,hnxe⟩:∃nx,atC at_ (i+1)=nx:=⟨_,rfl⟩
     rw[hnxe] at c2;have HNX:=Hd (HNX0.out.trans hnxe);clear hnxe HNX0;go_wp2_with fail;refine(refNum_any (nx % 18446744073709551616) 2 (wr.drewN nq) (by omega)).mono ?_;rintro e w3 ⟨rfl,hb3⟩;have HB3:Hid (Below w.heap.size w w3):=Hd (below_then (below_drewN HB.out nq) hb3);have HO3:Hid (w3.ownsRow w.heap.size 9 1 u7 i (((List.range i).map (rpageC v at_)).map sv)):=Hd (own_below (show(wr.drewN nq).ownsRow w.heap.size 9 1 u7 i (((List.range i).map (rpageC v at_)).map sv) from HO.out) (Nat.le_refl _) hb3);rw[show numF (nx % 18446744073709551616) 2=wordUC nx from rfl];clear hb3;have hap:=strOf_append (wordUC nx) (partC v i);have hbn:(strOf (wordUC nx)).size+(strOf (partC v i)).size≤9223372036854775807:=by rw[strOf_size,strOf_size,wordUC_length,hml];omega
     have hcl:(wordUC nx++partC v i).length=2+m:=by rw[List.length_append,wordUC_length,hml]
     rw[HNX.out] at HFI HPGE;generalize wordUC nx=U at *;exact q779872
    ·have d5:decide ((i:Int)+1<n)=false:=by simp;omega
     have HNX:=Hd (show nextC at_ i=0 by rw[nextC,if_neg (by rw[E1.out];exact hnx)]);go_wp2_with fail;refine(refNum_any (0) 2 (wr.drewN nq) (by omega)).mono ?_;rintro e w3 ⟨rfl,hb3⟩;have HB3:Hid (Below w.heap.size w w3):=Hd (below_then (below_drewN HB.out nq) hb3);have HO3:Hid (w3.ownsRow w.heap.size 9 1 u7 i (((List.range i).map (rpageC v at_)).map sv)):=Hd (own_below (show(wr.drewN nq).ownsRow w.heap.size 9 1 u7 i (((List.range i).map (rpageC v at_)).map sv) from HO.out) (Nat.le_refl _) hb3);rw[show numF (0) 2=wordUC 0 from rfl];clear hb3;have hap:=strOf_append (wordUC 0) (partC v i);have hbn:(strOf (wordUC 0)).size+(strOf (partC v i)).size≤9223372036854775807:=by rw[strOf_size,strOf_size,wordUC_length,hml];omega
     have hcl:(wordUC 0++partC v i).length=2+m:=by rw[List.length_append,wordUC_length,hml]
     rw[HNX.out] at HFI HPGE;generalize wordUC 0=U at *;exact q779872
   ·have HE:Hid (aptCAt at_ i=false):=Hd (by rw[HAE.out,HPG.out];rfl)
    clear HAE;go_wp2_with fail
    go_quiet (first|(go_at_call 186;(with_reducible exact quiet_same (hH1 _))))
    go_wp2_with fail
    go_ret2
    exact HBAD.out _ (below_drewN HB.out nq) HE.out
  ·obtain rfl:i=n:=by omega
   have HA:Hid (putOkC v at_=true):=Hd (by
    rw[HD2.out,aptC,List.all_eq_true];intro j hj;rw[List.mem_range,E1.out] at hj;exact hall j hj)
   have HE:Hid (RPutPostC w v at_ (.returned (.tuple #[u7,.int .i64 0])) wr):=Hd ⟨_,by rw[putEC,HA.out];rfl,by
    have hap:aptC at_=true:=by rw[←HD2.out];exact HA.out
    rw[putLC,HA.out,if_pos rfl,E1.out,List.length_map,List.length_range,←List.map_congr_left (fun j _=>rpageC_eq hap j)];exact hout,hb⟩
   clear hout hall;go_wp2_with fail
   go_ret2
   exact HE.out
end Go.Proofs.YtpghlmcoajaiiaaGreatDoor
