/- Texts that other texts of this claim lean on, one behind the other. -/
import Derived.Test.YtpghlmcoajaiiaaGreatDoorM2
import Derived.Test.YtpghlmcoajaiiaaGreatDoorM3
import Derived.Test.YtpghlmcoajaiiaaGreatDoorM4
import Derived.Test.YtpghlmcoajaiiaaGreatDoorM1
import Derived.Test.YtpghlmcoajaiiaaGreatDoorM7
import Derived.Test.YtpghlmcoajaiiaaGreatDoorM6
import Derived.Test.YtpghlmcoajaiiaaGreatDoorM5
import Derived.Deep.RegionHeld3
import Derived.Laws.Append
import Derived.Laws.AppendOwn
import Derived.Deep.DeepCutAuto
import Derived.RangeFuncNested
import Derived.RangeFuncBound
import Derived.RangeFuncCalls
import Derived.RangeFuncLeaves
import Derived.RangeFuncBox
import Derived.Shelf.Abstract
import Derived.Shelf.RegionOpen
import Derived.WalkKit
import Derived.OwnWalkIn
import Derived.TacticsInMore
import Derived.LoopNIn
import Derived.LoopIn
import Derived.Deep.RegionHeld
import Derived.OwnWalk
set_option maxHeartbeats 20000000
set_option maxRecDepth 100000
namespace Go.Proofs.YtpghlmcoajaiiaaGreatDoor
open Go.RowKit
def Bnd:Nat→Tr→Prop
 | 0,_=>True
 | _+1,.leaf _ l=>l.length≤1000∧∀c∈l,c.1.length≤200∧c.2.data.length≤1000
 | n+1,.node _ l=>l.length≤1000∧∀c∈l,c.1.length≤200∧Bnd n c.2
theorem Bnd.small {n:Nat} {t:Tr} (h:Bnd (n+1) t):Small (sizesT t):=by
 cases t with
 | leaf p l=>
  refine⟨by simp[sizesT];exact h.1,fun x hx=>?_⟩;obtain⟨c,hc,rfl⟩:=List.mem_map.1 hx;have:=(h.2 c hc).1;have:=vSz_le c.2;omega
 | node p l=>
  refine⟨by simp[sizesT];exact h.1,fun x hx=>?_⟩;obtain⟨c,hc,rfl⟩:=List.mem_map.1 hx;have:=(h.2 c hc).1;omega
theorem info_intT:(Tryz.prog.info? 3).map (fun i=>(i.zero,i.size,i.bytes))=some (some (.int .i64 0),1,8):=by kernel_rfl
theorem KeysIn.at {w:World} {a:Option Addr} {n c:Nat} {l:List (List UInt8)} (h:KeysIn w a n c l) {k:Nat} (hk:k<n) :
 ∃b off,a=some ⟨b,off,none⟩∧b<w.heap.size∧w.cell? ⟨b,off+k,none⟩=some (.string (strOf (l[k]?.getD []))):=by
 obtain⟨b,off,y,cs,e1,e2,e3,_,e5,e6⟩:=TabR.at h hk;have e5:cs=_:=e5;subst e5;have:=e6 0 _ rfl;refine⟨b,off,e1,e2,?_⟩;rw[e3];simpa using this
theorem ValsIn.at {w:World} {a:Option Addr} {n c:Nat} {l:List Tv} (h:ValsIn w a n c l) {k:Nat} (hk:k<n) :
 ∃b off v pa pn pc,a=some ⟨b,off,none⟩∧b<w.heap.size∧l[k]? = some v∧w.cell? ⟨b,off+k*2,none⟩=some (.string (strOf v.data))∧w.cell? ⟨b,off+k*2+1,none⟩=some (.slice pa pn pc)∧Row .i64 w pa pn pc v.pages:=by
 exact qfd2e77
def SizesPost (w:World) (S:List Int) (e:Ending) (w':World):Prop:=∃v,e=.returned v∧w'.ownsRow w.heap.size 3 1 v S.length (S.map (Value.int .i64))∧Below w.heap.size w w'
theorem tk_succ (l:List Int) (i:Nat) (h:i<l.length):l.take (i+1)=l.take i++[l[i]?.getD 0]:=by
 rw[List.take_succ_eq_append_getElem h,List.getElem?_eq_getElem h];rfl
theorem tsizes_node {n:Nat} {w:World} {cs:List Value} {p:Int} {l:List (List UInt8×Tr)} (h:NodeIn (n+1) w cs (.node p l)) (hb:Bnd (n+1) (.node p l)) :
 Calls Tryz.prog 144 #[.agg cs.toArray] w (SizesPost w (sizesT (.node p l))):=by
 obtain⟨ka,kn,kc,va,vc,ca,cn,cc,rfl,h1,h2,h3⟩:=h;obtain⟨g1,g2⟩:=hb;obtain⟨e1,e2,e3⟩:=h1.lens;have hkl:(keysOf l).length=l.length:=by simp[keysOf]
 have hsl:(sizesT (.node p l)).length=kn:=by rw[sizes_len_node,←hkl,e1]
 have HS:Hid (∀i,i<kn→(sizesT (.node p l))[i]?.getD 0=4+(((keysOf l)[i]?.getD []).length:Int)∧((keysOf l)[i]?.getD []).length≤200):=Hd (fun i hi=>by
  have hi':i<l.length:=by omega
  have:=(g2 l[i] (List.getElem_mem hi')).1;simp[sizesT,keysOf,hi',this])
 have HK:=Hd h1;have HSL:=Hd hsl;have hkn:kn≤1000:=by omega
 obtain⟨i0,hi0,hz0,hz1,hz2⟩:=info_parts info_intT;have hA:Below w.heap.size w (w.alloc (.cells #[.int .i64 p,.bool false,.slice ka kn kc,.slice va 0 vc,.slice ca cn cc] 50)):=(Below.refl _ _).alloc (Nat.le_refl _) _;have HBX:=Hd ((Boxes.nil w).alloc #[.int .i64 p,.bool false,.slice ka kn kc,.slice va 0 vc,.slice ca cn cc] 50 rfl);generalize sizesT (.node p l)=S at *;generalize keysOf l=K at *;clear h1 h2 h3 g1 g2 e1 hkl hsl;go_enter Tryz.func144,Tryz.ntmps144;go_wp2_with fail
 go_loopw [3,11] (fun s3 s11 wr=>∃i:Nat,i≤kn∧s11=.int .i64 i∧wr.ownsRow w.heap.size 3 1 s3 i ((S.take i).map (Value.int .i64))∧Below w.heap.size w wr∧Boxes wr [(w.heap.size,[.int .i64 p,.bool false,.slice ka kn kc,.slice va 0 vc,.slice ca cn cc])]∧s3.ownBlock≠some w.heap.size) (fun _ s _=>kn-(intOf s).toNat)
 case atStart=>exact⟨0,Nat.zero_le _,rfl,World.ownsRow_nil _ _ _ _,hA,HBX.out,by simp[Value.ownBlock]⟩
 case round=>
  clear HBX hA;obtain⟨i,hi,rfl,hown,hb,hbx,hnb⟩:=hrel
  by_cases hlt:i<kn
  ·obtain⟨b,off,rfl,hbb,hcell⟩:=HK.out.at hlt
   have c1:=(hb.cell (p:=⟨b,off+i,none⟩) hbb).trans hcell;obtain⟨q1,q2⟩:=HS.out i hlt;have hst:=Hd (tk_succ S i (by rw[HSL.out];exact hlt));have f1:=hbx.cell 0 1 rfl rfl;have hsz:=strOf_size (K[i]?.getD []);generalize K[i]?.getD []=k at *;obtain⟨m,hm⟩:∃m,k.length=m:=⟨_,rfl⟩
   rw[hm] at q1 q2 hsz;have HM:=Hd hm;clear hcell hm;obtain⟨v8,w8,hr8,ho8,hg8,hv8⟩:=run_append_new (P:=Tryz.prog) (w:=wr) w.heap.size 35 3 i0 _ 1 8 Tryz.underlying35 hi0 hz0 hz1 hz2 rfl (by decide) hown #[.int .i64 (4+(m:Int))] rfl (by intro u hu;simp at hu;subst hu;rfl) (by unfold maxLen;omega) (by omega) hb.size;have mcb51fa:=trivial;exact q37f2f9
  ·obtain rfl:i=kn:=by omega
   exact q075758
theorem tsizes_leaf {n:Nat} {w:World} {cs:List Value} {p:Int} {l:List (List UInt8×Tv)} (h:NodeIn (n+1) w cs (.leaf p l)) (hb:Bnd (n+1) (.leaf p l)) :
 Calls Tryz.prog 144 #[.agg cs.toArray] w (SizesPost w (sizesT (.leaf p l))):=by
 obtain⟨ka,kn,kc,va,vn,vc,ca,cc,rfl,h1,h2,h3⟩:=h;obtain⟨g1,g2⟩:=hb;obtain⟨e1,e2,e3⟩:=h1.lens;obtain⟨e4,e5,e6⟩:=h2.lens;have hkl:(keysOf l).length=l.length:=by simp[keysOf]
 have hsl:(sizesT (.leaf p l)).length=kn:=by rw[sizes_len_leaf,←hkl,e1]
 obtain rfl:kn=vn:=by rw[List.length_map] at e4;omega
 have HS:Hid (∀i,i<kn→∃v:Tv,(l.map (·.2))[i]? = some v∧(sizesT (.leaf p l))[i]?.getD 0=3+(vSz v:Int)+(((keysOf l)[i]?.getD []).length:Int)∧((keysOf l)[i]?.getD []).length≤200∧v.data.length≤1000):=Hd (fun i hi=>by
  have hi':i<l.length:=by omega
  have h5:=g2 l[i] (List.getElem_mem hi');exact⟨l[i].2,by simp[hi'],by simp[sizesT,keysOf,hi'],by simp[keysOf,hi',h5.1],h5.2⟩)
 have HK:=Hd h1;have HV:=Hd h2;have HSL:=Hd hsl;have hkn:kn≤1000:=by omega
 obtain⟨i0,hi0,hz0,hz1,hz2⟩:=info_parts info_intT;have hA:Below w.heap.size w (w.alloc (.cells #[.int .i64 p,.bool true,.slice ka kn kc,.slice va kn vc,.slice ca 0 cc] 50)):=(Below.refl _ _).alloc (Nat.le_refl _) _;have HBX:=Hd ((Boxes.nil w).alloc #[.int .i64 p,.bool true,.slice ka kn kc,.slice va kn vc,.slice ca 0 cc] 50 rfl);generalize sizesT (.leaf p l)=S at *;generalize keysOf l=K at *;generalize l.map (·.2)=V at *;clear h1 h2 h3 g1 g2 e1 e4 hkl hsl;go_enter Tryz.func144,Tryz.ntmps144;go_wp2_with fail
 go_loopw [3,11] (fun s3 s11 wr=>∃i:Nat,i≤kn∧s11=.int .i64 i∧wr.ownsRow w.heap.size 3 1 s3 i ((S.take i).map (Value.int .i64))∧Below w.heap.size w wr∧Boxes wr [(w.heap.size,[.int .i64 p,.bool true,.slice ka kn kc,.slice va kn vc,.slice ca 0 cc])]∧s3.ownBlock≠some w.heap.size) (fun _ s _=>kn-(intOf s).toNat)
 case atStart=>exact⟨0,Nat.zero_le _,rfl,World.ownsRow_nil _ _ _ _,hA,HBX.out,by simp[Value.ownBlock]⟩
 case round=>
  clear HBX hA;obtain⟨i,hi,rfl,hown,hb,hbx,hnb⟩:=hrel
  by_cases hlt:i<kn
  ·obtain⟨b,off,rfl,hbb,hcell⟩:=HK.out.at hlt
   have c1:=(hb.cell (p:=⟨b,off+i,none⟩) hbb).trans hcell;obtain⟨tv,q0,q1,q2,q3⟩:=HS.out i hlt;have hst:=Hd (tk_succ S i (by rw[HSL.out];exact hlt));have f1:=hbx.cell 0 1 rfl rfl;have hsz:=strOf_size (K[i]?.getD []);obtain⟨b2,off2,tv2,pa,pn,pc,rfl,hbb2,e9,hc2,_,_⟩:=HV.out.at hlt;rw[q0] at e9;cases e9;have c2:=(hb.cell (p:=⟨b2,off2+i*2,none⟩) hbb2).trans hc2;have f3:=hbx.cell 0 3 rfl rfl;have hsz2:=strOf_size tv.data;obtain⟨dl,hdl⟩:∃dl,tv.data.length=dl:=⟨_,rfl⟩
   have N:=fun W=>cneed_any (dl:Int) W
   have hvs:vSz tv=if dl≤16 then dl else 4:=by unfold vSz;rw[hdl]
   rw[hdl] at hsz2 q3;have HDL:=Hd hdl;clear hc2 hdl q0;generalize K[i]?.getD []=k at *;obtain⟨m,hm⟩:∃m,k.length=m:=⟨_,rfl⟩
   rw[hm] at q1 q2 hsz;have HM:=Hd hm;clear hcell hm
   by_cases hd:dl≤16
   ·rw[if_pos hd] at hvs
    rw[hvs] at q1;rw[show needC (dl:Int)=0 by unfold needC;rw[if_pos (.inl (by omega))]] at N;have d4:decide ((400:Int)<dl)=false:=by simp;omega
    have d4':decide (400<dl)=false:=by simp;omega
    obtain⟨v8,w8,hr8,ho8,hg8,hv8⟩:=run_append_new (P:=Tryz.prog) (w:=wr) w.heap.size 35 3 i0 _ 1 8 Tryz.underlying35 hi0 hz0 hz1 hz2 rfl (by decide) hown #[.int .i64 (3+(dl:Int)+(m:Int))] rfl (by intro u hu;simp at hu;subst hu;rfl) (by unfold maxLen;omega) (by omega) hb.size;have ma6514e:=trivial;exact q37f2f9
   ·rw[if_neg hd] at hvs
    rw[hvs] at q1;obtain⟨v8,w8,hr8,ho8,hg8,hv8⟩:=run_append_new (P:=Tryz.prog) (w:=wr) w.heap.size 35 3 i0 _ 1 8 Tryz.underlying35 hi0 hz0 hz1 hz2 rfl (by decide) hown #[.int .i64 (7+(m:Int))] rfl (by intro u hu;simp at hu;subst hu;rfl) (by unfold maxLen;omega) (by omega) hb.size;have HB8:=Hd (hb.grown hg8 hb.size (own_ge hown));have HX8:=Hd (hbx.grown hg8 (by intro p hp;simp at hp;subst hp;exact hnb));have HN8:Hid (v8.ownBlock≠some w.heap.size):=Hd (by
     rcases hv8 with h|h
     ·rw[h];exact hnb
     ·rw[h];intro e;have:=hb.size;have:=Option.some.inj e;omega)
    have HO8:Hid (w8.ownsRow w.heap.size 3 1 v8 (i+1) ((S.take (i+1)).map (Value.int .i64))):=Hd (by
     rw[hst.out,q1,List.map_append,show(3:Int)+((4:Nat):Int)+(m:Int)=7+(m:Int) by omega];exact ho8)
    clear hown hb hbx hnb ho8 hg8 hv8 q1 hst;exact qe53638
  ·obtain rfl:i=kn:=by omega
   exact q075758
theorem tsizes_any {n:Nat} {w:World} {cs:List Value} {t:Tr} (h:NodeIn n w cs t) (hb:Bnd n t):Calls Tryz.prog 144 #[.agg cs.toArray] w (SizesPost w (sizesT t)):=by
 cases n with
 | zero=>exact h.elim
 | succ n=>
  cases t with
  | leaf p l=>exact tsizes_leaf h hb
  | node p l=>exact tsizes_node h hb
def seeL (seen:List Int):List Int→Option (List Int)
 | []=>some seen
 | p::r=>if p∈seen then none else seeL (seen++[p]) r
def valL (d:List Rg) (r:Int) (seen:List Int) (v:Vv):Except Int (List Int×Tv):=
 if v.far=false then .ok (seen,⟨v.data,[]⟩)
 else if (getDC d r v.page v.size).2.2≠0 then .error (getDC d r v.page v.size).2.2
 else match seeL seen (getDC d r v.page v.size).2.1 with
  | none=>.error 11
  | some s=>.ok (s,⟨(getDC d r v.page v.size).1,(getDC d r v.page v.size).2.1⟩)
def valsL (d:List Rg) (r:Int):List Int→List En→Except Int (List Int×List (List UInt8×Tv))
 | seen,[]=>.ok (seen,[])
 | seen,e::l=>match valL d r seen e.v with
  | .error x=>.error x
  | .ok (s,v)=>match valsL d r s l with
   | .error x=>.error x
   | .ok (s2,L)=>.ok (s2,(e.key,v)::L)
def kidsL (f:List Int→Int→Except Int (List Int×Tr)):List Int→List En→Except Int (List Int×List (List UInt8×Tr))
 | seen,[]=>.ok (seen,[])
 | seen,e::l=>match f seen e.v.page with
  | .error x=>.error x
  | .ok (s,t)=>match kidsL f s l with
   | .error x=>.error x
   | .ok (s2,L)=>.ok (s2,(e.key,t)::L)
def loadT (d:List Rg) (r:Int):Nat→List Int→Int→Except Int (List Int×Tr)
 | 0,_,_=>.error 11
 | n+1,seen,p=>
  if p∈seen then .error 11
  else if pagedE d r p≠0 then .error (pagedE d r p)
  else if getNE (readB d r p)≠0 then .error (getNE (readB d r p))
  else if getNF (readB d r p) then (match valsL d r (seen++[p]) (getNL (readB d r p)) with
   | .error x=>.error x
   | .ok (s,L)=>.ok (s,.leaf p L))
  else (match kidsL (loadT d r n) (seen++[p]) (getNL (readB d r p)) with
   | .error x=>.error x
   | .ok (s,L)=>.ok (s,.node p L))
def roomL (seen:List Int):Nat:=((List.range 999).filter (fun k:Nat => !(seen.contains ((k:Int)+1)))).length
theorem roomL_nil:roomL []=999:=by
 unfold roomL;rw[List.filter_eq_self.2 (fun _ _=>by simp),List.length_range]
theorem filter_less {α:Type} {p q:α→Bool} {x:α}:∀{l:List α},(∀y∈l,q y=true→p y=true)→x∈l→p x=true→q x=false→(l.filter q).length<(l.filter p).length
 | [],_,h,_,_=>by simp at h
 | y::l,hs,hx,hp,hq=>by
  have hle:∀{l:List α},(∀y∈l,q y=true→p y=true)→(l.filter q).length≤(l.filter p).length:=by
   intro l
   induction l with
   | nil=>intro _;simp
   | cons z l ih=>
    intro h;have:=ih (fun y hy=>h y (List.mem_cons_of_mem _ hy));have hz:=h z (by simp);cases hqz:q z
    ·cases hpz:p z<;>simp[hqz,hpz]<;>omega
    ·simp[hqz,hz hqz];omega
  rcases List.mem_cons.1 hx with rfl|hx
  ·have:=hle (fun y hy=>hs y (List.mem_cons_of_mem _ hy))
   simp[hp,hq];omega
  ·have:=filter_less (fun y hy=>hs y (List.mem_cons_of_mem _ hy)) hx hp hq
   have hz:=hs y (by simp);cases hqz:q y
   ·cases hpz:p y<;>simp[hqz,hpz]<;>omega
   ·simp[hqz,hz hqz];omega
theorem roomL_see {seen:List Int} {p:Int} (h:p∉seen) (h1:1≤p) (h9:p≤999):roomL (seen++[p])<roomL seen:=by
 unfold roomL;refine filter_less (x:=(p-1).toNat) (fun y _ hy=>?_) (by simp;omega) ?_ ?_
 ·simp at hy ⊢
  exact hy.1
 ·have:(((p-1).toNat:Nat):Int)+1=p:=by omega
  rw[this];simpa using h
 ·have:(((p-1).toNat:Nat):Int)+1=p:=by omega
  rw[this];simp
theorem seeL_app {seen l s:List Int} (h:seeL seen l=some s):s=seen++l:=by
 induction l generalizing seen with
 | nil=>cases h;simp
 | cons p r ih=>
  unfold seeL at h
  split at h
  ·cases h
  ·rw[ih h];simp
theorem roomL_mono {seen l:List Int}:roomL (seen++l)≤roomL seen:=by
 unfold roomL;generalize List.range 999=R
 induction R with
 | nil=>simp
 | cons k R ih=>
  simp only[List.filter_cons]
  by_cases h1:((k:Int)+1)∈seen
  ·simp[h1];simpa using ih
  ·by_cases h2:((k:Int)+1)∈l
   ·simp[h1,h2];have:=ih;simp at this;omega
   ·simp[h1,h2];simpa using ih
theorem getFC_len (rd:Int→Int×Int×List UInt8):∀(n:Nat) (s:List UInt8) (at_:List Int) (left:Int),(getFC rd n s at_ left).1.length≤s.length+119*n
 | 0,s,at_,left=>by unfold getFC;simp
 | n+1,s,at_,left=>by
  unfold getFC;dsimp only
  split
  ·simp
  ·rename_i h1
   split
   ·simp
   ·rename_i h2
    have hp:(rd (at_.getLastD 0)).2.2.length≤119:=by
     have:¬((rd (at_.getLastD 0)).2.2.length:Int)≠min left 119:=fun e=>h1 (.inr ⟨by simpa using h2,e⟩)
     omega
    split
    ·simp only[List.length_append];omega
    ·split
     ·simp
     ·have:=getFC_len rd n (s++(rd (at_.getLastD 0)).2.2) (at_++[(rd (at_.getLastD 0)).2.1]) (left-(rd (at_.getLastD 0)).2.2.length)
      simp only[List.length_append] at this;omega
theorem getDC_len (d:List Rg) (r first size:Int):(getDC d r first size).1.length≤476:=by
 unfold getDC getC
 split
 ·simp
 ·have:=getFC_len (rdC d r) 4 [] [first] size
  simpa using this
theorem getFC_at (rd:Int→Int×Int×List UInt8):∀(n:Nat) (s:List UInt8) (at_:List Int) (left:Int),(∀p∈(getFC rd n s at_ left).2.1,p∈at_∨pgC p=true)∧(getFC rd n s at_ left).2.1.length≤at_.length+n
 | 0,s,at_,left=>by unfold getFC;simp
 | n+1,s,at_,left=>by
  unfold getFC;dsimp only
  split
  ·simp
  ·split
   ·simp
   ·split
    ·exact⟨fun p hp=>.inl hp,by show at_.length≤_;omega⟩
    ·split
     ·simp
     ·rename_i h3
      have:=getFC_at rd n (s++(rd (at_.getLastD 0)).2.2) (at_++[(rd (at_.getLastD 0)).2.1]) (left-(rd (at_.getLastD 0)).2.2.length);refine⟨fun p hp=>?_,by have:=this.2;rw[List.length_append] at this;simp only[List.length_singleton] at this;omega⟩
      rcases this.1 p hp with h|h
      ·rcases List.mem_append.1 h with h|h
       ·exact .inl h
       ·rw[List.mem_singleton.1 h]
        refine .inr ?_;cases hq:pgC (rd (at_.getLastD 0)).2.1
        ·exact absurd (.inr (.inl hq)) h3
        ·rfl
      ·exact .inr h
theorem getDC_at (d:List Rg) (r first size:Int):(∀p∈(getDC d r first size).2.1,p=first∨pgC p=true)∧(getDC d r first size).2.1.length≤5:=by
 unfold getDC getC
 split
 ·simp
 ·have:=getFC_at (rdC d r) 4 [] [first] size
  simpa using this
theorem valL_len {d:List Rg} {r:Int} {seen:List Int} {v:Vv} {s:List Int} {x:Tv} (h:valL d r seen v=.ok (s,x)) (hv:v.data.length≤16):x.data.length≤476:=by
 unfold valL at h
 split at h
 ·cases h;show v.data.length≤476;omega
 ·split at h
  ·cases h
  ·split at h
   ·cases h
   ·cases h;exact getDC_len _ _ _ _
theorem valsL_len {d:List Rg} {r:Int}:∀{l:List En} {seen s:List Int} {L:List (List UInt8×Tv)},valsL d r seen l=.ok (s,L)→(∀e∈l,e.key.length≤16∧e.v.data.length≤16)→L.length=l.length∧∀c∈L,c.1.length≤16∧c.2.data.length≤476
 | [],seen,s,L,h,_=>by cases h;simp
 | e::l,seen,s,L,h,hl=>by
  unfold valsL at h
  split at h
  ·cases h
  ·rename_i s1 v1 h1
   split at h
   ·cases h
   ·rename_i s2 L2 h2
    cases h;have ih:=valsL_len h2 (fun e he=>hl e (List.mem_cons_of_mem _ he));have he:=hl e (by simp);refine⟨by simp[ih.1],fun c hc=>?_⟩
    rcases List.mem_cons.1 hc with rfl|hc
    ·exact⟨he.1,valL_len h1 he.2⟩
    ·exact ih.2 c hc
theorem kidsL_len {f:List Int→Int→Except Int (List Int×Tr)} {Q:Tr→Prop}:∀{l:List En} {seen s:List Int} {L:List (List UInt8×Tr)},kidsL f seen l=.ok (s,L)→(∀e∈l,e.key.length≤16)→(∀seen p s t,f seen p=.ok (s,t)→Q t)→L.length=l.length∧∀c∈L,c.1.length≤16∧Q c.2
 | [],seen,s,L,h,_,_=>by cases h;simp
 | e::l,seen,s,L,h,hl,hQ=>by
  unfold kidsL at h
  split at h
  ·cases h
  ·rename_i s1 v1 h1
   split at h
   ·cases h
   ·rename_i s2 L2 h2
    cases h;have ih:=kidsL_len h2 (fun e he=>hl e (List.mem_cons_of_mem _ he)) hQ;refine⟨by simp[ih.1],fun c hc=>?_⟩
    rcases List.mem_cons.1 hc with rfl|hc
    ·exact⟨hl e (by simp),hQ _ _ _ _ h1⟩
    ·exact ih.2 c hc
theorem getN_node {b:List UInt8} (h:getNE b=0):nodeB (getNF b) (getNL b)=true:=by
 have h1:=h;unfold getNE at h1
 split at h1
 ·omega
 ·split at h1
  ·rename_i h2
   unfold getNB at h2;simp only[Bool.and_eq_true] at h2;have h3:=h2.2;cases he:entN b with
   | none=>rw[he] at h3;cases h3
   | some l=>
    rw[he] at h3;unfold getNL getNF;rw[if_pos h,if_pos h,he];exact h3
  ·omega
theorem nodeB_small {leaf:Bool} {l:List En} (h:nodeB leaf l=true):l.length≤122∧(∀e∈l,e.key.length≤16∧e.v.data.length≤16)∧(leaf=false→∀e∈l,2≤e.v.page∧e.v.page≤999):=by
 have hm:=nodeB_may h;unfold nodeB at h;simp only[Bool.and_eq_true,decide_eq_true_eq] at h;refine⟨by omega,fun e he=>?_,fun hl e he=>?_⟩
 ·obtain⟨i,hi⟩:=hm e he
  refine⟨may_len hi,?_⟩;cases leaf
  ·simp only[mayN,Bool.false_eq_true,if_false,mayB,Bool.and_eq_true,beq_iff_eq] at hi
   rw[hi.2.2];simp
  ·simp only[mayN,if_true,mayL] at hi
   split at hi
   ·simp only[Bool.and_eq_true,beq_iff_eq] at hi
    rw[hi.2.1];simp
   ·simp only[Bool.and_eq_true,decide_eq_true_eq] at hi
    exact hi.2.1
 ·obtain⟨i,hi⟩:=hm e he
  subst hl;simp only[mayN,Bool.false_eq_true,if_false,mayB,Bool.and_eq_true] at hi;exact(pageB_iff _).1 hi.2.1
theorem loadT_bnd {d:List Rg} {r:Int}:∀{n:Nat} {seen s:List Int} {p:Int} {t:Tr},loadT d r n seen p=.ok (s,t)→Bnd n t∧t.page=p
 | 0,_,_,_,_,h=>by cases h
 | n+1,seen,s,p,t,h=>by
  unfold loadT at h
  split at h
  ·cases h
  ·split at h
   ·cases h
   ·split at h
    ·cases h
    ·rename_i hE
     have hE0:getNE (readB d r p)=0:=by simpa using hE
     obtain⟨n1,n2,n3⟩:=nodeB_small (getN_node hE0)
     split at h
     ·split at h
      ·cases h
      ·rename_i hv
       cases h;obtain⟨k1,k2⟩:=valsL_len hv n2;exact⟨⟨by omega,fun c hc=>by have:=k2 c hc;omega⟩,rfl⟩
     ·split at h
      ·cases h
      ·rename_i hv
       cases h;obtain⟨k1,k2⟩:=kidsL_len (Q:=fun t=>Bnd n t) hv (fun e he=>(n2 e he).1) (fun _ _ _ _ h=>(loadT_bnd h).1);exact⟨⟨by omega,fun c hc=>⟨by have:=(k2 c hc).1;omega,(k2 c hc).2⟩⟩,rfl⟩
end Go.Proofs.YtpghlmcoajaiiaaGreatDoor
namespace Go.Proofs.YtpghlmcoajaiiaaGreatDoor
open Go.RowKit Go.Maps
def GetPostC (w:World) (R:List UInt8×List Int×Int) (e:Ending) (w':World):Prop:=
 ∃v,e=.returned (.tuple #[.string (strOf R.1),v,.int .i64 R.2.2])∧w'.ownsRow w.heap.size 3 1 v R.2.1.length (R.2.1.map (Value.int .i64))∧Below w.heap.size w w'
theorem getPostC_bad {w w':World} {E:Int} (h:Below w.heap.size w w'):GetPostC w ([],[],E) (.returned (.tuple #[.string ⟨#[]⟩,.slice none 0 0,.int .i64 E])) w':=
 ⟨_,rfl,World.ownsRow_nil _ _ _ _,h⟩
structure GRelC (w:World) (d:List Rg) (r:Int) (pb:Nat) (R:List UInt8×List Int×Int) (s:List UInt8) (L:List Int) (left:Nat) (v:Value) (wr:World):Prop where
 fin:getFC (rdC d r) (5-L.length) s L left=R
 l1:1≤L.length
 l4:L.length≤4
 lf:0<left
 lb:left+119*(L.length-1)≤400
 sl:s.length≤119*(L.length-1)
 plc:Plc w.heap.size wr pb L
 own:wr.ownsRow w.heap.size 5 1 v s.length ((toI s).map (Value.int .u8))
 bl:Below w.heap.size w wr
theorem Plc.list {B:Nat} {w:World} {pb:Nat} {L:List Int} (h:Plc B w pb L) (h1:L≠[]):∃g c,pb<w.heap.size∧g<w.heap.size∧L.length≤c∧c≤9223372036854775807∧w.cell? ⟨pb,0,none⟩=some (.slice (some ⟨g,0,none⟩) L.length c)∧(∀i,i<L.length→w.cell? ⟨g,i,none⟩=some (.int .i64 (atC L i)))∧w.ownsRow B 3 1 (.slice (some ⟨g,0,none⟩) L.length c) L.length (L.map (Value.int .i64)):=by
 obtain⟨v,mb,n,e1,e2,_⟩:=h;obtain⟨a,c,rfl,k1,k2,k3⟩:=own_slice e2;obtain⟨g,rfl⟩:=k3 (by have:=List.length_pos_iff.2 h1;omega);refine⟨g,c,(Array.getElem?_eq_some_iff.1 e1).1,own_lt e2 g rfl,k1,by unfold maxLen at k2;omega,by simp[World.cell?,e1],fun i hi=>?_,e2⟩;have:=e2.cellAt i (by simpa using hi);rw[this];simp[atC,hi]
theorem Plc.grownU {B:Nat} {w w':World} {pb:Nat} {L:List Int} (h:Plc B w pb L) {base size n:Nat} {v:Value} {xs:List Value} (ho:w.ownsRow base 5 size v n xs) (hg:w.grownBy w' v.ownBlock):Plc B w' pb L:=by
 have hk:∀(k:Nat) (o:Obj),w.heap[k]? = some o→(∀c:Array Value,o≠Obj.cells c 5 (0,0))→w'.heap[k]? = some o:=by
  intro k o hk hne;rw[hg.block k (Array.getElem?_eq_some_iff.1 hk).1 (fun e=>?_)]
  ·exact hk
  ·rcases ho.2 with⟨rfl,_⟩|⟨g,cap,cur,rfl,_,hh,_⟩
   ·cases e
   ·cases e
    rw[hh] at hk;exact hne cur (Option.some.inj hk).symm
 obtain⟨v0,mb,n0,h1,h2,⟨D,⟨es,c,h3,h3'⟩,h3''⟩,h4⟩:=h;refine⟨v0,mb,n0,hk pb _ h1 (fun c e=>by cases e),⟨h2.1,h2.2.imp id fun⟨g,cap,cur,e1,hg1,hh,r⟩=>⟨g,cap,cur,e1,hg1,hk g _ hh (fun c e=>by cases e),r⟩⟩,⟨D,⟨es,c,hk mb _ h3 (fun c e=>by cases e),h3'⟩,h3''⟩,h4⟩
theorem oneFNC_lt (d:List Rg) (r p:Int):0≤oneFNC d r p∧oneFNC d r p<65536:=by
 unfold oneFNC oneNC
 split
 ·omega
 ·split
  ·have h1:=beVal_lt (((unpL (readB d r p))[0]?.getD []).take 2)
   have h2:(((unpL (readB d r p))[0]?.getD []).take 2).length≤2:=by rw[List.length_take];omega
   have h3:(256:Nat) ^ (((unpL (readB d r p))[0]?.getD []).take 2).length≤256 ^ 2:=Nat.pow_le_pow_right (by omega) h2;omega
  ·omega
theorem cget_any {w:World} {B da M:Nat} {d:List Rg} (h:One B w da M d) (hh:Half w) (r first size:Int) (hf:I64 first) :
 Calls Tryz.prog 141 #[.pointer (some ⟨da,0,none⟩),.int .i64 r,.int .i64 first,.int .i64 size] w (GetPostC w (getDC d r first size)):=by
 by_cases h0:needC size=0
 ·have HR:Hid (getDC d r first size=([],[],1)):=Hd (by unfold getDC getC;rw[if_pos h0])
  have C:=cneed_any size w;rw[h0] at C;clear h0;go_enter Tryz.func141,Tryz.ntmps141;go_wp2_with fail;refine C.mono ?_;rintro e w1 ⟨rfl,rfl⟩;go_wp2_with fail
  go_ret3
  rw[HR.out];exact getPostC_bad (Below.refl _ _)
 ·have hsz:=needC_pos h0
  obtain⟨sz,rfl⟩:=Int.eq_ofNat_of_zero_le (show 0≤size by omega);obtain⟨w2,hu,hplc,hbl⟩:=plc_new w first hf
  obtain⟨R,hR⟩:∃R,getDC d r first (sz:Int)=R:=⟨_,rfl⟩
  have hR0:=hR;unfold getDC getC at hR0;rw[if_neg h0] at hR0;have HS:=Hd (show GRelC w d r (w2.heap.size+1) R [] [first] sz (.slice none 0 0) ((w2.alloc (.cells #[.int .i64 first] 3)).alloc (.cells #[.slice (some ⟨w2.heap.size,0,none⟩) 1 1,.map (some w.heap.size)] 323)) from⟨hR0,by simp,by simp,by omega,by simp;omega,by simp,hplc,World.ownsRow_nil _ _ _ _,hbl⟩);have C:=cneed_any (sz:Int) w;have q0:((needC (sz:Int):Int) == 0)=false:=by rw[beq_eq_false_iff_ne];omega
  have q0':(needC (sz:Int) == 0)=false:=by simpa using h0
  rw[hR];generalize needC (sz:Int)=ns at *;have hmm:=@run_makeMap Tryz.prog;clear hR hR0 hplc hbl h0;go_enter Tryz.func141,Tryz.ntmps141;go_wp2_with fail;refine C.mono ?_;rintro e w1 ⟨rfl,rfl⟩;go_wp2_with fail;clear hmm;generalize (w2.alloc (.cells #[.int .i64 first] 3)).alloc (.cells #[.slice (some ⟨w2.heap.size,0,none⟩) 1 1,.map (some w.heap.size)] 323)=w3 at *;generalize w2.heap.size+1=pb at *
  go_loopw [12,13] (fun s12 s13 wr=>∃(s:List UInt8) (L:List Int) (left:Nat),s13=.int .i64 left∧GRelC w d r pb R s L left s12 wr) (fun _ s13 _=>(intOf s13).toNat)
  case atStart=>exact⟨[],[first],sz,rfl,HS.out⟩
  case round=>
   clear HS;obtain⟨s,L,left,rfl,hrel⟩:=hrel;obtain⟨m,hn⟩:∃m,L.length=m:=⟨_,rfl⟩
   have hm1:1≤m:=by have:=hrel.l1;omega
   have hLne:L≠[]:=by intro e;rw[e] at hn;simp at hn;omega
   obtain⟨g,c,p1,p2,p3,p4,p5,p6,_⟩:=hrel.plc.list hLne;have hlast:L.getLastD 0=atC L (m-1):=by
    rw[List.getLastD_eq_getLast?,List.getLast?_eq_getElem?,hn];rfl
   have hbw:=hrel.bl;have cA:∀W,Below wr.heap.size wr W→W.cell? ⟨pb,0,none⟩=some (.slice (some ⟨g,0,none⟩) m c):=fun W hW=>by rw[hW.cell (p:=⟨pb,0,none⟩) p1,p5,hn]
   have cB:∀W,Below wr.heap.size wr W→W.cell? ⟨g,m-1,none⟩=some (.int .i64 (atC L (m-1))):=fun W hW=>by rw[hW.cell (p:=⟨g,m-1,none⟩) p2,p6 (m-1) (by omega)]
   have hb0:Below wr.heap.size wr wr.drew:=below_drewN (Below.refl _ _) 1;have hb0w:Below w.heap.size w wr.drew:=below_drewN hbw 1;have C:=cone_any (h.below hb0w) (hh.below (Nat.le_refl _) hb0w) r (atC L (m-1));have hfin:=hrel.fin;obtain⟨fu,hfu⟩:∃fu,5-L.length=fu+1:=⟨4-L.length,by have:=hrel.l4;omega⟩
   rw[hfu,getFC,hlast] at hfin
   try simp only at hfin
   rw[hn] at p3;have HREL:=Hd hrel;have HN:=Hd hn;have HFU:=Hd hfu;have HFIN:=Hd hfin;have hlf:=hrel.lf;have hlb:=hrel.lb;have hm4:=hrel.l4;obtain⟨av,cv,hev,hcv,hcvm,_⟩:=own_slice hrel.own;subst hev;unfold maxLen at hcvm;clear hrel hfin p5 p6 hLne hlast hbw hb0w hfu;rw[hn] at hlb hm4;clear hn;generalize hlst:atC L (m-1)=last at *;have HLST:=Hd hlst;clear hlst;have iw:IntKind.i64.wrap ((m:Int)-1)=(m:Int)-1:=by simp[IntKind.wrap,IntKind.signed,IntKind.bits];omega
   have j1:1≤m:=hm1;have j2:(1:Int)≤(m:Int):=by omega
   have j3:decide ((0:Int)≤(m:Int)-1)=true:=by simp;omega
   have j4:decide ((m:Int)-1<(m:Int))=true:=decide_eq_true (by omega);have i1:(0:Int)≤(m:Int)-1:=by omega
   have i2:(m:Int)-1<(m:Int):=by omega
   have i3:((m:Int)-1).toNat=m-1:=by omega
   go_wp2_with fail
   go_region_held3 (fun W=>Below wr.heap.size wr W) (with_reducible assumption) (first|(go_at_call 178;refine C.mono ?_;rintro e wx ⟨vx,rfl,hox,hbx⟩;have hBx:Below wr.heap.size wr wx:=below_then hb0 hbx))
   have HBX:=Hd (below_then HREL.out.bl hBx);have HPX:=Hd (HREL.out.plc.below hBx);have HOX:=Hd (own_below HREL.out.own (Nat.le_refl _) hBx);have HF2:=HFIN.out;rw[show(rdC d r last).1=oneFEC d r last from rfl,show(rdC d r last).2.1=oneFNC d r last from rfl,show(rdC d r last).2.2=oneFPC d r last from rfl] at HF2;generalize oneFEC d r last=E at *;have hNlt:=oneFNC_lt d r last;generalize oneFNC d r last=N at *;generalize oneFPC d r last=P at *
   by_cases hE:E=0
   ·subst hE
    obtain⟨ax,cx,rfl,hcx,hcxm,_⟩:=own_slice hox;unfold maxLen at hcxm;obtain⟨f,hfm⟩:∃f,min left 119=f:=⟨_,rfl⟩
    have hmin:(if (119:Int)<(left:Int) then (119:Int) else (left:Int))=(f:Int):=by rw[←hfm];split<;>omega
    have hmin2:(if 119<left then (119:Int) else (left:Int))=(f:Int):=by rw[←hfm];split<;>omega
    have hfi:min (left:Int) 119=(f:Int):=by omega
    rw[hfi] at HF2
    by_cases hk:P.length=f
    ·rw[if_neg (by rintro(h|⟨_,h⟩);exact absurd h (by decide);exact h (by omega)),if_neg (by simp)] at HF2
     have z2:((P.length:Int) != (f:Int))=false:=by rw[bne_eq_false_iff_eq];omega
     have z3:((P.length:Int) == (f:Int))=true:=by rw[beq_iff_eq];omega
     obtain⟨q,hq⟩:∃q,left-P.length=q:=⟨_,rfl⟩
     have hLI:(left:Int)-(P.length:Int)=(q:Int):=by omega
     rw[hLI] at HF2;have hPl:P.length≤119:=by omega
     obtain⟨i0,hi,hz0,hz1,hz2⟩:=info_parts info_u8;obtain⟨aP,cP,eP,hbsP⟩:=Bs.of_own hox;cases eP;have hsl:=HREL.out.sl;have hm5:=HN.out;obtain⟨v2,wy,hr2,ho2,hg2,_⟩:=run_append_row (P:=Tryz.prog) (w:=wx) w.heap.size 42 5 i0 _ 1 Tryz.underlying42 hi hz0 hz1 hz2 rfl HOX.out hbsP (by unfold maxLen;omega) (by omega) HBX.out.size;have HP2:=Hd (HPX.out.grownU HOX.out hg2);have HB2:=Hd (HBX.out.grown hg2 HBX.out.size (own_ge HOX.out));have ho2':wy.ownsRow w.heap.size 5 1 v2 (s++P).length ((toI (s++P)).map (Value.int .u8)):=by
      rw[List.length_append];simpa[toI] using ho2
     have HO2:=Hd ho2';obtain⟨a2,c2,rfl,hbs2⟩:=Bs.of_own ho2';have hsl2:s.length+P.length=(s++P).length:=by simp
     have hLne:L≠[]:=by intro e;rw[e] at hm5;simp at hm5;omega
     obtain⟨g2,cc2,t1,t2,t3,t4,t5,t6,t7⟩:=HP2.out.list hLne;have hlen9:(s++P).length=s.length+f:=by rw[List.length_append,hk]
     rw[hlen9] at hbs2;have hcv2:∀W,Below wy.heap.size wy W→(convert 42 9 (.slice a2 (s.length+f) c2)).run Tryz.prog W=.ok (.string (strOf (s++P))) W:=fun W hW=>conv_string (P:=Tryz.prog) Tryz.underlying42 Tryz.underlying5 Tryz.underlying9 (hbs2.below (Nat.le_refl _) hW)
     have cP2:∀W,Below wy.heap.size wy W→W.cell? ⟨pb,0,none⟩=some (.slice (some ⟨g2,0,none⟩) L.length cc2):=fun W hW=>(hW.cell (p:=⟨pb,0,none⟩) t1).trans t5
     have hby0:Below wy.heap.size wy wy.drew:=below_drewN (Below.refl _ _) 1;clear hox hbx hBx cA cB C HFIN ho2 ho2' hg2 hbsP hi hz0 hz1 hz2 hbs2 t6 hLne
     by_cases h0:q=0
     ·subst h0
      by_cases hN:N=0
      ·subst hN
       rw[if_pos ⟨rfl,rfl⟩] at HF2;have HE:Hid (GetPostC w R (.returned (.tuple #[.string (strOf (s++P)),.slice (some ⟨g2,0,none⟩) m cc2,.int .i64 0])) wy):=Hd (by
        rw[←HF2];refine⟨_,rfl,?_,HB2.out⟩;show wy.ownsRow _ _ 1 _ L.length (L.map _);have t8:=t7;rw[hm5] at t8 ⊢;exact t8)
       clear HF2 t7 hfm hfi;have hw:IntKind.i64.wrap ((left:Int)-(P.length:Int))=(0:Int):=by rw[hLI];rfl
       go_wp2_with (at_builtin;refine wpList_append_run rfl _ _ _ _ rfl rfl rfl hr2 ?_)
       go_region_held3 (fun W=>Below wy.heap.size wy W) (with_reducible assumption) (fail)
       all_goals
        go_wp2_with fail
        go_ret3
        obtain⟨vv,k1,k2,k3⟩:=HE.out;exact⟨vv,k1,k2,below_drewN k3 1⟩
      ·rw[if_neg (fun h=>hN h.2),if_pos (.inl rfl)] at HF2
       have HE:Hid (GetPostC w R (.returned (.tuple #[.string ⟨#[]⟩,.slice none 0 0,.int .i64 11])) wy):=Hd (by rw[←HF2];exact getPostC_bad HB2.out);have hw:IntKind.i64.wrap ((left:Int)-(P.length:Int))=(0:Int):=by rw[hLI];rfl
       have z5:(N == 0)=false:=by simpa using hN
       clear HF2 t7 hfm hfi
       go_wp2_with (at_builtin;refine wpList_append_run rfl _ _ _ _ rfl rfl rfl hr2 ?_)
       go_ret3
       exact HE.out
     ·rw[if_neg (fun h=>h0 (by have:=h.1;omega))] at HF2
      have hw:IntKind.i64.wrap ((left:Int)-(P.length:Int))=(q:Int):=by rw[hLI];simp[IntKind.wrap,IntKind.signed,IntKind.bits];omega
      have z5:((q:Int) == 0)=false:=by rw[beq_eq_false_iff_ne];omega
      have z6:(q == 0)=false:=by simpa using h0
      have A:=add_any HP2.out (by omega) N (by unfold I64;omega);have hm3:m≤3:=by omega
      have HQ:Hid (left=q+f∧f=119∧m≤3):=Hd ⟨by omega,by omega,hm3⟩;have HF3:=Hd HF2;have HL9:=Hd hlen9;have HH0:=Hd h0;clear HF2 t7 hfm hfi
      go_wp2_with (at_builtin;refine wpList_append_run rfl _ _ _ _ rfl rfl rfl hr2 ?_)
      refine A.mono ?_;rintro e wz ⟨hbz,hku,hpz⟩
      by_cases hg:pgC N=true∧N∉L
      ·rw[if_pos hg] at hpz
       obtain⟨rfl,hpl⟩:=hpz;have HF4:=HF3.out;rw[if_neg (by rintro(h|h|h);exact HH0.out (by omega);rw[hg.1] at h;cases h;exact hg.2 h)] at HF4;have HG:=Hd (show GRelC w d r pb R (s++P) (L++[N]) q (.slice a2 (s.length+f) c2) wz from⟨by rw[←HF4];congr 1;rw[List.length_append];have:=HFU.out;simp;omega,by simp,by have:=HQ.out;have:=HN.out;simp;omega,by omega,by have:=HQ.out;have:=HN.out;simp;omega,by have:=HQ.out;have:=HN.out;have:=HREL.out.sl;have:=HL9.out;simp;omega,hpl,by have:=hku.own HO2.out;rw[HL9.out] at this ⊢;exact this,HB2.out.trans hbz⟩);clear A hpl hku hbz HF4;go_wp2_with fail;go_roundw
       case rel=>exact⟨s++P,L++[N],q,by congr 1;have:=HQ.out;omega,HG.out⟩
       case measure=>have:=HQ.out;simp[intOf];omega
      ·rw[if_neg hg] at hpz
       obtain⟨rfl,rfl⟩:=hpz;have HF4:=HF3.out;rw[if_pos (by
        by_cases h1:pgC N=true
        ·exact .inr (.inr (by by_cases h2:N∈L;exact h2;exact absurd ⟨h1,h2⟩ hg))
        ·exact .inr (.inl (by simpa using h1)))] at HF4
       have HE:Hid (GetPostC w R (.returned (.tuple #[.string ⟨#[]⟩,.slice none 0 0,.int .i64 11])) wy):=Hd (by rw[←HF4];exact getPostC_bad HB2.out);clear A HF4 hku hbz hg;go_wp2_with fail
       go_ret3
       exact HE.out
    ·rw[if_pos (.inr ⟨rfl,by omega⟩)] at HF2
     have HE:Hid (GetPostC w R (.returned (.tuple #[.string ⟨#[]⟩,.slice none 0 0,.int .i64 11])) wx):=Hd (by rw[←HF2];exact getPostC_bad HBX.out);have z1:((P.length:Int) != (f:Int))=true:=by rw[bne_iff_ne];omega
     have z2:((P.length:Int) == (f:Int))=false:=by rw[beq_eq_false_iff_ne];omega
     clear HF2 hox hbx hBx cA cB C HFIN hfi hfm hk;go_wp2_with fail
     go_ret3
     exact HE.out
   ·by_cases hE2:E=10
    ·subst hE2
     rw[if_pos (.inl rfl)] at HF2;have HE:Hid (GetPostC w R (.returned (.tuple #[.string ⟨#[]⟩,.slice none 0 0,.int .i64 11])) wx):=Hd (by rw[←HF2];exact getPostC_bad HBX.out);clear HF2 hox hbx hBx cA cB C HFIN;go_wp2_with fail
     go_ret3
     exact HE.out
    ·rw[if_neg (by rintro(h|h);exact hE2 h;exact hE h.1),if_pos hE] at HF2
     have HE:Hid (GetPostC w R (.returned (.tuple #[.string ⟨#[]⟩,.slice none 0 0,.int .i64 E])) wx):=Hd (by rw[←HF2];exact getPostC_bad HBX.out);have z1:(E == 10)=false:=by simpa using hE2
     have z2:(E == 0)=false:=by simpa using hE
     have z3:(E != 0)=true:=by simpa using hE
     clear HF2 hox hbx hBx cA cB C HFIN hE hE2;go_wp2_with fail
     go_ret3
     exact HE.out
end Go.Proofs.YtpghlmcoajaiiaaGreatDoor
namespace Go.Proofs.YtpghlmcoajaiiaaGreatDoor
open Go.RowKit
theorem TabR.tk {α:Type} {sz:Nat} {R:List Value→α→Prop} {w:World} {a:Option Addr} {len cap:Nat} {l:List α} (h:TabR sz R w a len cap l) {j:Nat} (hj:j≤len):TabR sz R w a j cap (l.take j):=by
 obtain⟨h1,h2,h3,hn,h4⟩:=h;refine⟨by simp;omega,by omega,h3,hn,?_⟩
 rcases h4 with h4|⟨b,off,h5,h6,h7⟩
 ·exact .inl (by omega)
 ·refine .inr ⟨b,off,h5,h6,fun i y hy=>h7 i y ?_⟩
  have hi:i<j:=by have:=(List.getElem?_eq_some_iff.1 hy).1;simp at this;omega
  rwa [List.getElem?_take_of_lt hi] at hy
theorem TabR.dp {α:Type} {sz:Nat} {R:List Value→α→Prop} {w:World} {a:Option Addr} {len cap:Nat} {l:List α} (h:TabR sz R w a len cap l) {j:Nat} (hj:j≤len) :
 TabR sz R w (if cap=j then a else a.map (·.add (j*sz))) (len-j) (cap-j) (l.drop j):=by
 obtain⟨h1,h2,h3,hn,h4⟩:=h;refine⟨by simp;omega,by omega,by omega,(fun h=>by
  have:cap=0:=by
   by_cases e:cap=j
   ·rw[if_pos e] at h;exact hn h
   ·rw[if_neg e] at h;exact hn (by simpa using h)
  omega),?_⟩
 rcases h4 with h4|⟨b,off,rfl,h6,h7⟩
 ·exact .inl (by omega)
 ·by_cases e:cap=j
  ·exact .inl (by omega)
  ·refine .inr ⟨b,off+j*sz,by rw[if_neg e];simp[add_none],h6,fun i y hy=>?_⟩
   rw[List.getElem?_drop] at hy;obtain⟨cs,c1,c2,c3⟩:=h7 (j+i) y hy;refine⟨cs,c1,c2,fun k v hv=>?_⟩;rw[←c3 k v hv]
   congr 2
   rw[Nat.add_mul];omega
def RowInfo (P:Program) (e:TypeId) (sz bytes:Nat):Prop:=∃i z,P.info? e=some i∧i.zero=some z∧i.size=sz∧i.bytes=bytes∧z.cells.size=sz
theorem row_info {P:Program} {e:TypeId} {sz bytes:Nat} (h:(P.info? e).map (fun i=>(i.zero.map (·.cells.size),i.size,i.bytes))=some (some sz,sz,bytes)):RowInfo P e sz bytes:=by
 cases hi:P.info? e with
 | none=>rw[hi] at h;cases h
 | some i=>
  rw[hi] at h;simp only[Option.map_some,Option.some.injEq,Prod.mk.injEq] at h;obtain⟨h1,h2,h3⟩:=h;obtain⟨z,h4,h5⟩:=Option.map_eq_some_iff.1 h1;exact⟨i,z,hi,h4,h2,h3,h5⟩
theorem own_base {w:World} {B B':Nat} {e:TypeId} {size:Nat} {v:Value} {n:Nat} {xs:List Value} (h:w.ownsRow B e size v n xs) (hB:B'≤B):w.ownsRow B' e size v n xs:=
 ⟨h.1,h.2.imp id fun⟨g,cap,cur,e1,hg,r⟩=>⟨g,cap,cur,e1,Nat.le_trans hB hg,r⟩⟩
theorem own_held {w w':World} {base:Nat} {e:TypeId} {size:Nat} {v:Value} {n:Nat} {xs:List Value} (h:w.ownsRow base e size v n xs) (hb:Below w.heap.size w w'):w'.ownsRow base e size v n xs:=by
 refine⟨h.1,h.2.imp id fun⟨g,cap,cur,e1,hg,hh,r⟩=>⟨g,cap,cur,e1,hg,?_,r⟩⟩;rw[hb.block g (Array.getElem?_eq_some_iff.1 hh).1];exact hh
theorem own_nil (W:World) (t:TypeId) (sz base:Nat):W.ownsRow base t sz (.slice none 0 0) 0 []:=⟨by simp,.inl ⟨rfl,rfl⟩⟩
def NodeR (n:Nat) (w:World) (K:List (Cl 1)) (V:List (Cl 2)) (C:List (Cl 5)):Tr→Prop
 | .leaf _ l=>Tells IsKey K (keysOf l)∧Tells (IsTv w) V (l.map (·.2))∧C=[]
 | .node _ l=>Tells IsKey K (keysOf l)∧V=[]∧Tells (NodeIn n w) C (l.map (·.2))
theorem IsKey.one {cs:List Value} {y:List UInt8} (h:IsKey cs y):∀u∈cs,u.oneCell'=true:=by
 have h:cs=_:=h;subst h;intro u hu;simp at hu;subst hu;rfl
theorem IsTv.one {w:World} {cs:List Value} {v:Tv} (h:IsTv w cs v):∀u∈cs,u.oneCell'=true:=by
 obtain⟨a,n,c,rfl,_⟩:=h;intro u hu;simp at hu;rcases hu with rfl|rfl<;>rfl
theorem NodeIn.one {n:Nat} {w:World} {cs:List Value} {t:Tr} (h:NodeIn n w cs t):∀u∈cs,u.oneCell'=true:=by
 cases n with
 | zero=>exact h.elim
 | succ n=>
  cases t with
  | leaf p l=>
   obtain⟨ka,kn,kc,va,vn,vc,ca,cc,rfl,_⟩:=h;intro u hu;simp at hu;rcases hu with rfl|rfl|rfl|rfl|rfl<;>rfl
  | node p l=>
   obtain⟨ka,kn,kc,va,vc,ca,cn,cc,rfl,_⟩:=h;intro u hu;simp at hu;rcases hu with rfl|rfl|rfl|rfl|rfl<;>rfl
theorem unit_nil {α:Type} {sz:Nat} {R:List Value→α→Prop} {w:World} {a:Option Addr} {c:Nat} (h:TabR sz R w a 0 c []):Raw sz w a 0 c []:=⟨rfl,h.2.1,h.2.2.1,h.2.2.2.1,.inl rfl⟩
theorem nil_unit {α:Type} {sz:Nat} {R:List Value→α→Prop} {w:World} {a:Option Addr} {c:Nat} (h:Raw sz w a 0 c []):TabR sz R w a 0 c []:=⟨rfl,h.2.1,h.2.2.1,h.2.2.2.1,.inl rfl⟩
theorem NodeIn.open {n:Nat} {w:World} {cs:List Value} {t:Tr} (h:NodeIn (n+1) w cs t) :
 ∃ka kn kc va vn vc ca cn cc K V C,cs=[.int .i64 t.page,.bool t.isLeaf,.slice ka kn kc,.slice va vn vc,.slice ca cn cc]∧Raw 1 w ka kn kc K∧Raw 2 w va vn vc V∧Raw 5 w ca cn cc C∧NodeR n w K V C t:=by
 cases t with
 | leaf p l=>
  obtain⟨ka,kn,kc,va,vn,vc,ca,cc,e,h1,h2,h3⟩:=h;obtain⟨K,k1,k2⟩:=TabR.raw h1 (fun _ _ h=>h.one);obtain⟨V,v1,v2⟩:=TabR.raw h2 (fun _ _ h=>h.one);exact⟨ka,kn,kc,va,vn,vc,ca,0,cc,K,V,[],e,k1,v1,unit_nil h3,k2,v2,rfl⟩
 | node p l=>
  obtain⟨ka,kn,kc,va,vc,ca,cn,cc,e,h1,h2,h3⟩:=h;obtain⟨K,k1,k2⟩:=TabR.raw h1 (fun _ _ h=>h.one);obtain⟨C,c1,c2⟩:=TabR.raw h3 (fun _ _ h=>h.one);exact⟨ka,kn,kc,va,0,vc,ca,cn,cc,K,[],C,e,k1,unit_nil h2,c1,k2,rfl,c2⟩
theorem NodeR.keys {n:Nat} {w:World} {K:List (Cl 1)} {V:List (Cl 2)} {C:List (Cl 5)} {t:Tr} (h:NodeR n w K V C t):Tells IsKey K t.keys:=by
 cases t with
 | leaf p l=>exact h.1
 | node p l=>exact h.1
theorem keys_len (t:Tr):t.keys.length=cntT t:=by cases t<;>simp[Tr.keys,keysOf,cntT]
theorem NodeR.lens {n:Nat} {w:World} {K:List (Cl 1)} {V:List (Cl 2)} {C:List (Cl 5)} {t:Tr} (h:NodeR n w K V C t):K.length=cntT t∧V.length=(if t.isLeaf then cntT t else 0)∧C.length=(if t.isLeaf then 0 else cntT t):=by
 refine⟨by rw[h.keys.1,keys_len],?_⟩;cases t with
 | leaf p l=>exact⟨by rw[h.2.1.1];simp[Tr.isLeaf,cntT],by rw[h.2.2];simp[Tr.isLeaf]⟩
 | node p l=>exact⟨by rw[h.2.1];simp[Tr.isLeaf],by rw[h.2.2.1];simp[Tr.isLeaf,cntT]⟩
def kCell (k:List UInt8):Cl 1:=⟨[.string (strOf k)],rfl,by intro u hu;simp at hu;subst hu;rfl⟩
theorem Tells.key {K:List (Cl 1)} {l:List (List UInt8)} (h:Tells IsKey K l) {i:Nat} (hi:i<l.length):K[i]? = some (kCell (l[i]?.getD [])):=by
 have hk:i<K.length:=by rw[h.1];exact hi
 have hx:K[i]? = some K[i]:=List.getElem?_eq_getElem hk;have:=h.2 i _ _ hx (List.getElem?_eq_getElem hi);rw[hx,List.getElem?_eq_getElem hi]
 congr 1
 exact Subtype.ext this
theorem Tells.keys {K:List (Cl 1)} {l:List (List UInt8)} (h:Tells IsKey K l):K=l.map kCell:=by
 apply List.ext_getElem?;intro i
 by_cases hi:i<l.length
 ·rw[h.key hi];simp[hi]
 ·rw[List.getElem?_eq_none (by rw[h.1];omega),List.getElem?_eq_none (by simp;omega)]
theorem Raw.key_at {w:World} {a:Option Addr} {n c:Nat} {l:List (List UInt8)} (h:Raw 1 w a n c (l.map kCell)) {k:Nat} (hk:k<n) :
 ∃b off,a=some ⟨b,off,none⟩∧b<w.heap.size∧w.cell? ⟨b,off+k,none⟩=some (.string (strOf (l[k]?.getD []))):=by
 obtain⟨b,off,y,cs,e1,e2,e3,_,e5,e6⟩:=TabR.at h hk;have hl:=h.1;have hkl:k<l.length:=by simpa using(show k<(l.map kCell).length by omega)
 simp[hkl] at e3;subst e3;have e5:cs=_:=e5;subst e5;have:=e6 0 _ rfl;refine⟨b,off,e1,e2,?_⟩;simpa[hkl] using this
open Go.RowKit
theorem Below.al {a w:World} {o:Obj} (h:Below a.heap.size a w):Below a.heap.size a (w.alloc o):=h.alloc h.size o
theorem Below.dr {B:Nat} {a w:World} (h:Below B a w):Below B a w.drew:=h.drew
theorem Below.st {a w:World} {b i:Nat} {u:Value} (h:Below a.heap.size a w) (hb:a.heap.size≤b):Below a.heap.size a (w.setCell ⟨b,i,none⟩ u):=h.setCell hb _
theorem Boxes.al {w:World} {l:List (Nat×List Value)} {o:Obj} (h:Boxes w l):Boxes (w.alloc o) l:=h.step ((Below.refl _ _).alloc (Nat.le_refl _) o)
theorem Boxes.st {w:World} {l:List (Nat×List Value)} {b i:Nat} {u:Value} (h:Boxes w l) (hne:∀p∈l,p.1≠b):Boxes (w.setCell ⟨b,i,none⟩ u) l:=h.set ⟨b,i,none⟩ u hne
theorem below_via {a W w':World} (h1:Below a.heap.size a W) (h2:Below W.heap.size W w'):Below a.heap.size a w':=h1.trans (h2.mono h1.size)
def BoxAt (w:World) (b:Nat) (cs:Array Value):Prop:=∃t,w.heap[b]? = some (.cells cs t (0,0))
theorem BoxAt.here {w:World} {cs:Array Value} {t:TypeId}:BoxAt (w.alloc (.cells cs t)) w.heap.size cs:=⟨t,World.alloc_heap_new w (.cells cs t)⟩
theorem BoxAt.here2 {w:World} {o:Obj} {cs:Array Value} {t:TypeId}:BoxAt ((w.alloc o).alloc (.cells cs t)) (w.heap.size+1) cs:=by
 have:=World.alloc_heap_new (w.alloc o) (.cells cs t);exact⟨t,by simpa using this⟩
theorem BoxAt.here3 {w:World} {o o':Obj} {cs:Array Value} {t:TypeId}:BoxAt (((w.alloc o).alloc o').alloc (.cells cs t)) (w.heap.size+1+1) cs:=by
 have:=World.alloc_heap_new ((w.alloc o).alloc o') (.cells cs t);exact⟨t,by simpa using this⟩
theorem BoxAt.below {w w':World} {b:Nat} {cs:Array Value} (h:BoxAt w b cs) (hb:Below w.heap.size w w'):BoxAt w' b cs:=by
 obtain⟨t,ht⟩:=h;exact⟨t,(hb.block b (Array.getElem?_eq_some_iff.1 ht).1).trans ht⟩
theorem BoxAt.al {w:World} {b:Nat} {cs:Array Value} {o:Obj} (h:BoxAt w b cs):BoxAt (w.alloc o) b cs:=h.below ((Below.refl _ _).alloc (Nat.le_refl _) o)
theorem BoxAt.dr {w:World} {b:Nat} {cs:Array Value} (h:BoxAt w b cs):BoxAt w.drew b cs:=h
theorem BoxAt.cell {w:World} {b:Nat} {cs:Array Value} (h:BoxAt w b cs) {i:Nat} {v:Value} (hv:cs[i]? = some v):w.cell? ⟨b,i,none⟩=some v:=by
 obtain⟨t,ht⟩:=h;simp only[World.cell?,ht];exact hv
theorem BoxAt.lt {w:World} {b:Nat} {cs:Array Value} (h:BoxAt w b cs):b<w.heap.size:=by
 obtain⟨t,ht⟩:=h;exact(Array.getElem?_eq_some_iff.1 ht).1
theorem raw_box {sz:Nat} {w:World} {b:Nat} {L:List (Cl sz)} (h:BoxAt w b (flatC L).toArray) (hl:L.length≤1000):Raw sz w (some ⟨b,0,none⟩) L.length L.length L:=by
 refine⟨rfl,Nat.le_refl _,by unfold maxLen;omega,(fun h=>by cases h),.inr ⟨_,_,rfl,h.lt,fun i y hy=>⟨y.1,y.2.1,rfl,fun j v hv=>?_⟩⟩⟩;have:=flat_get (fun y:Cl sz=>y.1) sz (fun y=>y.2.1) L i y j v hy hv;rw[Nat.zero_add];exact h.cell (by simpa[flatC] using this)
open Go.RowKit
def Fa (F:Nat→Prop) (a:Option Addr) (n:Nat):Prop:=n=0∨∀b off,a=some ⟨b,off,none⟩→F b
theorem Fa.mono {F G:Nat→Prop} {a:Option Addr} {n:Nat} (h:Fa F a n) (hFG:∀b,F b→G b):Fa G a n:=h.imp id fun h b off e=>hFG b (h b off e)
theorem Fa.zero (F:Nat→Prop) (a:Option Addr):Fa F a 0:=.inl rfl
theorem Fa.of_own {F:Nat→Prop} {w:World} {base:Nat} {e:TypeId} {sz:Nat} {a:Option Addr} {n c m:Nat} {xs:List Value} (h:w.ownsRow base e sz (.slice a n c) m xs) (hF:∀b,base≤b→F b):Fa F a n:=by
 right
 intro b off e;subst e
 rcases h.2 with⟨h,_⟩|⟨g,cap,cur,h,hb,_⟩
 ·cases h
 ·cases h;exact hF _ hb
def AgreeF (F:Nat→Prop) (w w':World):Prop:=w.heap.size≤w'.heap.size∧∀b,F b→b<w.heap.size→w'.heap[b]? = w.heap[b]?
theorem AgreeF.of_below {F:Nat→Prop} {w w':World} (h:Below w.heap.size w w'):AgreeF F w w':=⟨h.size,fun b _ hb=>h.block b hb⟩
theorem AgreeF.trans {F:Nat→Prop} {a b c:World} (h:AgreeF F a b) (g:AgreeF F b c):AgreeF F a c:=⟨Nat.le_trans h.1 g.1,fun k hk hlt=>(g.2 k hk (Nat.lt_of_lt_of_le hlt h.1)).trans (h.2 k hk hlt)⟩
theorem AgreeF.set {F:Nat→Prop} {a w:World} (h:AgreeF F a w) {p:Addr} {u:Value} (hp:¬F p.block∨a.heap.size≤p.block):AgreeF F a (w.setCell p u):=by
 refine⟨by simpa using h.1,fun b hF hb=>?_⟩;rw[Below.heap_setCell w p u b (fun e=>by subst e;rcases hp with hp|hp;exact hp hF;omega)];exact h.2 b hF hb
theorem AgreeF.cell {F:Nat→Prop} {w w':World} (h:AgreeF F w w') {b o:Nat} (hF:F b) (hb:b<w.heap.size):w'.cell? ⟨b,o,none⟩=w.cell? ⟨b,o,none⟩:=World.cell?_of_block (h.2 b hF hb)
theorem TabR.agree {α:Type} {sz:Nat} {R R':List Value→α→Prop} {F:Nat→Prop} {w w':World} {a:Option Addr} {len cap:Nat} {l:List α} (h:TabR sz R w a len cap l) (hF:Fa F a len) (ha:AgreeF F w w') (hR:∀cs y,y∈l→R cs y→R' cs y):TabR sz R' w' a len cap l:=by
 obtain⟨h1,h2,h3,hn,h4⟩:=h;refine⟨h1,h2,h3,hn,?_⟩
 rcases h4 with h4|⟨b,off,h5,h6,h7⟩
 ·exact .inl h4
 ·rcases hF with hF|hF
  ·exact .inl hF
  ·exact .inr ⟨b,off,h5,Nat.lt_of_lt_of_le h6 ha.1,fun i y hy=>by
    obtain⟨cs,c1,c2,c3⟩:=h7 i y hy;exact⟨cs,c1,hR _ _ (List.mem_of_getElem? hy) c2,fun j v hv=>(ha.cell (hF b off h5) h6).trans (c3 j v hv)⟩⟩
theorem Row.agree {k:IntKind} {F:Nat→Prop} {w w':World} {a:Option Addr} {len cap:Nat} {l:List Int} (h:Row k w a len cap l) (hF:Fa F a len) (ha:AgreeF F w w'):Row k w' a len cap l:=by
 obtain⟨h1,h2,h3,hn,h4⟩:=h;refine⟨h1,h2,h3,hn,?_⟩
 rcases h4 with h4|⟨b,off,h5,h6,h7⟩
 ·exact .inl h4
 ·rcases hF with hF|hF
  ·exact .inl hF
  ·exact .inr ⟨b,off,h5,Nat.lt_of_lt_of_le h6 ha.1,fun i hi=>(ha.cell (hF b off h5) h6).trans (h7 i hi)⟩
theorem TabR.block {α:Type} {sz:Nat} {R:List Value→α→Prop} {w:World} {a:Option Addr} {len cap:Nat} {l:List α} (h:TabR sz R w a len cap l):Fa (fun b=>b<w.heap.size) a len:=by
 rcases h.2.2.2.2 with h4|⟨b,off,h5,h6,_⟩
 ·exact .inl h4
 ·exact .inr fun b' off' e=>by rw[h5] at e;cases e;exact h6
theorem Row.block {k:IntKind} {w:World} {a:Option Addr} {len cap:Nat} {l:List Int} (h:Row k w a len cap l):Fa (fun b=>b<w.heap.size) a len:=by
 rcases h.2.2.2.2 with h4|⟨b,off,h5,h6,_⟩
 ·exact .inl h4
 ·exact .inr fun b' off' e=>by rw[h5] at e;cases e;exact h6
theorem Fa.and {F G:Nat→Prop} {a:Option Addr} {n:Nat} (h:Fa F a n) (g:Fa G a n):Fa (fun b=>F b∧G b) a n:=by
 rcases h with h|h
 ·exact .inl h
 ·rcases g with g|g
  ·exact .inl g
  ·exact .inr fun b off e=>⟨h b off e,g b off e⟩
theorem unit_any {α β:Type} {sz:Nat} {R:List Value→α→Prop} {R':List Value→β→Prop} {w w':World} {a:Option Addr} {c:Nat} (h:TabR sz R w a 0 c []):TabR sz R' w' a 0 c []:=⟨rfl,h.2.1,h.2.2.1,h.2.2.2.1,.inl rfl⟩
def TvOn (F:Nat→Prop) (w:World) (cs:List Value) (v:Tv):Prop:=∃a n c,cs=[.string (strOf v.data),.slice a n c]∧Row .i64 w a n c v.pages∧Fa F a n
theorem TvOn.toIn {F:Nat→Prop} {w:World} {cs:List Value} {v:Tv} (h:TvOn F w cs v):IsTv w cs v:=by
 obtain⟨a,n,c,e,h1,_⟩:=h;exact⟨a,n,c,e,h1⟩
theorem TvOn.agree {F:Nat→Prop} {w w':World} {cs:List Value} {v:Tv} (h:TvOn F w cs v) (ha:AgreeF F w w'):TvOn F w' cs v:=by
 obtain⟨a,n,c,e,h1,h2⟩:=h;exact⟨a,n,c,e,h1.agree h2 ha,h2⟩
theorem TvOn.mono {F G:Nat→Prop} {w:World} {cs:List Value} {v:Tv} (h:TvOn F w cs v) (hFG:∀b,F b→G b):TvOn G w cs v:=by
 obtain⟨a,n,c,e,h1,h2⟩:=h;exact⟨a,n,c,e,h1,h2.mono hFG⟩
def NodeOn (F:Nat→Prop):Nat→World→List Value→Tr→Prop
 | 0,_,_,_=>False
 | _+1,w,cs,.leaf p l=>∃ka kn kc va vn vc ca cc,cs=[.int .i64 p,.bool true,.slice ka kn kc,.slice va vn vc,.slice ca 0 cc]∧KeysIn w ka kn kc (keysOf l)∧Fa F ka kn∧TabR 2 (TvOn F w) w va vn vc (l.map (·.2))∧Fa F va vn∧TabR 5 (fun _ (_:Unit)=>True) w ca 0 cc []
 | n+1,w,cs,.node p l=>∃ka kn kc va vc ca cn cc,cs=[.int .i64 p,.bool false,.slice ka kn kc,.slice va 0 vc,.slice ca cn cc]∧KeysIn w ka kn kc (keysOf l)∧Fa F ka kn∧TabR 2 (fun _ (_:Unit)=>True) w va 0 vc []∧TabR 5 (NodeOn F n w) w ca cn cc (l.map (·.2))∧Fa F ca cn
theorem NodeOn.toIn {F:Nat→Prop}:∀{n:Nat} {w:World} {cs:List Value} {t:Tr},NodeOn F n w cs t→NodeIn n w cs t
 | 0,_,_,_,h=>h.elim
 | _+1,_,_,.leaf p l,h=>by
  obtain⟨ka,kn,kc,va,vn,vc,ca,cc,e,h1,_,h2,_,h3⟩:=h;exact⟨ka,kn,kc,va,vn,vc,ca,cc,e,h1,TabR.mono h2 (fun _ _ h=>h.toIn),h3⟩
 | n+1,_,_,.node p l,h=>by
  obtain⟨ka,kn,kc,va,vc,ca,cn,cc,e,h1,_,h2,h3,_⟩:=h;exact⟨ka,kn,kc,va,vc,ca,cn,cc,e,h1,h2,TabR.mono h3 (fun _ _ h=>NodeOn.toIn h)⟩
theorem NodeOn.agree {F:Nat→Prop}:∀{n:Nat} {w w':World} {cs:List Value} {t:Tr},NodeOn F n w cs t→AgreeF F w w'→NodeOn F n w' cs t
 | 0,_,_,_,_,h,_=>h.elim
 | _+1,_,_,_,.leaf p l,h,ha=>by
  obtain⟨ka,kn,kc,va,vn,vc,ca,cc,e,h1,f1,h2,f2,h3⟩:=h;exact⟨ka,kn,kc,va,vn,vc,ca,cc,e,TabR.agree h1 f1 ha (fun _ _ _ h=>h),f1,TabR.agree h2 f2 ha (fun _ _ _ h=>h.agree ha),f2,unit_any h3⟩
 | n+1,_,_,_,.node p l,h,ha=>by
  obtain⟨ka,kn,kc,va,vc,ca,cn,cc,e,h1,f1,h2,h3,f3⟩:=h;exact⟨ka,kn,kc,va,vc,ca,cn,cc,e,TabR.agree h1 f1 ha (fun _ _ _ h=>h),f1,unit_any h2,TabR.agree h3 f3 ha (fun _ _ _ h=>NodeOn.agree h ha),f3⟩
theorem NodeOn.below {F:Nat→Prop} {n:Nat} {w w':World} {cs:List Value} {t:Tr} (h:NodeOn F n w cs t) (hb:Below w.heap.size w w'):NodeOn F n w' cs t:=h.agree (.of_below hb)
theorem NodeOn.mono {F G:Nat→Prop} (hFG:∀b,F b→G b):∀{n:Nat} {w:World} {cs:List Value} {t:Tr},NodeOn F n w cs t→NodeOn G n w cs t
 | 0,_,_,_,h=>h.elim
 | _+1,_,_,.leaf p l,h=>by
  obtain⟨ka,kn,kc,va,vn,vc,ca,cc,e,h1,f1,h2,f2,h3⟩:=h;exact⟨ka,kn,kc,va,vn,vc,ca,cc,e,h1,f1.mono hFG,TabR.mono h2 (fun _ _ h=>h.mono hFG),f2.mono hFG,h3⟩
 | n+1,_,_,.node p l,h=>by
  obtain⟨ka,kn,kc,va,vc,ca,cn,cc,e,h1,f1,h2,h3,f3⟩:=h;exact⟨ka,kn,kc,va,vc,ca,cn,cc,e,h1,f1.mono hFG,h2,TabR.mono h3 (fun _ _ h=>NodeOn.mono hFG h),f3.mono hFG⟩
theorem NodeOn.lt {F:Nat→Prop}:∀{n:Nat} {w:World} {cs:List Value} {t:Tr},NodeOn F n w cs t→NodeOn (fun b=>F b∧b<w.heap.size) n w cs t
 | 0,_,_,_,h=>h.elim
 | _+1,_,_,.leaf p l,h=>by
  obtain⟨ka,kn,kc,va,vn,vc,ca,cc,e,h1,f1,h2,f2,h3⟩:=h;exact⟨ka,kn,kc,va,vn,vc,ca,cc,e,h1,f1.and (TabR.block h1),TabR.mono h2 (fun _ _ h=>by obtain⟨a,n,c,e,h,f⟩:=h;exact⟨a,n,c,e,h,f.and h.block⟩),f2.and (TabR.block h2),h3⟩
 | n+1,_,_,.node p l,h=>by
  obtain⟨ka,kn,kc,va,vc,ca,cn,cc,e,h1,f1,h2,h3,f3⟩:=h;exact⟨ka,kn,kc,va,vc,ca,cn,cc,e,h1,f1.and (TabR.block h1),h2,TabR.mono h3 (fun _ _ h=>NodeOn.lt h),f3.and (TabR.block h3)⟩
def NodeRF (F:Nat→Prop) (n:Nat) (w:World) (K:List (Cl 1)) (V:List (Cl 2)) (C:List (Cl 5)):Tr→Prop
 | .leaf _ l=>Tells IsKey K (keysOf l)∧Tells (TvOn F w) V (l.map (·.2))∧C=[]
 | .node _ l=>Tells IsKey K (keysOf l)∧V=[]∧Tells (NodeOn F n w) C (l.map (·.2))
theorem NodeOn.one {F:Nat→Prop} {n:Nat} {w:World} {cs:List Value} {t:Tr} (h:NodeOn F n w cs t):∀u∈cs,u.oneCell'=true:=h.toIn.one
theorem NodeOn.open {F:Nat→Prop} {n:Nat} {w:World} {cs:List Value} {t:Tr} (h:NodeOn F (n+1) w cs t) :
 ∃ka kc va vn vc ca cn cc V C,cs=[.int .i64 t.page,.bool t.isLeaf,.slice ka (cntT t) kc,.slice va vn vc,.slice ca cn cc]∧Raw 1 w ka (cntT t) kc (t.keys.map kCell)∧Raw 2 w va vn vc V∧Raw 5 w ca cn cc C∧NodeRF F n w (t.keys.map kCell) V C t∧Fa F ka (cntT t)∧Fa F va vn∧Fa F ca cn:=by
 cases t with
 | leaf p l=>
  obtain⟨ka,kn,kc,va,vn,vc,ca,cc,e,h1,f1,h2,f2,h3⟩:=h;obtain⟨K,k1,k2⟩:=TabR.raw h1 (fun _ _ h=>h.one);obtain⟨V,v1,v2⟩:=TabR.raw h2 (fun _ _ h=>h.toIn.one);obtain rfl:=k2.keys;have hn:=k1.1;simp[keysOf] at hn;subst hn;exact⟨ka,kc,va,vn,vc,ca,0,cc,V,[],e,k1,v1,unit_nil h3,⟨k2,v2,rfl⟩,f1,f2,Fa.zero _ _⟩
 | node p l=>
  obtain⟨ka,kn,kc,va,vc,ca,cn,cc,e,h1,f1,h2,h3,f3⟩:=h;obtain⟨K,k1,k2⟩:=TabR.raw h1 (fun _ _ h=>h.one);obtain⟨C,c1,c2⟩:=TabR.raw h3 (fun _ _ h=>h.one);obtain rfl:=k2.keys;have hn:=k1.1;simp[keysOf] at hn;subst hn;exact⟨ka,kc,va,0,vc,ca,cn,cc,[],C,e,k1,unit_nil h2,c1,⟨k2,rfl,c2⟩,f1,Fa.zero _ _,f3⟩
theorem NodeOn.shut {F:Nat→Prop} {n:Nat} {w:World} {t:Tr} {ka:Option Addr} {kn kc:Nat} {va:Option Addr} {vn vc:Nat} {ca:Option Addr} {cn cc:Nat} {V:List (Cl 2)} {C:List (Cl 5)} {p:Int} {lf:Bool} {K:List (Cl 1)}
 (hp:t.page=p) (hl:t.isLeaf=lf) (hk:t.keys.map kCell=K) (h1:Raw 1 w ka kn kc K) (h2:Raw 2 w va vn vc V) (h3:Raw 5 w ca cn cc C) (f1:Fa F ka kn) (f2:Fa F va vn) (f3:Fa F ca cn) (h:NodeRF F n w (t.keys.map kCell) V C t) :
 NodeOn F (n+1) w [.int .i64 p,.bool lf,.slice ka kn kc,.slice va vn vc,.slice ca cn cc] t:=by
 subst hp hl hk;cases t with
 | leaf p l=>
  obtain⟨g1,g2,rfl⟩:=h;have:=h3.1;simp at this;subst this;exact⟨ka,kn,kc,va,vn,vc,ca,cc,rfl,h1.tab g1,f1,h2.tab g2,f2,nil_unit h3⟩
 | node p l=>
  obtain⟨g1,rfl,g2⟩:=h;have:=h2.1;simp at this;subst this;exact⟨ka,kn,kc,va,vc,ca,cn,cc,rfl,h1.tab g1,f1,nil_unit h2,h3.tab g2,f3⟩
def Fr (F:Nat→Prop) (w:World) (b:Nat):Prop:=F b∨w.heap.size≤b
theorem Fr.old {F:Nat→Prop} {w:World} (b:Nat) (h:F b):Fr F w b:=.inl h
def NodeTo (F:Nat→Prop) (n:Nat) (w:World) (t:Tr) (e:Ending) (w':World):Prop:=∃cs,e=.returned (.agg cs.toArray)∧NodeOn (Fr F w) n w' cs t∧Below w.heap.size w w'
open Go.RowKit
structure Rc where
 key:List UInt8
 val:Tv
 kid:Option Tr
def cellsR:Tr→List Rc
 | .leaf _ l=>l.map fun c=>⟨c.1,c.2,none⟩
 | .node _ l=>l.map fun c=>⟨c.1,⟨[],[]⟩,some c.2⟩
theorem cellsR_len (t:Tr):(cellsR t).length=cntT t:=by cases t<;>simp[cellsR,cntT]
theorem cellsR_leaf (p:Int) (l:List (List UInt8×Tv)) (i:Nat):(cellsR (.leaf p l))[i]? = (l[i]?).map fun c=>⟨c.1,c.2,none⟩:=by simp[cellsR]
theorem cellsR_node (p:Int) (l:List (List UInt8×Tr)) (i:Nat):(cellsR (.node p l))[i]? = (l[i]?).map fun c=>⟨c.1,⟨[],[]⟩,some c.2⟩:=by simp[cellsR]
def RNodeOn (F:Nat→Prop):Nat→World→List Value→Tr→Prop
 | 0,_,_,_=>False
 | n+1,w,cs,t=>∃a c,cs=[.int .i64 t.page,.bool t.isLeaf,.slice a (cntT t) c]∧TabR 4 (fun cs (y:Rc)=>∃pa pn pc ka kn kc,cs=[.string (strOf y.key),.string (strOf y.val.data),.slice pa pn pc,.slice ka kn kc]∧Row .i64 w pa pn pc y.val.pages∧Fa F pa pn∧TabR 3 (RNodeOn F n w) w ka kn kc y.kid.toList∧Fa F ka kn) w a (cntT t) c (cellsR t)∧Fa F a (cntT t)
def RcOn (F:Nat→Prop) (n:Nat) (w:World) (cs:List Value) (y:Rc):Prop:=∃pa pn pc ka kn kc,cs=[.string (strOf y.key),.string (strOf y.val.data),.slice pa pn pc,.slice ka kn kc]∧Row .i64 w pa pn pc y.val.pages∧Fa F pa pn∧TabR 3 (RNodeOn F n w) w ka kn kc y.kid.toList∧Fa F ka kn
theorem RNodeOn.at {F:Nat→Prop} {n:Nat} {w:World} {cs:List Value} {t:Tr} (h:RNodeOn F (n+1) w cs t):∃a c,cs=[.int .i64 t.page,.bool t.isLeaf,.slice a (cntT t) c]∧TabR 4 (RcOn F n w) w a (cntT t) c (cellsR t)∧Fa F a (cntT t):=h
theorem RNodeOn.mk {F:Nat→Prop} {n:Nat} {w:World} {t:Tr} {a:Option Addr} {c:Nat} (h:TabR 4 (RcOn F n w) w a (cntT t) c (cellsR t)) (hf:Fa F a (cntT t)):RNodeOn F (n+1) w [.int .i64 t.page,.bool t.isLeaf,.slice a (cntT t) c] t:=⟨a,c,rfl,h,hf⟩
theorem RcOn.agree' {F:Nat→Prop} {n:Nat} {w w':World} (H:∀{cs:List Value} {t:Tr},RNodeOn F n w cs t→RNodeOn F n w' cs t) (ha:AgreeF F w w') {cs:List Value} {y:Rc} (h:RcOn F n w cs y):RcOn F n w' cs y:=by
 obtain⟨pa,pn,pc,ka,kn,kc,e,h1,f1,h2,f2⟩:=h;exact⟨pa,pn,pc,ka,kn,kc,e,h1.agree f1 ha,f1,TabR.agree h2 f2 ha (fun _ _ _ h=>H h),f2⟩
theorem RNodeOn.agree {F:Nat→Prop}:∀{n:Nat} {w w':World} {cs:List Value} {t:Tr},RNodeOn F n w cs t→AgreeF F w w'→RNodeOn F n w' cs t
 | 0,_,_,_,_,h,_=>h.elim
 | n+1,_,_,_,t,h,ha=>by
  obtain⟨a,c,e,h1,f1⟩:=h.at;exact⟨a,c,e,TabR.agree h1 f1 ha (fun _ _ _ h=>RcOn.agree' (fun h=>RNodeOn.agree h ha) ha h),f1⟩
theorem RcOn.agree {F:Nat→Prop} {n:Nat} {w w':World} {cs:List Value} {y:Rc} (h:RcOn F n w cs y) (ha:AgreeF F w w'):RcOn F n w' cs y:=RcOn.agree' (fun h=>h.agree ha) ha h
theorem RNodeOn.below {F:Nat→Prop} {n:Nat} {w w':World} {cs:List Value} {t:Tr} (h:RNodeOn F n w cs t) (hb:Below w.heap.size w w'):RNodeOn F n w' cs t:=h.agree (.of_below hb)
theorem RcOn.below {F:Nat→Prop} {n:Nat} {w w':World} {cs:List Value} {y:Rc} (h:RcOn F n w cs y) (hb:Below w.heap.size w w'):RcOn F n w' cs y:=h.agree (.of_below hb)
theorem RcOn.mono' {F G:Nat→Prop} (hFG:∀b,F b→G b) {n:Nat} {w:World} (H:∀{cs:List Value} {t:Tr},RNodeOn F n w cs t→RNodeOn G n w cs t) {cs:List Value} {y:Rc} (h:RcOn F n w cs y):RcOn G n w cs y:=by
 obtain⟨pa,pn,pc,ka,kn,kc,e,h1,f1,h2,f2⟩:=h;exact⟨pa,pn,pc,ka,kn,kc,e,h1,f1.mono hFG,TabR.mono h2 (fun _ _ h=>H h),f2.mono hFG⟩
theorem RNodeOn.mono {F G:Nat→Prop} (hFG:∀b,F b→G b):∀{n:Nat} {w:World} {cs:List Value} {t:Tr},RNodeOn F n w cs t→RNodeOn G n w cs t
 | 0,_,_,_,h=>h.elim
 | n+1,_,_,t,h=>by
  obtain⟨a,c,e,h1,f1⟩:=h.at;exact⟨a,c,e,TabR.mono h1 (fun _ _ h=>RcOn.mono' hFG (fun h=>RNodeOn.mono hFG h) h),f1.mono hFG⟩
theorem RcOn.mono {F G:Nat→Prop} (hFG:∀b,F b→G b) {n:Nat} {w:World} {cs:List Value} {y:Rc} (h:RcOn F n w cs y):RcOn G n w cs y:=RcOn.mono' hFG (fun h=>h.mono hFG) h
theorem RcOn.lt' {F:Nat→Prop} {n:Nat} {w:World} (H:∀{cs:List Value} {t:Tr},RNodeOn F n w cs t→RNodeOn (fun b=>F b∧b<w.heap.size) n w cs t) {cs:List Value} {y:Rc} (h:RcOn F n w cs y):RcOn (fun b=>F b∧b<w.heap.size) n w cs y:=by
 obtain⟨pa,pn,pc,ka,kn,kc,e,h1,f1,h2,f2⟩:=h;exact⟨pa,pn,pc,ka,kn,kc,e,h1,f1.and h1.block,TabR.mono h2 (fun _ _ h=>H h),f2.and h2.block⟩
theorem RNodeOn.lt {F:Nat→Prop}:∀{n:Nat} {w:World} {cs:List Value} {t:Tr},RNodeOn F n w cs t→RNodeOn (fun b=>F b∧b<w.heap.size) n w cs t
 | 0,_,_,_,h=>h.elim
 | n+1,_,_,t,h=>by
  obtain⟨a,c,e,h1,f1⟩:=h.at;exact⟨a,c,e,TabR.mono h1 (fun _ _ h=>RcOn.lt' (fun h=>RNodeOn.lt h) h),f1.and h1.block⟩
theorem RcOn.lt {F:Nat→Prop} {n:Nat} {w:World} {cs:List Value} {y:Rc} (h:RcOn F n w cs y):RcOn (fun b=>F b∧b<w.heap.size) n w cs y:=RcOn.lt' (fun h=>h.lt) h
theorem RcOn.more' {F:Nat→Prop} {n m:Nat} {w:World} (H:∀{cs:List Value} {t:Tr},RNodeOn F n w cs t→RNodeOn F m w cs t) {cs:List Value} {y:Rc} (h:RcOn F n w cs y):RcOn F m w cs y:=by
 obtain⟨pa,pn,pc,ka,kn,kc,e,h1,f1,h2,f2⟩:=h;exact⟨pa,pn,pc,ka,kn,kc,e,h1,f1,TabR.mono h2 (fun _ _ h=>H h),f2⟩
theorem RNodeOn.more {F:Nat→Prop}:∀{n m:Nat} {w:World} {cs:List Value} {t:Tr},RNodeOn F n w cs t→n≤m→RNodeOn F m w cs t
 | 0,_,_,_,_,h,_=>h.elim
 | n+1,0,_,_,_,_,h=>by omega
 | n+1,m+1,_,_,t,h,hm=>by
  obtain⟨a,c,e,h1,f1⟩:=h.at;exact⟨a,c,e,TabR.mono h1 (fun _ _ h=>RcOn.more' (fun h=>RNodeOn.more h (by omega)) h),f1⟩
theorem RcOn.one {F:Nat→Prop} {n:Nat} {w:World} {cs:List Value} {y:Rc} (h:RcOn F n w cs y):∀u∈cs,u.oneCell'=true:=by
 obtain⟨pa,pn,pc,ka,kn,kc,rfl,_⟩:=h;intro u hu;simp at hu
 rcases hu with rfl|rfl|rfl|rfl<;>rfl
theorem RcOn.len {F:Nat→Prop} {n:Nat} {w:World} {cs:List Value} {y:Rc} (h:RcOn F n w cs y):cs.length=4:=by
 obtain⟨pa,pn,pc,ka,kn,kc,rfl,_⟩:=h
 rfl
theorem RNodeOn.one {F:Nat→Prop} {n:Nat} {w:World} {cs:List Value} {t:Tr} (h:RNodeOn F n w cs t):∀u∈cs,u.oneCell'=true:=by
 cases n with
 | zero=>exact h.elim
 | succ n=>
  obtain⟨a,c,rfl,_⟩:=h.at;intro u hu;simp at hu
  rcases hu with rfl|rfl|rfl<;>rfl
def RNodeTo (F:Nat→Prop) (n:Nat) (w:World) (t:Tr) (e:Ending) (w':World):Prop:=∃cs,e=.returned (.agg cs.toArray)∧RNodeOn (Fr F w) n w' cs t∧Below w.heap.size w w'
theorem RNodeOn.cell {F:Nat→Prop} {n:Nat} {w:World} {a:Option Addr} {m c:Nat} {l:List Rc} (h:TabR 4 (RcOn F n w) w a m c l) {k:Nat} (hk:k<m) :
 ∃b off y pa pn pc ka kn kc,a=some ⟨b,off,none⟩∧b<w.heap.size∧l[k]? = some y∧RcOn F n w [.string (strOf y.key),.string (strOf y.val.data),.slice pa pn pc,.slice ka kn kc] y∧Row .i64 w pa pn pc y.val.pages∧Fa F pa pn∧TabR 3 (RNodeOn F n w) w ka kn kc y.kid.toList∧Fa F ka kn ∧
  w.cell? ⟨b,off+k*4,none⟩=some (.string (strOf y.key))∧w.cell? ⟨b,off+k*4+1,none⟩=some (.string (strOf y.val.data))∧w.cell? ⟨b,off+k*4+2,none⟩=some (.slice pa pn pc)∧w.cell? ⟨b,off+k*4+3,none⟩=some (.slice ka kn kc):=by
 obtain⟨b,off,y,cs,e1,e2,e3,_,hy,e6⟩:=TabR.at h hk;obtain⟨pa,pn,pc,ka,kn,kc,rfl,h1,f1,h2,f2⟩:=hy;exact⟨b,off,y,pa,pn,pc,ka,kn,kc,e1,e2,e3,⟨pa,pn,pc,ka,kn,kc,rfl,h1,f1,h2,f2⟩,h1,f1,h2,f2,e6 0 _ rfl,e6 1 _ rfl,e6 2 _ rfl,e6 3 _ rfl⟩
open Go.RowKit
theorem AgreeF.sub {F G:Nat→Prop} {w w':World} (h:AgreeF F w w') (hG:∀b,G b→F b):AgreeF G w w':=⟨h.1,fun b hb hlt=>h.2 b (hG b hb) hlt⟩
def Gp (F:Nat→Prop) (B:Nat) (v:Value) (b:Nat):Prop:=(F b∨B≤b)∧v.ownBlock≠some b
def CellsOwn (E:TypeId) (F:Nat→Prop) (n B:Nat) (w:World) (v:Value) (l:List Rc):Prop:=∃L:List (Cl 4),w.ownsRow B E 4 v l.length (flatC L)∧Tells (RcOn (Gp F B v) n w) L l
theorem CellsOwn.nil (E:TypeId) (F:Nat→Prop) (n B:Nat) (w:World):CellsOwn E F n B w (.slice none 0 0) []:=⟨[],own_nil w E 4 B,Tells.nil⟩
theorem CellsOwn.below {E:TypeId} {F:Nat→Prop} {n B:Nat} {w w':World} {v:Value} {l:List Rc} (h:CellsOwn E F n B w v l) (hb:Below w.heap.size w w'):CellsOwn E F n B w' v l:=by
 obtain⟨L,h1,h2⟩:=h;exact⟨L,own_held h1 hb,h2.mono (fun _ _ _ h=>h.below hb)⟩
theorem CellsOwn.set {E:TypeId} {F:Nat→Prop} {n B:Nat} {w:World} {v:Value} {l:List Rc} (h:CellsOwn E F n B w v l) {p:Addr} (u:Value) (hp:p.block<B) (hF:¬F p.block):CellsOwn E F n B (w.setCell p u) v l:=by
 obtain⟨L,h1,h2⟩:=h;refine⟨L,own_set h1 p u (fun e=>?_),h2.mono (fun _ _ _ h=>h.agree (AgreeF.set ⟨Nat.le_refl _,fun _ _ _=>rfl⟩ (.inl fun hg=>?_)))⟩
 ·have:=own_ge h1 _ e;omega
 ·rcases hg.1 with hg|hg
  ·exact hF hg
  ·omega
theorem CellsOwn.block {E:TypeId} {F:Nat→Prop} {n B:Nat} {w:World} {v:Value} {l:List Rc} (h:CellsOwn E F n B w v l) {b:Nat} (hb:v.ownBlock=some b):B≤b∧b<w.heap.size:=by
 exact qbb2c82
theorem CellsOwn.sl {E:TypeId} {F:Nat→Prop} {n B:Nat} {w:World} {v:Value} {l:List Rc} (h:CellsOwn E F n B w v l) :
 ∃a c,v=.slice a l.length c∧l.length≤c∧c≤9223372036854775807∧TabR 4 (RcOn (Gp F B v) n w) w a l.length c l∧Fa (fun b=>B≤b) a l.length:=by
 exact q6907ba
theorem CellsOwn.node {E:TypeId} {F:Nat→Prop} {n B:Nat} {w W:World} {v:Value} {t:Tr} (h:CellsOwn E F n B W v (cellsR t)) (hB:w.heap.size≤B):RNodeOn (Fr F w) (n+1) W [.int .i64 t.page,.bool t.isLeaf,v] t:=by
 obtain⟨a,c,rfl,_,_,h1,h2⟩:=h.sl;rw[cellsR_len] at h1 h2 ⊢;exact RNodeOn.mk (TabR.mono h1 (fun _ _ h=>h.mono (fun b hb=>hb.1.imp id (fun h=>Nat.le_trans hB h)))) (h2.mono (fun b hb=>.inr (Nat.le_trans hB hb)))
theorem CellsOwn.append {P:Program} {E t:TypeId} (ht:P.underlying t=some (.slice E)) (hi:RowInfo P E 4 80) {F:Nat→Prop} {n B:Nat} {w:World} {v:Value} {l:List Rc} (h:CellsOwn E F n B w v l) (hB:B≤w.heap.size) (_hF:∀b,F b→b<B) (hl:l.length≤100000) {cs:List Value} {y:Rc} (hy:RcOn (Gp F B v) n w cs y) :
 ∃v' w',(Builtin.append_ #[t,t] t #[v,.slice (some ⟨w.heap.size,0,none⟩) 1 1]).run P (w.alloc (.cells cs.toArray E))=.ok v' w'∧CellsOwn E F n B w' v' (l++[y])∧w.grownBy w' v.ownBlock:=by
 obtain⟨L,h1,h2⟩:=h;obtain⟨i,z,i1,i2,i3,i4,i5⟩:=hi;obtain⟨v',w',hr,ho,hg,hv⟩:=run_append_new (P:=P) B t E i z 4 80 ht i1 i2 i3 i4 i5 (by decide) h1 cs.toArray (by simpa using hy.len) (by simpa using hy.one) (by unfold maxLen;omega) (by omega) hB;refine⟨v',w',hr,⟨L++[⟨cs,hy.len,hy.one⟩],?_,?_⟩,hg⟩
 ·have e:flatC (L++[⟨cs,hy.len,hy.one⟩])=flatC L++cs:=by rw[flatC_append];exact congrArg (flatC L++·) (List.append_nil cs)
  rw[e,List.length_append];exact ho
 ·have hag:AgreeF (fun b=>v.ownBlock≠some b) w w':=⟨hg.size,fun b hb hlt=>hg.block b hlt (fun e=>hb e.symm)⟩
  have step:∀{cs:List Value} {y:Rc},RcOn (Gp F B v) n w cs y→RcOn (Gp F B v') n w' cs y:=fun h=>
   (h.lt.agree (hag.sub (fun b hb=>hb.1.2))).mono (fun b hb=>⟨hb.1.1,fun e=>by
    rcases hv with hv|hv
    ·rw[hv] at e;exact hb.1.2 e
    ·rw[hv] at e;have:=Option.some.inj e;have:=hb.2;omega⟩)
  exact(h2.mono (fun _ _ _ h=>step h)).append (Tells.one (step hy))
open Go.RowKit
theorem bytes_lessT:∀(x y:List UInt8),Op.bytesLess x y=decide (x<y)
 | [],[]=>by simp[Op.bytesLess]
 | _::_,[]=>by simp[Op.bytesLess]
 | [],_::_=>by simp[Op.bytesLess]
 | a::x,b::y=>by
  rw[Op.bytesLess,bytes_lessT x y];simp only[List.cons_lt_cons_iff]
  by_cases h1:a<b<;>by_cases h2:a=b<;>by_cases h3:x<y<;>simp[h1,h2,h3]
theorem cmp_lt {a b:List UInt8} (h:a<b):Op.bytesLess (strOf a).toList (strOf b).toList=true∧((strOf a).toList == (strOf b).toList)=false∧Op.bytesLess (strOf b).toList (strOf a).toList=false∧((strOf b).toList == (strOf a).toList)=false:=by
 have hne:a≠b:=fun e=>by subst e;exact klt_irrefl _ h
 rw[strOf_toList,strOf_toList,bytes_lessT,bytes_lessT];exact⟨by simpa using h,by simpa using hne,by simpa using klt_asymm h,by simpa using fun e=>hne e.symm⟩
theorem cmp_eq (a:List UInt8):Op.bytesLess (strOf a).toList (strOf a).toList=false∧((strOf a).toList == (strOf a).toList)=true:=by
 rw[strOf_toList,bytes_lessT];exact⟨by simp,by simp⟩
theorem str_empty {k:List UInt8} (h:k=[]):(strOf k).toList=[]∧(strOf k).toList.isEmpty=true:=by rw[strOf_toList,h];exact⟨rfl,rfl⟩
theorem str_some {k:List UInt8} (h:k≠[]):¬(strOf k).toList=[]∧(strOf k).toList.isEmpty=false:=by
 rw[strOf_toList];exact⟨h,by cases k with
  | nil=>exact absurd rfl h
  | cons a r=>rfl⟩
theorem cmp_lt2 {a b:List UInt8} (h:a<b):¬(strOf a).toList=(strOf b).toList∧¬(strOf b).toList=(strOf a).toList:=by
 rw[strOf_toList,strOf_toList];exact⟨fun e=>by subst e;exact klt_irrefl _ h,fun e=>by subst e;exact klt_irrefl _ h⟩
open Go.RowKit
theorem NodeIn.openK {n:Nat} {w:World} {cs:List Value} {t:Tr} (h:NodeIn (n+1) w cs t) :
 ∃ka kc va vn vc ca cn cc V C,cs=[.int .i64 t.page,.bool t.isLeaf,.slice ka (cntT t) kc,.slice va vn vc,.slice ca cn cc]∧Raw 1 w ka (cntT t) kc (t.keys.map kCell)∧Raw 2 w va vn vc V∧Raw 5 w ca cn cc C∧NodeR n w (t.keys.map kCell) V C t:=by
 obtain⟨ka,kn,kc,va,vn,vc,ca,cn,cc,K,V,C,e,h1,h2,h3,h4⟩:=h.open;obtain rfl:=h4.keys.keys;have:=h1.1;rw[List.length_map,keys_len] at this;subst this;exact⟨ka,kc,va,vn,vc,ca,cn,cc,V,C,e,h1,h2,h3,h4⟩
open Go.RowKit
open Go.RowKit
open Go.RowKit
theorem Boxes.swap {w:World} {x y:Nat×List Value} {l:List (Nat×List Value)} (h:Boxes w (x::y::l)):Boxes w (y::x::l):=
 h.sub fun p hp=>by simp only[List.mem_cons] at hp ⊢;rcases hp with e|e|e<;>simp[e]
def set5 (w:World) (b:Nat) (y0 y1 y2 y3 y4:Value):World:=((((w.setCell ⟨b,0,none⟩ y0).setCell ⟨b,1,none⟩ y1).setCell ⟨b,2,none⟩ y2).setCell ⟨b,3,none⟩ y3).setCell ⟨b,4,none⟩ y4
theorem set5_box {w:World} {b:Nat} {x0 x1 x2 x3 x4:Value} {l:List (Nat×List Value)} (h:Boxes w ((b,[x0,x1,x2,x3,x4])::l)) (hl:∀p∈l,p.1≠b) (y0 y1 y2 y3 y4:Value):Boxes (set5 w b y0 y1 y2 y3 y4) ((b,[y0,y1,y2,y3,y4])::l):=
 ((((h.put 0 y0 hl).put 1 y1 hl).put 2 y2 hl).put 3 y3 hl).put 4 y4 hl
theorem set5_below {B:Nat} {a w:World} (h:Below B a w) {b:Nat} (hb:B≤b) (y0 y1 y2 y3 y4:Value):Below B a (set5 w b y0 y1 y2 y3 y4):=
 ((((h.setCell hb _).setCell hb _).setCell hb _).setCell hb _).setCell hb _
theorem Raw.nil0 (sz:Nat) (w:World):Raw sz w none 0 0 []:=⟨rfl,Nat.le_refl _,by unfold maxLen;omega,fun _=>rfl,.inl rfl⟩
open Go.RowKit
open Go.RowKit
theorem neighbour_any (m k:Int) (w:World) (_hm:0≤m∧m≤1000) (hk:0≤k∧k≤1000) :
 Calls Tryz.prog 191 #[.int .i64 m,.int .i64 k] w fun e w'=>e=.returned (.int .i64 (neighF m k))∧w=w':=by
 by_cases h:k+1<m
 ·go_enter Tryz.func191,Tryz.ntmps191
  exact q2848ab
 ·go_enter Tryz.func191,Tryz.ntmps191
  exact q2848ab
theorem refNeighbour_any (m k:Int) (w:World) (_hm:0≤m∧m≤1000) (hk:0≤k∧k≤1000) :
 Calls Tryz.prog 166 #[.int .i64 m,.int .i64 k] w fun e w'=>e=.returned (.int .i64 (neighF m k))∧w=w':=by
 by_cases h:k+1<m
 ·go_enter Tryz.func166,Tryz.ntmps166
  exact q2848ab
 ·go_enter Tryz.func166,Tryz.ntmps166
  exact q2848ab
theorem sum_any (a:Option Addr) (len cap:Nat) (l:List Int) (w:World) (hr:Row .i64 w a len cap l) (hs:Small l) :
 Calls Tryz.prog 143 #[.slice a len cap] w fun e w'=>e=.returned (.int .i64 (sumI l))∧w=w':=by
 obtain⟨h1,h2,h3,hnn,h4⟩:=hr;unfold maxLen at h3;subst h1;go_enter Tryz.func143,Tryz.ntmps143
 go_wp2
 go_loop [3,8] (fun s i=>∃k:Nat,k≤l.length∧i=.int .i64 k∧s=.int .i64 (sumI (l.take k))) (fun _ i=>l.length-(intOf i).toNat)
 case atStart=>exact⟨0,Nat.zero_le _,rfl,rfl⟩
 case round=>
  exact q3e4dd9
theorem refSum_any (a:Option Addr) (len cap:Nat) (l:List Int) (w:World) (hr:Row .i64 w a len cap l) (hs:Small l) :
 Calls Tryz.prog 150 #[.slice a len cap] w fun e w'=>e=.returned (.int .i64 (sumI l))∧w=w':=by
 obtain⟨h1,h2,h3,hnn,h4⟩:=hr;unfold maxLen at h3;subst h1;go_enter Tryz.func150,Tryz.ntmps150
 go_wp2
 go_loop [3,4] (fun s i=>∃k:Nat,k≤l.length∧i=.int .i64 k∧s=.int .i64 (sumI (l.take k))) (fun _ i=>l.length-(intOf i).toNat)
 case atStart=>exact⟨0,Nat.zero_le _,rfl,rfl⟩
 case round=>
  exact q3e4dd9
theorem low_any (a:Option Addr) (len cap:Nat) (l:List Int) (w:World) (hr:Row .i64 w a len cap l) (hs:Small l) :
 Calls Tryz.prog 145 #[.slice a len cap] w fun e w'=>e=.returned (.bool (decide (sumI l<30)))∧w=w':=by
 go_enter Tryz.func145,Tryz.ntmps145
 go_wp2_with (go_at_call 143;refine(sum_any _ _ _ _ _ hr hs).mono ?_;rintro e w' ⟨rfl,rfl⟩)
 go_ret;exact⟨rfl,rfl⟩
theorem refLow_any (a:Option Addr) (len cap:Nat) (l:List Int) (w:World) (hr:Row .i64 w a len cap l) (hs:Small l) :
 Calls Tryz.prog 151 #[.slice a len cap] w fun e w'=>e=.returned (.bool (decide (sumI l<30)))∧w=w':=by
 go_enter Tryz.func151,Tryz.ntmps151
 go_wp2_with (go_at_call 150;refine(refSum_any _ _ _ _ _ hr hs).mono ?_;rintro e w' ⟨rfl,rfl⟩)
 go_ret;exact⟨rfl,rfl⟩
open Go.RowKit
theorem size_ints (w:World):(sizeOf (Tryz.prog.elem 35)).run Tryz.prog w=.ok 1 w:=by kernel_rfl
theorem elem_ints:Tryz.prog.underlying 35=some (.slice (Tryz.prog.elem 35)):=by kernel_rfl
theorem worse_any (a:Option Addr) (len cap at':Nat) (l:List Int) (w:World) (hr:Row .i64 w a len cap l) (hs:Small l) (hat:at'≤len) :
 Calls Tryz.prog 164 #[.slice a len cap,.int .i64 at'] w fun e w'=>e=.returned (.int .i64 (worse l at'))∧w=w':=by
 have hm:=hr.2.2.1;have hc:=hr.2.1;have hd:=hr.drop at' hat;obtain⟨a2,ha2,hsl⟩:=slice_from elem_ints size_ints a len cap at' hat;rw[←ha2] at hd;clear ha2;have hg:sumI (l.drop at')<sumI (l.take at')∨¬sumI (l.drop at')<sumI (l.take at'):=by omega
 have hw:Hid (worse l at'=if sumI (l.drop at')<sumI (l.take at') then sumI (l.take at') else sumI (l.drop at')):=Hd (by unfold worse;omega);unfold maxLen at hm
 rcases hg with hg|hg <;>
 ·go_enter Tryz.func164,Tryz.ntmps164
  go_wp2_with fail;refine(refSum_any _ _ _ _ _ (hr.take at' hat) (hs.take at')).mono ?_;rintro e w' ⟨rfl,rfl⟩;go_wp2_with fail;refine(refSum_any _ _ _ _ _ hd (hs.drop at')).mono ?_;rintro e w' ⟨rfl,rfl⟩
  go_wp2
  go_ret;exact⟨ret_int (by rw[hw.out];split<;>first|rfl|omega),rfl⟩
end Go.Proofs.YtpghlmcoajaiiaaGreatDoor
namespace Go.Proofs.YtpghlmcoajaiiaaGreatDoor
open Go.RowKit Go.Shelf
attribute [local go_sem] Oper.semAt_some
def place (l:List Int) (k:Nat):Int×Int:=((k:Int)+1,worse l (k+1))
end Go.Proofs.YtpghlmcoajaiiaaGreatDoor
namespace Go.Proofs.YtpghlmcoajaiiaaGreatDoor
open Go.RowKit Go.Shelf
attribute [local go_sem] Oper.semAt_some
end Go.Proofs.YtpghlmcoajaiiaaGreatDoor
namespace Go.Proofs.YtpghlmcoajaiiaaGreatDoor
open Go.RowKit
def splitR (p:Int) (l:List (List UInt8×Tr)) (k:Nat):Tr:=match splitT l k with
 | some m=>.node 0 m
 | none=>.node p l
theorem sizes_len (t:Tr):(sizesT t).length=cntT t:=by cases t<;>simp[sizesT,cntT]
theorem Bnd.cnt {n:Nat} {t:Tr} (h:Bnd (n+1) t):cntT t≤1000:=by cases t with
 | leaf p l=>exact h.1
 | node p l=>exact h.1
theorem mend_split {p:Int} {l:List (List UInt8×Tr)} {k:Nat} (h:(splitT l k).isSome=true):mendT p l k=splitR p l k:=by
 unfold mendT splitR;cases hs:splitT l k with
 | none=>rw[hs] at h;simp at h
 | some m=>rfl
theorem mend_same {p:Int} {l:List (List UInt8×Tr)} {k:Nat} (h:(splitT l k).isSome=false) (h2:lowT (kidAt l k)=false∨l.length<2):mendT p l k=.node p l:=by
 unfold mendT;cases hs:splitT l k with
 | none=>simp only;rw[if_pos h2]
 | some m=>rw[hs] at h;simp at h
theorem mend_join {p:Int} {l:List (List UInt8×Tr)} {k:Nat} (h:(splitT l k).isSome=false) (h2:lowT (kidAt l k)=true) (h3:2≤l.length):mendT p l k=splitR 0 (joined l (joinAt l.length k)) (joinAt l.length k):=by
 unfold mendT splitR;cases hs:splitT l k with
 | none=>simp only;rw[if_neg (by rw[h2];simp;omega)];rfl
 | some m=>rw[hs] at h;simp at h
theorem list_two {α:Type} {l:List α} {j:Nat} (h:j+1<l.length):∃a c d r,l=a++c::d::r∧a.length=j:=by
 obtain⟨a,c,b,e,ha⟩:=list_at (l:=l) (k:=j) (by omega);cases b with
 | nil=>rw[e] at h;simp at h;omega
 | cons d r=>exact⟨a,c,d,r,e,ha⟩
theorem two_at {α:Type} (a r:List (List UInt8×α)) (c d:List UInt8×α):keyAt (a++c::d::r) (a.length+1)=d.1:=by simp[keyAt]
theorem two_kid (a r:List (List UInt8×Tr)) (c d:List UInt8×Tr):kidAt (a++c::d::r) (a.length+1)=d.2:=by simp[kidAt]
structure MendOk (n:Nat) (l:List (List UInt8×Tr)):Prop where
 len:l.length≤1000
 bnd:∀c∈l,Bnd (n+1) c.2
 kind:∀c∈l,∀d∈l,c.2.isLeaf=d.2.isLeaf
 some_:∀c∈l,c.2.isLeaf=false→0<cntT c.2
 both:∀j,j+1<l.length→Bnd (n+1) (joinT (keyAt l (j+1)) (kidAt l j) (kidAt l (j+1)))
theorem kid_mem {l:List (List UInt8×Tr)} {k:Nat} (h:k<l.length):∃c∈l,c.2=kidAt l k:=⟨l[k],List.getElem_mem h,by simp[kidAt,h]⟩
def zero5:Array Value := #[.int .i64 0,.bool false,.slice none 0 0,.slice none 0 0,.slice none 0 0]
section
variable {F:Nat→Prop} {n:Nat} {w wc W3 w3:World} {T:Tr} {p:Int} {lf:Bool} {x1:Option Addr} {x2 x3:Nat} {x4:Option Addr} {x5 x6:Nat} {x7:Option Addr} {x8 x9:Nat} {a1 a2:Option Addr} {m1 m2 c1 c2:Nat} {e1 e2:TypeId} {xs1 xs2:List Value}
end
open Go.RowKit
open Go.RowKit
theorem NodeOn.open_pos {F:Nat→Prop} {n:Nat} {w:World} {cs:List Value} {t:Tr} (h:NodeOn F n w cs t) :
 ∃ka kc va vn vc ca cn cc V C,cs=[.int .i64 t.page,.bool t.isLeaf,.slice ka (cntT t) kc,.slice va vn vc,.slice ca cn cc]∧Raw 1 w ka (cntT t) kc (t.keys.map kCell)∧Raw 2 w va vn vc V∧Raw 5 w ca cn cc C:=by
 cases n with
 | zero=>exact h.elim
 | succ n=>
  obtain⟨ka,kc,va,vn,vc,ca,cn,cc,V,C,e,h1,h2,h3,_⟩:=h.open;exact⟨ka,kc,va,vn,vc,ca,cn,cc,V,C,e,h1,h2,h3⟩
def TopOk:Nat→Tr→Prop
 | 0,_=>False
 | n+1,t=>Bnd (n+1) t∧(t.isLeaf=false→0<cntT t)∧∀p l,t=.node p l→l.length=1→TopOk n (kidAt l 0)
theorem topT_kid {n:Nat} {p:Int} {l:List (List UInt8×Tr)} (h:l.length=1):topT (n+1) (.node p l)=topT n (kidAt l 0):=by
 show(if l.length=1 then _ else _)=_;rw[if_pos h]
theorem topT_same {n:Nat} {t:Tr} (h:∀p l,t=.node p l→l.length≠1) (ha:atF (sizesT t)=0):topT (n+1) t=t:=by
 cases t with
 | leaf p l=>show(if _ then _ else _)=_;rw[if_pos ha]
 | node p l=>
  show(if l.length=1 then _ else if _ then _ else _)=_;rw[if_neg (h p l rfl),if_pos ha]
theorem topT_mend {n:Nat} {t:Tr} (h:∀p l,t=.node p l→l.length≠1) (ha:atF (sizesT t)≠0):topT (n+1) t=mendT 0 [([],t)] 0:=by
 cases t with
 | leaf p l=>show(if _ then _ else _)=_;rw[if_neg ha]
 | node p l=>
  show(if l.length=1 then _ else if _ then _ else _)=_;rw[if_neg (h p l rfl),if_neg ha]
open Go.RowKit
theorem AgreeF.refl {F:Nat→Prop} (w:World):AgreeF F w w:=⟨Nat.le_refl _,fun _ _ _=>rfl⟩
theorem AgreeF.below {F:Nat→Prop} {a w w':World} (h:AgreeF F a w) (hb:Below w.heap.size w w'):AgreeF F a w':=h.trans (.of_below hb)
theorem AgreeF.al {F:Nat→Prop} {a w:World} {o:Obj} (h:AgreeF F a w):AgreeF F a (w.alloc o):=h.below (Below.al (Below.refl _ _))
theorem AgreeF.dr {F:Nat→Prop} {a w:World} (h:AgreeF F a w):AgreeF F a w.drew:=h
theorem AgreeF.st {r:Nat} {a w:World} {i:Nat} {u:Value} (h:AgreeF (fun b=>b≠r) a w):AgreeF (fun b=>b≠r) a (w.setCell ⟨r,i,none⟩ u):=h.set (.inl fun h=>h rfl)
def PutOk:Nat→Tr→List UInt8→Tv→Prop
 | 0,_,_,_=>False
 | _+1,.leaf _ l,_,_=>l.length≤900∧(keysOf l).Pairwise (fun a b=>a<b)
 | n+1,.node _ l,key,v=>0<l.length∧l.length≤1000∧PutOk n (kidAt l (wayF (keysOf l) key)) key v∧∃m,n=m+1∧MendOk m (l.set (wayF (keysOf l) key) (keyAt l (wayF (keysOf l) key),putT n (kidAt l (wayF (keysOf l) key)) key v))
theorem wayF_lt {ks:List (List UInt8)} (key:List UInt8) (h:0<ks.length):wayF ks key<ks.length:=(wayF_spec (key:=key) (List.length_pos_iff.1 h)).1
open Go.RowKit
def fillT (f:UInt8) (n:Nat):List UInt8:=List.replicate n f
structure Pt where
 key:List UInt8
 fill:UInt8
 size:Int
structure St where
 key:List UInt8
 size:Int
theorem all_bad {α:Type} {p:α→Bool} {l:List α} {i:Nat} {y:α} (hy:l[i]? = some y) (hp:p y=false):l.all p=false:=by
 rw[List.all_eq_false];exact⟨y,List.mem_of_getElem? hy,by rw[hp];decide⟩
theorem all_next {α:Type} {p:α→Bool} {l:List α} {i:Nat} {y:α} (hy:l[i]? = some y) (hp:p y=true) (h:(l.take i).all p=true):(l.take (i+1)).all p=true:=by
 rw[List.take_add_one,hy,List.all_append,h];simp[hp]
theorem all_whole {α:Type} {p:α→Bool} {l:List α} {n:Nat} (hn:l.length≤n) (h:(l.take n).all p=true):l.all p=true:=by
 rwa [List.take_of_length_le hn] at h
theorem kids_each {P:List UInt8→List UInt8→Tr→Prop}:∀{l:List (List UInt8×Tr)} {lo hi:List UInt8},KidsP P lo hi l→∀c∈l,∃lo' hi',P lo' hi' c.2
 | [c],lo,hi,h,d,hd=>by
  rcases List.mem_cons.1 hd with rfl|hd
  ·exact⟨_,_,h⟩
  ·cases hd
 | c::e::r,lo,hi,h,d,hd=>by
  rcases List.mem_cons.1 hd with rfl|hd
  ·exact⟨_,_,h.1⟩
  ·exact kids_each h.2.2.2.2 d hd
theorem flatMap_same {α β:Type} {f g:α→List β}:∀{l:List α},(∀x∈l,f x=g x)→l.flatMap f=l.flatMap g
 | [],_=>rfl
 | x::r,h=>by
  rw[List.flatMap_cons,List.flatMap_cons,h x (by simp),flatMap_same (fun y hy=>h y (by simp[hy]))]
theorem ents_more:∀{n m:Nat} {lo hi:List UInt8} {t:Tr},Shape n lo hi t→n≤m→entsT m t=entsT n t
 | 0,_,_,_,_,h,_=>h.elim
 | _+1,0,_,_,_,_,h=>by omega
 | _+1,_+1,_,_,.leaf p l,_,_=>rfl
 | n+1,m+1,lo,hi,.node p l,h,hm=>by
  rw[ents_node,ents_node];refine flatMap_same (fun c hc=>?_);obtain⟨lo',hi',hg⟩:=kids_each (shape_kids h).1 c hc;exact ents_more hg.1 (by omega)
theorem ents_top:∀{N n:Nat} {t:Tr},Shape n [] [] t→n≤N→entsT (N+1) (topT N t)=entsT n t
 | 0,n,_,h,hn=>by
  obtain rfl:n=0:=by omega
  exact h.elim
 | N+1,0,_,h,hn=>h.elim
 | N+1,n+1,.leaf p l,h,hn=>by
  unfold topT
  split
  ·rfl
  ·rw[show([([],Tr.leaf p l)]:List (List UInt8×Tr))=[]++([],Tr.leaf p l)::[] from rfl]
   have:=ents_mend (n:=N) (p:=0) (a:=[]) (b:=[]) (k:=[]) (t:=.leaf p l) (by intro c hc;simp at hc;rw[hc]);rw[List.length_nil] at this;rw[this];simp[entsK,entsT]
 | N+1,n+1,.node p l,h,hn=>by
  unfold topT
  split
  ·rename_i h1
   obtain⟨c,rfl⟩:=List.length_eq_one_iff.1 h1;have hg:Good n [] [] c.2:=(shape_kids h).1;have e:entsT (n+1) (.node p [c])=entsT n c.2:=by rw[ents_node];simp[entsK]
   have e2:kidAt [c] 0=c.2:=rfl;rw[e,e2];have h3:=ents_top hg.1 (show n≤N by omega);obtain⟨m,hm1,hm2⟩:=top_ok hg.1 (by have:=hg.2.2;omega) (show n≤N by omega);rw[←h3];rw[ents_more hm2.1 (show m≤N+1+1 by omega),ents_more hm2.1 (show m≤N+1 by omega)]
  ·split
   ·exact ents_more h (by omega)
   ·rw[show([([],Tr.node p l)]:List (List UInt8×Tr))=[]++([],Tr.node p l)::[] from rfl]
    have:=ents_mend (n:=N) (p:=0) (a:=[]) (b:=[]) (k:=[]) (t:=.node p l) (by intro c hc;simp at hc;rw[hc]);rw[List.length_nil] at this;rw[this];rw[show entsK (N+1) ([]++([],Tr.node p l)::[])=entsT (N+1) (.node p l) by simp[entsK]];exact ents_more h (by omega)
theorem top_some:∀{N n:Nat} {t:Tr},Shape n [] [] t→sumT t≤200→(∀p l,t=.leaf p l→p=0∨l≠[])→n≤N→emptyB (topT N t)=true∨0<cntT (topT N t)
 | 0,n,_,h,_,_,hn=>by
  obtain rfl:n=0:=by omega
  exact h.elim
 | N+1,0,_,h,_,_,hn=>h.elim
 | N+1,n+1,.leaf p l,h,hs,h0,hn=>by
  unfold topT
  split
  ·cases l with
   | nil=>
    rcases h0 p [] rfl with rfl|h0
    ·exact .inl rfl
    ·exact absurd rfl h0
   | cons c r=>exact .inr (by simp[cntT])
  ·rename_i hat
   rw[part_two hat];exact .inr (by simp[cntT])
 | N+1,n+1,.node p l,h,hs,h0,hn=>by
  unfold topT
  split
  ·rename_i h1
   obtain⟨c,rfl⟩:=List.length_eq_one_iff.1 h1;have hg:Good n [] [] c.2:=(shape_kids h).1;have e2:kidAt [c] 0=c.2:=rfl;rw[e2];refine top_some hg.1 (by have:=hg.2.2;omega) (fun p l e=>.inr (fun el=>?_)) (show n≤N by omega);have:=hg.2.1;rw[e,el,sum_leaf] at this;simp[sumI_nil] at this
  ·split
   ·have:=List.length_pos_iff.2 (kids_ne (shape_kids h).1)
    exact .inr (by simpa[cntT] using this)
   ·rename_i hat
    rw[part_two hat];exact .inr (by simp[cntT])
def Whole (n:Nat) (t:Tr):Prop:=Root n t∧(emptyB t=true∨0<cntT t)
theorem whole_empty:Whole 1 (.leaf 0 []):=⟨root_empty,.inl rfl⟩
def putW (n:Nat) (t:Tr) (key:List UInt8) (v:Tv):Tr:=topT n (putT n t key v)
theorem whole_put {n:Nat} {t:Tr} {key:List UInt8} {v:Tv} (h:Whole n t) (hk:keyOk key) (hv:valOk v):∃m,m≤n+1∧Whole m (putW n t key v)∧entsT m (putW n t key v)=putL key v (entsT n t):=by
 obtain⟨h1,h2,h3⟩:=put_ok h.1.1 h.1.2.1 h.1.2.2 hk (knil key) (ltH_nil _) hv;obtain⟨m,e1,e2⟩:=top_ok (N:=n) h1 (by omega) (Nat.le_refl _);refine⟨m,e1,⟨e2,top_some h1 (by omega) (fun p l e=>.inr (fun el=>?_)) (Nat.le_refl _)⟩,?_⟩
 ·have:=h3 p l e
  rw[el] at this;simp at this
 ·have g1:=ents_top (N:=n) h1 (Nat.le_refl _)
  have g2:=ents_put h.1.1 hk (knil key) (ltH_nil _) hv h.1.2.1 h.1.2.2;show entsT m (topT n (putT n t key v))=_;rw[←g2,←g1,ents_more e2.1 e1]
theorem whole_check {n:Nat} {t:Tr} (h:Whole n t):checkT n t=true:=check_ok h.1 (Nat.le_refl _) h.2

open Go.RowKit
theorem Boxes.agree {F:Nat→Prop} {w w':World} {l:List (Nat×List Value)} (h:Boxes w l) (ha:AgreeF F w w') (hl:∀p∈l,F p.1):Boxes w' l:=fun p hp=>by
 obtain⟨t,ht⟩:=h p hp;exact⟨t,(ha.2 p.1 (hl p hp) (Array.getElem?_eq_some_iff.1 ht).1).trans ht⟩
theorem own_agree {w w':World} {base:Nat} {e:TypeId} {size:Nat} {v:Value} {n:Nat} {xs:List Value} {F:Nat→Prop} (h:w.ownsRow base e size v n xs) (ha:AgreeF F w w') (hF:∀g,v.ownBlock=some g→F g):w'.ownsRow base e size v n xs:=by
 refine⟨h.1,h.2.imp id fun⟨g,cap,cur,e1,hg,hh,r⟩=>⟨g,cap,cur,e1,hg,?_,r⟩⟩;subst e1;rw[ha.2 g (hF g rfl) (Array.getElem?_eq_some_iff.1 hh).1];exact hh
theorem _root_.List.take_succ_eq_append_of {α:Type} {l:List α} {i:Nat} {y:α} (h:l[i]? = some y):l.take (i+1)=l.take i++[y]:=by
 rw[List.take_add_one,h];rfl
theorem fr_le {F:Nat→Prop} {W w5:World} {B b:Nat} (hF:∀b,F b→B≤b) (hB:B≤w5.heap.size) (hW:w5.heap.size≤W.heap.size) (h:Fr F W b):B≤b:=by
 rcases h with h|h
 ·exact hF b h
 ·omega
theorem fillT_len (f:UInt8) (n:Nat):(fillT f n).length=n:=by simp[fillT]
end Go.Proofs.YtpghlmcoajaiiaaGreatDoor
